import Derived.Test.YthoealembhkaoaaGreatDoorFm13
import Derived.Shelf.SlSortCmp.SmallK
namespace Go.Proofs.YthoealembhkaoaaGreatDoor
open Go.RowKit Go.Shelf Go.Lib Go.Sort
namespace Sy
set_option linter.unusedVariables false

/-- The library's insertion sort lies at function 201. -/
def sortRen : Go.Shelf.Ren := ⟨fun | 20 => 201 | n => n, fun | 22 => 82 | 24 => 85 | 25 => 120 | n => n, fun | n => n⟩
theorem sortLays : SlLaysF0.n20 Tryz.prog sortRen := {
  mixed := by kernel_rfl
  f20 := ⟨"slices.insertionSortCmpFunc[chancery/api.Ava]", by decide, Tryz.func201.trans (congrArg some (by kernel_rfl))⟩
  t0 := Tryz.underlying0
  a0 := Tryz.isAgg0
  z0 := Tryz.sizeOf0
  v0 := Tryz.zeroValue0
  t3 := Tryz.underlying3
  a3 := Tryz.isAgg3
  z3 := Tryz.sizeOf3
  v3 := Tryz.zeroValue3
  t4 := Tryz.underlying4
  a4 := Tryz.isAgg4
  z4 := Tryz.sizeOf4
  v4 := Tryz.zeroValue4
  t22 := Tryz.underlying82
  a22 := Tryz.isAgg82
  z22 := Tryz.sizeOf82
  v22 := Tryz.zeroValue82
  t25 := Tryz.underlying120
  a25 := Tryz.isAgg120
  z25 := Tryz.sizeOf120
  v25 := Tryz.zeroValue120 }

def orR (x y : Int) : Int := if x = 0 then y else x
set_option maxHeartbeats 1000000 in
theorem or_calls (W : World) (g c : Nat) (x y : Int) (h0 : W.cell? ⟨g, 0, none⟩ = some (.int .i64 x)) (h1 : W.cell? ⟨g, 1, none⟩ = some (.int .i64 y)) :
    Calls Tryz.prog 58 #[.slice (some ⟨g, 0, none⟩) 2 c] W fun e w' => e = .returned (.int .i64 (orR x y)) ∧ w' = W := by
  unfold orR
  go_enter Tryz.func58, Tryz.ntmps58
  go_wp2_with fail
  go_loopg [8] 2 (fun k iv wr => (∃ i : Nat, i ≤ 2 ∧ 2 - i ≤ k ∧ iv = .int .i64 i ∧ (0 < i → x = 0) ∧ (1 < i → y = 0)) ∧ wr = W)
  case atStart => exact ⟨⟨0, by omega, by omega, rfl, fun h => by omega, fun h => by omega⟩, rfl⟩
  case round =>
    obtain ⟨⟨i, hi, hk, rfl, hx, hy⟩, rfl⟩ := hrel
    rcases (by omega : i = 0 ∨ i = 1 ∨ i = 2) with rfl | rfl | rfl
    · by_cases hx0 : x = 0
      · subst hx0
        go_wp2_with fail
        go_roundg 1
        case measure => omega
        case rel => exact ⟨⟨1, by omega, by omega, rfl, fun _ => (by first | trivial | rfl), fun h => absurd h (by decide)⟩, rfl⟩
      · have q : (x == 0) = false := by simpa using hx0
        go_wp2_with fail
        go_ret
        exact ⟨rfl, rfl⟩
    · have hx1 := hx (by omega)
      clear hx hy
      subst hx1
      by_cases hy0 : y = 0
      · subst hy0
        go_wp2_with fail
        go_roundg 0
        case measure => omega
        case rel => exact ⟨⟨2, by omega, by omega, rfl, fun _ => (by first | trivial | rfl), fun _ => (by first | trivial | rfl)⟩, rfl⟩
      · have q : (y == 0) = false := by simpa using hy0
        go_wp2_with fail
        go_ret
        exact ⟨ret_int (by simp), rfl⟩
    · have hx1 := hx (by omega)
      have hy1 := hy (by omega)
      clear hx hy
      subst hx1 hy1
      go_wp2_with fail
      go_ret
      exact ⟨ret_int (by simp), rfl⟩
/-- The order of two pairs. -/
def cmpPair (a b : Pair) : Int := orR (Lib.compareBytes a.1 b.1) (Lib.compareBytes a.2 b.2)
set_option maxRecDepth 100000 in
set_option maxHeartbeats 1000000 in
theorem cmpPair_calls (a b : Pair) (w : World) :
    Calls Tryz.prog 179 #[avaV a, avaV b] w fun e w' => e = .returned (.int .i64 (cmpPair a b)) ∧ ∃ q os', w' = grow (w.drewN q) os' := by
  obtain ⟨a1, a2⟩ := a
  obtain ⟨b1, b2⟩ := b
  unfold cmpPair avaV strV
  simp only
  have hc1 := fun W => compare_calls ⟨a1.toArray⟩ ⟨b1.toArray⟩ W
  have hc2 := fun W => compare_calls ⟨a2.toArray⟩ ⟨b2.toArray⟩ W
  simp only at hc1 hc2
  generalize Lib.compareBytes a1 b1 = x at *
  generalize Lib.compareBytes a2 b2 = y at *
  generalize (⟨a1.toArray⟩ : ByteArray) = A1 at *
  generalize (⟨a2.toArray⟩ : ByteArray) = A2 at *
  generalize (⟨b1.toArray⟩ : ByteArray) = B1 at *
  generalize (⟨b2.toArray⟩ : ByteArray) = B2 at *
  go_enter Tryz.func179, Tryz.ntmps179
  go_wp2_with fail
  have d0 : ((w.alloc (.cells #[.string A1, .string A2] 85)).alloc (.cells #[.string B1, .string B2] 85)).cell? ⟨w.heap.size, 0, none⟩ = some (.string A1) := by simp [go_sem]
  have d1 : ((w.alloc (.cells #[.string A1, .string A2] 85)).alloc (.cells #[.string B1, .string B2] 85)).cell? ⟨w.heap.size, 1, none⟩ = some (.string A2) := by simp [go_sem]
  have d2 : ((w.alloc (.cells #[.string A1, .string A2] 85)).alloc (.cells #[.string B1, .string B2] 85)).cell? ⟨w.heap.size + 1, 0, none⟩ = some (.string B1) := by simp [go_sem]
  have d3 : ((w.alloc (.cells #[.string A1, .string A2] 85)).alloc (.cells #[.string B1, .string B2] 85)).cell? ⟨w.heap.size + 1, 1, none⟩ = some (.string B2) := by simp [go_sem]
  have hb : ∀ o, (((w.alloc (.cells #[.string A1, .string A2] 85)).alloc (.cells #[.string B1, .string B2] 85)).alloc o).drew = grow (w.drewN 1) #[.cells #[.string A1, .string A2] 85, .cells #[.string B1, .string B2] 85, o] := fun o => by
    simp only [grow, World.alloc, World.drew, World.drewN]
    congr 1
  generalize (w.alloc (.cells #[.string A1, .string A2] 85)).alloc (.cells #[.string B1, .string B2] 85) = W at *
  have HB := Lib.hid hb
  clear hb
  have hor := fun g c (V : World) h0 h1 => or_calls V g c x y h0 h1
  have hd : W.drew.cell? ⟨w.heap.size, 0, none⟩ = some (.string A1) ∧ W.drew.cell? ⟨w.heap.size, 1, none⟩ = some (.string A2) ∧ W.drew.cell? ⟨w.heap.size + 1, 0, none⟩ = some (.string B1) ∧ W.drew.cell? ⟨w.heap.size + 1, 1, none⟩ = some (.string B2) := ⟨d0, d1, d2, d3⟩
  have hal : ∀ a v, W.drew.cell? a = some v → (W.drew.alloc (.cells #[.int .i64 x, .int .i64 y] 3)).cell? a = some v := fun a v h => (Below.cell ((Below.refl W.drew.heap.size W.drew).alloc (Nat.le_refl _) _) (World.block_lt_of_cell? _ a h)).trans h
  have hda : (W.drew.alloc (.cells #[.int .i64 x, .int .i64 y] 3)).cell? ⟨w.heap.size, 0, none⟩ = some (.string A1) ∧ (W.drew.alloc (.cells #[.int .i64 x, .int .i64 y] 3)).cell? ⟨w.heap.size, 1, none⟩ = some (.string A2) ∧ (W.drew.alloc (.cells #[.int .i64 x, .int .i64 y] 3)).cell? ⟨w.heap.size + 1, 0, none⟩ = some (.string B1) ∧ (W.drew.alloc (.cells #[.int .i64 x, .int .i64 y] 3)).cell? ⟨w.heap.size + 1, 1, none⟩ = some (.string B2) := ⟨hal _ _ d0, hal _ _ d1, hal _ _ d2, hal _ _ d3⟩
  clear hal
  go_region_held3 (fun V : World => V.cell? ⟨w.heap.size, 0, none⟩ = some (.string A1) ∧ V.cell? ⟨w.heap.size, 1, none⟩ = some (.string A2) ∧ V.cell? ⟨w.heap.size + 1, 0, none⟩ = some (.string B1) ∧ V.cell? ⟨w.heap.size + 1, 1, none⟩ = some (.string B2)) (first | exact hd | exact hda) (first | (go_at_call 33; refine (hc1 _).mono ?_; rintro e w9 ⟨rfl, rfl⟩) | (go_at_call 33; refine (hc2 _).mono ?_; rintro e w9 ⟨rfl, rfl⟩) | (go_at_call 58; refine (hor _ _ _ (by simp [go_sem]) (by simp [go_sem])).mono ?_; rintro e w9 ⟨rfl, rfl⟩))
  all_goals
    go_wp2_with fail
    go_ret
    exact ⟨rfl, _, _, HB.out _⟩
end Sy
end Go.Proofs.YthoealembhkaoaaGreatDoor
namespace Go.Proofs.YthoealembhkaoaaGreatDoor
open Go.RowKit Go.Shelf Go.Lib Go.Sort
namespace Sy
set_option linter.unusedVariables false

theorem cb_cons (a b : UInt8) (l m : List UInt8) : compareBytes (a :: l) (b :: m) = if a.toNat < b.toNat then -1 else if b.toNat < a.toNat then 1 else compareBytes l m := rfl
theorem cb_range : ∀ l m : List UInt8, compareBytes l m = -1 ∨ compareBytes l m = 0 ∨ compareBytes l m = 1
  | [], [] => .inr (.inl rfl)
  | [], _ :: _ => .inl rfl
  | _ :: _, [] => .inr (.inr rfl)
  | a :: l, b :: m => by
    have := cb_range l m
    rw [cb_cons]
    split
    · exact .inl rfl
    · split
      · exact .inr (.inr rfl)
      · exact this
theorem cb_self : ∀ l : List UInt8, compareBytes l l = 0
  | [] => rfl
  | a :: l => by rw [cb_cons, if_neg (by omega), if_neg (by omega)]; exact cb_self l
theorem cb_eq : ∀ l m : List UInt8, compareBytes l m = 0 → l = m
  | [], [], _ => rfl
  | [], _ :: _, h => by cases h
  | _ :: _, [], h => by cases h
  | a :: l, b :: m, h => by
    rw [cb_cons] at h
    split at h
    · cases h
    · split at h
      · cases h
      · have : a = b := UInt8.toNat_inj.1 (by omega)
        rw [this, cb_eq l m h]
theorem cb_neg : ∀ l m : List UInt8, compareBytes m l = - compareBytes l m
  | [], [] => rfl
  | [], _ :: _ => rfl
  | _ :: _, [] => rfl
  | a :: l, b :: m => by
    have := cb_neg l m
    rw [cb_cons, cb_cons]
    split
    · rw [if_neg (by omega)]; try (split <;> first | rfl | omega)
    · split
      · rfl
      · exact this
theorem cb_trans : ∀ l m n : List UInt8, compareBytes l m ≤ 0 → compareBytes m n ≤ 0 → compareBytes l n ≤ 0
  | [], _, [], _, _ => by simp [compareBytes]
  | [], _, _ :: _, _, _ => by simp [compareBytes]
  | _ :: _, [], _, h, _ => by simp [compareBytes] at h
  | _ :: _, _ :: _, [], _, h => by simp [compareBytes] at h
  | a :: l, b :: m, c :: n, h1, h2 => by
    rw [cb_cons] at h1 h2 ⊢
    have ih := cb_trans l m n
    split
    · omega
    · split
      · exfalso
        split at h1
        · split at h2
          · omega
          · split at h2
            · omega
            · omega
        · split at h1
          · omega
          · split at h2
            · omega
            · split at h2
              · omega
              · omega
      · split at h1
        · split at h2
          · omega
          · split at h2 <;> omega
        · split at h1
          · omega
          · split at h2
            · omega
            · split at h2
              · omega
              · exact ih h1 h2
theorem cp_self (a : Pair) : cmpPair a a = 0 := by simp [cmpPair, orR, cb_self]
theorem cp_eq (a b : Pair) (h : cmpPair a b = 0) : a = b := by
  unfold cmpPair orR at h
  split at h
  · rename_i h1
    have e1 := cb_eq _ _ h1
    have e2 := cb_eq _ _ h
    obtain ⟨a1, a2⟩ := a
    obtain ⟨b1, b2⟩ := b
    simp only at e1 e2
    rw [e1, e2]
  · rename_i h1; exact absurd h h1
theorem cp_neg (a b : Pair) : cmpPair b a = - cmpPair a b := by
  unfold cmpPair orR
  rw [cb_neg a.1 b.1, cb_neg a.2 b.2]
  split <;> split <;> omega
theorem cp_trans (a b c : Pair) (h1 : cmpPair a b ≤ 0) (h2 : cmpPair b c ≤ 0) : cmpPair a c ≤ 0 := by
  unfold cmpPair orR at *
  by_cases e1 : compareBytes a.1 b.1 = 0
  · rw [if_pos e1] at h1
    have := cb_eq _ _ e1
    rw [this]
    by_cases e2 : compareBytes b.1 c.1 = 0
    · rw [if_pos e2] at h2 ⊢
      exact cb_trans _ _ _ h1 h2
    · rw [if_neg e2] at h2 ⊢
      exact h2
  · rw [if_neg e1] at h1
    by_cases e2 : compareBytes b.1 c.1 = 0
    · have := cb_eq _ _ e2
      rw [← this, if_neg e1]
      exact h1
    · rw [if_neg e2] at h2
      have h3 := cb_trans _ _ _ h1 h2
      by_cases e3 : compareBytes a.1 c.1 = 0
      · exfalso
        have := cb_eq _ _ e3
        rw [this] at h1 e1
        have h4 := cb_neg c.1 b.1
        omega
      · rw [if_neg e3]
        exact h3
theorem cp_range (a b : Pair) : cmpPair a b = -1 ∨ cmpPair a b = 0 ∨ cmpPair a b = 1 := by
  unfold cmpPair orR
  split
  · exact cb_range _ _
  · exact cb_range _ _
theorem cp_swo : SWO (ltOf cmpPair) where
  irrefl x := by simp [ltOf, cp_self]
  trans x y z h1 h2 := by
    simp only [ltOf, decide_eq_true_eq] at *
    have h3 := cp_trans x y z (by omega) (by omega)
    by_cases h0 : cmpPair x z = 0
    · exfalso
      have := cp_eq _ _ h0
      subst this
      have := cp_neg x y
      omega
    · omega
  ntrans x y z h1 h2 := by
    simp only [ltOf, decide_eq_false_iff_not] at *
    have e1 := cp_neg x y
    have e2 := cp_neg y z
    have e3 := cp_neg x z
    have := cp_trans z y x (by omega) (by omega)
    omega
/-- A part's pairs, sorted. -/
def sortR (r : List Pair) : List Pair := (Sort.insertionSort (ltOf cmpPair) r.toArray 0 r.length).toList
theorem sortR_size (r : List Pair) : (Sort.insertionSort (ltOf cmpPair) r.toArray 0 r.length).size = r.length := by
  have h := insertionSort_holds cp_swo r.toArray 0 r.length (Nat.zero_le _) (by simp)
  simpa using h.1.1
theorem sortR_spec (r : List Pair) : (sortR r).Perm r ∧ (sortR r).Pairwise (fun a b => cmpPair a b ≤ 0) := by
  have h := insertionSort_holds cp_swo r.toArray 0 r.length (Nat.zero_le _) (by simp)
  have hs := sortR_size r
  refine ⟨?_, ?_⟩
  · have hp := h.1.2.2
    have hx : (Sort.insertionSort (ltOf cmpPair) r.toArray 0 r.length).extract 0 r.length = Sort.insertionSort (ltOf cmpPair) r.toArray 0 r.length := by
      conv => lhs; arg 3; rw [← hs]
      exact Array.extract_size
    have hy : r.toArray.extract 0 r.length = r.toArray := by
      simp
    rw [hx, hy] at hp
    simpa [sortR] using hp
  · rw [List.pairwise_iff_getElem]
    intro i j hi hj hij
    have hl : (sortR r).length = r.length := by rw [← hs]; simp [sortR]
    have h2 := h.2 i j (Nat.zero_le _) hij (by omega)
    simp only [ltOf, decide_eq_false_iff_not] at h2
    have e := cp_neg ((sortR r)[i]) ((sortR r)[j])
    have e1 : (Sort.insertionSort (ltOf cmpPair) r.toArray 0 r.length)[i]! = (sortR r)[i] := by
      rw [getElem!_pos _ i (by omega)]; rfl
    have e2 : (Sort.insertionSort (ltOf cmpPair) r.toArray 0 r.length)[j]! = (sortR r)[j] := by
      rw [getElem!_pos _ j (by omega)]; rfl
    rw [e1, e2] at h2
    omega
end Sy
end Go.Proofs.YthoealembhkaoaaGreatDoor
namespace Go.Proofs.YthoealembhkaoaaGreatDoor
open Go.RowKit Go.Shelf Go.Lib Go.Sort
namespace Sy
set_option linter.unusedVariables false

def encP (q : Pair) : List Value := [strV q.1, strV q.2]

theorem flat_at (r : List Pair) (j : Nat) (h : j < r.length * 2) : (rdnV r)[j]? = some ((encP r.toArray[j / 2]!)[j % 2]!) := by
  have hk : j / 2 < r.length := by omega
  have hg := rdnV_get r (j / 2) hk
  have e : r.toArray[j / 2]! = r[j / 2] := by simp [getElem!_pos, hk]
  rw [e]
  rcases (by omega : j % 2 = 0 ∨ j % 2 = 1) with h0 | h0
  · have : j = 2 * (j / 2) := by omega
    rw [h0]
    conv => lhs; rw [this]
    exact hg.1
  · have : j = 2 * (j / 2) + 1 := by omega
    rw [h0]
    conv => lhs; rw [this]
    exact hg.2
theorem holds_of_own {w : World} {base g cap : Nat} {r : List Pair} (ho : OwnRdn w base (.slice (some ⟨g, 0, none⟩) r.length cap) r) : HoldsK encP 2 w g 0 r.toArray := by
  intro j hj
  rw [size_flatK] at hj
  have hj' : j < r.length * 2 := by simpa using hj
  rw [get_flatK _ _ _ _ hj, Nat.zero_add]
  exact ⟨own_cells ho j _ (flat_at r j hj'), World.ownsRow.frozenAt ho j⟩
theorem own_of_holds {w : World} {base g cap : Nat} {cur : Array Value} {r : List Pair} (hh : w.heap[g]? = some (.cells cur 85 (0, 0))) (hb : base ≤ g) (hn : r.length ≤ cap) (hm : cap ≤ maxLen) (hs : cur.size = cap * 2)
    (hH : HoldsK encP 2 w g 0 r.toArray) : OwnRdn w base (.slice (some ⟨g, 0, none⟩) r.length cap) r := by
  refine ⟨by rw [rdnV_length], .inr ⟨g, cap, cur, rfl, hb, hh, hn, hm, hs, ?_⟩⟩
  apply List.ext_getElem?
  intro j
  by_cases hj : j < r.length * 2
  · rw [List.getElem?_take_of_lt hj, flat_at r j hj]
    have h := (hH j (by rw [size_flatK]; simpa using hj)).1
    rw [get_flatK _ _ _ _ (by simpa using hj), Nat.zero_add] at h
    simp only [World.cell?, hh] at h
    simpa using h
  · rw [List.getElem?_eq_none (by simp; omega), List.getElem?_eq_none (by rw [rdnV_length]; omega)]
theorem sortWorld_shape {w : World} {g : Nat} {cur : Array Value} (hh : w.heap[g]? = some (.cells cur 85 (0, 0))) (m : Nat) (dk : Array Pair) (os : Array Obj) :
    ∃ cur' : Array Value, (sortWorldK encP 2 w g 0 m dk os).heap[g]? = some (.cells cur' 85 (0, 0)) ∧ cur'.size = cur.size ∧ w.grownBy (sortWorldK encP 2 w g 0 m dk os) (some g) := by
  have hlt := lt_of_block hh
  refine ⟨putCells id 0 (flatK encP 2 dk) cur, ?_, by simp [putCells], ⟨rfl, rfl, rfl, ?_, ?_⟩⟩
  · simp only [sortWorldK, grow, putRowK, putRow, mapBlock, heap_ahead]
    rw [Array.getElem?_append_left (by simpa using hlt), Array.getElem?_modify, if_pos rfl, hh]
    rfl
  · simp only [sortWorldK, grow, putRowK, putRow, mapBlock, heap_ahead]
    simp
  · intro k hk hne
    have hkg : g ≠ k := fun e => hne (by rw [e])
    simp only [sortWorldK, grow, putRowK, putRow, mapBlock, heap_ahead]
    rw [Array.getElem?_append_left (by simpa using hk), Array.getElem?_modify, if_neg hkg]
theorem insSort_calls (w : World) (base g cap : Nat) (r : List Pair) (ho : OwnRdn w base (.slice (some ⟨g, 0, none⟩) r.length cap) r) (hr : r.length ≤ 12) :
    Calls Tryz.prog 201 #[.slice (some ⟨g, 0, none⟩) r.length cap, .int .i64 0, .int .i64 r.length, .func (.func 179) #[] #[]] w fun e w' =>
      e = .returned (.tuple #[]) ∧ OwnRdn w' base (.slice (some ⟨g, 0, none⟩) r.length cap) (sortR r) ∧ w.grownBy w' (some g) := by
  have hlt := (ho.lt g rfl)
  have hcmp : CmpLays Tryz.prog 179 #[] encP 2 cmpPair g 0 r.toArray.size w := fun m os dk _ x y => cmpPair_calls x y _
  have h := AnyQ.insertionSortCmpFunc sortLays 2 Tryz.isAgg85 Tryz.sizeOf85 encP (fun _ => rfl) (fun x v hv => by simp [encP, strV] at hv; rcases hv with rfl | rfl <;> rfl) cmpPair 179 #[] g 0 cap 0 r.length r.toArray w (enters_of Tryz.func179 (by kernel_rfl) rfl) hcmp (holds_of_own ho) hlt.2 (Nat.zero_le _) (by simp) (by simp; omega)
  have hs : (Sort.insertionSort (ltOf cmpPair) r.toArray 0 r.length).size = r.length := sortR_size r
  have hsr : sortR r = (Sort.insertionSort (ltOf cmpPair) r.toArray 0 r.length).toList := rfl
  rw [hsr]
  clear hsr
  generalize Sort.insertionSort (ltOf cmpPair) r.toArray 0 r.length = D at *
  refine h.mono ?_
  rintro e w' ⟨rfl, n, os, rfl⟩
  rcases ho.2 with ⟨h2, _⟩ | ⟨g', cap', cur, hv, hgb, hh, hnc, hcm, hsz, htk⟩
  · cases h2
  · injection hv with hv1 hv2 hv3
    injection hv1 with hv1
    injection hv1 with hv1
    subst hv1 hv3
    obtain ⟨cur', hh', hs', hg⟩ := sortWorld_shape hh n D os
    have hl : D.toList.length = r.length := by rw [← hs]; simp
    refine ⟨rfl, ?_, hg⟩
    rw [← hl]
    refine own_of_holds hh' hgb (by rw [hl]; exact hnc) hcm (by rw [hs']; exact hsz) ?_
    exact holdsK_sortWorldK_c encP 2 w g 0 r.toArray D n os (holds_of_own ho) hlt.2 (by rw [hs]; simp)
set_option maxHeartbeats 1000000 in
theorem pdq_calls (w : World) (base g cap : Nat) (lim : Int) (r : List Pair) (ho : OwnRdn w base (.slice (some ⟨g, 0, none⟩) r.length cap) r) (hr : r.length ≤ 12) :
    Calls Tryz.prog 192 #[.slice (some ⟨g, 0, none⟩) r.length cap, .int .i64 0, .int .i64 r.length, .int .i64 lim, .func (.func 179) #[] #[]] w fun e w' =>
      e = .returned (.tuple #[]) ∧ OwnRdn w' base (.slice (some ⟨g, 0, none⟩) r.length cap) (sortR r) ∧ w.grownBy w' (some g) := by
  have hi := insSort_calls w base g cap r ho hr
  clear ho
  have hr' : (r.length : Int) ≤ 12 := by omega
  go_enter Tryz.func192, Tryz.ntmps192
  go_wp2_with fail
  refine wp_loop_rounds 1 ?_
  rw [rounds_succ]
  go_wp2_with fail
  refine hi.mono ?_
  rintro e w1 ⟨rfl, ho1, hg1⟩
  have HO := Lib.hid ho1
  have HG := Lib.hid hg1
  clear ho1 hg1 hi
  go_wp2_with fail
  (try simp only [Exit.inBlock, Exit.then]); refine bodyPost_ret (results_none rfl _ _ _) rfl ?_
  exact ⟨rfl, HO.out, HG.out⟩
set_option maxHeartbeats 1000000 in
theorem sort_calls (w : World) (base g cap : Nat) (r : List Pair) (ho : OwnRdn w base (.slice (some ⟨g, 0, none⟩) r.length cap) r) (hr : r.length ≤ 12) :
    Calls Tryz.prog 178 #[.slice (some ⟨g, 0, none⟩) r.length cap, .func (.func 179) #[] #[]] w fun e w' =>
      e = .returned (.tuple #[]) ∧ OwnRdn w' base (.slice (some ⟨g, 0, none⟩) r.length cap) (sortR r) ∧ w.grownBy w' (some g) := by
  have hp := fun lim => pdq_calls w base g cap lim r ho hr
  have hl := Tryz.bits_Len (r.length : Int) w (by omega) (by omega)
  clear ho
  go_enter Tryz.func178, Tryz.ntmps178
  go_wp2_with fail
  refine hl.mono ?_
  rintro e w1 ⟨rfl, rfl⟩
  clear hl
  go_wp2_with fail
  refine (hp _).mono ?_
  rintro e w1 ⟨rfl, ho1, hg1⟩
  have HO := Lib.hid ho1
  have HG := Lib.hid hg1
  clear ho1 hg1 hp
  go_wp2_with fail
  go_end0
  exact ⟨rfl, HO.out, HG.out⟩
end Sy
end Go.Proofs.YthoealembhkaoaaGreatDoor
