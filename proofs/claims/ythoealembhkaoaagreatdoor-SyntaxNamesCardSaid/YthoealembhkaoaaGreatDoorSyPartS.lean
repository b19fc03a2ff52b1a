import Derived.Test.YthoealembhkaoaaGreatDoorSyOrd
namespace Go.Proofs.YthoealembhkaoaaGreatDoor
open Go.RowKit Go.Shelf Go.Lib Go.Sort
namespace Sy
set_option linter.unusedVariables false

def encP (q : Pair) : List Value := [strV q.1, strV q.2]

theorem flat_at (r : List Pair) (j : Nat) (h : j < r.length * 2) : (rdnV r)[j]? = some ((encP r.toArray[j / 2]!)[j % 2]!) := by
  have hk : j / 2 < r.length := by omega
  have hg := rdnV_get r (j / 2) hk
  have e : r.toArray[j / 2]! = r[j / 2] := by simp [getElem!_pos, hk]
  rw [e]
  rcases (by omega : j % 2 = 0 ∨ j % 2 = 1) with h0 | h0
  · have : j = 2 * (j / 2) := by omega
    rw [h0]
    conv => lhs; rw [this]
    exact hg.1
  · have : j = 2 * (j / 2) + 1 := by omega
    rw [h0]
    conv => lhs; rw [this]
    exact hg.2
theorem holds_of_own {w : World} {base g cap : Nat} {r : List Pair} (ho : OwnRdn w base (.slice (some ⟨g, 0, none⟩) r.length cap) r) : HoldsK encP 2 w g 0 r.toArray := by
  intro j hj
  rw [size_flatK] at hj
  have hj' : j < r.length * 2 := by simpa using hj
  rw [get_flatK _ _ _ _ hj, Nat.zero_add]
  exact ⟨own_cells ho j _ (flat_at r j hj'), World.ownsRow.frozenAt ho j⟩
theorem own_of_holds {w : World} {base g cap : Nat} {cur : Array Value} {r : List Pair} (hh : w.heap[g]? = some (.cells cur 85 (0, 0))) (hb : base ≤ g) (hn : r.length ≤ cap) (hm : cap ≤ maxLen) (hs : cur.size = cap * 2)
    (hH : HoldsK encP 2 w g 0 r.toArray) : OwnRdn w base (.slice (some ⟨g, 0, none⟩) r.length cap) r := by
  refine ⟨by rw [rdnV_length], .inr ⟨g, cap, cur, rfl, hb, hh, hn, hm, hs, ?_⟩⟩
  apply List.ext_getElem?
  intro j
  by_cases hj : j < r.length * 2
  · rw [List.getElem?_take_of_lt hj, flat_at r j hj]
    have h := (hH j (by rw [size_flatK]; simpa using hj)).1
    rw [get_flatK _ _ _ _ (by simpa using hj), Nat.zero_add] at h
    simp only [World.cell?, hh] at h
    simpa using h
  · rw [List.getElem?_eq_none (by simp; omega), List.getElem?_eq_none (by rw [rdnV_length]; omega)]
theorem sortWorld_shape {w : World} {g : Nat} {cur : Array Value} (hh : w.heap[g]? = some (.cells cur 85 (0, 0))) (m : Nat) (dk : Array Pair) (os : Array Obj) :
    ∃ cur' : Array Value, (sortWorldK encP 2 w g 0 m dk os).heap[g]? = some (.cells cur' 85 (0, 0)) ∧ cur'.size = cur.size ∧ w.grownBy (sortWorldK encP 2 w g 0 m dk os) (some g) := by
  have hlt := lt_of_block hh
  refine ⟨putCells id 0 (flatK encP 2 dk) cur, ?_, by simp [putCells], ⟨rfl, rfl, rfl, ?_, ?_⟩⟩
  · simp only [sortWorldK, grow, putRowK, putRow, mapBlock, heap_ahead]
    rw [Array.getElem?_append_left (by simpa using hlt), Array.getElem?_modify, if_pos rfl, hh]
    rfl
  · simp only [sortWorldK, grow, putRowK, putRow, mapBlock, heap_ahead]
    simp
  · intro k hk hne
    have hkg : g ≠ k := fun e => hne (by rw [e])
    simp only [sortWorldK, grow, putRowK, putRow, mapBlock, heap_ahead]
    rw [Array.getElem?_append_left (by simpa using hk), Array.getElem?_modify, if_neg hkg]
theorem insSort_calls (w : World) (base g cap : Nat) (r : List Pair) (ho : OwnRdn w base (.slice (some ⟨g, 0, none⟩) r.length cap) r) (hr : r.length ≤ 12) :
    Calls Tryz.prog 201 #[.slice (some ⟨g, 0, none⟩) r.length cap, .int .i64 0, .int .i64 r.length, .func (.func 179) #[] #[]] w fun e w' =>
      e = .returned (.tuple #[]) ∧ OwnRdn w' base (.slice (some ⟨g, 0, none⟩) r.length cap) (sortR r) ∧ w.grownBy w' (some g) := by
  have hlt := (ho.lt g rfl)
  have hcmp : CmpLays Tryz.prog 179 #[] encP 2 cmpPair g 0 r.toArray.size w := fun m os dk _ x y => cmpPair_calls x y _
  have h := AnyQ.insertionSortCmpFunc sortLays 2 Tryz.isAgg85 Tryz.sizeOf85 encP (fun _ => rfl) (fun x v hv => by simp [encP, strV] at hv; rcases hv with rfl | rfl <;> rfl) cmpPair 179 #[] g 0 cap 0 r.length r.toArray w (enters_of Tryz.func179 (by kernel_rfl) rfl) hcmp (holds_of_own ho) hlt.2 (Nat.zero_le _) (by simp) (by simp; omega)
  have hs : (Sort.insertionSort (ltOf cmpPair) r.toArray 0 r.length).size = r.length := sortR_size r
  have hsr : sortR r = (Sort.insertionSort (ltOf cmpPair) r.toArray 0 r.length).toList := rfl
  rw [hsr]
  clear hsr
  generalize Sort.insertionSort (ltOf cmpPair) r.toArray 0 r.length = D at *
  refine h.mono ?_
  rintro e w' ⟨rfl, n, os, rfl⟩
  rcases ho.2 with ⟨h2, _⟩ | ⟨g', cap', cur, hv, hgb, hh, hnc, hcm, hsz, htk⟩
  · cases h2
  · injection hv with hv1 hv2 hv3
    injection hv1 with hv1
    injection hv1 with hv1
    subst hv1 hv3
    obtain ⟨cur', hh', hs', hg⟩ := sortWorld_shape hh n D os
    have hl : D.toList.length = r.length := by rw [← hs]; simp
    refine ⟨rfl, ?_, hg⟩
    rw [← hl]
    refine own_of_holds hh' hgb (by rw [hl]; exact hnc) hcm (by rw [hs']; exact hsz) ?_
    exact holdsK_sortWorldK_c encP 2 w g 0 r.toArray D n os (holds_of_own ho) hlt.2 (by rw [hs]; simp)
set_option maxHeartbeats 1000000 in
theorem pdq_calls (w : World) (base g cap : Nat) (lim : Int) (r : List Pair) (ho : OwnRdn w base (.slice (some ⟨g, 0, none⟩) r.length cap) r) (hr : r.length ≤ 12) :
    Calls Tryz.prog 192 #[.slice (some ⟨g, 0, none⟩) r.length cap, .int .i64 0, .int .i64 r.length, .int .i64 lim, .func (.func 179) #[] #[]] w fun e w' =>
      e = .returned (.tuple #[]) ∧ OwnRdn w' base (.slice (some ⟨g, 0, none⟩) r.length cap) (sortR r) ∧ w.grownBy w' (some g) := by
  have hi := insSort_calls w base g cap r ho hr
  clear ho
  have hr' : (r.length : Int) ≤ 12 := by omega
  go_enter Tryz.func192, Tryz.ntmps192
  go_wp2_with fail
  refine wp_loop_rounds 1 ?_
  rw [rounds_succ]
  go_wp2_with fail
  refine hi.mono ?_
  rintro e w1 ⟨rfl, ho1, hg1⟩
  have HO := Lib.hid ho1
  have HG := Lib.hid hg1
  clear ho1 hg1 hi
  go_wp2_with fail
  (try simp only [Exit.inBlock, Exit.then]); refine bodyPost_ret (results_none rfl _ _ _) rfl ?_
  exact ⟨rfl, HO.out, HG.out⟩
set_option maxHeartbeats 1000000 in
theorem sort_calls (w : World) (base g cap : Nat) (r : List Pair) (ho : OwnRdn w base (.slice (some ⟨g, 0, none⟩) r.length cap) r) (hr : r.length ≤ 12) :
    Calls Tryz.prog 178 #[.slice (some ⟨g, 0, none⟩) r.length cap, .func (.func 179) #[] #[]] w fun e w' =>
      e = .returned (.tuple #[]) ∧ OwnRdn w' base (.slice (some ⟨g, 0, none⟩) r.length cap) (sortR r) ∧ w.grownBy w' (some g) := by
  have hp := fun lim => pdq_calls w base g cap lim r ho hr
  have hl := Tryz.bits_Len (r.length : Int) w (by omega) (by omega)
  clear ho
  go_enter Tryz.func178, Tryz.ntmps178
  go_wp2_with fail
  refine hl.mono ?_
  rintro e w1 ⟨rfl, rfl⟩
  clear hl
  go_wp2_with fail
  refine (hp _).mono ?_
  rintro e w1 ⟨rfl, ho1, hg1⟩
  have HO := Lib.hid ho1
  have HG := Lib.hid hg1
  clear ho1 hg1 hp
  go_wp2_with fail
  go_end0
  exact ⟨rfl, HO.out, HG.out⟩
end Sy
end Go.Proofs.YthoealembhkaoaaGreatDoor
