import Derived.Test.YthoealembhkaoaaGreatDoorFm08
namespace Go.Proofs.YthoealembhkaoaaGreatDoor
open Go.RowKit
namespace Sy
set_option linter.unusedVariables false

/-- Rows of pairs, each in a block of its own. -/
def RowsOf (w : World) (base : Nat) : List Value → List (List Pair) → Prop
  | [], [] => True
  | v :: vs, r :: rs => OwnRdn w base v r ∧ v.ownBlock ≠ none ∧ (∀ u ∈ vs, u.ownBlock ≠ v.ownBlock) ∧ RowsOf w base vs rs
  | _, _ => False
theorem RowsOf.length {w : World} {base : Nat} : ∀ {vs : List Value} {d : List (List Pair)}, RowsOf w base vs d → vs.length = d.length
  | [], [], _ => rfl
  | _ :: _, _ :: _, h => by simp [RowsOf.length h.2.2.2]
  | [], _ :: _, h => h.elim
  | _ :: _, [], h => h.elim
theorem RowsOf.lt {w : World} {base : Nat} : ∀ {vs : List Value} {d : List (List Pair)}, RowsOf w base vs d → ∀ u ∈ vs, ∀ g, u.ownBlock = some g → base ≤ g ∧ g < w.heap.size ∧ ∃ cur, w.heap[g]? = some (.cells cur 85 (0, 0))
  | [], [], _, u, hu, _, _ => by cases hu
  | v :: vs, r :: rs, h, u, hu, g, hg => by
    rcases List.mem_cons.1 hu with rfl | hu
    · refine ⟨(h.1.lt g hg).1, (h.1.lt g hg).2, ?_⟩
      rcases h.1.2 with ⟨rfl, _⟩ | ⟨g', cap, cur, rfl, _, hh, _⟩
      · cases hg
      · have : g' = g := by simpa [Value.ownBlock] using hg
        subst this
        exact ⟨cur, hh⟩
    · exact RowsOf.lt h.2.2.2 u hu g hg
  | [], _ :: _, h, _, _, _, _ => h.elim
  | _ :: _, [], h, _, _, _, _ => h.elim
theorem RowsOf.kept {w w' : World} {base : Nat} {row : Option Nat} (hg : w.grownBy w' row) : ∀ {vs : List Value} {d : List (List Pair)}, RowsOf w base vs d → (∀ u ∈ vs, u.ownBlock ≠ row) → RowsOf w' base vs d
  | [], [], _, _ => trivial
  | v :: vs, r :: rs, h, hne => ⟨h.1.kept hg (.inr (hne v (by simp))), h.2.1, h.2.2.1, RowsOf.kept hg h.2.2.2 (fun u hu => hne u (by simp [hu]))⟩
  | [], _ :: _, h, _ => h.elim
  | _ :: _, [], h, _ => h.elim
theorem RowsOf.snoc {w : World} {base : Nat} {v : Value} {r : List Pair} (ho : OwnRdn w base v r) (hv : v.ownBlock ≠ none) : ∀ {vs : List Value} {d : List (List Pair)}, RowsOf w base vs d → (∀ u ∈ vs, u.ownBlock ≠ v.ownBlock) → RowsOf w base (vs ++ [v]) (d ++ [r])
  | [], [], _, _ => ⟨ho, hv, (fun _ h => nomatch h), trivial⟩
  | u :: vs, q :: rs, h, hne => ⟨h.1, h.2.1, fun x hx => by
      rcases List.mem_append.1 hx with hx | hx
      · exact h.2.2.1 x hx
      · simp only [List.mem_singleton] at hx
        subst hx
        exact fun e => hne u (by simp) e.symm, RowsOf.snoc ho hv h.2.2.2 (fun x hx => hne x (by simp [hx]))⟩
  | [], _ :: _, h, _ => h.elim
  | _ :: _, [], h, _ => h.elim
/-- A name in memory of the call's own. -/
def OwnDn (w : World) (base : Nat) (v : Value) (d : List (List Pair)) : Prop := ∃ vs, w.ownsRow base 83 1 v d.length vs ∧ RowsOf w base vs d
theorem own_mono {w : World} {base base' : Nat} {e : TypeId} {size n : Nat} {v : Value} {xs : List Value} (h : w.ownsRow base e size v n xs) (hb : base' ≤ base) : w.ownsRow base' e size v n xs := by
  refine ⟨h.1, ?_⟩
  rcases h.2 with h2 | ⟨g, cap, cur, hv, hg, r⟩
  · exact .inl h2
  · exact .inr ⟨g, cap, cur, hv, Nat.le_trans hb hg, r⟩
theorem own_some {w : World} {base : Nat} {e : TypeId} {size n : Nat} {v : Value} {xs : List Value} (h : w.ownsRow base e size v n xs) (hn : 0 < n) : v.ownBlock ≠ none := by
  rcases h.2 with ⟨_, h2⟩ | ⟨g, cap, cur, rfl, _⟩
  · omega
  · simp [Value.ownBlock]
/-- The outer row's block is none of the inner ones'. -/
theorem RowsOf.outer {w : World} {base : Nat} {v : Value} {n : Nat} {xs vs : List Value} {d : List (List Pair)} (h : RowsOf w base vs d) (ho : w.ownsRow base 83 1 v n xs) (hv : ∀ u ∈ vs, u.ownBlock ≠ none) : ∀ u ∈ vs, u.ownBlock ≠ v.ownBlock := by
  intro u hu e
  cases hub : u.ownBlock with
  | none => exact hv u hu hub
  | some g =>
    obtain ⟨_, _, cur, hc⟩ := h.lt u hu g hub
    rw [hub] at e
    rcases ho.2 with ⟨rfl, _⟩ | ⟨g', cap, cur', rfl, _, hh, _⟩
    · cases e
    · have : g = g' := by simpa [Value.ownBlock] using e
      subst this
      rw [hh] at hc
      injection hc with hc
      injection hc with _ hc
      cases hc
theorem RowsOf.some {w : World} {base : Nat} : ∀ {vs : List Value} {d : List (List Pair)}, RowsOf w base vs d → ∀ u ∈ vs, u.ownBlock ≠ none
  | [], [], _, u, hu => by cases hu
  | v :: vs, r :: rs, h, u, hu => by
    rcases List.mem_cons.1 hu with rfl | hu
    · exact h.2.1
    · exact RowsOf.some h.2.2.2 u hu
  | [], _ :: _, h, _, _ => h.elim
  | _ :: _, [], h, _, _ => h.elim

theorem RowsOf.drewN {w : World} {base : Nat} {vs : List Value} {d : List (List Pair)} (h : RowsOf w base vs d) (q : Nat) : RowsOf (w.drewN q) base vs d :=
  RowsOf.kept (w := w) (w' := w.drewN q) (row := none) ⟨rfl, rfl, rfl, Nat.le_refl _, fun _ _ _ => rfl⟩ h h.some
theorem rows_ne {w : World} {base B : Nat} {vs : List Value} {d : List (List Pair)} (h : RowsOf w base vs d) (hB : B < base) : ∀ u ∈ vs, u.ownBlock ≠ some B := by
  intro u hu e
  have := (h.lt u hu B e).1
  omega
def dnL : Nat → List (List Pair) → List UInt8 → Option (List (List Pair))
  | 0, _, _ => none
  | n + 1, acc, l =>
    if isAt 44 l then
      match partR (l.drop 1) with
      | some (p, l') => dnL n (acc ++ [p]) l'
      | none => none
    else if l = [] then some acc else none
/-- A name's text, read. -/
def dnR (l : List UInt8) : Option (List (List Pair)) :=
  if l = [] then some [] else
  match partR l with
  | some (p, l') => dnL (l'.length + 1) [p] l'
  | none => none
theorem partL_le : ∀ (n : Nat) (acc : List Pair) (l : List UInt8) (p : List Pair) (l' : List UInt8), partL n acc l = some (p, l') → l'.length ≤ l.length ∧ acc.length ≤ p.length
  | 0, _, _, _, _, h => by cases h
  | n + 1, acc, l, p, l', h => by
    simp only [partL] at h
    split at h
    · split at h
      · rename_i q l2 hq
        have h1 := pairR_le hq
        have h2 := partL_le n _ _ _ _ h
        simp at h1 h2; omega
      · cases h
    · injection h with h; injection h with h1 h2
      subst h1 h2
      exact ⟨Nat.le_refl _, Nat.le_refl _⟩
theorem partR_le {l l' : List UInt8} {p : List Pair} (h : partR l = some (p, l')) : l'.length ≤ l.length ∧ 0 < p.length := by
  unfold partR at h
  split at h
  · rename_i q l2 hq
    have h1 := pairR_le hq
    have h2 := partL_le _ _ _ _ _ h
    simp at h2; omega
  · cases h
def NameP (B : Nat) (r : Option (List (List Pair))) (w : World) (e : Ending) (w' : World) : Prop :=
  match r with
  | some d => ∃ v, e = .returned v ∧ OwnDn w' w.heap.size v d ∧ Gr B w w'
  | none => e = gaveUp 30 ∧ Gr B w w'
theorem nameP_some {B : Nat} {r : Option (List (List Pair))} {d : List (List Pair)} {v : Value} {w w' : World} (hr : r = some d) (ho : OwnDn w' w.heap.size v d) (h : Gr B w w') : NameP B r w (.returned v) w' := by
  rw [hr]; exact ⟨v, rfl, ho, h⟩
theorem nameP_none {B : Nat} {r : Option (List (List Pair))} {w w' : World} (hr : r = none) (h : Gr B w w') : NameP B r w (gaveUp 30) w' := by
  rw [hr]; exact ⟨rfl, h⟩
theorem info83 : (Tryz.prog.info? 83).map (fun i => (i.zero, i.size, i.bytes)) = some (some (.slice none 0 0), 1, 24) := by kernel_rfl

set_option maxRecDepth 100000 in
set_option maxHeartbeats 4000000 in
theorem name_calls (w : World) (B : Nat) (s : ByteArray) (hr : Rd w B s 0) (hs : s.size < 4294967281) (he : Env w) (hB : 3 ≤ B) :
    Calls Tryz.prog 65 #[.pointer (some ⟨B, 0, none⟩)] w (NameP B (dnR s.data.toList) w) := by
  have hR := Lib.hid hr
  have hE := Lib.hid he
  have hBlt := hr.lt
  have hs' : s.size ≤ 9223372036854775807 := by omega
  have c0 := hr.c0
  clear hr he
  obtain ⟨i0, hi0, hz0, hz1, hz2⟩ := info_parts info83
  obtain ⟨r, hr⟩ : ∃ r, dnR s.data.toList = r := ⟨_, rfl⟩
  rw [hr]
  have Hr := Lib.hid hr
  clear hr
  by_cases hemp : s.data.toList = []
  · have h2 := toList_nil s hemp
    have Hn : Hid (r = some []) := by show r = _; rw [← Hr.out]; unfold dnR; rw [if_pos hemp]
    clear hemp
    go_enter Tryz.func65, Tryz.ntmps65
    go_wp2_with fail
    go_ret
    exact nameP_some Hn.out ⟨[], World.ownsRow_nil _ _ _ _, trivial⟩ (Gr.refl _ _)
  · have h2 := toList_ne s hemp
    have Hr1 : Hid (r = match partR (rest s 0) with
      | some (p, l') => dnL (l'.length + 1) [p] l'
      | none => none) := by show r = _; rw [← Hr.out]; unfold dnR; rw [if_neg hemp]; simp [rest]
    clear hemp
    go_enter Tryz.func65, Tryz.ntmps65
    go_wp2_with fail
    refine (part_calls w B s 0 hR.out (Nat.zero_le _) hs hE.out hB).mono ?_
    intro e w1 h
    have Hle := Lib.hid (fun p l' => @partR_le (rest s 0) l' p)
    generalize partR (rest s 0) = q at *
    rcases q with _ | ⟨p, l1⟩
    · obtain ⟨rfl, hg⟩ := h
      exact ⟨rfl, nameP_none Hr1.out hg⟩
    obtain ⟨v1, rfl, hO1, j1, hj1, hl1, hR1, hG1⟩ := h
    have O1 := Lib.hid hO1
    have R1 := Lib.hid hR1
    have G1 := Lib.hid hG1
    have L1 := Lib.hid hl1
    have hs1 : w.heap.size ≤ w1.heap.size := hG1.size
    obtain ⟨y1, z1, hv1⟩ := own_slice hO1
    subst hv1
    clear hO1 hR1 hG1 hl1 c0
    go_wp2_with fail
    have O2 : Hid (OwnRdn (w1.alloc (Obj.cells #[Value.slice y1 p.length z1] 83)) w.heap.size (Value.slice y1 p.length z1) p) := O1.out.alloc _
    have V2 : Hid ((w1.alloc (Obj.cells #[Value.slice y1 p.length z1] 83)).ownsRow w.heap.size 83 1 (.slice (some ⟨w1.heap.size, 0, none⟩) 1 1) 1 [Value.slice y1 p.length z1]) :=
      own_new w1 w.heap.size #[Value.slice y1 p.length z1] 83 1 1 hs1 (by unfold maxLen; omega) rfl
    have R2 := Lib.hid (rd_alloc R1.out (Obj.cells #[Value.slice y1 p.length z1] 83))
    have G2 := Lib.hid (G1.out.trans (gr_alloc B w1 (Obj.cells #[Value.slice y1 p.length z1] 83)))
    have hs2 : w.heap.size ≤ (w1.alloc (Obj.cells #[Value.slice y1 p.length z1] 83)).heap.size := by simp; omega
    have S2 : Hid ((Value.slice y1 p.length z1).ownBlock ≠ none) := own_some O1.out (Hle.out p l1 rfl).2
    obtain ⟨w2, hw2⟩ : ∃ w2, w2 = w1.alloc (Obj.cells #[Value.slice y1 p.length z1] 83) := ⟨_, rfl⟩
    rw [← hw2] at O2 V2 R2 G2 hs2 ⊢
    clear hw2 R1 G1 Hle O1
    go_loopg [3] (s.size - j1) (fun k v wr => ∃ (j n : Nat) (acc : List (List Pair)) (vs : List Value), j ≤ s.size ∧ s.size - j ≤ k ∧ acc.length ≤ j + 1 ∧ w.heap.size ≤ wr.heap.size ∧ Hid (wr.ownsRow w.heap.size 83 1 v acc.length vs ∧ RowsOf wr w.heap.size vs acc) ∧ Hid ((rest s j).length < n ∧ dnL n acc (rest s j) = r) ∧ Hid (Rd wr B s j) ∧ Hid (Gr B w wr))
    case atStart => exact ⟨j1, l1.length + 1, [p], [Value.slice y1 p.length z1], hj1, Nat.le_refl _, by simp, hs2, ⟨V2.out, O2.out, S2.out, (fun _ h => nomatch h), trivial⟩, ⟨by rw [L1.out]; omega, by rw [L1.out]; exact Hr1.out.symm⟩, R2.out, G2.out⟩
    case round =>
      obtain ⟨j, n, acc, vs, hj, hk, haj, hsr, hown, hval, hRj, hG⟩ := hrel
      go_wp2_with fail
      refine (is_calls wr B s j 44 hRj.out hj hs').mono ?_
      rintro e w3 ⟨rfl, n3, rfl⟩
      obtain ⟨n, rfl⟩ : ∃ m, n = m + 1 := ⟨n - 1, by have := hval.out.1; omega⟩
      by_cases h44 : isAt 44 (rest s j) = true
      · have hlt := isAt_lt h44
        have Hv : Hid (r = match partR (rest s (j + 1)) with
          | some (p, l') => dnL n (acc ++ [p]) l'
          | none => none) := by
          show r = _
          rw [← hval.out.2]
          simp only [dnL, h44, if_true]
          rw [show (rest s j).drop 1 = rest s (j + 1) by simp [rest]]
        have Hn := Lib.hid hval.out.1
        have R4 := Lib.hid (hRj.out.drewN n3)
        have G4 := Lib.hid (hG.out.drewN n3)
        have O4 : Hid ((wr.drewN n3).ownsRow w.heap.size 83 1 u3 acc.length vs ∧ RowsOf (wr.drewN n3) w.heap.size vs acc) := ⟨own_drewN hown.out.1 n3, hown.out.2.drewN n3⟩
        have hs4 : w.heap.size ≤ (wr.drewN n3).heap.size := hsr
        obtain ⟨w4, hw4⟩ : ∃ w4, w4 = wr.drewN n3 := ⟨_, rfl⟩
        rw [← hw4] at R4 G4 O4 hs4 ⊢
        clear hw4
        have b1 := R4.out.c1
        have b2 := R4.out.f1
        go_wp2_with fail
        have R5 := R4.out.setCell (j + 1)
        have G5 := (Gr.refl B w4).setCell 1 (.int .i64 ((j + 1 : Nat) : Int))
        rw [show ((j + 1 : Nat) : Int) = (j : Int) + 1 by omega] at R5 G5
        have O5 : Hid ((w4.setCell ⟨B, 1, none⟩ (.int .i64 ((j : Int) + 1))).ownsRow w.heap.size 83 1 u3 acc.length vs ∧ RowsOf (w4.setCell ⟨B, 1, none⟩ (.int .i64 ((j : Int) + 1))) w.heap.size vs acc) :=
          ⟨O4.out.1.kept G5 (own_ne O4.out.1 hBlt), O4.out.2.kept G5 (rows_ne O4.out.2 hBlt)⟩
        have R5' := Lib.hid R5
        have G5' := Lib.hid (G4.out.trans G5)
        have hs5 : w.heap.size ≤ (w4.setCell ⟨B, 1, none⟩ (.int .i64 ((j : Int) + 1))).heap.size := Nat.le_trans hs4 G5.size
        obtain ⟨w5, hw5⟩ : ∃ w5, w5 = w4.setCell ⟨B, 1, none⟩ (.int .i64 ((j : Int) + 1)) := ⟨_, rfl⟩
        rw [← hw5] at O5 R5' G5' hs5 ⊢
        clear hw5 R5 G5 R4 G4 O4 b1 b2 hown hRj hG
        refine (part_calls w5 B s (j + 1) R5'.out (by omega) hs (hE.out.gr hB G5'.out) hB).mono ?_
        intro e w6 h
        have Hle := Lib.hid (fun p l' => @partR_le (rest s (j + 1)) l' p)
        generalize partR (rest s (j + 1)) = q at *
        rcases q with _ | ⟨p6, l6⟩
        · obtain ⟨rfl, hg⟩ := h
          exact ⟨rfl, nameP_none Hv.out (G5'.out.trans hg)⟩
        obtain ⟨v6, rfl, hO6, j6, hj6, hl6, hR6, hG6⟩ := h
        have P6 := Lib.hid hO6
        have O6 : Hid (w6.ownsRow w.heap.size 83 1 u3 acc.length vs ∧ RowsOf w6 w.heap.size vs acc) := ⟨O5.out.1.kept hG6 (own_ne O5.out.1 hBlt), O5.out.2.kept hG6 (rows_ne O5.out.2 hBlt)⟩
        have D6 : Hid (∀ u ∈ vs, u.ownBlock ≠ v6.ownBlock) := by
          intro u hu e
          cases hub : u.ownBlock with
          | none => exact O5.out.2.some u hu hub
          | some g =>
            have h1 := O5.out.2.lt u hu g hub
            rw [hub] at e
            have h2 := hO6.lt g e.symm
            omega
        have R6 := Lib.hid hR6
        have G6 := Lib.hid (G5'.out.trans hG6)
        have L6 := Lib.hid hl6
        have hs6 : w.heap.size ≤ w6.heap.size := Nat.le_trans hs5 hG6.size
        have S6 : Hid (v6.ownBlock ≠ none) := own_some hO6 (Hle.out p6 l6 rfl).2
        have hlen6 : s.size - j6 ≤ s.size - (j + 1) := by
          have := (Hle.out _ l6 rfl).1
          rw [← L6.out] at this
          simpa [rest] using this
        obtain ⟨y6, z6, hv6⟩ := own_slice hO6
        subst hv6
        clear hR6 hG6 hl6 R5' G5' O5 hO6
        go_wp2_with (at_builtin; refine wpList_append_own _ rfl _ _ 56 rfl w.heap.size 83 i0 (.slice none 0 0) 1 24 Tryz.underlying56 hi0 hz0 hz1 hz2 rfl (by decide) _ _ _ rfl (O6.out.1.alloc _) ⟨w6.heap.size, 0, none⟩ 1 1 [.slice y6 p6.length z6] rfl rfl ?c1 ?c2 ?c3 ?c4 ?c5 ?_)
        case c1 => exact cell_one_new _ _ _
        case c2 => simp [Value.oneCell']
        case c3 => unfold maxLen; omega
        case c4 => omega
        case c5 => simp; omega
        intro v7 w7 hown7 hgr7 _
        have R7 : Hid (Rd w7 B s j6) := rd_grown (rd_alloc R6.out _) hgr7 (own_ne O6.out.1 hBlt)
        have G7 : Hid (Gr B w w7) := gr_grown (G6.out.trans (gr_alloc B w6 _)) hgr7 (by simp; omega) (own_base_le O6.out.1)
        have hs7 : w.heap.size ≤ w7.heap.size := by have := hgr7.size; simp at this; omega
        have A6 : RowsOf (w6.alloc (Obj.cells #[Value.slice y6 p6.length z6] 83)) w.heap.size vs acc := O6.out.2.kept (World.grownBy_alloc _ _ none) O6.out.2.some
        have B6 : OwnRdn (w6.alloc (Obj.cells #[Value.slice y6 p6.length z6] 83)) w.heap.size (Value.slice y6 p6.length z6) p6 := (own_mono P6.out (Nat.le_trans hs5 (Nat.le_refl _))).alloc _
        have C6 := RowsOf.snoc B6 S6.out A6 D6.out
        have O7 : Hid (w7.ownsRow w.heap.size 83 1 v7 (acc ++ [p6]).length (vs ++ [Value.slice y6 p6.length z6]) ∧ RowsOf w7 w.heap.size (vs ++ [Value.slice y6 p6.length z6]) (acc ++ [p6])) :=
          ⟨by rw [List.length_append]; exact hown7, C6.kept hgr7 (C6.outer (O6.out.1.alloc _) C6.some)⟩
        clear hown7 hgr7 A6 B6 C6
        go_wp2_with fail
        go_roundg (s.size - j6)
        case measure => omega
        case rel =>
          refine ⟨j6, n, acc ++ [p6], vs ++ [Value.slice y6 p6.length z6], hj6, Nat.le_refl _, by simp; omega, hs7, O7.out, ⟨?_, ?_⟩, R7.out, G7.out⟩
          · have h1 := Hn.out
            have h2 := (Hle.out _ l6 rfl).1
            rw [L6.out]
            have h3 : (rest s (j + 1)).length + 1 = (rest s j).length := by rw [rest_lt hlt]; rfl
            omega
          · rw [L6.out]; exact Hv.out.symm
      · have h44' : isAt 44 (rest s j) = false := by simpa using h44
        have R4 := Lib.hid (hRj.out.drewN n3)
        have G4 := Lib.hid (hG.out.drewN n3)
        have O4 : Hid ((wr.drewN n3).ownsRow w.heap.size 83 1 u3 acc.length vs ∧ RowsOf (wr.drewN n3) w.heap.size vs acc) := ⟨own_drewN hown.out.1 n3, hown.out.2.drewN n3⟩
        obtain ⟨w4, hw4⟩ : ∃ w4, w4 = wr.drewN n3 := ⟨_, rfl⟩
        rw [← hw4] at R4 G4 O4 ⊢
        clear hw4
        by_cases hend : j = s.size
        · have q1 : ((j : Int) == (s.size : Int)) = true := by rw [beq_iff_eq]; omega
          have Hend : Hid (r = some acc) := by
            show r = _
            rw [← hval.out.2, rest_ge (by omega)]
            rfl
          clear h44 hend
          go_wp2_with fail
          refine (ended_calls w4 B s j R4.out).mono ?_
          rintro e w5 ⟨rfl, n5, rfl⟩
          go_wp2_with fail
          go_ret
          exact nameP_some Hend.out ⟨vs, own_drewN O4.out.1 n5, O4.out.2.drewN n5⟩ (G4.out.drewN n5)
        · have q1 : ((j : Int) == (s.size : Int)) = false := by rw [beq_eq_false_iff_ne]; omega
          have Hend : Hid (r = none) := by
            show r = _
            rw [← hval.out.2]
            simp only [dnL, h44]
            rw [rest_lt (by omega)]
            rfl
          clear h44 hend
          go_wp2_with fail
          refine (ended_calls w4 B s j R4.out).mono ?_
          rintro e w5 ⟨rfl, n5, rfl⟩
          go_wp2_with fail
          exact ⟨rfl, nameP_none Hend.out (G4.out.drewN n5)⟩
end Sy
end Go.Proofs.YthoealembhkaoaaGreatDoor
namespace Go.Proofs.YthoealembhkaoaaGreatDoor
open Go.RowKit
namespace Sy
set_option linter.unusedVariables false

theorem rdnV_get : ∀ (r : List Pair) (k : Nat) (h : k < r.length), (rdnV r)[2 * k]? = some (strV r[k].1) ∧ (rdnV r)[2 * k + 1]? = some (strV r[k].2)
  | p :: r, 0, _ => by simp [rdnV]
  | p :: r, k + 1, h => by
    have := rdnV_get r k (by simpa using h)
    have e : rdnV (p :: r) = strV p.1 :: strV p.2 :: rdnV r := by simp [rdnV]
    rw [e]
    simpa [Nat.mul_add] using this
theorem own_cells {W : World} {base g n cap : Nat} {e size : Nat} {xs : List Value} (h : W.ownsRow base e size (.slice (some ⟨g, 0, none⟩) n cap) n xs) (j : Nat) (u : Value) (hu : xs[j]? = some u) : W.cell? ⟨g, j, none⟩ = some u := by
  rcases h.2 with ⟨h2, _⟩ | ⟨g', cap', cur, hv, _, hh, hnc, _, hsz, htk⟩
  · cases h2
  · injection hv with h1 h2 h3
    injection h1 with h1
    injection h1 with h1
    subst h1
    have hlt := (List.getElem?_eq_some_iff.1 hu).1
    have h4 := h.1
    simp only [World.cell?, hh]
    rw [← htk, List.getElem?_take_of_lt (by omega)] at hu
    simpa using hu
/-- An answer that tells whether something was found. -/
def Found (b : Bool) (w : World) (e : Ending) (w' : World) : Prop := ∃ n : Int, e = .returned (.int .i64 n) ∧ decide (0 ≤ n) = b ∧ Below w.heap.size w w'

set_option maxHeartbeats 1000000 in
theorem idxAva_calls (g : Nat) (eg : ∀ args w, (callFunc g args).run Tryz.prog w = .ok (.enter g args) w) (p : Pair → Bool) (w : World) (base : Nat) (v : Value) (r : List Pair) (ho : OwnRdn w base v r) (hr : r.length ≤ 4294967296)
    (hp : ∀ W, Below w.heap.size w W → ∀ q ∈ r, Calls Tryz.prog g #[avaV q] W fun e w' => e = .returned (.bool (p q)) ∧ Below W.heap.size W w') :
    Calls Tryz.prog 151 #[v, .func (.func g) #[] #[]] w (Found (r.any p) w) := by
  have HO := Lib.hid ho
  have HP := Lib.hid hp
  clear hp
  obtain ⟨b, hb⟩ : ∃ b, r.any p = b := ⟨_, rfl⟩
  rw [hb]
  have Hb := Lib.hid hb
  clear hb
  rcases ho.2 with ⟨rfl, hr0⟩ | ⟨gb, cap, cur, rfl, hgb, hh, hnc, hcm, hsz, htk⟩
  · have hb : Hid (b = false) := by
      show b = false
      rw [← Hb.out, List.length_eq_zero_iff.1 hr0]; rfl
    clear ho
    go_enter Tryz.func151, Tryz.ntmps151
    go_wp2_with fail
    refine wp_loop_once ?_
    go_wp2_with fail
    go_ret
    exact ⟨-1, rfl, by rw [hb.out]; rfl, Below.refl _ _⟩
  · clear ho hh htk hsz
    go_enter Tryz.func151, Tryz.ntmps151
    go_wp2_with fail
    go_loopg [8] r.length (fun k i wr => ∃ j : Nat, j ≤ r.length ∧ r.length - j ≤ k ∧ i = .int .i64 j ∧ Hid ((r.take j).any p = false) ∧ Hid (Below w.heap.size w wr))
    case atStart => exact ⟨0, Nat.zero_le _, Nat.le_refl _, rfl, rfl, Below.refl _ _⟩
    case round =>
      obtain ⟨j, hj, hk, rfl, hno, hb⟩ := hrel
      by_cases hlt : j < r.length
      · have hget := rdnV_get r j hlt
        have c0 : wr.cell? ⟨gb, 2 * j, none⟩ = some (strV r[j].1) := (hb.out.cell (p := ⟨gb, 2 * j, none⟩) (HO.out.lt gb rfl).2).trans (own_cells HO.out _ _ hget.1)
        have c1 : wr.cell? ⟨gb, 2 * j + 1, none⟩ = some (strV r[j].2) := (hb.out.cell (p := ⟨gb, 2 * j + 1, none⟩) (HO.out.lt gb rfl).2).trans (own_cells HO.out _ _ hget.2)
        clear hget
        have e2 : j * 2 = 2 * j := Nat.mul_comm _ _
        go_wp2_with fail
        refine (HP.out wr hb.out r[j] (List.getElem_mem hlt)).mono ?_
        rintro e w2 ⟨rfl, hb2⟩
        have Hb2 := Lib.hid (hb.out.trans (hb2.mono hb.out.size))
        have Hpos : Hid (p r[j] = true → b = true) := by
          intro h
          rw [← Hb.out]
          exact List.any_eq_true.2 ⟨_, List.getElem_mem hlt, h⟩
        have Hneg : Hid (p r[j] = false → (r.take (j + 1)).any p = false) := by
          intro h
          rw [List.take_succ_eq_append_getElem hlt, List.any_append, hno.out]
          simp [h]
        clear hb2 e2 c0 c1
        generalize p r[j] = q at *
        cases q with
        | true =>
          go_wp2_with fail
          go_ret
          exact ⟨j, rfl, by rw [Hpos.out trivial]; simp, Hb2.out⟩
        | false =>
          go_wp2_with fail
          go_roundg (r.length - (j + 1))
          case measure => omega
          case rel => exact ⟨j + 1, by omega, Nat.le_refl _, by go_num, Hneg.out trivial, Hb2.out⟩
      · go_wp2_with fail
        go_ret
        refine ⟨-1, rfl, ?_, hb.out⟩
        have := hno.out
        rw [List.take_of_length_le (by omega), Hb.out] at this
        rw [this]; rfl

set_option maxHeartbeats 1000000 in
theorem contAva_calls (g : Nat) (eg : ∀ args w, (callFunc g args).run Tryz.prog w = .ok (.enter g args) w) (p : Pair → Bool) (w : World) (base : Nat) (v : Value) (r : List Pair) (ho : OwnRdn w base v r) (hr : r.length ≤ 4294967296)
    (hp : ∀ W, Below w.heap.size w W → ∀ q ∈ r, Calls Tryz.prog g #[avaV q] W fun e w' => e = .returned (.bool (p q)) ∧ Below W.heap.size W w') :
    Calls Tryz.prog 115 #[v, .func (.func g) #[] #[]] w fun e w' => e = .returned (.bool (r.any p)) ∧ Below w.heap.size w w' := by
  have hc := idxAva_calls g eg p w base v r ho hr hp
  clear ho hp
  generalize r.any p = b at *
  go_enter Tryz.func115, Tryz.ntmps115
  go_wp2_with fail
  refine hc.mono ?_
  rintro e w1 ⟨n, rfl, hn, hb⟩
  have Hb := Lib.hid hb
  clear hb hc
  go_wp2_with fail
  go_ret
  exact ⟨rfl, Hb.out⟩

set_option maxHeartbeats 1000000 in
theorem longAva_calls (q : Pair) (w : World) (hq : q.2.length ≤ 4294967296) :
    Calls Tryz.prog 116 #[avaV q] w fun e w' => e = .returned (.bool (decide (1024 < q.2.length))) ∧ Below w.heap.size w w' := by
  unfold avaV strV
  go_enter Tryz.func116, Tryz.ntmps116
  go_wp2_with fail
  go_ret
  exact ⟨ret_bool (by rw [Bool.eq_iff_iff]; simp; omega), (Below.refl _ _).alloc (Nat.le_refl _) _⟩

set_option maxHeartbeats 1000000 in
theorem longRdn_calls (w : World) (base : Nat) (v : Value) (r : List Pair) (ho : OwnRdn w base v r) (hr : r.length ≤ 4294967296) (hq : ∀ q ∈ r, q.2.length ≤ 4294967296) :
    Calls Tryz.prog 114 #[v] w fun e w' => e = .returned (.bool (decide (4 < r.length) || r.any fun q => decide (1024 < q.2.length))) ∧ Below w.heap.size w w' := by
  have hc := contAva_calls 116 (enters_of Tryz.func116 (by kernel_rfl) rfl) (fun q => decide (1024 < q.2.length)) w base v r ho hr (fun W _ q hm => longAva_calls q W (hq q hm))
  generalize r.any (fun q => decide (1024 < q.2.length)) = b at *
  obtain ⟨a, c, rfl⟩ := own_slice ho
  clear ho hq
  by_cases h4 : 4 < r.length
  · have h4' : (4 : Int) < (r.length : Int) := by omega
    go_enter Tryz.func114, Tryz.ntmps114
    go_wp2_with fail
    go_ret
    exact ⟨ret_bool (by simp [h4]), Below.refl _ _⟩
  · have h4' : ¬ (4 : Int) < (r.length : Int) := by omega
    go_enter Tryz.func114, Tryz.ntmps114
    go_wp2_with fail
    refine hc.mono ?_
    rintro e w1 ⟨rfl, hb⟩
    clear hc
    go_wp2_with fail
    go_ret
    exact ⟨ret_bool (by simp [h4]), hb⟩
/-- A part of a name is too long. -/
def longRdn (r : List Pair) : Bool := decide (4 < r.length) || r.any fun q => decide (1024 < q.2.length)

theorem RowsOf.get {w : World} {base : Nat} : ∀ {vs : List Value} {d : List (List Pair)}, RowsOf w base vs d → ∀ (k : Nat) (h : k < d.length), ∃ v : Value, vs[k]? = Option.some v ∧ OwnRdn w base v d[k]
  | v :: vs, r :: rs, h, 0, _ => ⟨v, rfl, h.1⟩
  | v :: vs, r :: rs, h, k + 1, hk => by
    obtain ⟨u, hu, ho⟩ := RowsOf.get h.2.2.2 k (by simpa using hk)
    exact ⟨u, by simpa using hu, by simpa using ho⟩
  | [], [], _, _, hk => by simp at hk
  | [], _ :: _, h, _, _ => h.elim
  | _ :: _, [], h, _, _ => h.elim
theorem own_below {w w' : World} {base : Nat} {e : TypeId} {size n : Nat} {v : Value} {xs : List Value} (h : w.ownsRow base e size v n xs) (hb : Below w.heap.size w w') : w'.ownsRow base e size v n xs :=
  h.kept (row := none) ⟨hb.os, hb.tape, hb.output, hb.size, fun k hk _ => hb.block k hk⟩ (by cases v.ownBlock <;> simp)
theorem RowsOf.below {w w' : World} {base : Nat} {vs : List Value} {d : List (List Pair)} (h : RowsOf w base vs d) (hb : Below w.heap.size w w') : RowsOf w' base vs d :=
  RowsOf.kept (w := w) (w' := w') (row := none) ⟨hb.os, hb.tape, hb.output, hb.size, fun k hk _ => hb.block k hk⟩ h h.some

set_option maxHeartbeats 1000000 in
theorem idxRdn_calls (g : Nat) (eg : ∀ args w, (callFunc g args).run Tryz.prog w = .ok (.enter g args) w) (p : List Pair → Bool) (w : World) (base : Nat) (v : Value) (d : List (List Pair)) (ho : OwnDn w base v d) (hr : d.length ≤ 4294967296)
    (hp : ∀ W u r, r ∈ d → OwnRdn W base u r → Below w.heap.size w W → Calls Tryz.prog g #[u] W fun e w' => e = .returned (.bool (p r)) ∧ Below W.heap.size W w') :
    Calls Tryz.prog 150 #[v, .func (.func g) #[] #[]] w (Found (d.any p) w) := by
  obtain ⟨vs, ho, hrows⟩ := ho
  have HO := Lib.hid ho
  have HR := Lib.hid hrows
  have HP := Lib.hid hp
  clear hp hrows
  obtain ⟨b, hb⟩ : ∃ b, d.any p = b := ⟨_, rfl⟩
  rw [hb]
  have Hb := Lib.hid hb
  clear hb
  rcases ho.2 with ⟨rfl, hr0⟩ | ⟨gb, cap, cur, rfl, hgb, hh, hnc, hcm, hsz, htk⟩
  · have hb : Hid (b = false) := by
      show b = false
      rw [← Hb.out, List.length_eq_zero_iff.1 hr0]; rfl
    clear ho
    go_enter Tryz.func150, Tryz.ntmps150
    go_wp2_with fail
    refine wp_loop_once ?_
    go_wp2_with fail
    go_ret
    exact ⟨-1, rfl, by rw [hb.out]; rfl, Below.refl _ _⟩
  · clear ho hh htk hsz
    go_enter Tryz.func150, Tryz.ntmps150
    go_wp2_with fail
    go_loopg [8] d.length (fun k i wr => ∃ j : Nat, j ≤ d.length ∧ d.length - j ≤ k ∧ i = .int .i64 j ∧ Hid ((d.take j).any p = false) ∧ Hid (Below w.heap.size w wr))
    case atStart => exact ⟨0, Nat.zero_le _, Nat.le_refl _, rfl, rfl, Below.refl _ _⟩
    case round =>
      obtain ⟨j, hj, hk, rfl, hno, hb⟩ := hrel
      by_cases hlt : j < d.length
      · obtain ⟨u, hu, hou⟩ := HR.out.get j hlt
        have c0 : wr.cell? ⟨gb, j, none⟩ = some u := (hb.out.cell (p := ⟨gb, j, none⟩) (HO.out.lt gb rfl).2).trans (own_cells HO.out _ _ hu)
        have Hcall := Lib.hid (HP.out wr u d[j] (List.getElem_mem hlt) (own_below hou hb.out) hb.out)
        obtain ⟨a, c, hue⟩ := own_slice hou
        subst hue
        clear hu hou
        go_wp2_with fail
        refine Hcall.out.mono ?_
        rintro e w2 ⟨rfl, hb2⟩
        have Hb2 := Lib.hid (hb.out.trans (hb2.mono hb.out.size))
        have Hpos : Hid (p d[j] = true → b = true) := by
          intro h
          rw [← Hb.out]
          exact List.any_eq_true.2 ⟨_, List.getElem_mem hlt, h⟩
        have Hneg : Hid (p d[j] = false → (d.take (j + 1)).any p = false) := by
          intro h
          rw [List.take_succ_eq_append_getElem hlt, List.any_append, hno.out]
          simp [h]
        clear hb2 c0 Hcall
        generalize p d[j] = q at *
        cases q with
        | true =>
          go_wp2_with fail
          go_ret
          exact ⟨j, rfl, by rw [Hpos.out trivial]; simp, Hb2.out⟩
        | false =>
          go_wp2_with fail
          go_roundg (d.length - (j + 1))
          case measure => omega
          case rel => exact ⟨j + 1, by omega, Nat.le_refl _, by go_num, Hneg.out trivial, Hb2.out⟩
      · go_wp2_with fail
        go_ret
        refine ⟨-1, rfl, ?_, hb.out⟩
        have := hno.out
        rw [List.take_of_length_le (by omega), Hb.out] at this
        rw [this]; rfl
set_option maxHeartbeats 1000000 in
theorem contRdn_calls (g : Nat) (eg : ∀ args w, (callFunc g args).run Tryz.prog w = .ok (.enter g args) w) (p : List Pair → Bool) (w : World) (base : Nat) (v : Value) (d : List (List Pair)) (ho : OwnDn w base v d) (hr : d.length ≤ 4294967296)
    (hp : ∀ W u r, r ∈ d → OwnRdn W base u r → Below w.heap.size w W → Calls Tryz.prog g #[u] W fun e w' => e = .returned (.bool (p r)) ∧ Below W.heap.size W w') :
    Calls Tryz.prog 113 #[v, .func (.func g) #[] #[]] w fun e w' => e = .returned (.bool (d.any p)) ∧ Below w.heap.size w w' := by
  have hc := idxRdn_calls g eg p w base v d ho hr hp
  clear ho hp
  generalize d.any p = b at *
  go_enter Tryz.func113, Tryz.ntmps113
  go_wp2_with fail
  refine hc.mono ?_
  rintro e w1 ⟨n, rfl, hn, hb⟩
  have Hb := Lib.hid hb
  clear hb hc
  go_wp2_with fail
  go_ret
  exact ⟨rfl, Hb.out⟩
def tooLong (d : List (List Pair)) : Bool := decide (20 < d.length) || d.any longRdn
/-- The lengths that the walk leans on. -/
def Modest (d : List (List Pair)) : Prop := d.length ≤ 4294967296 ∧ ∀ r ∈ d, r.length ≤ 4294967296 ∧ ∀ q ∈ r, q.1.length ≤ 4294967296 ∧ q.2.length ≤ 4294967296
set_option maxHeartbeats 1000000 in
theorem tooLong_calls (w : World) (base : Nat) (v : Value) (d : List (List Pair)) (ho : OwnDn w base v d) (hm : Modest d) :
    Calls Tryz.prog 66 #[v] w fun e w' => e = .returned (.bool (tooLong d)) ∧ Below w.heap.size w w' := by
  have hc := contRdn_calls 114 (enters_of Tryz.func114 (by kernel_rfl) rfl) longRdn w base v d ho hm.1 (fun W u r hr ho _ => longRdn_calls W base u r ho (hm.2 r hr).1 (fun q hq => ((hm.2 r hr).2 q hq).2))
  unfold tooLong
  have hd := hm.1
  generalize d.any longRdn = b at *
  obtain ⟨vs, ho, _⟩ := ho
  obtain ⟨a, c, rfl⟩ := own_slice ho
  clear ho hm
  by_cases h4 : 20 < d.length
  · have h4' : (20 : Int) < (d.length : Int) := by omega
    go_enter Tryz.func66, Tryz.ntmps66
    go_wp2_with fail
    go_ret
    exact ⟨ret_bool (by simp [h4]), Below.refl _ _⟩
  · have h4' : ¬ (20 : Int) < (d.length : Int) := by omega
    go_enter Tryz.func66, Tryz.ntmps66
    go_wp2_with fail
    refine hc.mono ?_
    rintro e w1 ⟨rfl, hb⟩
    clear hc
    go_wp2_with fail
    go_ret
    exact ⟨ret_bool (by simp [h4]), hb⟩
end Sy
end Go.Proofs.YthoealembhkaoaaGreatDoor
