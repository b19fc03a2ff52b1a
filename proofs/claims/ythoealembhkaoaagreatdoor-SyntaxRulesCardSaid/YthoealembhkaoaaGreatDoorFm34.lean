import Derived.Test.YthoealembhkaoaaGreatDoorFm33
import Derived.Test.YthoealembhkaoaaGreatDoorFm27
namespace Go.Proofs.YthoealembhkaoaaGreatDoor
open Go.RowKit
namespace Sy
set_option linter.unusedVariables false
set_option maxRecDepth 100000

theorem rValL_le : ∀ (n : Nat) (b : List UInt8) (k : Nat) (l t l' : List UInt8), rValL n b k l = some (t, l') → l'.length ≤ l.length
  | 0, b, k, l, t, l', h => by simp only [rValL] at h; injection h with h; injection h with h1 h2; rw [h2]; exact Nat.le_refl _
  | n + 1, b, k, [], t, l', h => by simp only [rValL] at h; injection h with h; injection h with h1 h2; rw [← h2]; exact Nat.le_refl _
  | n + 1, b, k, c :: l, t, l', h => by
    simp only [rValL] at h
    split at h
    · split at h
      · rename_i x l2 he
        have := escR_shorter he
        have := rValL_le n _ _ _ _ _ h
        simp; omega
      · cases h
    · split at h
      · injection h with h; injection h with h1 h2; rw [← h2]; exact Nat.le_refl _
      · have := rValL_le n _ _ _ _ _ h
        simp; omega
theorem rPairR_le {l l' : List UInt8} {p : Pair} (h : rPairR l = some (p, l')) : l'.length ≤ l.length := by
  unfold rPairR at h
  split at h
  · cases h
  · rename_i t l2 ht
    have h1 := typR_le ht
    have h2 := skip_le l
    have h3 := skip_le l2
    split at h
    · unfold rValueR at h
      have h4 := skip_le ((skip l2).drop 1)
      simp only [List.length_drop] at h4
      split at h
      · cases hq : hexR ((skip ((skip l2).drop 1)).drop 1) with
        | none => rw [hq] at h; cases h
        | some y =>
          obtain ⟨u, l5⟩ := y
          have h5 := hexR_le hq
          have h6 := skip_le l5
          rw [hq] at h
          simp only [Option.map_some, Option.some.injEq, Prod.mk.injEq] at h
          rw [← h.2]
          simp only [List.length_drop] at h5
          omega
      · cases hq : rValL ((skip ((skip l2).drop 1)).length + 1) [] 0 (skip ((skip l2).drop 1)) with
        | none => rw [hq] at h; cases h
        | some y =>
          obtain ⟨u, l5⟩ := y
          have h5 := rValL_le _ _ _ _ _ _ hq
          rw [hq] at h
          simp only [Option.map_some, Option.some.injEq, Prod.mk.injEq] at h
          rw [← h.2]
          omega
    · cases h
/-- What the reference's reader makes of a whole text. -/
def NameD (r : Option (List (List Pair))) (w : World) (e : Ending) (w' : World) : Prop :=
  match r with
  | some d => ∃ v, e = .returned (.tuple #[v, .bool true]) ∧ OwnDn w' w.heap.size v d ∧ Below w.heap.size w w'
  | none => e = .returned (.tuple #[.slice none 0 0, .bool false]) ∧ Below w.heap.size w w'
theorem nameD_some {r : Option (List (List Pair))} {d : List (List Pair)} {v : Value} {w w' : World} (hr : r = some d) (ho : OwnDn w' w.heap.size v d) (h : Below w.heap.size w w') : NameD r w (.returned (.tuple #[v, .bool true])) w' := by
  rw [hr]; exact ⟨v, rfl, ho, h⟩
theorem nameD_none {r : Option (List (List Pair))} {w w' : World} (hr : r = none) (h : Below w.heap.size w w') : NameD r w (.returned (.tuple #[.slice none 0 0, .bool false])) w' := by
  rw [hr]; exact ⟨rfl, h⟩
theorem balloc (w : World) (o : Obj) : Below w.heap.size w (w.alloc o) := (Below.refl _ _).alloc (Nat.le_refl _) o
/-- A row of rows and a row of pairs lie apart. -/
theorem own_tags {w : World} {b1 b2 n m : Nat} {v u : Value} {xs ys : List Value} (h1 : w.ownsRow b1 83 1 v n xs) (h2 : w.ownsRow b2 85 2 u m ys) : v.ownBlock = none ∨ v.ownBlock ≠ u.ownBlock := by
  rcases h1.2 with ⟨rfl, _⟩ | ⟨g, cap, cur, rfl, _, hh, _⟩
  · exact .inl rfl
  · refine .inr fun e => ?_
    rcases h2.2 with ⟨rfl, _⟩ | ⟨g', cap', cur', rfl, _, hh', _⟩
    · cases e
    · have : g = g' := by simpa [Value.ownBlock] using e
      subst this
      rw [hh] at hh'
      injection hh' with hh'
      injection hh' with _ hh'
      cases hh'
theorem below_of_gr {w W : World} {o : Obj} (h : Gr w.heap.size (w.alloc o) W) : Below w.heap.size w W := by
  have hb := balloc w o
  have hz : (w.alloc o).heap.size = w.heap.size + 1 := by simp
  refine ⟨h.os.trans hb.os, h.tape.trans hb.tape, h.output.trans hb.output, by have := h.size; omega, fun k hk => ?_⟩
  exact (h.block k (by omega) (by intro e; injection e with e; omega)).trans (hb.block k hk)
theorem dn_mono {w : World} {base base' : Nat} {v : Value} {d : List (List Pair)} {vs : List Value} (h1 : w.ownsRow base 83 1 v d.length vs) (h2 : RowsOf w base vs d) (hb : base' ≤ base) : OwnDn w base' v d :=
  ⟨vs, own_mono h1 hb, RowsOf.mono hb h2⟩
theorem rDnL_step (n : Nat) (out : List (List Pair)) (part : List Pair) (l : List UInt8) : rDnL (n + 1) out part l = match rPairR l with
    | none => none
    | some (x, l') =>
      if isAt 43 l' then rDnL n out (part ++ [x]) (l'.drop 1)
      else if l' = [] then some (out ++ [part ++ [x]])
      else if isAt 44 l' then rDnL n (out ++ [part ++ [x]]) [] (l'.drop 1)
      else none := rfl
theorem nameD_none' {r : Option (List (List Pair))} {w w' : World} {B : Nat} (he : w.heap.size = B) (hr : r = none) (h : Below B w w') : NameD r w (.returned (.tuple #[.slice none 0 0, .bool false])) w' := by
  subst he; exact nameD_none hr h
theorem nameD_some' {r : Option (List (List Pair))} {d : List (List Pair)} {v : Value} {vs : List Value} {w w' : World} {B : Nat} (he : w.heap.size = B) (hr : r = some d) (h1 : w'.ownsRow (B + 1) 83 1 v d.length vs) (h2 : RowsOf w' (B + 1) vs d) (h : Below B w w') : NameD r w (.returned (.tuple #[v, .bool true])) w' := by
  subst he; exact nameD_some hr (dn_mono h1 h2 (Nat.le_succ _)) h
/-- No row of a list lies from a block on. -/
def Under (pb : Nat) (vs : List Value) : Prop := ∀ u ∈ vs, ∀ g, u.ownBlock = some g → g < pb
theorem under_ne {w : World} {base pb m : Nat} {vs : List Value} {d : List (List Pair)} {u6 : Value} {xs : List Value} (h : Under pb vs) (hr : RowsOf w base vs d) (h6 : w.ownsRow pb 85 2 u6 m xs) : ∀ u ∈ vs, u.ownBlock ≠ u6.ownBlock := by
  intro u hu e
  cases hb : u.ownBlock with
  | none => exact hr.some u hu hb
  | some g =>
    have h1 := h u hu g hb
    have h2 := own_base_le h6 g (by rw [← e, hb])
    omega
set_option maxHeartbeats 8000000 in
theorem rName_calls (s : ByteArray) (w : World) (hs : s.size < 4294967281) :
    Calls Tryz.prog 82 #[.string s] w (NameD (rDnR s.data.toList) w) := by
  obtain ⟨i0, hi0, hz0, hz1, hz2⟩ := info_parts info83
  obtain ⟨i1, hi1, ha0, ha1, ha2⟩ := info_parts info85
  have hs' : s.size ≤ 4294967296 := by omega
  obtain ⟨r, hr⟩ : ∃ r, rDnR s.data.toList = r := ⟨_, rfl⟩
  rw [hr]
  have Hr := Lib.hid hr
  clear hr
  by_cases hemp : s.data.toList = []
  · have h2 := toList_nil s hemp
    have Hn : Hid (r = some []) := by show r = _; rw [← Hr.out]; unfold rDnR; rw [if_pos hemp]
    clear hemp
    go_enter Tryz.func82, Tryz.ntmps82
    go_wp2_with fail
    go_ret2
    exact nameD_some Hn.out ⟨[], World.ownsRow_nil _ _ _ _, trivial⟩ (balloc _ _)
  · have h2 := toList_ne s hemp
    have Hr1 : Hid (rDnL (s.data.toList.length + 1) [] [] (rest s 0) = r) := by show _ = r; rw [← Hr.out]; unfold rDnR; rw [if_neg hemp]; simp [rest]
    have hlen0 : (rest s 0).length < s.data.toList.length + 1 := by simp [rest]
    have Hlen0 := Lib.hid hlen0
    clear hemp Hr hlen0
    go_enter Tryz.func82, Tryz.ntmps82
    go_wp2_with fail
    have R0 : Hid (Dk _ w.heap.size s 0) := ⟨heap_alloc_new w (.cells #[.string s, .int .i64 0] 124)⟩
    have HB : Hid (∀ W, Gr w.heap.size (w.alloc (.cells #[.string s, .int .i64 0] 124)) W → Below w.heap.size w W) := fun W h => below_of_gr h
    have hsz0 : (w.alloc (.cells #[.string s, .int .i64 0] 124)).heap.size = w.heap.size + 1 := by simp
    obtain ⟨W0, hW0⟩ : ∃ W0, W0 = w.alloc (.cells #[.string s, .int .i64 0] 124) := ⟨_, rfl⟩
    rw [← hW0] at R0 HB hsz0 ⊢
    clear hW0
    obtain ⟨B, hB⟩ : ∃ B, w.heap.size = B := ⟨_, rfl⟩
    have HBe := Lib.hid hB
    rw [hB] at R0 HB hsz0 ⊢
    clear hB h2
    go_loopg [5, 6] (s.size + 1) (fun k ov pv wr => ∃ (j n pb : Nat) (out : List (List Pair)) (part : List Pair) (vs : List Value), j ≤ s.size ∧ s.size - j < k ∧ out.length ≤ j ∧ part.length ≤ j ∧ B + 1 ≤ pb ∧ pb ≤ wr.heap.size ∧ Hid (Under pb vs) ∧ Hid (wr.ownsRow (B + 1) 83 1 ov out.length vs ∧ RowsOf wr (B + 1) vs out) ∧ Hid (OwnRdn wr pb pv part) ∧ Hid ((rest s j).length < n ∧ rDnL n out part (rest s j) = r) ∧ Hid (Dk wr B s j) ∧ Hid (Gr B W0 wr))
    case atStart => exact ⟨0, _, B + 1, [], [], [], Nat.zero_le _, by omega, Nat.le_refl _, Nat.le_refl _, Nat.le_refl _, by omega, (fun u hu => by cases hu), ⟨World.ownsRow_nil _ _ _ _, trivial⟩, World.ownsRow_nil _ _ _ _, ⟨Hlen0.out, Hr1.out⟩, R0.out, Gr.refl _ _⟩
    case round =>
      obtain ⟨j, n, pb, out, part, vs, hj, hk, hoj, hpj, hpb, hpw, hun, hown, hprt, hval, hRj, hG⟩ := hrel
      clear R0 Hr1 Hlen0
      go_wp2_with fail
      refine (rPair_calls wr B s j hRj.out hj hs).mono ?_
      intro e w1 h
      obtain ⟨n, rfl⟩ : ∃ m, n = m + 1 := ⟨n - 1, by have := hval.out.1; omega⟩
      have Hv : Hid (r = _) := (rDnL_step n out part (rest s j) ▸ hval.out.2).symm
      have Hn := Lib.hid hval.out.1
      have Hle := Lib.hid (fun p l' => @rPairR_le (rest s j) l' p)
      have hUB : Hid (∀ u ∈ vs, u.ownBlock ≠ some B) := rows_ne hown.out.2 (Nat.lt_succ_self B)
      have hOB : Hid (∀ (xs : List Value) (v : Value), wr.ownsRow (B + 1) 83 1 v out.length xs → v.ownBlock = none ∨ v.ownBlock ≠ some B) := fun xs v h => own_ne h (Nat.lt_succ_self B)
      have hPB : Hid (u6.ownBlock = none ∨ u6.ownBlock ≠ some B) := own_ne hprt.out (by omega)
      clear hval
      generalize rPairR (rest s j) = q at *
      rcases q with _ | ⟨⟨t, v⟩, l1⟩
      · obtain ⟨⟨x, y, rfl⟩, hg⟩ := h
        have HG1 := Lib.hid (HB.out _ (hG.out.trans hg))
        clear hg
        go_wp2_with fail
        go_ret2
        exact nameD_none' HBe.out Hv.out (HG1.out.alloc (by have := HG1.out.size; have := HBe.out; omega) _)
      obtain ⟨rfl, j1, hj1, hl1, hR1, hG1⟩ := h
      simp only [avaV, strV]
      have R1 := Lib.hid hR1
      have G1 := Lib.hid (hG.out.trans hG1)
      have L1 := Lib.hid hl1
      have O1 : Hid (w1.ownsRow (B + 1) 83 1 u5 out.length vs ∧ RowsOf w1 (B + 1) vs out) := ⟨hown.out.1.kept hG1 (hOB.out _ _ hown.out.1), hown.out.2.kept hG1 hUB.out⟩
      have P1 : Hid (OwnRdn w1 pb u6 part) := hprt.out.kept hG1 hPB.out
      have hp1 : pb ≤ w1.heap.size := Nat.le_trans hpw hG1.size
      have hjj : j ≤ j1 := by
        have := Hle.out _ _ rfl
        rw [← hl1] at this
        simp only [rest, List.length_drop, Array.length_toList] at this
        have hz : s.data.size = s.size := rfl
        omega
      clear hR1 hG1 hl1 hRj hG hown hprt hPB hOB hUB
      go_wp2_with (at_builtin; refine wpList_append_own _ rfl _ _ 83 rfl pb 85 i1 (.agg #[.string ⟨#[]⟩, .string ⟨#[]⟩]) 2 32 Tryz.underlying83 hi1 ha0 ha1 ha2 rfl (by decide) _ _ _ rfl ((P1.out.alloc _).alloc _) ⟨w1.heap.size + 1, 0, none⟩ 1 1 [.string ⟨t.toArray⟩, .string ⟨v.toArray⟩] rfl rfl ?c1 ?c2 ?c3 ?c4 ?c5 ?_)
      case c2 => simp [Value.oneCell']
      case c3 => unfold maxLen; omega
      case c4 => omega
      case c5 => omega
      intro v7 w7 hown7 hgr7 _
      have hPB : u6.ownBlock = none ∨ u6.ownBlock ≠ some B := own_ne P1.out (by omega)
      have R7 : Hid (Dk w7 B s j1) := dk_grown (dk_alloc (dk_alloc R1.out _) _) hgr7 hPB
      have G7 : Hid (Gr B W0 w7) := gr_grown ((G1.out.trans (gr_alloc B w1 _)).trans (gr_alloc B _ _)) hgr7 (by have := G1.out.size; simp; omega) (fun g e => by have := own_base_le P1.out g e; omega)
      have hp7 : pb ≤ w7.heap.size := by have := hgr7.size; simp at this; omega
      have hU6 : ∀ u ∈ vs, u.ownBlock ≠ u6.ownBlock := under_ne hun.out O1.out.2 P1.out
      have O7 : Hid (w7.ownsRow (B + 1) 83 1 u5 out.length vs ∧ RowsOf w7 (B + 1) vs out) :=
        ⟨((O1.out.1.alloc _).alloc _).kept hgr7 (own_tags O1.out.1 P1.out), (RowsOf.kept (World.grownBy_alloc _ _ none) (RowsOf.kept (World.grownBy_alloc _ _ none) O1.out.2 O1.out.2.some) O1.out.2.some).kept hgr7 hU6⟩
      have P7 : Hid (OwnRdn w7 pb v7 (part ++ [(t, v)])) := by
        show World.ownsRow _ _ _ _ _ _ _
        rw [rdnV_snoc, List.length_append]
        exact hown7
      obtain ⟨y7, z7, hv7⟩ := own_slice hown7
      subst hv7
      clear hown7 hgr7 hPB hU6 R1 G1 O1 P1 hp1
      go_wp2_with fail
      refine (rIs_calls w7 B s j1 43 R7.out hj1).mono ?_
      rintro e w8 ⟨rfl, n8, rfl⟩
      have R8 := Lib.hid (R7.out.drewN n8)
      have G8 := Lib.hid (G7.out.drewN n8)
      have O8 : Hid ((w7.drewN n8).ownsRow (B + 1) 83 1 u5 out.length vs ∧ RowsOf (w7.drewN n8) (B + 1) vs out) := ⟨own_drewN O7.out.1 n8, O7.out.2.drewN n8⟩
      have P8 : Hid (OwnRdn (w7.drewN n8) pb (.slice y7 (part.length + 1) z7) (part ++ [(t, v)])) := P7.out
      have hp8 : pb ≤ (w7.drewN n8).heap.size := hp7
      obtain ⟨w8, hw8⟩ : ∃ w8, w8 = w7.drewN n8 := ⟨_, rfl⟩
      rw [← hw8] at R8 G8 O8 P8 hp8 ⊢
      clear hw8 R7 G7 O7 P7 hp7
      have hfl : (rest s j1).length ≤ (rest s j).length := by have := Hle.out _ _ rfl; rw [← L1.out] at this; exact this
      have Hfl := Lib.hid hfl
      clear hfl
      by_cases h43 : isAt 43 (rest s j1) = true
      · have hlt := isAt_lt h43
        have Hv2 : Hid ((rest s (j1 + 1)).length < n ∧ rDnL n out (part ++ [(t, v)]) (rest s (j1 + 1)) = r) := by
          have h := Hv.out
          rw [← L1.out, if_pos h43] at h
          rw [show (rest s j1).drop 1 = rest s (j1 + 1) by simp [rest]] at h
          refine ⟨?_, h.symm⟩
          have h3 : (rest s (j1 + 1)).length + 1 = (rest s j1).length := by rw [rest_lt hlt]; rfl
          have := Hn.out
          have := Hfl.out
          omega
        have b1 := R8.out.c1
        have b2 := R8.out.f1
        clear Hv
        go_wp2_with fail
        have R9 := R8.out.setCell (j1 + 1)
        have G9 := (Gr.refl B w8).setCell 1 (.int .i64 ((j1 + 1 : Nat) : Int))
        rw [show ((j1 + 1 : Nat) : Int) = (j1 : Int) + 1 by omega] at R9 G9
        have O9 : Hid ((w8.setCell ⟨B, 1, none⟩ (.int .i64 ((j1 : Int) + 1))).ownsRow (B + 1) 83 1 u5 out.length vs ∧ RowsOf (w8.setCell ⟨B, 1, none⟩ (.int .i64 ((j1 : Int) + 1))) (B + 1) vs out) :=
          ⟨O8.out.1.kept G9 (own_ne O8.out.1 (Nat.lt_succ_self B)), O8.out.2.kept G9 (rows_ne O8.out.2 (Nat.lt_succ_self B))⟩
        have P9 : Hid (OwnRdn (w8.setCell ⟨B, 1, none⟩ (.int .i64 ((j1 : Int) + 1))) pb (.slice y7 (part.length + 1) z7) (part ++ [(t, v)])) := P8.out.kept G9 (own_ne P8.out (by omega))
        have hp9 : pb ≤ (w8.setCell ⟨B, 1, none⟩ (.int .i64 ((j1 : Int) + 1))).heap.size := Nat.le_trans hp8 G9.size
        have R9' := Lib.hid R9
        have G9' := Lib.hid (G8.out.trans G9)
        clear R9 G9 b1 b2
        go_roundg (s.size - j1)
        case measure => omega
        case rel => exact ⟨j1 + 1, n, pb, out, part ++ [(t, v)], vs, by omega, by omega, by omega, by simp; omega, hpb, hp9, hun.out, O9.out, P9.out, Hv2.out, R9'.out, G9'.out⟩
      · have h43' : isAt 43 (rest s j1) = false := by simpa using h43
        have Hv2 : Hid (r = if rest s j1 = [] then some (out ++ [part ++ [(t, v)]]) else if isAt 44 (rest s j1) = true then rDnL n (out ++ [part ++ [(t, v)]]) [] ((rest s j1).drop 1) else none) := by
          have h := Hv.out
          rw [← L1.out, if_neg h43] at h
          exact h
        clear h43 Hv
        go_wp2_with (at_builtin; refine wpList_append_own _ rfl _ _ 56 rfl (B + 1) 83 i0 (.slice none 0 0) 1 24 Tryz.underlying56 hi0 hz0 hz1 hz2 rfl (by decide) _ _ _ rfl (O8.out.1.alloc _) ⟨w8.heap.size, 0, none⟩ 1 1 [.slice y7 (part.length + 1) z7] rfl rfl ?d1 ?d2 ?d3 ?d4 ?d5 ?_)
        case d1 => exact cell_one_new _ _ _
        case d2 => simp [Value.oneCell']
        case d3 => unfold maxLen; omega
        case d4 => omega
        case d5 => simp; omega
        intro v10 w10 hown10 hgr10 _
        have R10 : Hid (Dk w10 B s j1) := dk_grown (dk_alloc R8.out _) hgr10 (own_ne O8.out.1 (Nat.lt_succ_self B))
        have G10 : Hid (Gr B W0 w10) := gr_grown (G8.out.trans (gr_alloc B w8 _)) hgr10 (by have := G8.out.size; simp; omega) (fun g e => by have := own_base_le O8.out.1 g e; omega)
        have hp10 : B + 1 ≤ w10.heap.size := by have := hgr10.size; simp at this; omega
        have A8 : RowsOf (w8.alloc (Obj.cells #[Value.slice y7 (part.length + 1) z7] 83)) (B + 1) vs out := O8.out.2.kept (World.grownBy_alloc _ _ none) O8.out.2.some
        have B8 : OwnRdn (w8.alloc (Obj.cells #[Value.slice y7 (part.length + 1) z7] 83)) (B + 1) (Value.slice y7 (part.length + 1) z7) (part ++ [(t, v)]) := (own_mono P8.out hpb).alloc _
        have S8 : (Value.slice y7 (part.length + 1) z7).ownBlock ≠ none := own_some P8.out (by simp)
        have C8 := RowsOf.snoc B8 S8 A8 (under_ne hun.out O8.out.2 P8.out)
        have O10 : Hid (w10.ownsRow (B + 1) 83 1 v10 (out ++ [part ++ [(t, v)]]).length (vs ++ [Value.slice y7 (part.length + 1) z7]) ∧ RowsOf w10 (B + 1) (vs ++ [Value.slice y7 (part.length + 1) z7]) (out ++ [part ++ [(t, v)]])) :=
          ⟨by rw [List.length_append]; exact hown10, C8.kept hgr10 (C8.outer (O8.out.1.alloc _) C8.some)⟩
        clear hown10 hgr10 A8 B8 S8 C8 R8 G8 O8 P8 hp8
        have c0 := R10.out.c0
        have c1 := R10.out.c1
        by_cases hend : j1 = s.size
        · have q1 : ((j1 : Int) == (s.size : Int)) = true := by rw [beq_iff_eq]; omega
          have Hend : Hid (r = some (out ++ [part ++ [(t, v)]])) := by
            show r = _
            rw [Hv2.out, if_pos (rest_ge (by omega))]
          clear Hv2 hend
          go_wp2_with fail
          go_quiet (fail)
          go_wp2_with fail
          go_ret2
          exact nameD_some' HBe.out Hend.out (own_drewN O10.out.1 nq) (O10.out.2.drewN nq) (HB.out _ (G10.out.drewN nq))
        · have q1 : ((j1 : Int) == (s.size : Int)) = false := by rw [beq_eq_false_iff_ne]; omega
          have hlt : j1 < s.size := by omega
          have Hv3 : Hid (r = if isAt 44 (rest s j1) = true then rDnL n (out ++ [part ++ [(t, v)]]) [] (rest s (j1 + 1)) else none) := by
            have h := Hv2.out
            rw [if_neg (by rw [rest_lt hlt]; simp), show (rest s j1).drop 1 = rest s (j1 + 1) by simp [rest]] at h
            exact h
          clear Hv2 hend
          go_wp2_with fail
          go_quiet (fail)
          clear q1 c0 c1
          have R11 := Lib.hid (R10.out.drewN nq)
          have G11 := Lib.hid (G10.out.drewN nq)
          have O11 : Hid ((w10.drewN nq).ownsRow (B + 1) 83 1 v10 (out ++ [part ++ [(t, v)]]).length (vs ++ [Value.slice y7 (part.length + 1) z7]) ∧ RowsOf (w10.drewN nq) (B + 1) (vs ++ [Value.slice y7 (part.length + 1) z7]) (out ++ [part ++ [(t, v)]])) := ⟨own_drewN O10.out.1 nq, O10.out.2.drewN nq⟩
          have hp11 : B + 1 ≤ (w10.drewN nq).heap.size := hp10
          obtain ⟨w11, hw11⟩ : ∃ w11, w11 = w10.drewN nq := ⟨_, rfl⟩
          rw [← hw11] at R11 G11 O11 hp11 ⊢
          clear hw11 R10 G10 O10 hp10
          go_wp2_with fail
          refine (rIs_calls w11 B s j1 44 R11.out hj1).mono ?_
          rintro e w12 ⟨rfl, n12, rfl⟩
          have R12 := Lib.hid (R11.out.drewN n12)
          have G12 := Lib.hid (G11.out.drewN n12)
          have O12 : Hid ((w11.drewN n12).ownsRow (B + 1) 83 1 v10 (out ++ [part ++ [(t, v)]]).length (vs ++ [Value.slice y7 (part.length + 1) z7]) ∧ RowsOf (w11.drewN n12) (B + 1) (vs ++ [Value.slice y7 (part.length + 1) z7]) (out ++ [part ++ [(t, v)]])) := ⟨own_drewN O11.out.1 n12, O11.out.2.drewN n12⟩
          have hp12 : B + 1 ≤ (w11.drewN n12).heap.size := hp11
          obtain ⟨w12, hw12⟩ : ∃ w12, w12 = w11.drewN n12 := ⟨_, rfl⟩
          rw [← hw12] at R12 G12 O12 hp12 ⊢
          clear hw12 R11 G11 O11 hp11
          by_cases h44 : isAt 44 (rest s j1) = true
          · have Hv4 : Hid ((rest s (j1 + 1)).length < n ∧ rDnL n (out ++ [part ++ [(t, v)]]) [] (rest s (j1 + 1)) = r) := by
              have h := Hv3.out
              rw [if_pos h44] at h
              refine ⟨?_, h.symm⟩
              have h3 : (rest s (j1 + 1)).length + 1 = (rest s j1).length := by rw [rest_lt hlt]; rfl
              have := Hn.out
              have := Hfl.out
              omega
            have b1 := R12.out.c1
            have b2 := R12.out.f1
            clear Hv3
            go_wp2_with fail
            have R13 := R12.out.setCell (j1 + 1)
            have G13 := (Gr.refl B w12).setCell 1 (.int .i64 ((j1 + 1 : Nat) : Int))
            rw [show ((j1 + 1 : Nat) : Int) = (j1 : Int) + 1 by omega] at R13 G13
            have O13 : Hid ((w12.setCell ⟨B, 1, none⟩ (.int .i64 ((j1 : Int) + 1))).ownsRow (B + 1) 83 1 v10 (out ++ [part ++ [(t, v)]]).length (vs ++ [Value.slice y7 (part.length + 1) z7]) ∧ RowsOf (w12.setCell ⟨B, 1, none⟩ (.int .i64 ((j1 : Int) + 1))) (B + 1) (vs ++ [Value.slice y7 (part.length + 1) z7]) (out ++ [part ++ [(t, v)]])) :=
              ⟨O12.out.1.kept G13 (own_ne O12.out.1 (Nat.lt_succ_self B)), O12.out.2.kept G13 (rows_ne O12.out.2 (Nat.lt_succ_self B))⟩
            have hp13 : B + 1 ≤ (w12.setCell ⟨B, 1, none⟩ (.int .i64 ((j1 : Int) + 1))).heap.size := Nat.le_trans hp12 G13.size
            have hun13 : Hid (Under (w12.setCell ⟨B, 1, none⟩ (.int .i64 ((j1 : Int) + 1))).heap.size (vs ++ [Value.slice y7 (part.length + 1) z7])) := fun u hu g hg => (O13.out.2.lt u hu g hg).2.1
            have R13' := Lib.hid R13
            have G13' := Lib.hid (G12.out.trans G13)
            clear R13 G13 b1 b2
            go_roundg (s.size - j1)
            case measure => omega
            case rel => exact ⟨j1 + 1, n, (w12.setCell ⟨B, 1, none⟩ (.int .i64 ((j1 : Int) + 1))).heap.size, out ++ [part ++ [(t, v)]], [], vs ++ [Value.slice y7 (part.length + 1) z7], by omega, by omega, by simp; omega, Nat.zero_le _, hp13, Nat.le_refl _, hun13.out, O13.out, World.ownsRow_nil _ _ _ _, Hv4.out, R13'.out, G13'.out⟩
          · have h44' : isAt 44 (rest s j1) = false := by simpa using h44
            have Hend : Hid (r = none) := by
              show r = _
              rw [Hv3.out, if_neg h44]
            clear h44 Hv3
            go_wp2_with fail
            go_ret2
            exact nameD_none' HBe.out Hend.out (HB.out _ G12.out)
end Sy
end Go.Proofs.YthoealembhkaoaaGreatDoor
namespace Go.Proofs.YthoealembhkaoaaGreatDoor
open Go.RowKit
namespace Sy
set_option linter.unusedVariables false
set_option maxRecDepth 100000

set_option maxHeartbeats 2000000 in
theorem rParse_calls (s : ByteArray) (w : World) (hs : s.size ≤ 9223372036854775807) :
    Calls Tryz.prog 49 #[.string s] w (ParseP (parseR s.data.toList) w) := by
  have hsl : s.data.toList.length = s.size := by simp
  by_cases hl : 65536 < s.size
  · have hl' : (65536 : Int) < (s.size : Int) := by omega
    have hp : parseR s.data.toList = (none, 2) := by
      unfold parseR
      rw [if_pos (by rw [hsl]; exact hl)]
    rw [hp]
    clear hp
    go_enter Tryz.func49, Tryz.ntmps49
    go_wp2_with fail
    go_ret2
    exact ⟨_, rfl, rfl, Below.refl _ _⟩
  · have hl' : ¬ (65536 : Int) < (s.size : Int) := by omega
    have hn := rName_calls s w (by omega)
    rw [rDn_eq] at hn
    have hm := fun d h => @dnR_modest s.data.toList d h (by omega)
    have hp : parseR s.data.toList = match dnR s.data.toList with
        | none => (none, 30)
        | some d => if tooLong d then (none, 2) else (some d, 0) := by
      unfold parseR
      rw [if_neg (by rw [hsl]; exact hl)]
      rfl
    rw [hp]
    clear hp
    generalize dnR s.data.toList = q at *
    have HM := Lib.hid hm
    clear hm hsl
    cases q with
    | none =>
      go_enter Tryz.func49, Tryz.ntmps49
      go_wp2_with fail
      refine hn.mono ?_
      rintro e w1 ⟨rfl, hb⟩
      clear hn
      go_wp2_with fail
      go_ret2
      exact ⟨_, rfl, rfl, hb⟩
    | some d =>
      cases hbe : tooLong d with
      | true =>
        have HB := Lib.hid hbe
        clear hbe
        change Calls _ _ _ _ (ParseP (if tooLong d = true then (none, 2) else (some d, 0)) w)
        rw [if_pos HB.out]
        go_enter Tryz.func49, Tryz.ntmps49
        go_wp2_with fail
        refine hn.mono ?_
        rintro e w1 ⟨v, rfl, ho, hb⟩
        have HO := Lib.hid ho
        have HBl := Lib.hid hb
        have hf := rFits_calls w1 _ v d ho (HM.out d rfl)
        rw [HB.out] at hf
        clear hn ho hb
        go_wp2_with fail
        refine hf.mono ?_
        rintro e w2 ⟨rfl, rfl⟩
        clear hf
        go_wp2_with fail
        go_ret2
        exact ⟨_, rfl, rfl, HBl.out⟩
      | false =>
        have HB := Lib.hid hbe
        clear hbe
        change Calls _ _ _ _ (ParseP (if tooLong d = true then (none, 2) else (some d, 0)) w)
        rw [if_neg (by rw [HB.out]; simp)]
        go_enter Tryz.func49, Tryz.ntmps49
        go_wp2_with fail
        refine hn.mono ?_
        rintro e w1 ⟨v, rfl, ho, hb⟩
        have HO := Lib.hid ho
        have HBl := Lib.hid hb
        have hf := rFits_calls w1 _ v d ho (HM.out d rfl)
        rw [HB.out] at hf
        clear hn ho hb
        go_wp2_with fail
        refine hf.mono ?_
        rintro e w2 ⟨rfl, rfl⟩
        clear hf
        go_wp2_with fail
        go_ret2
        exact ⟨_, rfl, HO.out, HBl.out⟩
end Sy
end Go.Proofs.YthoealembhkaoaaGreatDoor
namespace Go.Proofs.YthoealembhkaoaaGreatDoor
open Go.RowKit
namespace Sy
set_option linter.unusedVariables false
set_option maxRecDepth 100000

theorem rPrep_calls (s : ByteArray) (fold : Bool) (w : World) (hs : s.size ≤ 4294967296) :
    Calls Tryz.prog 42 #[.string s, .bool fold] w fun e w' => e = .returned (mappedV (prepR fold s.data.toList)) ∧ Below w.heap.size w w' := by
  rw [← prep_eq]
  exact rPrepare_calls s fold w hs
set_option maxHeartbeats 1000000 in
theorem rValid_long (f s : ByteArray) (w : World) (hl : 1024 < s.size) :
    Calls Tryz.prog 23 #[.string f, .string s] w fun e w' => e = .returned (.bool false) ∧ w' = w := by
  have hl' : (1024 : Int) < (s.size : Int) := by omega
  go_enter Tryz.func23, Tryz.ntmps23
  go_wp2_with fail
  go_ret
  exact ⟨rfl, rfl⟩
set_option maxHeartbeats 2000000 in
theorem rValid_ascii (s : ByteArray) (w : World) (hl : s.size ≤ 1024) :
    Calls Tryz.prog 23 #[.string Form.ascii.word, .string s] w fun e w' => e = .returned (.bool (isAscii s.data.toList)) ∧ w' = w := by
  obtain ⟨r, hr⟩ : ∃ r, isAscii s.data.toList = r := ⟨_, rfl⟩
  rw [hr]
  have Hr := Lib.hid hr
  have hl' : ¬ (1024 : Int) < (s.size : Int) := by omega
  clear hr
  simp only [Form.word]
  go_enter Tryz.func23, Tryz.ntmps23
  go_wp2_with fail
  go_loopg [7] s.size (fun k iv wr => (∃ i : Nat, i ≤ s.size ∧ s.size - i ≤ k ∧ iv = .int .i64 i ∧ Hid (isAscii (rest s i) = r)) ∧ wr = w)
  case atStart => exact ⟨⟨0, Nat.zero_le _, Nat.le_refl _, rfl, Hr.out⟩, rfl⟩
  case round =>
    obtain ⟨⟨i, hi, hk, rfl, hI⟩, rfl⟩ := hrel
    by_cases hlt : i < s.size
    · have Hrt := Lib.hid (rest_lt hlt)
      by_cases hc : (128 : Int) ≤ (s[i].toNat : Int)
      · have Hn : Hid (r = false) := by
          show r = _
          rw [← hI.out, Hrt.out]
          have : ¬ s[i].toNat < 128 := by omega
          simp [isAscii, this]
        go_wp2_with fail
        go_ret
        exact ⟨by rw [Hn.out]; rfl, rfl⟩
      · have Hn : Hid (isAscii (rest s (i + 1)) = r) := by
          show _ = r
          rw [← hI.out, Hrt.out]
          have : s[i].toNat < 128 := by omega
          simp [isAscii, this]
        go_wp2_with fail
        go_roundg (s.size - (i + 1))
        case measure => omega
        case rel => exact ⟨⟨i + 1, by omega, Nat.le_refl _, by go_num, Hn.out⟩, rfl⟩
    · have Hn : Hid (r = true) := by
        show r = _
        rw [← hI.out, rest_ge (by omega)]; rfl
      go_wp2_with fail
      go_ret
      exact ⟨by rw [Hn.out]; rfl, rfl⟩
set_option maxHeartbeats 2000000 in
theorem rValid_calls (f : Form) (s : ByteArray) (w : World) (hs : s.size ≤ 9223372036854775807) :
    Calls Tryz.prog 23 #[.string f.word, .string s] w fun e w' => e = .returned (.bool (f.ok s.data.toList)) ∧ Below w.heap.size w w' := by
  have hsl : s.data.toList.length = s.size := by simp
  unfold Form.ok
  by_cases hl : 1024 < s.size
  · have hd : decide (s.data.toList.length ≤ 1024) = false := by simp; omega
    rw [hd]
    exact (rValid_long f.word s w hl).mono fun e w' h => ⟨h.1, by rw [h.2]; exact Below.refl _ _⟩
  · have hl' : ¬ (1024 : Int) < (s.size : Int) := by omega
    have hd : decide (s.data.toList.length ≤ 1024) = true := by simp; omega
    rw [hd, Bool.true_and]
    clear hd
    cases f with
    | octets =>
      simp only [Form.word, Form.of]
      go_enter Tryz.func23, Tryz.ntmps23
      go_wp2_with fail
      go_ret
      exact ⟨rfl, Below.refl _ _⟩
    | text =>
      have hc := rPrep_calls s false w (by omega)
      simp only [Form.word, Form.of]
      generalize prepR false s.data.toList = t at *
      cases t with
      | none =>
        go_enter Tryz.func23, Tryz.ntmps23
        go_wp2_with fail
        refine hc.mono ?_
        rintro e w1 ⟨rfl, hb⟩
        clear hc
        simp only [mappedV]
        go_wp2_with fail
        all_goals (go_ret; exact ⟨ret_bool (by simp), hb⟩)
      | some t =>
        go_enter Tryz.func23, Tryz.ntmps23
        go_wp2_with fail
        refine hc.mono ?_
        rintro e w1 ⟨rfl, hb⟩
        clear hc
        simp only [mappedV, strV]
        go_wp2_with fail
        all_goals (go_ret; refine ⟨ret_bool ?_, hb⟩)
        all_goals (rename_i h; rw [ByteArray.toList_eq] at *; simp [h])
    | ascii =>
      exact (rValid_ascii s w (by omega)).mono fun e w' h => ⟨h.1, by rw [h.2]; exact Below.refl _ _⟩
    | integer =>
      have hc := rInteger_calls s w (by omega)
      simp only [Form.word, Form.of]
      generalize isInt s.data.toList = t at *
      go_enter Tryz.func23, Tryz.ntmps23
      go_wp2_with fail
      refine hc.mono ?_
      rintro e w1 ⟨rfl, rfl⟩
      clear hc
      go_wp2_with fail
      go_ret
      exact ⟨rfl, Below.refl _ _⟩
    | boolean =>
      simp only [Form.word, Form.of]
      go_enter Tryz.func23, Tryz.ntmps23
      go_wp2_with fail
      all_goals (go_ret; refine ⟨ret_bool ?_, Below.refl _ _⟩)
      all_goals (rename_i h; rw [ByteArray.toList_eq] at *; simp [isTrue, isFalse, h])
    | name =>
      have hc := rParse_calls s w hs
      simp only [Form.word, Form.of]
      generalize parseR s.data.toList = t at *
      obtain ⟨t1, t2⟩ := t
      go_enter Tryz.func23, Tryz.ntmps23
      go_wp2_with fail
      refine hc.mono ?_
      rintro e w1 ⟨v, rfl, _, hb⟩
      clear hc
      go_wp2_with fail
      go_ret
      exact ⟨ret_bool (by rw [Bool.eq_iff_iff]; simp), hb⟩
    | oid =>
      have hc := rTypeOf_calls s w (by omega)
      simp only [Form.word, Form.of]
      generalize isType s.data.toList = t at *
      go_enter Tryz.func23, Tryz.ntmps23
      go_wp2_with fail
      refine hc.mono ?_
      rintro e w1 ⟨rfl, rfl⟩
      clear hc
      go_wp2_with fail
      go_ret
      exact ⟨rfl, Below.refl _ _⟩
    | time =>
      have hc := rTime_calls s w (by omega)
      simp only [Form.word, Form.of]
      generalize isTm s.data.toList = t at *
      go_enter Tryz.func23, Tryz.ntmps23
      go_wp2_with fail
      refine hc.mono ?_
      rintro e w1 ⟨rfl, hb⟩
      clear hc
      go_wp2_with fail
      go_ret
      exact ⟨rfl, hb⟩
/-- A name of no form, and the empty one. -/
def noForms : List ByteArray := [⟨#[110, 111, 110, 101]⟩, ⟨#[]⟩]
set_option maxHeartbeats 2000000 in
theorem valid_no (f s : ByteArray) (hf : f ∈ noForms) (w : World) :
    Calls Tryz.prog 13 #[.string f, .string s] w fun e w' => e = .returned (.bool false) ∧ w' = w := by
  by_cases hl : 1024 < s.size
  · exact valid_long f s w hl
  · have hl' : ¬ (1024 : Int) < (s.size : Int) := by omega
    simp only [noForms, List.mem_cons, List.not_mem_nil, or_false] at hf
    rcases hf with rfl | rfl
    all_goals
      go_enter Tryz.func13, Tryz.ntmps13
      go_wp2_with fail
      go_ret
      exact ⟨rfl, rfl⟩
set_option maxHeartbeats 2000000 in
theorem rValid_no (f s : ByteArray) (hf : f ∈ noForms) (w : World) :
    Calls Tryz.prog 23 #[.string f, .string s] w fun e w' => e = .returned (.bool false) ∧ w' = w := by
  by_cases hl : 1024 < s.size
  · exact rValid_long f s w hl
  · have hl' : ¬ (1024 : Int) < (s.size : Int) := by omega
    simp only [noForms, List.mem_cons, List.not_mem_nil, or_false] at hf
    rcases hf with rfl | rfl
    all_goals
      go_enter Tryz.func23, Tryz.ntmps23
      go_wp2_with fail
      go_ret
      exact ⟨rfl, rfl⟩
end Sy
end Go.Proofs.YthoealembhkaoaaGreatDoor
