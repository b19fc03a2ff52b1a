import Derived.Test.YthoealembhkaoaaGreatDoorRu06
namespace Go.Proofs.YthoealembhkaoaaGreatDoor
open Go.RowKit
namespace Sy
set_option linter.unusedVariables false
set_option linter.unusedSimpArgs false

theorem normPair_pw (q : Pair) : pw (normPair q) ≤ pw q := by
  have h : ((prepR true q.2).getD q.2).length ≤ q.2.length := by
    cases ht : prepR true q.2 with
    | none => exact Nat.le_refl _
    | some t => exact prepR_le ht
  simp only [pw, normPair, small_length]
  omega
theorem rowW_norm : ∀ r : List Pair, rowW (r.map normPair) ≤ rowW r
  | [] => Nat.le_refl _
  | q :: r => by
    have h1 := normPair_pw q
    have h2 := rowW_norm r
    simp only [rowW, List.map_cons, List.sum_cons] at h2 ⊢
    omega
theorem rowW_perm {a b : List Pair} (h : a.Perm b) : rowW a = rowW b := by
  induction h with
  | nil => rfl
  | cons x _ ih => simp only [rowW, List.map_cons, List.sum_cons] at ih ⊢; omega
  | swap x y l => simp only [rowW, List.map_cons, List.sum_cons]; omega
  | trans _ _ h1 h2 => exact h1.trans h2
theorem compact_w : ∀ (k : Nat) (l : List Pair), l.length = k → rowW (Lib.compact l) ≤ rowW l
  | 0, l, hk => by
    have : l = [] := List.length_eq_zero_iff.1 hk
    subst this
    exact Nat.le_refl _
  | k + 1, l, hk => by
    rcases nil_or_snoc l with rfl | ⟨m, x, rfl⟩
    · simp at hk
    · have h1 := compact_w k m (by simpa using hk)
      rw [compact_snoc, rowW_snoc]
      split
      · omega
      · rw [rowW_snoc]; omega
theorem rowW_part (r : List Pair) : rowW (normRow r) ≤ rowW r := by
  have h1 := compact_w _ (sortR (r.map normPair)) rfl
  rw [rowW_perm (sortR_spec (r.map normPair)).1] at h1
  exact Nat.le_trans h1 (rowW_norm r)
theorem dnW_norm : ∀ d : List (List Pair), dnW (d.map normRow) ≤ dnW d
  | [] => Nat.le_refl _
  | r :: d => by
    have h1 := rowW_part r
    have h2 := dnW_norm d
    simp only [dnW, List.map_cons, List.sum_cons] at h2 ⊢
    omega
theorem mem_normRow {r : List Pair} {q : Pair} (h : q ∈ normRow r) : ∃ q0 ∈ r, q = normPair q0 := by
  have h1 := (compact_sorted _ (sortR (r.map normPair)) rfl (sortR_spec _).2).2.1 q h
  have h2 := (sortR_spec (r.map normPair)).1.mem_iff.1 h1
  obtain ⟨p, hp, rfl⟩ := List.mem_map.1 h2
  exact ⟨p, hp, rfl⟩
theorem join_sum (sep : List UInt8) : ∀ l : List (List UInt8), (Lib.join l sep).length ≤ (l.map List.length).sum + l.length * sep.length
  | [] => by simp [Lib.join]
  | [x] => by simp [Lib.join]
  | x :: y :: l => by
    have h2 := join_sum sep (y :: l)
    have e1 : Lib.join (x :: y :: l) sep = x ++ (sep ++ Lib.join (y :: l) sep) := by simp [Lib.join, List.intercalate]
    rw [e1]
    simp only [List.length_append, List.length_cons, List.map_cons, List.sum_cons] at h2 ⊢
    have : (l.length + 1 + 1) * sep.length = (l.length + 1) * sep.length + sep.length := by rw [Nat.add_mul (l.length + 1) 1, Nat.one_mul]
    omega
theorem pairT_sum (q : Pair) : (pairT q).length ≤ 3 * pw q + 2 := by
  have := writtenR_len q.2
  simp only [pairT, pw, List.length_append, List.length_cons, List.length_nil]
  omega
theorem pairs_sum : ∀ r : List Pair, ((r.map pairT).map List.length).sum ≤ 3 * rowW r + 2 * r.length
  | [] => Nat.le_refl _
  | q :: r => by
    have h1 := pairT_sum q
    have h2 := pairs_sum r
    simp only [rowW, List.map_cons, List.sum_cons, List.length_cons] at h2 ⊢
    omega
theorem rowT_sum (r : List Pair) (h : r.length ≤ 4) : (rowT r).length ≤ 3 * rowW r + 12 := by
  have h1 := join_sum [43] (r.map pairT)
  have h2 := pairs_sum r
  simp only [List.length_map, List.length_cons, List.length_nil] at h1
  unfold rowT
  omega
theorem rows_sum : ∀ d : List (List Pair), (∀ r ∈ d, r.length ≤ 4) → ((d.map rowT).map List.length).sum ≤ 3 * dnW d + 12 * d.length
  | [], _ => Nat.le_refl _
  | r :: d, h => by
    have h1 := rowT_sum r (h r (by simp))
    have h2 := rows_sum d (fun x hx => h x (by simp [hx]))
    simp only [dnW, List.map_cons, List.sum_cons, List.length_cons] at h2 ⊢
    omega
theorem dnT_sum (d : List (List Pair)) (h : ∀ r ∈ d, r.length ≤ 4) : (dnT d).length ≤ 3 * dnW d + 13 * d.length := by
  have h1 := join_sum [44] (d.map rowT)
  have h2 := rows_sum d h
  simp only [List.length_map, List.length_cons, List.length_nil] at h1
  unfold dnT
  omega
/-- A name that was read out of a short text prints in its normal form. -/
theorem norm_prints {l : List UInt8} {d : List (List Pair)} (hl : l.length ≤ 1024) (h : parseR l = (some d, 0)) (hn : Narrow d) :
    printR (d.map normRow) = (some (dnT (d.map normRow)), 0) := by
  obtain ⟨hw, ht⟩ := parse_sum h
  have hne := parse_ne h
  have hlen : ∀ r ∈ d, (normRow r).length ≤ 4 := fun r hr => (normRow_tight (hn.2 r hr)).1
  have h1 : (d.map normRow).any badRow = false := by
    rw [List.any_eq_false]
    intro r hr
    obtain ⟨r0, hr0, rfl⟩ := List.mem_map.1 hr
    have hpos : 0 < (normRow r0).length := part_ne (by simpa using hne r0 hr0)
    have he : (normRow r0).isEmpty = false := by
      cases hx : normRow r0 with
      | nil => rw [hx] at hpos; simp at hpos
      | cons _ _ => rfl
    have ha : ((normRow r0).any fun q => !isType q.1) = false := by
      rw [List.any_eq_false]
      intro q hq
      obtain ⟨q0, hq0, rfl⟩ := mem_normRow hq
      have := isType_small (ht r0 hr0 q0 hq0)
      simp only [normPair]
      rw [this]; simp
    unfold badRow
    rw [he, ha]; simp
  have h2 : tooLong (d.map normRow) = false := by
    unfold tooLong
    have e1 : decide (20 < (d.map normRow).length) = false := by
      have := hn.1
      simp; omega
    have e2 : (d.map normRow).any longRdn = false := by
      rw [List.any_eq_false]
      intro r hr
      obtain ⟨r0, hr0, rfl⟩ := List.mem_map.1 hr
      have h4 := hlen r0 hr0
      have e3 : decide (4 < (normRow r0).length) = false := by simp; omega
      have e4 : ((normRow r0).any fun q => decide (1024 < q.2.length)) = false := by
        rw [List.any_eq_false]
        intro q hq
        obtain ⟨q0, hq0, rfl⟩ := mem_normRow hq
        have hb := ((hn.2 r0 hr0).2 q0 hq0).2
        have hp : ((prepR true q0.2).getD q0.2).length ≤ q0.2.length := by
          cases hx : prepR true q0.2 with
          | none => exact Nat.le_refl _
          | some t => exact prepR_le hx
        show ¬ decide (1024 < ((prepR true q0.2).getD q0.2).length) = true
        rw [decide_eq_true_eq]
        omega
      unfold longRdn
      rw [e3, e4]; simp
    rw [e1, e2]; rfl
  have h3 : ¬ 65536 < (dnT (d.map normRow)).length := by
    have a1 := dnT_sum (d.map normRow) (fun r hr => by obtain ⟨r0, hr0, rfl⟩ := List.mem_map.1 hr; exact hlen r0 hr0)
    have a2 := dnW_norm d
    have a3 := hn.1
    simp only [List.length_map] at a1
    omega
  unfold printR
  rw [if_neg (by rw [h1]; simp), if_neg (by rw [h2]; simp), if_neg h3]

/-- The reference's normal form is the program's. -/
theorem rNormA_eq (b : Base) (v : List UInt8) : rNormA b v = match normB b v with
    | none => (none, 40)
    | some s => (some s, 0) := by
  unfold rNormA normB
  by_cases hc : ((b.forms.any fun f => f.ok v) = true)
  · have hl := ok_short hc
    rw [if_pos hc, if_pos ⟨hl, hc⟩]
    cases b
    case exact =>
      have := text_prep false (l := v) hc
      simp only [rNormB, Base.norm]
      cases hp : prepR false v with
      | none => rw [hp] at this; cases this
      | some t => rfl
    case ignore =>
      have := text_prep true (l := v) hc
      simp only [rNormB, Base.norm]
      cases hp : prepR true v with
      | none => rw [hp] at this; cases this
      | some t => rfl
    case dn =>
      have hpq : ∃ d, parseR v = (some d, 0) ∧ Narrow d := by
        rcases parseR_cases v with ⟨c, hx, hc0⟩ | h
        · exfalso
          simp only [Base.forms, List.any_cons, List.any_nil, Bool.or_false, Form.ok, Form.of, Bool.and_eq_true] at hc
          have h8 := hc.2
          rw [hx] at h8
          simp at h8
          exact hc0 h8
        · exact h
      obtain ⟨d, hd, hnar⟩ := hpq
      have hpr := norm_prints hl hd hnar
      simp only [rNormB, Base.norm, nameR, hd, Option.getD_some, hpr]
    all_goals rfl
  · rw [if_neg hc, if_neg (fun h => hc h.2)]
theorem rNormK_eq (n v : List UInt8) : rNormK (ruleOf (small n)) v = normF n v := by
  unfold normF askR rNormK
  cases ruleOf (small n) with
  | none => rfl
  | some e =>
    obtain ⟨b, kd⟩ := e
    simp only
    split
    · rw [rNormA_eq]
      cases hx : normB b v <;> simp [hx]
    · rfl
theorem rSameK_eq (n x y : List UInt8) : rSameK (rNormK (ruleOf (small n)) x) (rNormK (ruleOf (small n)) y) = sameF n x y := by
  unfold sameF askR rNormK bothR
  cases ruleOf (small n) with
  | none => rfl
  | some e =>
    obtain ⟨b, kd⟩ := e
    simp only
    split
    · rw [rNormA_eq, rNormA_eq]; cases hx : normB b x <;> cases hy : normB b y <;> simp [hx, hy, rSameK, rOrderB]
    · rfl
theorem rOrderK_eq (n x y : List UInt8) : rOrderK (ruleOf (small n)) x y = orderF n x y := by
  unfold orderF askR rOrderK bothR
  cases ruleOf (small n) with
  | none => rfl
  | some e =>
    obtain ⟨b, kd⟩ := e
    simp only
    split
    · rw [rNormA_eq, rNormA_eq]; cases hx : normB b x <;> cases hy : normB b y <;> simp [hx, hy, rSameK, rOrderB]
    · rfl
end Sy
end Go.Proofs.YthoealembhkaoaaGreatDoor
namespace Go.Proofs.YthoealembhkaoaaGreatDoor
open Go.RowKit
namespace Sy
set_option linter.unusedVariables false
set_option linter.unusedSimpArgs false
set_option maxRecDepth 100000

theorem rRules_own (w : World) : Calls Tryz.prog 14 #[] w fun e w' => e = .returned (.slice (some ⟨w.heap.size, 0, none⟩) 15 15) ∧ w'.ownsRow w.heap.size 9 1 (.slice (some ⟨w.heap.size, 0, none⟩) 15 15) 15 (ruleNames.map Value.string) ∧ Below w.heap.size w w' := by
  go_enter Tryz.func14, Tryz.ntmps14
  go_wp2_with fail
  go_ret
  exact ⟨rfl, World.ownsRow_lit w (ruleNames.map Value.string).toArray 15 (Nat.le_refl _) (by unfold maxLen; omega) rfl, alloc_below _ _⟩
theorem names_short {o : ByteArray} (ho : o.size ≤ 140737488351232) : ∀ i (h : i < (ruleNames ++ [o]).length), ((ruleNames ++ [o])[i]'h).size ≤ 140737488351232 := by
  intro i h
  have hm := List.getElem_mem h
  rcases List.mem_append.1 hm with hm | hm
  · have : ∀ n ∈ ruleNames, n.size ≤ 40 := by decide
    have := this _ hm
    omega
  · rw [List.mem_singleton.1 hm]; exact ho

set_option maxHeartbeats 8000000 in
theorem rules_go (a b o : ByteArray) (w : World) (he : Env w) (ha : a.size ≤ 140737488351232) (hb : b.size ≤ 140737488351232) (ho : o.size ≤ 140737488351232) :
    Calls Tryz.prog 4 #[.string a, .string b, .string o] w fun e w' => e = .returned (.bool true) ∧ Below w.heap.size w w' := by
  obtain ⟨i0, hi0, hz0, hz1, hz2⟩ := info_parts info9
  have HE := Lib.hid he
  have HS := Lib.hid (names_short ho)
  have HLen : (ruleNames ++ [o]).length = 16 := rfl
  clear he
  go_enter Tryz.func4, Tryz.ntmps4
  go_wp2_with fail
  refine (rRules_own w).mono ?_
  rintro e w1 ⟨rfl, hown, hb1⟩
  go_wp2_with (at_builtin; refine wpList_append_own _ rfl _ _ 29 rfl w.heap.size 9 i0 (.string ⟨#[]⟩) 1 16 Tryz.underlying29 hi0 hz0 hz1 hz2 rfl (by decide) _ _ _ rfl (hown.alloc _) ⟨w1.heap.size, 0, none⟩ 1 1 [.string o] rfl rfl ?c1 ?c2 ?c3 ?c4 ?c5 ?_)
  case c1 => exact cell_one_new _ _ _
  case c2 => simp [Value.oneCell']
  case c3 => unfold maxLen; omega
  case c4 => first | omega | (simp; omega)
  case c5 => have := hb1.size; first | omega | (simp; omega)
  intro v7 w7 hown7 hgr7 _
  have B7 : Hid (Below w.heap.size w w7) := (hb1.alloc hb1.size _).grown hgr7 (by have := hb1.size; simp; omega) (fun g e => own_base_le hown g e)
  obtain ⟨N, hN⟩ : ∃ N, ruleNames ++ [o] = N := ⟨_, rfl⟩
  rw [hN] at HS HLen
  have O7 : Hid (w7.ownsRow w.heap.size 9 1 v7 16 (N.map Value.string)) := by
    rw [← hN]
    show World.ownsRow _ _ _ _ _ _ _
    rw [List.map_append]
    exact hown7
  obtain ⟨g, c, hv7, hgb, hgl⟩ := own_some2 O7.out (by decide)
  subst hv7
  have HC : Hid (∀ i (h : i < 16), w7.cell? ⟨g, i, none⟩ = some (.string (N[i]'(by omega)))) := by
    intro i h
    rw [World.ownsRow.cellAt O7.out i (by omega)]
    rw [List.getElem?_map, List.getElem?_eq_getElem (by omega)]; rfl
  clear hown hown7 hgr7 hN O7 hb1 hgb
  go_wp2_with fail
  go_loopg [8] 16 (fun k iv wr => ∃ i : Nat, i ≤ 16 ∧ 16 - i ≤ k ∧ iv = .int .i64 i ∧ Hid (Below w7.heap.size w7 wr))
  case atStart => exact ⟨0, Nat.zero_le _, Nat.le_refl _, rfl, Below.refl _ _⟩
  case round =>
    obtain ⟨i, hi, hk, rfl, hbr⟩ := hrel
    by_cases hlt : i < 16
    · have c0 := (hbr.out.cell (p := ⟨g, i, none⟩) hgl).trans (HC.out i hlt)
      have hns := HS.out i (by omega)
      have HB := Lib.hid (B7.out.trans (hbr.out.mono B7.out.size))
      have k1 := fun W (hW : Env W) => norm_go_calls (N[i]'(by omega)) a W hW (by omega) (by omega)
      have k2 := fun W => rNorm_calls (N[i]'(by omega)) a W (by omega) (by omega)
      have k3 := fun W (hW : Env W) => same_go_calls (N[i]'(by omega)) a b W hW (by omega) (by omega) (by omega)
      have k4 := fun W => rSame_calls (N[i]'(by omega)) a b W (by omega) (by omega) (by omega)
      have k5 := fun W (hW : Env W) => order_go_calls (N[i]'(by omega)) a b W hW (by omega) (by omega) (by omega)
      have k6 := fun W => rOrder_calls (N[i]'(by omega)) a b W (by omega) (by omega) (by omega)
      simp only [rSameK_eq] at k4
      simp only [rOrderK_eq] at k6
      simp only [rNormK_eq] at k2
      generalize N[i] = nm at *
      generalize normF nm.data.toList a.data.toList = r1 at *
      generalize sameF nm.data.toList a.data.toList b.data.toList = r2 at *
      generalize orderF nm.data.toList a.data.toList b.data.toList = r3 at *
      obtain ⟨r1a, r1c⟩ := r1
      obtain ⟨r2a, r2c⟩ := r2
      obtain ⟨r3a, r3c⟩ := r3
      simp only [normFV, sameFV, orderFV, strV] at k1 k2 k3 k4 k5 k6
      generalize r1a.getD [] = t at *
      clear HS HC
      go_wp2_with fail
      refine (k1 _ (HE.out.below HB.out)).mono ?_
      rintro e w2 ⟨rfl, hb2⟩
      have c2 := (hb2.cell (World.block_lt_of_cell? _ _ c0)).trans c0
      have B2 := Lib.hid (HB.out.trans (hb2.mono HB.out.size))
      have R2 := Lib.hid (hbr.out.trans (hb2.mono hbr.out.size))
      clear k1 c0 HB hbr hb2
      go_wp2_with fail
      refine (k2 _).mono ?_
      rintro e w3 ⟨rfl, hb3⟩
      have c3 := (hb3.cell (World.block_lt_of_cell? _ _ c2)).trans c2
      have B3 := Lib.hid (B2.out.trans (hb3.mono B2.out.size))
      have R3 := Lib.hid (R2.out.trans (hb3.mono R2.out.size))
      clear k2 c2 B2 R2 hb3
      go_wp2_with fail
      refine (k3 _ (HE.out.below B3.out)).mono ?_
      rintro e w4 ⟨rfl, hb4⟩
      have c4 := (hb4.cell (World.block_lt_of_cell? _ _ c3)).trans c3
      have B4 := Lib.hid (B3.out.trans (hb4.mono B3.out.size))
      have R4 := Lib.hid (R3.out.trans (hb4.mono R3.out.size))
      clear k3 c3 B3 R3 hb4
      go_wp2_with fail
      refine (k4 _).mono ?_
      rintro e w5 ⟨rfl, hb5⟩
      have c5 := (hb5.cell (World.block_lt_of_cell? _ _ c4)).trans c4
      have B5 := Lib.hid (B4.out.trans (hb5.mono B4.out.size))
      have R5 := Lib.hid (R4.out.trans (hb5.mono R4.out.size))
      clear k4 c4 B4 R4 hb5
      go_wp2_with fail
      refine (k5 _ (HE.out.below B5.out)).mono ?_
      rintro e w6 ⟨rfl, hb6⟩
      have c6 := (hb6.cell (World.block_lt_of_cell? _ _ c5)).trans c5
      have B6 := Lib.hid (B5.out.trans (hb6.mono B5.out.size))
      have R6 := Lib.hid (R5.out.trans (hb6.mono R5.out.size))
      clear k5 c5 B5 R5 hb6
      go_wp2_with fail
      refine (k6 _).mono ?_
      rintro e w8 ⟨rfl, hb8⟩
      have R8 := Lib.hid (R6.out.trans (hb8.mono R6.out.size))
      clear k6 c6 B6 R6 hb8
      go_wp2_with fail
      go_roundg (16 - (i + 1))
      case measure => omega
      case rel => exact ⟨i + 1, by omega, Nat.le_refl _, by go_num, R8.out⟩
    · have ei : i = 16 := by omega
      subst ei
      have HB := Lib.hid (B7.out.trans (hbr.out.mono B7.out.size))
      have hal := alive_calls wr (HE.out.below HB.out)
      clear HS HC hbr
      go_wp2_with fail
      refine hal.mono ?_
      rintro e w9 ⟨rfl, hb9⟩
      have HB9 := Lib.hid (HB.out.trans (hb9.mono HB.out.size))
      clear hal hb9
      go_wp2_with fail
      go_ret
      exact ⟨rfl, HB9.out⟩
end Sy
end Go.Proofs.YthoealembhkaoaaGreatDoor
