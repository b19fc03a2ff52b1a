import Derived.Test.YthoealembhkaoaaGreatDoorSyLaw5
namespace Go.Proofs.YthoealembhkaoaaGreatDoor
open Go.RowKit
namespace Sy
set_option linter.unusedVariables false
set_option maxRecDepth 100000

def ordNames : List ByteArray := [⟨#[111, 99, 116, 101, 116, 83, 116, 114, 105, 110, 103, 79, 114, 100, 101, 114, 105, 110, 103, 77, 97, 116, 99, 104]⟩, ⟨#[99, 97, 115, 101, 69, 120, 97, 99, 116, 79, 114, 100, 101, 114, 105, 110, 103, 77, 97, 116, 99, 104]⟩, ⟨#[99, 97, 115, 101, 73, 103, 110, 111, 114, 101, 79, 114, 100, 101, 114, 105, 110, 103, 77, 97, 116, 99, 104]⟩, ⟨#[105, 110, 116, 101, 103, 101, 114, 79, 114, 100, 101, 114, 105, 110, 103, 77, 97, 116, 99, 104]⟩, ⟨#[103, 101, 110, 101, 114, 97, 108, 105, 122, 101, 100, 84, 105, 109, 101, 79, 114, 100, 101, 114, 105, 110, 103, 77, 97, 116, 99, 104]⟩]
def ordEq : List ByteArray := [⟨#[111, 99, 116, 101, 116, 83, 116, 114, 105, 110, 103, 77, 97, 116, 99, 104]⟩, ⟨#[99, 97, 115, 101, 69, 120, 97, 99, 116, 77, 97, 116, 99, 104]⟩, ⟨#[99, 97, 115, 101, 73, 103, 110, 111, 114, 101, 77, 97, 116, 99, 104]⟩, ⟨#[105, 110, 116, 101, 103, 101, 114, 77, 97, 116, 99, 104]⟩, ⟨#[103, 101, 110, 101, 114, 97, 108, 105, 122, 101, 100, 84, 105, 109, 101, 77, 97, 116, 99, 104]⟩]
theorem orders_calls (w : World) : Calls Tryz.prog 21 #[] w fun e w' => e = .returned (.slice (some ⟨w.heap.size, 0, none⟩) 5 5) ∧ StrsAt w' w.heap.size ordNames ∧ Below w.heap.size w w' := by
  go_enter Tryz.func21, Tryz.ntmps21
  go_wp2_with fail
  go_ret
  exact ⟨rfl, strs_new w ordNames 9, alloc_below _ _⟩
theorem ord_ask : ∀ j (h : j < ordNames.length), ∃ b, askR (small ordNames[j].data.toList) 1 = some (b, .ord) ∧ askR (small (ordEq[j]'h).data.toList) 0 = some (b, .eq)
  | 0, _ => ⟨.octet, rfl, rfl⟩
  | 1, _ => ⟨.exact, rfl, rfl⟩
  | 2, _ => ⟨.ignore, rfl, rfl⟩
  | 3, _ => ⟨.integer, rfl, rfl⟩
  | 4, _ => ⟨.time, rfl, rfl⟩
  | j + 5, h => absurd h (by simp [ordNames])
theorem ord_size : ∀ j (h : j < ordNames.length), ordNames[j].size ≤ 9223372036854775807 ∧ (ordEq[j]'h).size ≤ 9223372036854775807 := by
  intro j h
  have h1 : ∀ n ∈ ordNames, n.size ≤ 9223372036854775807 := by decide
  have h2 : ∀ n ∈ ordEq, n.size ≤ 9223372036854775807 := by decide
  exact ⟨h1 _ (List.getElem_mem h), h2 _ (List.getElem_mem (l := ordEq) h)⟩
/-- The order of two normal forms. -/
def cmpB (b : Base) (s t : List UInt8) : Int := if b = .integer then intCmp s t else Lib.compareBytes s t
/-- A normal form by a base. -/
def IsForm (b : Base) (s : List UInt8) : Prop := b = .integer → isInt s = true
theorem normB_form {b : Base} {l s : List UInt8} (h : normB b l = some s) : IsForm b s := by
  intro hb
  subst hb
  unfold normB at h
  split at h
  · rename_i hc
    simp only [Base.norm, Option.some.injEq] at h
    subst h
    exact ok_one hc.2
  · cases h
theorem cmpI_neg (x y : Int) : cmpI y x = - cmpI x y := by
  rcases Int.lt_trichotomy x y with h | h | h
  · rw [cmpI_gt h, cmpI_lt h]; rfl
  · rw [h, cmpI_self]; rfl
  · rw [cmpI_lt h, cmpI_gt h]
theorem cmpI_le {x y : Int} : cmpI x y ≤ 0 ↔ x ≤ y := by
  rcases Int.lt_trichotomy x y with h | h | h
  · rw [cmpI_lt h]; omega
  · rw [h, cmpI_self]; omega
  · rw [cmpI_gt h]; omega
theorem cmpB_neg {b : Base} {s t : List UInt8} (hs : IsForm b s) (ht : IsForm b t) : cmpB b t s = - cmpB b s t := by
  unfold cmpB
  split
  · rename_i hb
    rw [intCmp_val (hs hb) (ht hb), intCmp_val (ht hb) (hs hb), cmpI_neg]
  · exact cb_neg s t
theorem cmpB_trans {b : Base} {s t u : List UInt8} (hs : IsForm b s) (ht : IsForm b t) (hu : IsForm b u) (h1 : cmpB b s t ≤ 0) (h2 : cmpB b t u ≤ 0) : cmpB b s u ≤ 0 := by
  unfold cmpB at h1 h2 ⊢
  split
  · rename_i hb
    rw [if_pos hb, intCmp_val (hs hb) (ht hb), cmpI_le] at h1
    rw [if_pos hb, intCmp_val (ht hb) (hu hb), cmpI_le] at h2
    rw [intCmp_val (hs hb) (hu hb), cmpI_le]
    omega
  · rename_i hb
    rw [if_neg hb] at h1 h2
    exact cb_trans s t u h1 h2
theorem cmpB_zero {b : Base} {s t : List UInt8} (hs : IsForm b s) (ht : IsForm b t) : cmpB b s t = 0 ↔ s = t := by
  unfold cmpB
  split
  · rename_i hb
    rw [intCmp_val (hs hb) (ht hb)]
    refine ⟨fun h => val_inj (hs hb) (ht hb) (cmpI_zero h), fun h => by rw [h, cmpI_self]⟩
  · exact ⟨cb_eq s t, fun h => by rw [h]; exact cb_self t⟩
theorem cmpB_range {b : Base} {s t : List UInt8} (hs : IsForm b s) (ht : IsForm b t) : -1 ≤ cmpB b s t ∧ cmpB b s t ≤ 1 := by
  unfold cmpB
  split
  · rename_i hb
    rw [intCmp_val (hs hb) (ht hb)]
    unfold cmpI
    split
    · omega
    · split <;> omega
  · rcases cb_range s t with h | h | h <;> rw [h] <;> omega
/-- Order's answer, by the two normal forms. -/
def ordO (b : Base) (s t : Option (List UInt8)) : Int × Int :=
  match s, t with
  | some s, some t => (cmpB b s t, 0)
  | _, _ => (0, 40)
theorem orderF_of {n : List UInt8} {b : Base} {kd : Kd} (h : askR (small n) 1 = some (b, kd)) (x y : List UInt8) : orderF n x y = ordO b (normB b x) (normB b y) := by
  unfold orderF bothR
  rw [h]
  simp only
  cases normB b x with
  | none => rfl
  | some s =>
    cases normB b y with
    | none => rfl
    | some t => rfl
theorem sameF_form {n : List UInt8} {b : Base} {kd : Kd} (h : askR (small n) 0 = some (b, kd)) (x y : List UInt8) : sameF n x y = match normB b x, normB b y with | some s, some t => (s == t, 0) | _, _ => (false, 40) := by
  unfold sameF bothR
  rw [h]
  simp only
  cases normB b x with
  | none => rfl
  | some s =>
    cases normB b y with
    | none => rfl
    | some t => rfl
/-- The values are in an order. -/
theorem order_law {b : Base} {s t u : Option (List UInt8)} (hs : ∀ x, s = some x → IsForm b x) (ht : ∀ x, t = some x → IsForm b x) (hu : ∀ x, u = some x → IsForm b x) {x e y f z g v h : Int}
    (h1 : ordO b s t = (x, e)) (h2 : ordO b t u = (y, f)) (h3 : ordO b s u = (z, g)) (h4 : ordO b t s = (v, h)) :
    (e = 0 → f = 0 → g = 0 → h = 0 ∧ v = -x ∧ ¬ (x ≤ 0 ∧ y ≤ 0 ∧ 0 < z) ∧ ¬ (0 ≤ x ∧ 0 ≤ y ∧ z < 0)) ∧ (-1 ≤ x ∧ x ≤ 1) := by
  cases s with
  | none =>
    simp only [ordO, Prod.mk.injEq] at h1
    refine ⟨fun he => ?_, by omega⟩
    omega
  | some s =>
    cases t with
    | none =>
      simp only [ordO, Prod.mk.injEq] at h1
      refine ⟨fun he => ?_, by omega⟩
      omega
    | some t =>
      have fs := hs s rfl
      have ft := ht t rfl
      simp only [ordO, Prod.mk.injEq] at h1 h4
      have hr := cmpB_range fs ft
      refine ⟨fun he hf hg => ?_, by omega⟩
      cases u with
      | none => simp only [ordO, Prod.mk.injEq] at h2; omega
      | some u =>
        have fu := hu u rfl
        simp only [ordO, Prod.mk.injEq] at h2 h3
        have n1 := cmpB_neg fs ft
        have n2 := cmpB_neg ft fu
        have n3 := cmpB_neg fs fu
        have t1 := @cmpB_trans b s t u fs ft fu
        have t2 := @cmpB_trans b u t s fu ft fs
        refine ⟨h4.2.symm, by omega, ?_, ?_⟩
        · rintro ⟨a1, a2, a3⟩
          have := t1 (by omega) (by omega)
          omega
        · rintro ⟨a1, a2, a3⟩
          have := t2 (by omega) (by omega)
          omega
set_option maxHeartbeats 8000000 in
theorem orders_go_calls (a b c : ByteArray) (w : World) (he : Env w) (ha : a.size ≤ 9223372036854775807) (hb : b.size ≤ 9223372036854775807) (hc : c.size ≤ 9223372036854775807) :
    Calls Tryz.prog 6 #[.string a, .string b, .string c] w fun e w' => e = .returned (.bool true) ∧ Below w.heap.size w w' := by
  have HE := Lib.hid he
  clear he
  go_enter Tryz.func6, Tryz.ntmps6
  go_wp2_with fail
  refine (orders_calls w).mono ?_
  rintro e w0 ⟨rfl, hs0, hb0⟩
  have HS := Lib.hid hs0
  have HB := Lib.hid hb0
  clear hs0 hb0
  go_wp2_with fail
  go_loopg [8] 5 (fun k iv wr => ∃ i : Nat, i ≤ 5 ∧ 5 - i ≤ k ∧ iv = .int .i64 i ∧ Hid (StrsAt wr w.heap.size ordNames) ∧ Hid (Below w.heap.size w wr))
  case atStart => exact ⟨0, Nat.zero_le _, Nat.le_refl _, rfl, HS.out, HB.out⟩
  case round =>
    obtain ⟨i, hi, hk, rfl, hst, hbw⟩ := hrel
    by_cases hlt : i < 5
    · obtain ⟨bs, hask, _⟩ := ord_ask i hlt
      have hsz := (ord_size i hlt).1
      have c0 := hst.out i hlt
      generalize ordNames[i] = n at *
      have keep : ∀ W, Below wr.heap.size wr W → Below w.heap.size w W := fun W hW => hbw.out.trans (hW.mono hbw.out.size)
      have o1 : ∀ (x y : ByteArray), x.size ≤ 9223372036854775807 → y.size ≤ 9223372036854775807 → ∀ W, Below wr.heap.size wr W → Calls Tryz.prog 11 #[.string n, .string x, .string y] W fun e w' => e = .returned (orderFV (ordO bs (normB bs x.data.toList) (normB bs y.data.toList))) ∧ Below W.heap.size W w' := fun x y hx hy W hW => by
        have := order_go_calls n x y W (HE.out.below (keep W hW)) hsz hx hy
        rwa [orderF_of hask] at this
      have h1 := o1 a b ha hb
      have h2 := o1 b c hb hc
      have h3 := o1 a c ha hc
      have h4 := o1 b a hb ha
      obtain ⟨⟨x, e⟩, e1⟩ : ∃ r, ordO bs (normB bs a.data.toList) (normB bs b.data.toList) = r := ⟨_, rfl⟩
      obtain ⟨⟨y, f⟩, e2⟩ : ∃ r, ordO bs (normB bs b.data.toList) (normB bs c.data.toList) = r := ⟨_, rfl⟩
      obtain ⟨⟨z, g⟩, e3⟩ : ∃ r, ordO bs (normB bs a.data.toList) (normB bs c.data.toList) = r := ⟨_, rfl⟩
      obtain ⟨⟨v, h⟩, e4⟩ : ∃ r, ordO bs (normB bs b.data.toList) (normB bs a.data.toList) = r := ⟨_, rfl⟩
      have hlaw := order_law (fun _ h => normB_form h) (fun _ h => normB_form h) (fun _ h => normB_form h) e1 e2 e3 e4
      rw [e1] at h1
      rw [e2] at h2
      rw [e3] at h3
      rw [e4] at h4
      simp only [orderFV] at h1 h2 h3 h4
      have H1 := Lib.hid h1
      have H2 := Lib.hid h2
      have H3 := Lib.hid h3
      have H4 := Lib.hid h4
      have HLaw := Lib.hid hlaw
      clear h1 h2 h3 h4 e1 e2 e3 e4 o1 hask hlaw
      have k1 := H1.out wr (Below.refl _ _)
      go_wp2_with fail
      refine k1.mono ?_
      rintro e' w1 ⟨rfl, hb1⟩
      have d1 := (hb1.cell (World.block_lt_of_cell? _ _ c0)).trans c0
      have k2 := H2.out _ hb1
      clear k1 H1 c0
      go_wp2_with fail
      refine k2.mono ?_
      rintro e' w2 ⟨rfl, hb2⟩
      have d2 := (hb2.cell (World.block_lt_of_cell? _ _ d1)).trans d1
      have b2 := hb1.trans (hb2.mono hb1.size)
      have k3 := H3.out _ b2
      clear k2 H2 d1 hb1 hb2
      go_wp2_with fail
      refine k3.mono ?_
      rintro e' w3 ⟨rfl, hb3⟩
      have d3 := (hb3.cell (World.block_lt_of_cell? _ _ d2)).trans d2
      have b3 := b2.trans (hb3.mono b2.size)
      have k4 := H4.out _ b3
      clear k3 H3 d2 b2 hb3
      go_wp2_with fail
      refine k4.mono ?_
      rintro e' w4 ⟨rfl, hb4⟩
      have b4 := b3.trans (hb4.mono b3.size)
      have HS4 := Lib.hid (hst.out.below b4)
      have HB4 := Lib.hid (keep _ b4)
      clear k4 H4 d3 b3 hb4 b4 keep
      by_cases he : e = 0
      · by_cases hf : f = 0
        · by_cases hg : g = 0
          · obtain ⟨hl, hx1, hx2⟩ := HLaw.out
            obtain ⟨l1, l2, l3, l4⟩ := hl he hf hg
            subst he hf hg l1
            subst l2
            clear HLaw hl
            have L3 := Lib.hid l3
            have L4 := Lib.hid l4
            clear l3 l4
            go_wp2_with fail
            all_goals
              first
              | (exfalso; have h3 := L3.out; have h4 := L4.out; omega)
              | (go_roundg (5 - (i + 1)); (case measure => omega); (case rel => exact ⟨i + 1, by omega, Nat.le_refl _, by go_num, HS4.out, HB4.out⟩))
          · have qe : (e != 0) = false := by simpa using he
            have qf : (f != 0) = false := by simpa using hf
            have qg : (g != 0) = true := by simpa using hg
            clear he hf hg HLaw
            go_wp2_with fail
            go_roundg (5 - (i + 1))
            case measure => omega
            case rel => exact ⟨i + 1, by omega, Nat.le_refl _, by go_num, HS4.out, HB4.out⟩
        · have qe : (e != 0) = false := by simpa using he
          have qf : (f != 0) = true := by simpa using hf
          clear he hf HLaw
          go_wp2_with fail
          go_roundg (5 - (i + 1))
          case measure => omega
          case rel => exact ⟨i + 1, by omega, Nat.le_refl _, by go_num, HS4.out, HB4.out⟩
      · have qe : (e != 0) = true := by simpa using he
        clear he HLaw
        go_wp2_with fail
        go_roundg (5 - (i + 1))
        case measure => omega
        case rel => exact ⟨i + 1, by omega, Nat.le_refl _, by go_num, HS4.out, HB4.out⟩
    · have ei : i = 5 := by omega
      subst ei
      have hnew := strs_new wr ordEq 9
      have bnew := alloc_below wr (.cells (ordEq.map Value.string).toArray 9)
      have HN := Lib.hid hnew
      have HSn := Lib.hid (hst.out.below bnew)
      have HBn := Lib.hid (hbw.out.trans (bnew.mono hbw.out.size))
      clear hnew bnew
      go_wp2_with fail
      generalize wr = wo at *
      go_loopg [114] 5 (fun k iv wr => ∃ j : Nat, j ≤ 5 ∧ 5 - j ≤ k ∧ iv = .int .i64 j ∧ Hid (StrsAt wr w.heap.size ordNames) ∧ Hid (StrsAt wr wo.heap.size ordEq) ∧ Hid (Below w.heap.size w wr))
      case atStart => exact ⟨0, Nat.zero_le _, Nat.le_refl _, rfl, HSn.out, HN.out, HBn.out⟩
      case round =>
        obtain ⟨j, hj, hk, rfl, hst1, hst2, hb1⟩ := hrel
        clear HN HSn HBn
        by_cases hlt : j < 5
        · obtain ⟨bs, hask1, hask2⟩ := ord_ask j hlt
          have hsz := ord_size j hlt
          have c0 := hst1.out j hlt
          have c1 := hst2.out j hlt
          generalize ordNames[j] = n at *
          generalize (ordEq[j]'hlt) = m at *
          have keep : ∀ W, Below wr.heap.size wr W → Below w.heap.size w W := fun W hW => hb1.out.trans (hW.mono hb1.out.size)
          have o1 := order_go_calls n a b wr (HE.out.below hb1.out) hsz.1 ha hb
          have o2 : ∀ W, Below wr.heap.size wr W → Calls Tryz.prog 17 #[.string m, .string a, .string b] W _ := fun W hW => same_go_calls m a b W (HE.out.below (keep W hW)) hsz.2 ha hb
          rw [orderF_of hask1] at o1
          simp only [sameF_form hask2] at o2
          have hf1 := fun s h => @normB_form bs a.data.toList s h
          have hf2 := fun s h => @normB_form bs b.data.toList s h
          generalize normB bs a.data.toList = s at *
          generalize normB bs b.data.toList = t at *
          clear hask1 hask2
          rcases s with _ | s
          · simp only [ordO, orderFV, sameFV] at o1 o2
            clear hf1 hf2
            go_wp2_with fail
            refine o1.mono ?_
            rintro e' w1 ⟨rfl, hb2⟩
            have d1 := (hb2.cell (World.block_lt_of_cell? _ _ c1)).trans c1
            have k2 := o2 _ hb2
            clear o1 o2 c0 c1
            go_wp2_with fail
            refine k2.mono ?_
            rintro e' w2 ⟨rfl, hb3⟩
            have b3 := hb2.trans (hb3.mono hb2.size)
            have X1 := Lib.hid (hst1.out.below b3)
            have X2 := Lib.hid (hst2.out.below b3)
            have X3 := Lib.hid (keep _ b3)
            clear k2 hb2 hb3 b3 keep
            go_wp2_with fail
            go_roundg (5 - (j + 1))
            case measure => omega
            case rel => exact ⟨j + 1, by omega, Nat.le_refl _, by go_num, X1.out, X2.out, X3.out⟩
          · rcases t with _ | t
            · simp only [ordO, orderFV, sameFV] at o1 o2
              clear hf1 hf2
              go_wp2_with fail
              refine o1.mono ?_
              rintro e' w1 ⟨rfl, hb2⟩
              have d1 := (hb2.cell (World.block_lt_of_cell? _ _ c1)).trans c1
              have k2 := o2 _ hb2
              clear o1 o2 c0 c1
              go_wp2_with fail
              refine k2.mono ?_
              rintro e' w2 ⟨rfl, hb3⟩
              have b3 := hb2.trans (hb3.mono hb2.size)
              have X1 := Lib.hid (hst1.out.below b3)
              have X2 := Lib.hid (hst2.out.below b3)
              have X3 := Lib.hid (keep _ b3)
              clear k2 hb2 hb3 b3 keep
              go_wp2_with fail
              go_roundg (5 - (j + 1))
              case measure => omega
              case rel => exact ⟨j + 1, by omega, Nat.le_refl _, by go_num, X1.out, X2.out, X3.out⟩
            · have hz := cmpB_zero (hf1 s rfl) (hf2 t rfl)
              have hq : (s == t) = (cmpB bs s t == 0) := by
                rw [Bool.eq_iff_iff, beq_iff_eq, beq_iff_eq]; exact hz.symm
              simp only [ordO, orderFV, sameFV, hq] at o1 o2
              generalize cmpB bs s t = x at *
              clear hf1 hf2 hz hq
              go_wp2_with fail
              refine o1.mono ?_
              rintro e' w1 ⟨rfl, hb2⟩
              have d1 := (hb2.cell (World.block_lt_of_cell? _ _ c1)).trans c1
              have k2 := o2 _ hb2
              clear o1 o2 c0 c1
              go_wp2_with fail
              refine k2.mono ?_
              rintro e' w2 ⟨rfl, hb3⟩
              have b3 := hb2.trans (hb3.mono hb2.size)
              have X1 := Lib.hid (hst1.out.below b3)
              have X2 := Lib.hid (hst2.out.below b3)
              have X3 := Lib.hid (keep _ b3)
              clear k2 hb2 hb3 b3 keep
              go_wp2_with fail
              go_roundg (5 - (j + 1))
              case measure => omega
              case rel => exact ⟨j + 1, by omega, Nat.le_refl _, by go_num, X1.out, X2.out, X3.out⟩
        · have ej : j = 5 := by omega
          subst ej
          have hal := alive_calls wr (HE.out.below hb1.out)
          go_wp2_with fail
          refine hal.mono ?_
          rintro e w1 ⟨rfl, hb2⟩
          have HB1 := Lib.hid (hb1.out.trans (hb2.mono hb1.out.size))
          clear hal hb2
          go_wp2_with fail
          go_ret
          exact ⟨rfl, HB1.out⟩
end Sy
end Go.Proofs.YthoealembhkaoaaGreatDoor
