import Derived.Test.YthoealembhkaoaaGreatDoorRu05
import Derived.Test.YthoealembhkaoaaGreatDoorFm26
import Derived.Lib.MapLaws
import Derived.Lib.ValidLaws
namespace Go.Proofs.YthoealembhkaoaaGreatDoor
open Go.RowKit
namespace Sy
set_option linter.unusedVariables false
set_option linter.unusedSimpArgs false
set_option maxRecDepth 100000

def rSameK (r1 r2 : Option (List UInt8) × Int) : Bool × Int := if r1.2 ≠ 0 then (false, r1.2) else if r2.2 ≠ 0 then (false, r2.2) else (r1.1.getD [] == r2.1.getD [], 0)
set_option maxHeartbeats 2000000 in
theorem rSame_calls (n x y : ByteArray) (w : World) (hn : n.size ≤ 9223372036854775807) (hx : x.size ≤ 9223372036854775807) (hy : y.size ≤ 9223372036854775807) :
    Calls Tryz.prog 18 #[.string n, .string x, .string y] w fun e w' => e = .returned (sameFV (rSameK (rNormK (ruleOf (small n.data.toList)) x.data.toList) (rNormK (ruleOf (small n.data.toList)) y.data.toList))) ∧ Below w.heap.size w w' := by
  have h1 := fun W => rNorm_calls n x W hn hx
  have h2 := fun W => rNorm_calls n y W hn hy
  generalize rNormK (ruleOf (small n.data.toList)) x.data.toList = r1 at *
  generalize rNormK (ruleOf (small n.data.toList)) y.data.toList = r2 at *
  obtain ⟨o1, c1⟩ := r1
  obtain ⟨o2, c2⟩ := r2
  simp only [normFV, strV] at h1 h2
  unfold rSameK
  simp only
  generalize o1.getD [] = s at *
  generalize o2.getD [] = t at *
  by_cases hc1 : c1 = 0
  · by_cases hc2 : c2 = 0
    · subst hc1
      subst hc2
      simp only [ne_eq, not_true_eq_false, if_false, sameFV]
      go_enter Tryz.func18, Tryz.ntmps18
      go_wp2_with fail
      refine (h1 _).mono ?_
      rintro e w1 ⟨rfl, hb1⟩
      clear h1
      go_wp2_with fail
      refine (h2 _).mono ?_
      rintro e w2 ⟨rfl, hb2⟩
      have HB := Lib.hid (hb1.trans (hb2.mono hb1.size))
      clear h2 hb1 hb2
      go_wp2_with fail
      go_ret2
      refine ⟨?_, HB.out⟩
      first | rfl | (simp [go_sem]; done)
    · subst hc1
      rw [if_neg (by simp), if_pos hc2]
      have q : (c2 != 0) = true := by simpa using hc2
      simp only [sameFV]
      clear hc2
      go_enter Tryz.func18, Tryz.ntmps18
      go_wp2_with fail
      refine (h1 _).mono ?_
      rintro e w1 ⟨rfl, hb1⟩
      clear h1
      go_wp2_with fail
      refine (h2 _).mono ?_
      rintro e w2 ⟨rfl, hb2⟩
      have HB := Lib.hid (hb1.trans (hb2.mono hb1.size))
      clear h2 hb1 hb2
      go_wp2_with fail
      go_ret2
      exact ⟨rfl, HB.out⟩
  · rw [if_pos hc1]
    have q : (c1 != 0) = true := by simpa using hc1
    simp only [sameFV]
    clear hc1 h2
    go_enter Tryz.func18, Tryz.ntmps18
    go_wp2_with fail
    refine (h1 _).mono ?_
    rintro e w1 ⟨rfl, hb1⟩
    clear h1
    go_wp2_with fail
    go_ret2
    exact ⟨rfl, hb1⟩

def rOrderB (b : Base) (r1 r2 : Option (List UInt8) × Int) : Int × Int := if r1.2 ≠ 0 then (0, r1.2) else if r2.2 ≠ 0 then (0, r2.2) else (if b = .integer then intCmp (r1.1.getD []) (r2.1.getD []) else Lib.compareBytes (r1.1.getD []) (r2.1.getD []), 0)
def rOrderK : Option (Base × Kd) → List UInt8 → List UInt8 → Int × Int
  | none, _, _ => (0, 41)
  | some (b, kd), x, y => if kd.num = 1 then rOrderB b (rNormA b x) (rNormA b y) else (0, 41)
theorem ruleOf_ord {b : Base} (h : (b, Kd.ord) ∈ ruleList) : ruleOf (small (b.word ++ Kd.ord.word).data.toList) = some (b, .ord) := by
  cases b
  case boolean => exact absurd h (by simp [ruleList])
  case dn => exact absurd h (by simp [ruleList])
  case oid => exact absurd h (by simp [ruleList])
  all_goals kernel_rfl
theorem kind_ord : ∀ kd : Kd, kd.num = 1 → kd = .ord
  | .eq, h => by cases h
  | .ord, _ => rfl
  | .sub, h => by cases h
theorem norm_int {v : List UInt8} (h : (rNormA .integer v).2 = 0) : isInt ((rNormA .integer v).1.getD []) = true := by
  unfold rNormA at h ⊢
  by_cases hc : ((Base.integer.forms.any fun f => f.ok v) = true)
  · rw [if_pos hc]
    simp only [Base.forms, List.any_cons, List.any_nil, Bool.or_false, Form.ok, Form.of, Bool.and_eq_true] at hc
    exact hc.2
  · rw [if_neg hc] at h; cases h
theorem norm_short {b : Base} (hb : b = .integer) {v : List UInt8} (h : (rNormA b v).2 = 0) : ((rNormA b v).1.getD []).length ≤ 1024 := by
  subst hb
  unfold rNormA at h ⊢
  by_cases hc : ((Base.integer.forms.any fun f => f.ok v) = true)
  · rw [if_pos hc]; exact ok_short hc
  · rw [if_neg hc] at h; cases h
theorem bel_drewN {B : Nat} {a w : World} (h : Below B a w) (n : Nat) : Below B a (w.drewN n) := ⟨h.os, h.tape, h.output, h.size, h.block⟩
theorem ord_len {b : Base} (h : (b, Kd.ord) ∈ ruleList) (v : List UInt8) : ((rNormA b v).1.getD []).length ≤ 5000 := by
  unfold rNormA
  by_cases hc : ((b.forms.any fun f => f.ok v) = true)
  · rw [if_pos hc]
    have hl := ok_short hc
    cases b
    case boolean => exact absurd h (by simp [ruleList])
    case dn => exact absurd h (by simp [ruleList])
    case oid => exact absurd h (by simp [ruleList])
    case exact =>
      simp only [rNormB]
      cases hp : prepR false v with
      | none => simp
      | some t => have := prepR_len hp; simp only [Option.getD_some]; omega
    case ignore =>
      simp only [rNormB]
      cases hp : prepR true v with
      | none => simp
      | some t => have := prepR_len hp; simp only [Option.getD_some]; omega
    all_goals
      simp only [rNormB, Option.getD_some]
      omega
  · rw [if_neg hc]; simp
set_option maxHeartbeats 4000000 in
theorem rOrder_calls (n x y : ByteArray) (w : World) (hn : n.size ≤ 9223372036854775807) (hx : x.size ≤ 9223372036854775807) (hy : y.size ≤ 9223372036854775807) :
    Calls Tryz.prog 19 #[.string n, .string x, .string y] w fun e w' => e = .returned (orderFV (rOrderK (ruleOf (small n.data.toList)) x.data.toList y.data.toList)) ∧ Below w.heap.size w w' := by
  have h0 := rRule_calls n w hn
  have hin := fun e => @rule_in (small n.data.toList) e
  generalize ruleOf (small n.data.toList) = r at *
  rcases r with _ | ⟨b, kd⟩
  · simp only [ruleRV, rOrderK, orderFV] at h0 ⊢
    clear hin
    go_enter Tryz.func19, Tryz.ntmps19
    go_wp2_with fail
    refine h0.mono ?_
    rintro e w1 ⟨rfl, hb⟩
    clear h0
    go_wp2_with fail
    go_ret2
    exact ⟨rfl, hb⟩
  · by_cases hk : kd.num = 1
    · obtain rfl := kind_ord kd hk
      have hm := hin _ rfl
      have hbase := fun W => rBase_calls (b.word ++ Kd.ord.word) W (by cases b <;> decide)
      rw [ruleOf_ord hm] at hbase
      have h1 := fun W => rNorm_calls (b.word ++ Kd.eq.word) x W (by cases b <;> decide) hx
      have h2 := fun W => rNorm_calls (b.word ++ Kd.eq.word) y W (by cases b <;> decide) hy
      rw [ruleOf_eq] at h1 h2
      have e1 : ∀ v, rNormK (some (b, Kd.eq)) v = rNormA b v := fun v => rfl
      have e2 : ∀ u v, rOrderK (some (b, Kd.ord)) u v = rOrderB b (rNormA b u) (rNormA b v) := fun u v => rfl
      rw [e1] at h1 h2
      rw [e2]
      have l1 := ord_len hm x.data.toList
      have l2 := ord_len hm y.data.toList
      have i1 : b = .integer → (rNormA b x.data.toList).2 = 0 → isInt ((rNormA b x.data.toList).1.getD []) = true ∧ ((rNormA b x.data.toList).1.getD []).length ≤ 1024 := fun hb h => ⟨by subst hb; exact norm_int h, norm_short hb h⟩
      have i2 : b = .integer → (rNormA b y.data.toList).2 = 0 → isInt ((rNormA b y.data.toList).1.getD []) = true ∧ ((rNormA b y.data.toList).1.getD []).length ≤ 1024 := fun hb h => ⟨by subst hb; exact norm_int h, norm_short hb h⟩
      simp only [baseW, ruleRV, Kd.num] at hbase h0
      have hne := rule_word b .ord
      have hq := name_int b .ord rfl
      generalize b.word ++ Kd.ord.word = own at *
      generalize b.word ++ Kd.eq.word = bw at *
      generalize rNormA b x.data.toList = r1 at *
      generalize rNormA b y.data.toList = r2 at *
      obtain ⟨o1, c1⟩ := r1
      obtain ⟨o2, c2⟩ := r2
      unfold rOrderB
      simp only [normFV, strV] at h1 h2 l1 l2 i1 i2 ⊢
      generalize o1.getD [] = s at *
      generalize o2.getD [] = t at *
      clear hin hm e1 e2 hk
      by_cases hc1 : c1 = 0
      · subst hc1
        rw [if_neg (by simp)]
        by_cases hc2 : c2 = 0
        · subst hc2
          rw [if_neg (by simp)]
          have hls : s.length ≤ 9223372036854775807 := by omega
          have hlt : t.length ≤ 9223372036854775807 := by omega
          by_cases hbi : b = .integer
          · have j1 := i1 hbi rfl
            have j2 := i2 hbi rfl
            have hnum := fun W => rNum_calls ⟨s.toArray⟩ ⟨t.toArray⟩ W (by show s.toArray.size ≤ _; simp; omega) (by show t.toArray.size ≤ _; simp; omega) (by simpa using j1.1) (by simpa using j2.1)
            rw [decide_eq_true hbi] at hq
            rw [if_pos hbi]
            simp only [orderFV] at hnum ⊢
            generalize intCmp s t = z at *
            clear hbi i1 i2 j1 j2 l1 l2
            go_enter Tryz.func19, Tryz.ntmps19
            go_wp2_with fail
            refine h0.mono ?_
            rintro e w1 ⟨rfl, hb1⟩
            clear h0
            go_wp2_with fail
            refine (hbase _).mono ?_
            rintro e w2 ⟨rfl, hb2⟩
            have B2 := Lib.hid (hb1.trans (hb2.mono hb1.size))
            clear hb1 hb2
            go_wp2_with fail
            refine (h1 _).mono ?_
            rintro e w3 ⟨rfl, hb3⟩
            have B3 := Lib.hid (B2.out.trans (hb3.mono B2.out.size))
            clear h1 hb3 B2
            go_wp2_with fail
            refine (hbase _).mono ?_
            rintro e w4 ⟨rfl, hb4⟩
            have B4 := Lib.hid (B3.out.trans (hb4.mono B3.out.size))
            clear hbase hb4 B3
            go_wp2_with fail
            refine (h2 _).mono ?_
            rintro e w5 ⟨rfl, hb5⟩
            have B5 := Lib.hid (B4.out.trans (hb5.mono B4.out.size))
            clear h2 hb5 B4
            go_wp2_with fail
            refine (hnum _).mono ?_
            rintro e w6 ⟨rfl, n6, rfl⟩
            clear hnum
            go_wp2_with fail
            go_ret2
            exact ⟨rfl, bel_drewN B5.out n6⟩
          · have hcmp := fun W => rCompare_calls ⟨s.toArray⟩ ⟨t.toArray⟩ W (by show s.toArray.size ≤ _; simp; omega) (by show t.toArray.size ≤ _; simp; omega)
            rw [decide_eq_false hbi] at hq
            rw [if_neg hbi]
            simp only [orderFV] at hcmp ⊢
            generalize Lib.compareBytes s t = z at *
            clear hbi i1 i2 l1 l2
            go_enter Tryz.func19, Tryz.ntmps19
            go_wp2_with fail
            refine h0.mono ?_
            rintro e w1 ⟨rfl, hb1⟩
            clear h0
            go_wp2_with fail
            refine (hbase _).mono ?_
            rintro e w2 ⟨rfl, hb2⟩
            have B2 := Lib.hid (hb1.trans (hb2.mono hb1.size))
            clear hb1 hb2
            go_wp2_with fail
            refine (h1 _).mono ?_
            rintro e w3 ⟨rfl, hb3⟩
            have B3 := Lib.hid (B2.out.trans (hb3.mono B2.out.size))
            clear h1 hb3 B2
            go_wp2_with fail
            refine (hbase _).mono ?_
            rintro e w4 ⟨rfl, hb4⟩
            have B4 := Lib.hid (B3.out.trans (hb4.mono B3.out.size))
            clear hbase hb4 B3
            go_wp2_with fail
            refine (h2 _).mono ?_
            rintro e w5 ⟨rfl, hb5⟩
            have B5 := Lib.hid (B4.out.trans (hb5.mono B4.out.size))
            clear h2 hb5 B4
            go_wp2_with fail
            refine (hcmp _).mono ?_
            rintro e w6 ⟨rfl, n6, rfl⟩
            clear hcmp
            go_wp2_with fail
            go_ret2
            exact ⟨rfl, bel_drewN B5.out n6⟩
        · rw [if_pos hc2]
          have q : (c2 != 0) = true := by simpa using hc2
          simp only [orderFV]
          clear hc2 i1 i2 l1 l2 hq
          go_enter Tryz.func19, Tryz.ntmps19
          go_wp2_with fail
          refine h0.mono ?_
          rintro e w1 ⟨rfl, hb1⟩
          clear h0
          go_wp2_with fail
          refine (hbase _).mono ?_
          rintro e w2 ⟨rfl, hb2⟩
          have B2 := Lib.hid (hb1.trans (hb2.mono hb1.size))
          clear hb1 hb2
          go_wp2_with fail
          refine (h1 _).mono ?_
          rintro e w3 ⟨rfl, hb3⟩
          have B3 := Lib.hid (B2.out.trans (hb3.mono B2.out.size))
          clear h1 hb3 B2
          go_wp2_with fail
          refine (hbase _).mono ?_
          rintro e w4 ⟨rfl, hb4⟩
          have B4 := Lib.hid (B3.out.trans (hb4.mono B3.out.size))
          clear hbase hb4 B3
          go_wp2_with fail
          refine (h2 _).mono ?_
          rintro e w5 ⟨rfl, hb5⟩
          have B5 := Lib.hid (B4.out.trans (hb5.mono B4.out.size))
          clear h2 hb5 B4
          go_wp2_with fail
          go_ret2
          exact ⟨rfl, B5.out⟩
      · rw [if_pos hc1]
        have q : (c1 != 0) = true := by simpa using hc1
        simp only [orderFV]
        clear hc1 i1 i2 l1 l2 hq h2
        go_enter Tryz.func19, Tryz.ntmps19
        go_wp2_with fail
        refine h0.mono ?_
        rintro e w1 ⟨rfl, hb1⟩
        clear h0
        go_wp2_with fail
        refine (hbase _).mono ?_
        rintro e w2 ⟨rfl, hb2⟩
        have B2 := Lib.hid (hb1.trans (hb2.mono hb1.size))
        clear hb1 hb2 hbase
        go_wp2_with fail
        refine (h1 _).mono ?_
        rintro e w3 ⟨rfl, hb3⟩
        have B3 := Lib.hid (B2.out.trans (hb3.mono B2.out.size))
        clear h1 hb3 B2
        go_wp2_with fail
        go_ret2
        exact ⟨rfl, B3.out⟩
    · simp only [ruleRV, rOrderK] at h0 ⊢
      rw [if_neg hk]
      have hne := rule_word b kd
      have q : (kd.num != 1) = true := by simpa using hk
      simp only [orderFV]
      generalize b.word ++ kd.word = own at *
      generalize kd.num = m at *
      clear hin hk
      go_enter Tryz.func19, Tryz.ntmps19
      go_wp2_with fail
      refine h0.mono ?_
      rintro e w1 ⟨rfl, hb⟩
      clear h0
      go_wp2_with fail
      go_ret2
      exact ⟨rfl, hb⟩
end Sy
end Go.Proofs.YthoealembhkaoaaGreatDoor
namespace Go.Proofs.YthoealembhkaoaaGreatDoor
open Go.RowKit
namespace Sy
set_option linter.unusedVariables false
set_option linter.unusedSimpArgs false

/-- Does a text hold a character that is refused? Folding has no part in it. -/
def badGo : Nat → List UInt8 → Bool
  | 0, _ => false
  | n + 1, l => if l = [] then false else if (mapR ((Lib.decodeL l).1 : Int)).2.2 = true then true else badGo n (l.drop (Lib.decodeL l).2)
theorem mapGo_some (fold : Bool) : ∀ (n : Nat) (acc l : List UInt8), (mapGo fold n acc l).isSome = !badGo n l
  | 0, acc, l => rfl
  | n + 1, acc, l => by
    simp only [mapGo, badGo]
    by_cases h1 : l = []
    · simp [h1]
    · rw [if_neg h1, if_neg h1]
      by_cases h2 : (mapR ((Lib.decodeL l).1 : Int)).2.2 = true
      · rw [if_pos h2, if_pos h2]; rfl
      · rw [if_neg h2, if_neg h2]
        split
        · exact mapGo_some fold n _ _
        · exact mapGo_some fold n _ _
theorem prepR_some (fold : Bool) (l : List UInt8) : (prepR fold l).isSome = (Lib.validD l && !badGo l.length l) := by
  have h : (mapped fold l).isSome = (Lib.validD l && !badGo l.length l) := by
    unfold mapped
    cases hv : Lib.validD l with
    | true => rw [if_pos rfl, mapGo_some]; rfl
    | false => rw [if_neg (by simp)]; rfl
  rw [← h]
  unfold prepR
  cases mapped fold l with
  | none => rfl
  | some t =>
    simp only
    split <;> rfl
theorem ascii_good : ∀ (n : Nat) (l : List UInt8), (∀ b ∈ l, b.toNat < 128) → badGo n l = false
  | 0, _, _ => rfl
  | n + 1, [], _ => by simp [badGo]
  | n + 1, b :: l, h => by
    have hb := h b (by simp)
    simp only [badGo]
    rw [if_neg (by simp), Lib.decodeL_ascii b l hb]
    have hm : (mapR ((b.toNat : Nat) : Int)).2.2 = false := by
      have hr : refused (b.toNat : Int) = false := by simp only [refused, decide_eq_false_iff_not]; omega
      unfold mapR
      rw [hr]
      split
      · rfl
      · split <;> rfl
    rw [if_neg (by rw [hm]; simp)]
    exact ascii_good n l (fun c hc => h c (by simp [hc]))
theorem ascii_valid {l : List UInt8} (h : ∀ b ∈ l, b.toNat < 128) : Lib.validD l = true := by
  rw [Lib.validD_ascii l.length l (fun b hb => h b (List.mem_of_mem_take hb))]
  simp [Lib.validD_nil]
/-- A value that is text or ascii can be prepared, folding or not. -/
theorem text_prep (fold : Bool) {l : List UInt8} (h : ([Form.text, Form.ascii].any fun f => f.ok l) = true) : (prepR fold l).isSome = true := by
  rw [prepR_some]
  simp only [List.any_cons, List.any_nil, Bool.or_false, Form.ok, Form.of, Bool.or_eq_true, Bool.and_eq_true] at h
  rcases h with ⟨_, _, h⟩ | ⟨_, h⟩
  · rw [prepR_some] at h
    exact h
  · have ha : ∀ b ∈ l, b.toNat < 128 := by
      unfold isAscii at h
      rw [List.all_eq_true] at h
      exact fun b hb => of_decide_eq_true (h b hb)
    rw [ascii_valid ha, ascii_good _ _ ha]; rfl

theorem runeB_len {r : Int} (h : Lib.validRune r = true) : ((runeB r).length : Int) = Lib.runeLen r := by
  have hr := h
  simp only [Lib.validRune, decide_eq_true_eq] at hr
  rw [runeB_eq h]
  unfold Lib.runeLen
  (repeat' split) <;> simp <;> omega
theorem fold_len {r : Int} (h : Lib.validRune r = true) : (runeB (foldR r)).length ≤ (runeB r).length := by
  have h1 := runeB_len h
  have h2 := runeB_len (foldR_valid h)
  have hb := foldR_valid h
  have hx : (r < 128 → foldR r < 128) ∧ (r < 2048 → foldR r < 2048) ∧ (r < 65536 → foldR r < 65536) := by
    unfold foldR
    (repeat' split) <;> omega
  simp only [Lib.validRune, decide_eq_true_eq] at h hb
  generalize foldR r = q at *
  have h3 : Lib.runeLen q ≤ Lib.runeLen r := by
    unfold Lib.runeLen
    by_cases c1 : r < 128
    · have := hx.1 c1
      rw [if_neg (by omega : ¬ q < 0), if_pos (by omega : q ≤ 0x7F), if_neg (by omega : ¬ r < 0), if_pos (by omega : r ≤ 0x7F)]; omega
    · by_cases c2 : r < 2048
      · have := hx.2.1 c2
        rw [if_neg (by omega : ¬ r < 0), if_neg (by omega : ¬ r ≤ 0x7F), if_pos (by omega : r ≤ 0x7FF)]
        (repeat' split) <;> omega
      · by_cases c3 : r < 65536
        · have := hx.2.2 c3
          rw [if_neg (by omega : ¬ r < 0), if_neg (by omega : ¬ r ≤ 0x7F), if_neg (by omega : ¬ r ≤ 0x7FF), if_neg (by omega : ¬ (0xD800 ≤ r ∧ r ≤ 0xDFFF)), if_pos (by omega : r ≤ 0xFFFF)]
          (repeat' split) <;> omega
        · rw [if_neg (by omega : ¬ r < 0), if_neg (by omega : ¬ r ≤ 0x7F), if_neg (by omega : ¬ r ≤ 0x7FF), if_neg (by omega : ¬ (0xD800 ≤ r ∧ r ≤ 0xDFFF)), if_neg (by omega : ¬ r ≤ 0xFFFF)]
          (repeat' split) <;> omega
  omega
/-- A character that stays is laid with no more bytes than it was read from. -/
theorem laid_len (fold : Bool) {l : List UInt8} (hne : l ≠ []) (h : (mapR ((Lib.decodeL l).1 : Int)).2.2 = false) (h1 : (mapR ((Lib.decodeL l).1 : Int)).2.1 = true) :
    (runeB (laidR fold (mapR ((Lib.decodeL l).1 : Int)).1)).length ≤ (Lib.decodeL l).2 := by
  have hw := Lib.decodeL_width l
  have hv := (mapR_stays h (by omega) h1).1
  have base : (runeB (mapR ((Lib.decodeL l).1 : Int)).1).length ≤ (Lib.decodeL l).2 := by
    by_cases hb : isBlank ((Lib.decodeL l).1 : Int) = true
    · have : (mapR ((Lib.decodeL l).1 : Int)).1 = 32 := by unfold mapR; rw [if_pos hb]
      rw [this, rune_32]
      simp only [List.length_cons, List.length_nil]
      omega
    · have e : (mapR ((Lib.decodeL l).1 : Int)).1 = ((Lib.decodeL l).1 : Int) := by
        unfold mapR at h h1 ⊢
        rw [if_neg hb] at h h1 ⊢
        split at h
        · rename_i hg; rw [if_pos hg] at h1; cases h1
        · rename_i hg
          rw [if_neg hg]
          split at h
          · cases h
          · rename_i hr; rw [if_neg hr]
      have hne' : (Lib.decodeL l).1 ≠ 65533 := by
        intro e9
        rw [e9] at h hb
        revert h
        decide
      have h2 := Lib.runeLen_decode l hne'
      rw [e] at hv ⊢
      have h3 := runeB_len hv
      omega
  cases fold with
  | false => exact base
  | true => exact Nat.le_trans (fold_len hv) base
theorem mapGo_le (fold : Bool) : ∀ (n : Nat) (acc l t : List UInt8), mapGo fold n acc l = some t → t.length ≤ acc.length + l.length
  | 0, acc, l, t, h => by simp only [mapGo] at h; injection h with h; subst h; omega
  | n + 1, acc, l, t, h => by
    simp only [mapGo] at h
    split at h
    · injection h with h; subst h; omega
    · rename_i hne
      have hw := Lib.decodeL_width l
      have hl := Lib.decodeL_le l hne
      split at h
      · cases h
      · rename_i hb
        split at h
        · have := mapGo_le fold n _ _ _ h
          simp at this; omega
        · rename_i hs
          have h1 := mapGo_le fold n _ _ _ h
          have h2 := laid_len fold hne (by simpa using hb) (by
            cases hx : (mapR ((Lib.decodeL l).1 : Int)).2.1 with
            | true => rfl
            | false => exact absurd (.inl hx) hs)
          simp at h1; omega
theorem prepR_le {fold : Bool} {l t : List UInt8} (h : prepR fold l = some t) : t.length ≤ l.length := by
  unfold prepR at h
  cases hm : mapped fold l with
  | none => rw [hm] at h; cases h
  | some u =>
    rw [hm] at h
    have hu : u.length ≤ l.length := by
      unfold mapped at hm
      split at hm
      · have := mapGo_le fold _ _ _ _ hm
        simpa using this
      · cases hm
    simp only at h
    split at h
    · rename_i hc
      injection h with h
      subst h
      have : 0 < l.length := List.length_pos_iff.2 hc.2
      simp only [List.length_cons, List.length_nil]
      omega
    · injection h with h
      subst h
      exact Nat.le_trans (trimB_le u 32) hu
end Sy
end Go.Proofs.YthoealembhkaoaaGreatDoor
namespace Go.Proofs.YthoealembhkaoaaGreatDoor
open Go.RowKit
namespace Sy
set_option linter.unusedVariables false
set_option linter.unusedSimpArgs false

/-- The lengths of a pair, of a row, of a name, with a byte for each sign between. -/
def pw (q : Pair) : Nat := q.1.length + q.2.length
def rowW (r : List Pair) : Nat := (r.map pw).sum
def dnW (d : List (List Pair)) : Nat := (d.map rowW).sum
theorem span_len (p : UInt8 → Bool) (l : List UInt8) : (l.takeWhile p).length + (l.dropWhile p).length = l.length := by
  rw [← List.length_append, List.takeWhile_append_dropWhile]
theorem typR_sum {l t l' : List UInt8} (h : typR l = some (t, l')) : t.length + l'.length = l.length ∧ isType t = true := by
  unfold typR at h
  split at h
  · rename_i ht
    injection h with h; injection h with h1 h2; subst h1 h2; exact ⟨span_len _ _, ht⟩
  · cases h
theorem hexR_sum {l t l' : List UInt8} (h : hexR l = some (t, l')) : t.length + l'.length ≤ l.length := by
  unfold hexR at h
  cases hu : unhex (l.takeWhile hexB) with
  | none => rw [hu] at h; cases h
  | some u =>
    rw [hu] at h
    rcases u with _ | ⟨a, b⟩
    · cases h
    · simp only [someBytes] at h
      injection h with h; injection h with h1 h2; rw [← h1, ← h2]
      have := unhex_len _ _ _ (Nat.le_refl _) hu
      have := span_len hexB l
      omega
theorem valL_sum : ∀ (n : Nat) (b : List UInt8) (k : Nat) (l t l' : List UInt8), valL n b k l = some (t, l') → t.length + l'.length ≤ b.length + l.length
  | 0, b, k, l, t, l', h => by simp only [valL] at h; injection h with h; injection h with h1 h2; rw [← h1, ← h2]; simp; omega
  | n + 1, b, k, [], t, l', h => by simp only [valL] at h; injection h with h; injection h with h1 h2; rw [← h1, ← h2]; simp; omega
  | n + 1, b, k, c :: l, t, l', h => by
    simp only [valL] at h
    split at h
    · injection h with h; injection h with h1 h2; rw [← h1, ← h2]; simp; omega
    · split at h
      · split at h
        · rename_i x l2 he
          have h1 := escR_shorter he
          have h2 := valL_sum n _ _ _ _ _ h
          simp at h2; simp; omega
        · cases h
      · split at h
        · cases h
        · have := valL_sum n _ _ _ _ _ h
          simp at this; simp; omega
theorem valueR_sum {l t l' : List UInt8} (h : valueR l = some (t, l')) : t.length + l'.length ≤ l.length := by
  cases ha : isAt 35 l with
  | true =>
    rw [valueR_hash ha] at h
    have := hexR_sum h
    simp at this; omega
  | false => rw [valueR_plain ha] at h; simpa using valL_sum _ _ _ _ _ _ h
theorem pairR_sum {l l' : List UInt8} {p : Pair} (h : pairR l = some (p, l')) : pw p + l'.length ≤ l.length ∧ isType p.1 = true := by
  unfold pairR at h
  split at h
  · cases h
  · rename_i t l2 ht
    obtain ⟨h1, h0⟩ := typR_sum ht
    have s1 := skip_le l
    have s2 := skip_le l2
    split at h
    · split at h
      · cases h
      · rename_i v l4 hv
        have h2 := valueR_sum hv
        have s3 := skip_le ((skip l2).drop 1)
        have s4 := skip_le l4
        have s5 : ((skip l2).drop 1).length ≤ (skip l2).length := by simp
        injection h with h; injection h with e1 e2; subst e1 e2
        refine ⟨?_, h0⟩
        simp only [pw]
        omega
    · cases h
theorem rowW_snoc (r : List Pair) (p : Pair) : rowW (r ++ [p]) = rowW r + pw p := by simp [rowW]
theorem dnW_snoc (d : List (List Pair)) (r : List Pair) : dnW (d ++ [r]) = dnW d + rowW r := by simp [dnW]
def TypesR (r : List Pair) : Prop := ∀ q ∈ r, isType q.1 = true
theorem TypesR.snoc {r : List Pair} {p : Pair} (h : TypesR r) (hp : isType p.1 = true) : TypesR (r ++ [p]) := by
  intro q hq
  rcases List.mem_append.1 hq with hq | hq
  · exact h q hq
  · rw [List.mem_singleton.1 hq]; exact hp
theorem partL_sum : ∀ (n : Nat) (acc : List Pair) (l : List UInt8) (p : List Pair) (l' : List UInt8), TypesR acc → partL n acc l = some (p, l') → rowW p + l'.length ≤ rowW acc + l.length ∧ TypesR p
  | 0, _, _, _, _, _, h => by cases h
  | n + 1, acc, l, p, l', ha, h => by
    simp only [partL] at h
    split at h
    · split at h
      · rename_i q l2 hq
        obtain ⟨h1, h2⟩ := pairR_sum hq
        obtain ⟨h3, h4⟩ := partL_sum n _ _ p l' (ha.snoc h2) h
        rw [rowW_snoc] at h3
        have h5 : (l.drop 1).length ≤ l.length := by simp
        exact ⟨by omega, h4⟩
      · cases h
    · injection h with h; injection h with h1 h2; subst h1 h2; exact ⟨Nat.le_refl _, ha⟩
theorem partR_sum {l : List UInt8} {p : List Pair} {l' : List UInt8} (h : partR l = some (p, l')) : rowW p + l'.length ≤ l.length ∧ TypesR p := by
  unfold partR at h
  split at h
  · rename_i q l2 hq
    obtain ⟨h1, h2⟩ := pairR_sum hq
    obtain ⟨h3, h4⟩ := partL_sum _ _ _ p l' (fun x hx => by rw [List.mem_singleton.1 hx]; exact h2) h
    refine ⟨?_, h4⟩
    simp [rowW] at h3 ⊢
    omega
  · cases h
theorem dnL_sum : ∀ (n : Nat) (acc : List (List Pair)) (l : List UInt8) (d : List (List Pair)), (∀ r ∈ acc, TypesR r) → dnL n acc l = some d → dnW d ≤ dnW acc + l.length ∧ ∀ r ∈ d, TypesR r
  | 0, _, _, _, _, h => by cases h
  | n + 1, acc, l, d, ha, h => by
    simp only [dnL] at h
    split at h
    · split at h
      · rename_i p l' hp
        obtain ⟨h1, h2⟩ := partR_sum hp
        obtain ⟨h3, h4⟩ := dnL_sum n _ _ d (fun r hr => by
          rcases List.mem_append.1 hr with hr | hr
          · exact ha r hr
          · rw [List.mem_singleton.1 hr]; exact h2) h
        rw [dnW_snoc] at h3
        have h5 : (l.drop 1).length ≤ l.length := by simp
        exact ⟨by omega, h4⟩
      · cases h
    · split at h
      · injection h with h; subst h; exact ⟨by omega, ha⟩
      · cases h
theorem parse_sum {l : List UInt8} {d : List (List Pair)} {c : Int} (h : parseR l = (some d, c)) : dnW d ≤ l.length ∧ ∀ r ∈ d, TypesR r := by
  unfold parseR at h
  split at h
  · cases h
  · split at h
    · cases h
    · rename_i d' hd
      split at h
      · cases h
      · injection h with h1 h2
        injection h1 with h1
        subst h1
        unfold dnR at hd
        split at hd
        · injection hd with hd; subst hd; exact ⟨Nat.zero_le _, fun r hr => by cases hr⟩
        · split at hd
          · rename_i p l' hp
            obtain ⟨h1, h2⟩ := partR_sum hp
            obtain ⟨h3, h4⟩ := dnL_sum _ _ _ _ (fun r hr => by rw [List.mem_singleton.1 hr]; exact h2) hd
            refine ⟨?_, h4⟩
            simp [dnW] at h3 ⊢
            omega
          · cases hd
end Sy
end Go.Proofs.YthoealembhkaoaaGreatDoor
