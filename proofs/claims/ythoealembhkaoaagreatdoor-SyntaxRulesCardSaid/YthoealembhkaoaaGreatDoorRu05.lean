import Derived.Test.YthoealembhkaoaaGreatDoorRu04
import Derived.Test.YthoealembhkaoaaGreatDoorFm27
import Derived.Test.YthoealembhkaoaaGreatDoorFm35
import Derived.Test.YthoealembhkaoaaGreatDoorFm24
namespace Go.Proofs.YthoealembhkaoaaGreatDoor
open Go.RowKit
namespace Sy
set_option linter.unusedVariables false
set_option linter.unusedSimpArgs false
set_option maxRecDepth 100000

theorem wd_octet_eq : Base.octet.word ++ Kd.eq.word = ⟨#[111, 99, 116, 101, 116, 83, 116, 114, 105, 110, 103, 77, 97, 116, 99, 104]⟩ := by decide
theorem wd_exact_eq : Base.exact.word ++ Kd.eq.word = ⟨#[99, 97, 115, 101, 69, 120, 97, 99, 116, 77, 97, 116, 99, 104]⟩ := by decide
theorem wd_ignore_eq : Base.ignore.word ++ Kd.eq.word = ⟨#[99, 97, 115, 101, 73, 103, 110, 111, 114, 101, 77, 97, 116, 99, 104]⟩ := by decide
theorem wd_integer_eq : Base.integer.word ++ Kd.eq.word = ⟨#[105, 110, 116, 101, 103, 101, 114, 77, 97, 116, 99, 104]⟩ := by decide
theorem wd_boolean_eq : Base.boolean.word ++ Kd.eq.word = ⟨#[98, 111, 111, 108, 101, 97, 110, 77, 97, 116, 99, 104]⟩ := by decide
theorem wd_dn_eq : Base.dn.word ++ Kd.eq.word = ⟨#[100, 105, 115, 116, 105, 110, 103, 117, 105, 115, 104, 101, 100, 78, 97, 109, 101, 77, 97, 116, 99, 104]⟩ := by decide
theorem wd_oid_eq : Base.oid.word ++ Kd.eq.word = ⟨#[111, 98, 106, 101, 99, 116, 73, 100, 101, 110, 116, 105, 102, 105, 101, 114, 77, 97, 116, 99, 104]⟩ := by decide
theorem wd_time_eq : Base.time.word ++ Kd.eq.word = ⟨#[103, 101, 110, 101, 114, 97, 108, 105, 122, 101, 100, 84, 105, 109, 101, 77, 97, 116, 99, 104]⟩ := by decide
theorem wd_octet_ord : Base.octet.word ++ Kd.ord.word = ⟨#[111, 99, 116, 101, 116, 83, 116, 114, 105, 110, 103, 79, 114, 100, 101, 114, 105, 110, 103, 77, 97, 116, 99, 104]⟩ := by decide
theorem wd_exact_ord : Base.exact.word ++ Kd.ord.word = ⟨#[99, 97, 115, 101, 69, 120, 97, 99, 116, 79, 114, 100, 101, 114, 105, 110, 103, 77, 97, 116, 99, 104]⟩ := by decide
theorem wd_ignore_ord : Base.ignore.word ++ Kd.ord.word = ⟨#[99, 97, 115, 101, 73, 103, 110, 111, 114, 101, 79, 114, 100, 101, 114, 105, 110, 103, 77, 97, 116, 99, 104]⟩ := by decide
theorem wd_integer_ord : Base.integer.word ++ Kd.ord.word = ⟨#[105, 110, 116, 101, 103, 101, 114, 79, 114, 100, 101, 114, 105, 110, 103, 77, 97, 116, 99, 104]⟩ := by decide
theorem wd_time_ord : Base.time.word ++ Kd.ord.word = ⟨#[103, 101, 110, 101, 114, 97, 108, 105, 122, 101, 100, 84, 105, 109, 101, 79, 114, 100, 101, 114, 105, 110, 103, 77, 97, 116, 99, 104]⟩ := by decide
theorem wd_exact_sub : Base.exact.word ++ Kd.sub.word = ⟨#[99, 97, 115, 101, 69, 120, 97, 99, 116, 83, 117, 98, 115, 116, 114, 105, 110, 103, 115, 77, 97, 116, 99, 104]⟩ := by decide
theorem wd_ignore_sub : Base.ignore.word ++ Kd.sub.word = ⟨#[99, 97, 115, 101, 73, 103, 110, 111, 114, 101, 83, 117, 98, 115, 116, 114, 105, 110, 103, 115, 77, 97, 116, 99, 104]⟩ := by decide
/-- The rule of equality by which a rule goes. -/
def baseW : Option (Base × Kd) → ByteArray
  | none => ⟨#[]⟩
  | some (b, _) => b.word ++ Kd.eq.word
theorem rule_in {x : List UInt8} {e : Base × Kd} (h : ruleOf x = some e) : e ∈ ruleList := by
  rw [ruleOf_find] at h
  exact List.mem_of_find?_eq_some h
set_option maxHeartbeats 4000000 in
theorem rBase_calls (s : ByteArray) (w : World) (hs : s.size ≤ 9223372036854775807) :
    Calls Tryz.prog 45 #[.string s] w fun e w' => e = .returned (.string (baseW (ruleOf (small s.data.toList)))) ∧ Below w.heap.size w w' := by
  have hr := rRule_calls s w hs
  have hin := fun e => @rule_in (small s.data.toList) e
  generalize ruleOf (small s.data.toList) = r at *
  rcases r with _ | e
  · simp only [ruleRV, baseW] at hr ⊢
    clear hin
    go_enter Tryz.func45, Tryz.ntmps45
    go_wp2_with fail
    refine hr.mono ?_
    rintro e w1 ⟨rfl, hb⟩
    clear hr
    go_wp2_with fail
    go_ret
    exact ⟨rfl, hb⟩
  · have hm := hin e rfl
    clear hin
    simp only [ruleList, List.mem_cons, List.not_mem_nil, or_false] at hm
    rcases hm with rfl | rfl | rfl | rfl | rfl | rfl | rfl | rfl | rfl | rfl | rfl | rfl | rfl | rfl | rfl
    · simp only [ruleRV, baseW, wd_octet_eq, wd_octet_eq] at hr ⊢
      go_enter Tryz.func45, Tryz.ntmps45
      go_wp2_with fail
      refine hr.mono ?_
      rintro e w1 ⟨rfl, hb⟩
      clear hr
      go_wp2_with fail
      go_ret
      exact ⟨rfl, hb⟩
    · simp only [ruleRV, baseW, wd_exact_eq, wd_exact_eq] at hr ⊢
      go_enter Tryz.func45, Tryz.ntmps45
      go_wp2_with fail
      refine hr.mono ?_
      rintro e w1 ⟨rfl, hb⟩
      clear hr
      go_wp2_with fail
      go_ret
      exact ⟨rfl, hb⟩
    · simp only [ruleRV, baseW, wd_ignore_eq, wd_ignore_eq] at hr ⊢
      go_enter Tryz.func45, Tryz.ntmps45
      go_wp2_with fail
      refine hr.mono ?_
      rintro e w1 ⟨rfl, hb⟩
      clear hr
      go_wp2_with fail
      go_ret
      exact ⟨rfl, hb⟩
    · simp only [ruleRV, baseW, wd_integer_eq, wd_integer_eq] at hr ⊢
      go_enter Tryz.func45, Tryz.ntmps45
      go_wp2_with fail
      refine hr.mono ?_
      rintro e w1 ⟨rfl, hb⟩
      clear hr
      go_wp2_with fail
      go_ret
      exact ⟨rfl, hb⟩
    · simp only [ruleRV, baseW, wd_boolean_eq, wd_boolean_eq] at hr ⊢
      go_enter Tryz.func45, Tryz.ntmps45
      go_wp2_with fail
      refine hr.mono ?_
      rintro e w1 ⟨rfl, hb⟩
      clear hr
      go_wp2_with fail
      go_ret
      exact ⟨rfl, hb⟩
    · simp only [ruleRV, baseW, wd_dn_eq, wd_dn_eq] at hr ⊢
      go_enter Tryz.func45, Tryz.ntmps45
      go_wp2_with fail
      refine hr.mono ?_
      rintro e w1 ⟨rfl, hb⟩
      clear hr
      go_wp2_with fail
      go_ret
      exact ⟨rfl, hb⟩
    · simp only [ruleRV, baseW, wd_oid_eq, wd_oid_eq] at hr ⊢
      go_enter Tryz.func45, Tryz.ntmps45
      go_wp2_with fail
      refine hr.mono ?_
      rintro e w1 ⟨rfl, hb⟩
      clear hr
      go_wp2_with fail
      go_ret
      exact ⟨rfl, hb⟩
    · simp only [ruleRV, baseW, wd_time_eq, wd_time_eq] at hr ⊢
      go_enter Tryz.func45, Tryz.ntmps45
      go_wp2_with fail
      refine hr.mono ?_
      rintro e w1 ⟨rfl, hb⟩
      clear hr
      go_wp2_with fail
      go_ret
      exact ⟨rfl, hb⟩
    · simp only [ruleRV, baseW, wd_octet_ord, wd_octet_eq] at hr ⊢
      go_enter Tryz.func45, Tryz.ntmps45
      go_wp2_with fail
      refine hr.mono ?_
      rintro e w1 ⟨rfl, hb⟩
      clear hr
      go_wp2_with fail
      go_ret
      exact ⟨rfl, hb⟩
    · simp only [ruleRV, baseW, wd_exact_ord, wd_exact_eq] at hr ⊢
      go_enter Tryz.func45, Tryz.ntmps45
      go_wp2_with fail
      refine hr.mono ?_
      rintro e w1 ⟨rfl, hb⟩
      clear hr
      go_wp2_with fail
      go_ret
      exact ⟨rfl, hb⟩
    · simp only [ruleRV, baseW, wd_ignore_ord, wd_ignore_eq] at hr ⊢
      go_enter Tryz.func45, Tryz.ntmps45
      go_wp2_with fail
      refine hr.mono ?_
      rintro e w1 ⟨rfl, hb⟩
      clear hr
      go_wp2_with fail
      go_ret
      exact ⟨rfl, hb⟩
    · simp only [ruleRV, baseW, wd_integer_ord, wd_integer_eq] at hr ⊢
      go_enter Tryz.func45, Tryz.ntmps45
      go_wp2_with fail
      refine hr.mono ?_
      rintro e w1 ⟨rfl, hb⟩
      clear hr
      go_wp2_with fail
      go_ret
      exact ⟨rfl, hb⟩
    · simp only [ruleRV, baseW, wd_time_ord, wd_time_eq] at hr ⊢
      go_enter Tryz.func45, Tryz.ntmps45
      go_wp2_with fail
      refine hr.mono ?_
      rintro e w1 ⟨rfl, hb⟩
      clear hr
      go_wp2_with fail
      go_ret
      exact ⟨rfl, hb⟩
    · simp only [ruleRV, baseW, wd_exact_sub, wd_exact_eq] at hr ⊢
      go_enter Tryz.func45, Tryz.ntmps45
      go_wp2_with fail
      refine hr.mono ?_
      rintro e w1 ⟨rfl, hb⟩
      clear hr
      go_wp2_with fail
      go_ret
      exact ⟨rfl, hb⟩
    · simp only [ruleRV, baseW, wd_ignore_sub, wd_ignore_eq] at hr ⊢
      go_enter Tryz.func45, Tryz.ntmps45
      go_wp2_with fail
      refine hr.mono ?_
      rintro e w1 ⟨rfl, hb⟩
      clear hr
      go_wp2_with fail
      go_ret
      exact ⟨rfl, hb⟩
end Sy
end Go.Proofs.YthoealembhkaoaaGreatDoor
namespace Go.Proofs.YthoealembhkaoaaGreatDoor
open Go.RowKit
namespace Sy
set_option linter.unusedVariables false
set_option linter.unusedSimpArgs false
set_option maxRecDepth 100000

/-- Is a rule of equality one of a form? -/
def ofB : Base → Form → Bool
  | .octet, .octets => true
  | .exact, .text => true
  | .exact, .ascii => true
  | .ignore, .text => true
  | .ignore, .ascii => true
  | .integer, .integer => true
  | .boolean, .boolean => true
  | .dn, .name => true
  | .oid, .oid => true
  | .time, .time => true
  | _, _ => false
def allForms : List Form := [.octets, .text, .ascii, .integer, .boolean, .name, .oid, .time]
theorem ofB_any (b : Base) (p : Form → Bool) : (allForms.any fun f => ofB b f && p f) = b.forms.any p := by
  cases b <;> simp [allForms, ofB, Base.forms]
theorem ruleOf_eq (b : Base) : ruleOf (small (b.word ++ Kd.eq.word).data.toList) = some (b, .eq) := by
  cases b <;> kernel_rfl
set_option maxHeartbeats 8000000 in
theorem rOf_calls (b : Base) (f : Form) (w : World) :
    Calls Tryz.prog 41 #[.string (b.word ++ Kd.eq.word), .string f.word] w fun e w' => e = .returned (.bool (ofB b f)) ∧ Below w.heap.size w w' := by
  have hb := rBase_calls (b.word ++ Kd.eq.word) w (by cases b <;> decide)
  rw [ruleOf_eq] at hb
  simp only [baseW] at hb
  cases b
  all_goals
    simp only [wd_octet_eq, wd_exact_eq, wd_ignore_eq, wd_integer_eq, wd_boolean_eq, wd_dn_eq, wd_oid_eq, wd_time_eq] at hb ⊢
    cases f
    all_goals
      simp only [Form.word, ofB]
      go_enter Tryz.func41, Tryz.ntmps41
      go_wp2_with fail
      refine hb.mono ?_
      rintro e w1 ⟨rfl, hbb⟩
      clear hb
      go_wp2_with fail
      go_ret
      exact ⟨rfl, hbb⟩
end Sy
end Go.Proofs.YthoealembhkaoaaGreatDoor
namespace Go.Proofs.YthoealembhkaoaaGreatDoor
open Go.RowKit
namespace Sy
set_option linter.unusedVariables false
set_option linter.unusedSimpArgs false
set_option maxRecDepth 100000

/-- The reference's normal form by a rule of equality, of a value that is one. -/
def rNormB : Base → List UInt8 → Option (List UInt8) × Int
  | .exact, l => (prepR false l, if (prepR false l).isSome then 0 else 10)
  | .ignore, l => (prepR true l, if (prepR true l).isSome then 0 else 10)
  | .dn, l => (some ((printR (((parseR l).1.getD []).map normRow)).1.getD []), 0)
  | .oid, l => (some (small l), 0)
  | _, l => (some l, 0)
def rNormA (b : Base) (v : List UInt8) : Option (List UInt8) × Int := if (b.forms.any fun f => f.ok v) = true then rNormB b v else (none, 40)
def rNormK : Option (Base × Kd) → List UInt8 → Option (List UInt8) × Int
  | none, _ => (none, 41)
  | some (b, kd), v => if kd.num = 0 then rNormA b v else (none, 41)
theorem mapped_norm (r : Option (List UInt8)) : mappedV r = normFV (r, if r.isSome then 0 else 10) := by cases r <;> rfl
def eightNames : List ByteArray := [⟨#[111, 99, 116, 101, 116, 115]⟩, ⟨#[116, 101, 120, 116]⟩, ⟨#[97, 115, 99, 105, 105]⟩, ⟨#[105, 110, 116, 101, 103, 101, 114]⟩, ⟨#[98, 111, 111, 108, 101, 97, 110]⟩, ⟨#[110, 97, 109, 101]⟩, ⟨#[111, 105, 100]⟩, ⟨#[116, 105, 109, 101]⟩]
theorem eight_at : ∀ i (h : i < 8), ∃ f, allForms[i]? = some f ∧ eightNames[i]'h = f.word
  | 0, _ => ⟨_, rfl, rfl⟩
  | 1, _ => ⟨_, rfl, rfl⟩
  | 2, _ => ⟨_, rfl, rfl⟩
  | 3, _ => ⟨_, rfl, rfl⟩
  | 4, _ => ⟨_, rfl, rfl⟩
  | 5, _ => ⟨_, rfl, rfl⟩
  | 6, _ => ⟨_, rfl, rfl⟩
  | 7, _ => ⟨_, rfl, rfl⟩
  | j + 8, h => absurd h (by omega)
theorem ok_short {b : Base} {v : List UInt8} (h : (b.forms.any fun f => f.ok v) = true) : v.length ≤ 1024 := by
  rw [List.any_eq_true] at h
  obtain ⟨f, _, hf⟩ := h
  unfold Form.ok at hf
  rw [Bool.and_eq_true, decide_eq_true_eq] at hf
  exact hf.1

set_option maxHeartbeats 8000000 in
theorem rNormEq_calls (b : Base) (n v : ByteArray) (w : World) (hn : n.size ≤ 9223372036854775807) (hv : v.size ≤ 9223372036854775807) (hr : ruleOf (small n.data.toList) = some (b, .eq)) :
    Calls Tryz.prog 16 #[.string n, .string v] w fun e w' => e = .returned (normFV (rNormA b v.data.toList)) ∧ Below w.heap.size w w' := by
  have h1 := rRule_calls n w hn
  rw [hr] at h1
  simp only [ruleRV, Kd.num] at h1
  have hOf := fun f W => rOf_calls b f W
  have hne := rule_word b .eq
  obtain ⟨own, hown⟩ : ∃ own, b.word ++ Kd.eq.word = own := ⟨_, rfl⟩
  rw [hown] at h1 hOf hne
  have HO := Lib.hid hown
  clear hown hr
  obtain ⟨R, hR⟩ : ∃ R, rNormA b v.data.toList = R := ⟨_, rfl⟩
  rw [hR]
  have HR := Lib.hid hR
  clear hR
  go_enter Tryz.func16, Tryz.ntmps16
  go_wp2_with fail
  refine h1.mono ?_
  rintro e w1 ⟨rfl, hb1⟩
  clear h1
  go_wp2_with fail
  have HS := Lib.hid (strs_new w1 eightNames 9)
  have HB := Lib.hid (hb1.alloc hb1.size (.cells (eightNames.map Value.string).toArray 9))
  have HV := Lib.hid (fun f W => rValid_calls f v W hv)
  have HOF := Lib.hid hOf
  clear hOf
  obtain ⟨fin, hfin⟩ : ∃ fin, (b.forms.any fun f => f.ok v.data.toList) = fin := ⟨_, rfl⟩
  have HF : Hid ((allForms.any fun f => ofB b f && f.ok v.data.toList) = fin) := (ofB_any b _).trans hfin
  go_loopg [9, 10] 8 (fun k av iv wr => ∃ (i : Nat) (acc : Bool), i ≤ 8 ∧ 8 - i ≤ k ∧ iv = .int .i64 i ∧ av = .bool acc ∧ Hid (((allForms.take i).any fun f => ofB b f && f.ok v.data.toList) = acc) ∧ Hid (StrsAt wr w1.heap.size eightNames) ∧ Hid (Below w.heap.size w wr))
  case atStart => exact ⟨0, false, Nat.zero_le _, Nat.le_refl _, rfl, rfl, rfl, HS.out, HB.out⟩
  case round =>
    obtain ⟨i, acc, hi, hk, rfl, rfl, hacc, hst, hb⟩ := hrel
    by_cases hlt : i < 8
    · obtain ⟨f, hf, hfw⟩ := eight_at i hlt
      have c0 := hst.out i hlt
      rw [hfw] at c0
      have Hnx : Hid (((allForms.take (i + 1)).any fun f => ofB b f && f.ok v.data.toList) = (acc || (ofB b f && f.ok v.data.toList))) := by
        show _ = _
        rw [List.take_add_one, hf, List.any_append, hacc.out]; simp
      have hof := HOF.out f
      have hva := HV.out f
      clear hf hfw hacc HS HB
      generalize ofB b f = o at *
      generalize f.ok v.data.toList = p at *
      generalize f.word = fw at *
      cases acc
      · go_wp2_with fail
        refine (hof _).mono ?_
        rintro e w2 ⟨rfl, hb2⟩
        have c1 := (hb2.cell (World.block_lt_of_cell? _ _ c0)).trans c0
        have HS2 := Lib.hid (hst.out.below hb2)
        have HB2 := Lib.hid (hb.out.trans (hb2.mono hb.out.size))
        clear hof hb2 hst hb c0
        cases o
        · clear hva
          go_wp2_with fail
          go_roundg (8 - (i + 1))
          case measure => omega
          case rel => exact ⟨i + 1, false, by omega, Nat.le_refl _, by go_num, rfl, Hnx.out, HS2.out, HB2.out⟩
        · go_wp2_with fail
          refine (hva _).mono ?_
          rintro e w3 ⟨rfl, hb3⟩
          have HS3 := Lib.hid (HS2.out.below hb3)
          have HB3 := Lib.hid (HB2.out.trans (hb3.mono HB2.out.size))
          clear hva hb3 c1 HS2 HB2
          go_wp2_with fail
          go_roundg (8 - (i + 1))
          case measure => omega
          case rel => exact ⟨i + 1, p, by omega, Nat.le_refl _, by go_num, rfl, by show _ = _; rw [Hnx.out]; simp, HS3.out, HB3.out⟩
      · clear hof hva
        go_wp2_with fail
        go_roundg (8 - (i + 1))
        case measure => omega
        case rel => exact ⟨i + 1, true, by omega, Nat.le_refl _, by go_num, rfl, by rw [Hnx.out]; rfl, hst.out, hb.out⟩
    · have ei : i = 8 := by omega
      subst ei
      have hfa : acc = fin := by rw [← hacc.out, ← HF.out]; rfl
      subst hfa
      clear HOF HV hacc hst HS HB HF
      cases acc with
      | false =>
        have HR2 : Hid (R = (none, 40)) := by show R = _; rw [← HR.out]; unfold rNormA; rw [hfin]; rfl
        clear hfin HR
        go_wp2_with fail
        go_ret2
        exact ⟨by rw [HR2.out]; rfl, hb.out⟩
      | true =>
        have hR2 : R = rNormB b v.data.toList := by rw [← HR.out]; unfold rNormA; rw [hfin]; rfl
        have hl := ok_short hfin
        rw [show v.data.toList.length = v.size by simp] at hl
        have HFN := Lib.hid hfin
        clear hfin hk HR
        have ho := HO.out
        cases b
        all_goals
          simp only [wd_octet_eq, wd_exact_eq, wd_ignore_eq, wd_integer_eq, wd_boolean_eq, wd_dn_eq, wd_oid_eq, wd_time_eq] at ho
          subst ho
          simp only [rNormB] at hR2
          have HR2 := Lib.hid hR2
          clear HO hne hR2
        case exact =>
          have hp := fun W => rPrep_calls v false W (by omega)
          rw [mapped_norm, ← HR2.out] at hp
          clear HR2
          go_wp2_with fail
          refine (hp _).mono ?_
          rintro e w4 ⟨rfl, hb4⟩
          have HB4 := Lib.hid (hb.out.trans (hb4.mono hb.out.size))
          clear hp hb4
          simp only [normFV]
          go_wp2_with fail
          go_ret2
          exact ⟨rfl, HB4.out⟩
        case ignore =>
          have hp := fun W => rPrep_calls v true W (by omega)
          rw [mapped_norm, ← HR2.out] at hp
          clear HR2
          go_wp2_with fail
          refine (hp _).mono ?_
          rintro e w4 ⟨rfl, hb4⟩
          have HB4 := Lib.hid (hb.out.trans (hb4.mono hb.out.size))
          clear hp hb4
          simp only [normFV]
          go_wp2_with fail
          go_ret2
          exact ⟨rfl, HB4.out⟩
        case dn =>
          have hpq : ∃ d, parseR v.data.toList = (some d, 0) ∧ Narrow d := by
            rcases parseR_cases v.data.toList with ⟨c, hc, hc0⟩ | h
            · exfalso
              have h9 := HFN.out
              simp only [Base.forms, List.any_cons, List.any_nil, Bool.or_false, Form.ok, Form.of, Bool.and_eq_true] at h9
              have h8 := h9.2
              rw [hc] at h8
              simp at h8
              try exact hc0 h8
            · exact h
          obtain ⟨d, hd, hnar⟩ := hpq
          have hp := fun W => rNameNorm_calls v d W (by omega) hd hnar
          rw [hd] at HR2
          simp only [Option.getD_some] at HR2
          generalize (printR (d.map normRow)).1.getD [] = t at *
          clear hd hnar HFN
          go_wp2_with fail
          refine (hp _).mono ?_
          rintro e w4 ⟨rfl, hb4⟩
          have HB4 := Lib.hid (hb.out.trans (hb4.mono hb.out.size))
          clear hp hb4
          go_wp2_with fail
          go_ret2
          exact ⟨by rw [HR2.out]; rfl, HB4.out⟩
        case oid =>
          have hp := fun W => rLower_calls v W (by omega)
          go_wp2_with fail
          refine (hp _).mono ?_
          rintro e w4 ⟨rfl, hb4⟩
          have HB4 := Lib.hid (hb.out.trans (hb4.mono hb.out.size))
          clear hp hb4
          go_wp2_with fail
          go_ret2
          exact ⟨by rw [HR2.out]; rfl, HB4.out⟩
        all_goals
          go_wp2_with fail
          go_ret2
          exact ⟨by rw [HR2.out]; rfl, hb.out⟩
theorem kind_eq : ∀ kd : Kd, kd.num = 0 → kd = .eq
  | .eq, _ => rfl
  | .ord, h => by cases h
  | .sub, h => by cases h
set_option maxHeartbeats 2000000 in
theorem rNorm_calls (n v : ByteArray) (w : World) (hn : n.size ≤ 9223372036854775807) (hv : v.size ≤ 9223372036854775807) :
    Calls Tryz.prog 16 #[.string n, .string v] w fun e w' => e = .returned (normFV (rNormK (ruleOf (small n.data.toList)) v.data.toList)) ∧ Below w.heap.size w w' := by
  have h1 := rRule_calls n w hn
  cases hr : ruleOf (small n.data.toList) with
  | none =>
    rw [hr] at h1
    simp only [ruleRV, rNormK] at h1 ⊢
    clear hr
    go_enter Tryz.func16, Tryz.ntmps16
    go_wp2_with fail
    refine h1.mono ?_
    rintro e w1 ⟨rfl, hb⟩
    clear h1
    go_wp2_with fail
    go_ret2
    exact ⟨rfl, hb⟩
  | some e =>
    obtain ⟨b, kd⟩ := e
    by_cases hk : kd.num = 0
    · obtain rfl := kind_eq kd hk
      simp only [rNormK]
      rw [if_pos hk]
      exact rNormEq_calls b n v w hn hv hr
    · rw [hr] at h1
      simp only [ruleRV, rNormK] at h1 ⊢
      rw [if_neg hk]
      have hne := rule_word b kd
      have q : (kd.num != 0) = true := by simpa using hk
      generalize b.word ++ kd.word = own at *
      generalize kd.num = m at *
      clear hr hk
      go_enter Tryz.func16, Tryz.ntmps16
      go_wp2_with fail
      refine h1.mono ?_
      rintro e w1 ⟨rfl, hb⟩
      clear h1
      go_wp2_with fail
      go_ret2
      exact ⟨rfl, hb⟩
end Sy
end Go.Proofs.YthoealembhkaoaaGreatDoor
