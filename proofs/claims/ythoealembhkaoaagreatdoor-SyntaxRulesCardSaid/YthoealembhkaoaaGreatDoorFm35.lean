import Derived.Test.YthoealembhkaoaaGreatDoorFm34
namespace Go.Proofs.YthoealembhkaoaaGreatDoor
open Go.RowKit
namespace Sy
set_option linter.unusedVariables false
set_option maxRecDepth 100000

def formNames : List ByteArray := [⟨#[111, 99, 116, 101, 116, 115]⟩, ⟨#[116, 101, 120, 116]⟩, ⟨#[97, 115, 99, 105, 105]⟩, ⟨#[105, 110, 116, 101, 103, 101, 114]⟩, ⟨#[98, 111, 111, 108, 101, 97, 110]⟩, ⟨#[110, 97, 109, 101]⟩, ⟨#[111, 105, 100]⟩, ⟨#[116, 105, 109, 101]⟩, ⟨#[110, 111, 110, 101]⟩, ⟨#[]⟩]
theorem forms_calls (w : World) : Calls Tryz.prog 22 #[] w fun e w' => e = .returned (.slice (some ⟨w.heap.size, 0, none⟩) 10 10) ∧ StrsAt w' w.heap.size formNames ∧ Below w.heap.size w w' := by
  go_enter Tryz.func22, Tryz.ntmps22
  go_wp2_with fail
  go_ret
  exact ⟨rfl, strs_new w formNames 9, alloc_below _ _⟩
/-- Both tell the same of every form's name. -/
theorem both_valid (v : ByteArray) (hv : v.size ≤ 9223372036854775807) : ∀ i (h : i < formNames.length), ∃ b : Bool,
    (∀ W, Env W → Calls Tryz.prog 13 #[.string formNames[i], .string v] W fun e w' => e = .returned (.bool b) ∧ Below W.heap.size W w') ∧
    (∀ W, Calls Tryz.prog 23 #[.string formNames[i], .string v] W fun e w' => e = .returned (.bool b) ∧ Below W.heap.size W w') := by
  have yes : ∀ f : Form, ∃ b : Bool,
    (∀ W, Env W → Calls Tryz.prog 13 #[.string f.word, .string v] W fun e w' => e = .returned (.bool b) ∧ Below W.heap.size W w') ∧
    (∀ W, Calls Tryz.prog 23 #[.string f.word, .string v] W fun e w' => e = .returned (.bool b) ∧ Below W.heap.size W w') := fun f =>
    ⟨f.ok v.data.toList, fun W he => valid_calls f v W he hv, fun W => rValid_calls f v W hv⟩
  have no : ∀ n ∈ noForms, ∃ b : Bool,
    (∀ W, Env W → Calls Tryz.prog 13 #[.string n, .string v] W fun e w' => e = .returned (.bool b) ∧ Below W.heap.size W w') ∧
    (∀ W, Calls Tryz.prog 23 #[.string n, .string v] W fun e w' => e = .returned (.bool b) ∧ Below W.heap.size W w') := fun n hn =>
    ⟨false, fun W _ => (valid_no n v hn W).mono fun e w' h => ⟨h.1, by rw [h.2]; exact Below.refl _ _⟩, fun W => (rValid_no n v hn W).mono fun e w' h => ⟨h.1, by rw [h.2]; exact Below.refl _ _⟩⟩
  intro i h
  match i, h with
  | 0, _ => exact yes .octets
  | 1, _ => exact yes .text
  | 2, _ => exact yes .ascii
  | 3, _ => exact yes .integer
  | 4, _ => exact yes .boolean
  | 5, _ => exact yes .name
  | 6, _ => exact yes .oid
  | 7, _ => exact yes .time
  | 8, _ => exact no _ (by simp [noForms, formNames])
  | 9, _ => exact no _ (by simp [noForms, formNames])
  | j + 10, h => exact absurd h (by simp [formNames])
theorem word_some (f : Form) : f.word.toList.isEmpty = false := by cases f <;> (rw [ByteArray.toList_eq]; rfl)
theorem rule_word (b : Base) (kd : Kd) : (b.word ++ kd.word).toList.isEmpty = false := by
  rw [ByteArray.toList_eq]
  cases b <;> cases kd <;> rfl
set_option maxHeartbeats 4000000 in
theorem forms_go_calls (v name : ByteArray) (w : World) (he : Env w) (hv : v.size ≤ 9223372036854775807) (hn : name.size ≤ 9223372036854775807) :
    Calls Tryz.prog 8 #[.string v, .string name] w fun e w' => e = .returned (.bool true) ∧ Below w.heap.size w w' := by
  have HE := Lib.hid he
  have HV := Lib.hid (both_valid v hv)
  have Hf1 := Lib.hid (fun W => form_calls name W hn)
  have Hf2 := Lib.hid (fun W => rForm_calls name W hn)
  have Hr1 := Lib.hid (fun W => rule_go_calls name W hn)
  have Hr2 := Lib.hid (fun W => rRule_calls name W hn)
  clear he
  go_enter Tryz.func8, Tryz.ntmps8
  go_wp2_with fail
  refine (forms_calls w).mono ?_
  rintro e w0 ⟨rfl, hs0, hb0⟩
  have HS := Lib.hid hs0
  have HB := Lib.hid hb0
  clear hs0 hb0
  go_upto_block 0 with fail
  go_cut [6] (fun iv wx => Below w.heap.size w wx)
  case first =>
    go_wp2_with fail
    go_loopg [6] 10 (fun k iv wr => ∃ i : Nat, i ≤ 10 ∧ 10 - i ≤ k ∧ iv = .int .i64 i ∧ Hid (StrsAt wr w.heap.size formNames) ∧ Hid (Below w.heap.size w wr))
    case atStart => exact ⟨0, Nat.zero_le _, Nat.le_refl _, rfl, HS.out, HB.out⟩
    case round =>
      obtain ⟨i, hi, hk, rfl, hst, hb⟩ := hrel
      by_cases hlt : i < 10
      · obtain ⟨b, h1, h2⟩ := HV.out i hlt
        have c0 := hst.out i hlt
        have hkeep : ∀ d os, (grw wr d os).cell? ⟨w.heap.size, i, none⟩ = some (.string formNames[i]) := fun d os => grw_cell c0 d os
        have henv : Hid (∀ d os, Env (grw wr d os)) := fun d os => HE.out.below (hb.out.trans ((grw_below wr d os).mono hb.out.size))
        have H1 := Lib.hid h1
        have H2 := Lib.hid h2
        clear h1 h2
        generalize formNames[i] = fn at *
        go_wp2_with fail
        refine region_below (by kernel_rfl) (by kernel_rfl) ?_
        repeat (quiet_step ((first | (go_at_call 13; exact quiet_below (H1.out _ (henv.out _ _))) | (go_at_call 23; exact quiet_below (H2.out _)))))
        refine wpQuiet_nil ?_
        rintro w2 ⟨p, hp⟩
        have hb2 : Below wr.heap.size wr w2 := by rw [hp]; exact grw_below _ _ _
        have HS2 := Lib.hid (hst.out.below hb2)
        have HB2 := Lib.hid (hb.out.trans (hb2.mono hb.out.size))
        clear hp hkeep hb2 henv H1 H2 c0 hst hb
        cases b
        all_goals
          go_wp2_with fail
          go_roundg (10 - (i + 1))
          case measure => omega
          case rel => exact ⟨i + 1, by omega, Nat.le_refl _, by go_num, HS2.out, HB2.out⟩
      · have ei : i = 10 := by omega
        subst ei
        go_wp2_with fail
        go_meet
        exact hb.out
  case rest =>
    have HC := Lib.hid hcut
    have hf1 := Hf1.out
    have hf2 := Hf2.out
    have hr1 := Hr1.out
    have hr2 := Hr2.out
    clear hcut Hf1 Hf2 Hr1 Hr2 HV HS HB
    have hal := fun W (h : Below wc.heap.size wc W) => alive_calls W (HE.out.below (HC.out.trans (h.mono HC.out.size)))
    generalize formR name.data.toList = fr at *
    generalize ruleOf (small name.data.toList) = rr at *
    cases fr with
    | none =>
      simp only [formFV, formRV] at hf1 hf2
      go_wp2_with fail
      refine (hf1 _).mono ?_
      rintro e w9 ⟨rfl, hq⟩
      have hq := hq.symm
      subst hq
      go_wp2_with fail
      refine (hf2 _).mono ?_
      rintro e w9 ⟨rfl, hq⟩
      have hq := hq.symm
      subst hq
      clear hf1 hf2
      go_wp2_with fail
      rcases rr with _ | ⟨b, kd⟩
      · simp only [ruleFV, ruleRV] at hr1 hr2
        refine (hr1 _).mono ?_
        rintro e w1 ⟨rfl, hb1⟩
        go_wp2_with fail
        refine (hr2 _).mono ?_
        rintro e w2 ⟨rfl, hb2⟩
        have hb12 := hb1.trans (hb2.mono hb1.size)
        have hal2 := hal _ hb12
        clear hal hr1 hr2 hb1 hb2
        go_wp2_with fail
        refine hal2.mono ?_
        rintro e w3 ⟨rfl, hb3⟩
        have hb13 := hb12.trans (hb3.mono hb12.size)
        have HB := Lib.hid (HC.out.trans (hb13.mono HC.out.size))
        clear hal2 hb12 hb13 hb3
        go_wp2_with fail
        go_ret
        exact ⟨rfl, HB.out⟩
      · have hw := rule_word b kd
        simp only [ruleFV, ruleRV] at hr1 hr2
        generalize b.word ++ kd.word = wd at *
        generalize kd.num = nd at *
        have hw2 : ¬ wd.toList = [] := by intro h; rw [h] at hw; cases hw
        refine (hr1 _).mono ?_
        rintro e w1 ⟨rfl, hb1⟩
        go_wp2_with fail
        refine (hr2 _).mono ?_
        rintro e w2 ⟨rfl, hb2⟩
        have hb12 := hb1.trans (hb2.mono hb1.size)
        have hal2 := hal _ hb12
        clear hal hr1 hr2 hb1 hb2
        go_wp2_with fail
        refine hal2.mono ?_
        rintro e w3 ⟨rfl, hb3⟩
        have hb13 := hb12.trans (hb3.mono hb12.size)
        have HB := Lib.hid (HC.out.trans (hb13.mono HC.out.size))
        clear hal2 hb12 hb13 hb3
        go_wp2_with fail
        go_ret
        exact ⟨rfl, HB.out⟩
    | some f =>
      have hfw := word_some f
      simp only [formFV, formRV] at hf1 hf2
      generalize f.word = fw at *
      have hfw2 : ¬ fw.toList = [] := by intro h; rw [h] at hfw; cases hfw
      go_wp2_with fail
      refine (hf1 _).mono ?_
      rintro e w9 ⟨rfl, hq⟩
      have hq := hq.symm
      subst hq
      go_wp2_with fail
      refine (hf2 _).mono ?_
      rintro e w9 ⟨rfl, hq⟩
      have hq := hq.symm
      subst hq
      clear hf1 hf2
      go_wp2_with fail
      rcases rr with _ | ⟨b, kd⟩
      · simp only [ruleFV, ruleRV] at hr1 hr2
        refine (hr1 _).mono ?_
        rintro e w1 ⟨rfl, hb1⟩
        go_wp2_with fail
        refine (hr2 _).mono ?_
        rintro e w2 ⟨rfl, hb2⟩
        have hb12 := hb1.trans (hb2.mono hb1.size)
        have hal2 := hal _ hb12
        clear hal hr1 hr2 hb1 hb2
        go_wp2_with fail
        refine hal2.mono ?_
        rintro e w3 ⟨rfl, hb3⟩
        have hb13 := hb12.trans (hb3.mono hb12.size)
        have HB := Lib.hid (HC.out.trans (hb13.mono HC.out.size))
        clear hal2 hb12 hb13 hb3
        go_wp2_with fail
        go_ret
        exact ⟨rfl, HB.out⟩
      · have hw := rule_word b kd
        simp only [ruleFV, ruleRV] at hr1 hr2
        generalize b.word ++ kd.word = wd at *
        generalize kd.num = nd at *
        have hw2 : ¬ wd.toList = [] := by intro h; rw [h] at hw; cases hw
        refine (hr1 _).mono ?_
        rintro e w1 ⟨rfl, hb1⟩
        go_wp2_with fail
        refine (hr2 _).mono ?_
        rintro e w2 ⟨rfl, hb2⟩
        have hb12 := hb1.trans (hb2.mono hb1.size)
        have hal2 := hal _ hb12
        clear hal hr1 hr2 hb1 hb2
        go_wp2_with fail
        refine hal2.mono ?_
        rintro e w3 ⟨rfl, hb3⟩
        have hb13 := hb12.trans (hb3.mono hb12.size)
        have HB := Lib.hid (HC.out.trans (hb13.mono HC.out.size))
        clear hal2 hb12 hb13 hb3
        go_wp2_with fail
        go_ret
        exact ⟨rfl, HB.out⟩
end Sy
end Go.Proofs.YthoealembhkaoaaGreatDoor
