import Derived.Test.YthoealembhkaoaaGreatDoorSyTime
namespace Go.Proofs.YthoealembhkaoaaGreatDoor
open Go.RowKit
namespace Sy
set_option linter.unusedVariables false

inductive Form | octets | text | ascii | integer | boolean | name | oid | time
/-- A form's name. -/
def Form.word : Form → ByteArray
  | .octets => ⟨#[111, 99, 116, 101, 116, 115]⟩
  | .text => ⟨#[116, 101, 120, 116]⟩
  | .ascii => ⟨#[97, 115, 99, 105, 105]⟩
  | .integer => ⟨#[105, 110, 116, 101, 103, 101, 114]⟩
  | .boolean => ⟨#[98, 111, 111, 108, 101, 97, 110]⟩
  | .name => ⟨#[110, 97, 109, 101]⟩
  | .oid => ⟨#[111, 105, 100]⟩
  | .time => ⟨#[116, 105, 109, 101]⟩
def isTrue (l : List UInt8) : Bool := l == [84, 82, 85, 69]
def isFalse (l : List UInt8) : Bool := l == [70, 65, 76, 83, 69]
/-- Is a value of a form. -/
def Form.of : Form → List UInt8 → Bool
  | .octets, _ => true
  | .text, l => !l.isEmpty && (prepR false l).isSome
  | .ascii, l => isAscii l
  | .integer, l => isInt l
  | .boolean, l => isTrue l || isFalse l
  | .name, l => decide ((parseR l).2 = 0)
  | .oid, l => isType l
  | .time, l => isTm l
def Form.ok (f : Form) (l : List UInt8) : Bool := decide (l.length ≤ 1024) && f.of l

set_option maxRecDepth 100000 in
set_option maxHeartbeats 1000000 in
theorem valid_long (f s : ByteArray) (w : World) (hl : 1024 < s.size) :
    Calls Tryz.prog 13 #[.string f, .string s] w fun e w' => e = .returned (.bool false) ∧ w' = w := by
  have hl' : (1024 : Int) < (s.size : Int) := by omega
  go_enter Tryz.func13, Tryz.ntmps13
  go_wp2_with fail
  go_ret
  exact ⟨rfl, rfl⟩
set_option maxRecDepth 100000 in
set_option maxHeartbeats 2000000 in
theorem valid_calls (f : Form) (s : ByteArray) (w : World) (he : Env w) (hs : s.size ≤ 9223372036854775807) :
    Calls Tryz.prog 13 #[.string f.word, .string s] w fun e w' => e = .returned (.bool (f.ok s.data.toList)) ∧ Below w.heap.size w w' := by
  have hsl : s.data.toList.length = s.size := by simp
  unfold Form.ok
  by_cases hl : 1024 < s.size
  · have hd : decide (s.data.toList.length ≤ 1024) = false := by simp; omega
    rw [hd]
    exact (valid_long f.word s w hl).mono fun e w' h => ⟨h.1, by rw [h.2]; exact Below.refl _ _⟩
  · have hl' : ¬ (1024 : Int) < (s.size : Int) := by omega
    have hd : decide (s.data.toList.length ≤ 1024) = true := by simp; omega
    rw [hd, Bool.true_and]
    clear hd
    cases f with
    | octets =>
      simp only [Form.word, Form.of]
      go_enter Tryz.func13, Tryz.ntmps13
      go_wp2_with fail
      go_ret
      exact ⟨rfl, Below.refl _ _⟩
    | text =>
      have hc := prepare_calls s false w (by omega) he
      simp only [Form.word, Form.of]
      generalize prepR false s.data.toList = t at *
      cases t with
      | none =>
        go_enter Tryz.func13, Tryz.ntmps13
        go_wp2_with fail
        refine hc.mono ?_
        rintro e w1 ⟨rfl, hb⟩
        clear hc
        simp only [mappedV]
        go_wp2_with fail
        all_goals (go_ret; exact ⟨ret_bool (by simp), hb⟩)
      | some t =>
        go_enter Tryz.func13, Tryz.ntmps13
        go_wp2_with fail
        refine hc.mono ?_
        rintro e w1 ⟨rfl, hb⟩
        clear hc
        simp only [mappedV, strV]
        go_wp2_with fail
        all_goals (go_ret; refine ⟨ret_bool ?_, hb⟩)
        all_goals (rename_i h; rw [ByteArray.toList_eq] at *; simp [h])
    | ascii =>
      have hc := isASCII_calls s w hs
      simp only [Form.word, Form.of]
      generalize isAscii s.data.toList = t at *
      go_enter Tryz.func13, Tryz.ntmps13
      go_wp2_with fail
      refine hc.mono ?_
      rintro e w1 ⟨rfl, rfl⟩
      clear hc
      go_wp2_with fail
      go_ret
      exact ⟨rfl, Below.refl _ _⟩
    | integer =>
      have hc := isInteger_calls s w hs
      simp only [Form.word, Form.of]
      generalize isInt s.data.toList = t at *
      go_enter Tryz.func13, Tryz.ntmps13
      go_wp2_with fail
      refine hc.mono ?_
      rintro e w1 ⟨rfl, hb⟩
      clear hc
      go_wp2_with fail
      go_ret
      exact ⟨rfl, hb⟩
    | boolean =>
      simp only [Form.word, Form.of]
      go_enter Tryz.func13, Tryz.ntmps13
      go_wp2_with fail
      all_goals (go_ret; refine ⟨ret_bool ?_, Below.refl _ _⟩)
      all_goals (rename_i h; rw [ByteArray.toList_eq] at *; simp [isTrue, isFalse, h])
    | name =>
      have hc := parse_calls s w he hs
      simp only [Form.word, Form.of]
      generalize parseR s.data.toList = t at *
      obtain ⟨t1, t2⟩ := t
      go_enter Tryz.func13, Tryz.ntmps13
      go_wp2_with fail
      refine hc.mono ?_
      rintro e w1 ⟨v, rfl, _, hb⟩
      clear hc
      go_wp2_with fail
      go_ret
      exact ⟨ret_bool (by rw [Bool.eq_iff_iff]; simp), hb⟩
    | oid =>
      have hc := isType_calls s w (by omega) he
      simp only [Form.word, Form.of]
      generalize isType s.data.toList = t at *
      go_enter Tryz.func13, Tryz.ntmps13
      go_wp2_with fail
      refine hc.mono ?_
      rintro e w1 ⟨rfl, hb⟩
      clear hc
      go_wp2_with fail
      go_ret
      exact ⟨rfl, hb⟩
    | time =>
      have hc := isTime_calls s w hs
      simp only [Form.word, Form.of]
      generalize isTm s.data.toList = t at *
      go_enter Tryz.func13, Tryz.ntmps13
      go_wp2_with fail
      refine hc.mono ?_
      rintro e w1 ⟨rfl, hb⟩
      clear hc
      go_wp2_with fail
      go_ret
      exact ⟨rfl, hb⟩
end Sy
end Go.Proofs.YthoealembhkaoaaGreatDoor
