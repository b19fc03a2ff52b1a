import Derived.Test.YthoealembhkaoaaGreatDoorFm15
namespace Go.Proofs.YthoealembhkaoaaGreatDoor
open Go.RowKit
namespace Sy
set_option linter.unusedVariables false

def numN (l : List UInt8) : Nat := l.foldl (fun n b => 10 * n + (b.toNat - 48)) 0
theorem numN_snoc (l : List UInt8) (b : UInt8) : numN (l ++ [b]) = 10 * numN l + (b.toNat - 48) := by simp [numN]
theorem numN_lt : ∀ l : List UInt8, (∀ b ∈ l, 48 ≤ b.toNat ∧ b.toNat ≤ 57) → numN l < 10 ^ l.length := by
  intro l
  suffices h : ∀ n (l : List UInt8), l.length = n → (∀ b ∈ l, 48 ≤ b.toNat ∧ b.toNat ≤ 57) → numN l < 10 ^ l.length from h l.length l rfl
  intro n
  induction n with
  | zero => intro l hl _; rw [List.length_eq_zero_iff.1 hl]; simp [numN]
  | succ n ih =>
    intro l hl hb
    rcases nil_or_snoc l with rfl | ⟨l', x, rfl⟩
    · simp at hl
    · have h1 := ih l' (by simpa using hl) (fun b hb' => hb b (by simp [hb']))
      have h2 := hb x (by simp)
      rw [numN_snoc, List.length_append]
      simp only [List.length_cons, List.length_nil, Nat.pow_succ, Nat.zero_add]
      omega
set_option maxHeartbeats 1000000 in
theorem number_calls (s : ByteArray) (w : World) (hs : s.size ≤ 4) (hd : ∀ b ∈ s.data.toList, 48 ≤ b.toNat ∧ b.toNat ≤ 57) :
    Calls Tryz.prog 70 #[.string s] w fun e w' => e = .returned (.int .i64 (numN s.data.toList : Int)) ∧ w' = w := by
  have HD := Lib.hid hd
  have hsl : s.data.toList.length = s.size := by simp
  clear hd
  go_enter Tryz.func70, Tryz.ntmps70
  go_wp2_with fail
  go_loopg [3, 7] s.size (fun k nv iv wr => (∃ i : Nat, i ≤ s.size ∧ s.size - i ≤ k ∧ iv = .int .i64 i ∧ nv = .int .i64 (numN (s.data.toList.take i) : Int)) ∧ wr = w)
  case atStart => exact ⟨⟨0, Nat.zero_le _, Nat.le_refl _, rfl, rfl⟩, rfl⟩
  case round =>
    obtain ⟨⟨i, hi, hk, rfl, rfl⟩, rfl⟩ := hrel
    by_cases hlt : i < s.size
    · have hb := HD.out s[i] (by show s.data[i] ∈ _; simp)
      have hn : numN (s.data.toList.take (i + 1)) = 10 * numN (s.data.toList.take i) + (s[i].toNat - 48) := by
        rw [List.take_succ_eq_append_getElem (by omega), numN_snoc]; rfl
      have hlt2 := numN_lt (s.data.toList.take i) (fun b hb' => HD.out b (List.mem_of_mem_take hb'))
      have hpow : 10 ^ (s.data.toList.take i).length ≤ 10000 := by
        have : (s.data.toList.take i).length ≤ 4 := by simp; omega
        exact Nat.le_trans (Nat.pow_le_pow_right (by omega) this) (by decide)
      generalize numN (s.data.toList.take i) = m at *
      have HN := Lib.hid hn
      have w1 : IntKind.i64.wrap (10 * (m : Int)) = 10 * (m : Int) := IntWalk.i64_in _ (by omega)
      have w2 : IntKind.u8.wrap ((s[i].toNat : Int) - 48) = (s[i].toNat : Int) - 48 := IntWalk.u8_in _ (by omega)
      have w3 : IntKind.i64.wrap (10 * (m : Int) + ((s[i].toNat : Int) - 48)) = 10 * (m : Int) + ((s[i].toNat : Int) - 48) := IntWalk.i64_in _ (by omega)
      clear hn hpow hlt2
      go_wp2_with fail
      go_roundg (s.size - (i + 1))
      case measure => omega
      case rel =>
        refine ⟨⟨i + 1, by omega, Nat.le_refl _, by go_num, ?_⟩, rfl⟩
        rw [HN.out]
        have e : (((10 * m + (s[i].toNat - 48) : Nat)) : Int) = 10 * (m : Int) + ((s[i].toNat : Int) - 48) := by omega
        rw [e]
    · have : i = s.size := by omega
      subst this
      have hT : s.data.toList.take s.size = s.data.toList := List.take_of_length_le (by omega)
      have HT := Lib.hid hT
      clear hT
      rw [HT.out]
      go_wp2_with fail
      go_ret
      exact ⟨rfl, rfl⟩
def leap (y : Int) : Bool := (decide (y % 4 = 0) && decide (y % 100 ≠ 0)) || decide (y % 400 = 0)
def days (y m : Int) : Int := if m = 4 ∨ m = 6 ∨ m = 9 ∨ m = 11 then 30 else if m = 2 then (if leap y then 29 else 28) else 31
set_option maxHeartbeats 1000000 in
theorem days_calls (y m : Int) (w : World) (hy : 0 ≤ y) (hy' : y ≤ 9999) :
    Calls Tryz.prog 71 #[.int .i64 y, .int .i64 m] w fun e w' => e = .returned (.int .i64 (days y m)) ∧ w' = w := by
  go_enter Tryz.func71, Tryz.ntmps71
  go_wp2_with fail
  all_goals (go_ret; refine ⟨ret_int ?_, rfl⟩)
  all_goals (try simp only [beq_iff_eq, beq_eq_false_iff_ne, ne_eq] at *)
  all_goals (unfold days leap)
  all_goals (try (simp [*]; done))
def clockOk (y m d h n c : Int) : Bool := !(decide (m < 1) || decide (12 < m) || decide (d < 1) || decide (days y m < d)) && decide (h < 24) && decide (n < 60) && decide (c < 60)
def tpart (l : List UInt8) (a b : Nat) : Int := (numN ((l.drop a).take (b - a)) : Int)
/-- A time's text. -/
def isTm (l : List UInt8) : Bool :=
  decide (l.length = 15) && digits (l.take 14) && (l.drop 14 == [90]) && clockOk (tpart l 0 4) (tpart l 4 6) (tpart l 6 8) (tpart l 8 10) (tpart l 10 12) (tpart l 12 14)
theorem digits_all {l : List UInt8} (h : digits l = true) : ∀ b ∈ l, 48 ≤ b.toNat ∧ b.toNat ≤ 57 := by
  intro b hb
  simp only [digits, Bool.and_eq_true, List.all_eq_true, decide_eq_true_eq] at h
  exact h.2 b hb
theorem tpart_calls (s : ByteArray) (a b : Nat) (hab : a ≤ b) (hb : b ≤ 14) (h4 : b - a ≤ 4) (hd : ∀ x ∈ s.data.toList.take 14, 48 ≤ x.toNat ∧ x.toNat ≤ 57) (W : World) :
    Calls Tryz.prog 70 #[.string (s.extract a b)] W fun e w' => e = .returned (.int .i64 (tpart s.data.toList a b)) ∧ w' = W := by
  have e : (s.extract a b).data.toList = (s.data.toList.drop a).take (b - a) := Lib.extract_data s a b
  have h := number_calls (s.extract a b) W (by simp [ByteArray.size_extract]; omega) (fun x hx => by
    rw [e] at hx
    refine hd x ?_
    rw [← List.drop_take] at hx
    have h1 := List.mem_of_mem_drop hx
    have h2 : s.data.toList.take b = (s.data.toList.take 14).take b := by rw [List.take_take, Nat.min_eq_left hb]
    rw [h2] at h1
    exact List.mem_of_mem_take h1)
  rw [e] at h
  exact h
theorem tpart_range (l : List UInt8) (a b : Nat) (h4 : b - a ≤ 4) (hd : ∀ x ∈ l.take 14, 48 ≤ x.toNat ∧ x.toNat ≤ 57) (hab : a ≤ b) (hb : b ≤ 14) : 0 ≤ tpart l a b ∧ tpart l a b ≤ 9999 := by
  unfold tpart
  have := numN_lt ((l.drop a).take (b - a)) (fun x hx => by
    refine hd x ?_
    rw [← List.drop_take] at hx
    have h1 := List.mem_of_mem_drop hx
    have h2 : l.take b = (l.take 14).take b := by rw [List.take_take, Nat.min_eq_left hb]
    rw [h2] at h1
    exact List.mem_of_mem_take h1)
  have hp : 10 ^ ((l.drop a).take (b - a)).length ≤ 10000 := by
    have : ((l.drop a).take (b - a)).length ≤ 4 := by simp; omega
    exact Nat.le_trans (Nat.pow_le_pow_right (by omega) this) (by decide)
  omega
set_option maxRecDepth 100000 in
set_option maxHeartbeats 1000000 in
theorem isTime_calls (s : ByteArray) (w : World) (hs : s.size ≤ 9223372036854775807) :
    Calls Tryz.prog 39 #[.string s] w fun e w' => e = .returned (.bool (isTm s.data.toList)) ∧ Below w.heap.size w w' := by
  have hsl : s.data.toList.length = s.size := by simp
  by_cases h15 : s.size = 15
  · have hdc := fun W => isDigits_calls (s.extract 0 14) W (by simp [ByteArray.size_extract]; omega)
    have ee : (s.extract 0 14).data.toList = s.data.toList.take 14 := by rw [Lib.extract_data]; simp
    rw [ee] at hdc
    have hp := fun a b hab hb h4 hd W => tpart_calls s a b hab hb h4 hd W
    unfold isTm
    have q15 : decide (s.data.toList.length = 15) = true := by simpa using h15
    rw [q15]
    have hz : (s.data.toList.drop 14 == [90]) = decide ((s[14]'(by omega)).toNat = 90) := by
      have : s.data.toList.drop 14 = [s[14]'(by omega)] := by
        have h1 := rest_lt (s := s) (i := 14) (by omega)
        have h2 := rest_ge (s := s) (i := 15) (by omega)
        show rest s 14 = _
        rw [h1, h2]
      rw [this, Bool.eq_iff_iff]
      simp [← UInt8.toNat_inj]
    rw [hz]
    have hall := fun h => digits_all (l := s.data.toList.take 14) h
    generalize hdg : digits (s.data.toList.take 14) = dg at *
    clear hdg hz
    cases dg with
    | false =>
      clear hp hall
      go_enter Tryz.func39, Tryz.ntmps39
      go_wp2_with fail
      refine (hdc _).mono ?_
      rintro e w1 ⟨rfl, hb⟩
      clear hdc
      go_wp2_with fail
      go_ret
      exact ⟨ret_bool (by simp), hb⟩
    | true =>
      have hd := hall rfl
      have hP := fun a b W (hab : a ≤ b) (hb : b ≤ 14) (h4 : b - a ≤ 4) => hp a b hab hb h4 hd W
      have r1 := tpart_range s.data.toList 0 4 (by omega) hd (by omega) (by omega)
      have hdays := fun m W => days_calls (tpart s.data.toList 0 4) m W r1.1 r1.2
      clear hall hp hd ee q15 r1
      generalize tpart s.data.toList = P at *
      by_cases h90 : (s[14]'(by omega)).toNat = 90
      · have q90 : ((s[14]'(by omega)).toNat : Int) = 90 := by omega
        simp only [h90, decide_true, Bool.true_and]
        unfold clockOk
        go_enter Tryz.func39, Tryz.ntmps39
        go_wp2_with fail
        refine (hdc _).mono ?_
        rintro e w1 ⟨rfl, hb⟩
        clear hdc h90
        go_wp2_with fail
        go_quiet ((go_at_call 70; exact Calls.quiet_of_same (hP _ _ _ (by decide) (by decide) (by decide))))
        have HB := Lib.hid (hb.drewN' nq)
        clear hb
        go_wp2_with (first | (go_at_call 71; refine (hdays _ _).mono ?_; rintro e w9 ⟨rfl, rfl⟩) | (go_at_call 70; refine (hP _ _ _ (by decide) (by decide) (by decide)).mono ?_; rintro e w9 ⟨rfl, rfl⟩))
        all_goals (go_ret; refine ⟨ret_bool ?_, HB.out⟩; (try rw [Bool.eq_iff_iff]); (try simp); (try omega))
      · have q90 : ¬ ((s[14]'(by omega)).toNat : Int) = 90 := by omega
        simp only [h90, decide_false, Bool.and_false, Bool.false_and]
        go_enter Tryz.func39, Tryz.ntmps39
        go_wp2_with fail
        refine (hdc _).mono ?_
        rintro e w1 ⟨rfl, hb⟩
        clear hdc
        go_wp2_with fail
        go_ret
        exact ⟨ret_bool (by simp), hb⟩
  · have q15 : ¬ (s.size : Int) = 15 := by omega
    have hF : isTm s.data.toList = false := by
      have : ¬ s.data.toList.length = 15 := by omega
      simp [isTm, h15]
    rw [hF]
    go_enter Tryz.func39, Tryz.ntmps39
    go_wp2_with fail
    go_ret
    exact ⟨rfl, Below.refl _ _⟩
end Sy
end Go.Proofs.YthoealembhkaoaaGreatDoor
namespace Go.Proofs.YthoealembhkaoaaGreatDoor
open Go.RowKit
namespace Sy
set_option linter.unusedVariables false

inductive Form | octets | text | ascii | integer | boolean | name | oid | time
/-- A form's name. -/
def Form.word : Form → ByteArray
  | .octets => ⟨#[111, 99, 116, 101, 116, 115]⟩
  | .text => ⟨#[116, 101, 120, 116]⟩
  | .ascii => ⟨#[97, 115, 99, 105, 105]⟩
  | .integer => ⟨#[105, 110, 116, 101, 103, 101, 114]⟩
  | .boolean => ⟨#[98, 111, 111, 108, 101, 97, 110]⟩
  | .name => ⟨#[110, 97, 109, 101]⟩
  | .oid => ⟨#[111, 105, 100]⟩
  | .time => ⟨#[116, 105, 109, 101]⟩
def isTrue (l : List UInt8) : Bool := l == [84, 82, 85, 69]
def isFalse (l : List UInt8) : Bool := l == [70, 65, 76, 83, 69]
/-- Is a value of a form. -/
def Form.of : Form → List UInt8 → Bool
  | .octets, _ => true
  | .text, l => !l.isEmpty && (prepR false l).isSome
  | .ascii, l => isAscii l
  | .integer, l => isInt l
  | .boolean, l => isTrue l || isFalse l
  | .name, l => decide ((parseR l).2 = 0)
  | .oid, l => isType l
  | .time, l => isTm l
def Form.ok (f : Form) (l : List UInt8) : Bool := decide (l.length ≤ 1024) && f.of l

set_option maxRecDepth 100000 in
set_option maxHeartbeats 1000000 in
theorem valid_long (f s : ByteArray) (w : World) (hl : 1024 < s.size) :
    Calls Tryz.prog 13 #[.string f, .string s] w fun e w' => e = .returned (.bool false) ∧ w' = w := by
  have hl' : (1024 : Int) < (s.size : Int) := by omega
  go_enter Tryz.func13, Tryz.ntmps13
  go_wp2_with fail
  go_ret
  exact ⟨rfl, rfl⟩
set_option maxRecDepth 100000 in
set_option maxHeartbeats 2000000 in
theorem valid_calls (f : Form) (s : ByteArray) (w : World) (he : Env w) (hs : s.size ≤ 9223372036854775807) :
    Calls Tryz.prog 13 #[.string f.word, .string s] w fun e w' => e = .returned (.bool (f.ok s.data.toList)) ∧ Below w.heap.size w w' := by
  have hsl : s.data.toList.length = s.size := by simp
  unfold Form.ok
  by_cases hl : 1024 < s.size
  · have hd : decide (s.data.toList.length ≤ 1024) = false := by simp; omega
    rw [hd]
    exact (valid_long f.word s w hl).mono fun e w' h => ⟨h.1, by rw [h.2]; exact Below.refl _ _⟩
  · have hl' : ¬ (1024 : Int) < (s.size : Int) := by omega
    have hd : decide (s.data.toList.length ≤ 1024) = true := by simp; omega
    rw [hd, Bool.true_and]
    clear hd
    cases f with
    | octets =>
      simp only [Form.word, Form.of]
      go_enter Tryz.func13, Tryz.ntmps13
      go_wp2_with fail
      go_ret
      exact ⟨rfl, Below.refl _ _⟩
    | text =>
      have hc := prepare_calls s false w (by omega) he
      simp only [Form.word, Form.of]
      generalize prepR false s.data.toList = t at *
      cases t with
      | none =>
        go_enter Tryz.func13, Tryz.ntmps13
        go_wp2_with fail
        refine hc.mono ?_
        rintro e w1 ⟨rfl, hb⟩
        clear hc
        simp only [mappedV]
        go_wp2_with fail
        all_goals (go_ret; exact ⟨ret_bool (by simp), hb⟩)
      | some t =>
        go_enter Tryz.func13, Tryz.ntmps13
        go_wp2_with fail
        refine hc.mono ?_
        rintro e w1 ⟨rfl, hb⟩
        clear hc
        simp only [mappedV, strV]
        go_wp2_with fail
        all_goals (go_ret; refine ⟨ret_bool ?_, hb⟩)
        all_goals (rename_i h; rw [ByteArray.toList_eq] at *; simp [h])
    | ascii =>
      have hc := isASCII_calls s w hs
      simp only [Form.word, Form.of]
      generalize isAscii s.data.toList = t at *
      go_enter Tryz.func13, Tryz.ntmps13
      go_wp2_with fail
      refine hc.mono ?_
      rintro e w1 ⟨rfl, rfl⟩
      clear hc
      go_wp2_with fail
      go_ret
      exact ⟨rfl, Below.refl _ _⟩
    | integer =>
      have hc := isInteger_calls s w hs
      simp only [Form.word, Form.of]
      generalize isInt s.data.toList = t at *
      go_enter Tryz.func13, Tryz.ntmps13
      go_wp2_with fail
      refine hc.mono ?_
      rintro e w1 ⟨rfl, hb⟩
      clear hc
      go_wp2_with fail
      go_ret
      exact ⟨rfl, hb⟩
    | boolean =>
      simp only [Form.word, Form.of]
      go_enter Tryz.func13, Tryz.ntmps13
      go_wp2_with fail
      all_goals (go_ret; refine ⟨ret_bool ?_, Below.refl _ _⟩)
      all_goals (rename_i h; rw [ByteArray.toList_eq] at *; simp [isTrue, isFalse, h])
    | name =>
      have hc := parse_calls s w he hs
      simp only [Form.word, Form.of]
      generalize parseR s.data.toList = t at *
      obtain ⟨t1, t2⟩ := t
      go_enter Tryz.func13, Tryz.ntmps13
      go_wp2_with fail
      refine hc.mono ?_
      rintro e w1 ⟨v, rfl, _, hb⟩
      clear hc
      go_wp2_with fail
      go_ret
      exact ⟨ret_bool (by rw [Bool.eq_iff_iff]; simp), hb⟩
    | oid =>
      have hc := isType_calls s w (by omega) he
      simp only [Form.word, Form.of]
      generalize isType s.data.toList = t at *
      go_enter Tryz.func13, Tryz.ntmps13
      go_wp2_with fail
      refine hc.mono ?_
      rintro e w1 ⟨rfl, hb⟩
      clear hc
      go_wp2_with fail
      go_ret
      exact ⟨rfl, hb⟩
    | time =>
      have hc := isTime_calls s w hs
      simp only [Form.word, Form.of]
      generalize isTm s.data.toList = t at *
      go_enter Tryz.func13, Tryz.ntmps13
      go_wp2_with fail
      refine hc.mono ?_
      rintro e w1 ⟨rfl, hb⟩
      clear hc
      go_wp2_with fail
      go_ret
      exact ⟨rfl, hb⟩
end Sy
end Go.Proofs.YthoealembhkaoaaGreatDoor
namespace Go.Proofs.YthoealembhkaoaaGreatDoor
open Go.RowKit
namespace Sy
set_option linter.unusedVariables false

/-- The order of two whole numbers' texts. -/
def intCmp (a b : List UInt8) : Int :=
  match Lib.hasPrefix a [45], Lib.hasPrefix b [45] with
  | true, false => -1
  | false, true => 1
  | true, true => orR (Lib.compareInt (Lib.trimPrefix b [45]).length (Lib.trimPrefix a [45]).length) (Lib.compareBytes (Lib.trimPrefix b [45]) (Lib.trimPrefix a [45]))
  | false, false => orR (Lib.compareInt (Lib.trimPrefix a [45]).length (Lib.trimPrefix b [45]).length) (Lib.compareBytes (Lib.trimPrefix a [45]) (Lib.trimPrefix b [45]))

set_option maxRecDepth 100000 in
set_option maxHeartbeats 1000000 in
theorem integers_calls (a b : ByteArray) (w : World) :
    Calls Tryz.prog 32 #[.string a, .string b] w fun e w' => e = .returned (.int .i64 (intCmp a.data.toList b.data.toList)) ∧ Below w.heap.size w w' := by
  have hc1 := fun W => Tryz.strings_CutPrefix a ⟨#[45]⟩ W
  have hc2 := fun W => Tryz.strings_CutPrefix b ⟨#[45]⟩ W
  simp only at hc1 hc2
  unfold intCmp
  generalize Lib.hasPrefix a.data.toList [45] = pa at *
  generalize Lib.hasPrefix b.data.toList [45] = pb at *
  generalize Lib.trimPrefix a.data.toList [45] = x at *
  generalize Lib.trimPrefix b.data.toList [45] = y at *
  have hci := fun (m n : Nat) W => Tryz.cmp_Compare_int (m : Int) (n : Int) W
  have hcb := fun (u v : List UInt8) W => compare_calls ⟨u.toArray⟩ ⟨v.toArray⟩ W
  simp only at hcb
  have hor := fun g c (V : World) m n h0 h1 => or_calls V g c m n h0 h1
  cases pa with
  | true =>
    cases pb with
    | false =>
      go_enter Tryz.func32, Tryz.ntmps32
      go_wp2_with fail
      refine (hc1 _).mono ?_
      rintro e w1 ⟨rfl, rfl⟩
      go_wp2_with fail
      refine (hc2 _).mono ?_
      rintro e w1 ⟨rfl, rfl⟩
      go_wp2_with fail
      go_ret
      exact ⟨rfl, Below.refl _ _⟩
    | true =>
      simp only
      go_enter Tryz.func32, Tryz.ntmps32
      go_wp2_with fail
      refine (hc1 _).mono ?_
      rintro e w1 ⟨rfl, rfl⟩
      go_wp2_with fail
      refine (hc2 _).mono ?_
      rintro e w1 ⟨rfl, rfl⟩
      clear hc1 hc2
      go_wp2_with (first | (go_at_call 59; refine (hci _ _ _).mono ?_; rintro e w9 ⟨rfl, rfl⟩) | (go_at_call 33; refine (hcb _ _ _).mono ?_; rintro e w9 ⟨rfl, rfl⟩))
      refine (hor _ _ _ (Lib.compareInt (y.length : Int) (x.length : Int)) (Lib.compareBytes y x) (by simp [go_sem]) (by simp [go_sem])).mono ?_
      rintro e w8 ⟨rfl, rfl⟩
      go_wp2_with fail
      go_ret
      exact ⟨rfl, (Below.refl _ _).alloc (Nat.le_refl _) _⟩
  | false =>
    cases pb with
    | true =>
      go_enter Tryz.func32, Tryz.ntmps32
      go_wp2_with fail
      refine (hc1 _).mono ?_
      rintro e w1 ⟨rfl, rfl⟩
      go_wp2_with fail
      refine (hc2 _).mono ?_
      rintro e w1 ⟨rfl, rfl⟩
      go_wp2_with fail
      go_ret
      exact ⟨rfl, Below.refl _ _⟩
    | false =>
      simp only
      go_enter Tryz.func32, Tryz.ntmps32
      go_wp2_with fail
      refine (hc1 _).mono ?_
      rintro e w1 ⟨rfl, rfl⟩
      go_wp2_with fail
      refine (hc2 _).mono ?_
      rintro e w1 ⟨rfl, rfl⟩
      clear hc1 hc2
      go_wp2_with (first | (go_at_call 59; refine (hci _ _ _).mono ?_; rintro e w9 ⟨rfl, rfl⟩) | (go_at_call 33; refine (hcb _ _ _).mono ?_; rintro e w9 ⟨rfl, rfl⟩))
      refine (hor _ _ _ (Lib.compareInt (x.length : Int) (y.length : Int)) (Lib.compareBytes x y) (by simp [go_sem]) (by simp [go_sem])).mono ?_
      rintro e w8 ⟨rfl, rfl⟩
      go_wp2_with fail
      go_ret
      exact ⟨rfl, (Below.refl _ _).alloc (Nat.le_refl _) _⟩
end Sy
end Go.Proofs.YthoealembhkaoaaGreatDoor
namespace Go.Proofs.YthoealembhkaoaaGreatDoor
open Go.RowKit
namespace Sy
set_option linter.unusedVariables false

def normPair (q : Pair) : Pair := (small q.1, (prepR true q.2).getD q.2)
def normRow (r : List Pair) : List Pair := partOf (r.map normPair)
/-- A name's normal form. -/
def nameR (l : List UInt8) : Option (List UInt8) :=
  match (parseR l).1 with
  | none => none
  | some d => (printR (d.map normRow)).1

/-- One row turned within its own block; the others as they were. -/
theorem RowsOf.store {w w' : World} {base g : Nat} (hg : w.grownBy w' (Option.some g)) {v' : Value} {r' : List Pair} (ho : OwnRdn w' base v' r') (hb : v'.ownBlock = Option.some g) :
    ∀ {vs : List Value} {d : List (List Pair)} (k : Nat) (u : Value), RowsOf w base vs d → vs[k]? = Option.some u → u.ownBlock = Option.some g → RowsOf w' base (vs.set k v') (d.set k r')
  | v :: vs, r :: rs, 0, u, h, hk, hu => by
    have : v = u := by simpa using hk
    subst this
    refine ⟨ho, by rw [hb]; simp, fun x hx => ?_, ?_⟩
    · rw [hb, ← hu]; exact h.2.2.1 x hx
    · exact RowsOf.kept hg h.2.2.2 (fun x hx => by rw [← hu]; exact h.2.2.1 x hx)
  | v :: vs, r :: rs, k + 1, u, h, hk, hu => by
    have hk' : vs[k]? = Option.some u := by simpa using hk
    have hmem : u ∈ vs := List.mem_of_getElem? hk'
    have hvu : v.ownBlock ≠ Option.some g := fun e => h.2.2.1 u hmem (by rw [hu, e])
    refine ⟨h.1.kept hg (.inr hvu), h.2.1, fun x hx => ?_, RowsOf.store hg ho hb k u h.2.2.2 hk' hu⟩
    rcases List.mem_or_eq_of_mem_set hx with hx | rfl
    · exact h.2.2.1 x hx
    · rw [hb]; exact fun e => hvu e.symm
  | [], [], k, u, _, hk, _ => by simp at hk
  | [], _ :: _, _, _, h, _, _ => h.elim
  | _ :: _, [], _, _, h, _, _ => h.elim
/-- What lies in a row behind j rounds. -/
def normAt (r : List Pair) (j : Nat) : List Pair := (r.take j).map normPair ++ r.drop j
theorem normAt_length (r : List Pair) (j : Nat) : (normAt r j).length = r.length := by simp [normAt]; omega
theorem normAt_get (r : List Pair) (j : Nat) (h : j < r.length) : (normAt r j)[j]'(by rw [normAt_length]; exact h) = r[j] := by
  simp [normAt, List.getElem_append_right, Nat.min_eq_left (Nat.le_of_lt h)]
theorem normAt_next (r : List Pair) (j : Nat) (h : j < r.length) : (normAt r j).set j (normPair r[j]) = normAt r (j + 1) := by
  unfold normAt
  rw [List.set_append_right _ _ (by simp; omega)]
  have e : j - (List.map normPair (r.take j)).length = 0 := by simp; omega
  rw [e, List.drop_eq_getElem_cons h, List.set_cons_zero, List.take_succ_eq_append_getElem h, List.map_append]
  simp
theorem normAt_done (r : List Pair) : normAt r r.length = r.map normPair := by simp [normAt]
theorem small_length (l : List UInt8) : (small l).length = l.length := by simp [small]
theorem trimB_le (l : List UInt8) (c : UInt8) : (Lib.trimB l c).length ≤ l.length := by
  unfold Lib.trimB Lib.trimLeftB Lib.trimRightB
  have h1 := dropWhile_le (· == c) ((l.reverse.dropWhile (· == c)).reverse)
  have h2 := dropWhile_le (· == c) l.reverse
  simp at h1 h2
  omega
theorem prepR_len {fold : Bool} {l t : List UInt8} (h : prepR fold l = some t) : t.length ≤ 4 * l.length + 1 := by
  unfold prepR at h
  cases hm : mapped fold l with
  | none => rw [hm] at h; cases h
  | some u =>
    rw [hm] at h
    have h1 := mapped_len hm
    simp only at h
    split at h
    · injection h with h; subst h; simp
    · injection h with h; subst h
      have := trimB_le u 32
      omega
end Sy
end Go.Proofs.YthoealembhkaoaaGreatDoor
