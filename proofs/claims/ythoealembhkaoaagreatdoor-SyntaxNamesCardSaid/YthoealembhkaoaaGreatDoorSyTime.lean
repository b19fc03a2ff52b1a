import Derived.Test.YthoealembhkaoaaGreatDoorSyForm
namespace Go.Proofs.YthoealembhkaoaaGreatDoor
open Go.RowKit
namespace Sy
set_option linter.unusedVariables false

def numN (l : List UInt8) : Nat := l.foldl (fun n b => 10 * n + (b.toNat - 48)) 0
theorem numN_snoc (l : List UInt8) (b : UInt8) : numN (l ++ [b]) = 10 * numN l + (b.toNat - 48) := by simp [numN]
theorem numN_lt : ∀ l : List UInt8, (∀ b ∈ l, 48 ≤ b.toNat ∧ b.toNat ≤ 57) → numN l < 10 ^ l.length := by
  intro l
  suffices h : ∀ n (l : List UInt8), l.length = n → (∀ b ∈ l, 48 ≤ b.toNat ∧ b.toNat ≤ 57) → numN l < 10 ^ l.length from h l.length l rfl
  intro n
  induction n with
  | zero => intro l hl _; rw [List.length_eq_zero_iff.1 hl]; simp [numN]
  | succ n ih =>
    intro l hl hb
    rcases nil_or_snoc l with rfl | ⟨l', x, rfl⟩
    · simp at hl
    · have h1 := ih l' (by simpa using hl) (fun b hb' => hb b (by simp [hb']))
      have h2 := hb x (by simp)
      rw [numN_snoc, List.length_append]
      simp only [List.length_cons, List.length_nil, Nat.pow_succ, Nat.zero_add]
      omega
set_option maxHeartbeats 1000000 in
theorem number_calls (s : ByteArray) (w : World) (hs : s.size ≤ 4) (hd : ∀ b ∈ s.data.toList, 48 ≤ b.toNat ∧ b.toNat ≤ 57) :
    Calls Tryz.prog 70 #[.string s] w fun e w' => e = .returned (.int .i64 (numN s.data.toList : Int)) ∧ w' = w := by
  have HD := Lib.hid hd
  have hsl : s.data.toList.length = s.size := by simp
  clear hd
  go_enter Tryz.func70, Tryz.ntmps70
  go_wp2_with fail
  go_loopg [3, 7] s.size (fun k nv iv wr => (∃ i : Nat, i ≤ s.size ∧ s.size - i ≤ k ∧ iv = .int .i64 i ∧ nv = .int .i64 (numN (s.data.toList.take i) : Int)) ∧ wr = w)
  case atStart => exact ⟨⟨0, Nat.zero_le _, Nat.le_refl _, rfl, rfl⟩, rfl⟩
  case round =>
    obtain ⟨⟨i, hi, hk, rfl, rfl⟩, rfl⟩ := hrel
    by_cases hlt : i < s.size
    · have hb := HD.out s[i] (by show s.data[i] ∈ _; simp)
      have hn : numN (s.data.toList.take (i + 1)) = 10 * numN (s.data.toList.take i) + (s[i].toNat - 48) := by
        rw [List.take_succ_eq_append_getElem (by omega), numN_snoc]; rfl
      have hlt2 := numN_lt (s.data.toList.take i) (fun b hb' => HD.out b (List.mem_of_mem_take hb'))
      have hpow : 10 ^ (s.data.toList.take i).length ≤ 10000 := by
        have : (s.data.toList.take i).length ≤ 4 := by simp; omega
        exact Nat.le_trans (Nat.pow_le_pow_right (by omega) this) (by decide)
      generalize numN (s.data.toList.take i) = m at *
      have HN := Lib.hid hn
      have w1 : IntKind.i64.wrap (10 * (m : Int)) = 10 * (m : Int) := IntWalk.i64_in _ (by omega)
      have w2 : IntKind.u8.wrap ((s[i].toNat : Int) - 48) = (s[i].toNat : Int) - 48 := IntWalk.u8_in _ (by omega)
      have w3 : IntKind.i64.wrap (10 * (m : Int) + ((s[i].toNat : Int) - 48)) = 10 * (m : Int) + ((s[i].toNat : Int) - 48) := IntWalk.i64_in _ (by omega)
      clear hn hpow hlt2
      go_wp2_with fail
      go_roundg (s.size - (i + 1))
      case measure => omega
      case rel =>
        refine ⟨⟨i + 1, by omega, Nat.le_refl _, by go_num, ?_⟩, rfl⟩
        rw [HN.out]
        have e : (((10 * m + (s[i].toNat - 48) : Nat)) : Int) = 10 * (m : Int) + ((s[i].toNat : Int) - 48) := by omega
        rw [e]
    · have : i = s.size := by omega
      subst this
      have hT : s.data.toList.take s.size = s.data.toList := List.take_of_length_le (by omega)
      have HT := Lib.hid hT
      clear hT
      rw [HT.out]
      go_wp2_with fail
      go_ret
      exact ⟨rfl, rfl⟩
def leap (y : Int) : Bool := (decide (y % 4 = 0) && decide (y % 100 ≠ 0)) || decide (y % 400 = 0)
def days (y m : Int) : Int := if m = 4 ∨ m = 6 ∨ m = 9 ∨ m = 11 then 30 else if m = 2 then (if leap y then 29 else 28) else 31
set_option maxHeartbeats 1000000 in
theorem days_calls (y m : Int) (w : World) (hy : 0 ≤ y) (hy' : y ≤ 9999) :
    Calls Tryz.prog 71 #[.int .i64 y, .int .i64 m] w fun e w' => e = .returned (.int .i64 (days y m)) ∧ w' = w := by
  go_enter Tryz.func71, Tryz.ntmps71
  go_wp2_with fail
  all_goals (go_ret; refine ⟨ret_int ?_, rfl⟩)
  all_goals (try simp only [beq_iff_eq, beq_eq_false_iff_ne, ne_eq] at *)
  all_goals (unfold days leap)
  all_goals (try (simp [*]; done))
def clockOk (y m d h n c : Int) : Bool := !(decide (m < 1) || decide (12 < m) || decide (d < 1) || decide (days y m < d)) && decide (h < 24) && decide (n < 60) && decide (c < 60)
def tpart (l : List UInt8) (a b : Nat) : Int := (numN ((l.drop a).take (b - a)) : Int)
/-- A time's text. -/
def isTm (l : List UInt8) : Bool :=
  decide (l.length = 15) && digits (l.take 14) && (l.drop 14 == [90]) && clockOk (tpart l 0 4) (tpart l 4 6) (tpart l 6 8) (tpart l 8 10) (tpart l 10 12) (tpart l 12 14)
theorem digits_all {l : List UInt8} (h : digits l = true) : ∀ b ∈ l, 48 ≤ b.toNat ∧ b.toNat ≤ 57 := by
  intro b hb
  simp only [digits, Bool.and_eq_true, List.all_eq_true, decide_eq_true_eq] at h
  exact h.2 b hb
theorem tpart_calls (s : ByteArray) (a b : Nat) (hab : a ≤ b) (hb : b ≤ 14) (h4 : b - a ≤ 4) (hd : ∀ x ∈ s.data.toList.take 14, 48 ≤ x.toNat ∧ x.toNat ≤ 57) (W : World) :
    Calls Tryz.prog 70 #[.string (s.extract a b)] W fun e w' => e = .returned (.int .i64 (tpart s.data.toList a b)) ∧ w' = W := by
  have e : (s.extract a b).data.toList = (s.data.toList.drop a).take (b - a) := Lib.extract_data s a b
  have h := number_calls (s.extract a b) W (by simp [ByteArray.size_extract]; omega) (fun x hx => by
    rw [e] at hx
    refine hd x ?_
    rw [← List.drop_take] at hx
    have h1 := List.mem_of_mem_drop hx
    have h2 : s.data.toList.take b = (s.data.toList.take 14).take b := by rw [List.take_take, Nat.min_eq_left hb]
    rw [h2] at h1
    exact List.mem_of_mem_take h1)
  rw [e] at h
  exact h
theorem tpart_range (l : List UInt8) (a b : Nat) (h4 : b - a ≤ 4) (hd : ∀ x ∈ l.take 14, 48 ≤ x.toNat ∧ x.toNat ≤ 57) (hab : a ≤ b) (hb : b ≤ 14) : 0 ≤ tpart l a b ∧ tpart l a b ≤ 9999 := by
  unfold tpart
  have := numN_lt ((l.drop a).take (b - a)) (fun x hx => by
    refine hd x ?_
    rw [← List.drop_take] at hx
    have h1 := List.mem_of_mem_drop hx
    have h2 : l.take b = (l.take 14).take b := by rw [List.take_take, Nat.min_eq_left hb]
    rw [h2] at h1
    exact List.mem_of_mem_take h1)
  have hp : 10 ^ ((l.drop a).take (b - a)).length ≤ 10000 := by
    have : ((l.drop a).take (b - a)).length ≤ 4 := by simp; omega
    exact Nat.le_trans (Nat.pow_le_pow_right (by omega) this) (by decide)
  omega
set_option maxRecDepth 100000 in
set_option maxHeartbeats 1000000 in
theorem isTime_calls (s : ByteArray) (w : World) (hs : s.size ≤ 9223372036854775807) :
    Calls Tryz.prog 39 #[.string s] w fun e w' => e = .returned (.bool (isTm s.data.toList)) ∧ Below w.heap.size w w' := by
  have hsl : s.data.toList.length = s.size := by simp
  by_cases h15 : s.size = 15
  · have hdc := fun W => isDigits_calls (s.extract 0 14) W (by simp [ByteArray.size_extract]; omega)
    have ee : (s.extract 0 14).data.toList = s.data.toList.take 14 := by rw [Lib.extract_data]; simp
    rw [ee] at hdc
    have hp := fun a b hab hb h4 hd W => tpart_calls s a b hab hb h4 hd W
    unfold isTm
    have q15 : decide (s.data.toList.length = 15) = true := by simpa using h15
    rw [q15]
    have hz : (s.data.toList.drop 14 == [90]) = decide ((s[14]'(by omega)).toNat = 90) := by
      have : s.data.toList.drop 14 = [s[14]'(by omega)] := by
        have h1 := rest_lt (s := s) (i := 14) (by omega)
        have h2 := rest_ge (s := s) (i := 15) (by omega)
        show rest s 14 = _
        rw [h1, h2]
      rw [this, Bool.eq_iff_iff]
      simp [← UInt8.toNat_inj]
    rw [hz]
    have hall := fun h => digits_all (l := s.data.toList.take 14) h
    generalize hdg : digits (s.data.toList.take 14) = dg at *
    clear hdg hz
    cases dg with
    | false =>
      clear hp hall
      go_enter Tryz.func39, Tryz.ntmps39
      go_wp2_with fail
      refine (hdc _).mono ?_
      rintro e w1 ⟨rfl, hb⟩
      clear hdc
      go_wp2_with fail
      go_ret
      exact ⟨ret_bool (by simp), hb⟩
    | true =>
      have hd := hall rfl
      have hP := fun a b W (hab : a ≤ b) (hb : b ≤ 14) (h4 : b - a ≤ 4) => hp a b hab hb h4 hd W
      have r1 := tpart_range s.data.toList 0 4 (by omega) hd (by omega) (by omega)
      have hdays := fun m W => days_calls (tpart s.data.toList 0 4) m W r1.1 r1.2
      clear hall hp hd ee q15 r1
      generalize tpart s.data.toList = P at *
      by_cases h90 : (s[14]'(by omega)).toNat = 90
      · have q90 : ((s[14]'(by omega)).toNat : Int) = 90 := by omega
        simp only [h90, decide_true, Bool.true_and]
        unfold clockOk
        go_enter Tryz.func39, Tryz.ntmps39
        go_wp2_with fail
        refine (hdc _).mono ?_
        rintro e w1 ⟨rfl, hb⟩
        clear hdc h90
        go_wp2_with fail
        go_quiet ((go_at_call 70; exact Calls.quiet_of_same (hP _ _ _ (by decide) (by decide) (by decide))))
        have HB := Lib.hid (hb.drewN' nq)
        clear hb
        go_wp2_with (first | (go_at_call 71; refine (hdays _ _).mono ?_; rintro e w9 ⟨rfl, rfl⟩) | (go_at_call 70; refine (hP _ _ _ (by decide) (by decide) (by decide)).mono ?_; rintro e w9 ⟨rfl, rfl⟩))
        all_goals (go_ret; refine ⟨ret_bool ?_, HB.out⟩; (try rw [Bool.eq_iff_iff]); (try simp); (try omega))
      · have q90 : ¬ ((s[14]'(by omega)).toNat : Int) = 90 := by omega
        simp only [h90, decide_false, Bool.and_false, Bool.false_and]
        go_enter Tryz.func39, Tryz.ntmps39
        go_wp2_with fail
        refine (hdc _).mono ?_
        rintro e w1 ⟨rfl, hb⟩
        clear hdc
        go_wp2_with fail
        go_ret
        exact ⟨ret_bool (by simp), hb⟩
  · have q15 : ¬ (s.size : Int) = 15 := by omega
    have hF : isTm s.data.toList = false := by
      have : ¬ s.data.toList.length = 15 := by omega
      simp [isTm, h15]
    rw [hF]
    go_enter Tryz.func39, Tryz.ntmps39
    go_wp2_with fail
    go_ret
    exact ⟨rfl, Below.refl _ _⟩
end Sy
end Go.Proofs.YthoealembhkaoaaGreatDoor
