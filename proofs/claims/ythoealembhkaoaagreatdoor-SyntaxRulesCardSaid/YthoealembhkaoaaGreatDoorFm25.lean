import Derived.Test.YthoealembhkaoaaGreatDoorFm16
import Derived.Test.YthoealembhkaoaaGreatDoorFm24
namespace Go.Proofs.YthoealembhkaoaaGreatDoor
open Go.RowKit
namespace Sy
set_option linter.unusedVariables false

/-- The order of two numbers. -/
def cmpI (x y : Int) : Int := if x < y then -1 else if y < x then 1 else 0
theorem cmpI_lt {x y : Int} (h : x < y) : cmpI x y = -1 := by unfold cmpI; rw [if_pos h]
theorem cmpI_gt {x y : Int} (h : y < x) : cmpI x y = 1 := by unfold cmpI; rw [if_neg (by omega), if_pos h]
theorem cmpI_self (x : Int) : cmpI x x = 0 := by unfold cmpI; rw [if_neg (by omega), if_neg (by omega)]
theorem cmpI_nat {x y : Nat} : cmpI (x : Int) (y : Int) = if x < y then -1 else if y < x then 1 else 0 := by
  unfold cmpI
  by_cases h1 : x < y
  · rw [if_pos (by omega), if_pos h1]
  · rw [if_neg (by omega), if_neg h1]
    by_cases h2 : y < x
    · rw [if_pos (by omega), if_pos h2]
    · rw [if_neg (by omega), if_neg h2]
/-- The number that a text stands for. -/
def valI (l : List UInt8) : Int := if Lib.hasPrefix l [45] then -(numN (Lib.trimPrefix l [45]) : Int) else numN (Lib.trimPrefix l [45])
def Dig (l : List UInt8) : Prop := ∀ b ∈ l, 48 ≤ b.toNat ∧ b.toNat ≤ 57
theorem foldl_num (l : List UInt8) : ∀ a : Nat, l.foldl (fun n b => 10 * n + (b.toNat - 48)) a = a * 10 ^ l.length + numN l := by
  unfold numN
  induction l with
  | nil => intro a; simp
  | cons b l ih =>
    intro a
    simp only [List.foldl_cons, List.length_cons]
    rw [ih (10 * a + (b.toNat - 48)), ih (10 * 0 + (b.toNat - 48)), Nat.pow_succ]
    generalize l.foldl (fun n b => 10 * n + (b.toNat - 48)) 0 = c
    generalize b.toNat - 48 = x
    generalize 10 ^ l.length = p
    rw [Nat.add_mul, Nat.add_mul]
    have : 10 * a * p = a * (p * 10) := by rw [Nat.mul_comm 10 a, Nat.mul_assoc, Nat.mul_comm 10 p]
    omega
theorem numN_cons (b : UInt8) (l : List UInt8) : numN (b :: l) = (b.toNat - 48) * 10 ^ l.length + numN l := by
  have := foldl_num l (b.toNat - 48)
  rw [← this]
  simp [numN]
theorem cmp_same : ∀ l m : List UInt8, Dig l → Dig m → l.length = m.length → Lib.compareBytes l m = cmpI (numN l) (numN m)
  | [], [], _, _, _ => rfl
  | [], _ :: _, _, _, h => by simp at h
  | _ :: _, [], _, _, h => by simp at h
  | a :: l, b :: m, hl, hm, h => by
    have hl' : Dig l := fun x hx => hl x (.tail _ hx)
    have hm' : Dig m := fun x hx => hm x (.tail _ hx)
    have hlen : l.length = m.length := by simpa using h
    have ih := cmp_same l m hl' hm' hlen
    have n1 := numN_lt l hl'
    have n2 := numN_lt m hm'
    have ha := hl a (.head _)
    have hb := hm b (.head _)
    rw [cb_cons, numN_cons, numN_cons, hlen]
    rw [hlen] at n1
    have hp : 0 < 10 ^ m.length := Nat.pow_pos (by decide)
    generalize 10 ^ m.length = p at *
    by_cases h1 : a.toNat < b.toNat
    · have : (a.toNat - 48 + 1) * p ≤ (b.toNat - 48) * p := Nat.mul_le_mul_right p (by omega)
      rw [Nat.add_mul] at this
      rw [if_pos h1, cmpI_lt (by omega)]
    · rw [if_neg h1]
      by_cases h2 : b.toNat < a.toNat
      · have : (b.toNat - 48 + 1) * p ≤ (a.toNat - 48) * p := Nat.mul_le_mul_right p (by omega)
        rw [Nat.add_mul] at this
        rw [if_pos h2, cmpI_gt (by omega)]
      · rw [if_neg h2, ih, show a.toNat = b.toNat by omega, cmpI_nat, cmpI_nat]
        simp only [Nat.add_lt_add_iff_left]
/-- Digits without a nought ahead. -/
def Plain (l : List UInt8) : Prop := Dig l ∧ l ≠ [] ∧ (l.head? ≠ some 48 ∨ l = [48])
theorem num_low {l : List UInt8} (h : Plain l) (h2 : 2 ≤ l.length) : 10 ^ (l.length - 1) ≤ numN l := by
  obtain ⟨hd, _, h0⟩ := h
  cases l with
  | nil => simp at h2
  | cons a l =>
    have ha := hd a (.head _)
    rw [numN_cons]
    have : a ≠ 48 := by
      rcases h0 with h0 | h0
      · intro e; subst e; exact h0 rfl
      · injection h0 with _ h0; subst h0; simp at h2
    have : a.toNat ≠ 48 := fun e => this (UInt8.toNat_inj.1 (by simpa using e))
    have := Nat.mul_le_mul_right (10 ^ l.length) (show 1 ≤ a.toNat - 48 by omega)
    simp only [List.length_cons, Nat.add_sub_cancel]
    omega
theorem len_pos {l : List UInt8} (h : Plain l) : 1 ≤ l.length := by
  obtain ⟨_, h, _⟩ := h
  cases l with
  | nil => exact absurd rfl h
  | cons _ _ => simp
theorem num_longer {l m : List UInt8} (hl : Plain l) (hm : Plain m) (h : l.length < m.length) : numN l < numN m := by
  have h1 := numN_lt l hl.1
  have h2 := num_low hm (by have := len_pos hl; omega)
  have h3 : 10 ^ l.length ≤ 10 ^ (m.length - 1) := Nat.pow_le_pow_right (by decide) (by omega)
  omega
theorem cmp_plain {l m : List UInt8} (hl : Plain l) (hm : Plain m) : orR (Lib.compareInt l.length m.length) (Lib.compareBytes l m) = cmpI (numN l) (numN m) := by
  rcases Nat.lt_trichotomy l.length m.length with h | h | h
  · have := num_longer hl hm h
    have e : Lib.compareInt (l.length : Int) (m.length : Int) = -1 := by unfold Lib.compareInt; rw [if_pos (by omega)]
    rw [e, cmpI_lt (by omega)]; rfl
  · have e : Lib.compareInt (l.length : Int) (m.length : Int) = 0 := by unfold Lib.compareInt; rw [if_neg (by omega), if_neg (by omega)]
    rw [e, ← cmp_same l m hl.1 hm.1 h]; rfl
  · have := num_longer hm hl h
    have e : Lib.compareInt (l.length : Int) (m.length : Int) = 1 := by unfold Lib.compareInt; rw [if_neg (by omega), if_pos (by omega)]
    rw [e, cmpI_gt (by omega)]; rfl
theorem int_plain {l : List UInt8} (h : isInt l = true) : Plain (Lib.trimPrefix l [45]) ∧ (Lib.hasPrefix l [45] = true → Lib.trimPrefix l [45] ≠ [48]) := by
  unfold isInt at h
  simp only [Bool.and_eq_true, Bool.or_eq_true, decide_eq_true_eq, Bool.not_eq_true', beq_iff_eq, beq_eq_false_iff_ne] at h
  obtain ⟨⟨h1, _⟩, h2⟩ := h
  have hd : Dig (Lib.trimPrefix l [45]) := digits_all h1
  have hn : Lib.trimPrefix l [45] ≠ [] := by
    intro e; rw [e] at h1; simp [digits] at h1
  refine ⟨⟨hd, hn, ?_⟩, ?_⟩
  · rcases h2 with h2 | ⟨h2, _⟩
    · exact .inl h2
    · exact .inr h2
  · intro hp e
    rcases h2 with h2 | ⟨_, h2⟩
    · rw [e] at h2; exact h2 rfl
    · rw [hp] at h2; cases h2
theorem num_pos {l : List UInt8} (h : Plain l) (h0 : l ≠ [48]) : 0 < numN l := by
  by_cases h2 : 2 ≤ l.length
  · have := num_low h h2
    have := Nat.pow_pos (n := l.length - 1) (show 0 < 10 by decide)
    omega
  · have h1 := len_pos h
    obtain ⟨hd, _, h3⟩ := h
    cases l with
    | nil => simp at h1
    | cons a l =>
      cases l with
      | cons _ _ => simp at h2
      | nil =>
        have ha := hd a (.head _)
        have : a ≠ 48 := fun e => h0 (by rw [e])
        have : a.toNat ≠ 48 := fun e => this (UInt8.toNat_inj.1 (by simpa using e))
        rw [numN_cons]
        simp [numN]
        omega
theorem intCmp_val {a b : List UInt8} (ha : isInt a = true) (hb : isInt b = true) : intCmp a b = cmpI (valI a) (valI b) := by
  obtain ⟨pa, za⟩ := int_plain ha
  obtain ⟨pb, zb⟩ := int_plain hb
  unfold intCmp valI
  cases h1 : Lib.hasPrefix a [45] <;> cases h2 : Lib.hasPrefix b [45]
  · simp only [Bool.false_eq_true, if_false]; exact cmp_plain pa pb
  · have := num_pos pb (zb h2)
    simp only [Bool.false_eq_true, if_false, if_true]
    rw [cmpI_gt (by omega)]
  · have := num_pos pa (za h1)
    simp only [Bool.false_eq_true, if_false, if_true]
    rw [cmpI_lt (by omega)]
  · simp only [if_true]
    rw [cmp_plain pb pa]
    generalize numN (Lib.trimPrefix a [45]) = x
    generalize numN (Lib.trimPrefix b [45]) = y
    rcases Nat.lt_trichotomy x y with h | h | h
    · rw [cmpI_gt (by omega), cmpI_gt (by omega)]
    · rw [h, cmpI_self, cmpI_self]
    · rw [cmpI_lt (by omega), cmpI_lt (by omega)]
theorem orR_zero {x y : Int} (h : orR x y = 0) : x = 0 ∧ y = 0 := by
  unfold orR at h
  split at h
  · exact ⟨by assumption, h⟩
  · contradiction
theorem cmpI_zero {x y : Int} (h : cmpI x y = 0) : x = y := by
  unfold cmpI at h
  split at h
  · cases h
  · split at h
    · cases h
    · omega
theorem pre_split {l : List UInt8} : l = if Lib.hasPrefix l [45] then 45 :: Lib.trimPrefix l [45] else Lib.trimPrefix l [45] := by
  unfold Lib.trimPrefix Lib.hasPrefix
  cases l with
  | nil => simp
  | cons b l =>
    by_cases h : b = 45
    · subst h; simp
    · simp [show ¬ ((45 : UInt8) = b) from fun e => h e.symm]
theorem val_inj {a b : List UInt8} (ha : isInt a = true) (hb : isInt b = true) (h : valI a = valI b) : a = b := by
  obtain ⟨pa, za⟩ := int_plain ha
  obtain ⟨pb, zb⟩ := int_plain hb
  have key : ∀ {l m : List UInt8}, Plain l → Plain m → numN l = numN m → l = m := fun {l m} hl hm e => by
    have h1 := cmp_plain hl hm
    rw [e] at h1
    have h2 : cmpI (numN m : Int) (numN m) = 0 := by simp [cmpI]
    exact cb_eq _ _ (orR_zero (h1.trans h2)).2
  unfold valI at h
  rw [pre_split (l := a), pre_split (l := b)]
  cases h1 : Lib.hasPrefix a [45] <;> cases h2 : Lib.hasPrefix b [45] <;> simp only [h1, h2, Bool.false_eq_true, if_false, if_true] at h ⊢
  · exact key pa pb (by omega)
  · have := num_pos pb (zb h2); omega
  · have := num_pos pa (za h1); omega
  · rw [key pa pb (by omega)]
/-- A number's digits. -/
def digN (v : Nat) : List UInt8 := if v ≤ 9 then [UInt8.ofNat (48 + v)] else digN (v / 10) ++ [UInt8.ofNat (48 + v % 10)]
termination_by v
decreasing_by omega
theorem digN_low {v : Nat} (h : v ≤ 9) : digN v = [UInt8.ofNat (48 + v)] := by unfold digN; rw [if_pos h]
theorem digN_high {v : Nat} (h : 9 < v) : digN v = digN (v / 10) ++ [UInt8.ofNat (48 + v % 10)] := by rw [digN, if_neg (by omega)]
theorem dig_nat {d : Nat} (h : d ≤ 9) : (UInt8.ofNat (48 + d)).toNat = 48 + d := by
  rw [UInt8.toNat_ofNat']; omega
theorem digN_spec : ∀ v : Nat, Dig (digN v) ∧ numN (digN v) = v ∧ digN v ≠ [] ∧ (v ≠ 0 → (digN v).head? ≠ some 48) := by
  intro v
  induction v using Nat.strongRecOn with
  | _ v ih =>
    by_cases h : v ≤ 9
    · rw [digN_low h]
      have := dig_nat h
      refine ⟨fun b hb => ?_, ?_, by simp, fun h0 e => ?_⟩
      · simp only [List.mem_singleton] at hb; subst hb; omega
      · show 10 * 0 + ((UInt8.ofNat (48 + v)).toNat - 48) = v
        rw [this]; omega
      · simp only [List.head?_cons, Option.some.injEq] at e
        have := congrArg UInt8.toNat e
        rw [dig_nat h] at this
        simp at this
        omega
    · obtain ⟨h1, h2, h3, h4⟩ := ih (v / 10) (by omega)
      rw [digN_high (by omega)]
      have := dig_nat (d := v % 10) (by omega)
      refine ⟨fun b hb => ?_, ?_, by simp, fun h0 => ?_⟩
      · rcases List.mem_append.1 hb with hb | hb
        · exact h1 b hb
        · simp only [List.mem_singleton] at hb; subst hb; omega
      · rw [numN_snoc, h2, this]; omega
      · rw [List.head?_append, Option.or_of_isSome (by cases hd : digN (v / 10) with | nil => exact absurd hd h3 | cons _ _ => rfl)]
        exact h4 (by omega)
theorem digN_plain (v : Nat) : Plain (digN v) := by
  obtain ⟨h1, h2, h3, h4⟩ := digN_spec v
  refine ⟨h1, h3, ?_⟩
  by_cases h0 : v = 0
  · subst h0; right; rw [digN_low (by decide)]; rfl
  · exact .inl (h4 h0)
theorem digN_len {v : Nat} (h : v ≤ 1099511627776) : (digN v).length ≤ 13 := by
  apply Decidable.byContradiction
  intro hn
  have h1 := num_low (digN_plain v) (by omega)
  rw [(digN_spec v).2.1] at h1
  have h2 : 10 ^ 13 ≤ 10 ^ ((digN v).length - 1) := Nat.pow_le_pow_right (by decide) (by omega)
  omega
/-- A number's text. -/
def txt (v : Int) : List UInt8 := if v < 0 then 45 :: digN (-v).toNat else digN v.toNat
theorem dig_pre {l : List UInt8} (h : Dig l) : Lib.hasPrefix l [45] = false := by
  cases l with
  | nil => rfl
  | cons b l =>
    have := h b (.head _)
    have : b ≠ 45 := fun e => by subst e; simp at this
    simp [Lib.hasPrefix, List.isPrefixOf, show ¬ ((45 : UInt8) = b) from fun e => this e.symm]
theorem dig_trim {l : List UInt8} (h : Dig l) : Lib.trimPrefix l [45] = l := by
  unfold Lib.trimPrefix; rw [dig_pre h]; rfl
theorem pre_neg (l : List UInt8) : Lib.hasPrefix (45 :: l) [45] = true ∧ Lib.trimPrefix (45 :: l) [45] = l := by
  have : Lib.hasPrefix (45 :: l) [45] = true := by simp [Lib.hasPrefix, List.isPrefixOf]
  exact ⟨this, by unfold Lib.trimPrefix; rw [this]; rfl⟩
theorem digits_of {l : List UInt8} (h : Dig l) (h0 : l ≠ []) : digits l = true := by
  unfold digits
  simp only [Bool.and_eq_true, Bool.not_eq_true', List.all_eq_true, decide_eq_true_eq]
  exact ⟨by simpa using h0, h⟩
theorem txt_int {v : Int} (h1 : -1099511627776 ≤ v) (h2 : v ≤ 1099511627776) : isInt (txt v) = true ∧ valI (txt v) = v := by
  unfold txt isInt valI
  by_cases hv : v < 0
  · rw [if_pos hv, (pre_neg _).1, (pre_neg _).2]
    obtain ⟨hd, hn, h0⟩ := digN_plain (-v).toNat
    have hl := digN_len (v := (-v).toNat) (by omega)
    have h4 := (digN_spec (-v).toNat).2.2.2 (by omega)
    simp only [if_true, (digN_spec (-v).toNat).2.1, digits_of hd hn, Bool.true_and, Bool.and_eq_true, decide_eq_true_eq, Bool.or_eq_true, Bool.not_eq_true', beq_eq_false_iff_ne]
    exact ⟨⟨by omega, .inl h4⟩, by omega⟩
  · rw [if_neg hv]
    obtain ⟨hd, hn, h0⟩ := digN_plain v.toNat
    have hl := digN_len (v := v.toNat) (by omega)
    rw [dig_trim hd, dig_pre hd]
    simp only [Bool.false_eq_true, if_false, (digN_spec v.toNat).2.1, digits_of hd hn, Bool.true_and, Bool.and_eq_true, decide_eq_true_eq, Bool.or_eq_true, Bool.not_eq_true', beq_eq_false_iff_ne, beq_iff_eq]
    refine ⟨⟨by omega, ?_⟩, by omega⟩
    rcases h0 with h0 | h0
    · exact .inl h0
    · exact .inr ⟨h0, trivial⟩
theorem txt_nonempty (v : Int) : txt v ≠ [] := by
  unfold txt
  split
  · simp
  · exact (digN_spec _).2.2.1
theorem int_nought (v : Int) : isInt (48 :: txt v) = false := by
  have hp : Lib.hasPrefix (48 :: txt v) [45] = false := by simp [Lib.hasPrefix, List.isPrefixOf]
  have ht : Lib.trimPrefix (48 :: txt v) [45] = 48 :: txt v := by unfold Lib.trimPrefix; rw [hp]; rfl
  have := txt_nonempty v
  simp [isInt, ht, this]
theorem int_plus (v : Int) : isInt (43 :: txt v) = false := by
  have hp : Lib.hasPrefix (43 :: txt v) [45] = false := by simp [Lib.hasPrefix, List.isPrefixOf]
  have ht : Lib.trimPrefix (43 :: txt v) [45] = 43 :: txt v := by unfold Lib.trimPrefix; rw [hp]; rfl
  simp [isInt, ht, digits]
end Sy
end Go.Proofs.YthoealembhkaoaaGreatDoor
namespace Go.Proofs.YthoealembhkaoaaGreatDoor
open Go.RowKit
namespace Sy
set_option linter.unusedVariables false
set_option maxRecDepth 100000

theorem alive1 : normF [100, 105, 115, 116, 105, 110, 103, 117, 105, 115, 104, 101, 100, 78, 97, 109, 101, 77, 97, 116, 99, 104] [83, 78, 61, 98, 43, 67, 78, 61, 32, 65, 32, 44, 68, 67, 61, 88] = (some [99, 110, 61, 97, 43, 115, 110, 61, 98, 44, 100, 99, 61, 120], 0) := by decide +kernel
theorem alive2 : orderF [105, 110, 116, 101, 103, 101, 114, 79, 114, 100, 101, 114, 105, 110, 103, 77, 97, 116, 99, 104] [49,48] [57] = (1,0) := by decide +kernel
theorem alive3 : Form.ok .time [50, 48, 50, 52, 48, 50, 50, 57, 48, 48, 48, 48, 48, 48, 90] = true := by decide +kernel
set_option maxHeartbeats 2000000 in
theorem alive_calls (w : World) (he : Env w) : Calls Tryz.prog 10 #[] w fun e w' => e = .returned (.bool true) ∧ Below w.heap.size w w' := by
  have h1 := norm_go_calls ⟨#[100, 105, 115, 116, 105, 110, 103, 117, 105, 115, 104, 101, 100, 78, 97, 109, 101, 77, 97, 116, 99, 104]⟩ ⟨#[83, 78, 61, 98, 43, 67, 78, 61, 32, 65, 32, 44, 68, 67, 61, 88]⟩ w he (by decide) (by decide)
  rw [alive1] at h1
  simp only [normFV, Option.getD, strV] at h1
  have h2 : ∀ W, Below w.heap.size w W → Calls Tryz.prog 11 _ W _ := fun W hW => order_go_calls ⟨#[105, 110, 116, 101, 103, 101, 114, 79, 114, 100, 101, 114, 105, 110, 103, 77, 97, 116, 99, 104]⟩ ⟨#[49, 48]⟩ ⟨#[57]⟩ W (he.below hW) (by decide) (by decide) (by decide)
  rw [alive2] at h2
  simp only [orderFV] at h2
  have h3 : ∀ W, Below w.heap.size w W → Calls Tryz.prog 13 _ W _ := fun W hW => valid_calls .time ⟨#[50, 48, 50, 52, 48, 50, 50, 57, 48, 48, 48, 48, 48, 48, 90]⟩ W (he.below hW) (by decide)
  rw [alive3] at h3
  simp only [Form.word] at h3
  have H2 := Lib.hid h2
  have H3 := Lib.hid h3
  clear h2 h3
  go_enter Tryz.func10, Tryz.ntmps10
  go_wp2_with fail
  refine h1.mono ?_
  rintro e w1 ⟨rfl, hb1⟩
  have h2 := H2.out _ hb1
  clear h1 H2
  go_wp2_with fail
  refine h2.mono ?_
  rintro e w2 ⟨rfl, hb2⟩
  have hb3 := hb1.trans (hb2.mono hb1.size)
  have h3 := H3.out _ hb3
  clear h2 H3 hb1 hb2
  go_wp2_with fail
  refine h3.mono ?_
  rintro e w3 ⟨rfl, hb4⟩
  have hb5 := hb3.trans (hb4.mono hb3.size)
  clear h3 hb3 hb4
  go_wp2_with fail
  go_ret
  exact ⟨rfl, hb5⟩
theorem enc_dig {d : Nat} (h : d ≤ 9) : Utf8.encode (48 + (d : Int)) = ⟨#[UInt8.ofNat (48 + d)]⟩ := by
  rcases (by omega : d = 0 ∨ d = 1 ∨ d = 2 ∨ d = 3 ∨ d = 4 ∨ d = 5 ∨ d = 6 ∨ d = 7 ∨ d = 8 ∨ d = 9) with rfl | rfl | rfl | rfl | rfl | rfl | rfl | rfl | rfl | rfl <;> decide
set_option maxHeartbeats 2000000 in
theorem textPos_calls (v : Nat) (hv : v ≤ 1099511627776) (w : World) : Calls Tryz.prog 12 #[.int .i64 v] w fun e w' => e = .returned (strV (digN v)) ∧ w' = w := by
  obtain ⟨r, hr⟩ : ∃ r, digN v = r := ⟨_, rfl⟩
  have hl : r.length ≤ 13 := by rw [← hr]; exact digN_len hv
  rw [hr]
  have Hr := Lib.hid hr
  clear hr
  go_enter Tryz.func12, Tryz.ntmps12
  go_wp2_with fail
  go_loopg [0, 3] v (fun k v0 v3 wr => (∃ (u : Nat) (s : List UInt8), u ≤ k ∧ u ≤ 1099511627776 ∧ v0 = .int .i64 u ∧ v3 = strV s ∧ s.length ≤ 13 ∧ Hid (digN u ++ s = r)) ∧ wr = w)
  case atStart => exact ⟨⟨v, [], Nat.le_refl _, hv, rfl, rfl, by simp, by show _ = _; simpa using Hr.out⟩, rfl⟩
  case round =>
    obtain ⟨⟨u, s, huk, hu, rfl, rfl, hsl, hI⟩, rfl⟩ := hrel
    simp only [strV]
    by_cases h9 : 9 < u
    · have h9' : (9 : Int) < (u : Int) := by omega
      have hen : Utf8.encode (48 + (u : Int) % 10) = ⟨#[UInt8.ofNat (48 + u % 10)]⟩ := by
        have := enc_dig (d := u % 10) (by omega)
        rwa [show ((u % 10 : Nat) : Int) = (u : Int) % 10 by omega] at this
      have hn : Hid (digN (u / 10) ++ (UInt8.ofNat (48 + u % 10) :: s) = r) := by
        show _ = _
        rw [← hI.out, digN_high h9]; simp
      have hsl2 : Hid ((UInt8.ofNat (48 + u % 10) :: s).length ≤ 13) := by
        show _ ≤ _
        have := congrArg List.length hn.out
        rw [List.length_append] at this
        omega
      generalize UInt8.ofNat (48 + u % 10) = b at *
      have hq : ¬ (9223372036854775807 : Int) < 1 + (s.length : Int) := by omega
      have hq2 : ¬ 9223372036854775807 < 1 + s.length := by omega
      go_wp2_with fail
      go_roundg (u / 10)
      case measure => omega
      case rel => exact ⟨⟨u / 10, b :: s, Nat.le_refl _, by omega, by go_num, congrArg Value.string (cat_one b s), hsl2.out, hn.out⟩, rfl⟩
    · have h9' : ¬ (9 : Int) < (u : Int) := by omega
      have hen := enc_dig (d := u) (by omega)
      have hn : Hid (UInt8.ofNat (48 + u) :: s = r) := by
        show _ = _
        rw [← hI.out, digN_low (by omega)]; simp
      generalize UInt8.ofNat (48 + u) = b at *
      have hq : ¬ (9223372036854775807 : Int) < 1 + (s.length : Int) := by omega
      have hq2 : ¬ 9223372036854775807 < 1 + s.length := by omega
      go_wp2_with fail
      go_ret
      exact ⟨by rw [← hn.out]; exact congrArg (fun x => Ending.returned (.string x)) (cat_one b s), rfl⟩
theorem text_go_calls (v : Int) (h1 : -1099511627776 ≤ v) (h2 : v ≤ 1099511627776) (w : World) : Calls Tryz.prog 12 #[.int .i64 v] w fun e w' => e = .returned (strV (txt v)) ∧ w' = w := by
  by_cases hv : v < 0
  · have hc := textPos_calls (-v).toNat (by omega) w
    have hl := digN_len (v := (-v).toNat) (by omega)
    rw [show (((-v).toNat : Nat) : Int) = -v by omega] at hc
    unfold txt
    rw [if_pos hv]
    generalize digN (-v).toNat = l at *
    have hq : ¬ 9223372036854775807 < 1 + l.length := by omega
    go_enter Tryz.func12, Tryz.ntmps12
    go_wp2_with fail
    refine hc.mono ?_
    rintro e w1 ⟨rfl, rfl⟩
    clear hc
    simp only [strV]
    go_wp2_with fail
    go_ret
    exact ⟨congrArg (fun x => Ending.returned (.string x)) (cat_one 45 l), rfl⟩
  · have hc := textPos_calls v.toNat (by omega) w
    rw [show ((v.toNat : Nat) : Int) = v by omega] at hc
    unfold txt
    rw [if_neg hv]
    exact hc
end Sy
end Go.Proofs.YthoealembhkaoaaGreatDoor
