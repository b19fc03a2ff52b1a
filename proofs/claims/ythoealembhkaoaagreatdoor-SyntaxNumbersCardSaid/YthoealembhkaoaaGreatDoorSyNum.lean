import Derived.Test.YthoealembhkaoaaGreatDoorSyLaw1
namespace Go.Proofs.YthoealembhkaoaaGreatDoor
open Go.RowKit
namespace Sy
set_option linter.unusedVariables false
set_option maxRecDepth 100000

theorem txt_len {v : Int} (h1 : -1099511627776 ≤ v) (h2 : v ≤ 1099511627776) : (txt v).length ≤ 14 := by
  unfold txt
  split
  · have := digN_len (v := (-v).toNat) (by omega); simp; omega
  · have := digN_len (v := v.toNat) (by omega); omega
theorem ask_int : askR (small [73, 78, 84, 69, 71, 69, 82, 111, 114, 100, 101, 114, 105, 110, 103, 77, 97, 116, 99, 104]) 1 = some (.integer, .ord) := by rfl
theorem normB_int {l : List UInt8} (hl : l.length ≤ 1024) (h : isInt l = true) : normB .integer l = some l := by
  unfold normB
  rw [if_pos ⟨hl, by simp [Base.forms, Form.ok, Form.of, hl, h]⟩]
  rfl
theorem order_txt {a b : Int} (a1 : -1099511627776 ≤ a) (a2 : a ≤ 1099511627776) (b1 : -1099511627776 ≤ b) (b2 : b ≤ 1099511627776) :
    orderF [73, 78, 84, 69, 71, 69, 82, 111, 114, 100, 101, 114, 105, 110, 103, 77, 97, 116, 99, 104] (txt a) (txt b) = (cmpI a b, 0) := by
  obtain ⟨h1, h2⟩ := txt_int a1 a2
  obtain ⟨h3, h4⟩ := txt_int b1 b2
  unfold orderF bothR
  rw [ask_int]
  simp only [normB_int (by have := txt_len a1 a2; omega) h1, normB_int (by have := txt_len b1 b2; omega) h3, if_true]
  rw [intCmp_val h1 h3, h2, h4]
theorem bytes_list (a b : List UInt8) : (⟨a.toArray⟩ ++ ⟨b.toArray⟩ : ByteArray).data.toList = a ++ b := by rw [cat_bytes]
theorem valid_txt {v : Int} (h1 : -1099511627776 ≤ v) (h2 : v ≤ 1099511627776) (W : World) (he : Env W) :
    Calls Tryz.prog 13 #[.string ⟨#[105, 110, 116, 101, 103, 101, 114]⟩, .string ⟨(txt v).toArray⟩] W fun e w' => e = .returned (.bool true) ∧ Below W.heap.size W w' := by
  have hl := txt_len h1 h2
  have hs : (⟨(txt v).toArray⟩ : ByteArray).size ≤ 9223372036854775807 := by show (txt v).toArray.size ≤ _; simp; omega
  have r1 : Form.ok .integer (txt v) = true := by
    unfold Form.ok
    rw [decide_eq_true (by omega : (txt v).length ≤ 1024)]
    exact (txt_int h1 h2).1
  have := valid_calls .integer ⟨(txt v).toArray⟩ W he hs
  rw [r1] at this
  exact this
theorem valid_nought {v : Int} (h1 : -1099511627776 ≤ v) (h2 : v ≤ 1099511627776) (c : UInt8) (hc : isInt (c :: txt v) = false) (W : World) (he : Env W) :
    Calls Tryz.prog 13 #[.string ⟨#[105, 110, 116, 101, 103, 101, 114]⟩, .string (⟨#[c]⟩ ++ ⟨(txt v).toArray⟩)] W fun e w' => e = .returned (.bool false) ∧ Below W.heap.size W w' := by
  have hl := txt_len h1 h2
  rw [cat_one]
  have hs : (⟨(c :: txt v).toArray⟩ : ByteArray).size ≤ 9223372036854775807 := by show (c :: txt v).toArray.size ≤ _; simp; omega
  have r1 : Form.ok .integer (c :: txt v) = false := by
    unfold Form.ok
    rw [show Form.of .integer (c :: txt v) = false from hc, Bool.and_false]
  have := valid_calls .integer ⟨(c :: txt v).toArray⟩ W he hs
  rw [r1] at this
  exact this
set_option maxHeartbeats 4000000 in
theorem numbers_go_calls (a b : Int) (w : World) (he : Env w) :
    Calls Tryz.prog 3 #[.int .i64 a, .int .i64 b] w fun e w' => e = .returned (.bool true) ∧ Below w.heap.size w w' := by
  have hal := alive_calls w he
  by_cases h1 : a < -1099511627776
  · go_enter Tryz.func3, Tryz.ntmps3
    go_wp2_with fail
    refine hal.mono ?_
    rintro e w1 ⟨rfl, hb⟩
    go_wp2_with fail
    go_ret
    exact ⟨rfl, hb⟩
  by_cases h2 : b < -1099511627776
  · go_enter Tryz.func3, Tryz.ntmps3
    go_wp2_with fail
    refine hal.mono ?_
    rintro e w1 ⟨rfl, hb⟩
    go_wp2_with fail
    go_ret
    exact ⟨rfl, hb⟩
  by_cases h3 : 1099511627776 < a
  · go_enter Tryz.func3, Tryz.ntmps3
    go_wp2_with fail
    refine hal.mono ?_
    rintro e w1 ⟨rfl, hb⟩
    go_wp2_with fail
    go_ret
    exact ⟨rfl, hb⟩
  by_cases h4 : 1099511627776 < b
  · go_enter Tryz.func3, Tryz.ntmps3
    go_wp2_with fail
    refine hal.mono ?_
    rintro e w1 ⟨rfl, hb⟩
    go_wp2_with fail
    go_ret
    exact ⟨rfl, hb⟩
  clear hal
  have ta := fun W => text_go_calls a (by omega) (by omega) W
  have tb := fun W => text_go_calls b (by omega) (by omega) W
  have la := txt_len (v := a) (by omega) (by omega)
  have lb := txt_len (v := b) (by omega) (by omega)
  have ho := order_go_calls ⟨#[73, 78, 84, 69, 71, 69, 82, 111, 114, 100, 101, 114, 105, 110, 103, 77, 97, 116, 99, 104]⟩ ⟨(txt a).toArray⟩ ⟨(txt b).toArray⟩ w he (by decide) (by show (txt a).toArray.size ≤ _; simp; omega) (by show (txt b).toArray.size ≤ _; simp; omega)
  have hord := order_txt (a := a) (b := b) (by omega) (by omega) (by omega) (by omega)
  rw [show (orderF (⟨#[73, 78, 84, 69, 71, 69, 82, 111, 114, 100, 101, 114, 105, 110, 103, 77, 97, 116, 99, 104]⟩ : ByteArray).data.toList (⟨(txt a).toArray⟩ : ByteArray).data.toList (⟨(txt b).toArray⟩ : ByteArray).data.toList) = (cmpI a b, 0) from hord] at ho
  simp only [orderFV] at ho
  have HV1 : Hid (∀ W, Below w.heap.size w W → Calls Tryz.prog 13 #[.string ⟨#[105, 110, 116, 101, 103, 101, 114]⟩, .string ⟨(txt a).toArray⟩] W fun e w' => e = .returned (.bool true) ∧ Below W.heap.size W w') := fun W hW => valid_txt (by omega) (by omega) W (he.below hW)
  have HV2 : Hid (∀ W, Below w.heap.size w W → Calls Tryz.prog 13 #[.string ⟨#[105, 110, 116, 101, 103, 101, 114]⟩, .string (⟨#[48]⟩ ++ ⟨(txt b).toArray⟩)] W fun e w' => e = .returned (.bool false) ∧ Below W.heap.size W w') := fun W hW => valid_nought (by omega) (by omega) 48 (int_nought b) W (he.below hW)
  have HV3 : Hid (∀ W, Below w.heap.size w W → Calls Tryz.prog 13 #[.string ⟨#[105, 110, 116, 101, 103, 101, 114]⟩, .string (⟨#[43]⟩ ++ ⟨(txt b).toArray⟩)] W fun e w' => e = .returned (.bool false) ∧ Below W.heap.size W w') := fun W hW => valid_nought (by omega) (by omega) 43 (int_plus b) W (he.below hW)
  have HAL : Hid (∀ W, Below w.heap.size w W → Calls Tryz.prog 10 #[] W fun e w' => e = .returned (.bool true) ∧ Below W.heap.size W w') := fun W hW => alive_calls W (he.below hW)
  have hcmp : cmpI a b = if a < b then -1 else if b < a then 1 else 0 := rfl
  clear hord he
  generalize cmpI a b = c at *
  simp only [strV] at ta tb
  generalize txt a = x at *
  generalize txt b = y at *
  have q1 : ¬ 9223372036854775807 < 1 + y.length := by omega
  rcases Int.lt_trichotomy a b with hab | hab | hab
  · rw [if_pos hab] at hcmp
    subst hcmp
    go_enter Tryz.func3, Tryz.ntmps3
    go_wp2_with fail
    refine (ta _).mono ?_
    rintro e v1 ⟨rfl, hq⟩
    have hq := hq.symm
    subst hq
    go_wp2_with fail
    refine (tb _).mono ?_
    rintro e v2 ⟨rfl, hq⟩
    have hq := hq.symm
    subst hq
    go_wp2_with fail
    refine (ho).mono ?_
    rintro e w1 ⟨rfl, hw1⟩
    clear ho
    have hal := HAL.out _ hw1
    go_wp2_with fail
    refine (hal).mono ?_
    rintro e w2 ⟨rfl, hw2⟩
    clear hal
    have b2 : Below w.heap.size w w2 := hw1.trans (hw2.mono hw1.size)
    have hv1 := HV1.out _ b2
    clear hw1 hw2
    go_wp2_with fail
    refine (ta _).mono ?_
    rintro e v3 ⟨rfl, hq⟩
    have hq := hq.symm
    subst hq
    go_wp2_with fail
    refine (hv1).mono ?_
    rintro e w3 ⟨rfl, hw3⟩
    clear hv1
    have b3 : Below w.heap.size w w3 := b2.trans (hw3.mono b2.size)
    have hv2 := HV2.out _ b3
    clear b2 hw3
    go_wp2_with fail
    refine (tb _).mono ?_
    rintro e v4 ⟨rfl, hq⟩
    have hq := hq.symm
    subst hq
    go_wp2_with fail
    refine (hv2).mono ?_
    rintro e w4 ⟨rfl, hw4⟩
    clear hv2
    have b4 : Below w.heap.size w w4 := b3.trans (hw4.mono b3.size)
    have hv3 := HV3.out _ b4
    clear b3 hw4
    go_wp2_with fail
    refine (tb _).mono ?_
    rintro e v5 ⟨rfl, hq⟩
    have hq := hq.symm
    subst hq
    go_wp2_with fail
    refine (hv3).mono ?_
    rintro e w5 ⟨rfl, hw5⟩
    clear hv3
    have b5 : Below w.heap.size w w5 := b4.trans (hw5.mono b4.size)
    clear b4 hw5
    go_wp2_with fail
    go_ret
    exact ⟨rfl, b5⟩
  · rw [if_neg (by omega), if_neg (by omega)] at hcmp
    have n1 : ¬ a < b := by omega
    have n2 : ¬ b < a := by omega
    clear hab
    subst hcmp
    go_enter Tryz.func3, Tryz.ntmps3
    go_wp2_with fail
    refine (ta _).mono ?_
    rintro e v1 ⟨rfl, hq⟩
    have hq := hq.symm
    subst hq
    go_wp2_with fail
    refine (tb _).mono ?_
    rintro e v2 ⟨rfl, hq⟩
    have hq := hq.symm
    subst hq
    go_wp2_with fail
    refine (ho).mono ?_
    rintro e w1 ⟨rfl, hw1⟩
    clear ho
    have hal := HAL.out _ hw1
    go_wp2_with fail
    refine (hal).mono ?_
    rintro e w2 ⟨rfl, hw2⟩
    clear hal
    have b2 : Below w.heap.size w w2 := hw1.trans (hw2.mono hw1.size)
    have hv1 := HV1.out _ b2
    clear hw1 hw2
    go_wp2_with fail
    refine (ta _).mono ?_
    rintro e v3 ⟨rfl, hq⟩
    have hq := hq.symm
    subst hq
    go_wp2_with fail
    refine (hv1).mono ?_
    rintro e w3 ⟨rfl, hw3⟩
    clear hv1
    have b3 : Below w.heap.size w w3 := b2.trans (hw3.mono b2.size)
    have hv2 := HV2.out _ b3
    clear b2 hw3
    go_wp2_with fail
    refine (tb _).mono ?_
    rintro e v4 ⟨rfl, hq⟩
    have hq := hq.symm
    subst hq
    go_wp2_with fail
    refine (hv2).mono ?_
    rintro e w4 ⟨rfl, hw4⟩
    clear hv2
    have b4 : Below w.heap.size w w4 := b3.trans (hw4.mono b3.size)
    have hv3 := HV3.out _ b4
    clear b3 hw4
    go_wp2_with fail
    refine (tb _).mono ?_
    rintro e v5 ⟨rfl, hq⟩
    have hq := hq.symm
    subst hq
    go_wp2_with fail
    refine (hv3).mono ?_
    rintro e w5 ⟨rfl, hw5⟩
    clear hv3
    have b5 : Below w.heap.size w w5 := b4.trans (hw5.mono b4.size)
    clear b4 hw5
    go_wp2_with fail
    go_ret
    exact ⟨rfl, b5⟩
  · rw [if_neg (by omega), if_pos hab] at hcmp
    subst hcmp
    go_enter Tryz.func3, Tryz.ntmps3
    go_wp2_with fail
    refine (ta _).mono ?_
    rintro e v1 ⟨rfl, hq⟩
    have hq := hq.symm
    subst hq
    go_wp2_with fail
    refine (tb _).mono ?_
    rintro e v2 ⟨rfl, hq⟩
    have hq := hq.symm
    subst hq
    go_wp2_with fail
    refine (ho).mono ?_
    rintro e w1 ⟨rfl, hw1⟩
    clear ho
    have hal := HAL.out _ hw1
    go_wp2_with fail
    refine (hal).mono ?_
    rintro e w2 ⟨rfl, hw2⟩
    clear hal
    have b2 : Below w.heap.size w w2 := hw1.trans (hw2.mono hw1.size)
    have hv1 := HV1.out _ b2
    clear hw1 hw2
    go_wp2_with fail
    refine (ta _).mono ?_
    rintro e v3 ⟨rfl, hq⟩
    have hq := hq.symm
    subst hq
    go_wp2_with fail
    refine (hv1).mono ?_
    rintro e w3 ⟨rfl, hw3⟩
    clear hv1
    have b3 : Below w.heap.size w w3 := b2.trans (hw3.mono b2.size)
    have hv2 := HV2.out _ b3
    clear b2 hw3
    go_wp2_with fail
    refine (tb _).mono ?_
    rintro e v4 ⟨rfl, hq⟩
    have hq := hq.symm
    subst hq
    go_wp2_with fail
    refine (hv2).mono ?_
    rintro e w4 ⟨rfl, hw4⟩
    clear hv2
    have b4 : Below w.heap.size w w4 := b3.trans (hw4.mono b3.size)
    have hv3 := HV3.out _ b4
    clear b3 hw4
    go_wp2_with fail
    refine (tb _).mono ?_
    rintro e v5 ⟨rfl, hq⟩
    have hq := hq.symm
    subst hq
    go_wp2_with fail
    refine (hv3).mono ?_
    rintro e w5 ⟨rfl, hw5⟩
    clear hv3
    have b5 : Below w.heap.size w w5 := b4.trans (hw5.mono b4.size)
    clear b4 hw5
    go_wp2_with fail
    go_ret
    exact ⟨rfl, b5⟩
end Sy
end Go.Proofs.YthoealembhkaoaaGreatDoor
