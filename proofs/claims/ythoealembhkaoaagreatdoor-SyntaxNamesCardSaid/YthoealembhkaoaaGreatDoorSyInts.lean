import Derived.Test.YthoealembhkaoaaGreatDoorSyValid
namespace Go.Proofs.YthoealembhkaoaaGreatDoor
open Go.RowKit
namespace Sy
set_option linter.unusedVariables false

/-- The order of two whole numbers' texts. -/
def intCmp (a b : List UInt8) : Int :=
  match Lib.hasPrefix a [45], Lib.hasPrefix b [45] with
  | true, false => -1
  | false, true => 1
  | true, true => orR (Lib.compareInt (Lib.trimPrefix b [45]).length (Lib.trimPrefix a [45]).length) (Lib.compareBytes (Lib.trimPrefix b [45]) (Lib.trimPrefix a [45]))
  | false, false => orR (Lib.compareInt (Lib.trimPrefix a [45]).length (Lib.trimPrefix b [45]).length) (Lib.compareBytes (Lib.trimPrefix a [45]) (Lib.trimPrefix b [45]))

set_option maxRecDepth 100000 in
set_option maxHeartbeats 1000000 in
theorem integers_calls (a b : ByteArray) (w : World) :
    Calls Tryz.prog 32 #[.string a, .string b] w fun e w' => e = .returned (.int .i64 (intCmp a.data.toList b.data.toList)) ∧ Below w.heap.size w w' := by
  have hc1 := fun W => Tryz.strings_CutPrefix a ⟨#[45]⟩ W
  have hc2 := fun W => Tryz.strings_CutPrefix b ⟨#[45]⟩ W
  simp only at hc1 hc2
  unfold intCmp
  generalize Lib.hasPrefix a.data.toList [45] = pa at *
  generalize Lib.hasPrefix b.data.toList [45] = pb at *
  generalize Lib.trimPrefix a.data.toList [45] = x at *
  generalize Lib.trimPrefix b.data.toList [45] = y at *
  have hci := fun (m n : Nat) W => Tryz.cmp_Compare_int (m : Int) (n : Int) W
  have hcb := fun (u v : List UInt8) W => compare_calls ⟨u.toArray⟩ ⟨v.toArray⟩ W
  simp only at hcb
  have hor := fun g c (V : World) m n h0 h1 => or_calls V g c m n h0 h1
  cases pa with
  | true =>
    cases pb with
    | false =>
      go_enter Tryz.func32, Tryz.ntmps32
      go_wp2_with fail
      refine (hc1 _).mono ?_
      rintro e w1 ⟨rfl, rfl⟩
      go_wp2_with fail
      refine (hc2 _).mono ?_
      rintro e w1 ⟨rfl, rfl⟩
      go_wp2_with fail
      go_ret
      exact ⟨rfl, Below.refl _ _⟩
    | true =>
      simp only
      go_enter Tryz.func32, Tryz.ntmps32
      go_wp2_with fail
      refine (hc1 _).mono ?_
      rintro e w1 ⟨rfl, rfl⟩
      go_wp2_with fail
      refine (hc2 _).mono ?_
      rintro e w1 ⟨rfl, rfl⟩
      clear hc1 hc2
      go_wp2_with (first | (go_at_call 59; refine (hci _ _ _).mono ?_; rintro e w9 ⟨rfl, rfl⟩) | (go_at_call 33; refine (hcb _ _ _).mono ?_; rintro e w9 ⟨rfl, rfl⟩))
      refine (hor _ _ _ (Lib.compareInt (y.length : Int) (x.length : Int)) (Lib.compareBytes y x) (by simp [go_sem]) (by simp [go_sem])).mono ?_
      rintro e w8 ⟨rfl, rfl⟩
      go_wp2_with fail
      go_ret
      exact ⟨rfl, (Below.refl _ _).alloc (Nat.le_refl _) _⟩
  | false =>
    cases pb with
    | true =>
      go_enter Tryz.func32, Tryz.ntmps32
      go_wp2_with fail
      refine (hc1 _).mono ?_
      rintro e w1 ⟨rfl, rfl⟩
      go_wp2_with fail
      refine (hc2 _).mono ?_
      rintro e w1 ⟨rfl, rfl⟩
      go_wp2_with fail
      go_ret
      exact ⟨rfl, Below.refl _ _⟩
    | false =>
      simp only
      go_enter Tryz.func32, Tryz.ntmps32
      go_wp2_with fail
      refine (hc1 _).mono ?_
      rintro e w1 ⟨rfl, rfl⟩
      go_wp2_with fail
      refine (hc2 _).mono ?_
      rintro e w1 ⟨rfl, rfl⟩
      clear hc1 hc2
      go_wp2_with (first | (go_at_call 59; refine (hci _ _ _).mono ?_; rintro e w9 ⟨rfl, rfl⟩) | (go_at_call 33; refine (hcb _ _ _).mono ?_; rintro e w9 ⟨rfl, rfl⟩))
      refine (hor _ _ _ (Lib.compareInt (x.length : Int) (y.length : Int)) (Lib.compareBytes x y) (by simp [go_sem]) (by simp [go_sem])).mono ?_
      rintro e w8 ⟨rfl, rfl⟩
      go_wp2_with fail
      go_ret
      exact ⟨rfl, (Below.refl _ _).alloc (Nat.le_refl _) _⟩
end Sy
end Go.Proofs.YthoealembhkaoaaGreatDoor
