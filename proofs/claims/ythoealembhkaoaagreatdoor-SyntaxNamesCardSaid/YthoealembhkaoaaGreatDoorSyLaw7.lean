import Derived.Test.YthoealembhkaoaaGreatDoorSyLaw5
import Derived.Test.YthoealembhkaoaaGreatDoorSyNamed
namespace Go.Proofs.YthoealembhkaoaaGreatDoor
open Go.RowKit
namespace Sy
set_option linter.unusedVariables false
set_option maxRecDepth 100000

def dnRule : ByteArray := ⟨#[100, 105, 115, 116, 105, 110, 103, 117, 105, 115, 104, 101, 100, 78, 97, 109, 101, 77, 97, 116, 99, 104]⟩
theorem dn_ask : askR (small dnRule.data.toList) 0 = some (.dn, .eq) := rfl
def catX (a b : ByteArray) : ByteArray := ⟨#[99, 110, 61]⟩ ++ a ++ ⟨#[43, 83, 78, 61]⟩ ++ b ++ ⟨#[44, 68, 67, 61, 120]⟩
def catY (a b : ByteArray) : ByteArray := ⟨#[32, 115, 110, 32, 61, 32]⟩ ++ b ++ ⟨#[32, 43, 32, 67, 78, 61]⟩ ++ a ++ ⟨#[44, 32, 100, 99, 32, 61, 32, 88, 32]⟩
def catZ (a : ByteArray) : ByteArray := ⟨#[99, 110, 61]⟩ ++ a ++ ⟨#[44, 100, 99, 61, 120]⟩
def catZ2 (a : ByteArray) : ByteArray := ⟨#[99, 110, 61]⟩ ++ a ++ ⟨#[122, 44, 100, 99, 61, 120]⟩
theorem cat_data (a b : ByteArray) : (a ++ b).data.toList = a.data.toList ++ b.data.toList := by simp
theorem catX_data (a b : ByteArray) : (catX a b).data.toList = nameX a.data.toList b.data.toList := by unfold catX; simp only [cat_data]; rfl
theorem catY_data (a b : ByteArray) : (catY a b).data.toList = nameY a.data.toList b.data.toList := by unfold catY; simp only [cat_data]; rfl
theorem catZ_data (a : ByteArray) : (catZ a).data.toList = nameZ a.data.toList := by unfold catZ; simp only [cat_data]; rfl
theorem catZ2_data (a : ByteArray) : (catZ2 a).data.toList = nameZ (a.data.toList ++ [122]) := by unfold catZ2; simp only [cat_data]; simp [nameZ]
theorem size_list (a : ByteArray) : a.size = a.data.toList.length := by simp
theorem same_names {x y : ByteArray} {s t : List UInt8} (hx : normB .dn x.data.toList = some s) (hy : normB .dn y.data.toList = some t) (h1 : x.size ≤ 1000) (h2 : y.size ≤ 1000) (W : World) (he : Env W) :
    Calls Tryz.prog 17 #[.string dnRule, .string x, .string y] W fun e w' => e = .returned (.tuple #[.bool (s == t), .int .i64 0]) ∧ Below W.heap.size W w' := by
  have := same_go_calls dnRule x y W he (by decide) (by omega) (by omega)
  rw [sameF_of dn_ask hx hy] at this
  exact this
theorem low_take {a : ByteArray} {i : Nat} (hi : i < a.size) (h : ∀ b ∈ a.data.toList.take i, 97 ≤ b.toNat ∧ b.toNat ≤ 122) (hb : 97 ≤ (a[i]'hi).toNat ∧ (a[i]'hi).toNat ≤ 122) : ∀ b ∈ a.data.toList.take (i + 1), 97 ≤ b.toNat ∧ b.toNat ≤ 122 := by
  have hl : i < a.data.toList.length := by rw [← size_list]; exact hi
  rw [List.take_succ_eq_append_getElem hl]
  intro b hm
  rcases List.mem_append.1 hm with hm | hm
  · exact h b hm
  · simp only [List.mem_singleton] at hm
    subst hm
    exact hb
set_option maxHeartbeats 4000000 in
theorem names_go_calls (a b : ByteArray) (w : World) (he : Env w) (ha : a.size ≤ 4611686018427387903) (hb : b.size ≤ 4611686018427387903) :
    Calls Tryz.prog 7 #[.string a, .string b] w fun e w' => e = .returned (.bool true) ∧ Below w.heap.size w w' := by
  have hal := alive_calls w he
  by_cases hl : 200 < a.size + b.size
  · have hl' : (200 : Int) < (a.size : Int) + (b.size : Int) := by omega
    clear he
    go_enter Tryz.func7, Tryz.ntmps7
    go_wp2_with fail
    refine hal.mono ?_
    rintro e w1 ⟨rfl, hb1⟩
    clear hal
    go_wp2_with fail
    go_ret
    exact ⟨rfl, hb1⟩
  · have hl' : ¬ (200 : Int) < (a.size : Int) + (b.size : Int) := by omega
    have HE := Lib.hid he
    have HAL := Lib.hid hal
    clear he hal
    go_enter Tryz.func7, Tryz.ntmps7
    go_wp2_with fail
    go_loopg [5] a.size (fun k iv wr => (∃ i : Nat, i ≤ a.size ∧ a.size - i ≤ k ∧ iv = .int .i64 i ∧ Hid (∀ b ∈ a.data.toList.take i, 97 ≤ b.toNat ∧ b.toNat ≤ 122)) ∧ wr = w)
    case atStart => exact ⟨⟨0, Nat.zero_le _, Nat.le_refl _, rfl, by show ∀ b ∈ _, _; simp⟩, rfl⟩
    case round =>
      obtain ⟨⟨i, hi, hk, rfl, hI⟩, hw⟩ := hrel
      have hw := hw.symm
      subst hw
      by_cases hlt : i < a.size
      · have hal := HAL.out
        by_cases h1 : (a[i].toNat : Int) < 97
        · go_wp2_with fail
          refine hal.mono ?_
          rintro e w1 ⟨rfl, hb1⟩
          clear hal
          go_wp2_with fail
          go_ret
          exact ⟨rfl, hb1⟩
        · by_cases h2 : (122 : Int) < (a[i].toNat : Int)
          · go_wp2_with fail
            refine hal.mono ?_
            rintro e w1 ⟨rfl, hb1⟩
            clear hal
            go_wp2_with fail
            go_ret
            exact ⟨rfl, hb1⟩
          · have hn := Lib.hid (low_take hlt hI.out ⟨by omega, by omega⟩)
            clear hal
            go_wp2_with fail
            go_roundg (a.size - (i + 1))
            case measure => omega
            case rel => exact ⟨⟨i + 1, by omega, Nat.le_refl _, by go_num, hn.out⟩, rfl⟩
      · have hA : Hid (Low a.data.toList) := by
          have := hI.out
          rw [List.take_of_length_le (by rw [← size_list]; omega)] at this
          exact this
        clear hI hk hi
        go_wp2_with fail
        clear hlt
        go_loopg [6] b.size (fun k iv wr => (∃ i : Nat, i ≤ b.size ∧ b.size - i ≤ k ∧ iv = .int .i64 i ∧ Hid (∀ c ∈ b.data.toList.take i, 97 ≤ c.toNat ∧ c.toNat ≤ 122)) ∧ wr = w)
        case atStart => exact ⟨⟨0, Nat.zero_le _, Nat.le_refl _, rfl, by show ∀ c ∈ _, _; simp⟩, rfl⟩
        case round =>
          obtain ⟨⟨j, hj, hk, rfl, hI⟩, hw⟩ := hrel
          have hw := hw.symm
          subst hw
          by_cases hlt : j < b.size
          · have hal := HAL.out
            by_cases h1 : (b[j].toNat : Int) < 97
            · go_wp2_with fail
              refine hal.mono ?_
              rintro e w1 ⟨rfl, hb1⟩
              clear hal
              go_wp2_with fail
              go_ret
              exact ⟨rfl, hb1⟩
            · by_cases h2 : (122 : Int) < (b[j].toNat : Int)
              · go_wp2_with fail
                refine hal.mono ?_
                rintro e w1 ⟨rfl, hb1⟩
                clear hal
                go_wp2_with fail
                go_ret
                exact ⟨rfl, hb1⟩
              · have hn := Lib.hid (low_take hlt hI.out ⟨by omega, by omega⟩)
                clear hal
                go_wp2_with fail
                go_roundg (b.size - (j + 1))
                case measure => omega
                case rel => exact ⟨⟨j + 1, by omega, Nat.le_refl _, by go_num, hn.out⟩, rfl⟩
          · have hB : Hid (Low b.data.toList) := by
              have := hI.out
              rw [List.take_of_length_le (by rw [← size_list]; omega)] at this
              exact this
            clear hI hk hj
            obtain ⟨⟨t, t1, t2⟩, s1, s2, z1, z2, zne⟩ := names_law hA.out hB.out (by rw [← size_list, ← size_list]; omega)
            rw [← catX_data] at t1
            rw [← catY_data] at t2
            rw [← catZ_data] at z1
            rw [← catZ2_data] at z2
            have k1 := same_names t1 t2 (by rw [size_list, catX_data]; simp [nameX]; omega) (by rw [size_list, catY_data]; simp [nameY]; omega) w HE.out
            have k2 : ∀ W, Below w.heap.size w W → Calls Tryz.prog 17 #[.string dnRule, .string (catZ a), .string (catZ2 a)] W _ := fun W hW => same_names z1 z2 (by rw [size_list, catZ_data]; simp [nameZ]; omega) (by rw [size_list, catZ2_data]; simp [nameZ]; omega) W (HE.out.below hW)
            have k3 : ∀ W, Below w.heap.size w W → Calls Tryz.prog 10 #[] W _ := fun W hW => alive_calls W (HE.out.below hW)
            rw [show (s1 == s2) = false by simpa using zne] at k2
            rw [show (t == t) = true by simp] at k1
            unfold catX catY dnRule at k1
            unfold catZ catZ2 dnRule at k2
            have K2 := Lib.hid k2
            have K3 := Lib.hid k3
            clear k2 k3 t1 t2 z1 z2 zne HAL
            go_wp2_with fail
            refine k1.mono ?_
            rintro e w1 ⟨rfl, hb1⟩
            have k2 := K2.out _ hb1
            clear k1 K2
            go_wp2_with fail
            refine k2.mono ?_
            rintro e w2 ⟨rfl, hb2⟩
            have b2 := hb1.trans (hb2.mono hb1.size)
            have k3 := K3.out _ b2
            clear k2 K3 hb1 hb2
            go_wp2_with fail
            refine k3.mono ?_
            rintro e w3 ⟨rfl, hb3⟩
            have b3 := b2.trans (hb3.mono b2.size)
            clear k3 b2 hb3
            go_wp2_with fail
            go_ret
            exact ⟨rfl, b3⟩
end Sy
end Go.Proofs.YthoealembhkaoaaGreatDoor
