import Derived.Test.YthoealembhkaoaaGreatDoorSySame
import Derived.Test.YthoealembhkaoaaGreatDoorSyIntLaw
namespace Go.Proofs.YthoealembhkaoaaGreatDoor
open Go.RowKit
namespace Sy
set_option linter.unusedVariables false
set_option maxRecDepth 100000

theorem alive1 : normF [100, 105, 115, 116, 105, 110, 103, 117, 105, 115, 104, 101, 100, 78, 97, 109, 101, 77, 97, 116, 99, 104] [83, 78, 61, 98, 43, 67, 78, 61, 32, 65, 32, 44, 68, 67, 61, 88] = (some [99, 110, 61, 97, 43, 115, 110, 61, 98, 44, 100, 99, 61, 120], 0) := by decide +kernel
theorem alive2 : orderF [105, 110, 116, 101, 103, 101, 114, 79, 114, 100, 101, 114, 105, 110, 103, 77, 97, 116, 99, 104] [49,48] [57] = (1,0) := by decide +kernel
theorem alive3 : Form.ok .time [50, 48, 50, 52, 48, 50, 50, 57, 48, 48, 48, 48, 48, 48, 90] = true := by decide +kernel
set_option maxHeartbeats 2000000 in
theorem alive_calls (w : World) (he : Env w) : Calls Tryz.prog 10 #[] w fun e w' => e = .returned (.bool true) ∧ Below w.heap.size w w' := by
  have h1 := norm_go_calls ⟨#[100, 105, 115, 116, 105, 110, 103, 117, 105, 115, 104, 101, 100, 78, 97, 109, 101, 77, 97, 116, 99, 104]⟩ ⟨#[83, 78, 61, 98, 43, 67, 78, 61, 32, 65, 32, 44, 68, 67, 61, 88]⟩ w he (by decide) (by decide)
  rw [alive1] at h1
  simp only [normFV, Option.getD, strV] at h1
  have h2 : ∀ W, Below w.heap.size w W → Calls Tryz.prog 11 _ W _ := fun W hW => order_go_calls ⟨#[105, 110, 116, 101, 103, 101, 114, 79, 114, 100, 101, 114, 105, 110, 103, 77, 97, 116, 99, 104]⟩ ⟨#[49, 48]⟩ ⟨#[57]⟩ W (he.below hW) (by decide) (by decide) (by decide)
  rw [alive2] at h2
  simp only [orderFV] at h2
  have h3 : ∀ W, Below w.heap.size w W → Calls Tryz.prog 13 _ W _ := fun W hW => valid_calls .time ⟨#[50, 48, 50, 52, 48, 50, 50, 57, 48, 48, 48, 48, 48, 48, 90]⟩ W (he.below hW) (by decide)
  rw [alive3] at h3
  simp only [Form.word] at h3
  have H2 := Lib.hid h2
  have H3 := Lib.hid h3
  clear h2 h3
  go_enter Tryz.func10, Tryz.ntmps10
  go_wp2_with fail
  refine h1.mono ?_
  rintro e w1 ⟨rfl, hb1⟩
  have h2 := H2.out _ hb1
  clear h1 H2
  go_wp2_with fail
  refine h2.mono ?_
  rintro e w2 ⟨rfl, hb2⟩
  have hb3 := hb1.trans (hb2.mono hb1.size)
  have h3 := H3.out _ hb3
  clear h2 H3 hb1 hb2
  go_wp2_with fail
  refine h3.mono ?_
  rintro e w3 ⟨rfl, hb4⟩
  have hb5 := hb3.trans (hb4.mono hb3.size)
  clear h3 hb3 hb4
  go_wp2_with fail
  go_ret
  exact ⟨rfl, hb5⟩
theorem enc_dig {d : Nat} (h : d ≤ 9) : Utf8.encode (48 + (d : Int)) = ⟨#[UInt8.ofNat (48 + d)]⟩ := by
  rcases (by omega : d = 0 ∨ d = 1 ∨ d = 2 ∨ d = 3 ∨ d = 4 ∨ d = 5 ∨ d = 6 ∨ d = 7 ∨ d = 8 ∨ d = 9) with rfl | rfl | rfl | rfl | rfl | rfl | rfl | rfl | rfl | rfl <;> decide
set_option maxHeartbeats 2000000 in
theorem textPos_calls (v : Nat) (hv : v ≤ 1099511627776) (w : World) : Calls Tryz.prog 12 #[.int .i64 v] w fun e w' => e = .returned (strV (digN v)) ∧ w' = w := by
  obtain ⟨r, hr⟩ : ∃ r, digN v = r := ⟨_, rfl⟩
  have hl : r.length ≤ 13 := by rw [← hr]; exact digN_len hv
  rw [hr]
  have Hr := Lib.hid hr
  clear hr
  go_enter Tryz.func12, Tryz.ntmps12
  go_wp2_with fail
  go_loopg [0, 3] v (fun k v0 v3 wr => (∃ (u : Nat) (s : List UInt8), u ≤ k ∧ u ≤ 1099511627776 ∧ v0 = .int .i64 u ∧ v3 = strV s ∧ s.length ≤ 13 ∧ Hid (digN u ++ s = r)) ∧ wr = w)
  case atStart => exact ⟨⟨v, [], Nat.le_refl _, hv, rfl, rfl, by simp, by show _ = _; simpa using Hr.out⟩, rfl⟩
  case round =>
    obtain ⟨⟨u, s, huk, hu, rfl, rfl, hsl, hI⟩, rfl⟩ := hrel
    simp only [strV]
    by_cases h9 : 9 < u
    · have h9' : (9 : Int) < (u : Int) := by omega
      have hen : Utf8.encode (48 + (u : Int) % 10) = ⟨#[UInt8.ofNat (48 + u % 10)]⟩ := by
        have := enc_dig (d := u % 10) (by omega)
        rwa [show ((u % 10 : Nat) : Int) = (u : Int) % 10 by omega] at this
      have hn : Hid (digN (u / 10) ++ (UInt8.ofNat (48 + u % 10) :: s) = r) := by
        show _ = _
        rw [← hI.out, digN_high h9]; simp
      have hsl2 : Hid ((UInt8.ofNat (48 + u % 10) :: s).length ≤ 13) := by
        show _ ≤ _
        have := congrArg List.length hn.out
        rw [List.length_append] at this
        omega
      generalize UInt8.ofNat (48 + u % 10) = b at *
      have hq : ¬ (9223372036854775807 : Int) < 1 + (s.length : Int) := by omega
      have hq2 : ¬ 9223372036854775807 < 1 + s.length := by omega
      go_wp2_with fail
      go_roundg (u / 10)
      case measure => omega
      case rel => exact ⟨⟨u / 10, b :: s, Nat.le_refl _, by omega, by go_num, congrArg Value.string (cat_one b s), hsl2.out, hn.out⟩, rfl⟩
    · have h9' : ¬ (9 : Int) < (u : Int) := by omega
      have hen := enc_dig (d := u) (by omega)
      have hn : Hid (UInt8.ofNat (48 + u) :: s = r) := by
        show _ = _
        rw [← hI.out, digN_low (by omega)]; simp
      generalize UInt8.ofNat (48 + u) = b at *
      have hq : ¬ (9223372036854775807 : Int) < 1 + (s.length : Int) := by omega
      have hq2 : ¬ 9223372036854775807 < 1 + s.length := by omega
      go_wp2_with fail
      go_ret
      exact ⟨by rw [← hn.out]; exact congrArg (fun x => Ending.returned (.string x)) (cat_one b s), rfl⟩
theorem text_go_calls (v : Int) (h1 : -1099511627776 ≤ v) (h2 : v ≤ 1099511627776) (w : World) : Calls Tryz.prog 12 #[.int .i64 v] w fun e w' => e = .returned (strV (txt v)) ∧ w' = w := by
  by_cases hv : v < 0
  · have hc := textPos_calls (-v).toNat (by omega) w
    have hl := digN_len (v := (-v).toNat) (by omega)
    rw [show (((-v).toNat : Nat) : Int) = -v by omega] at hc
    unfold txt
    rw [if_pos hv]
    generalize digN (-v).toNat = l at *
    have hq : ¬ 9223372036854775807 < 1 + l.length := by omega
    go_enter Tryz.func12, Tryz.ntmps12
    go_wp2_with fail
    refine hc.mono ?_
    rintro e w1 ⟨rfl, rfl⟩
    clear hc
    simp only [strV]
    go_wp2_with fail
    go_ret
    exact ⟨congrArg (fun x => Ending.returned (.string x)) (cat_one 45 l), rfl⟩
  · have hc := textPos_calls v.toNat (by omega) w
    rw [show ((v.toNat : Nat) : Int) = v by omega] at hc
    unfold txt
    rw [if_neg hv]
    exact hc
end Sy
end Go.Proofs.YthoealembhkaoaaGreatDoor
