import Derived.Test.YthoealembhkaoaaGreatDoorSyFun
namespace Go.Proofs.YthoealembhkaoaaGreatDoor
open Go.RowKit
namespace Sy
set_option linter.unusedVariables false

def isAscii (l : List UInt8) : Bool := l.all fun b => decide (b.toNat < 128)
set_option maxHeartbeats 1000000 in
theorem isASCII_calls (s : ByteArray) (w : World) (hs : s.size ≤ 9223372036854775807) :
    Calls Tryz.prog 35 #[.string s] w fun e w' => e = .returned (.bool (isAscii s.data.toList)) ∧ w' = w := by
  obtain ⟨r, hr⟩ : ∃ r, isAscii s.data.toList = r := ⟨_, rfl⟩
  rw [hr]
  have Hr := Lib.hid hr
  clear hr
  go_enter Tryz.func35, Tryz.ntmps35
  go_wp2_with fail
  go_loopg [6] s.size (fun k iv wr => (∃ i : Nat, i ≤ s.size ∧ s.size - i ≤ k ∧ iv = .int .i64 i ∧ Hid (isAscii (rest s i) = r)) ∧ wr = w)
  case atStart => exact ⟨⟨0, Nat.zero_le _, Nat.le_refl _, rfl, Hr.out⟩, rfl⟩
  case round =>
    obtain ⟨⟨i, hi, hk, rfl, hI⟩, rfl⟩ := hrel
    by_cases hlt : i < s.size
    · have Hrt := Lib.hid (rest_lt hlt)
      by_cases hc : (128 : Int) ≤ (s[i].toNat : Int)
      · have Hn : Hid (r = false) := by
          show r = _
          rw [← hI.out, Hrt.out]
          have : ¬ s[i].toNat < 128 := by omega
          simp [isAscii, this]
        go_wp2_with fail
        go_ret
        exact ⟨by rw [Hn.out]; rfl, rfl⟩
      · have Hn : Hid (isAscii (rest s (i + 1)) = r) := by
          show _ = r
          rw [← hI.out, Hrt.out]
          have : s[i].toNat < 128 := by omega
          simp [isAscii, this]
        go_wp2_with fail
        go_roundg (s.size - (i + 1))
        case measure => omega
        case rel => exact ⟨⟨i + 1, by omega, Nat.le_refl _, by go_num, Hn.out⟩, rfl⟩
    · have Hn : Hid (r = true) := by
        show r = _
        rw [← hI.out, rest_ge (by omega)]; rfl
      go_wp2_with fail
      go_ret
      exact ⟨by rw [Hn.out]; rfl, rfl⟩

/-- A whole number's text. -/
def isInt (l : List UInt8) : Bool :=
  let n := Lib.trimPrefix l [45]
  digits n && decide (n.length ≤ 40) && (!(n.head? == some 48) || (n == [48] && !Lib.hasPrefix l [45]))
set_option maxHeartbeats 1000000 in
theorem isInteger_calls (s : ByteArray) (w : World) (hs : s.size ≤ 9223372036854775807) :
    Calls Tryz.prog 36 #[.string s] w fun e w' => e = .returned (.bool (isInt s.data.toList)) ∧ Below w.heap.size w w' := by
  have hc := Tryz.strings_CutPrefix s ⟨#[45]⟩ w
  simp only at hc
  have hl : (Lib.trimPrefix s.data.toList [45]).length ≤ s.size := by
    have : s.data.toList.length = s.size := by simp
    unfold Lib.trimPrefix
    split
    · simp
    · omega
  unfold isInt
  generalize hpre : Lib.hasPrefix s.data.toList [45] = pre at *
  generalize hn : Lib.trimPrefix s.data.toList [45] = n at *
  clear hn hpre
  have hd := fun W => isDigits_calls ⟨n.toArray⟩ W (by show n.toArray.size ≤ _; simp; omega)
  simp only at hd
  obtain ⟨b, hb⟩ : ∃ b, digits n = b := ⟨_, rfl⟩
  rw [hb] at hd
  simp only [hb]
  cases b with
  | false =>
    clear hb
    go_enter Tryz.func36, Tryz.ntmps36
    go_wp2_with fail
    refine hc.mono ?_
    rintro e w1 ⟨rfl, rfl⟩
    clear hc
    go_wp2_with fail
    refine (hd _).mono ?_
    rintro e w2 ⟨rfl, hb2⟩
    clear hd
    go_wp2_with fail
    go_ret
    exact ⟨ret_bool (by simp), hb2⟩
  | true =>
    rcases n with _ | ⟨c, n⟩
    · simp [digits] at hb
    by_cases h40 : (c :: n).length ≤ 40
    · have q40 : ¬ (40 : Int) < ((c :: n).length : Int) := by omega
      go_enter Tryz.func36, Tryz.ntmps36
      go_wp2_with fail
      refine hc.mono ?_
      rintro e w1 ⟨rfl, rfl⟩
      clear hc
      go_wp2_with fail
      refine (hd _).mono ?_
      rintro e w2 ⟨rfl, hb2⟩
      clear hd
      have h4 : n.length + 1 ≤ 40 := by simpa using h40
      have hg : ∀ h, (⟨(c :: n).toArray⟩ : ByteArray)[0]'h = c := fun _ => rfl
      go_wp2_with fail
      · rename_i _ h5 h6
        go_ret
        refine ⟨ret_bool ?_, hb2⟩
        simp [h6.1, h6.2]
      · rename_i _ h5 h6
        have h7 : c = 48 := u8_eq (n := 48) (by omega) (by simpa [hg] using h5)
        have h8 : ¬ n = [] := fun h => h6 ⟨h7, h⟩
        go_ret
        refine ⟨ret_bool ?_, hb2⟩
        simp [h4, h7, h8]
      · rename_i _ h5
        have h7 : ¬ c = 48 := fun h => h5 (by first | (rw [hg, h]; rfl) | (rw [h]; rfl))
        go_ret
        refine ⟨ret_bool ?_, hb2⟩
        simp [h4, h7]
    · have q40 : (40 : Int) < (n.length : Int) + 1 := by simp at h40; omega
      go_enter Tryz.func36, Tryz.ntmps36
      go_wp2_with fail
      refine hc.mono ?_
      rintro e w1 ⟨rfl, rfl⟩
      clear hc
      go_wp2_with fail
      refine (hd _).mono ?_
      rintro e w2 ⟨rfl, hb2⟩
      clear hd
      go_wp2_with fail
      go_ret
      exact ⟨ret_bool (by have h4 : ¬ n.length + 1 ≤ 40 := by simpa using h40
                          simp [h4]), hb2⟩
end Sy
end Go.Proofs.YthoealembhkaoaaGreatDoor
