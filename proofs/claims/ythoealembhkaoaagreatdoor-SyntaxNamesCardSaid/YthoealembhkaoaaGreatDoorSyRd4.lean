import Derived.Test.YthoealembhkaoaaGreatDoorSyRd3
namespace Go.Proofs.YthoealembhkaoaaGreatDoor
open Go.RowKit
namespace Sy
set_option linter.unusedVariables false

def escapable : ByteArray := ⟨#[34, 43, 44, 59, 60, 62, 92, 61, 35, 32]⟩
def special : ByteArray := ⟨#[34, 43, 44, 59, 60, 62, 92]⟩
def byteOf (a b : Int) : UInt8 := UInt8.ofNat (16 * a + b).toNat
/-- What stands behind a backslash. -/
def escR : List UInt8 → Option (UInt8 × List UInt8)
  | [] => none
  | c :: l => if escapable.data.toList.contains c then some (c, l) else
    match l with
    | [] => none
    | d :: l' => if digit c.toNat < 0 ∨ digit d.toNat < 0 then none else some (byteOf (digit c.toNat) (digit d.toNat), l')
theorem escR_cons (c : UInt8) (l : List UInt8) : escR (c :: l) = if escapable.data.toList.contains c then some (c, l) else
    match l with
    | [] => none
    | d :: l' => if digit c.toNat < 0 ∨ digit d.toNat < 0 then none else some (byteOf (digit c.toNat) (digit d.toNat), l') := rfl
def byteV (b : UInt8) : Value := .int .u8 (b.toNat : Int)

theorem indexByte_has (l : List UInt8) (b : UInt8) : (0 ≤ Lib.indexByte l b) ↔ l.contains b = true := by
  induction l with
  | nil => simp [Lib.indexByte]
  | cons a l ih =>
    unfold Lib.indexByte
    have hg := Lib.indexByte_ge l b
    by_cases h : a = b
    · subst h; simp
    · have h1 : (a == b) = false := by simpa using h
      have h2 : (b == a) = false := by rw [beq_eq_false_iff_ne]; exact fun e => h e.symm
      simp only [h1, Bool.false_eq_true, if_false, List.contains_cons, h2, Bool.false_or]
      rw [← ih]
      split
      · rename_i h3; have := beq_iff_eq.1 h3; omega
      · rename_i h3; have : ¬ Lib.indexByte l b = -1 := by simpa using h3
        omega
theorem indexByte_calls (s : ByteArray) (b : UInt8) (w : World) :
    Calls Tryz.prog 186 #[.string s, .int .u8 (b.toNat : Int)] w fun e w' => e = .returned (.int .i64 (Lib.indexByte s.data.toList b)) ∧ w' = w := by
  have := Tryz.strings_IndexByte s (b.toNat : Int) w
  simpa using this

theorem rd_place (s : ByteArray) {i k : Nat} (h : i + k < s.size) : rest s (i + k) = s[i + k] :: rest s (i + k + 1) := rest_lt h

set_option maxRecDepth 100000 in
set_option maxHeartbeats 2000000 in
theorem escape_calls (w : World) (B : Nat) (s : ByteArray) (i : Nat) (hr : Rd w B s i) (hi : i < s.size) (hs : s.size < 4294967281) :
    Calls Tryz.prog 189 #[.pointer (some ⟨B, 0, none⟩)] w (Reads B s byteV (escR (rest s (i + 1))) w) := by
  have hR := Lib.hid hr
  have c0 := hr.c0
  have c1 := hr.c1
  have f1 := hr.f1
  clear hr
  obtain ⟨r, hr⟩ : ∃ r, escR (rest s (i + 1)) = r := ⟨_, rfl⟩
  rw [hr]
  have Hr := Lib.hid hr
  clear hr
  by_cases h1 : i + 1 < s.size
  · have Hrt := Lib.hid (rest_lt h1)
    by_cases hc : escapable.data.toList.contains (s[i + 1]'h1) = true
    · have Hr' : Hid (r = some (s[i + 1]'h1, rest s (i + 2))) := by
        show r = _
        rw [← Hr.out, Hrt.out]
        rw [escR_cons, if_pos hc]
      have hx : 0 ≤ Lib.indexByte escapable.data.toList (s[i + 1]'h1) := (indexByte_has _ _).2 hc
      have hIB := fun W => indexByte_calls escapable (s[i + 1]'h1) W
      generalize Lib.indexByte escapable.data.toList (s[i + 1]'h1) = x at *
      clear hc
      have q0 : (i : Int) + 1 < (s.size : Int) := by omega
      have n1 : IntKind.i64.wrap ((i : Int) + 1) = (i : Int) + 1 := IntWalk.i64_in _ (by omega)
      have n2 : (0 : Int) ≤ (i : Int) + 1 := by omega
      have n3 : ((i : Int) + 1).toNat = i + 1 := by omega
      go_enter Tryz.func189, Tryz.ntmps189
      go_wp2
      go_quiet ((go_at_call 186; exact Calls.quiet_of_same (hIB _)))
      clear n1 hIB
      go_wp2_with fail
      have m1 : IntKind.i64.wrap ((i : Int) + 2 - 1) = (i : Int) + 1 := by rw [show (i : Int) + 2 - 1 = (i : Int) + 1 by omega]; exact IntWalk.i64_in _ (by omega)
      go_quiet (fail)
      clear m1
      go_wp2_with fail
      go_ret
      exact reads_some (enc := byteV) Hr'.out ⟨i + 2, by omega, rfl, ((hR.out.drewN _).setCell (i + 2)).drewN _, (((Gr.refl B w).drewN _).setCell _ _).drewN _⟩
    · have hc' : escapable.data.toList.contains (s[i + 1]'h1) = false := by simpa using hc
      have hx : Lib.indexByte escapable.data.toList (s[i + 1]'h1) < 0 := by
        rcases Int.lt_or_le (Lib.indexByte escapable.data.toList (s[i + 1]'h1)) 0 with h | h
        · exact h
        · exact absurd ((indexByte_has _ _).1 h) hc
      have hIB := fun W => indexByte_calls escapable (s[i + 1]'h1) W
      generalize Lib.indexByte escapable.data.toList (s[i + 1]'h1) = x at *
      have q0 : (i : Int) + 1 < (s.size : Int) := by omega
      by_cases h2 : i + 2 < s.size
      · have Hrt2 := Lib.hid (rest_lt h2)
        have Hr' : Hid (r = if digit ((s[i + 1]'h1).toNat : Int) < 0 ∨ digit ((s[i + 2]'h2).toNat : Int) < 0 then none else some (byteOf (digit ((s[i + 1]'h1).toNat : Int)) (digit ((s[i + 2]'h2).toNat : Int)), rest s (i + 3))) := by
          show r = _
          rw [← Hr.out, Hrt.out, escR_cons, if_neg hc, Hrt2.out]
        clear hc hc'
        have q2 : (i : Int) + 2 < (s.size : Int) := by omega
        have n2 : (0 : Int) ≤ (i : Int) + 1 := by omega
        have n3 : ((i : Int) + 1).toNat = i + 1 := by omega
        have n4 : (0 : Int) ≤ (i : Int) + 2 := by omega
        have n5 : ((i : Int) + 2).toNat = i + 2 := by omega
        have hd0 := digit_lt ((s[i + 1]'h1).toNat : Int)
        have hd1 := digit_lt ((s[i + 2]'h2).toNat : Int)
        have n1 : IntKind.i64.wrap ((i : Int) + 1) = (i : Int) + 1 := IntWalk.i64_in _ (by omega)
        have n6 : IntKind.i64.wrap ((i : Int) + 2) = (i : Int) + 2 := IntWalk.i64_in _ (by omega)
        go_enter Tryz.func189, Tryz.ntmps189
        go_wp2
        go_quiet ((go_at_call 186; exact Calls.quiet_of_same (hIB _)))
        go_wp2_with fail
        have Ra := Lib.hid (hR.out.drewN nq)
        have Ga := Lib.hid ((Gr.refl B w).drewN nq)
        generalize hwa : w.drewN nq = wa at Ra Ga ⊢
        clear hwa c0 c1 f1
        have c0 := Ra.out.c0
        have c1 := Ra.out.c1
        have f1 := Ra.out.f1
        go_quiet (fail)
        go_wp2_with fail
        have Rb := Lib.hid (Ra.out.drewN nq)
        have Gb := Lib.hid (Ga.out.drewN nq)
        generalize hwb : wa.drewN nq = wb at Rb Gb ⊢
        clear hwb c0 c1 f1
        have c0 := Rb.out.c0
        have c1 := Rb.out.c1
        have f1 := Rb.out.f1
        go_quiet ((go_at_call 199; exact digit_quiet _ _ _ (Int.natCast_nonneg _) (byte_le _)))
        generalize s[i + 1]'h1 = a at *
        generalize s[i + 2]'h2 = b at *
        clear n1 n6 hIB n2 n3 n4 n5
        by_cases hbad : digit (a.toNat : Int) < 0 ∨ digit (b.toNat : Int) < 0
        · have Hn : Hid (r = none) := by
            show r = none
            rw [Hr'.out, if_pos hbad]
          go_wp2_with fail
          all_goals first
            | (exfalso; omega)
            | exact ⟨rfl, reads_none Hn.out (Gb.out.drewN _)⟩
        · have Hs : Hid (r = some (byteOf (digit (a.toNat : Int)) (digit (b.toNat : Int)), rest s (i + 3))) := by
            show r = _
            rw [Hr'.out, if_neg hbad]
          have hd2 : 0 ≤ digit (a.toNat : Int) := by omega
          have hd3 : 0 ≤ digit (b.toNat : Int) := by omega
          have hor := or_digits _ _ hd2 hd0.2 hd3 hd1.2
          have Hv : Hid (((byteOf (digit (a.toNat : Int)) (digit (b.toNat : Int))).toNat : Int) = 16 * digit (a.toNat : Int) + digit (b.toNat : Int)) := by
            show _ = _
            simp [byteOf]; omega
          clear hbad
          go_wp2_with fail
          go_ret
          have := reads_some (enc := byteV) (w := w) (B := B) Hs.out (w' := (wb.drewN nq).setCell ⟨B, 1, none⟩ (.int .i64 ((i + 3 : Nat) : Int))) ⟨i + 3, by omega, rfl, (Rb.out.drewN _).setCell (i + 3), (Gb.out.drewN _).setCell _ _⟩
          unfold byteV at this
          rw [Hv.out] at this
          exact this
      · have Hr' : Hid (r = none) := by
          show r = _
          rw [← Hr.out, Hrt.out, escR_cons, if_neg hc, rest_ge (by omega)]
        clear hc hc'
        have n2 : (0 : Int) ≤ (i : Int) + 1 := by omega
        have n3 : ((i : Int) + 1).toNat = i + 1 := by omega
        have n1 : IntKind.i64.wrap ((i : Int) + 1) = (i : Int) + 1 := IntWalk.i64_in _ (by omega)
        have n6 : IntKind.i64.wrap ((i : Int) + 2) = (i : Int) + 2 := IntWalk.i64_in _ (by omega)
        have n7 : (s.size : Int) ≤ (i : Int) + 2 := by omega
        go_enter Tryz.func189, Tryz.ntmps189
        go_wp2
        go_quiet ((go_at_call 186; exact Calls.quiet_of_same (hIB _)))
        go_wp2_with fail
        have Ra := Lib.hid (hR.out.drewN nq)
        have Ga := Lib.hid ((Gr.refl B w).drewN nq)
        generalize hwa : w.drewN nq = wa at Ra Ga ⊢
        clear hwa c0 c1 f1
        have c0 := Ra.out.c0
        have c1 := Ra.out.c1
        go_quiet (fail)
        go_wp2_with fail
        exact ⟨rfl, reads_none Hr'.out (Ga.out.drewN _)⟩
  · have Hr' : Hid (r = none) := by
      show r = _
      rw [← Hr.out, rest_ge (by omega)]; rfl
    have n1 : IntKind.i64.wrap ((i : Int) + 1) = (i : Int) + 1 := IntWalk.i64_in _ (by omega)
    have n6 : IntKind.i64.wrap ((i : Int) + 2) = (i : Int) + 2 := IntWalk.i64_in _ (by omega)
    have n7 : (s.size : Int) ≤ (i : Int) + 1 := by omega
    have n8 : decide ((i : Int) + 1 < (s.size : Int)) = false := by simpa using n7
    have n9 : (s.size : Int) ≤ (i : Int) + 2 := by omega
    go_enter Tryz.func189, Tryz.ntmps189
    go_wp2
    go_quiet (fail)
    go_wp2_with fail
    have Ra := Lib.hid (hR.out.drewN nq)
    have Ga := Lib.hid ((Gr.refl B w).drewN nq)
    generalize hwa : w.drewN nq = wa at Ra Ga ⊢
    clear hwa c0 c1 f1
    have c0 := Ra.out.c0
    have c1 := Ra.out.c1
    go_quiet (fail)
    go_wp2_with fail
    exact ⟨rfl, reads_none Hr'.out (Ga.out.drewN _)⟩
end Sy
end Go.Proofs.YthoealembhkaoaaGreatDoor
