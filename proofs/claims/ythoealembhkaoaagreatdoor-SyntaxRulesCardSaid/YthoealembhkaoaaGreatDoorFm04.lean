import Derived.Test.YthoealembhkaoaaGreatDoorFm03
namespace Go.Proofs.YthoealembhkaoaaGreatDoor
open Go.RowKit
namespace Sy
set_option linter.unusedVariables false

def hexB (b : UInt8) : Bool := decide (0 ≤ digit (b.toNat : Int))
/-- A value of digits, behind its '#'. -/
def someBytes : Option (List UInt8) → List UInt8 → Option (List UInt8 × List UInt8)
  | some (a :: b), l => some (a :: b, l)
  | _, _ => none
def hexR (l : List UInt8) : Option (List UInt8 × List UInt8) := someBytes (unhex (l.takeWhile hexB)) (l.dropWhile hexB)

set_option maxRecDepth 100000 in
set_option maxHeartbeats 2000000 in
theorem hex_calls (w : World) (B : Nat) (s : ByteArray) (i : Nat) (hr : Rd w B s i) (hi : i < s.size) (hs : s.size < 4294967281) :
    Calls Tryz.prog 188 #[.pointer (some ⟨B, 0, none⟩)] w (Reads B s strV (hexR (rest s (i + 1))) w) := by
  have hR := Lib.hid hr
  have h1 := hr.c1
  have hf := hr.f1
  clear hr
  obtain ⟨m, hm⟩ : ∃ m, i + 1 = m := ⟨_, rfl⟩
  rw [hm]
  have hms : m ≤ s.size := by omega
  obtain ⟨r, hr⟩ : ∃ r, hexR (rest s m) = r := ⟨_, rfl⟩
  rw [hr]
  have Hr := Lib.hid hr
  clear hr
  have e : ((i : Int) + 1) = (m : Int) := by omega
  have E := Lib.hid e
  have HR1 : Hid (Rd (w.setCell ⟨B, 1, none⟩ (.int .i64 (m : Int))) B s m) := hR.out.setCell m
  have HG1 : Hid (Gr B w (w.setCell ⟨B, 1, none⟩ (.int .i64 (m : Int)))) := (Gr.refl B w).setCell _ _
  clear e hm
  go_enter Tryz.func188, Tryz.ntmps188
  go_wp2
  clear h1 hf
  simp only [E.out]
  obtain ⟨w1, hw1⟩ : ∃ w1, w1 = w.setCell ⟨B, 1, none⟩ (.int .i64 (m : Int)) := ⟨_, rfl⟩
  rw [← hw1] at HR1 HG1 ⊢
  clear hw1 E hi
  go_loopg [] (s.size - m) (fun k wr => ∃ j : Nat, m ≤ j ∧ j ≤ s.size ∧ s.size - j ≤ k ∧ Hid ((rest s m).takeWhile hexB = (s.extract m j).data.toList ++ (rest s j).takeWhile hexB) ∧ Hid ((rest s m).dropWhile hexB = (rest s j).dropWhile hexB) ∧ Hid (Rd wr B s j) ∧ Hid (Gr B w wr))
  case atStart => exact ⟨m, Nat.le_refl _, hms, Nat.le_refl _, by show _ = _; simp, rfl, HR1, HG1⟩
  case round =>
    obtain ⟨j, hij, hj, hk, ht, hd, hRj, hG⟩ := hrel
    have c0 := hRj.out.c0
    have c1 := hRj.out.c1
    have f1 := hRj.out.f1
    by_cases hgo : ∃ hlt : j < s.size, 0 ≤ digit ((s[j]'hlt).toNat : Int)
    · obtain ⟨hlt, hty⟩ := hgo
      have q1 : ((j : Int) == (s.size : Int)) = false := by rw [beq_eq_false_iff_ne]; omega
      have Hrl := Lib.hid (rest_lt hlt)
      have Hx := Lib.hid (extract_snoc hij hlt)
      go_wp2_with fail
      go_quiet ((first | (go_at_call 112; exact Calls.quiet_of (ended_calls _ _ _ _ (hRj.out.drewN _))) | (go_at_call 199; exact digit_quiet _ _ _ (Int.natCast_nonneg _) (byte_le _))))
      go_wp2_with fail
      go_roundg (s.size - (j + 1))
      case measure => omega
      case rel =>
        refine ⟨j + 1, by omega, by omega, Nat.le_refl _, ?_, ?_, (hRj.out.drewN _).setCell (j + 1), (hG.out.drewN _).setCell _ _⟩
        · show _ = _
          rw [ht.out, Hrl.out, Hx.out, List.takeWhile_cons_of_pos (by simpa [hexB] using hty)]; simp
        · show _ = _
          rw [hd.out, Hrl.out, List.dropWhile_cons_of_pos (by simpa [hexB] using hty)]
    · obtain ⟨u, hu⟩ : ∃ u, unhex (s.extract m j).data.toList = u := ⟨_, rfl⟩
      have Hend : Hid (r = someBytes u (rest s j)) := by
        show r = _
        rw [← Hr.out, ← hu]; unfold hexR
        rw [ht.out, hd.out]
        by_cases hlt : j < s.size
        · have hty : ¬ hexB s[j] = true := fun h => hgo ⟨hlt, by simpa [hexB] using h⟩
          rw [rest_lt hlt, List.takeWhile_cons_of_neg hty, List.dropWhile_cons_of_neg hty]; simp
        · rw [rest_ge (by omega)]; simp
      have hxs : (s.extract m j).size ≤ s.size := by simp [ByteArray.size_extract]; omega
      have Hq : Hid (∀ x : ByteArray, x = s.extract m j → ∀ W, Calls Tryz.prog 200 #[.string x] W fun e w' => e = .returned (unhexV u) ∧ Below W.heap.size W w') := by
        intro x hx W
        rw [← hu, ← hx]
        exact unhex_calls x W (by rw [hx]; omega)
      clear hxs hu
      have hx1 : ∀ hlt : j < s.size, digit ((s[j]'hlt).toNat : Int) < 0 := fun hlt => by
        rcases Int.lt_or_le (digit ((s[j]'hlt).toNat : Int)) 0 with h | h
        · exact h
        · exact absurd ⟨hlt, h⟩ hgo
      have Hx1 := Lib.hid hx1
      clear hgo hx1
      rcases u with _ | _ | ⟨a, b⟩
      · have Hq' : Hid (∀ x : ByteArray, x = s.extract m j → ∀ W, Calls Tryz.prog 200 #[.string x] W fun e w' => e = .returned (.tuple #[.string ⟨#[]⟩, .int .i64 11]) ∧ Below W.heap.size W w') := Hq
        clear Hq
        rcases Nat.lt_or_ge j s.size with hlt | hlt
        · have hty' := Hx1.out hlt
          have q1 : ((j : Int) == (s.size : Int)) = false := by rw [beq_eq_false_iff_ne]; omega
          go_wp2_with fail
          go_quiet ((first | (go_at_call 112; exact Calls.quiet_of (ended_calls _ _ _ _ (hRj.out.drewN _))) | (go_at_call 199; exact digit_quiet _ _ _ (Int.natCast_nonneg _) (byte_le _))))
          go_wp2_with fail
          have g0 := fun d os => grw_cell (w := wr.drewN nq) (a := ⟨B, 0, none⟩) c0 d os
          have g1 := fun d os => grw_cell (w := wr.drewN nq) (a := ⟨B, 1, none⟩) c1 d os
          refine region_below (by kernel_rfl) (by kernel_rfl) ?_
          repeat (quiet_step ((go_at_call 200; exact quiet_below (Hq'.out _ rfl _))))
          refine wpQuiet_nil ?_
          rintro w2 ⟨p, hp⟩
          have hb2 : Below (wr.drewN nq).heap.size (wr.drewN nq) w2 := by rw [hp]; exact grw_below _ _ _
          clear hp g0 g1
          go_wp2
          exact ⟨rfl, reads_none Hend.out ((hG.out.drewN nq).trans (Gr.of_below B hb2))⟩
        · have q1 : ((j : Int) == (s.size : Int)) = true := by rw [beq_iff_eq]; omega
          go_wp2_with fail
          go_quiet ((first | (go_at_call 112; exact Calls.quiet_of (ended_calls _ _ _ _ (hRj.out.drewN _))) | (go_at_call 199; exact digit_quiet _ _ _ (Int.natCast_nonneg _) (byte_le _))))
          go_wp2_with fail
          have g0 := fun d os => grw_cell (w := wr.drewN nq) (a := ⟨B, 0, none⟩) c0 d os
          have g1 := fun d os => grw_cell (w := wr.drewN nq) (a := ⟨B, 1, none⟩) c1 d os
          refine region_below (by kernel_rfl) (by kernel_rfl) ?_
          repeat (quiet_step ((go_at_call 200; exact quiet_below (Hq'.out _ rfl _))))
          refine wpQuiet_nil ?_
          rintro w2 ⟨p, hp⟩
          have hb2 : Below (wr.drewN nq).heap.size (wr.drewN nq) w2 := by rw [hp]; exact grw_below _ _ _
          clear hp g0 g1
          go_wp2
          exact ⟨rfl, reads_none Hend.out ((hG.out.drewN nq).trans (Gr.of_below B hb2))⟩
      · have Hq' : Hid (∀ x : ByteArray, x = s.extract m j → ∀ W, Calls Tryz.prog 200 #[.string x] W fun e w' => e = .returned (.tuple #[.string ⟨#[]⟩, .int .i64 0]) ∧ Below W.heap.size W w') := Hq
        clear Hq
        rcases Nat.lt_or_ge j s.size with hlt | hlt
        · have hty' := Hx1.out hlt
          have q1 : ((j : Int) == (s.size : Int)) = false := by rw [beq_eq_false_iff_ne]; omega
          go_wp2_with fail
          go_quiet ((first | (go_at_call 112; exact Calls.quiet_of (ended_calls _ _ _ _ (hRj.out.drewN _))) | (go_at_call 199; exact digit_quiet _ _ _ (Int.natCast_nonneg _) (byte_le _))))
          go_wp2_with fail
          have g0 := fun d os => grw_cell (w := wr.drewN nq) (a := ⟨B, 0, none⟩) c0 d os
          have g1 := fun d os => grw_cell (w := wr.drewN nq) (a := ⟨B, 1, none⟩) c1 d os
          refine region_below (by kernel_rfl) (by kernel_rfl) ?_
          repeat (quiet_step ((go_at_call 200; exact quiet_below (Hq'.out _ rfl _))))
          refine wpQuiet_nil ?_
          rintro w2 ⟨p, hp⟩
          have hb2 : Below (wr.drewN nq).heap.size (wr.drewN nq) w2 := by rw [hp]; exact grw_below _ _ _
          clear hp g0 g1
          go_wp2
          exact ⟨rfl, reads_none Hend.out ((hG.out.drewN nq).trans (Gr.of_below B hb2))⟩
        · have q1 : ((j : Int) == (s.size : Int)) = true := by rw [beq_iff_eq]; omega
          go_wp2_with fail
          go_quiet ((first | (go_at_call 112; exact Calls.quiet_of (ended_calls _ _ _ _ (hRj.out.drewN _))) | (go_at_call 199; exact digit_quiet _ _ _ (Int.natCast_nonneg _) (byte_le _))))
          go_wp2_with fail
          have g0 := fun d os => grw_cell (w := wr.drewN nq) (a := ⟨B, 0, none⟩) c0 d os
          have g1 := fun d os => grw_cell (w := wr.drewN nq) (a := ⟨B, 1, none⟩) c1 d os
          refine region_below (by kernel_rfl) (by kernel_rfl) ?_
          repeat (quiet_step ((go_at_call 200; exact quiet_below (Hq'.out _ rfl _))))
          refine wpQuiet_nil ?_
          rintro w2 ⟨p, hp⟩
          have hb2 : Below (wr.drewN nq).heap.size (wr.drewN nq) w2 := by rw [hp]; exact grw_below _ _ _
          clear hp g0 g1
          go_wp2
          exact ⟨rfl, reads_none Hend.out ((hG.out.drewN nq).trans (Gr.of_below B hb2))⟩
      · have Hq' : Hid (∀ x : ByteArray, x = s.extract m j → ∀ W, Calls Tryz.prog 200 #[.string x] W fun e w' => e = .returned (.tuple #[.string ⟨(a :: b).toArray⟩, .int .i64 0]) ∧ Below W.heap.size W w') := Hq
        clear Hq
        rcases Nat.lt_or_ge j s.size with hlt | hlt
        · have hty' := Hx1.out hlt
          have q1 : ((j : Int) == (s.size : Int)) = false := by rw [beq_eq_false_iff_ne]; omega
          go_wp2_with fail
          go_quiet ((first | (go_at_call 112; exact Calls.quiet_of (ended_calls _ _ _ _ (hRj.out.drewN _))) | (go_at_call 199; exact digit_quiet _ _ _ (Int.natCast_nonneg _) (byte_le _))))
          go_wp2_with fail
          have g0 := fun d os => grw_cell (w := wr.drewN nq) (a := ⟨B, 0, none⟩) c0 d os
          have g1 := fun d os => grw_cell (w := wr.drewN nq) (a := ⟨B, 1, none⟩) c1 d os
          refine region_below (by kernel_rfl) (by kernel_rfl) ?_
          repeat (quiet_step ((go_at_call 200; exact quiet_below (Hq'.out _ rfl _))))
          refine wpQuiet_nil ?_
          rintro w2 ⟨p, hp⟩
          have hb2 : Below (wr.drewN nq).heap.size (wr.drewN nq) w2 := by rw [hp]; exact grw_below _ _ _
          clear hp g0 g1
          go_wp2
          go_ret
          exact reads_some (enc := strV) Hend.out ⟨j, hj, rfl, (hRj.out.drewN nq).below hb2, ((hG.out.drewN nq).trans (Gr.of_below B hb2))⟩
        · have q1 : ((j : Int) == (s.size : Int)) = true := by rw [beq_iff_eq]; omega
          go_wp2_with fail
          go_quiet ((first | (go_at_call 112; exact Calls.quiet_of (ended_calls _ _ _ _ (hRj.out.drewN _))) | (go_at_call 199; exact digit_quiet _ _ _ (Int.natCast_nonneg _) (byte_le _))))
          go_wp2_with fail
          have g0 := fun d os => grw_cell (w := wr.drewN nq) (a := ⟨B, 0, none⟩) c0 d os
          have g1 := fun d os => grw_cell (w := wr.drewN nq) (a := ⟨B, 1, none⟩) c1 d os
          refine region_below (by kernel_rfl) (by kernel_rfl) ?_
          repeat (quiet_step ((go_at_call 200; exact quiet_below (Hq'.out _ rfl _))))
          refine wpQuiet_nil ?_
          rintro w2 ⟨p, hp⟩
          have hb2 : Below (wr.drewN nq).heap.size (wr.drewN nq) w2 := by rw [hp]; exact grw_below _ _ _
          clear hp g0 g1
          go_wp2
          go_ret
          exact reads_some (enc := strV) Hend.out ⟨j, hj, rfl, (hRj.out.drewN nq).below hb2, ((hG.out.drewN nq).trans (Gr.of_below B hb2))⟩
end Sy
end Go.Proofs.YthoealembhkaoaaGreatDoor
namespace Go.Proofs.YthoealembhkaoaaGreatDoor
open Go.RowKit
namespace Sy
set_option linter.unusedVariables false

def escapable : ByteArray := ⟨#[34, 43, 44, 59, 60, 62, 92, 61, 35, 32]⟩
def special : ByteArray := ⟨#[34, 43, 44, 59, 60, 62, 92]⟩
def byteOf (a b : Int) : UInt8 := UInt8.ofNat (16 * a + b).toNat
/-- What stands behind a backslash. -/
def escR : List UInt8 → Option (UInt8 × List UInt8)
  | [] => none
  | c :: l => if escapable.data.toList.contains c then some (c, l) else
    match l with
    | [] => none
    | d :: l' => if digit c.toNat < 0 ∨ digit d.toNat < 0 then none else some (byteOf (digit c.toNat) (digit d.toNat), l')
theorem escR_cons (c : UInt8) (l : List UInt8) : escR (c :: l) = if escapable.data.toList.contains c then some (c, l) else
    match l with
    | [] => none
    | d :: l' => if digit c.toNat < 0 ∨ digit d.toNat < 0 then none else some (byteOf (digit c.toNat) (digit d.toNat), l') := rfl
def byteV (b : UInt8) : Value := .int .u8 (b.toNat : Int)

theorem indexByte_has (l : List UInt8) (b : UInt8) : (0 ≤ Lib.indexByte l b) ↔ l.contains b = true := by
  induction l with
  | nil => simp [Lib.indexByte]
  | cons a l ih =>
    unfold Lib.indexByte
    have hg := Lib.indexByte_ge l b
    by_cases h : a = b
    · subst h; simp
    · have h1 : (a == b) = false := by simpa using h
      have h2 : (b == a) = false := by rw [beq_eq_false_iff_ne]; exact fun e => h e.symm
      simp only [h1, Bool.false_eq_true, if_false, List.contains_cons, h2, Bool.false_or]
      rw [← ih]
      split
      · rename_i h3; have := beq_iff_eq.1 h3; omega
      · rename_i h3; have : ¬ Lib.indexByte l b = -1 := by simpa using h3
        omega
theorem indexByte_calls (s : ByteArray) (b : UInt8) (w : World) :
    Calls Tryz.prog 186 #[.string s, .int .u8 (b.toNat : Int)] w fun e w' => e = .returned (.int .i64 (Lib.indexByte s.data.toList b)) ∧ w' = w := by
  have := Tryz.strings_IndexByte s (b.toNat : Int) w
  simpa using this

theorem rd_place (s : ByteArray) {i k : Nat} (h : i + k < s.size) : rest s (i + k) = s[i + k] :: rest s (i + k + 1) := rest_lt h

set_option maxRecDepth 100000 in
set_option maxHeartbeats 2000000 in
theorem escape_calls (w : World) (B : Nat) (s : ByteArray) (i : Nat) (hr : Rd w B s i) (hi : i < s.size) (hs : s.size < 4294967281) :
    Calls Tryz.prog 189 #[.pointer (some ⟨B, 0, none⟩)] w (Reads B s byteV (escR (rest s (i + 1))) w) := by
  have hR := Lib.hid hr
  have c0 := hr.c0
  have c1 := hr.c1
  have f1 := hr.f1
  clear hr
  obtain ⟨r, hr⟩ : ∃ r, escR (rest s (i + 1)) = r := ⟨_, rfl⟩
  rw [hr]
  have Hr := Lib.hid hr
  clear hr
  by_cases h1 : i + 1 < s.size
  · have Hrt := Lib.hid (rest_lt h1)
    by_cases hc : escapable.data.toList.contains (s[i + 1]'h1) = true
    · have Hr' : Hid (r = some (s[i + 1]'h1, rest s (i + 2))) := by
        show r = _
        rw [← Hr.out, Hrt.out]
        rw [escR_cons, if_pos hc]
      have hx : 0 ≤ Lib.indexByte escapable.data.toList (s[i + 1]'h1) := (indexByte_has _ _).2 hc
      have hIB := fun W => indexByte_calls escapable (s[i + 1]'h1) W
      generalize Lib.indexByte escapable.data.toList (s[i + 1]'h1) = x at *
      clear hc
      have q0 : (i : Int) + 1 < (s.size : Int) := by omega
      have n1 : IntKind.i64.wrap ((i : Int) + 1) = (i : Int) + 1 := IntWalk.i64_in _ (by omega)
      have n2 : (0 : Int) ≤ (i : Int) + 1 := by omega
      have n3 : ((i : Int) + 1).toNat = i + 1 := by omega
      go_enter Tryz.func189, Tryz.ntmps189
      go_wp2
      go_quiet ((go_at_call 186; exact Calls.quiet_of_same (hIB _)))
      clear n1 hIB
      go_wp2_with fail
      have m1 : IntKind.i64.wrap ((i : Int) + 2 - 1) = (i : Int) + 1 := by rw [show (i : Int) + 2 - 1 = (i : Int) + 1 by omega]; exact IntWalk.i64_in _ (by omega)
      go_quiet (fail)
      clear m1
      go_wp2_with fail
      go_ret
      exact reads_some (enc := byteV) Hr'.out ⟨i + 2, by omega, rfl, ((hR.out.drewN _).setCell (i + 2)).drewN _, (((Gr.refl B w).drewN _).setCell _ _).drewN _⟩
    · have hc' : escapable.data.toList.contains (s[i + 1]'h1) = false := by simpa using hc
      have hx : Lib.indexByte escapable.data.toList (s[i + 1]'h1) < 0 := by
        rcases Int.lt_or_le (Lib.indexByte escapable.data.toList (s[i + 1]'h1)) 0 with h | h
        · exact h
        · exact absurd ((indexByte_has _ _).1 h) hc
      have hIB := fun W => indexByte_calls escapable (s[i + 1]'h1) W
      generalize Lib.indexByte escapable.data.toList (s[i + 1]'h1) = x at *
      have q0 : (i : Int) + 1 < (s.size : Int) := by omega
      by_cases h2 : i + 2 < s.size
      · have Hrt2 := Lib.hid (rest_lt h2)
        have Hr' : Hid (r = if digit ((s[i + 1]'h1).toNat : Int) < 0 ∨ digit ((s[i + 2]'h2).toNat : Int) < 0 then none else some (byteOf (digit ((s[i + 1]'h1).toNat : Int)) (digit ((s[i + 2]'h2).toNat : Int)), rest s (i + 3))) := by
          show r = _
          rw [← Hr.out, Hrt.out, escR_cons, if_neg hc, Hrt2.out]
        clear hc hc'
        have q2 : (i : Int) + 2 < (s.size : Int) := by omega
        have n2 : (0 : Int) ≤ (i : Int) + 1 := by omega
        have n3 : ((i : Int) + 1).toNat = i + 1 := by omega
        have n4 : (0 : Int) ≤ (i : Int) + 2 := by omega
        have n5 : ((i : Int) + 2).toNat = i + 2 := by omega
        have hd0 := digit_lt ((s[i + 1]'h1).toNat : Int)
        have hd1 := digit_lt ((s[i + 2]'h2).toNat : Int)
        have n1 : IntKind.i64.wrap ((i : Int) + 1) = (i : Int) + 1 := IntWalk.i64_in _ (by omega)
        have n6 : IntKind.i64.wrap ((i : Int) + 2) = (i : Int) + 2 := IntWalk.i64_in _ (by omega)
        go_enter Tryz.func189, Tryz.ntmps189
        go_wp2
        go_quiet ((go_at_call 186; exact Calls.quiet_of_same (hIB _)))
        go_wp2_with fail
        have Ra := Lib.hid (hR.out.drewN nq)
        have Ga := Lib.hid ((Gr.refl B w).drewN nq)
        generalize hwa : w.drewN nq = wa at Ra Ga ⊢
        clear hwa c0 c1 f1
        have c0 := Ra.out.c0
        have c1 := Ra.out.c1
        have f1 := Ra.out.f1
        go_quiet (fail)
        go_wp2_with fail
        have Rb := Lib.hid (Ra.out.drewN nq)
        have Gb := Lib.hid (Ga.out.drewN nq)
        generalize hwb : wa.drewN nq = wb at Rb Gb ⊢
        clear hwb c0 c1 f1
        have c0 := Rb.out.c0
        have c1 := Rb.out.c1
        have f1 := Rb.out.f1
        go_quiet ((go_at_call 199; exact digit_quiet _ _ _ (Int.natCast_nonneg _) (byte_le _)))
        generalize s[i + 1]'h1 = a at *
        generalize s[i + 2]'h2 = b at *
        clear n1 n6 hIB n2 n3 n4 n5
        by_cases hbad : digit (a.toNat : Int) < 0 ∨ digit (b.toNat : Int) < 0
        · have Hn : Hid (r = none) := by
            show r = none
            rw [Hr'.out, if_pos hbad]
          go_wp2_with fail
          all_goals first
            | (exfalso; omega)
            | exact ⟨rfl, reads_none Hn.out (Gb.out.drewN _)⟩
        · have Hs : Hid (r = some (byteOf (digit (a.toNat : Int)) (digit (b.toNat : Int)), rest s (i + 3))) := by
            show r = _
            rw [Hr'.out, if_neg hbad]
          have hd2 : 0 ≤ digit (a.toNat : Int) := by omega
          have hd3 : 0 ≤ digit (b.toNat : Int) := by omega
          have hor := or_digits _ _ hd2 hd0.2 hd3 hd1.2
          have Hv : Hid (((byteOf (digit (a.toNat : Int)) (digit (b.toNat : Int))).toNat : Int) = 16 * digit (a.toNat : Int) + digit (b.toNat : Int)) := by
            show _ = _
            simp [byteOf]; omega
          clear hbad
          go_wp2_with fail
          go_ret
          have := reads_some (enc := byteV) (w := w) (B := B) Hs.out (w' := (wb.drewN nq).setCell ⟨B, 1, none⟩ (.int .i64 ((i + 3 : Nat) : Int))) ⟨i + 3, by omega, rfl, (Rb.out.drewN _).setCell (i + 3), (Gb.out.drewN _).setCell _ _⟩
          unfold byteV at this
          rw [Hv.out] at this
          exact this
      · have Hr' : Hid (r = none) := by
          show r = _
          rw [← Hr.out, Hrt.out, escR_cons, if_neg hc, rest_ge (by omega)]
        clear hc hc'
        have n2 : (0 : Int) ≤ (i : Int) + 1 := by omega
        have n3 : ((i : Int) + 1).toNat = i + 1 := by omega
        have n1 : IntKind.i64.wrap ((i : Int) + 1) = (i : Int) + 1 := IntWalk.i64_in _ (by omega)
        have n6 : IntKind.i64.wrap ((i : Int) + 2) = (i : Int) + 2 := IntWalk.i64_in _ (by omega)
        have n7 : (s.size : Int) ≤ (i : Int) + 2 := by omega
        go_enter Tryz.func189, Tryz.ntmps189
        go_wp2
        go_quiet ((go_at_call 186; exact Calls.quiet_of_same (hIB _)))
        go_wp2_with fail
        have Ra := Lib.hid (hR.out.drewN nq)
        have Ga := Lib.hid ((Gr.refl B w).drewN nq)
        generalize hwa : w.drewN nq = wa at Ra Ga ⊢
        clear hwa c0 c1 f1
        have c0 := Ra.out.c0
        have c1 := Ra.out.c1
        go_quiet (fail)
        go_wp2_with fail
        exact ⟨rfl, reads_none Hr'.out (Ga.out.drewN _)⟩
  · have Hr' : Hid (r = none) := by
      show r = _
      rw [← Hr.out, rest_ge (by omega)]; rfl
    have n1 : IntKind.i64.wrap ((i : Int) + 1) = (i : Int) + 1 := IntWalk.i64_in _ (by omega)
    have n6 : IntKind.i64.wrap ((i : Int) + 2) = (i : Int) + 2 := IntWalk.i64_in _ (by omega)
    have n7 : (s.size : Int) ≤ (i : Int) + 1 := by omega
    have n8 : decide ((i : Int) + 1 < (s.size : Int)) = false := by simpa using n7
    have n9 : (s.size : Int) ≤ (i : Int) + 2 := by omega
    go_enter Tryz.func189, Tryz.ntmps189
    go_wp2
    go_quiet (fail)
    go_wp2_with fail
    have Ra := Lib.hid (hR.out.drewN nq)
    have Ga := Lib.hid ((Gr.refl B w).drewN nq)
    generalize hwa : w.drewN nq = wa at Ra Ga ⊢
    clear hwa c0 c1 f1
    have c0 := Ra.out.c0
    have c1 := Ra.out.c1
    go_quiet (fail)
    go_wp2_with fail
    exact ⟨rfl, reads_none Hr'.out (Ga.out.drewN _)⟩
end Sy
end Go.Proofs.YthoealembhkaoaaGreatDoor
namespace Go.Proofs.YthoealembhkaoaaGreatDoor
open Go.RowKit
namespace Sy
set_option linter.unusedVariables false
set_option maxRecDepth 100000

set_option maxHeartbeats 400000 in
theorem rLetter_calls (c : Int) (w : World) :
    Calls Tryz.prog 84 #[.int .u8 c] w fun e w' => e = .returned (.bool (isLetter c)) ∧ w = w' := by
  go_enter Tryz.func84, Tryz.ntmps84
  go_wp2
  all_goals (go_ret; exact ⟨ret_bool (by rw [Bool.eq_iff_iff]; simp [isLetter]; omega), rfl⟩)
theorem rDigit_calls (c : Int) (w : World) :
    Calls Tryz.prog 85 #[.int .u8 c] w fun e w' => e = .returned (.bool (isDigit c)) ∧ w = w' := by
  go_enter Tryz.func85, Tryz.ntmps85
  go_wp2
  all_goals (go_ret; exact ⟨ret_bool (by rw [Bool.eq_iff_iff]; simp [isDigit]; omega), rfl⟩)
theorem rHexDigit_calls (c : Int) (w : World) (h0 : 0 ≤ c) (h1 : c ≤ 255) :
    Calls Tryz.prog 157 #[.int .u8 c] w fun e w' => e = .returned (.int .i64 (digit c)) ∧ w = w' := by
  go_enter Tryz.func157, Tryz.ntmps157
  go_wp2
  all_goals (go_ret; exact ⟨ret_int (by unfold digit; (repeat' split) <;> omega), rfl⟩)
def specI (c : Int) : Bool := decide (c = 34 ∨ c = 43 ∨ c = 44 ∨ c = 59 ∨ c = 60 ∨ c = 62 ∨ c = 92)
theorem specI_byte (b : UInt8) : specI (b.toNat : Int) = special.data.toList.contains b := by
  have : ∀ b : UInt8, (specI (b.toNat : Int) == special.data.toList.contains b) = true := all_bytes (by decide)
  simpa using this b
set_option maxHeartbeats 1000000 in
theorem rSpecial_calls (c : Int) (w : World) :
    Calls Tryz.prog 159 #[.int .u8 c] w fun e w' => e = .returned (.bool (specI c)) ∧ w' = w := by
  obtain ⟨r, hr⟩ : ∃ r, specI c = r := ⟨_, rfl⟩
  rw [hr]
  have Hr := Lib.hid hr
  clear hr
  have g0 : ∀ h, ((⟨#[34, 43, 44, 59, 60, 62, 92]⟩ : ByteArray)[0]'h).toNat = 34 := fun _ => rfl
  have g1 : ∀ h, ((⟨#[34, 43, 44, 59, 60, 62, 92]⟩ : ByteArray)[1]'h).toNat = 43 := fun _ => rfl
  have g2 : ∀ h, ((⟨#[34, 43, 44, 59, 60, 62, 92]⟩ : ByteArray)[2]'h).toNat = 44 := fun _ => rfl
  have g3 : ∀ h, ((⟨#[34, 43, 44, 59, 60, 62, 92]⟩ : ByteArray)[3]'h).toNat = 59 := fun _ => rfl
  have g4 : ∀ h, ((⟨#[34, 43, 44, 59, 60, 62, 92]⟩ : ByteArray)[4]'h).toNat = 60 := fun _ => rfl
  have g5 : ∀ h, ((⟨#[34, 43, 44, 59, 60, 62, 92]⟩ : ByteArray)[5]'h).toNat = 62 := fun _ => rfl
  have g6 : ∀ h, ((⟨#[34, 43, 44, 59, 60, 62, 92]⟩ : ByteArray)[6]'h).toNat = 92 := fun _ => rfl
  go_enter Tryz.func159, Tryz.ntmps159
  go_wp2_with fail
  go_loopg [3] 7 (fun k iv wr => (∃ i : Nat, i ≤ 7 ∧ 7 - i ≤ k ∧ iv = .int .i64 i ∧ Hid ((0 < i → c ≠ 34) ∧ (1 < i → c ≠ 43) ∧ (2 < i → c ≠ 44) ∧ (3 < i → c ≠ 59) ∧ (4 < i → c ≠ 60) ∧ (5 < i → c ≠ 62) ∧ (6 < i → c ≠ 92))) ∧ wr = w)
  case atStart => exact ⟨⟨0, by omega, by omega, rfl, by show _ ∧ _; omega⟩, rfl⟩
  case round =>
    obtain ⟨⟨i, hi, hk, rfl, hI⟩, hw⟩ := hrel
    have hw := hw.symm
    subst hw
    rcases (by omega : i = 0 ∨ i = 1 ∨ i = 2 ∨ i = 3 ∨ i = 4 ∨ i = 5 ∨ i = 6 ∨ i = 7) with rfl | rfl | rfl | rfl | rfl | rfl | rfl | rfl
    · by_cases hx : c = 34
      · have hn : Hid (r = true) := by show r = true; rw [← Hr.out, hx]; decide
        have q : (34 == c) = true := by rw [hx]; rfl
        have q2 : ((34 : Int) = c) = True := by rw [hx]; simp
        clear hx
        go_wp2_with fail
        go_ret
        exact ⟨by rw [hn.out]; rfl, rfl⟩
      · have hn : Hid ((0 < 1 → c ≠ 34) ∧ (1 < 1 → c ≠ 43) ∧ (2 < 1 → c ≠ 44) ∧ (3 < 1 → c ≠ 59) ∧ (4 < 1 → c ≠ 60) ∧ (5 < 1 → c ≠ 62) ∧ (6 < 1 → c ≠ 92)) := by
          have := hI.out
          show _ ∧ _
          omega
        have q : (34 == c) = false := by simpa using fun e => hx e.symm
        have q2 : ((34 : Int) = c) = False := by simpa using fun e => hx e.symm
        clear hx
        go_wp2_with fail
        go_roundg 6
        case measure => omega
        case rel => exact ⟨⟨1, by omega, by omega, by go_num, hn.out⟩, rfl⟩
    · by_cases hx : c = 43
      · have hn : Hid (r = true) := by show r = true; rw [← Hr.out, hx]; decide
        have q : (43 == c) = true := by rw [hx]; rfl
        have q2 : ((43 : Int) = c) = True := by rw [hx]; simp
        clear hx
        go_wp2_with fail
        go_ret
        exact ⟨by rw [hn.out]; rfl, rfl⟩
      · have hn : Hid ((0 < 2 → c ≠ 34) ∧ (1 < 2 → c ≠ 43) ∧ (2 < 2 → c ≠ 44) ∧ (3 < 2 → c ≠ 59) ∧ (4 < 2 → c ≠ 60) ∧ (5 < 2 → c ≠ 62) ∧ (6 < 2 → c ≠ 92)) := by
          have := hI.out
          show _ ∧ _
          omega
        have q : (43 == c) = false := by simpa using fun e => hx e.symm
        have q2 : ((43 : Int) = c) = False := by simpa using fun e => hx e.symm
        clear hx
        go_wp2_with fail
        go_roundg 5
        case measure => omega
        case rel => exact ⟨⟨2, by omega, by omega, by go_num, hn.out⟩, rfl⟩
    · by_cases hx : c = 44
      · have hn : Hid (r = true) := by show r = true; rw [← Hr.out, hx]; decide
        have q : (44 == c) = true := by rw [hx]; rfl
        have q2 : ((44 : Int) = c) = True := by rw [hx]; simp
        clear hx
        go_wp2_with fail
        go_ret
        exact ⟨by rw [hn.out]; rfl, rfl⟩
      · have hn : Hid ((0 < 3 → c ≠ 34) ∧ (1 < 3 → c ≠ 43) ∧ (2 < 3 → c ≠ 44) ∧ (3 < 3 → c ≠ 59) ∧ (4 < 3 → c ≠ 60) ∧ (5 < 3 → c ≠ 62) ∧ (6 < 3 → c ≠ 92)) := by
          have := hI.out
          show _ ∧ _
          omega
        have q : (44 == c) = false := by simpa using fun e => hx e.symm
        have q2 : ((44 : Int) = c) = False := by simpa using fun e => hx e.symm
        clear hx
        go_wp2_with fail
        go_roundg 4
        case measure => omega
        case rel => exact ⟨⟨3, by omega, by omega, by go_num, hn.out⟩, rfl⟩
    · by_cases hx : c = 59
      · have hn : Hid (r = true) := by show r = true; rw [← Hr.out, hx]; decide
        have q : (59 == c) = true := by rw [hx]; rfl
        have q2 : ((59 : Int) = c) = True := by rw [hx]; simp
        clear hx
        go_wp2_with fail
        go_ret
        exact ⟨by rw [hn.out]; rfl, rfl⟩
      · have hn : Hid ((0 < 4 → c ≠ 34) ∧ (1 < 4 → c ≠ 43) ∧ (2 < 4 → c ≠ 44) ∧ (3 < 4 → c ≠ 59) ∧ (4 < 4 → c ≠ 60) ∧ (5 < 4 → c ≠ 62) ∧ (6 < 4 → c ≠ 92)) := by
          have := hI.out
          show _ ∧ _
          omega
        have q : (59 == c) = false := by simpa using fun e => hx e.symm
        have q2 : ((59 : Int) = c) = False := by simpa using fun e => hx e.symm
        clear hx
        go_wp2_with fail
        go_roundg 3
        case measure => omega
        case rel => exact ⟨⟨4, by omega, by omega, by go_num, hn.out⟩, rfl⟩
    · by_cases hx : c = 60
      · have hn : Hid (r = true) := by show r = true; rw [← Hr.out, hx]; decide
        have q : (60 == c) = true := by rw [hx]; rfl
        have q2 : ((60 : Int) = c) = True := by rw [hx]; simp
        clear hx
        go_wp2_with fail
        go_ret
        exact ⟨by rw [hn.out]; rfl, rfl⟩
      · have hn : Hid ((0 < 5 → c ≠ 34) ∧ (1 < 5 → c ≠ 43) ∧ (2 < 5 → c ≠ 44) ∧ (3 < 5 → c ≠ 59) ∧ (4 < 5 → c ≠ 60) ∧ (5 < 5 → c ≠ 62) ∧ (6 < 5 → c ≠ 92)) := by
          have := hI.out
          show _ ∧ _
          omega
        have q : (60 == c) = false := by simpa using fun e => hx e.symm
        have q2 : ((60 : Int) = c) = False := by simpa using fun e => hx e.symm
        clear hx
        go_wp2_with fail
        go_roundg 2
        case measure => omega
        case rel => exact ⟨⟨5, by omega, by omega, by go_num, hn.out⟩, rfl⟩
    · by_cases hx : c = 62
      · have hn : Hid (r = true) := by show r = true; rw [← Hr.out, hx]; decide
        have q : (62 == c) = true := by rw [hx]; rfl
        have q2 : ((62 : Int) = c) = True := by rw [hx]; simp
        clear hx
        go_wp2_with fail
        go_ret
        exact ⟨by rw [hn.out]; rfl, rfl⟩
      · have hn : Hid ((0 < 6 → c ≠ 34) ∧ (1 < 6 → c ≠ 43) ∧ (2 < 6 → c ≠ 44) ∧ (3 < 6 → c ≠ 59) ∧ (4 < 6 → c ≠ 60) ∧ (5 < 6 → c ≠ 62) ∧ (6 < 6 → c ≠ 92)) := by
          have := hI.out
          show _ ∧ _
          omega
        have q : (62 == c) = false := by simpa using fun e => hx e.symm
        have q2 : ((62 : Int) = c) = False := by simpa using fun e => hx e.symm
        clear hx
        go_wp2_with fail
        go_roundg 1
        case measure => omega
        case rel => exact ⟨⟨6, by omega, by omega, by go_num, hn.out⟩, rfl⟩
    · by_cases hx : c = 92
      · have hn : Hid (r = true) := by show r = true; rw [← Hr.out, hx]; decide
        have q : (92 == c) = true := by rw [hx]; rfl
        have q2 : ((92 : Int) = c) = True := by rw [hx]; simp
        clear hx
        go_wp2_with fail
        go_ret
        exact ⟨by rw [hn.out]; rfl, rfl⟩
      · have hn : Hid ((0 < 7 → c ≠ 34) ∧ (1 < 7 → c ≠ 43) ∧ (2 < 7 → c ≠ 44) ∧ (3 < 7 → c ≠ 59) ∧ (4 < 7 → c ≠ 60) ∧ (5 < 7 → c ≠ 62) ∧ (6 < 7 → c ≠ 92)) := by
          have := hI.out
          show _ ∧ _
          omega
        have q : (92 == c) = false := by simpa using fun e => hx e.symm
        have q2 : ((92 : Int) = c) = False := by simpa using fun e => hx e.symm
        clear hx
        go_wp2_with fail
        go_roundg 0
        case measure => omega
        case rel => exact ⟨⟨7, by omega, by omega, by go_num, hn.out⟩, rfl⟩
    · have hn : Hid (r = false) := by
        have := hI.out
        show r = false
        rw [← Hr.out]
        unfold specI
        rw [decide_eq_false_iff_not]
        omega
      go_wp2_with fail
      go_ret
      exact ⟨by rw [hn.out]; rfl, rfl⟩
end Sy
end Go.Proofs.YthoealembhkaoaaGreatDoor
