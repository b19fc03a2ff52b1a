import Derived.Test.YthoealembhkaoaaGreatDoorSyRd2
import Derived.Test.YthoealembhkaoaaGreatDoorSyGrow
namespace Go.Proofs.YthoealembhkaoaaGreatDoor
open Go.RowKit
namespace Sy
set_option linter.unusedVariables false

def hexB (b : UInt8) : Bool := decide (0 ≤ digit (b.toNat : Int))
/-- A value of digits, behind its '#'. -/
def someBytes : Option (List UInt8) → List UInt8 → Option (List UInt8 × List UInt8)
  | some (a :: b), l => some (a :: b, l)
  | _, _ => none
def hexR (l : List UInt8) : Option (List UInt8 × List UInt8) := someBytes (unhex (l.takeWhile hexB)) (l.dropWhile hexB)

set_option maxRecDepth 100000 in
set_option maxHeartbeats 2000000 in
theorem hex_calls (w : World) (B : Nat) (s : ByteArray) (i : Nat) (hr : Rd w B s i) (hi : i < s.size) (hs : s.size < 4294967281) :
    Calls Tryz.prog 188 #[.pointer (some ⟨B, 0, none⟩)] w (Reads B s strV (hexR (rest s (i + 1))) w) := by
  have hR := Lib.hid hr
  have h1 := hr.c1
  have hf := hr.f1
  clear hr
  obtain ⟨m, hm⟩ : ∃ m, i + 1 = m := ⟨_, rfl⟩
  rw [hm]
  have hms : m ≤ s.size := by omega
  obtain ⟨r, hr⟩ : ∃ r, hexR (rest s m) = r := ⟨_, rfl⟩
  rw [hr]
  have Hr := Lib.hid hr
  clear hr
  have e : ((i : Int) + 1) = (m : Int) := by omega
  have E := Lib.hid e
  have HR1 : Hid (Rd (w.setCell ⟨B, 1, none⟩ (.int .i64 (m : Int))) B s m) := hR.out.setCell m
  have HG1 : Hid (Gr B w (w.setCell ⟨B, 1, none⟩ (.int .i64 (m : Int)))) := (Gr.refl B w).setCell _ _
  clear e hm
  go_enter Tryz.func188, Tryz.ntmps188
  go_wp2
  clear h1 hf
  simp only [E.out]
  obtain ⟨w1, hw1⟩ : ∃ w1, w1 = w.setCell ⟨B, 1, none⟩ (.int .i64 (m : Int)) := ⟨_, rfl⟩
  rw [← hw1] at HR1 HG1 ⊢
  clear hw1 E hi
  go_loopg [] (s.size - m) (fun k wr => ∃ j : Nat, m ≤ j ∧ j ≤ s.size ∧ s.size - j ≤ k ∧ Hid ((rest s m).takeWhile hexB = (s.extract m j).data.toList ++ (rest s j).takeWhile hexB) ∧ Hid ((rest s m).dropWhile hexB = (rest s j).dropWhile hexB) ∧ Hid (Rd wr B s j) ∧ Hid (Gr B w wr))
  case atStart => exact ⟨m, Nat.le_refl _, hms, Nat.le_refl _, by show _ = _; simp, rfl, HR1, HG1⟩
  case round =>
    obtain ⟨j, hij, hj, hk, ht, hd, hRj, hG⟩ := hrel
    have c0 := hRj.out.c0
    have c1 := hRj.out.c1
    have f1 := hRj.out.f1
    by_cases hgo : ∃ hlt : j < s.size, 0 ≤ digit ((s[j]'hlt).toNat : Int)
    · obtain ⟨hlt, hty⟩ := hgo
      have q1 : ((j : Int) == (s.size : Int)) = false := by rw [beq_eq_false_iff_ne]; omega
      have Hrl := Lib.hid (rest_lt hlt)
      have Hx := Lib.hid (extract_snoc hij hlt)
      go_wp2_with fail
      go_quiet ((first | (go_at_call 112; exact Calls.quiet_of (ended_calls _ _ _ _ (hRj.out.drewN _))) | (go_at_call 199; exact digit_quiet _ _ _ (Int.natCast_nonneg _) (byte_le _))))
      go_wp2_with fail
      go_roundg (s.size - (j + 1))
      case measure => omega
      case rel =>
        refine ⟨j + 1, by omega, by omega, Nat.le_refl _, ?_, ?_, (hRj.out.drewN _).setCell (j + 1), (hG.out.drewN _).setCell _ _⟩
        · show _ = _
          rw [ht.out, Hrl.out, Hx.out, List.takeWhile_cons_of_pos (by simpa [hexB] using hty)]; simp
        · show _ = _
          rw [hd.out, Hrl.out, List.dropWhile_cons_of_pos (by simpa [hexB] using hty)]
    · obtain ⟨u, hu⟩ : ∃ u, unhex (s.extract m j).data.toList = u := ⟨_, rfl⟩
      have Hend : Hid (r = someBytes u (rest s j)) := by
        show r = _
        rw [← Hr.out, ← hu]; unfold hexR
        rw [ht.out, hd.out]
        by_cases hlt : j < s.size
        · have hty : ¬ hexB s[j] = true := fun h => hgo ⟨hlt, by simpa [hexB] using h⟩
          rw [rest_lt hlt, List.takeWhile_cons_of_neg hty, List.dropWhile_cons_of_neg hty]; simp
        · rw [rest_ge (by omega)]; simp
      have hxs : (s.extract m j).size ≤ s.size := by simp [ByteArray.size_extract]; omega
      have Hq : Hid (∀ x : ByteArray, x = s.extract m j → ∀ W, Calls Tryz.prog 200 #[.string x] W fun e w' => e = .returned (unhexV u) ∧ Below W.heap.size W w') := by
        intro x hx W
        rw [← hu, ← hx]
        exact unhex_calls x W (by rw [hx]; omega)
      clear hxs hu
      have hx1 : ∀ hlt : j < s.size, digit ((s[j]'hlt).toNat : Int) < 0 := fun hlt => by
        rcases Int.lt_or_le (digit ((s[j]'hlt).toNat : Int)) 0 with h | h
        · exact h
        · exact absurd ⟨hlt, h⟩ hgo
      have Hx1 := Lib.hid hx1
      clear hgo hx1
      rcases u with _ | _ | ⟨a, b⟩
      · have Hq' : Hid (∀ x : ByteArray, x = s.extract m j → ∀ W, Calls Tryz.prog 200 #[.string x] W fun e w' => e = .returned (.tuple #[.string ⟨#[]⟩, .int .i64 11]) ∧ Below W.heap.size W w') := Hq
        clear Hq
        rcases Nat.lt_or_ge j s.size with hlt | hlt
        · have hty' := Hx1.out hlt
          have q1 : ((j : Int) == (s.size : Int)) = false := by rw [beq_eq_false_iff_ne]; omega
          go_wp2_with fail
          go_quiet ((first | (go_at_call 112; exact Calls.quiet_of (ended_calls _ _ _ _ (hRj.out.drewN _))) | (go_at_call 199; exact digit_quiet _ _ _ (Int.natCast_nonneg _) (byte_le _))))
          go_wp2_with fail
          have g0 := fun d os => grw_cell (w := wr.drewN nq) (a := ⟨B, 0, none⟩) c0 d os
          have g1 := fun d os => grw_cell (w := wr.drewN nq) (a := ⟨B, 1, none⟩) c1 d os
          refine region_below (by kernel_rfl) (by kernel_rfl) ?_
          repeat (quiet_step ((go_at_call 200; exact quiet_below (Hq'.out _ rfl _))))
          refine wpQuiet_nil ?_
          rintro w2 ⟨p, hp⟩
          have hb2 : Below (wr.drewN nq).heap.size (wr.drewN nq) w2 := by rw [hp]; exact grw_below _ _ _
          clear hp g0 g1
          go_wp2
          exact ⟨rfl, reads_none Hend.out ((hG.out.drewN nq).trans (Gr.of_below B hb2))⟩
        · have q1 : ((j : Int) == (s.size : Int)) = true := by rw [beq_iff_eq]; omega
          go_wp2_with fail
          go_quiet ((first | (go_at_call 112; exact Calls.quiet_of (ended_calls _ _ _ _ (hRj.out.drewN _))) | (go_at_call 199; exact digit_quiet _ _ _ (Int.natCast_nonneg _) (byte_le _))))
          go_wp2_with fail
          have g0 := fun d os => grw_cell (w := wr.drewN nq) (a := ⟨B, 0, none⟩) c0 d os
          have g1 := fun d os => grw_cell (w := wr.drewN nq) (a := ⟨B, 1, none⟩) c1 d os
          refine region_below (by kernel_rfl) (by kernel_rfl) ?_
          repeat (quiet_step ((go_at_call 200; exact quiet_below (Hq'.out _ rfl _))))
          refine wpQuiet_nil ?_
          rintro w2 ⟨p, hp⟩
          have hb2 : Below (wr.drewN nq).heap.size (wr.drewN nq) w2 := by rw [hp]; exact grw_below _ _ _
          clear hp g0 g1
          go_wp2
          exact ⟨rfl, reads_none Hend.out ((hG.out.drewN nq).trans (Gr.of_below B hb2))⟩
      · have Hq' : Hid (∀ x : ByteArray, x = s.extract m j → ∀ W, Calls Tryz.prog 200 #[.string x] W fun e w' => e = .returned (.tuple #[.string ⟨#[]⟩, .int .i64 0]) ∧ Below W.heap.size W w') := Hq
        clear Hq
        rcases Nat.lt_or_ge j s.size with hlt | hlt
        · have hty' := Hx1.out hlt
          have q1 : ((j : Int) == (s.size : Int)) = false := by rw [beq_eq_false_iff_ne]; omega
          go_wp2_with fail
          go_quiet ((first | (go_at_call 112; exact Calls.quiet_of (ended_calls _ _ _ _ (hRj.out.drewN _))) | (go_at_call 199; exact digit_quiet _ _ _ (Int.natCast_nonneg _) (byte_le _))))
          go_wp2_with fail
          have g0 := fun d os => grw_cell (w := wr.drewN nq) (a := ⟨B, 0, none⟩) c0 d os
          have g1 := fun d os => grw_cell (w := wr.drewN nq) (a := ⟨B, 1, none⟩) c1 d os
          refine region_below (by kernel_rfl) (by kernel_rfl) ?_
          repeat (quiet_step ((go_at_call 200; exact quiet_below (Hq'.out _ rfl _))))
          refine wpQuiet_nil ?_
          rintro w2 ⟨p, hp⟩
          have hb2 : Below (wr.drewN nq).heap.size (wr.drewN nq) w2 := by rw [hp]; exact grw_below _ _ _
          clear hp g0 g1
          go_wp2
          exact ⟨rfl, reads_none Hend.out ((hG.out.drewN nq).trans (Gr.of_below B hb2))⟩
        · have q1 : ((j : Int) == (s.size : Int)) = true := by rw [beq_iff_eq]; omega
          go_wp2_with fail
          go_quiet ((first | (go_at_call 112; exact Calls.quiet_of (ended_calls _ _ _ _ (hRj.out.drewN _))) | (go_at_call 199; exact digit_quiet _ _ _ (Int.natCast_nonneg _) (byte_le _))))
          go_wp2_with fail
          have g0 := fun d os => grw_cell (w := wr.drewN nq) (a := ⟨B, 0, none⟩) c0 d os
          have g1 := fun d os => grw_cell (w := wr.drewN nq) (a := ⟨B, 1, none⟩) c1 d os
          refine region_below (by kernel_rfl) (by kernel_rfl) ?_
          repeat (quiet_step ((go_at_call 200; exact quiet_below (Hq'.out _ rfl _))))
          refine wpQuiet_nil ?_
          rintro w2 ⟨p, hp⟩
          have hb2 : Below (wr.drewN nq).heap.size (wr.drewN nq) w2 := by rw [hp]; exact grw_below _ _ _
          clear hp g0 g1
          go_wp2
          exact ⟨rfl, reads_none Hend.out ((hG.out.drewN nq).trans (Gr.of_below B hb2))⟩
      · have Hq' : Hid (∀ x : ByteArray, x = s.extract m j → ∀ W, Calls Tryz.prog 200 #[.string x] W fun e w' => e = .returned (.tuple #[.string ⟨(a :: b).toArray⟩, .int .i64 0]) ∧ Below W.heap.size W w') := Hq
        clear Hq
        rcases Nat.lt_or_ge j s.size with hlt | hlt
        · have hty' := Hx1.out hlt
          have q1 : ((j : Int) == (s.size : Int)) = false := by rw [beq_eq_false_iff_ne]; omega
          go_wp2_with fail
          go_quiet ((first | (go_at_call 112; exact Calls.quiet_of (ended_calls _ _ _ _ (hRj.out.drewN _))) | (go_at_call 199; exact digit_quiet _ _ _ (Int.natCast_nonneg _) (byte_le _))))
          go_wp2_with fail
          have g0 := fun d os => grw_cell (w := wr.drewN nq) (a := ⟨B, 0, none⟩) c0 d os
          have g1 := fun d os => grw_cell (w := wr.drewN nq) (a := ⟨B, 1, none⟩) c1 d os
          refine region_below (by kernel_rfl) (by kernel_rfl) ?_
          repeat (quiet_step ((go_at_call 200; exact quiet_below (Hq'.out _ rfl _))))
          refine wpQuiet_nil ?_
          rintro w2 ⟨p, hp⟩
          have hb2 : Below (wr.drewN nq).heap.size (wr.drewN nq) w2 := by rw [hp]; exact grw_below _ _ _
          clear hp g0 g1
          go_wp2
          go_ret
          exact reads_some (enc := strV) Hend.out ⟨j, hj, rfl, (hRj.out.drewN nq).below hb2, ((hG.out.drewN nq).trans (Gr.of_below B hb2))⟩
        · have q1 : ((j : Int) == (s.size : Int)) = true := by rw [beq_iff_eq]; omega
          go_wp2_with fail
          go_quiet ((first | (go_at_call 112; exact Calls.quiet_of (ended_calls _ _ _ _ (hRj.out.drewN _))) | (go_at_call 199; exact digit_quiet _ _ _ (Int.natCast_nonneg _) (byte_le _))))
          go_wp2_with fail
          have g0 := fun d os => grw_cell (w := wr.drewN nq) (a := ⟨B, 0, none⟩) c0 d os
          have g1 := fun d os => grw_cell (w := wr.drewN nq) (a := ⟨B, 1, none⟩) c1 d os
          refine region_below (by kernel_rfl) (by kernel_rfl) ?_
          repeat (quiet_step ((go_at_call 200; exact quiet_below (Hq'.out _ rfl _))))
          refine wpQuiet_nil ?_
          rintro w2 ⟨p, hp⟩
          have hb2 : Below (wr.drewN nq).heap.size (wr.drewN nq) w2 := by rw [hp]; exact grw_below _ _ _
          clear hp g0 g1
          go_wp2
          go_ret
          exact reads_some (enc := strV) Hend.out ⟨j, hj, rfl, (hRj.out.drewN nq).below hb2, ((hG.out.drewN nq).trans (Gr.of_below B hb2))⟩
end Sy
end Go.Proofs.YthoealembhkaoaaGreatDoor
