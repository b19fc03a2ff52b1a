import Derived.Test.YthoealembhkaoaaGreatDoorSyHex
import Derived.IntWalk
import Derived.OwnWalk
import Derived.Laws.BytesString
import Derived.Laws.IdiomStrings
namespace Go.Proofs.YthoealembhkaoaaGreatDoor
open Go.RowKit
namespace Sy
set_option linter.unusedVariables false
/-- The reader gives up. -/
def gaveUp (n : Int) : Ending := .panicked [{ v := .iface 23 (.int .i64 n), recovered := false }]
/-- What a part of the reader comes to: a value and what is left, or it gives up. -/
def Reads {α : Type} (B : Nat) (s : ByteArray) (enc : α → Value) (r : Option (α × List UInt8)) (w : World) (e : Ending) (w' : World) : Prop :=
  match r with
  | some (v, l) => e = .returned (enc v) ∧ Moved B s l w w'
  | none => e = gaveUp 30 ∧ Gr B w w'
def strV (l : List UInt8) : Value := .string ⟨l.toArray⟩

def inTypeB (b : UInt8) : Bool := inType (b.toNat : Int)
def typR (l : List UInt8) : Option (List UInt8 × List UInt8) := if isType (l.takeWhile inTypeB) then some (l.takeWhile inTypeB, l.dropWhile inTypeB) else none

theorem Env.gr {w w' : World} {B : Nat} (h : Env w) (hB : 3 ≤ B) (hg : Gr B w w') : Env w' := h.of fun k hk => hg.block k (by have := h.three; omega) (by intro e; injection e with e; omega)
theorem Rd.below {w w' : World} {B : Nat} {s : ByteArray} {i : Nat} (h : Rd w B s i) (hb : Below w.heap.size w w') : Rd w' B s i := ⟨(hb.block B h.lt).trans h.heap⟩
theorem Gr.of_below {w w' : World} (B : Nat) (h : Below w.heap.size w w') : Gr B w w' := ⟨h.os, h.tape, h.output, h.size, fun k hk _ => h.block k hk⟩

/-- A region whose operations only read, up to the last ones, which stand in one order. -/
theorem region_tail {P : Program} {id : Nat} {Q : Exit → Act → World → Prop} {a : Act} {w : World} {l : List Oper} (n : Nat) (hm : P.follows .mixedOrders = true) (hB : Region.lexTailB .any l.toArray n = true)
    (h : wpStill P l.toArray w.drew (fun a' => wpList P l.toArray Q (l.drop n) a' w.drew) (l.take n) a) : (Code.region id l.toArray true).wp P Q a w :=
  wp_region_still_tail n hm hB h
theorem drew_eq (w : World) : w.drew = w.drewN 1 := rfl
theorem clone_calls (s : ByteArray) (w : World) (hs : s.size ≤ 140737488351232) :
    Calls Tryz.prog 187 #[.string s] w fun e w' => e = .returned (.string s) ∧ Below w.heap.size w w' := by
  have hc := Tryz.stringslite_Clone s w (by omega)
  go_enter Tryz.func187, Tryz.ntmps187
  go_wp2_with (go_at_call 198; refine hc.mono ?_; rintro e w1 ⟨rfl, hb⟩)
  go_ret
  exact ⟨rfl, hb⟩

theorem extract_snoc {s : ByteArray} {i j : Nat} (hij : i ≤ j) (h : j < s.size) : (s.extract i (j + 1)).data.toList = (s.extract i j).data.toList ++ [s[j]] := by
  rw [Lib.extract_data, Lib.extract_data, show j + 1 - i = (j - i) + 1 by omega, List.take_succ_eq_append_getElem (by simp; omega)]
  congr 2
  rw [List.getElem_drop]
  have e : i + (j - i) = j := by omega
  simp only [e]
  rfl
theorem inType_quiet (c : Int) (w : World) (n : Nat) : Calls Tryz.prog 69 #[.int .u8 c] (w.drewN n) fun e w'' => e = .returned (.bool (inType c)) ∧ ∃ m, w'' = w.drewN m :=
  Calls.quiet_of_same ((inType_calls c (w.drewN n)).mono fun _ _ h => ⟨h.1, h.2.symm⟩)

theorem reads_some {α : Type} {B : Nat} {s : ByteArray} {enc : α → Value} {r : Option (α × List UInt8)} {v : α} {l : List UInt8} {w w' : World} (hr : r = some (v, l)) (h : Moved B s l w w') : Reads B s enc r w (.returned (enc v)) w' := by
  rw [hr]; exact ⟨rfl, h⟩
theorem reads_none {α : Type} {B : Nat} {s : ByteArray} {enc : α → Value} {r : Option (α × List UInt8)} {w w' : World} (hr : r = none) (h : Gr B w w') : Reads B s enc r w (gaveUp 30) w' := by
  rw [hr]; exact ⟨rfl, h⟩
theorem strV_bytes (s : ByteArray) : Value.string s = strV s.data.toList := rfl

set_option maxRecDepth 100000 in
set_option maxHeartbeats 2000000 in
theorem typ_calls (w : World) (B : Nat) (s : ByteArray) (i : Nat) (hr : Rd w B s i) (hi : i ≤ s.size) (hs : s.size < 4294967281) (he : Env w) (hB : 3 ≤ B) :
    Calls Tryz.prog 173 #[.pointer (some ⟨B, 0, none⟩)] w (Reads B s strV (typR (rest s i)) w) := by
  have hR := Lib.hid hr
  have hE := Lib.hid he
  have h1 := hr.c1
  clear hr he
  obtain ⟨r, hr⟩ : ∃ r, typR (rest s i) = r := ⟨_, rfl⟩
  rw [hr]
  have Hr := Lib.hid hr
  clear hr
  go_enter Tryz.func173, Tryz.ntmps173
  go_wp2
  clear h1
  go_loopg [] (s.size - i) (fun k wr => ∃ j : Nat, i ≤ j ∧ j ≤ s.size ∧ s.size - j ≤ k ∧ Hid ((rest s i).takeWhile inTypeB = (s.extract i j).data.toList ++ (rest s j).takeWhile inTypeB) ∧ Hid ((rest s i).dropWhile inTypeB = (rest s j).dropWhile inTypeB) ∧ Hid (Rd wr B s j) ∧ Hid (Gr B w wr))
  case atStart => exact ⟨i, Nat.le_refl _, hi, Nat.le_refl _, by show _ = _; simp, rfl, hR, Gr.refl _ _⟩
  case round =>
    obtain ⟨j, hij, hj, hk, ht, hd, hRj, hG⟩ := hrel
    have c0 := hRj.out.c0
    have c1 := hRj.out.c1
    have f1 := hRj.out.f1
    by_cases hgo : ∃ hlt : j < s.size, inType ((s[j]'hlt).toNat : Int) = true
    · obtain ⟨hlt, hty⟩ := hgo
      have q1 : ((j : Int) == (s.size : Int)) = false := by rw [beq_eq_false_iff_ne]; omega
      have Hrl := Lib.hid (rest_lt hlt)
      have Hx := Lib.hid (extract_snoc hij hlt)
      go_wp2_with fail
      go_quiet ((first | (go_at_call 112; exact Calls.quiet_of (ended_calls _ _ _ _ (hRj.out.drewN _))) | (go_at_call 69; exact inType_quiet _ _ _)))
      go_wp2_with fail
      all_goals first
        | exact absurd (by assumption : inType ((s[j]'hlt).toNat : Int) = false) (by rw [hty]; exact Bool.noConfusion)
        | skip
      go_roundg (s.size - (j + 1))
      case measure => omega
      case rel =>
        refine ⟨j + 1, by omega, by omega, Nat.le_refl _, ?_, ?_, (hRj.out.drewN _).setCell (j + 1), (hG.out.drewN _).setCell _ _⟩
        · show _ = _
          rw [ht.out, Hrl.out, Hx.out, List.takeWhile_cons_of_pos (by exact hty)]; simp
        · show _ = _
          rw [hd.out, Hrl.out, List.dropWhile_cons_of_pos (by exact hty)]
    · have Hend : Hid (r = if isType (s.extract i j).data.toList then some ((s.extract i j).data.toList, rest s j) else none) := by
        show r = _
        rw [← Hr.out]; unfold typR
        rw [ht.out, hd.out]
        by_cases hlt : j < s.size
        · have hty : ¬ inType ((s[j]'hlt).toNat : Int) = true := fun h => hgo ⟨hlt, h⟩
          rw [rest_lt hlt, List.takeWhile_cons_of_neg (by exact hty), List.dropWhile_cons_of_neg (by exact hty)]; simp
        · rw [rest_ge (by omega)]; simp
      have hxs : (s.extract i j).size ≤ s.size := by simp [ByteArray.size_extract]; omega
      obtain ⟨b, hbT⟩ : ∃ b, isType (s.extract i j).data.toList = b := ⟨_, rfl⟩
      have Hq : Hid (∀ x : ByteArray, x = s.extract i j → ∀ W, Gr B w W → Calls Tryz.prog 38 #[.string x] W fun e w' => e = .returned (.bool b) ∧ Below W.heap.size W w') := by
        intro x hx W hW
        rw [← hbT, ← hx]
        exact isType_calls x W (by rw [hx]; omega) (hE.out.gr hB hW)
      have Hq2 : Hid (∀ x : ByteArray, x = s.extract i j → ∀ W, Calls Tryz.prog 187 #[.string x] W fun e w' => e = .returned (.string x) ∧ Below W.heap.size W w') := by
        intro x hx W
        exact clone_calls x W (by rw [hx]; omega)
      rw [hbT] at Hend
      clear hxs hbT
      have hx1 : ∀ hlt : j < s.size, inType ((s[j]'hlt).toNat : Int) = false := fun hlt => by
        cases h : inType ((s[j]'hlt).toNat : Int) with
        | false => rfl
        | true => exact absurd ⟨hlt, h⟩ hgo
      have Hx1 := Lib.hid hx1
      clear hgo hx1
      cases b with
      | false =>
        have Hend' : Hid (r = none) := by show r = _; rw [Hend.out]; rfl
        rcases Nat.lt_or_ge j s.size with hlt | hlt
        · have hty' := Hx1.out hlt
          have q1 : ((j : Int) == (s.size : Int)) = false := by rw [beq_eq_false_iff_ne]; omega
          go_wp2_with fail
          go_quiet ((first | (go_at_call 112; exact Calls.quiet_of (ended_calls _ _ _ _ (hRj.out.drewN _))) | (go_at_call 69; exact inType_quiet _ _ _)))
          go_wp2_with fail
          all_goals first
            | exact absurd (by assumption : inType ((s[j]'hlt).toNat : Int) = true) (by rw [hty']; exact Bool.noConfusion)
            | skip
          refine region_tail 10 (by kernel_rfl) (by kernel_rfl) ?_
          simp only [List.take_succ_cons, List.take_zero, List.drop_succ_cons, List.drop_zero]
          repeat still_step
          refine wpStill_nil ?_
          go_wp2_with fail
          refine (Hq.out _ rfl _ (((hG.out.drewN _).drewN 1))).mono ?_
          rintro e w2 ⟨rfl, hb2⟩
          go_wp2
          exact ⟨rfl, reads_none Hend'.out (((hG.out.drewN nq).drewN 1).trans (Gr.of_below B hb2))⟩
        · have q1 : ((j : Int) == (s.size : Int)) = true := by rw [beq_iff_eq]; omega
          go_wp2_with fail
          go_quiet ((first | (go_at_call 112; exact Calls.quiet_of (ended_calls _ _ _ _ (hRj.out.drewN _))) | (go_at_call 69; exact inType_quiet _ _ _)))
          go_wp2_with fail
          refine region_tail 10 (by kernel_rfl) (by kernel_rfl) ?_
          simp only [List.take_succ_cons, List.take_zero, List.drop_succ_cons, List.drop_zero]
          repeat still_step
          refine wpStill_nil ?_
          go_wp2_with fail
          refine (Hq.out _ rfl _ (((hG.out.drewN _).drewN 1))).mono ?_
          rintro e w2 ⟨rfl, hb2⟩
          go_wp2
          exact ⟨rfl, reads_none Hend'.out (((hG.out.drewN nq).drewN 1).trans (Gr.of_below B hb2))⟩
      | true =>
        have Hend' : Hid (r = some ((s.extract i j).data.toList, rest s j)) := by show r = _; rw [Hend.out]; rfl
        rcases Nat.lt_or_ge j s.size with hlt | hlt
        · have hty' := Hx1.out hlt
          have q1 : ((j : Int) == (s.size : Int)) = false := by rw [beq_eq_false_iff_ne]; omega
          go_wp2_with fail
          go_quiet ((first | (go_at_call 112; exact Calls.quiet_of (ended_calls _ _ _ _ (hRj.out.drewN _))) | (go_at_call 69; exact inType_quiet _ _ _)))
          go_wp2_with fail
          all_goals first
            | exact absurd (by assumption : inType ((s[j]'hlt).toNat : Int) = true) (by rw [hty']; exact Bool.noConfusion)
            | skip
          refine region_tail 10 (by kernel_rfl) (by kernel_rfl) ?_
          simp only [List.take_succ_cons, List.take_zero, List.drop_succ_cons, List.drop_zero]
          repeat still_step
          refine wpStill_nil ?_
          go_wp2_with fail
          refine (Hq.out _ rfl _ (((hG.out.drewN _).drewN 1))).mono ?_
          rintro e w2 ⟨rfl, hb2⟩
          have Hb2 := Lib.hid hb2
          have Rd2 : Hid (Rd w2 B s j) := ((hRj.out.drewN nq).drewN 1).below hb2
          have d0 := Rd2.out.c0
          have d1 := Rd2.out.c1
          clear hb2
          go_wp2_with fail
          refine region_tail 10 (by kernel_rfl) (by kernel_rfl) ?_
          simp only [List.take_succ_cons, List.take_zero, List.drop_succ_cons, List.drop_zero]
          repeat still_step
          refine wpStill_nil ?_
          go_wp2_with fail
          refine (Hq2.out _ rfl _).mono ?_
          rintro e w3 ⟨rfl, hb3⟩
          go_wp2_with fail
          go_ret
          exact reads_some (enc := strV) Hend'.out ⟨j, hj, rfl, (Rd2.out.drewN 1).below hb3, (((hG.out.drewN nq).drewN 1).trans (Gr.of_below B Hb2.out)).trans ((Gr.refl B w2).drewN 1 |>.trans (Gr.of_below B hb3))⟩
        · have q1 : ((j : Int) == (s.size : Int)) = true := by rw [beq_iff_eq]; omega
          go_wp2_with fail
          go_quiet ((first | (go_at_call 112; exact Calls.quiet_of (ended_calls _ _ _ _ (hRj.out.drewN _))) | (go_at_call 69; exact inType_quiet _ _ _)))
          go_wp2_with fail
          refine region_tail 10 (by kernel_rfl) (by kernel_rfl) ?_
          simp only [List.take_succ_cons, List.take_zero, List.drop_succ_cons, List.drop_zero]
          repeat still_step
          refine wpStill_nil ?_
          go_wp2_with fail
          refine (Hq.out _ rfl _ (((hG.out.drewN _).drewN 1))).mono ?_
          rintro e w2 ⟨rfl, hb2⟩
          have Hb2 := Lib.hid hb2
          have Rd2 : Hid (Rd w2 B s j) := ((hRj.out.drewN nq).drewN 1).below hb2
          have d0 := Rd2.out.c0
          have d1 := Rd2.out.c1
          clear hb2
          go_wp2_with fail
          refine region_tail 10 (by kernel_rfl) (by kernel_rfl) ?_
          simp only [List.take_succ_cons, List.take_zero, List.drop_succ_cons, List.drop_zero]
          repeat still_step
          refine wpStill_nil ?_
          go_wp2_with fail
          refine (Hq2.out _ rfl _).mono ?_
          rintro e w3 ⟨rfl, hb3⟩
          go_wp2_with fail
          go_ret
          exact reads_some (enc := strV) Hend'.out ⟨j, hj, rfl, (Rd2.out.drewN 1).below hb3, (((hG.out.drewN nq).drewN 1).trans (Gr.of_below B Hb2.out)).trans ((Gr.refl B w2).drewN 1 |>.trans (Gr.of_below B hb3))⟩
end Sy
end Go.Proofs.YthoealembhkaoaaGreatDoor
