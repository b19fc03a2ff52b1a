import Derived.Test.YthoealembhkaoaaGreatDoorSyBase
namespace Go.Proofs.YthoealembhkaoaaGreatDoor
open Go.RowKit
namespace Sy
set_option linter.unusedVariables false
/-- What is left of a text behind i bytes. -/
abbrev rest (s : ByteArray) (i : Nat) : List UInt8 := s.data.toList.drop i
theorem rest_lt {s : ByteArray} {i : Nat} (h : i < s.size) : rest s i = s[i] :: rest s (i + 1) := by
  unfold rest
  rw [List.drop_eq_getElem_cons (by simpa using h)]
  rfl
theorem rest_ge {s : ByteArray} {i : Nat} (h : s.size ≤ i) : rest s i = [] := by
  unfold rest
  exact List.drop_of_length_le (by simpa using h)
/-- Does a byte stand first? -/
def isAt (c : Int) : List UInt8 → Bool
  | [] => false
  | b :: _ => (b.toNat : Int) == c

/-- The reader lies whole in block B: its text, its place. -/
structure Rd (w : World) (B : Nat) (s : ByteArray) (i : Nat) : Prop where
  heap : w.heap[B]? = some (.cells #[.string s, .int .i64 (i : Int)] 71 (0, 0))
section
variable {w : World} {B : Nat} {s : ByteArray} {i : Nat}
theorem Rd.c0 (h : Rd w B s i) : w.cell? ⟨B, 0, none⟩ = some (.string s) := by simp [World.cell?, h.heap]
theorem Rd.c1 (h : Rd w B s i) : w.cell? ⟨B, 1, none⟩ = some (.int .i64 (i : Int)) := by simp [World.cell?, h.heap]
theorem Rd.f1 (h : Rd w B s i) : w.frozen? ⟨B, 1, none⟩ = false := by simp [World.frozen?, h.heap]
theorem Rd.drewN (h : Rd w B s i) (n : Nat) : Rd (w.drewN n) B s i := ⟨h.heap⟩
theorem Rd.lt (h : Rd w B s i) : B < w.heap.size := lt_of_block h.heap
theorem Rd.setCell (h : Rd w B s i) (j : Nat) : Rd (w.setCell ⟨B, 1, none⟩ (.int .i64 (j : Int))) B s j := by
  refine ⟨?_⟩
  have hlt := h.lt
  have h' : w.heap[B] = .cells #[.string s, .int .i64 (i : Int)] 71 (0, 0) := by simpa [Array.getElem?_eq_getElem hlt] using h.heap
  show (w.heap.modify B _)[B]? = _
  rw [Array.getElem?_eq_getElem (by simpa using hlt), Array.getElem_modify_self, h']
  rfl
end
/-- Whatever block but B was there is as it was. -/
abbrev Gr (B : Nat) (w w' : World) : Prop := w.grownBy w' (some B)
theorem Gr.refl (B : Nat) (w : World) : Gr B w w := ⟨rfl, rfl, rfl, Nat.le_refl _, fun _ _ _ => rfl⟩
theorem Gr.trans {B : Nat} {a b c : World} (h : Gr B a b) (k : Gr B b c) : Gr B a c :=
  ⟨k.os.trans h.os, k.tape.trans h.tape, k.output.trans h.output, Nat.le_trans h.size k.size, fun i hi hne => (k.block i (Nat.lt_of_lt_of_le hi h.size) hne).trans (h.block i hi hne)⟩
theorem Gr.drewN {B : Nat} {a b : World} (h : Gr B a b) (n : Nat) : Gr B a (b.drewN n) := ⟨h.os, h.tape, h.output, h.size, h.block⟩
theorem Gr.setCell {B : Nat} {a b : World} (h : Gr B a b) (o : Nat) (v : Value) : Gr B a (b.setCell ⟨B, o, none⟩ v) :=
  h.trans ⟨rfl, rfl, rfl, by simp [World.setCell], fun k _ hne => Below.heap_setCell _ _ _ _ (by intro e; exact hne (by simp [e]))⟩

set_option maxHeartbeats 400000 in
theorem ended_calls (w : World) (B : Nat) (s : ByteArray) (i : Nat) (hr : Rd w B s i) :
    Calls Tryz.prog 112 #[.pointer (some ⟨B, 0, none⟩)] w fun e w' => e = .returned (.bool ((i : Int) == (s.size : Int))) ∧ ∃ n, w' = w.drewN n := by
  have h0 := hr.c0
  have h1 := hr.c1
  clear hr
  go_enter Tryz.func112, Tryz.ntmps112
  go_wp2
  go_quiet (fail)
  go_wp2
  go_ret
  exact ⟨rfl, _, rfl⟩
set_option maxHeartbeats 400000 in
theorem is_calls (w : World) (B : Nat) (s : ByteArray) (i : Nat) (c : Int) (hr : Rd w B s i) (hi : i ≤ s.size) (hs : s.size ≤ 9223372036854775807) :
    Calls Tryz.prog 111 #[.pointer (some ⟨B, 0, none⟩), .int .u8 c] w fun e w' => e = .returned (.bool (isAt c (rest s i))) ∧ ∃ n, w' = w.drewN n := by
  have hR := Lib.hid hr
  have h0 := hr.c0
  have h1 := hr.c1
  clear hr
  by_cases he : i < s.size
  · have hd : ((i : Int) == (s.size : Int)) = false := by rw [beq_eq_false_iff_ne]; omega
    go_enter Tryz.func111, Tryz.ntmps111
    go_wp2_with (fail)
    go_quiet ((go_at_call 112; exact Calls.quiet_of (ended_calls _ _ _ _ (hR.out.drewN _))))
    go_wp2
    go_ret
    exact ⟨ret_bool (by rw [rest_lt he]; rfl), _, rfl⟩
  · have hd : ((i : Int) == (s.size : Int)) = true := by rw [beq_iff_eq]; omega
    go_enter Tryz.func111, Tryz.ntmps111
    go_wp2_with (fail)
    go_quiet ((go_at_call 112; exact Calls.quiet_of (ended_calls _ _ _ _ (hR.out.drewN _))))
    go_wp2
    go_ret
    exact ⟨ret_bool (by rw [rest_ge (by omega)]; rfl), _, rfl⟩

/-- Blanks that stand first are passed over. -/
def skip : List UInt8 → List UInt8
  | [] => []
  | b :: l => if (b.toNat : Int) == 32 then skip l else b :: l
theorem skip_at {l : List UInt8} (h : isAt 32 l = false) : skip l = l := by
  cases l with
  | nil => rfl
  | cons b l => simp only [isAt] at h; simp [skip, h]
theorem isAt_lt {s : ByteArray} {i : Nat} {c : Int} (h : isAt c (rest s i) = true) : i < s.size := by
  rcases Nat.lt_or_ge i s.size with h' | h'
  · exact h'
  · rw [rest_ge h'] at h; cases h
theorem skip_lt {s : ByteArray} {i : Nat} (h : isAt 32 (rest s i) = true) : skip (rest s i) = skip (rest s (i + 1)) := by
  have hl := isAt_lt h
  rw [rest_lt hl] at h ⊢
  simp only [isAt] at h
  simp [skip, h]
/-- The reader's place has moved to where l is left. -/
def Moved (B : Nat) (s : ByteArray) (l : List UInt8) (w w' : World) : Prop := ∃ j, j ≤ s.size ∧ rest s j = l ∧ Rd w' B s j ∧ Gr B w w'

set_option maxHeartbeats 400000 in
theorem blanks_calls (w : World) (B : Nat) (s : ByteArray) (i : Nat) (hr : Rd w B s i) (hi : i ≤ s.size) (hs : s.size ≤ 9223372036854775807) :
    Calls Tryz.prog 172 #[.pointer (some ⟨B, 0, none⟩)] w fun e w' => e = .returned (.tuple #[]) ∧ Moved B s (skip (rest s i)) w w' := by
  have hR := Lib.hid hr
  clear hr
  go_enter Tryz.func172, Tryz.ntmps172
  go_wp2
  go_loopg [] (s.size - i) (fun k wr => ∃ j : Nat, j ≤ s.size ∧ s.size - j ≤ k ∧ Hid (skip (rest s j) = skip (rest s i)) ∧ Hid (Rd wr B s j) ∧ Hid (Gr B w wr))
  case atStart => exact ⟨i, hi, Nat.le_refl _, rfl, hR, Gr.refl _ _⟩
  case round =>
    obtain ⟨j, hj, hm, hk, hRj, hG⟩ := hrel
    by_cases hb : isAt 32 (rest s j) = true
    · have hlt := isAt_lt hb
      go_wp2_with (go_at_call 111; refine (is_calls _ _ _ _ _ hRj.out hj hs).mono ?_; rintro e w1 ⟨rfl, n, rfl⟩; have h1 := hRj.out.c1; have h2 := hRj.out.f1)
      go_roundg (s.size - (j + 1))
      case measure => omega
      case rel => exact ⟨j + 1, by omega, Nat.le_refl _, (skip_lt hb).symm.trans hk.out, (hRj.out.drewN _).setCell (j + 1), (hG.out.drewN _).setCell _ _⟩
    · have hb' : isAt 32 (rest s j) = false := by simpa using hb
      go_wp2_with (go_at_call 111; refine (is_calls _ _ _ _ _ hRj.out hj hs).mono ?_; rintro e w1 ⟨rfl, n, rfl⟩)
      go_end0
      exact ⟨rfl, j, hj, by rw [← hk.out, skip_at hb'], hRj.out.drewN _, hG.out.drewN _⟩
end Sy
end Go.Proofs.YthoealembhkaoaaGreatDoor
