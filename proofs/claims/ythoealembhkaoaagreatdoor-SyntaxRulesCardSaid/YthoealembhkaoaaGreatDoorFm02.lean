import Derived.Test.YthoealembhkaoaaGreatDoorCards
import Derived.Test.YthoealembhkaoaaGreatDoorTie
import Derived.Test.YthoealembhkaoaaGreatDoorFm01
import Derived.ProofKit
import Derived.OpenShut
import Derived.Deep.DeepHandedRow
import Derived.Lib.LaidTab
import Derived.Lib.LaidU8T
import Derived.Shelf.Vars
namespace Go.Proofs.YthoealembhkaoaaGreatDoor
open Go.ChangeShapes Go.WideShapes Go.ChangeAt Go.RowKit
namespace Sy
set_option linter.unusedVariables false
set_option maxRecDepth 100000

theorem own : ownKnob Tryz.prog.godebug = none := by kernel_rfl
/-- What every row of this seat lists. -/
def laidList : List (String × DataW Unit) := [("unicode/utf8.acceptRanges", Rows.laid_unicode_utf8_acceptRanges), ("unicode/utf8.first", Rows.laid_unicode_utf8_first)]
def u8Ren : Go.Shelf.Ren := ⟨fun n => n, fun | 119 => 143 | 138 => 145 | 139 => 146 | n => n, fun | 3 => 1 | 4 => 2 | n => n⟩
theorem u8Types : U8Types Tryz.prog u8Ren := ⟨Tryz.underlying5, Tryz.underlying143, Tryz.underlying145, Tryz.underlying146⟩
theorem u8Extra : U8Extra Tryz.prog u8Ren := ⟨by kernel_rfl, by kernel_rfl, by kernel_rfl, by kernel_rfl, by kernel_rfl, by kernel_rfl, by kernel_rfl⟩
theorem accept_eq : (Rows.laid_unicode_utf8_acceptRanges : DataW Unit) = Lib.acceptData := by kernel_rfl
theorem first_eq : (Rows.laid_unicode_utf8_first : DataW Unit) = Lib.firstData := by kernel_rfl
/-- What the row's list and the world's shape give. -/
theorem env_of_laid {W : World} (hL : laidMetH Tryz.prog laidList W) (hsh : W.ShapedOpen Tryz.prog) : Env W where
  m := cell_of_shapedOpen_int (g := 0) (t := 3) (zero := #[.int .i64 0]) hsh (of_decide_eq_true (by kernel_rfl)) (by kernel_rfl) rfl (by kernel_rfl) (by kernel_rfl) Tryz.underlying3
  u := by
    have h1 := Lib.laidMet.reads hL (n := "unicode/utf8.first") (d := Rows.laid_unicode_utf8_first) (by simp [laidList])
    have h2 := Lib.laidMet.reads hL (n := "unicode/utf8.acceptRanges") (d := Rows.laid_unicode_utf8_acceptRanges) (by simp [laidList])
    rw [first_eq] at h1
    rw [accept_eq] at h2
    exact utf8Tabs_of_readsT u8Types u8Extra h1 h2
def fillFirst : Obj → Obj
  | .cells _ t frozen => .cells (Lib.firstTab.map fun z => Value.int .u8 z).toArray t frozen
  | o => o
def fillAccept : Obj → Obj
  | .cells _ t frozen => .cells ((List.range 16).flatMap fun i => [Value.int .u8 (Lib.accLo i : Int), .int .u8 (Lib.accHi i : Int)]).toArray t frozen
  | o => o
/-- A world for the witness. -/
noncomputable def laidWorld (os : Os) : World :=
  { World.holding Tryz.prog os ⟨#[], #[], []⟩ with heap := Array.modify (Array.modify (World.holding Tryz.prog os ⟨#[], #[], []⟩).heap 1 fillFirst) 2 fillAccept }
theorem laid_met (os : Os) (args : Array Value) : laidMet Tryz.prog laidList ((laidWorld os).forCall (fun _ _ => 0) ⟨#[], args, []⟩).memory :=
  laidMet_of_run' 8 (by kernel_rfl) (by kernel_rfl)
end Sy
end Go.Proofs.YthoealembhkaoaaGreatDoor
namespace Go.Proofs.YthoealembhkaoaaGreatDoor
open Go.RowKit
namespace Sy
set_option linter.unusedVariables false
def isLetter (c : Int) : Bool := (decide (97 ≤ c) && decide (c ≤ 122)) || (decide (65 ≤ c) && decide (c ≤ 90))
def isDigit (c : Int) : Bool := decide (48 ≤ c) && decide (c ≤ 57)
def inType (c : Int) : Bool := isLetter c || isDigit c || decide (c = 45) || decide (c = 46)
/-- A hexadecimal digit's value, or -1. -/
def digit (c : Int) : Int := if 48 ≤ c ∧ c ≤ 57 then c - 48 else if 97 ≤ c ∧ c ≤ 102 then c - 87 else if 65 ≤ c ∧ c ≤ 70 then c - 55 else -1
def isBlank (r : Int) : Bool := decide (9 ≤ r ∧ r ≤ 13 ∨ r = 0x85 ∨ r = 0xA0 ∨ r = 0x1680 ∨ 0x2000 ≤ r ∧ r ≤ 0x200A ∨ r = 0x2028 ∨ r = 0x2029 ∨ r = 0x202F ∨ r = 0x205F ∨ r = 0x3000)
def goes (r : Int) : Bool := decide (0 ≤ r ∧ r < 32 ∨ 127 ≤ r ∧ r ≤ 0x9F ∨ r = 0xAD ∨ r = 0x34F ∨ r = 0x1806 ∨ 0x180B ≤ r ∧ r ≤ 0x180E ∨ 0x200B ≤ r ∧ r ≤ 0x200F ∨ 0x202A ≤ r ∧ r ≤ 0x202E ∨ 0x2060 ≤ r ∧ r ≤ 0x206F ∨ 0xFE00 ≤ r ∧ r ≤ 0xFE0F ∨ r = 0xFEFF ∨ 0xFFF9 ≤ r ∧ r ≤ 0xFFFC)
def refused (r : Int) : Bool := decide (r < 0 ∨ 0xD800 ≤ r ∧ r ≤ 0xF8FF ∨ 0xFFFD ≤ r ∧ r ≤ 0xFFFF ∨ 0xF0000 ≤ r)

set_option maxHeartbeats 400000 in
theorem isLetter_calls (c : Int) (w : World) :
    Calls Tryz.prog 67 #[.int .u8 c] w fun e w' => e = .returned (.bool (isLetter c)) ∧ w = w' := by
  go_enter Tryz.func67, Tryz.ntmps67
  go_wp2
  all_goals (go_ret; exact ⟨ret_bool (by rw [Bool.eq_iff_iff]; simp [isLetter]; omega), rfl⟩)
theorem isDigit_calls (c : Int) (w : World) :
    Calls Tryz.prog 118 #[.int .u8 c] w fun e w' => e = .returned (.bool (isDigit c)) ∧ w = w' := by
  go_enter Tryz.func118, Tryz.ntmps118
  go_wp2
  all_goals (go_ret; exact ⟨ret_bool (by rw [Bool.eq_iff_iff]; simp [isDigit]; omega), rfl⟩)
theorem inType_calls (c : Int) (w : World) :
    Calls Tryz.prog 69 #[.int .u8 c] w fun e w' => e = .returned (.bool (inType c)) ∧ w = w' := by
  go_enter Tryz.func69, Tryz.ntmps69
  go_wp2_with (first | (go_at_call 67; refine (isLetter_calls _ _).mono ?_; rintro e w' ⟨rfl, rfl⟩) | (go_at_call 118; refine (isDigit_calls _ _).mono ?_; rintro e w' ⟨rfl, rfl⟩))
  all_goals (go_ret; exact ⟨ret_bool (by rw [Bool.eq_iff_iff]; simp [inType, *]), rfl⟩)
theorem digit_calls (c : Int) (w : World) (h0 : 0 ≤ c) (h1 : c ≤ 255) :
    Calls Tryz.prog 199 #[.int .u8 c] w fun e w' => e = .returned (.int .i64 (digit c)) ∧ w = w' := by
  go_enter Tryz.func199, Tryz.ntmps199
  go_wp2
  all_goals (go_ret; exact ⟨ret_int (by unfold digit; (repeat' split) <;> omega), rfl⟩)
set_option maxHeartbeats 1000000 in
theorem isBlank_calls (r : Int) (w : World) :
    Calls Tryz.prog 141 #[.int .i32 r] w fun e w' => e = .returned (.bool (isBlank r)) ∧ w = w' := by
  go_enter Tryz.func141, Tryz.ntmps141
  go_wp2
  all_goals (go_ret; exact ⟨ret_bool (by rw [Bool.eq_iff_iff]; simp [isBlank]; (try simp only [beq_iff_eq, beq_eq_false_iff_ne, ne_eq] at *); omega), rfl⟩)
set_option maxHeartbeats 1000000 in
theorem goes_calls (r : Int) (w : World) :
    Calls Tryz.prog 142 #[.int .i32 r] w fun e w' => e = .returned (.bool (goes r)) ∧ w = w' := by
  go_enter Tryz.func142, Tryz.ntmps142
  go_wp2
  all_goals (go_ret; exact ⟨ret_bool (by rw [Bool.eq_iff_iff]; simp [goes]; (try simp only [beq_iff_eq, beq_eq_false_iff_ne, ne_eq] at *); omega), rfl⟩)
set_option maxHeartbeats 1000000 in
theorem refused_calls (r : Int) (w : World) :
    Calls Tryz.prog 143 #[.int .i32 r] w fun e w' => e = .returned (.bool (refused r)) ∧ w = w' := by
  go_enter Tryz.func143, Tryz.ntmps143
  go_wp2
  all_goals (go_ret; exact ⟨ret_bool (by rw [Bool.eq_iff_iff]; simp [refused]; (try simp only [beq_iff_eq, beq_eq_false_iff_ne, ne_eq] at *); omega), rfl⟩)
/-- What becomes of a character: itself or another, whether it stays, whether it is not taken. -/
def mapR (r : Int) : Int × Bool × Bool := if isBlank r then (32, true, false) else if goes r then (0, false, false) else if refused r then (0, false, true) else (r, true, false)
def foldR (r : Int) : Int :=
  if 65 ≤ r ∧ r ≤ 90 ∨ 0xC0 ≤ r ∧ r ≤ 0xDE ∧ r ≠ 0xD7 ∨ 0x391 ≤ r ∧ r ≤ 0x3A9 ∧ r ≠ 0x3A2 ∨ 0x410 ≤ r ∧ r ≤ 0x42F then r + 32
  else if 0x400 ≤ r ∧ r ≤ 0x40F then r + 80
  else if r = 0x1E9E then 0xDF
  else if (0x100 ≤ r ∧ r ≤ 0x137 ∨ 0x14A ≤ r ∧ r ≤ 0x177) ∧ r % 2 = 0 then r + 1
  else r
set_option maxHeartbeats 1000000 in
theorem map_calls (r : Int) (w : World) :
    Calls Tryz.prog 100 #[.int .i32 r] w fun e w' => e = .returned (.tuple #[.int .i32 (mapR r).1, .bool (mapR r).2.1, .bool (mapR r).2.2]) ∧ w = w' := by
  by_cases h1 : isBlank r = true
  · have : mapR r = (32, true, false) := by simp [mapR, h1]
    rw [this]; clear this
    go_enter Tryz.func100, Tryz.ntmps100
    go_wp2_with (first | (go_at_call 141; refine (isBlank_calls _ _).mono ?_; rintro e w' ⟨rfl, rfl⟩))
    go_ret3
    exact ⟨rfl, rfl⟩
  have h1' : isBlank r = false := by simpa using h1
  by_cases h2 : goes r = true
  · have : mapR r = (0, false, false) := by simp [mapR, h1', h2]
    rw [this]; clear this
    go_enter Tryz.func100, Tryz.ntmps100
    go_wp2_with (first | (go_at_call 141; refine (isBlank_calls _ _).mono ?_; rintro e w' ⟨rfl, rfl⟩) | (go_at_call 142; refine (goes_calls _ _).mono ?_; rintro e w' ⟨rfl, rfl⟩))
    go_ret3
    exact ⟨rfl, rfl⟩
  have h2' : goes r = false := by simpa using h2
  by_cases h3 : refused r = true
  · have : mapR r = (0, false, true) := by simp [mapR, h1', h2', h3]
    rw [this]; clear this
    go_enter Tryz.func100, Tryz.ntmps100
    go_wp2_with (first | (go_at_call 141; refine (isBlank_calls _ _).mono ?_; rintro e w' ⟨rfl, rfl⟩) | (go_at_call 142; refine (goes_calls _ _).mono ?_; rintro e w' ⟨rfl, rfl⟩) | (go_at_call 143; refine (refused_calls _ _).mono ?_; rintro e w' ⟨rfl, rfl⟩))
    go_ret3
    exact ⟨rfl, rfl⟩
  · have h3' : refused r = false := by simpa using h3
    have : mapR r = (r, true, false) := by simp [mapR, h1', h2', h3']
    rw [this]; clear this
    go_enter Tryz.func100, Tryz.ntmps100
    go_wp2_with (first | (go_at_call 141; refine (isBlank_calls _ _).mono ?_; rintro e w' ⟨rfl, rfl⟩) | (go_at_call 142; refine (goes_calls _ _).mono ?_; rintro e w' ⟨rfl, rfl⟩) | (go_at_call 143; refine (refused_calls _ _).mono ?_; rintro e w' ⟨rfl, rfl⟩))
    go_ret3
    exact ⟨rfl, rfl⟩
set_option maxHeartbeats 2000000 in
theorem fold_calls (r : Int) (w : World) (h0 : 0 ≤ r) (h1 : r ≤ 0x10FFFF) :
    Calls Tryz.prog 101 #[.int .i32 r] w fun e w' => e = .returned (.int .i32 (foldR r)) ∧ w = w' := by
  go_enter Tryz.func101, Tryz.ntmps101
  go_wp2
  all_goals (go_ret; exact ⟨ret_int (by (try simp only [beq_iff_eq, beq_eq_false_iff_ne, ne_eq, bne_iff_ne, bne_eq_false_iff_eq] at *); unfold foldR; (repeat' split) <;> omega), rfl⟩)
end Sy
end Go.Proofs.YthoealembhkaoaaGreatDoor
namespace Go.Proofs.YthoealembhkaoaaGreatDoor
open Go.RowKit
namespace Sy
set_option linter.unusedVariables false
/-- What is left of a text behind i bytes. -/
abbrev rest (s : ByteArray) (i : Nat) : List UInt8 := s.data.toList.drop i
theorem rest_lt {s : ByteArray} {i : Nat} (h : i < s.size) : rest s i = s[i] :: rest s (i + 1) := by
  unfold rest
  rw [List.drop_eq_getElem_cons (by simpa using h)]
  rfl
theorem rest_ge {s : ByteArray} {i : Nat} (h : s.size ≤ i) : rest s i = [] := by
  unfold rest
  exact List.drop_of_length_le (by simpa using h)
/-- Does a byte stand first? -/
def isAt (c : Int) : List UInt8 → Bool
  | [] => false
  | b :: _ => (b.toNat : Int) == c

/-- The reader lies whole in block B: its text, its place. -/
structure Rd (w : World) (B : Nat) (s : ByteArray) (i : Nat) : Prop where
  heap : w.heap[B]? = some (.cells #[.string s, .int .i64 (i : Int)] 71 (0, 0))
section
variable {w : World} {B : Nat} {s : ByteArray} {i : Nat}
theorem Rd.c0 (h : Rd w B s i) : w.cell? ⟨B, 0, none⟩ = some (.string s) := by simp [World.cell?, h.heap]
theorem Rd.c1 (h : Rd w B s i) : w.cell? ⟨B, 1, none⟩ = some (.int .i64 (i : Int)) := by simp [World.cell?, h.heap]
theorem Rd.f1 (h : Rd w B s i) : w.frozen? ⟨B, 1, none⟩ = false := by simp [World.frozen?, h.heap]
theorem Rd.drewN (h : Rd w B s i) (n : Nat) : Rd (w.drewN n) B s i := ⟨h.heap⟩
theorem Rd.lt (h : Rd w B s i) : B < w.heap.size := lt_of_block h.heap
theorem Rd.setCell (h : Rd w B s i) (j : Nat) : Rd (w.setCell ⟨B, 1, none⟩ (.int .i64 (j : Int))) B s j := by
  refine ⟨?_⟩
  have hlt := h.lt
  have h' : w.heap[B] = .cells #[.string s, .int .i64 (i : Int)] 71 (0, 0) := by simpa [Array.getElem?_eq_getElem hlt] using h.heap
  show (w.heap.modify B _)[B]? = _
  rw [Array.getElem?_eq_getElem (by simpa using hlt), Array.getElem_modify_self, h']
  rfl
end
/-- Whatever block but B was there is as it was. -/
abbrev Gr (B : Nat) (w w' : World) : Prop := w.grownBy w' (some B)
theorem Gr.refl (B : Nat) (w : World) : Gr B w w := ⟨rfl, rfl, rfl, Nat.le_refl _, fun _ _ _ => rfl⟩
theorem Gr.trans {B : Nat} {a b c : World} (h : Gr B a b) (k : Gr B b c) : Gr B a c :=
  ⟨k.os.trans h.os, k.tape.trans h.tape, k.output.trans h.output, Nat.le_trans h.size k.size, fun i hi hne => (k.block i (Nat.lt_of_lt_of_le hi h.size) hne).trans (h.block i hi hne)⟩
theorem Gr.drewN {B : Nat} {a b : World} (h : Gr B a b) (n : Nat) : Gr B a (b.drewN n) := ⟨h.os, h.tape, h.output, h.size, h.block⟩
theorem Gr.setCell {B : Nat} {a b : World} (h : Gr B a b) (o : Nat) (v : Value) : Gr B a (b.setCell ⟨B, o, none⟩ v) :=
  h.trans ⟨rfl, rfl, rfl, by simp [World.setCell], fun k _ hne => Below.heap_setCell _ _ _ _ (by intro e; exact hne (by simp [e]))⟩

set_option maxHeartbeats 400000 in
theorem ended_calls (w : World) (B : Nat) (s : ByteArray) (i : Nat) (hr : Rd w B s i) :
    Calls Tryz.prog 112 #[.pointer (some ⟨B, 0, none⟩)] w fun e w' => e = .returned (.bool ((i : Int) == (s.size : Int))) ∧ ∃ n, w' = w.drewN n := by
  have h0 := hr.c0
  have h1 := hr.c1
  clear hr
  go_enter Tryz.func112, Tryz.ntmps112
  go_wp2
  go_quiet (fail)
  go_wp2
  go_ret
  exact ⟨rfl, _, rfl⟩
set_option maxHeartbeats 400000 in
theorem is_calls (w : World) (B : Nat) (s : ByteArray) (i : Nat) (c : Int) (hr : Rd w B s i) (hi : i ≤ s.size) (hs : s.size ≤ 9223372036854775807) :
    Calls Tryz.prog 111 #[.pointer (some ⟨B, 0, none⟩), .int .u8 c] w fun e w' => e = .returned (.bool (isAt c (rest s i))) ∧ ∃ n, w' = w.drewN n := by
  have hR := Lib.hid hr
  have h0 := hr.c0
  have h1 := hr.c1
  clear hr
  by_cases he : i < s.size
  · have hd : ((i : Int) == (s.size : Int)) = false := by rw [beq_eq_false_iff_ne]; omega
    go_enter Tryz.func111, Tryz.ntmps111
    go_wp2_with (fail)
    go_quiet ((go_at_call 112; exact Calls.quiet_of (ended_calls _ _ _ _ (hR.out.drewN _))))
    go_wp2
    go_ret
    exact ⟨ret_bool (by rw [rest_lt he]; rfl), _, rfl⟩
  · have hd : ((i : Int) == (s.size : Int)) = true := by rw [beq_iff_eq]; omega
    go_enter Tryz.func111, Tryz.ntmps111
    go_wp2_with (fail)
    go_quiet ((go_at_call 112; exact Calls.quiet_of (ended_calls _ _ _ _ (hR.out.drewN _))))
    go_wp2
    go_ret
    exact ⟨ret_bool (by rw [rest_ge (by omega)]; rfl), _, rfl⟩

/-- Blanks that stand first are passed over. -/
def skip : List UInt8 → List UInt8
  | [] => []
  | b :: l => if (b.toNat : Int) == 32 then skip l else b :: l
theorem skip_at {l : List UInt8} (h : isAt 32 l = false) : skip l = l := by
  cases l with
  | nil => rfl
  | cons b l => simp only [isAt] at h; simp [skip, h]
theorem isAt_lt {s : ByteArray} {i : Nat} {c : Int} (h : isAt c (rest s i) = true) : i < s.size := by
  rcases Nat.lt_or_ge i s.size with h' | h'
  · exact h'
  · rw [rest_ge h'] at h; cases h
theorem skip_lt {s : ByteArray} {i : Nat} (h : isAt 32 (rest s i) = true) : skip (rest s i) = skip (rest s (i + 1)) := by
  have hl := isAt_lt h
  rw [rest_lt hl] at h ⊢
  simp only [isAt] at h
  simp [skip, h]
/-- The reader's place has moved to where l is left. -/
def Moved (B : Nat) (s : ByteArray) (l : List UInt8) (w w' : World) : Prop := ∃ j, j ≤ s.size ∧ rest s j = l ∧ Rd w' B s j ∧ Gr B w w'

set_option maxHeartbeats 400000 in
theorem blanks_calls (w : World) (B : Nat) (s : ByteArray) (i : Nat) (hr : Rd w B s i) (hi : i ≤ s.size) (hs : s.size ≤ 9223372036854775807) :
    Calls Tryz.prog 172 #[.pointer (some ⟨B, 0, none⟩)] w fun e w' => e = .returned (.tuple #[]) ∧ Moved B s (skip (rest s i)) w w' := by
  have hR := Lib.hid hr
  clear hr
  go_enter Tryz.func172, Tryz.ntmps172
  go_wp2
  go_loopg [] (s.size - i) (fun k wr => ∃ j : Nat, j ≤ s.size ∧ s.size - j ≤ k ∧ Hid (skip (rest s j) = skip (rest s i)) ∧ Hid (Rd wr B s j) ∧ Hid (Gr B w wr))
  case atStart => exact ⟨i, hi, Nat.le_refl _, rfl, hR, Gr.refl _ _⟩
  case round =>
    obtain ⟨j, hj, hm, hk, hRj, hG⟩ := hrel
    by_cases hb : isAt 32 (rest s j) = true
    · have hlt := isAt_lt hb
      go_wp2_with (go_at_call 111; refine (is_calls _ _ _ _ _ hRj.out hj hs).mono ?_; rintro e w1 ⟨rfl, n, rfl⟩; have h1 := hRj.out.c1; have h2 := hRj.out.f1)
      go_roundg (s.size - (j + 1))
      case measure => omega
      case rel => exact ⟨j + 1, by omega, Nat.le_refl _, (skip_lt hb).symm.trans hk.out, (hRj.out.drewN _).setCell (j + 1), (hG.out.drewN _).setCell _ _⟩
    · have hb' : isAt 32 (rest s j) = false := by simpa using hb
      go_wp2_with (go_at_call 111; refine (is_calls _ _ _ _ _ hRj.out hj hs).mono ?_; rintro e w1 ⟨rfl, n, rfl⟩)
      go_end0
      exact ⟨rfl, j, hj, by rw [← hk.out, skip_at hb'], hRj.out.drewN _, hG.out.drewN _⟩
end Sy
end Go.Proofs.YthoealembhkaoaaGreatDoor
namespace Go.Proofs.YthoealembhkaoaaGreatDoor
open Go.RowKit
namespace Sy
set_option linter.unusedVariables false

def dot : ByteArray := ⟨#[46]⟩
/-- A number without a nought ahead. -/
def isNum (l : List UInt8) : Bool := digits l && !(decide (1 < l.length) && (l.head?.map (·.toNat) == some 48))
def isOid (l : List UInt8) : Bool := (Lib.split l [46]).all isNum && decide (1 < (Lib.split l [46]).length)
def isType (l : List UInt8) : Bool :=
  !l.isEmpty && decide (l.length ≤ 64) && (if (l.head?.any fun b => isLetter b.toNat) then l.all fun b => inType b.toNat && !decide ((b.toNat : Int) = 46) else isOid l)

theorem pieces_data (s : ByteArray) : (Lib.splitB dot 0 (Lib.countB s dot) s).map (·.data.toList) = Lib.split s.data.toList [46] := by
  rw [Lib.splitB_data]; rfl
theorem pieces_small (sep : ByteArray) : ∀ (k : Nat) (s : ByteArray), ∀ p ∈ Lib.splitB sep 0 k s, p.size ≤ s.size
  | 0, s, p, h => by simp only [Lib.splitB, List.mem_singleton] at h; rw [h]; exact Nat.le_refl _
  | k + 1, s, p, h => by
    unfold Lib.splitB at h
    split at h
    · simp only [List.mem_singleton] at h; rw [h]; exact Nat.le_refl _
    · rcases List.mem_cons.1 h with h | h
      · subst h; simp [ByteArray.size_extract]; omega
      · have := pieces_small sep k _ p h
        simp [ByteArray.size_extract] at this; omega
/-- One piece, as the code tests it. -/
def badNum (p : ByteArray) : Bool := !isNum p.data.toList

theorem isNum_no {p : ByteArray} (h : p.data.toList = []) : isNum p.data.toList = false := by rw [h]; rfl
theorem isNum_eq (p : ByteArray) : isNum p.data.toList = (!p.data.toList.isEmpty && !(decide (1 < p.data.toList.length) && (p.data.toList.head?.map (·.toNat) == some 48)) && (Lib.trimS p.data.toList digitSet.data.toList == [])) := by
  rw [trim_digits]; unfold isNum digits
  cases p.data.toList with
  | nil => rfl
  | cons a l => simp [Bool.and_comm]

set_option maxHeartbeats 1000000 in
theorem isOid_calls (s : ByteArray) (w : World) (hs : s.size < 4294967281) (he : Env w) :
    Calls Tryz.prog 68 #[.string s] w fun e w' => e = .returned (.bool (isOid s.data.toList)) ∧ Below w.heap.size w w' := by
  obtain ⟨m, hm⟩ := he.m
  have hc := Tryz.strings_Split s dot m w hs hm (by decide)
  have hiso : isOid s.data.toList = ((Lib.splitB dot 0 (Lib.countB s dot) s).all (fun p => isNum p.data.toList) && decide (1 < (Lib.splitB dot 0 (Lib.countB s dot) s).length)) := by
    unfold isOid; rw [← pieces_data, List.all_map]; simp [Function.comp_def]
  have hlen : (Lib.splitB dot 0 (Lib.countB s dot) s).length = Lib.countB s dot + 1 := Lib.splitB_all dot (by decide) 0 _ s rfl
  rw [hiso]
  have hsz := pieces_small dot (Lib.countB s dot) s
  have hn : Lib.countB s dot + 1 ≤ 4294967281 := by have := Lib.countB_le dot (by decide) _ s (Nat.le_refl _); omega
  generalize hps : Lib.splitB dot 0 (Lib.countB s dot) s = ps at *
  generalize Lib.countB s dot + 1 = n at *
  subst hlen
  clear hps hiso hm he
  have Hsz := Lib.hid hsz
  clear hsz
  go_enter Tryz.func68, Tryz.ntmps68
  go_wp2_with (go_at_call 117; refine hc.mono ?_; rintro e w1 ⟨rfl, rfl⟩)
  clear hc
  have hB0 : Below w.heap.size w (w.alloc (Obj.cells (List.map Value.string ps).toArray 9)) := (Below.refl _ _).alloc (Nat.le_refl _) _
  have hcell : ∀ k (h : k < ps.length), (w.alloc (Obj.cells (List.map Value.string ps).toArray 9)).cell? ⟨w.heap.size, k, none⟩ = some (.string ps[k]) := by
    intro k h
    rw [World.cell?_alloc_new]
    simp [h]
  have HB0 := Lib.hid hB0
  have Hcell := Lib.hid hcell
  clear hB0 hcell
  obtain ⟨w1, hw1⟩ : ∃ w1, w1 = w.alloc (Obj.cells (List.map Value.string ps).toArray 9) := ⟨_, rfl⟩
  rw [← hw1] at HB0 Hcell ⊢
  have hz : w.heap.size < w1.heap.size := by rw [hw1]; simp
  clear hw1
  go_loopg [10] ps.length (fun k v wr => ∃ j : Nat, j ≤ ps.length ∧ ps.length - j ≤ k ∧ v = .int .i64 j ∧ Hid (∀ p ∈ ps.take j, isNum p.data.toList = true) ∧ Hid (Below w1.heap.size w1 wr))
  case atStart => exact ⟨0, Nat.zero_le _, Nat.le_refl _, rfl, (fun p hp => by simp at hp), Below.refl _ _⟩
  case round =>
    obtain ⟨j, hj, hk, rfl, hall, hbr⟩ := hrel
    by_cases hlt : j < ps.length
    · have hcj : wr.cell? ⟨w.heap.size, j, none⟩ = some (.string ps[j]) := by rw [hbr.out.cell (p := ⟨w.heap.size, j, none⟩) hz]; exact Hcell.out j hlt
      have hpsz := Hsz.out ps[j] (List.getElem_mem hlt)
      have Hall : Hid (isNum ps[j].data.toList = true → ∀ p ∈ ps.take (j + 1), isNum p.data.toList = true) := by
        intro h p hp
        rw [List.take_succ_eq_append_getElem hlt, List.mem_append] at hp
        rcases hp with hp | hp
        · exact hall.out p hp
        · simp at hp; rw [hp]; exact h
      have Hno : Hid (isNum ps[j].data.toList = false → (ps.all (fun p => isNum p.data.toList)) = false) := by
        intro h
        rw [← Bool.not_eq_true, List.all_eq_true]
        intro hh
        rw [hh _ (List.getElem_mem hlt)] at h
        cases h
      generalize ps[j] = p at *
      have Hw : Hid (Below w.heap.size w wr) := HB0.out.trans (hbr.out.mono (by omega))
      have hret0 : ∀ wx : World, isNum p.data.toList = false → Below w.heap.size w wx → Ending.returned (.bool false) = .returned (.bool (ps.all (fun p => isNum p.data.toList) && decide (1 < ps.length))) ∧ Below w.heap.size w wx := fun _ h hb => ⟨by rw [Hno.out h]; rfl, hb⟩
      have Hret := Lib.hid hret0
      clear hret0
      by_cases hp0 : p.data.toList = []
      · have h2 := toList_nil p hp0
        have H0 := Lib.hid (isNum_no hp0)
        clear hp0
        go_wp2_with fail
        go_ret
        exact Hret.out _ H0.out Hw.out
      · have h2 := toList_ne p hp0
        have Hx := Lib.hid (isNum_eq p)
        have hcx := fun W => trim_calls p W (by omega)
        generalize hX : Lib.trimS p.data.toList digitSet.data.toList = x at *
        clear hX
        have hl : p.data.toList.length = p.size := by simp
        have hh : ∀ h : 0 < p.size, p.data.toList.head?.map (·.toNat) = some (p[0]'h).toNat := by
          intro h
          have : p.data.toList = p[0] :: p.data.toList.drop 1 := by
            have := rest_lt h; simpa [rest] using this
          rw [this]; rfl
        have HL := Lib.hid hl
        have HH := Lib.hid hh
        have HP := Lib.hid hp0
        clear hl hh hp0
        go_wp2_with (go_at_call 62; refine (hcx _).mono ?_; rintro e w2 ⟨rfl, hb2⟩)
        · have q1 : (1 : Int) < p.size := by assumption
          have q2 : 0 < p.size := by omega
          have q3 : ((p[0]'q2).toNat : Int) = 48 := by assumption
          go_ret
          refine Hret.out _ ?_ Hw.out
          rw [Hx.out, HL.out, HH.out q2]
          have : (p[0]'q2).toNat = 48 := by omega
          rw [this]
          have : 1 < p.size := by omega
          simp [this]
        · have q1 : (1 : Int) < p.size := by assumption
          have q2 : 0 < p.size := by omega
          have q3 : ¬ ((p[0]'q2).toNat : Int) = 48 := by assumption
          have q4 : ((p[0]'q2).toNat : Int) == 48 ∨ (!x.isEmpty) = true := by assumption
          go_ret
          refine Hret.out _ ?_ (Hw.out.trans (hb2.mono (by have := Hw.out.size; omega)))
          rw [Hx.out]
          rcases q4 with q4 | q4
          · exact absurd (beq_iff_eq.1 q4) q3
          · cases x with
            | nil => simp at q4
            | cons a l => simp
        · have q1 : (1 : Int) < p.size := by assumption
          have q2 : 0 < p.size := by omega
          have q3 : ¬ ((p[0]'q2).toNat : Int) = 48 := by assumption
          have q4 : (((p[0]'q2).toNat : Int) == 48) = false ∧ (!x.isEmpty) = false := by assumption
          go_roundg (ps.length - (j + 1))
          case measure => omega
          case rel =>
            refine ⟨j + 1, by omega, Nat.le_refl _, by go_num, Hall.out ?_, hbr.out.trans (hb2.mono hbr.out.size)⟩
            rw [Hx.out, HL.out, HH.out q2]
            obtain rfl : x = [] := by simpa using q4.2
            have q5 : ((p[0]'q2).toNat == 48) = false := by rw [beq_eq_false_iff_ne]; omega
            have q6 : p.data.toList.isEmpty = false := by simpa using HP.out
            simp [q6]
            omega
        · have q1 : (p.size : Int) ≤ 1 := by assumption
          have q4 : (!x.isEmpty) = true := by assumption
          go_ret
          refine Hret.out _ ?_ (Hw.out.trans (hb2.mono (by have := Hw.out.size; omega)))
          rw [Hx.out]
          cases x with
          | nil => simp at q4
          | cons a l => simp
        · have q1 : (p.size : Int) ≤ 1 := by assumption
          have q4 : (!x.isEmpty) = false := by assumption
          go_roundg (ps.length - (j + 1))
          case measure => omega
          case rel =>
            refine ⟨j + 1, by omega, Nat.le_refl _, by go_num, Hall.out ?_, hbr.out.trans (hb2.mono hbr.out.size)⟩
            rw [Hx.out, HL.out]
            obtain rfl : x = [] := by simpa using q4
            have q6 : p.data.toList.isEmpty = false := by simpa using HP.out
            simp [q6]
            omega
    · go_wp2_with fail
      go_ret
      refine ⟨ret_bool ?_, HB0.out.trans (hbr.out.mono (by omega))⟩
      have hje : j = ps.length := by omega
      have h := hall.out
      rw [hje, List.take_length] at h
      rw [List.all_eq_true.2 h, Bool.true_and, Bool.eq_iff_iff]
      simp
      omega
theorem isType_long {l : List UInt8} (h : ¬ l.length ≤ 64) : isType l = false := by simp [isType, h]
theorem isType_head {s : ByteArray} (h0 : 0 < s.size) (h1 : s.size ≤ 64) : isType s.data.toList = if isLetter ((s[0]'h0).toNat : Int) then s.data.toList.all (fun b => inType b.toNat && !decide ((b.toNat : Int) = 46)) else isOid s.data.toList := by
  have hr := rest_lt h0
  simp only [rest, List.drop_zero] at hr
  have hl : s.data.toList.length = s.size := by simp
  have he : s.data.toList.isEmpty = false := by rw [hr]; rfl
  have hh : s.data.toList.head? = some s[0] := by rw [hr]; rfl
  unfold isType
  rw [he, hh, hl]
  simp [h1]
theorem all_take {p : UInt8 → Bool} {s : ByteArray} {j : Nat} (h : j < s.size) (ha : ∀ b ∈ s.data.toList.take j, p b = true) (hb : p (s[j]'h) = true) : ∀ b ∈ s.data.toList.take (j + 1), p b = true := by
  intro b hm
  rw [List.take_succ_eq_append_getElem (by simpa using h), List.mem_append] at hm
  rcases hm with hm | hm
  · exact ha b hm
  · simp only [List.mem_singleton] at hm
    rw [hm]; exact hb
theorem all_no {p : UInt8 → Bool} {s : ByteArray} {j : Nat} (h : j < s.size) (hb : p (s[j]'h) = false) : s.data.toList.all p = false := by
  rw [← Bool.not_eq_true, List.all_eq_true]
  intro hh
  have := hh (s[j]'h) (by show s.data[j] ∈ s.data.toList; simp)
  rw [hb] at this
  cases this

set_option maxHeartbeats 1000000 in
theorem isType_calls (s : ByteArray) (w : World) (hs : s.size < 4294967281) (he : Env w) :
    Calls Tryz.prog 38 #[.string s] w fun e w' => e = .returned (.bool (isType s.data.toList)) ∧ Below w.heap.size w w' := by
  have hl : s.data.toList.length = s.size := by simp
  by_cases h0 : s.data.toList = []
  · have h2 := toList_nil s h0
    have hd : isType s.data.toList = false := by rw [h0]; rfl
    rw [hd]
    clear hd h0 hl
    go_enter Tryz.func38, Tryz.ntmps38
    go_wp2_with fail
    go_ret
    exact ⟨rfl, Below.refl _ _⟩
  have h2 := toList_ne s h0
  have hpos : 0 < s.size := by
    rw [← hl]; exact List.length_pos_iff.2 h0
  by_cases h64 : s.size ≤ 64
  · rw [isType_head hpos h64]
    clear h0 hl
    by_cases hlet : isLetter ((s[0]'hpos).toNat : Int) = true
    · rw [if_pos hlet]
      obtain ⟨r, hr⟩ : ∃ r, s.data.toList.all (fun b => inType b.toNat && !decide ((b.toNat : Int) = 46)) = r := ⟨_, rfl⟩
      rw [hr]
      have Hr := Lib.hid hr
      clear hr
      go_enter Tryz.func38, Tryz.ntmps38
      go_wp2_with (go_at_call 67; refine (isLetter_calls _ _).mono ?_; rintro e w' ⟨rfl, rfl⟩)
      go_loopg [21] s.size (fun k v wr => ∃ j : Nat, j ≤ s.size ∧ s.size - j ≤ k ∧ v = .int .i64 j ∧ Hid (∀ b ∈ s.data.toList.take j, (inType b.toNat && !decide ((b.toNat : Int) = 46)) = true) ∧ Hid (wr = w))
      case atStart => exact ⟨0, Nat.zero_le _, Nat.le_refl _, rfl, (fun p hp => by simp at hp), rfl⟩
      case round =>
        obtain ⟨j, hj, hk, rfl, hall, hw⟩ := hrel
        obtain rfl := hw.out
        by_cases hlt : j < s.size
        · by_cases ht : inType ((s[j]'hlt).toNat : Int) = true
          · by_cases h46 : ((s[j]'hlt).toNat : Int) = 46
            · have Hno := Lib.hid (all_no (p := fun b => inType b.toNat && !decide ((b.toNat : Int) = 46)) hlt (by simp [h46]))
              have h46' : (((s[j]'hlt).toNat : Int) == 46) = true := beq_iff_eq.2 h46
              clear h46
              go_wp2_with (go_at_call 69; refine (inType_calls _ _).mono ?_; rintro e w' ⟨rfl, rfl⟩)
              go_ret
              exact ⟨ret_bool (by rw [← Hr.out, Hno.out]), Below.refl _ _⟩
            · have Hall := Lib.hid (all_take (p := fun b => inType b.toNat && !decide ((b.toNat : Int) = 46)) hlt hall.out (by simp [ht]; simpa using h46))
              have h46' : (((s[j]'hlt).toNat : Int) == 46) = false := beq_eq_false_iff_ne.2 h46
              clear h46
              go_wp2_with (go_at_call 69; refine (inType_calls _ _).mono ?_; rintro e w' ⟨rfl, rfl⟩)
              go_roundg (s.size - (j + 1))
              case measure => omega
              case rel => exact ⟨j + 1, by omega, Nat.le_refl _, by go_num, Hall.out, rfl⟩
          · have Hno := Lib.hid (all_no (p := fun b => inType b.toNat && !decide ((b.toNat : Int) = 46)) hlt (by simp [ht]))
            have ht' : inType ((s[j]'hlt).toNat : Int) = false := by simpa using ht
            clear ht
            go_wp2_with (go_at_call 69; refine (inType_calls _ _).mono ?_; rintro e w' ⟨rfl, rfl⟩)
            go_ret
            exact ⟨ret_bool (by rw [← Hr.out, Hno.out]), Below.refl _ _⟩
        · go_wp2_with fail
          go_ret
          refine ⟨ret_bool ?_, Below.refl _ _⟩
          have hje : j = s.size := by omega
          have h := hall.out
          rw [List.take_of_length_le (by simp; omega)] at h
          rw [← Hr.out, List.all_eq_true.2 h]
    · have hlet' : isLetter ((s[0]'hpos).toNat : Int) = false := by simpa using hlet
      rw [if_neg hlet]
      clear hlet
      have he' := Lib.hid he
      clear he
      go_enter Tryz.func38, Tryz.ntmps38
      go_wp2_with (first | (go_at_call 67; refine (isLetter_calls _ _).mono ?_; rintro e w' ⟨rfl, rfl⟩) | (go_at_call 68; refine (isOid_calls _ _ hs he'.out).mono ?_; rintro e w1 ⟨rfl, hb⟩))
      go_ret
      exact ⟨rfl, hb⟩
  · rw [isType_long (by rw [hl]; exact h64)]
    clear h0 hl
    go_enter Tryz.func38, Tryz.ntmps38
    go_wp2_with fail
    go_ret
    exact ⟨rfl, Below.refl _ _⟩
end Sy
end Go.Proofs.YthoealembhkaoaaGreatDoor
