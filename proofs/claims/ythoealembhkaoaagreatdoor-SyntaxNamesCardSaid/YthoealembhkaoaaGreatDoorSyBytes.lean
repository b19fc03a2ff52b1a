import Derived.Test.YthoealembhkaoaaGreatDoorSyBase
namespace Go.Proofs.YthoealembhkaoaaGreatDoor
open Go.RowKit
namespace Sy
set_option linter.unusedVariables false
def isLetter (c : Int) : Bool := (decide (97 ≤ c) && decide (c ≤ 122)) || (decide (65 ≤ c) && decide (c ≤ 90))
def isDigit (c : Int) : Bool := decide (48 ≤ c) && decide (c ≤ 57)
def inType (c : Int) : Bool := isLetter c || isDigit c || decide (c = 45) || decide (c = 46)
/-- A hexadecimal digit's value, or -1. -/
def digit (c : Int) : Int := if 48 ≤ c ∧ c ≤ 57 then c - 48 else if 97 ≤ c ∧ c ≤ 102 then c - 87 else if 65 ≤ c ∧ c ≤ 70 then c - 55 else -1
def isBlank (r : Int) : Bool := decide (9 ≤ r ∧ r ≤ 13 ∨ r = 0x85 ∨ r = 0xA0 ∨ r = 0x1680 ∨ 0x2000 ≤ r ∧ r ≤ 0x200A ∨ r = 0x2028 ∨ r = 0x2029 ∨ r = 0x202F ∨ r = 0x205F ∨ r = 0x3000)
def goes (r : Int) : Bool := decide (0 ≤ r ∧ r < 32 ∨ 127 ≤ r ∧ r ≤ 0x9F ∨ r = 0xAD ∨ r = 0x34F ∨ r = 0x1806 ∨ 0x180B ≤ r ∧ r ≤ 0x180E ∨ 0x200B ≤ r ∧ r ≤ 0x200F ∨ 0x202A ≤ r ∧ r ≤ 0x202E ∨ 0x2060 ≤ r ∧ r ≤ 0x206F ∨ 0xFE00 ≤ r ∧ r ≤ 0xFE0F ∨ r = 0xFEFF ∨ 0xFFF9 ≤ r ∧ r ≤ 0xFFFC)
def refused (r : Int) : Bool := decide (r < 0 ∨ 0xD800 ≤ r ∧ r ≤ 0xF8FF ∨ 0xFFFD ≤ r ∧ r ≤ 0xFFFF ∨ 0xF0000 ≤ r)

set_option maxHeartbeats 400000 in
theorem isLetter_calls (c : Int) (w : World) :
    Calls Tryz.prog 67 #[.int .u8 c] w fun e w' => e = .returned (.bool (isLetter c)) ∧ w = w' := by
  go_enter Tryz.func67, Tryz.ntmps67
  go_wp2
  all_goals (go_ret; exact ⟨ret_bool (by rw [Bool.eq_iff_iff]; simp [isLetter]; omega), rfl⟩)
theorem isDigit_calls (c : Int) (w : World) :
    Calls Tryz.prog 118 #[.int .u8 c] w fun e w' => e = .returned (.bool (isDigit c)) ∧ w = w' := by
  go_enter Tryz.func118, Tryz.ntmps118
  go_wp2
  all_goals (go_ret; exact ⟨ret_bool (by rw [Bool.eq_iff_iff]; simp [isDigit]; omega), rfl⟩)
theorem inType_calls (c : Int) (w : World) :
    Calls Tryz.prog 69 #[.int .u8 c] w fun e w' => e = .returned (.bool (inType c)) ∧ w = w' := by
  go_enter Tryz.func69, Tryz.ntmps69
  go_wp2_with (first | (go_at_call 67; refine (isLetter_calls _ _).mono ?_; rintro e w' ⟨rfl, rfl⟩) | (go_at_call 118; refine (isDigit_calls _ _).mono ?_; rintro e w' ⟨rfl, rfl⟩))
  all_goals (go_ret; exact ⟨ret_bool (by rw [Bool.eq_iff_iff]; simp [inType, *]), rfl⟩)
theorem digit_calls (c : Int) (w : World) (h0 : 0 ≤ c) (h1 : c ≤ 255) :
    Calls Tryz.prog 199 #[.int .u8 c] w fun e w' => e = .returned (.int .i64 (digit c)) ∧ w = w' := by
  go_enter Tryz.func199, Tryz.ntmps199
  go_wp2
  all_goals (go_ret; exact ⟨ret_int (by unfold digit; (repeat' split) <;> omega), rfl⟩)
set_option maxHeartbeats 1000000 in
theorem isBlank_calls (r : Int) (w : World) :
    Calls Tryz.prog 141 #[.int .i32 r] w fun e w' => e = .returned (.bool (isBlank r)) ∧ w = w' := by
  go_enter Tryz.func141, Tryz.ntmps141
  go_wp2
  all_goals (go_ret; exact ⟨ret_bool (by rw [Bool.eq_iff_iff]; simp [isBlank]; (try simp only [beq_iff_eq, beq_eq_false_iff_ne, ne_eq] at *); omega), rfl⟩)
set_option maxHeartbeats 1000000 in
theorem goes_calls (r : Int) (w : World) :
    Calls Tryz.prog 142 #[.int .i32 r] w fun e w' => e = .returned (.bool (goes r)) ∧ w = w' := by
  go_enter Tryz.func142, Tryz.ntmps142
  go_wp2
  all_goals (go_ret; exact ⟨ret_bool (by rw [Bool.eq_iff_iff]; simp [goes]; (try simp only [beq_iff_eq, beq_eq_false_iff_ne, ne_eq] at *); omega), rfl⟩)
set_option maxHeartbeats 1000000 in
theorem refused_calls (r : Int) (w : World) :
    Calls Tryz.prog 143 #[.int .i32 r] w fun e w' => e = .returned (.bool (refused r)) ∧ w = w' := by
  go_enter Tryz.func143, Tryz.ntmps143
  go_wp2
  all_goals (go_ret; exact ⟨ret_bool (by rw [Bool.eq_iff_iff]; simp [refused]; (try simp only [beq_iff_eq, beq_eq_false_iff_ne, ne_eq] at *); omega), rfl⟩)
/-- What becomes of a character: itself or another, whether it stays, whether it is not taken. -/
def mapR (r : Int) : Int × Bool × Bool := if isBlank r then (32, true, false) else if goes r then (0, false, false) else if refused r then (0, false, true) else (r, true, false)
def foldR (r : Int) : Int :=
  if 65 ≤ r ∧ r ≤ 90 ∨ 0xC0 ≤ r ∧ r ≤ 0xDE ∧ r ≠ 0xD7 ∨ 0x391 ≤ r ∧ r ≤ 0x3A9 ∧ r ≠ 0x3A2 ∨ 0x410 ≤ r ∧ r ≤ 0x42F then r + 32
  else if 0x400 ≤ r ∧ r ≤ 0x40F then r + 80
  else if r = 0x1E9E then 0xDF
  else if (0x100 ≤ r ∧ r ≤ 0x137 ∨ 0x14A ≤ r ∧ r ≤ 0x177) ∧ r % 2 = 0 then r + 1
  else r
set_option maxHeartbeats 1000000 in
theorem map_calls (r : Int) (w : World) :
    Calls Tryz.prog 100 #[.int .i32 r] w fun e w' => e = .returned (.tuple #[.int .i32 (mapR r).1, .bool (mapR r).2.1, .bool (mapR r).2.2]) ∧ w = w' := by
  by_cases h1 : isBlank r = true
  · have : mapR r = (32, true, false) := by simp [mapR, h1]
    rw [this]; clear this
    go_enter Tryz.func100, Tryz.ntmps100
    go_wp2_with (first | (go_at_call 141; refine (isBlank_calls _ _).mono ?_; rintro e w' ⟨rfl, rfl⟩))
    go_ret3
    exact ⟨rfl, rfl⟩
  have h1' : isBlank r = false := by simpa using h1
  by_cases h2 : goes r = true
  · have : mapR r = (0, false, false) := by simp [mapR, h1', h2]
    rw [this]; clear this
    go_enter Tryz.func100, Tryz.ntmps100
    go_wp2_with (first | (go_at_call 141; refine (isBlank_calls _ _).mono ?_; rintro e w' ⟨rfl, rfl⟩) | (go_at_call 142; refine (goes_calls _ _).mono ?_; rintro e w' ⟨rfl, rfl⟩))
    go_ret3
    exact ⟨rfl, rfl⟩
  have h2' : goes r = false := by simpa using h2
  by_cases h3 : refused r = true
  · have : mapR r = (0, false, true) := by simp [mapR, h1', h2', h3]
    rw [this]; clear this
    go_enter Tryz.func100, Tryz.ntmps100
    go_wp2_with (first | (go_at_call 141; refine (isBlank_calls _ _).mono ?_; rintro e w' ⟨rfl, rfl⟩) | (go_at_call 142; refine (goes_calls _ _).mono ?_; rintro e w' ⟨rfl, rfl⟩) | (go_at_call 143; refine (refused_calls _ _).mono ?_; rintro e w' ⟨rfl, rfl⟩))
    go_ret3
    exact ⟨rfl, rfl⟩
  · have h3' : refused r = false := by simpa using h3
    have : mapR r = (r, true, false) := by simp [mapR, h1', h2', h3']
    rw [this]; clear this
    go_enter Tryz.func100, Tryz.ntmps100
    go_wp2_with (first | (go_at_call 141; refine (isBlank_calls _ _).mono ?_; rintro e w' ⟨rfl, rfl⟩) | (go_at_call 142; refine (goes_calls _ _).mono ?_; rintro e w' ⟨rfl, rfl⟩) | (go_at_call 143; refine (refused_calls _ _).mono ?_; rintro e w' ⟨rfl, rfl⟩))
    go_ret3
    exact ⟨rfl, rfl⟩
set_option maxHeartbeats 2000000 in
theorem fold_calls (r : Int) (w : World) (h0 : 0 ≤ r) (h1 : r ≤ 0x10FFFF) :
    Calls Tryz.prog 101 #[.int .i32 r] w fun e w' => e = .returned (.int .i32 (foldR r)) ∧ w = w' := by
  go_enter Tryz.func101, Tryz.ntmps101
  go_wp2
  all_goals (go_ret; exact ⟨ret_int (by (try simp only [beq_iff_eq, beq_eq_false_iff_ne, ne_eq, bne_iff_ne, bne_eq_false_iff_eq] at *); unfold foldR; (repeat' split) <;> omega), rfl⟩)
end Sy
end Go.Proofs.YthoealembhkaoaaGreatDoor
