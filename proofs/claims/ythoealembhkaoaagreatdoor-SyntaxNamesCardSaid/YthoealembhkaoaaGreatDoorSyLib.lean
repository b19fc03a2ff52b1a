import Derived.Test.YthoealembhkaoaaGreatDoorSyBase
import Derived.Test.YthoealembhkaoaaGreatDoorSyShelf
namespace Go.Proofs.YthoealembhkaoaaGreatDoor
open Go.RowKit
namespace Sy
set_option linter.unusedVariables false

/-- What the calls lean on of the library's variables: blocks 0, 1, 2. -/
structure Env (w : World) : Prop where
  m : ∃ m, w.cell? ⟨0, 0, none⟩ = some (.int .i64 m)
  u : Lib.Utf8Tabs 1 2 w
theorem Env.of {w w' : World} (h : Env w) (hk : ∀ k, k < 3 → w'.heap[k]? = w.heap[k]?) : Env w' := by
  have hc : ∀ b o, b < 3 → w'.cell? ⟨b, o, none⟩ = w.cell? ⟨b, o, none⟩ := fun b o hb => World.cell?_of_block (a := ⟨b, o, none⟩) (hk b hb)
  refine ⟨?_, fun c hc' => ?_, fun i hi => ?_⟩
  · obtain ⟨m, hm⟩ := h.m
    exact ⟨m, by rw [hc 0 0 (by omega)]; exact hm⟩
  · rw [hc 1 c (by omega)]; exact h.u.1 c hc'
  · rw [hc 2 _ (by omega), hc 2 _ (by omega)]; exact h.u.2 i hi
theorem Env.three {w : World} (h : Env w) : 3 ≤ w.heap.size := by
  have := World.block_lt_of_cell? w _ (h.u.2 0 (by omega)).1
  simp at this
  omega
theorem Env.below {w w' : World} (h : Env w) (hb : Below w.heap.size w w') : Env w' := h.of fun k hk => hb.block k (by have := h.three; omega)
theorem Env.drewN {w : World} (h : Env w) (n : Nat) : Env (w.drewN n) := h.of fun _ _ => rfl

/-- Digits alone, one at least. -/
def digits (l : List UInt8) : Bool := !l.isEmpty && l.all fun b => decide (48 ≤ b.toNat) && decide (b.toNat ≤ 57)
def digitSet : ByteArray := ⟨#[48, 49, 50, 51, 52, 53, 54, 55, 56, 57]⟩
theorem all_bytes {p : UInt8 → Bool} (h : ∀ n : Fin 256, p (UInt8.ofNat n.val) = true) (b : UInt8) : p b = true := by
  have := h ⟨b.toNat, b.toNat_lt⟩
  simpa using this
set_option maxRecDepth 100000 in
theorem digitSet_has (b : UInt8) : digitSet.data.toList.contains b = (decide (48 ≤ b.toNat) && decide (b.toNat ≤ 57)) := by
  have := all_bytes (p := fun b => digitSet.data.toList.contains b == (decide (48 ≤ b.toNat) && decide (b.toNat ≤ 57))) (by decide) b
  simpa using this
theorem dropWhile_nil {p : UInt8 → Bool} {l : List UInt8} : l.dropWhile p = [] ↔ l.all p = true := by
  induction l with
  | nil => simp
  | cons a l ih =>
    by_cases h : p a = true
    · simp [h, ih]
    · simp [h]
theorem trim_digits (l : List UInt8) : (Lib.trimS l digitSet.data.toList == []) = l.all fun b => decide (48 ≤ b.toNat) && decide (b.toNat ≤ 57) := by
  rw [Bool.eq_iff_iff, beq_iff_eq]
  unfold Lib.trimS Lib.trimLeftS Lib.trimRightS
  have hp : (fun b => digitSet.data.toList.contains b) = fun b : UInt8 => decide (48 ≤ b.toNat) && decide (b.toNat ≤ 57) := funext digitSet_has
  rw [hp, dropWhile_nil]
  generalize (fun b : UInt8 => decide (48 ≤ b.toNat) && decide (b.toNat ≤ 57)) = p
  constructor
  · intro h
    have hd : l.reverse.dropWhile p = [] := by
      cases hr : l.reverse.dropWhile p with
      | nil => rfl
      | cons a r =>
        exfalso
        have ha : ¬ p a = true := by
          have := List.head_dropWhile_not (p := p) (l := l.reverse) (by rw [hr]; simp)
          simpa [hr] using this
        rw [hr] at h
        simp at h
        exact ha h.2
    rw [dropWhile_nil, List.all_reverse] at hd
    exact hd
  · intro h
    have : l.reverse.dropWhile p = [] := dropWhile_nil.2 (by rw [List.all_reverse]; exact h)
    simp [this]

theorem trim_calls (s : ByteArray) (w : World) (hs : s.size ≤ 9223372036854775807) :
    Calls Tryz.prog 62 #[.string s, .string digitSet] w fun e w' => e = .returned (.string ⟨(Lib.trimS s.data.toList digitSet.data.toList).toArray⟩) ∧ Below w.heap.size w w' :=
  Tryz.strings_Trim_laid (by kernel_rfl) s digitSet w hs (by decide) (Go.Proofs.ascii_of_all (by decide))
theorem toList_nil (s : ByteArray) (h : s.data.toList = []) : s.toList.isEmpty = true := by rw [ByteArray.toList_eq, h]; rfl
theorem toList_ne (s : ByteArray) (h : ¬ s.data.toList = []) : s.toList.isEmpty = false := by rw [ByteArray.toList_eq]; simpa using h
set_option maxHeartbeats 400000 in
theorem isDigits_calls (s : ByteArray) (w : World) (hs : s.size ≤ 9223372036854775807) :
    Calls Tryz.prog 63 #[.string s] w fun e w' => e = .returned (.bool (digits s.data.toList)) ∧ Below w.heap.size w w' := by
  by_cases he : s.data.toList = []
  · have h2 := toList_nil s he
    have hd : digits s.data.toList = false := by rw [he]; rfl
    rw [hd]
    clear hd he
    go_enter Tryz.func63, Tryz.ntmps63
    go_wp2_with fail
    go_ret
    exact ⟨rfl, Below.refl _ _⟩
  · have h2 := toList_ne s he
    have hd : digits s.data.toList = (Lib.trimS s.data.toList digitSet.data.toList == []) := by
      rw [trim_digits]; unfold digits; cases h : s.data.toList with
      | nil => exact absurd h he
      | cons a l => rfl
    rw [hd]
    clear hd
    have hc := trim_calls s w hs
    generalize Lib.trimS s.data.toList digitSet.data.toList = x at hc ⊢
    clear he
    go_enter Tryz.func63, Tryz.ntmps63
    go_wp2_with (go_at_call 62; refine hc.mono ?_; rintro e w1 ⟨rfl, hb⟩)
    go_ret
    exact ⟨ret_bool (by simp), hb⟩
end Sy
end Go.Proofs.YthoealembhkaoaaGreatDoor
