import Derived.Test.YthoealembhkaoaaGreatDoorSySort
namespace Go.Proofs.YthoealembhkaoaaGreatDoor
open Go.RowKit Go.Shelf Go.Lib Go.Sort
namespace Sy
set_option linter.unusedVariables false

theorem cb_cons (a b : UInt8) (l m : List UInt8) : compareBytes (a :: l) (b :: m) = if a.toNat < b.toNat then -1 else if b.toNat < a.toNat then 1 else compareBytes l m := rfl
theorem cb_range : ∀ l m : List UInt8, compareBytes l m = -1 ∨ compareBytes l m = 0 ∨ compareBytes l m = 1
  | [], [] => .inr (.inl rfl)
  | [], _ :: _ => .inl rfl
  | _ :: _, [] => .inr (.inr rfl)
  | a :: l, b :: m => by
    have := cb_range l m
    rw [cb_cons]
    split
    · exact .inl rfl
    · split
      · exact .inr (.inr rfl)
      · exact this
theorem cb_self : ∀ l : List UInt8, compareBytes l l = 0
  | [] => rfl
  | a :: l => by rw [cb_cons, if_neg (by omega), if_neg (by omega)]; exact cb_self l
theorem cb_eq : ∀ l m : List UInt8, compareBytes l m = 0 → l = m
  | [], [], _ => rfl
  | [], _ :: _, h => by cases h
  | _ :: _, [], h => by cases h
  | a :: l, b :: m, h => by
    rw [cb_cons] at h
    split at h
    · cases h
    · split at h
      · cases h
      · have : a = b := UInt8.toNat_inj.1 (by omega)
        rw [this, cb_eq l m h]
theorem cb_neg : ∀ l m : List UInt8, compareBytes m l = - compareBytes l m
  | [], [] => rfl
  | [], _ :: _ => rfl
  | _ :: _, [] => rfl
  | a :: l, b :: m => by
    have := cb_neg l m
    rw [cb_cons, cb_cons]
    split
    · rw [if_neg (by omega)]; try (split <;> first | rfl | omega)
    · split
      · rfl
      · exact this
theorem cb_trans : ∀ l m n : List UInt8, compareBytes l m ≤ 0 → compareBytes m n ≤ 0 → compareBytes l n ≤ 0
  | [], _, [], _, _ => by simp [compareBytes]
  | [], _, _ :: _, _, _ => by simp [compareBytes]
  | _ :: _, [], _, h, _ => by simp [compareBytes] at h
  | _ :: _, _ :: _, [], _, h => by simp [compareBytes] at h
  | a :: l, b :: m, c :: n, h1, h2 => by
    rw [cb_cons] at h1 h2 ⊢
    have ih := cb_trans l m n
    split
    · omega
    · split
      · exfalso
        split at h1
        · split at h2
          · omega
          · split at h2
            · omega
            · omega
        · split at h1
          · omega
          · split at h2
            · omega
            · split at h2
              · omega
              · omega
      · split at h1
        · split at h2
          · omega
          · split at h2 <;> omega
        · split at h1
          · omega
          · split at h2
            · omega
            · split at h2
              · omega
              · exact ih h1 h2
theorem cp_self (a : Pair) : cmpPair a a = 0 := by simp [cmpPair, orR, cb_self]
theorem cp_eq (a b : Pair) (h : cmpPair a b = 0) : a = b := by
  unfold cmpPair orR at h
  split at h
  · rename_i h1
    have e1 := cb_eq _ _ h1
    have e2 := cb_eq _ _ h
    obtain ⟨a1, a2⟩ := a
    obtain ⟨b1, b2⟩ := b
    simp only at e1 e2
    rw [e1, e2]
  · rename_i h1; exact absurd h h1
theorem cp_neg (a b : Pair) : cmpPair b a = - cmpPair a b := by
  unfold cmpPair orR
  rw [cb_neg a.1 b.1, cb_neg a.2 b.2]
  split <;> split <;> omega
theorem cp_trans (a b c : Pair) (h1 : cmpPair a b ≤ 0) (h2 : cmpPair b c ≤ 0) : cmpPair a c ≤ 0 := by
  unfold cmpPair orR at *
  by_cases e1 : compareBytes a.1 b.1 = 0
  · rw [if_pos e1] at h1
    have := cb_eq _ _ e1
    rw [this]
    by_cases e2 : compareBytes b.1 c.1 = 0
    · rw [if_pos e2] at h2 ⊢
      exact cb_trans _ _ _ h1 h2
    · rw [if_neg e2] at h2 ⊢
      exact h2
  · rw [if_neg e1] at h1
    by_cases e2 : compareBytes b.1 c.1 = 0
    · have := cb_eq _ _ e2
      rw [← this, if_neg e1]
      exact h1
    · rw [if_neg e2] at h2
      have h3 := cb_trans _ _ _ h1 h2
      by_cases e3 : compareBytes a.1 c.1 = 0
      · exfalso
        have := cb_eq _ _ e3
        rw [this] at h1 e1
        have h4 := cb_neg c.1 b.1
        omega
      · rw [if_neg e3]
        exact h3
theorem cp_range (a b : Pair) : cmpPair a b = -1 ∨ cmpPair a b = 0 ∨ cmpPair a b = 1 := by
  unfold cmpPair orR
  split
  · exact cb_range _ _
  · exact cb_range _ _
theorem cp_swo : SWO (ltOf cmpPair) where
  irrefl x := by simp [ltOf, cp_self]
  trans x y z h1 h2 := by
    simp only [ltOf, decide_eq_true_eq] at *
    have h3 := cp_trans x y z (by omega) (by omega)
    by_cases h0 : cmpPair x z = 0
    · exfalso
      have := cp_eq _ _ h0
      subst this
      have := cp_neg x y
      omega
    · omega
  ntrans x y z h1 h2 := by
    simp only [ltOf, decide_eq_false_iff_not] at *
    have e1 := cp_neg x y
    have e2 := cp_neg y z
    have e3 := cp_neg x z
    have := cp_trans z y x (by omega) (by omega)
    omega
/-- A part's pairs, sorted. -/
def sortR (r : List Pair) : List Pair := (Sort.insertionSort (ltOf cmpPair) r.toArray 0 r.length).toList
theorem sortR_size (r : List Pair) : (Sort.insertionSort (ltOf cmpPair) r.toArray 0 r.length).size = r.length := by
  have h := insertionSort_holds cp_swo r.toArray 0 r.length (Nat.zero_le _) (by simp)
  simpa using h.1.1
theorem sortR_spec (r : List Pair) : (sortR r).Perm r ∧ (sortR r).Pairwise (fun a b => cmpPair a b ≤ 0) := by
  have h := insertionSort_holds cp_swo r.toArray 0 r.length (Nat.zero_le _) (by simp)
  have hs := sortR_size r
  refine ⟨?_, ?_⟩
  · have hp := h.1.2.2
    have hx : (Sort.insertionSort (ltOf cmpPair) r.toArray 0 r.length).extract 0 r.length = Sort.insertionSort (ltOf cmpPair) r.toArray 0 r.length := by
      conv => lhs; arg 3; rw [← hs]
      exact Array.extract_size
    have hy : r.toArray.extract 0 r.length = r.toArray := by
      simp
    rw [hx, hy] at hp
    simpa [sortR] using hp
  · rw [List.pairwise_iff_getElem]
    intro i j hi hj hij
    have hl : (sortR r).length = r.length := by rw [← hs]; simp [sortR]
    have h2 := h.2 i j (Nat.zero_le _) hij (by omega)
    simp only [ltOf, decide_eq_false_iff_not] at h2
    have e := cp_neg ((sortR r)[i]) ((sortR r)[j])
    have e1 : (Sort.insertionSort (ltOf cmpPair) r.toArray 0 r.length)[i]! = (sortR r)[i] := by
      rw [getElem!_pos _ i (by omega)]; rfl
    have e2 : (Sort.insertionSort (ltOf cmpPair) r.toArray 0 r.length)[j]! = (sortR r)[j] := by
      rw [getElem!_pos _ j (by omega)]; rfl
    rw [e1, e2] at h2
    omega
end Sy
end Go.Proofs.YthoealembhkaoaaGreatDoor
