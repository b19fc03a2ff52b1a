import Derived.Test.YthoealembhkaoaaGreatDoorSyInts
namespace Go.Proofs.YthoealembhkaoaaGreatDoor
open Go.RowKit
namespace Sy
set_option linter.unusedVariables false

def normPair (q : Pair) : Pair := (small q.1, (prepR true q.2).getD q.2)
def normRow (r : List Pair) : List Pair := partOf (r.map normPair)
/-- A name's normal form. -/
def nameR (l : List UInt8) : Option (List UInt8) :=
  match (parseR l).1 with
  | none => none
  | some d => (printR (d.map normRow)).1

/-- One row turned within its own block; the others as they were. -/
theorem RowsOf.store {w w' : World} {base g : Nat} (hg : w.grownBy w' (Option.some g)) {v' : Value} {r' : List Pair} (ho : OwnRdn w' base v' r') (hb : v'.ownBlock = Option.some g) :
    ∀ {vs : List Value} {d : List (List Pair)} (k : Nat) (u : Value), RowsOf w base vs d → vs[k]? = Option.some u → u.ownBlock = Option.some g → RowsOf w' base (vs.set k v') (d.set k r')
  | v :: vs, r :: rs, 0, u, h, hk, hu => by
    have : v = u := by simpa using hk
    subst this
    refine ⟨ho, by rw [hb]; simp, fun x hx => ?_, ?_⟩
    · rw [hb, ← hu]; exact h.2.2.1 x hx
    · exact RowsOf.kept hg h.2.2.2 (fun x hx => by rw [← hu]; exact h.2.2.1 x hx)
  | v :: vs, r :: rs, k + 1, u, h, hk, hu => by
    have hk' : vs[k]? = Option.some u := by simpa using hk
    have hmem : u ∈ vs := List.mem_of_getElem? hk'
    have hvu : v.ownBlock ≠ Option.some g := fun e => h.2.2.1 u hmem (by rw [hu, e])
    refine ⟨h.1.kept hg (.inr hvu), h.2.1, fun x hx => ?_, RowsOf.store hg ho hb k u h.2.2.2 hk' hu⟩
    rcases List.mem_or_eq_of_mem_set hx with hx | rfl
    · exact h.2.2.1 x hx
    · rw [hb]; exact fun e => hvu e.symm
  | [], [], k, u, _, hk, _ => by simp at hk
  | [], _ :: _, _, _, h, _, _ => h.elim
  | _ :: _, [], _, _, h, _, _ => h.elim
/-- What lies in a row behind j rounds. -/
def normAt (r : List Pair) (j : Nat) : List Pair := (r.take j).map normPair ++ r.drop j
theorem normAt_length (r : List Pair) (j : Nat) : (normAt r j).length = r.length := by simp [normAt]; omega
theorem normAt_get (r : List Pair) (j : Nat) (h : j < r.length) : (normAt r j)[j]'(by rw [normAt_length]; exact h) = r[j] := by
  simp [normAt, List.getElem_append_right, Nat.min_eq_left (Nat.le_of_lt h)]
theorem normAt_next (r : List Pair) (j : Nat) (h : j < r.length) : (normAt r j).set j (normPair r[j]) = normAt r (j + 1) := by
  unfold normAt
  rw [List.set_append_right _ _ (by simp; omega)]
  have e : j - (List.map normPair (r.take j)).length = 0 := by simp; omega
  rw [e, List.drop_eq_getElem_cons h, List.set_cons_zero, List.take_succ_eq_append_getElem h, List.map_append]
  simp
theorem normAt_done (r : List Pair) : normAt r r.length = r.map normPair := by simp [normAt]
theorem small_length (l : List UInt8) : (small l).length = l.length := by simp [small]
theorem trimB_le (l : List UInt8) (c : UInt8) : (Lib.trimB l c).length ≤ l.length := by
  unfold Lib.trimB Lib.trimLeftB Lib.trimRightB
  have h1 := dropWhile_le (· == c) ((l.reverse.dropWhile (· == c)).reverse)
  have h2 := dropWhile_le (· == c) l.reverse
  simp at h1 h2
  omega
theorem prepR_len {fold : Bool} {l t : List UInt8} (h : prepR fold l = some t) : t.length ≤ 4 * l.length + 1 := by
  unfold prepR at h
  cases hm : mapped fold l with
  | none => rw [hm] at h; cases h
  | some u =>
    rw [hm] at h
    have h1 := mapped_len hm
    simp only at h
    split at h
    · injection h with h; subst h; simp
    · injection h with h; subst h
      have := trimB_le u 32
      omega
end Sy
end Go.Proofs.YthoealembhkaoaaGreatDoor
