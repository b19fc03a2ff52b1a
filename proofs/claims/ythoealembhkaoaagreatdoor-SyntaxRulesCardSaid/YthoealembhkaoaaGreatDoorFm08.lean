import Derived.Test.YthoealembhkaoaaGreatDoorFm07
namespace Go.Proofs.YthoealembhkaoaaGreatDoor
open Go.RowKit
namespace Sy
set_option linter.unusedVariables false

/-- A pair of two strings lies whole in block k. -/
structure Two (w : World) (k : Nat) (x y : Value) : Prop where
  heap : w.heap[k]? = some (.cells #[x, y] 85 (0, 0))
section
variable {w w' : World} {k B : Nat} {x y : Value}
theorem two_second (w : World) (o : Obj) (x y : Value) : Two ((w.alloc o).alloc (.cells #[x, y] 85)) (w.heap.size + 1) x y := by
  have := heap_alloc_new (w.alloc o) (.cells #[x, y] 85)
  rw [World.size_alloc] at this
  exact ⟨this⟩
theorem two_first (w : World) (o : Obj) (x y : Value) : Two ((w.alloc (.cells #[x, y] 85)).alloc o) w.heap.size x y :=
  ⟨by rw [Below.heap_alloc _ _ _ (by simp)]; exact heap_alloc_new w _⟩
theorem Two.c0 (h : Two w k x y) : w.cell? ⟨k, 0, none⟩ = some x := by simp [World.cell?, h.heap]
theorem Two.c1 (h : Two w k x y) : w.cell? ⟨k, 1, none⟩ = some y := by simp [World.cell?, h.heap]
theorem Two.f0 (h : Two w k x y) : w.frozen? ⟨k, 0, none⟩ = false := by simp [World.frozen?, h.heap]
theorem Two.f1 (h : Two w k x y) : w.frozen? ⟨k, 1, none⟩ = false := by simp [World.frozen?, h.heap]
theorem Two.lt (h : Two w k x y) : k < w.heap.size := lt_of_block h.heap
theorem Two.gr (h : Two w k x y) (hne : k ≠ B) (hg : Gr B w w') : Two w' k x y := ⟨(hg.block k h.lt (by intro e; injection e with e; exact hne e)).trans h.heap⟩
theorem Two.set0 (h : Two w k x y) (v : Value) : Two (w.setCell ⟨k, 0, none⟩ v) k v y := by
  refine ⟨?_⟩
  have hlt := h.lt
  have h' : w.heap[k] = .cells #[x, y] 85 (0, 0) := by simpa [Array.getElem?_eq_getElem hlt] using h.heap
  show (w.heap.modify k _)[k]? = _
  rw [Array.getElem?_eq_getElem (by simpa using hlt), Array.getElem_modify_self, h']
  rfl
theorem Two.set1 (h : Two w k x y) (v : Value) : Two (w.setCell ⟨k, 1, none⟩ v) k x v := by
  refine ⟨?_⟩
  have hlt := h.lt
  have h' : w.heap[k] = .cells #[x, y] 85 (0, 0) := by simpa [Array.getElem?_eq_getElem hlt] using h.heap
  show (w.heap.modify k _)[k]? = _
  rw [Array.getElem?_eq_getElem (by simpa using hlt), Array.getElem_modify_self, h']
  rfl
theorem Two.other (h : Two w k x y) {a : Addr} (hne : k ≠ a.block) (v : Value) : Two (w.setCell a v) k x y := ⟨by rw [Below.heap_setCell _ _ _ _ hne]; exact h.heap⟩
theorem Rd.other {s : ByteArray} {j : Nat} (h : Rd w B s j) {a : Addr} (hne : B ≠ a.block) (v : Value) : Rd (w.setCell a v) B s j := ⟨by rw [Below.heap_setCell _ _ _ _ hne]; exact h.heap⟩
theorem Gr.own {w0 : World} (h : Gr B w0 w) {a : Addr} (ha : w0.heap.size ≤ a.block) (v : Value) : Gr B w0 (w.setCell a v) :=
  ⟨h.os, h.tape, h.output, by simpa [World.setCell] using h.size, fun k hk hne => by rw [Below.heap_setCell _ _ _ _ (by omega)]; exact h.block k hk hne⟩
end
def avaV (p : List UInt8 × List UInt8) : Value := .agg #[strV p.1, strV p.2]
def pairR (l : List UInt8) : Option ((List UInt8 × List UInt8) × List UInt8) :=
  match typR (skip l) with
  | none => none
  | some (t, l2) =>
    if isAt 61 (skip l2) then
      match valueR (skip ((skip l2).drop 1)) with
      | none => none
      | some (v, l4) => some ((t, v), skip l4)
    else none

set_option maxRecDepth 100000 in
set_option maxHeartbeats 4000000 in
theorem pair_calls (w : World) (B : Nat) (s : ByteArray) (i : Nat) (hr : Rd w B s i) (hi : i ≤ s.size) (hs : s.size < 4294967281) (he : Env w) (hB : 3 ≤ B) :
    Calls Tryz.prog 149 #[.pointer (some ⟨B, 0, none⟩)] w (Reads B s avaV (pairR (rest s i)) w) := by
  have hR := Lib.hid hr
  have hE := Lib.hid he
  have hBlt := hr.lt
  have hs' : s.size ≤ 9223372036854775807 := by omega
  clear hr he
  obtain ⟨r, hr⟩ : ∃ r, pairR (rest s i) = r := ⟨_, rfl⟩
  rw [hr]
  have Hr := Lib.hid hr
  clear hr
  go_enter Tryz.func149, Tryz.ntmps149
  go_wp2_with fail
  have R0 : Hid (Rd _ B s i) := rd_alloc (rd_alloc hR.out (Obj.cells #[Value.string { data := #[] }, Value.string { data := #[] }] 85)) (Obj.cells #[Value.string { data := #[] }, Value.string { data := #[] }] 85)
  have G0 : Hid (Gr B w _) := (gr_alloc B w (Obj.cells #[Value.string { data := #[] }, Value.string { data := #[] }] 85)).trans (gr_alloc B _ (Obj.cells #[Value.string { data := #[] }, Value.string { data := #[] }] 85))
  have A0 : Hid (Two ((w.alloc (Obj.cells #[Value.string { data := #[] }, Value.string { data := #[] }] 85)).alloc (Obj.cells #[Value.string { data := #[] }, Value.string { data := #[] }] 85)) (w.heap.size + 1) (.string ⟨#[]⟩) (.string ⟨#[]⟩)) := two_second _ _ _ _
  have C0 : Hid (Two ((w.alloc (Obj.cells #[Value.string { data := #[] }, Value.string { data := #[] }] 85)).alloc (Obj.cells #[Value.string { data := #[] }, Value.string { data := #[] }] 85)) w.heap.size (.string ⟨#[]⟩) (.string ⟨#[]⟩)) := two_first _ _ _ _
  generalize (w.alloc (Obj.cells #[Value.string { data := #[] }, Value.string { data := #[] }] 85)).alloc (Obj.cells #[Value.string { data := #[] }, Value.string { data := #[] }] 85) = W0 at R0 G0 A0 C0 ⊢
  refine (blanks_calls W0 B s i R0.out hi hs').mono ?_
  rintro e w1 ⟨rfl, j1, hj1, hl1, hR1, hG1⟩
  have R1 := Lib.hid hR1
  have G1 := Lib.hid (G0.out.trans hG1)
  have A1 := Lib.hid (A0.out.gr (B := B) (by omega) hG1)
  have C1 := Lib.hid (C0.out.gr (B := B) (by omega) hG1)
  have L1 := Lib.hid hl1
  clear hR1 hG1 hl1 R0 G0 A0 C0
  go_wp2_with fail
  refine (typ_calls w1 B s j1 R1.out hj1 hs (hE.out.gr hB G1.out) hB).mono ?_
  intro e w2 h
  have Hr1 : Hid (pairR (rest s i) = match typR (rest s j1) with
    | none => none
    | some (t, l2) =>
      if isAt 61 (skip l2) then
        match valueR (skip ((skip l2).drop 1)) with
        | none => none
        | some (v, l4) => some ((t, v), skip l4)
      else none) := by rw [L1.out]; rfl
  generalize typR (rest s j1) = q at *
  rcases q with _ | ⟨t, l2⟩
  · obtain ⟨rfl, hg⟩ := h
    exact ⟨rfl, reads_none (by rw [← Hr.out, Hr1.out]) (G1.out.trans hg)⟩
  obtain ⟨rfl, j2, hj2, hl2, hR2, hG2⟩ := h
  have G2 := Lib.hid (G1.out.trans hG2)
  have A2 := A1.out.gr (B := B) (by omega) hG2
  have C2 := Lib.hid (C1.out.gr (B := B) (by omega) hG2)
  have L2 := Lib.hid hl2
  have R2 := Lib.hid hR2
  clear hG2 hl2 hR2 A1 C1 G1 R1 L1
  have a0 := A2.c0
  have a1 := A2.f0
  have A2' := Lib.hid A2
  clear A2
  simp only [strV]
  go_wp2_with fail
  have R3 := Lib.hid (R2.out.other (a := ⟨w.heap.size + 1, 0, none⟩) (by show B ≠ w.heap.size + 1; omega) (.string ⟨t.toArray⟩))
  have G3 := Lib.hid (G2.out.own (a := ⟨w.heap.size + 1, 0, none⟩) (by show w.heap.size ≤ w.heap.size + 1; omega) (.string ⟨t.toArray⟩))
  have A3 := Lib.hid (A2'.out.set0 (.string ⟨t.toArray⟩))
  have C3 := Lib.hid (C2.out.other (a := ⟨w.heap.size + 1, 0, none⟩) (by show w.heap.size ≠ w.heap.size + 1; omega) (.string ⟨t.toArray⟩))
  generalize w2.setCell ⟨w.heap.size + 1, 0, none⟩ (.string ⟨t.toArray⟩) = w3 at R3 G3 A3 C3 ⊢
  clear a0 a1 A2' C2 G2 R2
  refine (blanks_calls w3 B s j2 R3.out hj2 hs').mono ?_
  rintro e w4 ⟨rfl, j4, hj4, hl4, hR4, hG4⟩
  have R4 := Lib.hid hR4
  have G4 := Lib.hid (G3.out.trans hG4)
  have A4 := Lib.hid (A3.out.gr (B := B) (by omega) hG4)
  have C4 := Lib.hid (C3.out.gr (B := B) (by omega) hG4)
  have L4 := Lib.hid hl4
  clear hR4 hG4 hl4 R3 G3 A3 C3
  go_wp2_with fail
  refine (is_calls w4 B s j4 61 R4.out hj4 hs').mono ?_
  rintro e w5 ⟨rfl, n5, rfl⟩
  by_cases h61 : isAt 61 (rest s j4) = true
  · have hlt := isAt_lt h61
    have e61 := h61
    rw [L4.out, L2.out] at h61
    have Hr2 : Hid (pairR (rest s i) = match valueR (skip (rest s (j4 + 1))) with
        | none => none
        | some (v, l4) => some ((t, v), skip l4)) := by
      show _ = _
      rw [Hr1.out]
      simp only [h61, if_true]
      rw [show (skip l2).drop 1 = rest s (j4 + 1) by rw [← L2.out, ← L4.out]; simp [rest]]
    clear h61
    have R5 := Lib.hid (R4.out.drewN n5)
    have G5 := Lib.hid (G4.out.drewN n5)
    have A5 : Hid (Two (w4.drewN n5) _ _ _) := ⟨A4.out.heap⟩
    have C5 : Hid (Two (w4.drewN n5) _ _ _) := ⟨C4.out.heap⟩
    generalize w4.drewN n5 = w5 at R5 G5 A5 C5 ⊢
    clear R4 G4 A4 C4
    have b1 := R5.out.c1
    have b2 := R5.out.f1
    go_wp2_with fail
    have R6 := Lib.hid (R5.out.setCell (j4 + 1))
    have G6 := Lib.hid (G5.out.setCell 1 (.int .i64 ((j4 + 1 : Nat) : Int)))
    have A6 := Lib.hid (A5.out.other (a := ⟨B, 1, none⟩) (by show w.heap.size + 1 ≠ B; omega) (.int .i64 ((j4 + 1 : Nat) : Int)))
    have C6 := Lib.hid (C5.out.other (a := ⟨B, 1, none⟩) (by show w.heap.size ≠ B; omega) (.int .i64 ((j4 + 1 : Nat) : Int)))
    rw [show ((j4 + 1 : Nat) : Int) = (j4 : Int) + 1 by omega] at R6 G6 A6 C6
    generalize w5.setCell ⟨B, 1, none⟩ (.int .i64 ((j4 : Int) + 1)) = w6 at R6 G6 A6 C6 ⊢
    clear b1 b2 R5 G5 A5 C5 e61
    refine (blanks_calls w6 B s (j4 + 1) R6.out (by omega) hs').mono ?_
    rintro e w7 ⟨rfl, j7, hj7, hl7, hR7, hG7⟩
    have R7 := Lib.hid hR7
    have G7 := Lib.hid (G6.out.trans hG7)
    have A7 := Lib.hid (A6.out.gr (B := B) (by omega) hG7)
    have C7 := Lib.hid (C6.out.gr (B := B) (by omega) hG7)
    have L7 := Lib.hid hl7
    clear hR7 hG7 hl7 R6 G6 A6 C6
    go_wp2_with fail
    refine (value_calls w7 B s j7 R7.out hj7 hs).mono ?_
    intro e w8 h
    have Hr3 : Hid (r = match valueR (rest s j7) with
        | none => none
        | some (v, l4) => some ((t, v), skip l4)) := by
      show r = _
      rw [← Hr.out, Hr2.out, L7.out]
    generalize valueR (rest s j7) = q at *
    rcases q with _ | ⟨v, l8⟩
    · obtain ⟨rfl, hg⟩ := h
      exact ⟨rfl, reads_none Hr3.out (G7.out.trans hg)⟩
    obtain ⟨rfl, j8, hj8, hl8, hR8, hG8⟩ := h
    have G8 := Lib.hid (G7.out.trans hG8)
    have A8 := A7.out.gr (B := B) (by omega) hG8
    have C8 := Lib.hid (C7.out.gr (B := B) (by omega) hG8)
    have L8 := Lib.hid hl8
    have R8 := Lib.hid hR8
    clear hG8 hl8 hR8 A7 C7 G7 R7
    have a0 := A8.c1
    have a1 := A8.f1
    have A8' := Lib.hid A8
    clear A8
    simp only [strV]
    go_wp2_with fail
    have R9 := Lib.hid (R8.out.other (a := ⟨w.heap.size + 1, 1, none⟩) (by show B ≠ w.heap.size + 1; omega) (.string ⟨v.toArray⟩))
    have G9 := Lib.hid (G8.out.own (a := ⟨w.heap.size + 1, 1, none⟩) (by show w.heap.size ≤ w.heap.size + 1; omega) (.string ⟨v.toArray⟩))
    have A9 := Lib.hid (A8'.out.set1 (.string ⟨v.toArray⟩))
    have C9 := Lib.hid (C8.out.other (a := ⟨w.heap.size + 1, 1, none⟩) (by show w.heap.size ≠ w.heap.size + 1; omega) (.string ⟨v.toArray⟩))
    generalize w8.setCell ⟨w.heap.size + 1, 1, none⟩ (.string ⟨v.toArray⟩) = w9 at R9 G9 A9 C9 ⊢
    clear a0 a1 A8' C8 G8 R8
    refine (blanks_calls w9 B s j8 R9.out hj8 hs').mono ?_
    rintro e w10 ⟨rfl, j10, hj10, hl10, hR10, hG10⟩
    have R10 := Lib.hid hR10
    have G10 := Lib.hid (G9.out.trans hG10)
    have A10 := A9.out.gr (B := B) (by omega) hG10
    have C10 := C9.out.gr (B := B) (by omega) hG10
    have L10 := Lib.hid hl10
    clear hR10 hG10 hl10 R9 G9 A9 C9
    have a0 := A10.c0
    have a1 := A10.c1
    have d0 := C10.c0
    have d1 := C10.c1
    have d2 := C10.f0
    have d3 := C10.f1
    have C10' := Lib.hid C10
    clear A10 C10
    go_wp2_with fail
    have C11 := (C10'.out.set0 (.string ⟨t.toArray⟩)).set1 (.string ⟨v.toArray⟩)
    have G11 := Lib.hid ((G10.out.own (a := ⟨w.heap.size, 0, none⟩) (Nat.le_refl _) (.string ⟨t.toArray⟩)).own (a := ⟨w.heap.size, 1, none⟩) (Nat.le_refl _) (.string ⟨v.toArray⟩))
    have R11 := Lib.hid ((R10.out.other (a := ⟨w.heap.size, 0, none⟩) (by show B ≠ w.heap.size; omega) (.string ⟨t.toArray⟩)).other (a := ⟨w.heap.size, 1, none⟩) (by show B ≠ w.heap.size; omega) (.string ⟨v.toArray⟩))
    have f0 := C11.c0
    have f1 := C11.c1
    clear d0 d1 d2 d3 a0 a1 C10' C11
    generalize (w10.setCell ⟨w.heap.size, 0, none⟩ (.string ⟨t.toArray⟩)).setCell ⟨w.heap.size, 1, none⟩ (.string ⟨v.toArray⟩) = w11 at *
    refine bodyPost_ret (v := avaV (t, v)) (by unfold avaV strV; simp [results, Tryz.results149, go_sem, f0, f1]) rfl ?_
    exact reads_some (enc := avaV) Hr3.out ⟨j10, hj10, by rw [L10.out, L8.out], R11.out, G11.out⟩
  · have e61 : isAt 61 (rest s j4) = false := by simpa using h61
    have Hn : Hid (r = none) := by
      show r = none
      rw [← Hr.out, Hr1.out]
      show (if isAt 61 (skip l2) then _ else none) = none
      rw [← L2.out, ← L4.out, if_neg h61]
    clear h61
    go_wp2_with fail
    exact ⟨rfl, reads_none Hn.out (G4.out.drewN n5)⟩
end Sy
end Go.Proofs.YthoealembhkaoaaGreatDoor
namespace Go.Proofs.YthoealembhkaoaaGreatDoor
open Go.RowKit
namespace Sy
set_option linter.unusedVariables false

abbrev Pair := List UInt8 × List UInt8
/-- The cells of a part. -/
def rdnV (r : List Pair) : List Value := r.flatMap fun p => [strV p.1, strV p.2]
theorem rdnV_snoc (r : List Pair) (p : Pair) : rdnV (r ++ [p]) = rdnV r ++ [strV p.1, strV p.2] := by simp [rdnV]
theorem rdnV_length (r : List Pair) : (rdnV r).length = r.length * 2 := by
  unfold rdnV
  induction r with
  | nil => rfl
  | cons p r ih => simp [ih]; omega
def partL : Nat → List Pair → List UInt8 → Option (List Pair × List UInt8)
  | 0, _, _ => none
  | n + 1, acc, l =>
    if isAt 43 l then
      match pairR (l.drop 1) with
      | some (p, l') => partL n (acc ++ [p]) l'
      | none => none
    else some (acc, l)
def partR (l : List UInt8) : Option (List Pair × List UInt8) :=
  match pairR l with
  | some (p, l') => partL (l'.length + 1) [p] l'
  | none => none

theorem skip_le (l : List UInt8) : (skip l).length ≤ l.length := by
  induction l with
  | nil => exact Nat.le_refl _
  | cons b l ih => unfold skip; split <;> simp <;> omega
theorem dropWhile_le (p : UInt8 → Bool) (l : List UInt8) : (l.dropWhile p).length ≤ l.length := by
  induction l with
  | nil => exact Nat.le_refl _
  | cons b l ih => rw [List.dropWhile_cons]; split <;> simp <;> omega
theorem typR_le {l t l' : List UInt8} (h : typR l = some (t, l')) : l'.length ≤ l.length := by
  unfold typR at h
  split at h
  · injection h with h; injection h with h1 h2; rw [← h2]; exact dropWhile_le _ _
  · cases h
theorem hexR_le {l t l' : List UInt8} (h : hexR l = some (t, l')) : l'.length ≤ l.length := by
  unfold hexR at h
  generalize unhex (l.takeWhile hexB) = u at h
  rcases u with _ | _ | ⟨a, b⟩
  · cases h
  · cases h
  · simp only [someBytes] at h
    injection h with h; injection h with h1 h2; rw [← h2]; exact dropWhile_le _ _
theorem valL_le : ∀ (n : Nat) (b : List UInt8) (k : Nat) (l t l' : List UInt8), valL n b k l = some (t, l') → l'.length ≤ l.length
  | 0, b, k, l, t, l', h => by simp only [valL] at h; injection h with h; injection h with h1 h2; rw [h2]; exact Nat.le_refl _
  | n + 1, b, k, [], t, l', h => by simp only [valL] at h; injection h with h; injection h with h1 h2; rw [← h2]; exact Nat.le_refl _
  | n + 1, b, k, c :: l, t, l', h => by
    simp only [valL] at h
    split at h
    · injection h with h; injection h with h1 h2; rw [← h2]; exact Nat.le_refl _
    · split at h
      · split at h
        · rename_i x l2 he
          have := escR_shorter he
          have := valL_le n _ _ _ _ _ h
          simp; omega
        · cases h
      · split at h
        · cases h
        · have := valL_le n _ _ _ _ _ h
          simp; omega
theorem valueR_le {l t l' : List UInt8} (h : valueR l = some (t, l')) : l'.length ≤ l.length := by
  cases ha : isAt 35 l with
  | true =>
    rw [valueR_hash ha] at h
    have := hexR_le h
    simp at this; omega
  | false => rw [valueR_plain ha] at h; exact valL_le _ _ _ _ _ _ h
theorem pairR_le {l l' : List UInt8} {p : Pair} (h : pairR l = some (p, l')) : l'.length ≤ l.length := by
  unfold pairR at h
  split at h
  · cases h
  · rename_i t l2 ht
    have h1 := typR_le ht
    have h2 := skip_le l
    have h3 := skip_le l2
    split at h
    · split at h
      · cases h
      · rename_i v l4 hv
        have h4 := valueR_le hv
        have h5 := skip_le ((skip l2).drop 1)
        have h6 := skip_le l4
        injection h with h; injection h with _ h
        rw [← h]
        have h7 : ((skip l2).drop 1).length ≤ (skip l2).length := by simp
        omega
    · cases h

/-- What a part comes to: a row of its own, and what is left, or the reader gives up. -/
def ReadsRow {α : Type} (B : Nat) (s : ByteArray) (Own : World → Nat → Value → α → Prop) (r : Option (α × List UInt8)) (w : World) (e : Ending) (w' : World) : Prop :=
  match r with
  | some (p, l) => ∃ v, e = .returned v ∧ Own w' w.heap.size v p ∧ Moved B s l w w'
  | none => e = gaveUp 30 ∧ Gr B w w'
def OwnRdn (w : World) (base : Nat) (v : Value) (r : List Pair) : Prop := w.ownsRow base 85 2 v r.length (rdnV r)
theorem readsRow_some {α : Type} {B : Nat} {s : ByteArray} {Own : World → Nat → Value → α → Prop} {r : Option (α × List UInt8)} {p : α} {v : Value} {l : List UInt8} {w w' : World} (hr : r = some (p, l)) (ho : Own w' w.heap.size v p) (h : Moved B s l w w') : ReadsRow B s Own r w (.returned v) w' := by
  rw [hr]; exact ⟨v, rfl, ho, h⟩
theorem readsRow_none {α : Type} {B : Nat} {s : ByteArray} {Own : World → Nat → Value → α → Prop} {r : Option (α × List UInt8)} {w w' : World} (hr : r = none) (h : Gr B w w') : ReadsRow B s Own r w (gaveUp 30) w' := by
  rw [hr]; exact ⟨rfl, h⟩
theorem info85 : (Tryz.prog.info? 85).map (fun i => (i.zero, i.size, i.bytes)) = some (some (.agg #[.string ⟨#[]⟩, .string ⟨#[]⟩]), 2, 32) := by kernel_rfl
theorem own_new (w : World) (base : Nat) (cur : Array Value) (e size n : Nat) (hb : base ≤ w.heap.size) (hm : n ≤ maxLen) (hs : cur.size = n * size) :
    (w.alloc (.cells cur e)).ownsRow base e size (.slice (some ⟨w.heap.size, 0, none⟩) n n) n cur.toList :=
  ⟨by simpa using hs, .inr ⟨w.heap.size, n, cur, rfl, hb, heap_alloc_new w _, Nat.le_refl _, hm, hs, by rw [List.take_of_length_le (by simp; omega)]⟩⟩

set_option maxRecDepth 100000 in
set_option maxHeartbeats 4000000 in
theorem part_calls (w : World) (B : Nat) (s : ByteArray) (i : Nat) (hr : Rd w B s i) (hi : i ≤ s.size) (hs : s.size < 4294967281) (he : Env w) (hB : 3 ≤ B) :
    Calls Tryz.prog 110 #[.pointer (some ⟨B, 0, none⟩)] w (ReadsRow B s OwnRdn (partR (rest s i)) w) := by
  have hR := Lib.hid hr
  have hE := Lib.hid he
  have hBlt := hr.lt
  have hs' : s.size ≤ 9223372036854775807 := by omega
  clear hr he
  obtain ⟨i0, hi0, hz0, hz1, hz2⟩ := info_parts info85
  obtain ⟨r, hr⟩ : ∃ r, partR (rest s i) = r := ⟨_, rfl⟩
  rw [hr]
  have Hr := Lib.hid hr
  clear hr
  go_enter Tryz.func110, Tryz.ntmps110
  go_wp2_with fail
  refine (pair_calls w B s i hR.out hi hs hE.out hB).mono ?_
  intro e w1 h
  have Hr1 : Hid (r = match pairR (rest s i) with
    | some (p, l') => partL (l'.length + 1) [p] l'
    | none => none) := by show r = _; rw [← Hr.out]; rfl
  have Hle := Lib.hid (fun p l' => @pairR_le (rest s i) l' p)
  generalize pairR (rest s i) = q at *
  rcases q with _ | ⟨⟨t, v⟩, l1⟩
  · obtain ⟨rfl, hg⟩ := h
    exact ⟨rfl, readsRow_none Hr1.out hg⟩
  obtain ⟨rfl, j1, hj1, hl1, hR1, hG1⟩ := h
  simp only [avaV, strV]
  have R1 := Lib.hid hR1
  have G1 := Lib.hid hG1
  have L1 := Lib.hid hl1
  have hs1 : w.heap.size ≤ w1.heap.size := hG1.size
  clear hR1 hG1 hl1
  go_wp2_with fail
  have O2 : Hid (OwnRdn (w1.alloc (Obj.cells #[Value.string { data := t.toArray }, Value.string { data := v.toArray }] 85)) w.heap.size (.slice (some ⟨w1.heap.size, 0, none⟩) 1 1) [(t, v)]) :=
    own_new w1 w.heap.size #[Value.string { data := t.toArray }, Value.string { data := v.toArray }] 85 2 1 hs1 (by unfold maxLen; omega) rfl
  have R2 := Lib.hid (rd_alloc R1.out (Obj.cells #[Value.string { data := t.toArray }, Value.string { data := v.toArray }] 85))
  have G2 := Lib.hid (G1.out.trans (gr_alloc B w1 (Obj.cells #[Value.string { data := t.toArray }, Value.string { data := v.toArray }] 85)))
  have hs2 : w.heap.size ≤ (w1.alloc (Obj.cells #[Value.string { data := t.toArray }, Value.string { data := v.toArray }] 85)).heap.size := by simp; omega
  obtain ⟨w2, hw2⟩ : ∃ w2, w2 = w1.alloc (Obj.cells #[Value.string { data := t.toArray }, Value.string { data := v.toArray }] 85) := ⟨_, rfl⟩
  rw [← hw2] at O2 R2 G2 hs2 ⊢
  clear hw2 R1 G1 Hle
  go_loopg [3] (s.size - j1) (fun k v wr => ∃ (j n : Nat) (acc : List Pair), j ≤ s.size ∧ s.size - j ≤ k ∧ acc.length ≤ j + 1 ∧ w.heap.size ≤ wr.heap.size ∧ Hid (OwnRdn wr w.heap.size v acc) ∧ Hid ((rest s j).length < n ∧ partL n acc (rest s j) = r) ∧ Hid (Rd wr B s j) ∧ Hid (Gr B w wr))
  case atStart => exact ⟨j1, l1.length + 1, [(t, v)], hj1, Nat.le_refl _, by simp, hs2, O2.out, ⟨by rw [L1.out]; omega, by rw [L1.out]; exact Hr1.out.symm⟩, R2.out, G2.out⟩
  case round =>
    obtain ⟨j, n, acc, hj, hk, haj, hsr, hown, hval, hRj, hG⟩ := hrel
    go_wp2_with fail
    refine (is_calls wr B s j 43 hRj.out hj hs').mono ?_
    rintro e w3 ⟨rfl, n3, rfl⟩
    obtain ⟨n, rfl⟩ : ∃ m, n = m + 1 := ⟨n - 1, by have := hval.out.1; omega⟩
    by_cases h43 : isAt 43 (rest s j) = true
    · have hlt := isAt_lt h43
      have Hv : Hid (r = match pairR (rest s (j + 1)) with
        | some (p, l') => partL n (acc ++ [p]) l'
        | none => none) := by
        show r = _
        rw [← hval.out.2]
        simp only [partL, h43, if_true]
        rw [show (rest s j).drop 1 = rest s (j + 1) by simp [rest]]
      have Hn := Lib.hid hval.out.1
      have R4 := Lib.hid (hRj.out.drewN n3)
      have G4 := Lib.hid (hG.out.drewN n3)
      have O4 : Hid (OwnRdn (wr.drewN n3) w.heap.size u3 acc) := hown.out
      have hs4 : w.heap.size ≤ (wr.drewN n3).heap.size := hsr
      obtain ⟨w4, hw4⟩ : ∃ w4, w4 = wr.drewN n3 := ⟨_, rfl⟩
      rw [← hw4] at R4 G4 O4 hs4 ⊢
      clear hw4
      have b1 := R4.out.c1
      have b2 := R4.out.f1
      go_wp2_with fail
      have R5 := R4.out.setCell (j + 1)
      have G5 := (Gr.refl B w4).setCell 1 (.int .i64 ((j + 1 : Nat) : Int))
      rw [show ((j + 1 : Nat) : Int) = (j : Int) + 1 by omega] at R5 G5
      have O5 : Hid (OwnRdn (w4.setCell ⟨B, 1, none⟩ (.int .i64 ((j : Int) + 1))) w.heap.size u3 acc) := O4.out.kept G5 (own_ne O4.out hBlt)
      have R5' := Lib.hid R5
      have G5' := Lib.hid (G4.out.trans G5)
      have hs5 : w.heap.size ≤ (w4.setCell ⟨B, 1, none⟩ (.int .i64 ((j : Int) + 1))).heap.size := Nat.le_trans hs4 G5.size
      obtain ⟨w5, hw5⟩ : ∃ w5, w5 = w4.setCell ⟨B, 1, none⟩ (.int .i64 ((j : Int) + 1)) := ⟨_, rfl⟩
      rw [← hw5] at O5 R5' G5' hs5 ⊢
      clear hw5 R5 G5 R4 G4 O4 b1 b2 hown hRj hG
      refine (pair_calls w5 B s (j + 1) R5'.out (by omega) hs (hE.out.gr hB G5'.out) hB).mono ?_
      intro e w6 h
      have Hle := Lib.hid (fun p l' => @pairR_le (rest s (j + 1)) l' p)
      generalize pairR (rest s (j + 1)) = q at *
      rcases q with _ | ⟨⟨t6, v6⟩, l6⟩
      · obtain ⟨rfl, hg⟩ := h
        exact ⟨rfl, readsRow_none Hv.out (G5'.out.trans hg)⟩
      obtain ⟨rfl, j6, hj6, hl6, hR6, hG6⟩ := h
      simp only [avaV, strV]
      have O6 : Hid (OwnRdn w6 w.heap.size u3 acc) := O5.out.kept hG6 (own_ne O5.out hBlt)
      have R6 := Lib.hid hR6
      have G6 := Lib.hid (G5'.out.trans hG6)
      have L6 := Lib.hid hl6
      have hs6 : w.heap.size ≤ w6.heap.size := Nat.le_trans hs5 hG6.size
      have hlen6 : s.size - j6 ≤ s.size - (j + 1) := by
        have := Hle.out _ l6 rfl
        rw [← L6.out] at this
        simpa [rest] using this
      clear hR6 hG6 hl6 R5' G5' O5
      go_wp2_with (at_builtin; refine wpList_append_own _ rfl _ _ 83 rfl w.heap.size 85 i0 (.agg #[.string ⟨#[]⟩, .string ⟨#[]⟩]) 2 32 Tryz.underlying83 hi0 hz0 hz1 hz2 rfl (by decide) _ _ _ rfl (O6.out.alloc _) ⟨w6.heap.size, 0, none⟩ 1 1 [.string ⟨t6.toArray⟩, .string ⟨v6.toArray⟩] rfl rfl ?c1 ?c2 ?c3 ?c4 ?c5 ?_)
      case c2 => simp [Value.oneCell']
      case c3 => unfold maxLen; omega
      case c4 => omega
      case c5 => omega
      intro v7 w7 hown7 hgr7 _
      have R7 : Hid (Rd w7 B s j6) := rd_grown (rd_alloc R6.out _) hgr7 (own_ne O6.out hBlt)
      have G7 : Hid (Gr B w w7) := gr_grown (G6.out.trans (gr_alloc B w6 _)) hgr7 (by simp; omega) (own_base_le O6.out)
      have O7 : Hid (OwnRdn w7 w.heap.size v7 (acc ++ [(t6, v6)])) := by
        show World.ownsRow _ _ _ _ _ _ _
        rw [rdnV_snoc, List.length_append]
        exact hown7
      have hs7 : w.heap.size ≤ w7.heap.size := by have := hgr7.size; simp at this; omega
      clear hown7 hgr7
      go_wp2_with fail
      go_roundg (s.size - j6)
      case measure => omega
      case rel =>
        refine ⟨j6, n, acc ++ [(t6, v6)], hj6, Nat.le_refl _, by simp; omega, hs7, O7.out, ⟨?_, ?_⟩, R7.out, G7.out⟩
        · have h1 := Hn.out
          have h2 := Hle.out _ l6 rfl
          rw [L6.out]
          have h3 : (rest s (j + 1)).length + 1 = (rest s j).length := by rw [rest_lt hlt]; rfl
          omega
        · rw [L6.out]; exact Hv.out.symm
    · have Hend : Hid (r = some (acc, rest s j)) := by
        show r = _
        rw [← hval.out.2]
        simp only [partL, h43]
        rfl
      have h43' : isAt 43 (rest s j) = false := by simpa using h43
      clear h43
      go_wp2_with fail
      go_ret
      exact readsRow_some Hend.out hown.out ⟨j, hj, rfl, hRj.out.drewN n3, hG.out.drewN n3⟩
end Sy
end Go.Proofs.YthoealembhkaoaaGreatDoor
