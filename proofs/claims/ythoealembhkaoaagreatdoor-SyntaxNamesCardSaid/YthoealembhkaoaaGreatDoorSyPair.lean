import Derived.Test.YthoealembhkaoaaGreatDoorSyVal
namespace Go.Proofs.YthoealembhkaoaaGreatDoor
open Go.RowKit
namespace Sy
set_option linter.unusedVariables false

/-- A pair of two strings lies whole in block k. -/
structure Two (w : World) (k : Nat) (x y : Value) : Prop where
  heap : w.heap[k]? = some (.cells #[x, y] 85 (0, 0))
section
variable {w w' : World} {k B : Nat} {x y : Value}
theorem two_second (w : World) (o : Obj) (x y : Value) : Two ((w.alloc o).alloc (.cells #[x, y] 85)) (w.heap.size + 1) x y := by
  have := heap_alloc_new (w.alloc o) (.cells #[x, y] 85)
  rw [World.size_alloc] at this
  exact ⟨this⟩
theorem two_first (w : World) (o : Obj) (x y : Value) : Two ((w.alloc (.cells #[x, y] 85)).alloc o) w.heap.size x y :=
  ⟨by rw [Below.heap_alloc _ _ _ (by simp)]; exact heap_alloc_new w _⟩
theorem Two.c0 (h : Two w k x y) : w.cell? ⟨k, 0, none⟩ = some x := by simp [World.cell?, h.heap]
theorem Two.c1 (h : Two w k x y) : w.cell? ⟨k, 1, none⟩ = some y := by simp [World.cell?, h.heap]
theorem Two.f0 (h : Two w k x y) : w.frozen? ⟨k, 0, none⟩ = false := by simp [World.frozen?, h.heap]
theorem Two.f1 (h : Two w k x y) : w.frozen? ⟨k, 1, none⟩ = false := by simp [World.frozen?, h.heap]
theorem Two.lt (h : Two w k x y) : k < w.heap.size := lt_of_block h.heap
theorem Two.gr (h : Two w k x y) (hne : k ≠ B) (hg : Gr B w w') : Two w' k x y := ⟨(hg.block k h.lt (by intro e; injection e with e; exact hne e)).trans h.heap⟩
theorem Two.set0 (h : Two w k x y) (v : Value) : Two (w.setCell ⟨k, 0, none⟩ v) k v y := by
  refine ⟨?_⟩
  have hlt := h.lt
  have h' : w.heap[k] = .cells #[x, y] 85 (0, 0) := by simpa [Array.getElem?_eq_getElem hlt] using h.heap
  show (w.heap.modify k _)[k]? = _
  rw [Array.getElem?_eq_getElem (by simpa using hlt), Array.getElem_modify_self, h']
  rfl
theorem Two.set1 (h : Two w k x y) (v : Value) : Two (w.setCell ⟨k, 1, none⟩ v) k x v := by
  refine ⟨?_⟩
  have hlt := h.lt
  have h' : w.heap[k] = .cells #[x, y] 85 (0, 0) := by simpa [Array.getElem?_eq_getElem hlt] using h.heap
  show (w.heap.modify k _)[k]? = _
  rw [Array.getElem?_eq_getElem (by simpa using hlt), Array.getElem_modify_self, h']
  rfl
theorem Two.other (h : Two w k x y) {a : Addr} (hne : k ≠ a.block) (v : Value) : Two (w.setCell a v) k x y := ⟨by rw [Below.heap_setCell _ _ _ _ hne]; exact h.heap⟩
theorem Rd.other {s : ByteArray} {j : Nat} (h : Rd w B s j) {a : Addr} (hne : B ≠ a.block) (v : Value) : Rd (w.setCell a v) B s j := ⟨by rw [Below.heap_setCell _ _ _ _ hne]; exact h.heap⟩
theorem Gr.own {w0 : World} (h : Gr B w0 w) {a : Addr} (ha : w0.heap.size ≤ a.block) (v : Value) : Gr B w0 (w.setCell a v) :=
  ⟨h.os, h.tape, h.output, by simpa [World.setCell] using h.size, fun k hk hne => by rw [Below.heap_setCell _ _ _ _ (by omega)]; exact h.block k hk hne⟩
end
def avaV (p : List UInt8 × List UInt8) : Value := .agg #[strV p.1, strV p.2]
def pairR (l : List UInt8) : Option ((List UInt8 × List UInt8) × List UInt8) :=
  match typR (skip l) with
  | none => none
  | some (t, l2) =>
    if isAt 61 (skip l2) then
      match valueR (skip ((skip l2).drop 1)) with
      | none => none
      | some (v, l4) => some ((t, v), skip l4)
    else none

set_option maxRecDepth 100000 in
set_option maxHeartbeats 4000000 in
theorem pair_calls (w : World) (B : Nat) (s : ByteArray) (i : Nat) (hr : Rd w B s i) (hi : i ≤ s.size) (hs : s.size < 4294967281) (he : Env w) (hB : 3 ≤ B) :
    Calls Tryz.prog 149 #[.pointer (some ⟨B, 0, none⟩)] w (Reads B s avaV (pairR (rest s i)) w) := by
  have hR := Lib.hid hr
  have hE := Lib.hid he
  have hBlt := hr.lt
  have hs' : s.size ≤ 9223372036854775807 := by omega
  clear hr he
  obtain ⟨r, hr⟩ : ∃ r, pairR (rest s i) = r := ⟨_, rfl⟩
  rw [hr]
  have Hr := Lib.hid hr
  clear hr
  go_enter Tryz.func149, Tryz.ntmps149
  go_wp2_with fail
  have R0 : Hid (Rd _ B s i) := rd_alloc (rd_alloc hR.out (Obj.cells #[Value.string { data := #[] }, Value.string { data := #[] }] 85)) (Obj.cells #[Value.string { data := #[] }, Value.string { data := #[] }] 85)
  have G0 : Hid (Gr B w _) := (gr_alloc B w (Obj.cells #[Value.string { data := #[] }, Value.string { data := #[] }] 85)).trans (gr_alloc B _ (Obj.cells #[Value.string { data := #[] }, Value.string { data := #[] }] 85))
  have A0 : Hid (Two ((w.alloc (Obj.cells #[Value.string { data := #[] }, Value.string { data := #[] }] 85)).alloc (Obj.cells #[Value.string { data := #[] }, Value.string { data := #[] }] 85)) (w.heap.size + 1) (.string ⟨#[]⟩) (.string ⟨#[]⟩)) := two_second _ _ _ _
  have C0 : Hid (Two ((w.alloc (Obj.cells #[Value.string { data := #[] }, Value.string { data := #[] }] 85)).alloc (Obj.cells #[Value.string { data := #[] }, Value.string { data := #[] }] 85)) w.heap.size (.string ⟨#[]⟩) (.string ⟨#[]⟩)) := two_first _ _ _ _
  generalize (w.alloc (Obj.cells #[Value.string { data := #[] }, Value.string { data := #[] }] 85)).alloc (Obj.cells #[Value.string { data := #[] }, Value.string { data := #[] }] 85) = W0 at R0 G0 A0 C0 ⊢
  refine (blanks_calls W0 B s i R0.out hi hs').mono ?_
  rintro e w1 ⟨rfl, j1, hj1, hl1, hR1, hG1⟩
  have R1 := Lib.hid hR1
  have G1 := Lib.hid (G0.out.trans hG1)
  have A1 := Lib.hid (A0.out.gr (B := B) (by omega) hG1)
  have C1 := Lib.hid (C0.out.gr (B := B) (by omega) hG1)
  have L1 := Lib.hid hl1
  clear hR1 hG1 hl1 R0 G0 A0 C0
  go_wp2_with fail
  refine (typ_calls w1 B s j1 R1.out hj1 hs (hE.out.gr hB G1.out) hB).mono ?_
  intro e w2 h
  have Hr1 : Hid (pairR (rest s i) = match typR (rest s j1) with
    | none => none
    | some (t, l2) =>
      if isAt 61 (skip l2) then
        match valueR (skip ((skip l2).drop 1)) with
        | none => none
        | some (v, l4) => some ((t, v), skip l4)
      else none) := by rw [L1.out]; rfl
  generalize typR (rest s j1) = q at *
  rcases q with _ | ⟨t, l2⟩
  · obtain ⟨rfl, hg⟩ := h
    exact ⟨rfl, reads_none (by rw [← Hr.out, Hr1.out]) (G1.out.trans hg)⟩
  obtain ⟨rfl, j2, hj2, hl2, hR2, hG2⟩ := h
  have G2 := Lib.hid (G1.out.trans hG2)
  have A2 := A1.out.gr (B := B) (by omega) hG2
  have C2 := Lib.hid (C1.out.gr (B := B) (by omega) hG2)
  have L2 := Lib.hid hl2
  have R2 := Lib.hid hR2
  clear hG2 hl2 hR2 A1 C1 G1 R1 L1
  have a0 := A2.c0
  have a1 := A2.f0
  have A2' := Lib.hid A2
  clear A2
  simp only [strV]
  go_wp2_with fail
  have R3 := Lib.hid (R2.out.other (a := ⟨w.heap.size + 1, 0, none⟩) (by show B ≠ w.heap.size + 1; omega) (.string ⟨t.toArray⟩))
  have G3 := Lib.hid (G2.out.own (a := ⟨w.heap.size + 1, 0, none⟩) (by show w.heap.size ≤ w.heap.size + 1; omega) (.string ⟨t.toArray⟩))
  have A3 := Lib.hid (A2'.out.set0 (.string ⟨t.toArray⟩))
  have C3 := Lib.hid (C2.out.other (a := ⟨w.heap.size + 1, 0, none⟩) (by show w.heap.size ≠ w.heap.size + 1; omega) (.string ⟨t.toArray⟩))
  generalize w2.setCell ⟨w.heap.size + 1, 0, none⟩ (.string ⟨t.toArray⟩) = w3 at R3 G3 A3 C3 ⊢
  clear a0 a1 A2' C2 G2 R2
  refine (blanks_calls w3 B s j2 R3.out hj2 hs').mono ?_
  rintro e w4 ⟨rfl, j4, hj4, hl4, hR4, hG4⟩
  have R4 := Lib.hid hR4
  have G4 := Lib.hid (G3.out.trans hG4)
  have A4 := Lib.hid (A3.out.gr (B := B) (by omega) hG4)
  have C4 := Lib.hid (C3.out.gr (B := B) (by omega) hG4)
  have L4 := Lib.hid hl4
  clear hR4 hG4 hl4 R3 G3 A3 C3
  go_wp2_with fail
  refine (is_calls w4 B s j4 61 R4.out hj4 hs').mono ?_
  rintro e w5 ⟨rfl, n5, rfl⟩
  by_cases h61 : isAt 61 (rest s j4) = true
  · have hlt := isAt_lt h61
    have e61 := h61
    rw [L4.out, L2.out] at h61
    have Hr2 : Hid (pairR (rest s i) = match valueR (skip (rest s (j4 + 1))) with
        | none => none
        | some (v, l4) => some ((t, v), skip l4)) := by
      show _ = _
      rw [Hr1.out]
      simp only [h61, if_true]
      rw [show (skip l2).drop 1 = rest s (j4 + 1) by rw [← L2.out, ← L4.out]; simp [rest]]
    clear h61
    have R5 := Lib.hid (R4.out.drewN n5)
    have G5 := Lib.hid (G4.out.drewN n5)
    have A5 : Hid (Two (w4.drewN n5) _ _ _) := ⟨A4.out.heap⟩
    have C5 : Hid (Two (w4.drewN n5) _ _ _) := ⟨C4.out.heap⟩
    generalize w4.drewN n5 = w5 at R5 G5 A5 C5 ⊢
    clear R4 G4 A4 C4
    have b1 := R5.out.c1
    have b2 := R5.out.f1
    go_wp2_with fail
    have R6 := Lib.hid (R5.out.setCell (j4 + 1))
    have G6 := Lib.hid (G5.out.setCell 1 (.int .i64 ((j4 + 1 : Nat) : Int)))
    have A6 := Lib.hid (A5.out.other (a := ⟨B, 1, none⟩) (by show w.heap.size + 1 ≠ B; omega) (.int .i64 ((j4 + 1 : Nat) : Int)))
    have C6 := Lib.hid (C5.out.other (a := ⟨B, 1, none⟩) (by show w.heap.size ≠ B; omega) (.int .i64 ((j4 + 1 : Nat) : Int)))
    rw [show ((j4 + 1 : Nat) : Int) = (j4 : Int) + 1 by omega] at R6 G6 A6 C6
    generalize w5.setCell ⟨B, 1, none⟩ (.int .i64 ((j4 : Int) + 1)) = w6 at R6 G6 A6 C6 ⊢
    clear b1 b2 R5 G5 A5 C5 e61
    refine (blanks_calls w6 B s (j4 + 1) R6.out (by omega) hs').mono ?_
    rintro e w7 ⟨rfl, j7, hj7, hl7, hR7, hG7⟩
    have R7 := Lib.hid hR7
    have G7 := Lib.hid (G6.out.trans hG7)
    have A7 := Lib.hid (A6.out.gr (B := B) (by omega) hG7)
    have C7 := Lib.hid (C6.out.gr (B := B) (by omega) hG7)
    have L7 := Lib.hid hl7
    clear hR7 hG7 hl7 R6 G6 A6 C6
    go_wp2_with fail
    refine (value_calls w7 B s j7 R7.out hj7 hs).mono ?_
    intro e w8 h
    have Hr3 : Hid (r = match valueR (rest s j7) with
        | none => none
        | some (v, l4) => some ((t, v), skip l4)) := by
      show r = _
      rw [← Hr.out, Hr2.out, L7.out]
    generalize valueR (rest s j7) = q at *
    rcases q with _ | ⟨v, l8⟩
    · obtain ⟨rfl, hg⟩ := h
      exact ⟨rfl, reads_none Hr3.out (G7.out.trans hg)⟩
    obtain ⟨rfl, j8, hj8, hl8, hR8, hG8⟩ := h
    have G8 := Lib.hid (G7.out.trans hG8)
    have A8 := A7.out.gr (B := B) (by omega) hG8
    have C8 := Lib.hid (C7.out.gr (B := B) (by omega) hG8)
    have L8 := Lib.hid hl8
    have R8 := Lib.hid hR8
    clear hG8 hl8 hR8 A7 C7 G7 R7
    have a0 := A8.c1
    have a1 := A8.f1
    have A8' := Lib.hid A8
    clear A8
    simp only [strV]
    go_wp2_with fail
    have R9 := Lib.hid (R8.out.other (a := ⟨w.heap.size + 1, 1, none⟩) (by show B ≠ w.heap.size + 1; omega) (.string ⟨v.toArray⟩))
    have G9 := Lib.hid (G8.out.own (a := ⟨w.heap.size + 1, 1, none⟩) (by show w.heap.size ≤ w.heap.size + 1; omega) (.string ⟨v.toArray⟩))
    have A9 := Lib.hid (A8'.out.set1 (.string ⟨v.toArray⟩))
    have C9 := Lib.hid (C8.out.other (a := ⟨w.heap.size + 1, 1, none⟩) (by show w.heap.size ≠ w.heap.size + 1; omega) (.string ⟨v.toArray⟩))
    generalize w8.setCell ⟨w.heap.size + 1, 1, none⟩ (.string ⟨v.toArray⟩) = w9 at R9 G9 A9 C9 ⊢
    clear a0 a1 A8' C8 G8 R8
    refine (blanks_calls w9 B s j8 R9.out hj8 hs').mono ?_
    rintro e w10 ⟨rfl, j10, hj10, hl10, hR10, hG10⟩
    have R10 := Lib.hid hR10
    have G10 := Lib.hid (G9.out.trans hG10)
    have A10 := A9.out.gr (B := B) (by omega) hG10
    have C10 := C9.out.gr (B := B) (by omega) hG10
    have L10 := Lib.hid hl10
    clear hR10 hG10 hl10 R9 G9 A9 C9
    have a0 := A10.c0
    have a1 := A10.c1
    have d0 := C10.c0
    have d1 := C10.c1
    have d2 := C10.f0
    have d3 := C10.f1
    have C10' := Lib.hid C10
    clear A10 C10
    go_wp2_with fail
    have C11 := (C10'.out.set0 (.string ⟨t.toArray⟩)).set1 (.string ⟨v.toArray⟩)
    have G11 := Lib.hid ((G10.out.own (a := ⟨w.heap.size, 0, none⟩) (Nat.le_refl _) (.string ⟨t.toArray⟩)).own (a := ⟨w.heap.size, 1, none⟩) (Nat.le_refl _) (.string ⟨v.toArray⟩))
    have R11 := Lib.hid ((R10.out.other (a := ⟨w.heap.size, 0, none⟩) (by show B ≠ w.heap.size; omega) (.string ⟨t.toArray⟩)).other (a := ⟨w.heap.size, 1, none⟩) (by show B ≠ w.heap.size; omega) (.string ⟨v.toArray⟩))
    have f0 := C11.c0
    have f1 := C11.c1
    clear d0 d1 d2 d3 a0 a1 C10' C11
    generalize (w10.setCell ⟨w.heap.size, 0, none⟩ (.string ⟨t.toArray⟩)).setCell ⟨w.heap.size, 1, none⟩ (.string ⟨v.toArray⟩) = w11 at *
    refine bodyPost_ret (v := avaV (t, v)) (by unfold avaV strV; simp [results, Tryz.results149, go_sem, f0, f1]) rfl ?_
    exact reads_some (enc := avaV) Hr3.out ⟨j10, hj10, by rw [L10.out, L8.out], R11.out, G11.out⟩
  · have e61 : isAt 61 (rest s j4) = false := by simpa using h61
    have Hn : Hid (r = none) := by
      show r = none
      rw [← Hr.out, Hr1.out]
      show (if isAt 61 (skip l2) then _ else none) = none
      rw [← L2.out, ← L4.out, if_neg h61]
    clear h61
    go_wp2_with fail
    exact ⟨rfl, reads_none Hn.out (G4.out.drewN n5)⟩
end Sy
end Go.Proofs.YthoealembhkaoaaGreatDoor
