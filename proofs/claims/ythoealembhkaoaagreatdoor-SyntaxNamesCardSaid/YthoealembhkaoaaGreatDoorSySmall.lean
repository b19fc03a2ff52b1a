import Derived.Test.YthoealembhkaoaaGreatDoorSyWr
namespace Go.Proofs.YthoealembhkaoaaGreatDoor
open Go.RowKit
namespace Sy
set_option linter.unusedVariables false

def smallB (b : UInt8) : UInt8 := if 65 ≤ b.toNat ∧ b.toNat ≤ 90 then b + 32 else b
def small (l : List UInt8) : List UInt8 := l.map smallB
/-- The bytes of a block made out of a text. -/
def BR (w : World) (g : Nat) (l : List UInt8) : Prop := ∃ cur : Array Value, w.heap[g]? = some (.cells cur 5 (cur.size, cur.size + 1)) ∧ l.length ≤ cur.size ∧ ∀ j (h : j < l.length), cur[j]? = some (.int .u8 (l[j].toNat : Int))
theorem BR.cell {w : World} {g : Nat} {l : List UInt8} (h : BR w g l) (j : Nat) (hj : j < l.length) : w.cell? ⟨g, j, none⟩ = some (.int .u8 (l[j].toNat : Int)) := by
  obtain ⟨cur, hh, hl, hc⟩ := h
  simp [World.cell?, hh, hc j hj]
theorem BR.frozen {w : World} {g : Nat} {l : List UInt8} (h : BR w g l) (j : Nat) (hj : j < l.length) : w.frozen? ⟨g, j, none⟩ = false := by
  obtain ⟨cur, hh, hl, hc⟩ := h
  simp [World.frozen?, hh]
  intro _; omega
theorem BR.set {w : World} {g : Nat} {l : List UInt8} (h : BR w g l) (j : Nat) (hj : j < l.length) (x : UInt8) : BR (w.setCell ⟨g, j, none⟩ (.int .u8 (x.toNat : Int))) g (l.set j x) := by
  obtain ⟨cur, hh, hl, hc⟩ := h
  refine ⟨cur.setIfInBounds j (.int .u8 (x.toNat : Int)), ?_, by simpa using hl, ?_⟩
  · simp [World.setCell, Array.getElem?_modify, hh]
  · intro k hk
    simp at hk
    by_cases e : j = k
    · subst e
      rw [Array.getElem?_setIfInBounds_self_of_lt (by omega)]
      simp
    · rw [Array.getElem?_setIfInBounds_ne e, hc k hk]
      simp [List.getElem_set_ne e]
theorem BR.new (w : World) (s : ByteArray) (cap : Nat) : BR (w.alloc (.cells (bytesRow s cap) 5 ((bytesRow s cap).size, (bytesRow s cap).size + 1))) w.heap.size s.data.toList := by
  refine ⟨bytesRow s cap, ?_, ?_, ?_⟩
  · show (w.heap.push _)[w.heap.size]? = _
    simp
  · simp [bytesRow]
  · intro j hj
    simp at hj
    unfold bytesRow
    rw [Array.getElem?_append_left (by simpa using hj)]
    simp [hj]
theorem BR.back {w : World} {g : Nat} {l : List UInt8} (h : BR w g l) (c : Nat) : (convert 88 9 (.slice (some ⟨g, 0, none⟩) l.length c)).run Tryz.prog w = .ok (.string ⟨l.toArray⟩) w :=
  run_convert_bytes_back (P := Tryz.prog) w 88 9 5 ⟨g, 0, none⟩ c l Tryz.underlying88 Tryz.underlying5 Tryz.underlying9 (fun j hj => by cases j <;> simpa [Addr.add] using h.cell _ hj)
/-- What lies behind i rounds. -/
def smallAt (l : List UInt8) (i : Nat) : List UInt8 := (l.take i).map smallB ++ l.drop i
theorem smallAt_length (l : List UInt8) (i : Nat) : (smallAt l i).length = l.length := by simp [smallAt]; omega
theorem smallAt_get (l : List UInt8) (i : Nat) (h : i < l.length) : (smallAt l i)[i]'(by rw [smallAt_length]; exact h) = l[i] := by
  simp [smallAt, List.getElem_append_right, Nat.min_eq_left (Nat.le_of_lt h)]
theorem smallAt_next (l : List UInt8) (i : Nat) (h : i < l.length) : (smallAt l i).set i (smallB l[i]) = smallAt l (i + 1) := by
  unfold smallAt
  rw [List.set_append_right _ _ (by simp; omega)]
  have e : i - (List.map smallB (l.take i)).length = 0 := by simp; omega
  rw [e, List.drop_eq_getElem_cons h, List.set_cons_zero, List.take_succ_eq_append_getElem h, List.map_append]
  simp
theorem smallAt_same (l : List UInt8) (i : Nat) (h : i < l.length) (hs : smallB l[i] = l[i]) : smallAt l i = smallAt l (i + 1) := by
  rw [← smallAt_next l i h, hs]
  apply List.ext_getElem (by simp)
  intro k h1 h2
  by_cases e : i = k
  · subst e; simp [smallAt_get l i h]
  · rw [List.getElem_set_ne e]
set_option maxRecDepth 100000 in
set_option maxHeartbeats 4000000 in
theorem small_calls (s : ByteArray) (w : World) (hs : s.size ≤ 9223372036854775807) :
    Calls Tryz.prog 91 #[.string s] w fun e w' => e = .returned (strV (small s.data.toList)) ∧ Below w.heap.size w w' := by
  have hcv := run_bytes_of_string (P := Tryz.prog) w 9 88 5 s Tryz.underlying9 Tryz.underlying88 Tryz.underlying5
  have hB0 := BR.new w.drew s (grownCap w s.size 0 5)
  have hb0 : Below w.heap.size w (w.drew.alloc (.cells (bytesRow s (grownCap w s.size 0 5)) 5 ((bytesRow s (grownCap w s.size 0 5)).size, (bytesRow s (grownCap w s.size 0 5)).size + 1))) := (Below.refl _ _).drew.alloc (Nat.le_refl _) _
  obtain ⟨w1, hw1⟩ : ∃ w1, w1 = w.drew.alloc (.cells (bytesRow s (grownCap w s.size 0 5)) 5 ((bytesRow s (grownCap w s.size 0 5)).size, (bytesRow s (grownCap w s.size 0 5)).size + 1)) := ⟨_, rfl⟩
  rw [← hw1] at hcv hB0 hb0
  clear hw1
  generalize grownCap w s.size 0 5 = cap at *
  obtain ⟨g, hg⟩ : ∃ g, g = w.heap.size := ⟨_, rfl⟩
  rw [show w.drew.heap.size = g from hg.symm] at hB0
  rw [← hg] at hcv hb0 ⊢
  have HB := Lib.hid hB0
  have HW := Lib.hid hb0
  clear hg hB0 hb0
  go_enter Tryz.func91, Tryz.ntmps91
  go_wp2_with fail
  go_loopg [10] s.size (fun k iv wr => ∃ i : Nat, i ≤ s.size ∧ s.size - i ≤ k ∧ iv = .int .i64 i ∧ Hid (BR wr g (smallAt s.data.toList i)) ∧ Hid (Below g w wr))
  case atStart => exact ⟨0, Nat.zero_le _, Nat.le_refl _, rfl, by show BR _ _ _; simpa [smallAt] using HB.out, HW.out⟩
  case round =>
    obtain ⟨i, hi, hk, rfl, hb, hw⟩ := hrel
    have hsl : s.data.toList.length = s.size := by simp
    by_cases hlt : i < s.size
    · have hj : i < s.data.toList.length := by omega
      have hjl : i < (smallAt s.data.toList i).length := by rw [smallAt_length]; exact hj
      have c0 := hb.out.cell i hjl
      have f0 := hb.out.frozen i hjl
      rw [smallAt_get _ _ hj] at c0
      have hN := Lib.hid (smallAt_next s.data.toList i hj)
      have hS := fun h => Lib.hid (smallAt_same s.data.toList i hj h)
      have hset := fun x => Lib.hid (hb.out.set i hjl x)
      have hbl := byte_le (s.data.toList[i])
      generalize s.data.toList[i] = c at *
      by_cases hc : 65 ≤ c.toNat ∧ c.toNat ≤ 90
      · have q1 : (65 : Int) ≤ (c.toNat : Int) := by omega
        have q2 : (c.toNat : Int) ≤ 90 := by omega
        have hsm : smallB c = c + 32 := by simp [smallB, hc]
        have hv : ((c + 32 : UInt8).toNat : Int) = (c.toNat : Int) + 32 := by
          have : (c + 32 : UInt8).toNat = c.toNat + 32 := by rw [UInt8.toNat_add]; simp; omega
          omega
        have B2 : Hid (BR (wr.setCell ⟨g, i, none⟩ (.int .u8 ((c.toNat : Int) + 32))) g (smallAt s.data.toList (i + 1))) := by
          have := (hset (c + 32)).out
          rw [hv, ← hsm, hN.out] at this
          exact this
        have W2 : Hid (Below g w (wr.setCell ⟨g, i, none⟩ (.int .u8 ((c.toNat : Int) + 32)))) := hw.out.setCell (Nat.le_refl _) _
        clear hset hN hS hsm hv
        go_wp2_with fail
        go_roundg (s.size - (i + 1))
        case measure => omega
        case rel => exact ⟨i + 1, by omega, Nat.le_refl _, by go_num, B2.out, W2.out⟩
      · have hsm : smallB c = c := by simp [smallB, hc]
        have B2 : Hid (BR wr g (smallAt s.data.toList (i + 1))) := by
          have := hb.out
          rw [(hS hsm).out] at this
          exact this
        clear hset hN hS hsm
        by_cases q1 : (65 : Int) ≤ (c.toNat : Int)
        · have q2 : ¬ (c.toNat : Int) ≤ 90 := by omega
          go_wp2_with fail
          go_roundg (s.size - (i + 1))
          case measure => omega
          case rel => exact ⟨i + 1, by omega, Nat.le_refl _, by go_num, B2.out, hw.out⟩
        · go_wp2_with fail
          go_roundg (s.size - (i + 1))
          case measure => omega
          case rel => exact ⟨i + 1, by omega, Nat.le_refl _, by go_num, B2.out, hw.out⟩
    · have hcv2 := hb.out.back cap
      rw [smallAt_length, hsl] at hcv2
      have he : smallAt s.data.toList i = small s.data.toList := by
        simp only [smallAt, small]
        rw [List.take_of_length_le (by omega), List.drop_of_length_le (by omega)]; simp
      have He := Lib.hid he
      clear he
      go_wp2_with fail
      go_ret
      exact ⟨by rw [He.out]; rfl, hw.out⟩
end Sy
end Go.Proofs.YthoealembhkaoaaGreatDoor
