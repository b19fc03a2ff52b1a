import Derived.Test.YthoealembhkaoaaGreatDoorSyBase
namespace Go.Proofs.YthoealembhkaoaaGreatDoor
open Go.RowKit
namespace Sy
set_option linter.unusedVariables false

/-- The world with some blocks behind it, some orders having been drawn. -/
def grw (w : World) (d : Nat) (os : Array Obj) : World := { w with heap := w.heap ++ os, drawn := d }
structure GrwBy where
  d : Nat
  os : Array Obj
instance : Inhabited GrwBy := ⟨⟨0, #[]⟩⟩
theorem grw_of_below {w w' : World} (h : Below w.heap.size w w') : ∃ p : GrwBy, w' = grw w p.d p.os := by
  refine ⟨⟨w'.drawn, w'.heap.extract w.heap.size w'.heap.size⟩, ?_⟩
  have hh : w'.heap = w.heap ++ w'.heap.extract w.heap.size w'.heap.size := by
    apply Array.ext_getElem?
    intro i
    rw [Array.getElem?_append]
    split
    · rename_i hi; exact h.block i hi
    · rename_i hi
      have := h.size
      rw [Array.getElem?_extract]
      split
      · rename_i hj; congr 1; omega
      · rename_i hj; rw [Array.getElem?_eq_none (by omega)]
  obtain ⟨heap, tape, drawn, os, out⟩ := w'
  have h1 := h.os
  have h2 := h.tape
  have h3 := h.output
  simp only at h1 h2 h3 hh
  subst h1 h2 h3
  simp only [grw]
  rw [← hh]
theorem grw_below (w : World) (d : Nat) (os : Array Obj) : Below w.heap.size w (grw w d os) :=
  ⟨rfl, rfl, rfl, by simp [grw], fun k hk => by simp [grw, Array.getElem?_append_left hk]⟩
theorem grw_cell {w : World} {a : Addr} {v : Value} (h : w.cell? a = some v) (d : Nat) (os : Array Obj) : (grw w d os).cell? a = some v :=
  ((grw_below w d os).cell (World.block_lt_of_cell? w a h)).trans h
theorem grw_size (w : World) (d : Nat) (os : Array Obj) : w.heap.size ≤ (grw w d os).heap.size := by simp [grw]

/-- A callee that makes memory and turns nothing, met in a world of the class. -/
theorem quiet_below {P : Program} {f : FuncId} {args : Array Value} {w : World} {d : Nat} {os : Array Obj} {v : Value}
    (h : Calls P f args (grw w d os) fun e w' => e = .returned v ∧ Below (grw w d os).heap.size (grw w d os) w') :
    Calls P f args (grw w d os) fun e w'' => e = .returned v ∧ ∃ p : GrwBy, w'' = grw w p.d p.os :=
  h.mono fun e w' ⟨he, hb⟩ => ⟨he, grw_of_below ((grw_below w d os).trans (hb.mono (grw_size w d os)))⟩
theorem quiet_drewN {P : Program} {f : FuncId} {args : Array Value} {w : World} {d : Nat} {os : Array Obj} {v : Value}
    (h : Calls P f args (grw w d os) fun e w' => e = .returned v ∧ ∃ n, w' = (grw w d os).drewN n) :
    Calls P f args (grw w d os) fun e w'' => e = .returned v ∧ ∃ p : GrwBy, w'' = grw w p.d p.os :=
  quiet_below (h.mono fun e w' ⟨he, n, hn⟩ => ⟨he, by rw [hn]; exact ⟨rfl, rfl, rfl, Nat.le_refl _, fun _ _ => rfl⟩⟩)
theorem quiet_same {P : Program} {f : FuncId} {args : Array Value} {w : World} {d : Nat} {os : Array Obj} {v : Value}
    (h : Calls P f args (grw w d os) fun e w' => e = .returned v ∧ grw w d os = w') :
    Calls P f args (grw w d os) fun e w'' => e = .returned v ∧ ∃ p : GrwBy, w'' = grw w p.d p.os :=
  h.mono fun e w' ⟨he, hb⟩ => ⟨he, ⟨d, os⟩, hb.symm⟩

theorem region_below {P : Program} {id : Nat} {Q : Exit → Act → World → Prop} {a : Act} {w : World} {l : List Oper} (hm : P.follows .mixedOrders = true) (hB : Region.lexB .any l.toArray = true)
    (h : wpQuiet P l.toArray (fun w' => ∃ p : GrwBy, w' = grw w p.d p.os) (fun a' => ∀ w', (∃ p : GrwBy, w' = grw w p.d p.os) → Q .normal a' w') l a) : (Code.region id l.toArray true).wp P Q a w :=
  wp_region_quiet (C := fun w' => ∃ p : GrwBy, w' = grw w p.d p.os) hm hB ⟨⟨w.drawn + 1, #[]⟩, by simp [grw]⟩ (by simpa using h)
end Sy
end Go.Proofs.YthoealembhkaoaaGreatDoor
