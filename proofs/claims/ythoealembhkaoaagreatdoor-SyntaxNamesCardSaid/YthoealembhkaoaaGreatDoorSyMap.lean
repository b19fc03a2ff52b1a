import Derived.Test.YthoealembhkaoaaGreatDoorSyBase
import Derived.MapKept
namespace Go.Proofs.YthoealembhkaoaaGreatDoor
open Go.RowKit
namespace Sy
set_option linter.unusedVariables false

/-! A map whose keys are a name and a kind. -/
def keyV (k : List UInt8 × Int) : Value := .agg #[.string ⟨k.1.toArray⟩, .int .i64 k.2]
theorem fields95 : Tryz.prog.fieldsOf 95 = #[(Tryz.prog.fieldsOf 95)[0]!, (Tryz.prog.fieldsOf 95)[1]!] := by kernel_rfl
theorem eq_cells95 (a c : ByteArray) (i j : Int) (W : World) : (Op.equalIn 10000 95 (.agg #[.string a, .int .i64 i]) (.agg #[.string c, .int .i64 j])).run Tryz.prog W = .ok (a.toList == c.toList && i == j) W := by
  rw [run_equalIn_agg W 9999 95 _ _ (by kernel_rfl) (by kernel_rfl), fields95]
  simp [Op.eqFields, go_sem]
  split
  · by_cases h : i = j <;> simp_all
  · simp_all
theorem eq_key (a b : List UInt8 × Int) (W : World) : (Op.equal 95 (keyV a) (keyV b)).run Tryz.prog W = .ok (decide (a = b)) W := by
  obtain ⟨a1, a2⟩ := a
  obtain ⟨b1, b2⟩ := b
  unfold keyV
  rw [show Op.equal 95 = Op.equalIn 10000 95 from rfl, eq_cells95]
  congr 1
  rw [Bool.eq_iff_iff]
  simp [ByteArray.toList_eq]
theorem check_key (em : Bool) (k : List UInt8 × Int) (W : World) : (Instr.checkKey em 10000 95 (keyV k)).run Tryz.prog W = .ok () W := by
  have h9 : (Instr.checkKey em 9999 9 (.string ⟨k.1.toArray⟩)).run Tryz.prog W = .ok () W := MapKept.run_checkKey (d := .string) Tryz.underlying9 (k := .string ⟨k.1.toArray⟩) (by simp [MapKept.IsKey]) em 9998
  have h3 : (Instr.checkKey em 9999 3 (.int .i64 k.2)).run Tryz.prog W = .ok () W := MapKept.run_checkKey (d := .int .i64) Tryz.underlying3 (by simp [MapKept.IsKey]) em 9998
  unfold keyV
  rw [show (10000 : Nat) = 9999 + 1 from rfl, Instr.checkKey]
  simp only [Sem.run_bind, run_underlying Tryz.underlying95, Result.andThen_ok]
  rw [← Array.forIn_toList]
  simp [List.forIn_cons, Sem.run_bind, go_sem, h9, h3]

/-- What a table holds, entry by entry: key, value. -/
abbrev Tab := List ((List UInt8 × Int) × Value)
def Holds (es : List MapEntry) (t : Tab) : Prop := es.map (fun e => (e.key, e.val)) = t.map fun x => (keyV x.1, x.2)
/-- The first entry of a key: its place, its value. -/
def seek (k : List UInt8 × Int) : Tab → Nat → Option (Nat × Value)
  | [], _ => none
  | x :: t, i => if x.1 = k then some (i, x.2) else seek k t (i + 1)
theorem find_asking (k : List UInt8 × Int) (W : World) : ∀ (es : List MapEntry) (t : Tab) (i : Nat), Holds es t → (Instr.findAsking 95 (keyV k) es i).run Tryz.prog W = .ok (seek k t i) W
  | [], [], i, _ => rfl
  | [], _ :: _, _, h => by simp [Holds] at h
  | _ :: _, [], _, h => by simp [Holds] at h
  | e :: es, x :: t, i, h => by
    simp only [Holds, List.map_cons, List.cons.injEq, Prod.mk.injEq] at h
    obtain ⟨⟨h1, h2⟩, h3⟩ := h
    have ih := find_asking k W es t (i + 1) h3
    unfold Instr.findAsking seek
    simp only [Sem.run_bind, h1, eq_key, Result.andThen_ok]
    by_cases hx : k = x.1
    · subst hx; simp [h2]
    · have hx' : ¬ x.1 = k := fun e => hx e.symm
      simpa [hx, hx'] using ih
theorem find_key (k : List UInt8 × Int) (W : World) (es : List MapEntry) (t : Tab) (h : Holds es t) : (Instr.findKey 95 (keyV k) es).run Tryz.prog W = .ok (seek k t 0) W := by
  have ha := find_asking k W es t 0 h
  unfold Instr.findKey
  simp only [Sem.run_bind, run_underlying Tryz.underlying95, Result.andThen_ok]
  cases es with
  | nil =>
    cases t with
    | nil => rfl
    | cons _ _ => simp [Holds] at h
  | cons e es =>
    have : ∀ fs, Instr.findNow (.struct fs) (keyV k) (e :: es) 0 = none := fun fs => by
      simp [Instr.findNow, Instr.sameNow]
    rw [this]
    exact ha

/-- A table lies in a block. -/
def TabAt (w : World) (r : Nat) (t : Tab) : Prop := ∃ es clock, w.heap[r]? = some (.map es clock) ∧ Holds es.toList t
theorem TabAt.lt {w : World} {r : Nat} {t : Tab} (h : TabAt w r t) : r < w.heap.size := by
  obtain ⟨es, clock, h, _⟩ := h
  exact lt_of_block h
theorem lookup_tab {w : World} {r : Nat} {t : Tab} (h : TabAt w r t) (k : List UInt8 × Int) :
    (Instr.lookup 91 (.map (some r)) (keyV k) true).run Tryz.prog w = (match seek k t 0 with | some (_, v) => .ok (.tuple #[v, .bool true]) w | none => .ok (.tuple #[.agg #[.string ⟨#[]⟩, .int .i64 0, .slice none 0 0, Value.nilFunc], .bool false]) w) := by
  obtain ⟨es, clock, h, hh⟩ := h
  have hf := find_key k w es.toList t hh
  unfold Instr.lookup
  simp only [Sem.run_bind, run_underlying Tryz.underlying91, MapKept.run_getObj_map h, check_key, hf, Result.andThen_ok, Sem.run_pure]
  cases seek k t 0 with
  | none => simp only [Sem.run_bind, Tryz.zeroValue52, Result.andThen_ok, Sem.run_pure, if_true]
  | some x => simp only [Sem.run_bind, Sem.run_pure, Result.andThen_ok, if_true]
theorem update_tab {w : World} {r : Nat} {t : Tab} (h : TabAt w r t) (k : List UInt8 × Int) (hn : seek k t 0 = none) (v : Value) :
    ∃ w', (Instr.mapUpdate 91 (.map (some r)) (keyV k) v).run Tryz.prog w = .ok () w' ∧ TabAt w' r (t ++ [(k, v)]) ∧ w.grownBy w' (some r) := by
  obtain ⟨es, clock, h, hh⟩ := h
  have hf := find_key k w es.toList t hh
  rw [hn] at hf
  refine ⟨{ w with heap := w.heap.setIfInBounds r (.map (es.push { key := keyV k, val := v, born := clock }) (clock + 1)) }, ?_, ?_, ?_⟩
  · unfold Instr.mapUpdate
    simp only [Sem.run_bind, run_underlying Tryz.underlying91, MapKept.run_getObj_map h, check_key, hf, Result.andThen_ok]
    exact MapKept.run_setObj_map _ h
  · refine ⟨_, _, (MapKept.heap_set h).1, ?_⟩
    unfold Holds at hh ⊢
    simp [hh]
  · refine ⟨rfl, rfl, rfl, by simp, fun i _ hne => (MapKept.heap_set h).2 i (fun e => hne (by rw [e]))⟩
end Sy
end Go.Proofs.YthoealembhkaoaaGreatDoor
