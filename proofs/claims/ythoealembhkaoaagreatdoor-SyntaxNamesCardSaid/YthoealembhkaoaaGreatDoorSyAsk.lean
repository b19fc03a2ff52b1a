import Derived.Test.YthoealembhkaoaaGreatDoorSyRules
namespace Go.Proofs.YthoealembhkaoaaGreatDoor
open Go.RowKit
namespace Sy
set_option linter.unusedVariables false

def entries (bs : List Base) : List (Base × Kd) := bs.flatMap fun b => (Kd.eq :: b.kinds).map fun k => (b, k)
/-- The rule of a key. -/
def ruleIn (bs : List Base) (k : List UInt8 × Int) : Option (Base × Kd) := (entries bs).find? fun e => decide (keyOf e.1.word e.2 = k)
theorem seek_append (k : List UInt8 × Int) : ∀ (a b : Tab) (i : Nat), seek k (a ++ b) i = (seek k a i).or (seek k b (i + a.length))
  | [], b, i => by simp [seek]
  | x :: a, b, i => by
    simp only [List.cons_append, seek]
    split
    · rfl
    · rw [seek_append k a b (i + 1)]
      simp only [List.length_cons]
      rw [show i + 1 + a.length = i + (a.length + 1) by omega]
theorem seek_added (k : List UInt8 × Int) (b : Base) (fv nv : Value) : ∀ (ks : List Kd) (i : Nat),
    (seek k (ks.map (entryOf b.word fv nv)) i = none ∧ (ks.map fun kd => (b, kd)).find? (fun e => decide (keyOf e.1.word e.2 = k)) = none) ∨
    ∃ kd j, seek k (ks.map (entryOf b.word fv nv)) i = some (j, rowV (b.word ++ kd.word) kd fv nv) ∧ (ks.map fun kd => (b, kd)).find? (fun e => decide (keyOf e.1.word e.2 = k)) = some (b, kd)
  | [], i => .inl ⟨rfl, rfl⟩
  | kd :: ks, i => by
    simp only [List.map_cons, seek, entryOf, List.find?_cons]
    by_cases h : keyOf b.word kd = k
    · right
      exact ⟨kd, i, by rw [if_pos h], by simp [h]⟩
    · rw [if_neg h]
      simp only [h, decide_false]
      exact seek_added k b fv nv ks (i + 1)
theorem seek_tab (k : List UInt8 × Int) : ∀ (l : Rows3) (i : Nat),
    (seek k (tabOf l) i = none ∧ ruleIn (l.map (·.1)) k = none) ∨
    ∃ b kd fv nv j, seek k (tabOf l) i = some (j, rowV (b.word ++ kd.word) kd fv nv) ∧ ruleIn (l.map (·.1)) k = some (b, kd) ∧ (b, fv, nv) ∈ l
  | [], i => .inl ⟨rfl, rfl⟩
  | (b, fv, nv) :: l, i => by
    have e1 : tabOf ((b, fv, nv) :: l) = added b.word fv nv b.kinds ++ tabOf l := by simp [tabOf]
    have e2 : ruleIn (((b, fv, nv) :: l).map (·.1)) k = (((Kd.eq :: b.kinds).map fun kd => (b, kd)).find? (fun e => decide (keyOf e.1.word e.2 = k))).or (ruleIn (l.map (·.1)) k) := by
      simp only [ruleIn, entries, List.map_cons, List.flatMap_cons, List.find?_append]
    rw [e1, e2, seek_append]
    rcases seek_added k b fv nv (Kd.eq :: b.kinds) i with ⟨h1, h2⟩ | ⟨kd, j, h1, h2⟩
    · unfold added
      rw [h1, h2]
      rcases seek_tab k l (i + ((Kd.eq :: b.kinds).map (entryOf b.word fv nv)).length) with ⟨h3, h4⟩ | ⟨b', kd', fv', nv', j', h3, h4, h5⟩
      · left; rw [h3, h4]; exact ⟨rfl, rfl⟩
      · right; rw [h3, h4]; exact ⟨b', kd', fv', nv', j', rfl, rfl, .tail _ h5⟩
    · right
      unfold added
      rw [h1, h2]
      exact ⟨b, kd, fv, nv, j, rfl, rfl, .head _⟩
/-- The rule of a name in small letters: first of the kind 0, then 1, then 2. -/
def ruleOf (x : List UInt8) : Option (Base × Kd) := (ruleIn allBases (x, 0)).or ((ruleIn allBases (x, 1)).or (ruleIn allBases (x, 2)))
/-- A rule in memory. -/
def RuleAt (w : World) (g : Nat) (b : Base) (kd : Kd) : Prop :=
  ∃ fv nv, w.cell? ⟨g, 0, none⟩ = some (.string (b.word ++ kd.word)) ∧ w.cell? ⟨g, 1, none⟩ = some (.int .i64 kd.num) ∧ w.cell? ⟨g, 2, none⟩ = some fv ∧ w.cell? ⟨g, 3, none⟩ = some nv ∧ FormsAt w b.forms fv ∧ NormAt w b nv
theorem RuleAt.below {w w' : World} {g : Nat} {b : Base} {kd : Kd} (h : RuleAt w g b kd) (hb : Below w.heap.size w w') : RuleAt w' g b kd := by
  have hk : ∀ a u, w.cell? a = some u → w'.cell? a = some u := fun a u hu => (hb.cell (World.block_lt_of_cell? _ _ hu)).trans hu
  obtain ⟨fv, nv, h0, h1, h2, h3, h4, h5⟩ := h
  exact ⟨fv, nv, hk _ _ h0, hk _ _ h1, hk _ _ h2, hk _ _ h3, h4.keep hk, h5.keep hk⟩
def AskedR (r : Option (Base × Kd)) (w : World) (e : Ending) (w' : World) : Prop :=
  match r with
  | none => e = .returned (.pointer none) ∧ Below w.heap.size w w'
  | some (b, kd) => ∃ g, e = .returned (.pointer (some ⟨g, 0, none⟩)) ∧ RuleAt w' g b kd ∧ Below w.heap.size w w'
theorem rule_new (w : World) (b : Base) (kd : Kd) (fv nv : Value) (hf : FormsAt w b.forms fv) (hn : NormAt w b nv) : RuleAt (w.alloc (.cells #[.string (b.word ++ kd.word), .int .i64 kd.num, fv, nv] 52)) w.heap.size b kd :=
  ⟨fv, nv, by simp [go_sem], by simp [go_sem], by simp [go_sem], by simp [go_sem], hf.keep (keep_alloc _ _), hn.keep (keep_alloc _ _)⟩
set_option maxRecDepth 100000 in
set_option maxHeartbeats 4000000 in
theorem rule_calls (s : ByteArray) (w : World) (hs : s.size ≤ 9223372036854775807) :
    Calls Tryz.prog 53 #[.string s] w (AskedR (ruleOf (small s.data.toList)) w) := by
  have hsm := fun W => small_calls s W hs
  have hsn : ∀ (W : World) (a : Addr) (m : Mode), (store a .nilFunc m).run Tryz.prog W = stored Tryz.prog W a .nilFunc m := fun W a m => run_store _ W a _ m rfl
  have hsf : ∀ (W : World) (a : Addr) (m : Mode) (fn : Fn) (a1 a2 : Array Value), (store a (.func fn a1 a2) m).run Tryz.prog W = stored Tryz.prog W a (.func fn a1 a2) m := fun W a m fn a1 a2 => run_store _ W a _ m rfl
  obtain ⟨res, hres⟩ : ∃ res, ruleOf (small s.data.toList) = res := ⟨_, rfl⟩
  rw [hres]
  have HRes := Lib.hid hres
  clear hres
  generalize small s.data.toList = x at *
  go_enter Tryz.func53, Tryz.ntmps53
  go_wp2_with fail
  refine (rules_calls _).mono ?_
  rintro e w1 ⟨p, r, l, rfl, hst, hl, hb⟩
  have HS := Lib.hid hst
  have HB := Lib.hid hb
  have HL := Lib.hid hl
  clear hst hb hl
  go_wp2_with fail
  go_loopg [4] 3 (fun k kv wr => ∃ i : Nat, i ≤ 3 ∧ 3 - i ≤ k ∧ kv = .int .i64 i ∧ Hid (State wr p r l) ∧ Hid (Below w.heap.size w wr) ∧ Hid (∀ j : Nat, j < i → ruleIn allBases (x, (j : Int)) = none))
  case atStart => exact ⟨0, Nat.zero_le _, Nat.le_refl _, rfl, HS.out, HB.out, fun j hj => absurd hj (Nat.not_lt_zero _)⟩
  case round =>
    obtain ⟨i, hi, hk, rfl, hst, hb, hno⟩ := hrel
    by_cases hlt : i ≤ 2
    · go_wp2_with fail
      refine (hsm _).mono ?_
      rintro e w2 ⟨rfl, hb2⟩
      simp only [strV]
      have st2 := hst.out.below hb2
      have hb3 : Below w.heap.size w w2 := hb.out.trans (hb2.mono hb.out.size)
      have hlk := lookup_tab st2.tab (x, (i : Int))
      simp only [keyV] at hlk
      rcases seek_tab (x, (i : Int)) l 0 with ⟨h1, h2⟩ | ⟨b, kd, fv, nv, j, h1, h2, h3⟩
      · rw [h1] at hlk
        simp only at hlk
        rw [HL.out] at h2
        have Hno : Hid (∀ j : Nat, j < i + 1 → ruleIn allBases (x, (j : Int)) = none) := fun j hj => by
          rcases (by omega : j < i ∨ j = i) with h | rfl
          · exact hno.out j h
          · exact h2
        have HS3 := Lib.hid (st2.below (alloc_below w2 (.cells #[.string ⟨#[]⟩, .int .i64 0, .slice none 0 0, .nilFunc] 52)))
        have HB3 := Lib.hid (hb3.alloc hb3.size (.cells #[.string ⟨#[]⟩, .int .i64 0, .slice none 0 0, .nilFunc] 52))
        clear h1 h2 st2 hb2 hb3 hno hst hb
        go_wp2_with fail
        go_roundg (3 - (i + 1))
        case measure => omega
        case rel => exact ⟨i + 1, by omega, Nat.le_refl _, by go_num, HS3.out, HB3.out, Hno.out⟩
      · rw [h1] at hlk
        simp only [rowV] at hlk
        rw [HL.out] at h2
        have hf := st2.forms _ h3
        have hn := st2.norm _ h3
        simp only at hf hn
        have Hr := Lib.hid (rule_new w2 b kd fv nv hf hn)
        have HB3 := Lib.hid (hb3.alloc hb3.size (.cells #[.string (b.word ++ kd.word), .int .i64 kd.num, fv, nv] 52))
        have Hres : Hid (res = some (b, kd)) := by
          show res = _
          rw [← HRes.out]
          unfold ruleOf
          have hno := hno.out
          rcases (by omega : i = 0 ∨ i = 1 ∨ i = 2) with rfl | rfl | rfl
          · rw [show ((0 : Nat) : Int) = 0 from rfl] at h2; rw [h2]; rfl
          · have n0 := hno 0 (by omega)
            rw [show ((0 : Nat) : Int) = 0 from rfl] at n0
            rw [show ((1 : Nat) : Int) = 1 from rfl] at h2
            rw [n0, h2]; rfl
          · have n0 := hno 0 (by omega)
            have n1 := hno 1 (by omega)
            rw [show ((0 : Nat) : Int) = 0 from rfl] at n0
            rw [show ((1 : Nat) : Int) = 1 from rfl] at n1
            rw [show ((2 : Nat) : Int) = 2 from rfl] at h2
            rw [n0, n1, h2]; rfl
        obtain ⟨gf, cf, rfl, _⟩ := id hf
        obtain ⟨fn, a1, a2, rfl⟩ := hn.func
        clear h1 h2 h3 st2 hb2 hb3 hno hst hb hf hn
        go_wp2_with fail
        go_ret
        rw [Hres.out]
        exact ⟨_, rfl, Hr.out, HB3.out⟩
    · have ei : i = 3 := by omega
      subst ei
      have Hres : Hid (res = none) := by
        show res = _
        rw [← HRes.out]
        have n0 := hno.out 0 (by omega)
        have n1 := hno.out 1 (by omega)
        have n2 := hno.out 2 (by omega)
        unfold ruleOf
        rw [show ((0 : Nat) : Int) = 0 from rfl] at n0
        rw [show ((1 : Nat) : Int) = 1 from rfl] at n1
        rw [show ((2 : Nat) : Int) = 2 from rfl] at n2
        rw [n0, n1, n2]; rfl
      go_wp2_with fail
      go_ret
      rw [Hres.out]
      exact ⟨rfl, hb.out⟩
end Sy
end Go.Proofs.YthoealembhkaoaaGreatDoor
