import Derived.Test.YthoealembhkaoaaGreatDoorSyAsk
namespace Go.Proofs.YthoealembhkaoaaGreatDoor
open Go.RowKit
namespace Sy
set_option linter.unusedVariables false

/-- The rule of a name, if it is of a kind. -/
def askR (x : List UInt8) (k : Int) : Option (Base × Kd) :=
  match ruleOf x with
  | none => none
  | some (b, kd) => if kd.num = k then some (b, kd) else none
def AskedE (r : Option (Base × Kd)) (w : World) (e : Ending) (w' : World) : Prop :=
  match r with
  | none => e = .returned (.tuple #[.pointer none, .int .i64 41]) ∧ Below w.heap.size w w'
  | some (b, kd) => ∃ g, e = .returned (.tuple #[.pointer (some ⟨g, 0, none⟩), .int .i64 0]) ∧ RuleAt w' g b kd ∧ Below w.heap.size w w'
set_option maxHeartbeats 1000000 in
theorem asked_calls (s : ByteArray) (k : Int) (w : World) (hs : s.size ≤ 9223372036854775807) :
    Calls Tryz.prog 30 #[.string s, .int .i64 k] w (AskedE (askR (small s.data.toList) k) w) := by
  have hc := rule_calls s w hs
  unfold askR
  generalize ruleOf (small s.data.toList) = r at *
  cases r with
  | none =>
    go_enter Tryz.func30, Tryz.ntmps30
    go_wp2_with fail
    refine hc.mono ?_
    rintro e w1 ⟨rfl, hb⟩
    clear hc
    go_wp2_with fail
    go_ret2
    exact ⟨rfl, hb⟩
  | some x =>
    obtain ⟨b, kd⟩ := x
    simp only
    by_cases hk : kd.num = k
    · rw [if_pos hk]
      have q : (kd.num != k) = false := by simpa using hk
      go_enter Tryz.func30, Tryz.ntmps30
      go_wp2_with fail
      refine hc.mono ?_
      rintro e w1 ⟨g, rfl, hr, hb⟩
      have HR := Lib.hid hr
      obtain ⟨fv, nv, c0, c1, c2, c3, hf, hn⟩ := hr
      clear hc c0 c2 c3 hf hn hk
      go_wp2_with fail
      go_ret2
      exact ⟨g, rfl, HR.out, hb⟩
    · rw [if_neg hk]
      have q : (kd.num != k) = true := by simpa using hk
      go_enter Tryz.func30, Tryz.ntmps30
      go_wp2_with fail
      refine hc.mono ?_
      rintro e w1 ⟨g, rfl, hr, hb⟩
      have HR := Lib.hid hr
      obtain ⟨fv, nv, c0, c1, c2, c3, hf, hn⟩ := hr
      clear hc c0 c2 c3 hf hn hk
      go_wp2_with fail
      go_ret2
      exact ⟨rfl, hb⟩
/-- A base's normal form. -/
def Base.norm : Base → List UInt8 → Option (List UInt8)
  | .octet, l => some l
  | .exact, l => prepR false l
  | .ignore, l => prepR true l
  | .integer, l => some l
  | .boolean, l => some l
  | .dn, l => nameR l
  | .oid, l => some (small l)
  | .time, l => some l
def normB (b : Base) (l : List UInt8) : Option (List UInt8) := if l.length ≤ 1024 ∧ (b.forms.any fun f => f.ok l) = true then b.norm l else none
def normV : Option (List UInt8) → Value
  | some l => .tuple #[strV l, .int .i64 0]
  | none => .tuple #[.string ⟨#[]⟩, .int .i64 40]
/-- What a base's function value tells. -/
theorem norm_calls (b : Base) (nv : Value) (v : ByteArray) (w : World) (hn : NormAt w b nv) (he : Env w) (hv : v.size ≤ 4294967296) :
    ∃ fn cap, nv = .func (.func fn) #[] cap ∧ (cap = #[] ∨ ∃ p, cap = #[.pointer (some p)]) ∧ (∀ args w, (callFunc fn args).run Tryz.prog w = .ok (.enter fn args) w) ∧ ∀ W, Below w.heap.size w W → Calls Tryz.prog fn (#[.string v] ++ cap) W fun e w' => e = .returned (okV (b.norm v.data.toList)) ∧ Below W.heap.size W w' := by
  have self : ∀ W : World, Calls Tryz.prog 131 (#[.string v] ++ #[]) W fun e w' => e = .returned (okV (some v.data.toList)) ∧ Below W.heap.size W w' := fun W =>
    (self_calls v W).mono fun e w' h => ⟨h.1, by rw [h.2]; exact Below.refl _ _⟩
  have keep : ∀ {W : World} {p : Addr} {u : Value}, Below w.heap.size w W → w.cell? p = some u → W.cell? p = some u := fun hb h => (hb.cell (World.block_lt_of_cell? _ _ h)).trans h
  cases b <;> simp only [NormAt] at hn
  · exact ⟨131, #[], hn, .inl rfl, enters_of Tryz.func131 (by kernel_rfl) rfl, fun W _ => self W⟩
  · obtain ⟨p, rfl, hp⟩ := hn
    exact ⟨160, _, rfl, .inr ⟨p, rfl⟩, enters_of Tryz.func160 (by kernel_rfl) rfl, fun W hb => text160_calls v false p W (keep hb hp) hv (he.below hb)⟩
  · obtain ⟨p, rfl, hp⟩ := hn
    exact ⟨160, _, rfl, .inr ⟨p, rfl⟩, enters_of Tryz.func160 (by kernel_rfl) rfl, fun W hb => text160_calls v true p W (keep hb hp) hv (he.below hb)⟩
  · exact ⟨131, #[], hn, .inl rfl, enters_of Tryz.func131 (by kernel_rfl) rfl, fun W _ => self W⟩
  · exact ⟨131, #[], hn, .inl rfl, enters_of Tryz.func131 (by kernel_rfl) rfl, fun W _ => self W⟩
  · exact ⟨133, #[], hn, .inl rfl, enters_of Tryz.func133 (by kernel_rfl) rfl, fun W hb => nameNorm_calls v W (he.below hb) (by omega)⟩
  · exact ⟨134, #[], hn, .inl rfl, enters_of Tryz.func134 (by kernel_rfl) rfl, fun W hb => oidNorm_calls v W (by omega)⟩
  · exact ⟨131, #[], hn, .inl rfl, enters_of Tryz.func131 (by kernel_rfl) rfl, fun W _ => self W⟩
set_option maxRecDepth 100000 in
set_option maxHeartbeats 4000000 in
theorem normal_calls (g : Nat) (b : Base) (kd : Kd) (v : ByteArray) (w : World) (hr : RuleAt w g b kd) (he : Env w) (hv : v.size ≤ 9223372036854775807) :
    Calls Tryz.prog 40 #[.pointer (some ⟨g, 0, none⟩), .string v] w fun e w' => e = .returned (normV (normB b v.data.toList)) ∧ Below w.heap.size w w' := by
  have hvl : v.data.toList.length = v.size := by simp
  have hmf : ∀ (fn : Fn) (first cap : Array Value) (w : World), (Instr.makeFunc fn first cap).run Tryz.prog w = .ok (.func fn first cap) w := fun _ _ _ _ => rfl
  unfold normB
  by_cases hl : 1024 < v.size
  · rw [if_neg (by rw [hvl]; omega)]
    have hl' : (1024 : Int) < (v.size : Int) := by omega
    clear hr he
    go_enter Tryz.func40, Tryz.ntmps40
    go_wp2_with fail
    go_ret2
    exact ⟨rfl, alloc_below _ _⟩
  · have hl' : ¬ (1024 : Int) < (v.size : Int) := by omega
    have hb0 := alloc_below w (.cells #[.string v] 9)
    have hr1 := hr.below hb0
    have he1 := he.below hb0
    have cv : (w.alloc (.cells #[.string v] 9)).cell? ⟨w.heap.size, 0, none⟩ = some (.string v) := by simp [go_sem]
    obtain ⟨w1, hw1⟩ : ∃ w1, w1 = w.alloc (.cells #[.string v] 9) := ⟨_, rfl⟩
    rw [← hw1] at hb0 hr1 he1 cv
    obtain ⟨fv, nv, c0, c1, c2, c3, hf, hn⟩ := hr1
    obtain ⟨gf, cf, rfl, hfc⟩ := id hf
    obtain ⟨fn, cap, rfl, hcap, eg, hcall⟩ := norm_calls b nv v w1 hn he1 (by omega)
    have hc := contForm_calls v ⟨w.heap.size, 0, none⟩ gf 0 cf b.forms w1 cv he1 hv (by cases b <;> decide) hfc
    obtain ⟨any, hany⟩ : ∃ any, (b.forms.any fun f => f.ok v.data.toList) = any := ⟨_, rfl⟩
    rw [hany] at hc ⊢
    rw [hvl]
    have c2a := c2
    rw [hw1] at c2a
    generalize b.norm v.data.toList = r at *
    have Hcall := Lib.hid hcall
    have Hn := Lib.hid hn
    have HB0 := Lib.hid hb0
    clear hf hr he he1 c0 c1 hfc hany hcall hb0 hn
    cases any with
    | false =>
      rw [if_neg (by simp)]
      go_enter Tryz.func40, Tryz.ntmps40
      go_wp2_with fail
      rw [← hw1]
      refine hc.mono ?_
      rintro e w2 ⟨rfl, hb⟩
      have HB := Lib.hid (HB0.out.trans (hb.mono HB0.out.size))
      clear hc hw1 hb c2a
      go_wp2_with fail
      go_ret2
      exact ⟨rfl, HB.out⟩
    | true =>
      rw [if_pos ⟨by omega, rfl⟩]
      go_enter Tryz.func40, Tryz.ntmps40
      go_wp2_with fail
      rw [← hw1]
      refine hc.mono ?_
      rintro e w2 ⟨rfl, hb⟩
      have keep : ∀ {p : Addr} {u : Value}, w1.cell? p = some u → w2.cell? p = some u := fun h => (hb.cell (World.block_lt_of_cell? _ _ h)).trans h
      have d3 := keep c3
      have dv := keep cv
      have HB := Lib.hid (HB0.out.trans (hb.mono HB0.out.size))
      have hcall2 : ∀ W, Below w2.heap.size w2 W → _ := fun W hW => Hcall.out W (hb.trans (hW.mono hb.size))
      clear hc hw1 hb c3 cv keep c2 c2a
      have hcall3 := fun W hW => hcall2 W hW
      rcases hcap with rfl | ⟨p, rfl⟩
      · simp only [Array.append_empty] at hcall3
        cases r
        all_goals
          simp only [okV, strV] at hcall3
          go_wp2_with fail
          go_region_held3 (fun V : World => V.cell? ⟨g, 3, none⟩ = some (.func (.func fn) #[] #[]) ∧ V.cell? ⟨w.heap.size, 0, none⟩ = some (.string v)) (first | exact ⟨d3, dv⟩ | (have hk9 : Below w2.heap.size w2 w9 := (Below.refl _ _).drew.trans (by simpa using hb9); exact ⟨(hk9.cell (World.block_lt_of_cell? _ _ d3)).trans d3, (hk9.cell (World.block_lt_of_cell? _ _ dv)).trans dv⟩)) (first | (refine (hcall3 _ (Below.refl _ _).drew).mono ?_; rintro e w9 ⟨rfl, hb9⟩))
          have hk9 : Below w2.heap.size w2 w9 := (Below.refl _ _).drew.trans (by simpa using hb9)
          have HB9 := Lib.hid (HB.out.trans (hk9.mono HB.out.size))
          clear hcall2 hcall3 hb9 hk9 d3 dv
          go_wp2_with fail
          go_ret2
          exact ⟨rfl, HB9.out⟩
      · simp only [List.push_toArray, Array.append_singleton, List.cons_append, List.nil_append] at hcall3
        cases r
        all_goals
          simp only [okV, strV] at hcall3
          go_wp2_with fail
          go_region_held3 (fun V : World => V.cell? ⟨g, 3, none⟩ = some (.func (.func fn) #[] #[.pointer (some p)]) ∧ V.cell? ⟨w.heap.size, 0, none⟩ = some (.string v)) (first | exact ⟨d3, dv⟩ | (have hk9 : Below w2.heap.size w2 w9 := (Below.refl _ _).drew.trans (by simpa using hb9); exact ⟨(hk9.cell (World.block_lt_of_cell? _ _ d3)).trans d3, (hk9.cell (World.block_lt_of_cell? _ _ dv)).trans dv⟩)) (first | (refine (hcall3 _ (Below.refl _ _).drew).mono ?_; rintro e w9 ⟨rfl, hb9⟩))
          have hk9 : Below w2.heap.size w2 w9 := (Below.refl _ _).drew.trans (by simpa using hb9)
          have HB9 := Lib.hid (HB.out.trans (hk9.mono HB.out.size))
          clear hcall2 hcall3 hb9 hk9 d3 dv
          go_wp2_with fail
          go_ret2
          exact ⟨rfl, HB9.out⟩
end Sy
end Go.Proofs.YthoealembhkaoaaGreatDoor
