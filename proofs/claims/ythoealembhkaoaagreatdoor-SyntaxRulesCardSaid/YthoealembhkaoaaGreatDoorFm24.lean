import Derived.Test.YthoealembhkaoaaGreatDoorFm23
namespace Go.Proofs.YthoealembhkaoaaGreatDoor
open Go.RowKit
namespace Sy
set_option linter.unusedVariables false

/-- The rule of a name, if it is of a kind. -/
def askR (x : List UInt8) (k : Int) : Option (Base × Kd) :=
  match ruleOf x with
  | none => none
  | some (b, kd) => if kd.num = k then some (b, kd) else none
def AskedE (r : Option (Base × Kd)) (w : World) (e : Ending) (w' : World) : Prop :=
  match r with
  | none => e = .returned (.tuple #[.pointer none, .int .i64 41]) ∧ Below w.heap.size w w'
  | some (b, kd) => ∃ g, e = .returned (.tuple #[.pointer (some ⟨g, 0, none⟩), .int .i64 0]) ∧ RuleAt w' g b kd ∧ Below w.heap.size w w'
set_option maxHeartbeats 1000000 in
theorem asked_calls (s : ByteArray) (k : Int) (w : World) (hs : s.size ≤ 9223372036854775807) :
    Calls Tryz.prog 30 #[.string s, .int .i64 k] w (AskedE (askR (small s.data.toList) k) w) := by
  have hc := rule_calls s w hs
  unfold askR
  generalize ruleOf (small s.data.toList) = r at *
  cases r with
  | none =>
    go_enter Tryz.func30, Tryz.ntmps30
    go_wp2_with fail
    refine hc.mono ?_
    rintro e w1 ⟨rfl, hb⟩
    clear hc
    go_wp2_with fail
    go_ret2
    exact ⟨rfl, hb⟩
  | some x =>
    obtain ⟨b, kd⟩ := x
    simp only
    by_cases hk : kd.num = k
    · rw [if_pos hk]
      have q : (kd.num != k) = false := by simpa using hk
      go_enter Tryz.func30, Tryz.ntmps30
      go_wp2_with fail
      refine hc.mono ?_
      rintro e w1 ⟨g, rfl, hr, hb⟩
      have HR := Lib.hid hr
      obtain ⟨fv, nv, c0, c1, c2, c3, hf, hn⟩ := hr
      clear hc c0 c2 c3 hf hn hk
      go_wp2_with fail
      go_ret2
      exact ⟨g, rfl, HR.out, hb⟩
    · rw [if_neg hk]
      have q : (kd.num != k) = true := by simpa using hk
      go_enter Tryz.func30, Tryz.ntmps30
      go_wp2_with fail
      refine hc.mono ?_
      rintro e w1 ⟨g, rfl, hr, hb⟩
      have HR := Lib.hid hr
      obtain ⟨fv, nv, c0, c1, c2, c3, hf, hn⟩ := hr
      clear hc c0 c2 c3 hf hn hk
      go_wp2_with fail
      go_ret2
      exact ⟨rfl, hb⟩
/-- A base's normal form. -/
def Base.norm : Base → List UInt8 → Option (List UInt8)
  | .octet, l => some l
  | .exact, l => prepR false l
  | .ignore, l => prepR true l
  | .integer, l => some l
  | .boolean, l => some l
  | .dn, l => nameR l
  | .oid, l => some (small l)
  | .time, l => some l
def normB (b : Base) (l : List UInt8) : Option (List UInt8) := if l.length ≤ 1024 ∧ (b.forms.any fun f => f.ok l) = true then b.norm l else none
def normV : Option (List UInt8) → Value
  | some l => .tuple #[strV l, .int .i64 0]
  | none => .tuple #[.string ⟨#[]⟩, .int .i64 40]
/-- What a base's function value tells. -/
theorem norm_calls (b : Base) (nv : Value) (v : ByteArray) (w : World) (hn : NormAt w b nv) (he : Env w) (hv : v.size ≤ 4294967296) :
    ∃ fn cap, nv = .func (.func fn) #[] cap ∧ (cap = #[] ∨ ∃ p, cap = #[.pointer (some p)]) ∧ (∀ args w, (callFunc fn args).run Tryz.prog w = .ok (.enter fn args) w) ∧ ∀ W, Below w.heap.size w W → Calls Tryz.prog fn (#[.string v] ++ cap) W fun e w' => e = .returned (okV (b.norm v.data.toList)) ∧ Below W.heap.size W w' := by
  have self : ∀ W : World, Calls Tryz.prog 131 (#[.string v] ++ #[]) W fun e w' => e = .returned (okV (some v.data.toList)) ∧ Below W.heap.size W w' := fun W =>
    (self_calls v W).mono fun e w' h => ⟨h.1, by rw [h.2]; exact Below.refl _ _⟩
  have keep : ∀ {W : World} {p : Addr} {u : Value}, Below w.heap.size w W → w.cell? p = some u → W.cell? p = some u := fun hb h => (hb.cell (World.block_lt_of_cell? _ _ h)).trans h
  cases b <;> simp only [NormAt] at hn
  · exact ⟨131, #[], hn, .inl rfl, enters_of Tryz.func131 (by kernel_rfl) rfl, fun W _ => self W⟩
  · obtain ⟨p, rfl, hp⟩ := hn
    exact ⟨160, _, rfl, .inr ⟨p, rfl⟩, enters_of Tryz.func160 (by kernel_rfl) rfl, fun W hb => text160_calls v false p W (keep hb hp) hv (he.below hb)⟩
  · obtain ⟨p, rfl, hp⟩ := hn
    exact ⟨160, _, rfl, .inr ⟨p, rfl⟩, enters_of Tryz.func160 (by kernel_rfl) rfl, fun W hb => text160_calls v true p W (keep hb hp) hv (he.below hb)⟩
  · exact ⟨131, #[], hn, .inl rfl, enters_of Tryz.func131 (by kernel_rfl) rfl, fun W _ => self W⟩
  · exact ⟨131, #[], hn, .inl rfl, enters_of Tryz.func131 (by kernel_rfl) rfl, fun W _ => self W⟩
  · exact ⟨133, #[], hn, .inl rfl, enters_of Tryz.func133 (by kernel_rfl) rfl, fun W hb => nameNorm_calls v W (he.below hb) (by omega)⟩
  · exact ⟨134, #[], hn, .inl rfl, enters_of Tryz.func134 (by kernel_rfl) rfl, fun W hb => oidNorm_calls v W (by omega)⟩
  · exact ⟨131, #[], hn, .inl rfl, enters_of Tryz.func131 (by kernel_rfl) rfl, fun W _ => self W⟩
set_option maxRecDepth 100000 in
set_option maxHeartbeats 4000000 in
theorem normal_calls (g : Nat) (b : Base) (kd : Kd) (v : ByteArray) (w : World) (hr : RuleAt w g b kd) (he : Env w) (hv : v.size ≤ 9223372036854775807) :
    Calls Tryz.prog 40 #[.pointer (some ⟨g, 0, none⟩), .string v] w fun e w' => e = .returned (normV (normB b v.data.toList)) ∧ Below w.heap.size w w' := by
  have hvl : v.data.toList.length = v.size := by simp
  have hmf : ∀ (fn : Fn) (first cap : Array Value) (w : World), (Instr.makeFunc fn first cap).run Tryz.prog w = .ok (.func fn first cap) w := fun _ _ _ _ => rfl
  unfold normB
  by_cases hl : 1024 < v.size
  · rw [if_neg (by rw [hvl]; omega)]
    have hl' : (1024 : Int) < (v.size : Int) := by omega
    clear hr he
    go_enter Tryz.func40, Tryz.ntmps40
    go_wp2_with fail
    go_ret2
    exact ⟨rfl, alloc_below _ _⟩
  · have hl' : ¬ (1024 : Int) < (v.size : Int) := by omega
    have hb0 := alloc_below w (.cells #[.string v] 9)
    have hr1 := hr.below hb0
    have he1 := he.below hb0
    have cv : (w.alloc (.cells #[.string v] 9)).cell? ⟨w.heap.size, 0, none⟩ = some (.string v) := by simp [go_sem]
    obtain ⟨w1, hw1⟩ : ∃ w1, w1 = w.alloc (.cells #[.string v] 9) := ⟨_, rfl⟩
    rw [← hw1] at hb0 hr1 he1 cv
    obtain ⟨fv, nv, c0, c1, c2, c3, hf, hn⟩ := hr1
    obtain ⟨gf, cf, rfl, hfc⟩ := id hf
    obtain ⟨fn, cap, rfl, hcap, eg, hcall⟩ := norm_calls b nv v w1 hn he1 (by omega)
    have hc := contForm_calls v ⟨w.heap.size, 0, none⟩ gf 0 cf b.forms w1 cv he1 hv (by cases b <;> decide) hfc
    obtain ⟨any, hany⟩ : ∃ any, (b.forms.any fun f => f.ok v.data.toList) = any := ⟨_, rfl⟩
    rw [hany] at hc ⊢
    rw [hvl]
    have c2a := c2
    rw [hw1] at c2a
    generalize b.norm v.data.toList = r at *
    have Hcall := Lib.hid hcall
    have Hn := Lib.hid hn
    have HB0 := Lib.hid hb0
    clear hf hr he he1 c0 c1 hfc hany hcall hb0 hn
    cases any with
    | false =>
      rw [if_neg (by simp)]
      go_enter Tryz.func40, Tryz.ntmps40
      go_wp2_with fail
      rw [← hw1]
      refine hc.mono ?_
      rintro e w2 ⟨rfl, hb⟩
      have HB := Lib.hid (HB0.out.trans (hb.mono HB0.out.size))
      clear hc hw1 hb c2a
      go_wp2_with fail
      go_ret2
      exact ⟨rfl, HB.out⟩
    | true =>
      rw [if_pos ⟨by omega, rfl⟩]
      go_enter Tryz.func40, Tryz.ntmps40
      go_wp2_with fail
      rw [← hw1]
      refine hc.mono ?_
      rintro e w2 ⟨rfl, hb⟩
      have keep : ∀ {p : Addr} {u : Value}, w1.cell? p = some u → w2.cell? p = some u := fun h => (hb.cell (World.block_lt_of_cell? _ _ h)).trans h
      have d3 := keep c3
      have dv := keep cv
      have HB := Lib.hid (HB0.out.trans (hb.mono HB0.out.size))
      have hcall2 : ∀ W, Below w2.heap.size w2 W → _ := fun W hW => Hcall.out W (hb.trans (hW.mono hb.size))
      clear hc hw1 hb c3 cv keep c2 c2a
      have hcall3 := fun W hW => hcall2 W hW
      rcases hcap with rfl | ⟨p, rfl⟩
      · simp only [Array.append_empty] at hcall3
        cases r
        all_goals
          simp only [okV, strV] at hcall3
          go_wp2_with fail
          go_region_held3 (fun V : World => V.cell? ⟨g, 3, none⟩ = some (.func (.func fn) #[] #[]) ∧ V.cell? ⟨w.heap.size, 0, none⟩ = some (.string v)) (first | exact ⟨d3, dv⟩ | (have hk9 : Below w2.heap.size w2 w9 := (Below.refl _ _).drew.trans (by simpa using hb9); exact ⟨(hk9.cell (World.block_lt_of_cell? _ _ d3)).trans d3, (hk9.cell (World.block_lt_of_cell? _ _ dv)).trans dv⟩)) (first | (refine (hcall3 _ (Below.refl _ _).drew).mono ?_; rintro e w9 ⟨rfl, hb9⟩))
          have hk9 : Below w2.heap.size w2 w9 := (Below.refl _ _).drew.trans (by simpa using hb9)
          have HB9 := Lib.hid (HB.out.trans (hk9.mono HB.out.size))
          clear hcall2 hcall3 hb9 hk9 d3 dv
          go_wp2_with fail
          go_ret2
          exact ⟨rfl, HB9.out⟩
      · simp only [List.push_toArray, Array.append_singleton, List.cons_append, List.nil_append] at hcall3
        cases r
        all_goals
          simp only [okV, strV] at hcall3
          go_wp2_with fail
          go_region_held3 (fun V : World => V.cell? ⟨g, 3, none⟩ = some (.func (.func fn) #[] #[.pointer (some p)]) ∧ V.cell? ⟨w.heap.size, 0, none⟩ = some (.string v)) (first | exact ⟨d3, dv⟩ | (have hk9 : Below w2.heap.size w2 w9 := (Below.refl _ _).drew.trans (by simpa using hb9); exact ⟨(hk9.cell (World.block_lt_of_cell? _ _ d3)).trans d3, (hk9.cell (World.block_lt_of_cell? _ _ dv)).trans dv⟩)) (first | (refine (hcall3 _ (Below.refl _ _).drew).mono ?_; rintro e w9 ⟨rfl, hb9⟩))
          have hk9 : Below w2.heap.size w2 w9 := (Below.refl _ _).drew.trans (by simpa using hb9)
          have HB9 := Lib.hid (HB.out.trans (hk9.mono HB.out.size))
          clear hcall2 hcall3 hb9 hk9 d3 dv
          go_wp2_with fail
          go_ret2
          exact ⟨rfl, HB9.out⟩
end Sy
end Go.Proofs.YthoealembhkaoaaGreatDoor
namespace Go.Proofs.YthoealembhkaoaaGreatDoor
open Go.RowKit
namespace Sy
set_option linter.unusedVariables false

/-- Two values' normal forms. -/
def bothR (b : Base) (x y : List UInt8) : Option (List UInt8 × List UInt8) :=
  match normB b x with
  | none => none
  | some s => match normB b y with
    | none => none
    | some t => some (s, t)
def bothV : Option (List UInt8 × List UInt8) → Value
  | some (s, t) => .tuple #[strV s, strV t, .int .i64 0]
  | none => .tuple #[.string ⟨#[]⟩, .string ⟨#[]⟩, .int .i64 40]
set_option maxHeartbeats 2000000 in
theorem both_calls (g : Nat) (b : Base) (kd : Kd) (x y : ByteArray) (w : World) (hr : RuleAt w g b kd) (he : Env w) (hx : x.size ≤ 9223372036854775807) (hy : y.size ≤ 9223372036854775807) :
    Calls Tryz.prog 31 #[.pointer (some ⟨g, 0, none⟩), .string x, .string y] w fun e w' => e = .returned (bothV (bothR b x.data.toList y.data.toList)) ∧ Below w.heap.size w w' := by
  have h1 := normal_calls g b kd x w hr he hx
  have h2 : ∀ W, Below w.heap.size w W → _ := fun W hW => normal_calls g b kd y W (hr.below hW) (he.below hW) hy
  unfold bothR
  generalize normB b x.data.toList = s at *
  generalize normB b y.data.toList = t at *
  clear hr he
  cases s with
  | none =>
    simp only [normV] at h1
    go_enter Tryz.func31, Tryz.ntmps31
    go_wp2_with fail
    refine h1.mono ?_
    rintro e w1 ⟨rfl, hb⟩
    clear h1 h2
    go_wp2_with fail
    go_ret3
    exact ⟨rfl, hb⟩
  | some s =>
    simp only [normV, strV] at h1
    cases t with
    | none =>
      simp only [normV] at h2
      go_enter Tryz.func31, Tryz.ntmps31
      go_wp2_with fail
      refine h1.mono ?_
      rintro e w1 ⟨rfl, hb⟩
      have h3 := h2 _ hb
      clear h1 h2
      go_wp2_with fail
      refine h3.mono ?_
      rintro e w2 ⟨rfl, hb2⟩
      have hb3 := hb.trans (hb2.mono hb.size)
      clear h3 hb hb2
      go_wp2_with fail
      go_ret3
      exact ⟨rfl, hb3⟩
    | some t =>
      simp only [normV, strV] at h2
      go_enter Tryz.func31, Tryz.ntmps31
      go_wp2_with fail
      refine h1.mono ?_
      rintro e w1 ⟨rfl, hb⟩
      have h3 := h2 _ hb
      clear h1 h2
      go_wp2_with fail
      refine h3.mono ?_
      rintro e w2 ⟨rfl, hb2⟩
      have hb3 := hb.trans (hb2.mono hb.size)
      clear h3 hb hb2
      go_wp2_with fail
      go_ret3
      exact ⟨rfl, hb3⟩
/-- Norm's answer. -/
def normF (n v : List UInt8) : Option (List UInt8) × Int :=
  match askR (small n) 0 with
  | none => (none, 41)
  | some (b, _) => match normB b v with
    | none => (none, 40)
    | some s => (some s, 0)
def normFV (r : Option (List UInt8) × Int) : Value := .tuple #[strV (r.1.getD []), .int .i64 r.2]
set_option maxHeartbeats 2000000 in
theorem norm_go_calls (n v : ByteArray) (w : World) (he : Env w) (hn : n.size ≤ 9223372036854775807) (hv : v.size ≤ 9223372036854775807) :
    Calls Tryz.prog 15 #[.string n, .string v] w fun e w' => e = .returned (normFV (normF n.data.toList v.data.toList)) ∧ Below w.heap.size w w' := by
  have h1 := asked_calls n 0 w hn
  unfold normF
  generalize askR (small n.data.toList) 0 = r at *
  cases r with
  | none =>
    go_enter Tryz.func15, Tryz.ntmps15
    go_wp2_with fail
    refine h1.mono ?_
    rintro e w1 ⟨rfl, hb⟩
    clear h1
    go_wp2_with fail
    go_ret2
    exact ⟨rfl, hb⟩
  | some p =>
    obtain ⟨b, kd⟩ := p
    simp only
    have h2 : ∀ W g, Below w.heap.size w W → RuleAt W g b kd → _ := fun W g hW hr => normal_calls g b kd v W hr (he.below hW) hv
    generalize normB b v.data.toList = s at *
    cases s
    all_goals
      simp only [normV, strV] at h2
      go_enter Tryz.func15, Tryz.ntmps15
      go_wp2_with fail
      refine h1.mono ?_
      rintro e w1 ⟨g, rfl, hr, hb⟩
      have h3 := h2 _ _ hb hr
      clear h1 h2 hr
      go_wp2_with fail
      refine h3.mono ?_
      rintro e w2 ⟨rfl, hb2⟩
      have hb3 := hb.trans (hb2.mono hb.size)
      clear h3 hb hb2
      go_wp2_with fail
      go_ret2
      exact ⟨rfl, hb3⟩
/-- Same's answer. -/
def sameF (n x y : List UInt8) : Bool × Int :=
  match askR (small n) 0 with
  | none => (false, 41)
  | some (b, _) => match bothR b x y with
    | none => (false, 40)
    | some (s, t) => (s == t, 0)
def sameFV (r : Bool × Int) : Value := .tuple #[.bool r.1, .int .i64 r.2]
set_option maxHeartbeats 2000000 in
theorem same_go_calls (n x y : ByteArray) (w : World) (he : Env w) (hn : n.size ≤ 9223372036854775807) (hx : x.size ≤ 9223372036854775807) (hy : y.size ≤ 9223372036854775807) :
    Calls Tryz.prog 17 #[.string n, .string x, .string y] w fun e w' => e = .returned (sameFV (sameF n.data.toList x.data.toList y.data.toList)) ∧ Below w.heap.size w w' := by
  have h1 := asked_calls n 0 w hn
  unfold sameF
  generalize askR (small n.data.toList) 0 = r at *
  cases r with
  | none =>
    go_enter Tryz.func17, Tryz.ntmps17
    go_wp2_with fail
    refine h1.mono ?_
    rintro e w1 ⟨rfl, hb⟩
    clear h1
    go_wp2_with fail
    go_ret2
    exact ⟨rfl, hb⟩
  | some p =>
    obtain ⟨b, kd⟩ := p
    simp only
    have h2 : ∀ W g, Below w.heap.size w W → RuleAt W g b kd → _ := fun W g hW hr => both_calls g b kd x y W hr (he.below hW) hx hy
    generalize bothR b x.data.toList y.data.toList = s at *
    rcases s with _ | ⟨s, t⟩
    · simp only [bothV] at h2
      go_enter Tryz.func17, Tryz.ntmps17
      go_wp2_with fail
      refine h1.mono ?_
      rintro e w1 ⟨g, rfl, hr, hb⟩
      have h3 := h2 _ _ hb hr
      clear h1 h2 hr
      go_wp2_with fail
      refine h3.mono ?_
      rintro e w2 ⟨rfl, hb2⟩
      have hb3 := hb.trans (hb2.mono hb.size)
      clear h3 hb hb2
      go_wp2_with fail
      go_ret2
      exact ⟨rfl, hb3⟩
    · simp only [bothV, strV] at h2
      go_enter Tryz.func17, Tryz.ntmps17
      go_wp2_with fail
      refine h1.mono ?_
      rintro e w1 ⟨g, rfl, hr, hb⟩
      have h3 := h2 _ _ hb hr
      clear h1 h2 hr
      go_wp2_with fail
      refine h3.mono ?_
      rintro e w2 ⟨rfl, hb2⟩
      have hb3 := hb.trans (hb2.mono hb.size)
      clear h3 hb hb2
      go_wp2_with fail
      go_ret2
      exact ⟨rfl, hb3⟩
/-- Order's answer. -/
def orderF (n x y : List UInt8) : Int × Int :=
  match askR (small n) 1 with
  | none => (0, 41)
  | some (b, _) => match bothR b x y with
    | none => (0, 40)
    | some (s, t) => (if b = .integer then intCmp s t else Lib.compareBytes s t, 0)
def orderFV (r : Int × Int) : Value := .tuple #[.int .i64 r.1, .int .i64 r.2]
theorem name_int (b : Base) (kd : Kd) (h : kd.num = 1) : ((b.word ++ kd.word).toList == [105, 110, 116, 101, 103, 101, 114, 79, 114, 100, 101, 114, 105, 110, 103, 77, 97, 116, 99, 104]) = decide (b = .integer) := by
  cases kd <;> simp [Kd.num] at h
  rw [ByteArray.toList_eq]
  cases b <;> decide
theorem askR_num {x : List UInt8} {k : Int} {b : Base} {kd : Kd} (h : askR x k = some (b, kd)) : kd.num = k := by
  unfold askR at h
  split at h
  · cases h
  · split at h
    · rename_i hk; injection h with h; injection h with _ h; subst h; exact hk
    · cases h
set_option maxHeartbeats 4000000 in
theorem order_go_calls (n x y : ByteArray) (w : World) (he : Env w) (hn : n.size ≤ 9223372036854775807) (hx : x.size ≤ 9223372036854775807) (hy : y.size ≤ 9223372036854775807) :
    Calls Tryz.prog 11 #[.string n, .string x, .string y] w fun e w' => e = .returned (orderFV (orderF n.data.toList x.data.toList y.data.toList)) ∧ Below w.heap.size w w' := by
  have h1 := asked_calls n 1 w hn
  unfold orderF
  have hnum := @askR_num (small n.data.toList) 1
  generalize askR (small n.data.toList) 1 = r at *
  cases r with
  | none =>
    go_enter Tryz.func11, Tryz.ntmps11
    go_wp2_with fail
    refine h1.mono ?_
    rintro e w1 ⟨rfl, hb⟩
    clear h1
    go_wp2_with fail
    go_ret2
    exact ⟨rfl, hb⟩
  | some p =>
    obtain ⟨b, kd⟩ := p
    simp only
    have hname := name_int b kd (hnum rfl)
    clear hnum
    have h2 : ∀ W g, Below w.heap.size w W → RuleAt W g b kd → _ := fun W g hW hr => both_calls g b kd x y W hr (he.below hW) hx hy
    generalize bothR b x.data.toList y.data.toList = s at *
    rcases s with _ | ⟨s, t⟩
    · simp only [bothV] at h2
      clear hname
      go_enter Tryz.func11, Tryz.ntmps11
      go_wp2_with fail
      refine h1.mono ?_
      rintro e w1 ⟨g, rfl, hr, hb⟩
      have h3 := h2 _ _ hb hr
      clear h1 h2 hr
      go_wp2_with fail
      refine h3.mono ?_
      rintro e w2 ⟨rfl, hb2⟩
      have hb3 := hb.trans (hb2.mono hb.size)
      clear h3 hb hb2
      go_wp2_with fail
      go_ret2
      exact ⟨rfl, hb3⟩
    · simp only [bothV, strV] at h2
      have hi := fun W => integers_calls ⟨s.toArray⟩ ⟨t.toArray⟩ W
      have hc := fun W => compare_calls ⟨s.toArray⟩ ⟨t.toArray⟩ W
      simp only at hi hc
      dsimp only
      generalize intCmp s t = ic at *
      generalize Lib.compareBytes s t = bc at *
      by_cases hb' : b = .integer
      · simp only [if_pos hb']
        rw [decide_eq_true hb'] at hname
        go_enter Tryz.func11, Tryz.ntmps11
        go_wp2_with fail
        refine h1.mono ?_
        rintro e w1 ⟨g, rfl, hr, hb⟩
        have h3 := h2 _ _ hb hr
        have hr3 := fun W hW => hr.below (w' := W) hW
        clear h1 h2 hr
        go_wp2_with fail
        refine h3.mono ?_
        rintro e w2 ⟨rfl, hb2⟩
        have hb3 := hb.trans (hb2.mono hb.size)
        obtain ⟨fv, nv, c0, c1, c2, c3, hf, hn⟩ := hr3 _ hb2
        clear h3 hb hb2 hr3 hf hn c1 c2 c3 hc hb'
        go_wp2_with fail
        refine (hi _).mono ?_
        rintro e w3 ⟨rfl, hb4⟩
        have hb5 := hb3.trans (hb4.mono hb3.size)
        clear hi hb3 hb4
        go_wp2_with fail
        go_ret2
        exact ⟨rfl, hb5⟩
      · simp only [if_neg hb']
        rw [decide_eq_false hb'] at hname
        go_enter Tryz.func11, Tryz.ntmps11
        go_wp2_with fail
        refine h1.mono ?_
        rintro e w1 ⟨g, rfl, hr, hb⟩
        have h3 := h2 _ _ hb hr
        have hr3 := fun W hW => hr.below (w' := W) hW
        clear h1 h2 hr
        go_wp2_with fail
        refine h3.mono ?_
        rintro e w2 ⟨rfl, hb2⟩
        have hb3 := hb.trans (hb2.mono hb.size)
        obtain ⟨fv, nv, c0, c1, c2, c3, hf, hn⟩ := hr3 _ hb2
        clear h3 hb hb2 hr3 hf hn c1 c2 c3 hi hb'
        go_wp2_with fail
        refine (hc _).mono ?_
        rintro e w3 ⟨rfl, rfl⟩
        clear hc
        go_wp2_with fail
        go_ret2
        exact ⟨rfl, hb3⟩
/-- Rule's answer. -/
def ruleFV : Option (Base × Kd) → Value
  | none => .tuple #[.string ⟨#[]⟩, .int .i64 0, .int .i64 41]
  | some (b, kd) => .tuple #[.string (b.word ++ kd.word), .int .i64 kd.num, .int .i64 0]
set_option maxHeartbeats 2000000 in
theorem rule_go_calls (n : ByteArray) (w : World) (hn : n.size ≤ 9223372036854775807) :
    Calls Tryz.prog 26 #[.string n] w fun e w' => e = .returned (ruleFV (ruleOf (small n.data.toList))) ∧ Below w.heap.size w w' := by
  have h1 := rule_calls n w hn
  generalize ruleOf (small n.data.toList) = r at *
  cases r with
  | none =>
    go_enter Tryz.func26, Tryz.ntmps26
    go_wp2_with fail
    refine h1.mono ?_
    rintro e w1 ⟨rfl, hb⟩
    clear h1
    go_wp2_with fail
    go_ret3
    exact ⟨rfl, hb⟩
  | some p =>
    obtain ⟨b, kd⟩ := p
    go_enter Tryz.func26, Tryz.ntmps26
    go_wp2_with fail
    refine h1.mono ?_
    rintro e w1 ⟨g, rfl, hr, hb⟩
    obtain ⟨fv, nv, c0, c1, c2, c3, hf, hn⟩ := hr
    clear h1 hf hn c2 c3
    go_wp2_with fail
    go_quiet (fail)
    go_wp2_with fail
    go_ret3
    exact ⟨rfl, hb.drewN' _⟩
end Sy
end Go.Proofs.YthoealembhkaoaaGreatDoor
