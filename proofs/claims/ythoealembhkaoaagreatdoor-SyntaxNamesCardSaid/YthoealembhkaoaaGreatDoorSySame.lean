import Derived.Test.YthoealembhkaoaaGreatDoorSyNormal
namespace Go.Proofs.YthoealembhkaoaaGreatDoor
open Go.RowKit
namespace Sy
set_option linter.unusedVariables false

/-- Two values' normal forms. -/
def bothR (b : Base) (x y : List UInt8) : Option (List UInt8 × List UInt8) :=
  match normB b x with
  | none => none
  | some s => match normB b y with
    | none => none
    | some t => some (s, t)
def bothV : Option (List UInt8 × List UInt8) → Value
  | some (s, t) => .tuple #[strV s, strV t, .int .i64 0]
  | none => .tuple #[.string ⟨#[]⟩, .string ⟨#[]⟩, .int .i64 40]
set_option maxHeartbeats 2000000 in
theorem both_calls (g : Nat) (b : Base) (kd : Kd) (x y : ByteArray) (w : World) (hr : RuleAt w g b kd) (he : Env w) (hx : x.size ≤ 9223372036854775807) (hy : y.size ≤ 9223372036854775807) :
    Calls Tryz.prog 31 #[.pointer (some ⟨g, 0, none⟩), .string x, .string y] w fun e w' => e = .returned (bothV (bothR b x.data.toList y.data.toList)) ∧ Below w.heap.size w w' := by
  have h1 := normal_calls g b kd x w hr he hx
  have h2 : ∀ W, Below w.heap.size w W → _ := fun W hW => normal_calls g b kd y W (hr.below hW) (he.below hW) hy
  unfold bothR
  generalize normB b x.data.toList = s at *
  generalize normB b y.data.toList = t at *
  clear hr he
  cases s with
  | none =>
    simp only [normV] at h1
    go_enter Tryz.func31, Tryz.ntmps31
    go_wp2_with fail
    refine h1.mono ?_
    rintro e w1 ⟨rfl, hb⟩
    clear h1 h2
    go_wp2_with fail
    go_ret3
    exact ⟨rfl, hb⟩
  | some s =>
    simp only [normV, strV] at h1
    cases t with
    | none =>
      simp only [normV] at h2
      go_enter Tryz.func31, Tryz.ntmps31
      go_wp2_with fail
      refine h1.mono ?_
      rintro e w1 ⟨rfl, hb⟩
      have h3 := h2 _ hb
      clear h1 h2
      go_wp2_with fail
      refine h3.mono ?_
      rintro e w2 ⟨rfl, hb2⟩
      have hb3 := hb.trans (hb2.mono hb.size)
      clear h3 hb hb2
      go_wp2_with fail
      go_ret3
      exact ⟨rfl, hb3⟩
    | some t =>
      simp only [normV, strV] at h2
      go_enter Tryz.func31, Tryz.ntmps31
      go_wp2_with fail
      refine h1.mono ?_
      rintro e w1 ⟨rfl, hb⟩
      have h3 := h2 _ hb
      clear h1 h2
      go_wp2_with fail
      refine h3.mono ?_
      rintro e w2 ⟨rfl, hb2⟩
      have hb3 := hb.trans (hb2.mono hb.size)
      clear h3 hb hb2
      go_wp2_with fail
      go_ret3
      exact ⟨rfl, hb3⟩
/-- Norm's answer. -/
def normF (n v : List UInt8) : Option (List UInt8) × Int :=
  match askR (small n) 0 with
  | none => (none, 41)
  | some (b, _) => match normB b v with
    | none => (none, 40)
    | some s => (some s, 0)
def normFV (r : Option (List UInt8) × Int) : Value := .tuple #[strV (r.1.getD []), .int .i64 r.2]
set_option maxHeartbeats 2000000 in
theorem norm_go_calls (n v : ByteArray) (w : World) (he : Env w) (hn : n.size ≤ 9223372036854775807) (hv : v.size ≤ 9223372036854775807) :
    Calls Tryz.prog 15 #[.string n, .string v] w fun e w' => e = .returned (normFV (normF n.data.toList v.data.toList)) ∧ Below w.heap.size w w' := by
  have h1 := asked_calls n 0 w hn
  unfold normF
  generalize askR (small n.data.toList) 0 = r at *
  cases r with
  | none =>
    go_enter Tryz.func15, Tryz.ntmps15
    go_wp2_with fail
    refine h1.mono ?_
    rintro e w1 ⟨rfl, hb⟩
    clear h1
    go_wp2_with fail
    go_ret2
    exact ⟨rfl, hb⟩
  | some p =>
    obtain ⟨b, kd⟩ := p
    simp only
    have h2 : ∀ W g, Below w.heap.size w W → RuleAt W g b kd → _ := fun W g hW hr => normal_calls g b kd v W hr (he.below hW) hv
    generalize normB b v.data.toList = s at *
    cases s
    all_goals
      simp only [normV, strV] at h2
      go_enter Tryz.func15, Tryz.ntmps15
      go_wp2_with fail
      refine h1.mono ?_
      rintro e w1 ⟨g, rfl, hr, hb⟩
      have h3 := h2 _ _ hb hr
      clear h1 h2 hr
      go_wp2_with fail
      refine h3.mono ?_
      rintro e w2 ⟨rfl, hb2⟩
      have hb3 := hb.trans (hb2.mono hb.size)
      clear h3 hb hb2
      go_wp2_with fail
      go_ret2
      exact ⟨rfl, hb3⟩
/-- Same's answer. -/
def sameF (n x y : List UInt8) : Bool × Int :=
  match askR (small n) 0 with
  | none => (false, 41)
  | some (b, _) => match bothR b x y with
    | none => (false, 40)
    | some (s, t) => (s == t, 0)
def sameFV (r : Bool × Int) : Value := .tuple #[.bool r.1, .int .i64 r.2]
set_option maxHeartbeats 2000000 in
theorem same_go_calls (n x y : ByteArray) (w : World) (he : Env w) (hn : n.size ≤ 9223372036854775807) (hx : x.size ≤ 9223372036854775807) (hy : y.size ≤ 9223372036854775807) :
    Calls Tryz.prog 17 #[.string n, .string x, .string y] w fun e w' => e = .returned (sameFV (sameF n.data.toList x.data.toList y.data.toList)) ∧ Below w.heap.size w w' := by
  have h1 := asked_calls n 0 w hn
  unfold sameF
  generalize askR (small n.data.toList) 0 = r at *
  cases r with
  | none =>
    go_enter Tryz.func17, Tryz.ntmps17
    go_wp2_with fail
    refine h1.mono ?_
    rintro e w1 ⟨rfl, hb⟩
    clear h1
    go_wp2_with fail
    go_ret2
    exact ⟨rfl, hb⟩
  | some p =>
    obtain ⟨b, kd⟩ := p
    simp only
    have h2 : ∀ W g, Below w.heap.size w W → RuleAt W g b kd → _ := fun W g hW hr => both_calls g b kd x y W hr (he.below hW) hx hy
    generalize bothR b x.data.toList y.data.toList = s at *
    rcases s with _ | ⟨s, t⟩
    · simp only [bothV] at h2
      go_enter Tryz.func17, Tryz.ntmps17
      go_wp2_with fail
      refine h1.mono ?_
      rintro e w1 ⟨g, rfl, hr, hb⟩
      have h3 := h2 _ _ hb hr
      clear h1 h2 hr
      go_wp2_with fail
      refine h3.mono ?_
      rintro e w2 ⟨rfl, hb2⟩
      have hb3 := hb.trans (hb2.mono hb.size)
      clear h3 hb hb2
      go_wp2_with fail
      go_ret2
      exact ⟨rfl, hb3⟩
    · simp only [bothV, strV] at h2
      go_enter Tryz.func17, Tryz.ntmps17
      go_wp2_with fail
      refine h1.mono ?_
      rintro e w1 ⟨g, rfl, hr, hb⟩
      have h3 := h2 _ _ hb hr
      clear h1 h2 hr
      go_wp2_with fail
      refine h3.mono ?_
      rintro e w2 ⟨rfl, hb2⟩
      have hb3 := hb.trans (hb2.mono hb.size)
      clear h3 hb hb2
      go_wp2_with fail
      go_ret2
      exact ⟨rfl, hb3⟩
/-- Order's answer. -/
def orderF (n x y : List UInt8) : Int × Int :=
  match askR (small n) 1 with
  | none => (0, 41)
  | some (b, _) => match bothR b x y with
    | none => (0, 40)
    | some (s, t) => (if b = .integer then intCmp s t else Lib.compareBytes s t, 0)
def orderFV (r : Int × Int) : Value := .tuple #[.int .i64 r.1, .int .i64 r.2]
theorem name_int (b : Base) (kd : Kd) (h : kd.num = 1) : ((b.word ++ kd.word).toList == [105, 110, 116, 101, 103, 101, 114, 79, 114, 100, 101, 114, 105, 110, 103, 77, 97, 116, 99, 104]) = decide (b = .integer) := by
  cases kd <;> simp [Kd.num] at h
  rw [ByteArray.toList_eq]
  cases b <;> decide
theorem askR_num {x : List UInt8} {k : Int} {b : Base} {kd : Kd} (h : askR x k = some (b, kd)) : kd.num = k := by
  unfold askR at h
  split at h
  · cases h
  · split at h
    · rename_i hk; injection h with h; injection h with _ h; subst h; exact hk
    · cases h
set_option maxHeartbeats 4000000 in
theorem order_go_calls (n x y : ByteArray) (w : World) (he : Env w) (hn : n.size ≤ 9223372036854775807) (hx : x.size ≤ 9223372036854775807) (hy : y.size ≤ 9223372036854775807) :
    Calls Tryz.prog 11 #[.string n, .string x, .string y] w fun e w' => e = .returned (orderFV (orderF n.data.toList x.data.toList y.data.toList)) ∧ Below w.heap.size w w' := by
  have h1 := asked_calls n 1 w hn
  unfold orderF
  have hnum := @askR_num (small n.data.toList) 1
  generalize askR (small n.data.toList) 1 = r at *
  cases r with
  | none =>
    go_enter Tryz.func11, Tryz.ntmps11
    go_wp2_with fail
    refine h1.mono ?_
    rintro e w1 ⟨rfl, hb⟩
    clear h1
    go_wp2_with fail
    go_ret2
    exact ⟨rfl, hb⟩
  | some p =>
    obtain ⟨b, kd⟩ := p
    simp only
    have hname := name_int b kd (hnum rfl)
    clear hnum
    have h2 : ∀ W g, Below w.heap.size w W → RuleAt W g b kd → _ := fun W g hW hr => both_calls g b kd x y W hr (he.below hW) hx hy
    generalize bothR b x.data.toList y.data.toList = s at *
    rcases s with _ | ⟨s, t⟩
    · simp only [bothV] at h2
      clear hname
      go_enter Tryz.func11, Tryz.ntmps11
      go_wp2_with fail
      refine h1.mono ?_
      rintro e w1 ⟨g, rfl, hr, hb⟩
      have h3 := h2 _ _ hb hr
      clear h1 h2 hr
      go_wp2_with fail
      refine h3.mono ?_
      rintro e w2 ⟨rfl, hb2⟩
      have hb3 := hb.trans (hb2.mono hb.size)
      clear h3 hb hb2
      go_wp2_with fail
      go_ret2
      exact ⟨rfl, hb3⟩
    · simp only [bothV, strV] at h2
      have hi := fun W => integers_calls ⟨s.toArray⟩ ⟨t.toArray⟩ W
      have hc := fun W => compare_calls ⟨s.toArray⟩ ⟨t.toArray⟩ W
      simp only at hi hc
      dsimp only
      generalize intCmp s t = ic at *
      generalize Lib.compareBytes s t = bc at *
      by_cases hb' : b = .integer
      · simp only [if_pos hb']
        rw [decide_eq_true hb'] at hname
        go_enter Tryz.func11, Tryz.ntmps11
        go_wp2_with fail
        refine h1.mono ?_
        rintro e w1 ⟨g, rfl, hr, hb⟩
        have h3 := h2 _ _ hb hr
        have hr3 := fun W hW => hr.below (w' := W) hW
        clear h1 h2 hr
        go_wp2_with fail
        refine h3.mono ?_
        rintro e w2 ⟨rfl, hb2⟩
        have hb3 := hb.trans (hb2.mono hb.size)
        obtain ⟨fv, nv, c0, c1, c2, c3, hf, hn⟩ := hr3 _ hb2
        clear h3 hb hb2 hr3 hf hn c1 c2 c3 hc hb'
        go_wp2_with fail
        refine (hi _).mono ?_
        rintro e w3 ⟨rfl, hb4⟩
        have hb5 := hb3.trans (hb4.mono hb3.size)
        clear hi hb3 hb4
        go_wp2_with fail
        go_ret2
        exact ⟨rfl, hb5⟩
      · simp only [if_neg hb']
        rw [decide_eq_false hb'] at hname
        go_enter Tryz.func11, Tryz.ntmps11
        go_wp2_with fail
        refine h1.mono ?_
        rintro e w1 ⟨g, rfl, hr, hb⟩
        have h3 := h2 _ _ hb hr
        have hr3 := fun W hW => hr.below (w' := W) hW
        clear h1 h2 hr
        go_wp2_with fail
        refine h3.mono ?_
        rintro e w2 ⟨rfl, hb2⟩
        have hb3 := hb.trans (hb2.mono hb.size)
        obtain ⟨fv, nv, c0, c1, c2, c3, hf, hn⟩ := hr3 _ hb2
        clear h3 hb hb2 hr3 hf hn c1 c2 c3 hi hb'
        go_wp2_with fail
        refine (hc _).mono ?_
        rintro e w3 ⟨rfl, rfl⟩
        clear hc
        go_wp2_with fail
        go_ret2
        exact ⟨rfl, hb3⟩
/-- Rule's answer. -/
def ruleFV : Option (Base × Kd) → Value
  | none => .tuple #[.string ⟨#[]⟩, .int .i64 0, .int .i64 41]
  | some (b, kd) => .tuple #[.string (b.word ++ kd.word), .int .i64 kd.num, .int .i64 0]
set_option maxHeartbeats 2000000 in
theorem rule_go_calls (n : ByteArray) (w : World) (hn : n.size ≤ 9223372036854775807) :
    Calls Tryz.prog 26 #[.string n] w fun e w' => e = .returned (ruleFV (ruleOf (small n.data.toList))) ∧ Below w.heap.size w w' := by
  have h1 := rule_calls n w hn
  generalize ruleOf (small n.data.toList) = r at *
  cases r with
  | none =>
    go_enter Tryz.func26, Tryz.ntmps26
    go_wp2_with fail
    refine h1.mono ?_
    rintro e w1 ⟨rfl, hb⟩
    clear h1
    go_wp2_with fail
    go_ret3
    exact ⟨rfl, hb⟩
  | some p =>
    obtain ⟨b, kd⟩ := p
    go_enter Tryz.func26, Tryz.ntmps26
    go_wp2_with fail
    refine h1.mono ?_
    rintro e w1 ⟨g, rfl, hr, hb⟩
    obtain ⟨fv, nv, c0, c1, c2, c3, hf, hn⟩ := hr
    clear h1 hf hn c2 c3
    go_wp2_with fail
    go_quiet (fail)
    go_wp2_with fail
    go_ret3
    exact ⟨rfl, hb.drewN' _⟩
end Sy
end Go.Proofs.YthoealembhkaoaaGreatDoor
