import Derived.Test.YthoealembhkaoaaGreatDoorSyTab
namespace Go.Proofs.YthoealembhkaoaaGreatDoor
open Go.RowKit
namespace Sy
set_option linter.unusedVariables false

/-- What the rules' names begin with. -/
inductive Base | octet | exact | ignore | integer | boolean | dn | oid | time
deriving DecidableEq
def Base.word : Base → ByteArray
  | .octet => ⟨#[111, 99, 116, 101, 116, 83, 116, 114, 105, 110, 103]⟩
  | .exact => ⟨#[99, 97, 115, 101, 69, 120, 97, 99, 116]⟩
  | .ignore => ⟨#[99, 97, 115, 101, 73, 103, 110, 111, 114, 101]⟩
  | .integer => ⟨#[105, 110, 116, 101, 103, 101, 114]⟩
  | .boolean => ⟨#[98, 111, 111, 108, 101, 97, 110]⟩
  | .dn => ⟨#[100, 105, 115, 116, 105, 110, 103, 117, 105, 115, 104, 101, 100, 78, 97, 109, 101]⟩
  | .oid => ⟨#[111, 98, 106, 101, 99, 116, 73, 100, 101, 110, 116, 105, 102, 105, 101, 114]⟩
  | .time => ⟨#[103, 101, 110, 101, 114, 97, 108, 105, 122, 101, 100, 84, 105, 109, 101]⟩
def Base.forms : Base → List Form
  | .octet => [.octets]
  | .exact => [.text, .ascii]
  | .ignore => [.text, .ascii]
  | .integer => [.integer]
  | .boolean => [.boolean]
  | .dn => [.name]
  | .oid => [.oid]
  | .time => [.time]
def Base.kinds : Base → List Kd
  | .octet => [.ord]
  | .exact => [.ord, .sub]
  | .ignore => [.ord, .sub]
  | .integer => [.ord]
  | .boolean => []
  | .dn => []
  | .oid => []
  | .time => [.ord]
/-- A base's forms lie in a row. -/
def FormsAt (w : World) (fs : List Form) (v : Value) : Prop := ∃ g c, v = .slice (some ⟨g, 0, none⟩) fs.length c ∧ ∀ k (h : k < fs.length), w.cell? ⟨g, k, none⟩ = some (.string fs[k].word)
/-- A base's normal form is told by a function's value. -/
def NormAt (w : World) : Base → Value → Prop
  | .octet, v => v = .func (.func 131) #[] #[]
  | .exact, v => ∃ p, v = .func (.func 160) #[] #[.pointer (some p)] ∧ w.cell? p = some (.bool false)
  | .ignore, v => ∃ p, v = .func (.func 160) #[] #[.pointer (some p)] ∧ w.cell? p = some (.bool true)
  | .integer, v => v = .func (.func 131) #[] #[]
  | .boolean, v => v = .func (.func 131) #[] #[]
  | .dn, v => v = .func (.func 133) #[] #[]
  | .oid, v => v = .func (.func 134) #[] #[]
  | .time, v => v = .func (.func 131) #[] #[]
theorem NormAt.func {w : World} {b : Base} {v : Value} (h : NormAt w b v) : ∃ fn a1 a2, v = .func fn a1 a2 := by
  cases b <;> simp only [NormAt] at h
  all_goals first | exact ⟨_, _, _, h⟩ | (obtain ⟨p, h, _⟩ := h; exact ⟨_, _, _, h⟩)
abbrev Rows3 := List (Base × Value × Value)
def tabOf (l : Rows3) : Tab := l.flatMap fun x => added x.1.word x.2.1 x.2.2 x.1.kinds
/-- The table with these bases' rules. -/
structure State (w : World) (p : Addr) (r : Nat) (l : Rows3) : Prop where
  var : w.cell? p = some (.map (some r))
  tab : TabAt w r (tabOf l)
  forms : ∀ x ∈ l, FormsAt w x.1.forms x.2.1
  norm : ∀ x ∈ l, NormAt w x.1 x.2.2
theorem FormsAt.keep {w w' : World} {fs : List Form} {v : Value} (h : FormsAt w fs v) (hk : ∀ a u, w.cell? a = some u → w'.cell? a = some u) : FormsAt w' fs v := by
  obtain ⟨g, c, rfl, h⟩ := h
  exact ⟨g, c, rfl, fun k hk' => hk _ _ (h k hk')⟩
theorem NormAt.keep {w w' : World} {b : Base} {v : Value} (h : NormAt w b v) (hk : ∀ a u, w.cell? a = some u → w'.cell? a = some u) : NormAt w' b v := by
  cases b <;> simp only [NormAt] at h ⊢
  all_goals first | exact h | (obtain ⟨p, h1, h2⟩ := h; exact ⟨p, h1, hk _ _ h2⟩)
theorem State.below {w w' : World} {p : Addr} {r : Nat} {l : Rows3} (h : State w p r l) (hb : Below w.heap.size w w') : State w' p r l := by
  have hk : ∀ a u, w.cell? a = some u → w'.cell? a = some u := fun a u hu => (hb.cell (World.block_lt_of_cell? _ _ hu)).trans hu
  exact ⟨hk _ _ h.var, h.tab.below hb, fun x hx => (h.forms x hx).keep hk, fun x hx => (h.norm x hx).keep hk⟩
def keysOf (bs : List Base) : List (List UInt8 × Int) := bs.flatMap fun b => (Kd.eq :: b.kinds).map (keyOf b.word)
theorem tabOf_keys (l : Rows3) : (tabOf l).map (·.1) = keysOf (l.map (·.1)) := by
  induction l with
  | nil => rfl
  | cons x l ih =>
    simp only [tabOf, keysOf, List.flatMap_cons, List.map_append, List.map_cons] at ih ⊢
    rw [ih]
    congr 1
    simp [added, entryOf, Function.comp_def]
theorem put_step (b : Base) (fv nv kv : Value) (p : Addr) (r : Nat) (l : Rows3) (w : World) (hs : State w p r l) (hf : FormsAt w b.forms fv) (hn : NormAt w b nv) (hk : KdRow w kv b.kinds) (hd : (keysOf (l.map (·.1) ++ [b])).Nodup) :
    Calls Tryz.prog 130 #[.string b.word, fv, nv, kv, .pointer (some p)] w fun e w' => e = .returned (.tuple #[]) ∧ State w' p r (l ++ [(b, fv, nv)]) ∧ w.grownBy w' (some r) := by
  obtain ⟨g, c, rfl, hfc⟩ := id hf
  obtain ⟨fn, a1, a2, rfl⟩ := hn.func
  have hc := put_calls b.word (some ⟨g, 0, none⟩) b.forms.length c fn a1 a2 kv b.kinds p r (tabOf l) w hs.var hs.tab hk (by cases b <;> decide) (by cases b <;> decide) (by
    rw [tabOf_keys]
    unfold keysOf at hd ⊢
    rw [List.flatMap_append] at hd
    simpa using hd)
  refine hc.mono ?_
  rintro e w' ⟨rfl, ht, hg⟩
  have keep : ∀ a u, w.cell? a = some u → w'.cell? a = some u := fun a u hu => Gr.cell hg hu (hs.tab.ne_cell hu)
  refine ⟨rfl, ⟨keep _ _ hs.var, ?_, ?_, ?_⟩, hg⟩
  · unfold tabOf at ht ⊢
    rw [List.flatMap_append]
    simpa using ht
  · intro x hx
    rcases List.mem_append.1 hx with hx | hx
    · exact (hs.forms x hx).keep keep
    · simp only [List.mem_singleton] at hx; subst hx; exact hf.keep keep
  · intro x hx
    rcases List.mem_append.1 hx with hx | hx
    · exact (hs.norm x hx).keep keep
    · simp only [List.mem_singleton] at hx; subst hx; exact hn.keep keep
set_option maxRecDepth 100000 in
theorem keys_fresh (bs : List Base) (h : bs <+: [.octet, .exact, .ignore, .integer, .boolean, .dn, .oid, .time]) : (keysOf bs).Nodup := by
  obtain ⟨t, ht⟩ := h
  have : (keysOf [.octet, .exact, .ignore, .integer, .boolean, .dn, .oid, .time]).Nodup := by decide +kernel
  rw [← ht] at this
  unfold keysOf at this ⊢
  rw [List.flatMap_append] at this
  exact (List.nodup_append.1 this).1
def allBases : List Base := [.octet, .exact, .ignore, .integer, .boolean, .dn, .oid, .time]
theorem keep_alloc (w : World) (o : Obj) (a : Addr) (u : Value) (h : w.cell? a = some u) : (w.alloc o).cell? a = some u :=
  (Below.cell ((Below.refl w.heap.size w).alloc (Nat.le_refl _) o) (World.block_lt_of_cell? _ _ h)).trans h
theorem forms1 (w : World) (f : Form) : FormsAt (w.alloc (.cells #[.string f.word] 9)) [f] (.slice (some ⟨w.heap.size, 0, none⟩) 1 1) :=
  ⟨_, _, rfl, fun k hk => by
    have : k = 0 := by simpa using hk
    subst this
    simp [go_sem]⟩
theorem ord1 (w : World) : KdRow (w.alloc (.cells #[Kd.ord.val] 9)) (.slice (some ⟨w.heap.size, 0, none⟩) 1 1) [.ord] :=
  .inr ⟨_, _, rfl, fun k hk => by
    have : k = 0 := by simpa using hk
    subst this
    simp [go_sem]⟩
theorem ordsub (w : World) : KdRow (w.alloc (.cells #[Kd.ord.val, Kd.sub.val] 9)) (.slice (some ⟨w.heap.size, 0, none⟩) 2 2) [.ord, .sub] :=
  .inr ⟨_, _, rfl, fun k hk => by
    have hk : k < 2 := hk
    rcases (by omega : k = 0 ∨ k = 1) with rfl | rfl <;> simp [go_sem]⟩
theorem two_forms (w : World) : FormsAt (w.alloc (.cells #[.string Form.text.word, .string Form.ascii.word] 9)) [.text, .ascii] (.slice (some ⟨w.heap.size, 0, none⟩) 2 2) :=
  ⟨_, _, rfl, fun k hk => by
    have hk : k < 2 := hk
    rcases (by omega : k = 0 ∨ k = 1) with rfl | rfl <;> simp [go_sem]⟩
theorem alloc_below (w : World) (o : Obj) : Below w.heap.size w (w.alloc o) := (Below.refl _ _).alloc (Nat.le_refl _) o
theorem alloc_below2 (w : World) (o o' : Obj) : Below w.heap.size w ((w.alloc o).alloc o') := (alloc_below w o).alloc (by simp) o'
theorem grown_below {w w1 w2 w3 : World} {r : Nat} (h : Below w.heap.size w w1) (h2 : Below w1.heap.size w1 w2) (hg : w2.grownBy w3 (some r)) (hr : w.heap.size ≤ r) : Below w.heap.size w w3 :=
  (h.trans (h2.mono h.size)).grown hg (Nat.le_trans h.size h2.size) (fun k hk => by injection hk with hk; omega)
theorem state_new (w : World) (o : Obj) : State (((w.alloc o).alloc (.map #[] 0)).alloc (.cells #[.map (some (w.heap.size + 1))] 91)) ⟨w.heap.size + 1 + 1, 0, none⟩ (w.heap.size + 1) [] where
  var := by simp [go_sem]
  tab := by
    refine TabAt.below (w := (w.alloc o).alloc (.map #[] 0)) ⟨#[], 0, ?_, rfl⟩ (alloc_below _ _)
    have := heap_alloc_new (w.alloc o) (.map #[] 0)
    simpa using this
  forms := by simp
  norm := by simp
theorem ord1a (w : World) (o : Obj) : KdRow ((w.alloc o).alloc (.cells #[Kd.ord.val] 9)) (.slice (some ⟨w.heap.size + 1, 0, none⟩) 1 1) [.ord] := by
  have := ord1 (w.alloc o)
  simpa using this
theorem ordsuba (w : World) (o : Obj) : KdRow ((w.alloc o).alloc (.cells #[Kd.ord.val, Kd.sub.val] 9)) (.slice (some ⟨w.heap.size + 1, 0, none⟩) 2 2) [.ord, .sub] := by
  have := ordsub (w.alloc o)
  simpa using this
theorem cell_bool (w : World) (b : Bool) : (w.alloc (.cells #[.bool b] 4)).cell? ⟨w.heap.size, 0, none⟩ = some (.bool b) := by simp [go_sem]
set_option maxRecDepth 100000 in
set_option maxHeartbeats 4000000 in
theorem rules_calls (w : World) :
    Calls Tryz.prog 90 #[] w fun e w' => ∃ p r l, e = .returned (.map (some r)) ∧ State w' p r l ∧ l.map (·.1) = allBases ∧ Below w.heap.size w w' := by
  have hmf : ∀ (fn : Fn) (first cap : Array Value) (w : World), (Instr.makeFunc fn first cap).run Tryz.prog w = .ok (.func fn first cap) w := fun _ _ _ _ => rfl
  have hmm : ∀ W : World, (Instr.makeMap 91 none).run Tryz.prog W = .ok (.map (some W.heap.size)) (W.alloc (.map #[] 0)) := fun W => by simp [Instr.makeMap, go_sem]
  have s0 := state_new w (.cells #[.string Form.text.word, .string Form.ascii.word] 9)
  have b0 : Below w.heap.size w (((w.alloc (.cells #[.string Form.text.word, .string Form.ascii.word] 9)).alloc (.map #[] 0)).alloc (.cells #[.map (some (w.heap.size + 1))] 91)) := (alloc_below2 w _ _).alloc (by simp; omega) _
  have t0 : FormsAt (((w.alloc (.cells #[.string Form.text.word, .string Form.ascii.word] 9)).alloc (.map #[] 0)).alloc (.cells #[.map (some (w.heap.size + 1))] 91)) [.text, .ascii] (.slice (some ⟨w.heap.size, 0, none⟩) 2 2) :=
    (two_forms w).keep fun a u h => keep_alloc _ _ _ _ (keep_alloc _ _ _ _ h)
  have S0 := Lib.hid s0
  have B0 := Lib.hid b0
  have T0 := Lib.hid t0
  clear s0 b0 t0
  have hlt : w.heap.size ≤ w.heap.size + 1 := by omega
  go_enter Tryz.func90, Tryz.ntmps90
  go_wp2_with fail
  obtain ⟨w0, hw0⟩ : ∃ w0, w0 = (((w.alloc (.cells #[.string Form.text.word, .string Form.ascii.word] 9)).alloc (.map #[] 0)).alloc (.cells #[.map (some (w.heap.size + 1))] 91)) := ⟨_, rfl⟩
  have e1 : w.heap.size + 1 + 1 + 1 = w0.heap.size := by rw [hw0]; simp
  rw [← hw0] at S0 B0 T0
  simp only [Form.word] at hw0
  rw [← hw0, e1]
  clear hw0 e1
  have st0 := S0.out.below (alloc_below2 w0 (.cells #[.string Form.octets.word] 9) (.cells #[Kd.ord.val] 9))
  refine (put_step .octet _ _ _ _ (w.heap.size + 1) _ _ st0 ((forms1 w0 .octets).keep (keep_alloc _ _)) rfl (ord1a w0 _) (keys_fresh _ ⟨_, rfl⟩)).mono ?_
  rintro e w1 ⟨rfl, s1, g1⟩
  have S1 := Lib.hid s1
  have B1 := Lib.hid (grown_below B0.out (alloc_below2 w0 (.cells #[.string Form.octets.word] 9) (.cells #[Kd.ord.val] 9)) g1 hlt)
  have T1 := Lib.hid (T0.out.keep fun a u h => Gr.cell g1 (((alloc_below2 w0 (.cells #[.string Form.octets.word] 9) (.cells #[Kd.ord.val] 9))).cell (World.block_lt_of_cell? _ _ h) |>.trans h) (fun e => st0.tab.ne_cell (((alloc_below2 w0 (.cells #[.string Form.octets.word] 9) (.cells #[Kd.ord.val] 9))).cell (World.block_lt_of_cell? _ _ h) |>.trans h) e))
  clear st0 s1 g1 S0 B0 T0
  go_wp2_with fail
  refine (textFn_calls false _).mono ?_
  rintro e v1 ⟨rfl, rfl⟩
  go_wp2_with fail
  have st1 := S1.out.below (alloc_below2 w1 (.cells #[.bool false] 4) (.cells #[Kd.ord.val, Kd.sub.val] 9))
  refine (put_step .exact _ _ _ _ (w.heap.size + 1) _ _ st1 (T1.out.keep fun a u h => keep_alloc _ _ _ _ (keep_alloc _ _ _ _ h)) ⟨_, rfl, keep_alloc _ _ _ _ (cell_bool w1 false)⟩ (ordsuba w1 _) (keys_fresh _ ⟨_, rfl⟩)).mono ?_
  rintro e w2 ⟨rfl, s2, g2⟩
  have S2 := Lib.hid s2
  have B2 := Lib.hid (grown_below B1.out (alloc_below2 w1 (.cells #[.bool false] 4) (.cells #[Kd.ord.val, Kd.sub.val] 9)) g2 hlt)
  have T2 := Lib.hid (T1.out.keep fun a u h => Gr.cell g2 (((alloc_below2 w1 (.cells #[.bool false] 4) (.cells #[Kd.ord.val, Kd.sub.val] 9))).cell (World.block_lt_of_cell? _ _ h) |>.trans h) (fun e => st1.tab.ne_cell (((alloc_below2 w1 (.cells #[.bool false] 4) (.cells #[Kd.ord.val, Kd.sub.val] 9))).cell (World.block_lt_of_cell? _ _ h) |>.trans h) e))
  clear st1 s2 g2 S1 B1 T1
  go_wp2_with fail
  refine (textFn_calls true _).mono ?_
  rintro e v1 ⟨rfl, rfl⟩
  go_wp2_with fail
  have st2 := S2.out.below (alloc_below2 w2 (.cells #[.bool true] 4) (.cells #[Kd.ord.val, Kd.sub.val] 9))
  refine (put_step .ignore _ _ _ _ (w.heap.size + 1) _ _ st2 (T2.out.keep fun a u h => keep_alloc _ _ _ _ (keep_alloc _ _ _ _ h)) ⟨_, rfl, keep_alloc _ _ _ _ (cell_bool w2 true)⟩ (ordsuba w2 _) (keys_fresh _ ⟨_, rfl⟩)).mono ?_
  rintro e w3 ⟨rfl, s3, g3⟩
  have S3 := Lib.hid s3
  have B3 := Lib.hid (grown_below B2.out (alloc_below2 w2 (.cells #[.bool true] 4) (.cells #[Kd.ord.val, Kd.sub.val] 9)) g3 hlt)
  clear st2 s3 g3 S2 B2 T2
  go_wp2_with fail
  have st3 := S3.out.below (alloc_below2 w3 (.cells #[.string Form.integer.word] 9) (.cells #[Kd.ord.val] 9))
  refine (put_step .integer _ _ _ _ (w.heap.size + 1) _ _ st3 ((forms1 w3 .integer).keep (keep_alloc _ _)) rfl (ord1a w3 _) (keys_fresh _ ⟨_, rfl⟩)).mono ?_
  rintro e w4 ⟨rfl, s4, g4⟩
  have S4 := Lib.hid s4
  have B4 := Lib.hid (grown_below B3.out (alloc_below2 w3 (.cells #[.string Form.integer.word] 9) (.cells #[Kd.ord.val] 9)) g4 hlt)
  clear st3 s4 g4 S3 B3
  go_wp2_with fail
  have st4 := S4.out.below (alloc_below w4 (.cells #[.string Form.boolean.word] 9))
  refine (put_step .boolean _ _ _ _ (w.heap.size + 1) _ _ st4 (forms1 w4 .boolean) rfl (.inl ⟨rfl, rfl⟩) (keys_fresh _ ⟨_, rfl⟩)).mono ?_
  rintro e w5 ⟨rfl, s5, g5⟩
  have S5 := Lib.hid s5
  have B5 := Lib.hid (grown_below B4.out (alloc_below w4 (.cells #[.string Form.boolean.word] 9)) g5 hlt)
  clear st4 s5 g5 S4 B4
  go_wp2_with fail
  have st5 := S5.out.below (alloc_below w5 (.cells #[.string Form.name.word] 9))
  refine (put_step .dn _ _ _ _ (w.heap.size + 1) _ _ st5 (forms1 w5 .name) rfl (.inl ⟨rfl, rfl⟩) (keys_fresh _ ⟨_, rfl⟩)).mono ?_
  rintro e w6 ⟨rfl, s6, g6⟩
  have S6 := Lib.hid s6
  have B6 := Lib.hid (grown_below B5.out (alloc_below w5 (.cells #[.string Form.name.word] 9)) g6 hlt)
  clear st5 s6 g6 S5 B5
  go_wp2_with fail
  have st6 := S6.out.below (alloc_below w6 (.cells #[.string Form.oid.word] 9))
  refine (put_step .oid _ _ _ _ (w.heap.size + 1) _ _ st6 (forms1 w6 .oid) rfl (.inl ⟨rfl, rfl⟩) (keys_fresh _ ⟨_, rfl⟩)).mono ?_
  rintro e w7 ⟨rfl, s7, g7⟩
  have S7 := Lib.hid s7
  have B7 := Lib.hid (grown_below B6.out (alloc_below w6 (.cells #[.string Form.oid.word] 9)) g7 hlt)
  clear st6 s7 g7 S6 B6
  go_wp2_with fail
  have st7 := S7.out.below (alloc_below2 w7 (.cells #[.string Form.time.word] 9) (.cells #[Kd.ord.val] 9))
  refine (put_step .time _ _ _ _ (w.heap.size + 1) _ _ st7 ((forms1 w7 .time).keep (keep_alloc _ _)) rfl (ord1a w7 _) (keys_fresh _ ⟨_, rfl⟩)).mono ?_
  rintro e w8 ⟨rfl, s8, g8⟩
  have S8 := Lib.hid s8
  have B8 := Lib.hid (grown_below B7.out (alloc_below2 w7 (.cells #[.string Form.time.word] 9) (.cells #[Kd.ord.val] 9)) g8 hlt)
  clear st7 s8 g8 S7 B7
  have c8 := S8.out.var
  go_wp2_with fail
  go_ret
  exact ⟨_, _, _, rfl, S8.out, rfl, B8.out⟩
end Sy
end Go.Proofs.YthoealembhkaoaaGreatDoor
