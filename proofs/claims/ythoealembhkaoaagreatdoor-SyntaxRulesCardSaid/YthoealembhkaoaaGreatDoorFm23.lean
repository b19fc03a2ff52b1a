import Derived.Test.YthoealembhkaoaaGreatDoorFm22
namespace Go.Proofs.YthoealembhkaoaaGreatDoor
open Go.RowKit
namespace Sy
set_option linter.unusedVariables false

/-- What the rules' names begin with. -/
inductive Base | octet | exact | ignore | integer | boolean | dn | oid | time
deriving DecidableEq
def Base.word : Base → ByteArray
  | .octet => ⟨#[111, 99, 116, 101, 116, 83, 116, 114, 105, 110, 103]⟩
  | .exact => ⟨#[99, 97, 115, 101, 69, 120, 97, 99, 116]⟩
  | .ignore => ⟨#[99, 97, 115, 101, 73, 103, 110, 111, 114, 101]⟩
  | .integer => ⟨#[105, 110, 116, 101, 103, 101, 114]⟩
  | .boolean => ⟨#[98, 111, 111, 108, 101, 97, 110]⟩
  | .dn => ⟨#[100, 105, 115, 116, 105, 110, 103, 117, 105, 115, 104, 101, 100, 78, 97, 109, 101]⟩
  | .oid => ⟨#[111, 98, 106, 101, 99, 116, 73, 100, 101, 110, 116, 105, 102, 105, 101, 114]⟩
  | .time => ⟨#[103, 101, 110, 101, 114, 97, 108, 105, 122, 101, 100, 84, 105, 109, 101]⟩
def Base.forms : Base → List Form
  | .octet => [.octets]
  | .exact => [.text, .ascii]
  | .ignore => [.text, .ascii]
  | .integer => [.integer]
  | .boolean => [.boolean]
  | .dn => [.name]
  | .oid => [.oid]
  | .time => [.time]
def Base.kinds : Base → List Kd
  | .octet => [.ord]
  | .exact => [.ord, .sub]
  | .ignore => [.ord, .sub]
  | .integer => [.ord]
  | .boolean => []
  | .dn => []
  | .oid => []
  | .time => [.ord]
/-- A base's forms lie in a row. -/
def FormsAt (w : World) (fs : List Form) (v : Value) : Prop := ∃ g c, v = .slice (some ⟨g, 0, none⟩) fs.length c ∧ ∀ k (h : k < fs.length), w.cell? ⟨g, k, none⟩ = some (.string fs[k].word)
/-- A base's normal form is told by a function's value. -/
def NormAt (w : World) : Base → Value → Prop
  | .octet, v => v = .func (.func 131) #[] #[]
  | .exact, v => ∃ p, v = .func (.func 160) #[] #[.pointer (some p)] ∧ w.cell? p = some (.bool false)
  | .ignore, v => ∃ p, v = .func (.func 160) #[] #[.pointer (some p)] ∧ w.cell? p = some (.bool true)
  | .integer, v => v = .func (.func 131) #[] #[]
  | .boolean, v => v = .func (.func 131) #[] #[]
  | .dn, v => v = .func (.func 133) #[] #[]
  | .oid, v => v = .func (.func 134) #[] #[]
  | .time, v => v = .func (.func 131) #[] #[]
theorem NormAt.func {w : World} {b : Base} {v : Value} (h : NormAt w b v) : ∃ fn a1 a2, v = .func fn a1 a2 := by
  cases b <;> simp only [NormAt] at h
  all_goals first | exact ⟨_, _, _, h⟩ | (obtain ⟨p, h, _⟩ := h; exact ⟨_, _, _, h⟩)
abbrev Rows3 := List (Base × Value × Value)
def tabOf (l : Rows3) : Tab := l.flatMap fun x => added x.1.word x.2.1 x.2.2 x.1.kinds
/-- The table with these bases' rules. -/
structure State (w : World) (p : Addr) (r : Nat) (l : Rows3) : Prop where
  var : w.cell? p = some (.map (some r))
  tab : TabAt w r (tabOf l)
  forms : ∀ x ∈ l, FormsAt w x.1.forms x.2.1
  norm : ∀ x ∈ l, NormAt w x.1 x.2.2
theorem FormsAt.keep {w w' : World} {fs : List Form} {v : Value} (h : FormsAt w fs v) (hk : ∀ a u, w.cell? a = some u → w'.cell? a = some u) : FormsAt w' fs v := by
  obtain ⟨g, c, rfl, h⟩ := h
  exact ⟨g, c, rfl, fun k hk' => hk _ _ (h k hk')⟩
theorem NormAt.keep {w w' : World} {b : Base} {v : Value} (h : NormAt w b v) (hk : ∀ a u, w.cell? a = some u → w'.cell? a = some u) : NormAt w' b v := by
  cases b <;> simp only [NormAt] at h ⊢
  all_goals first | exact h | (obtain ⟨p, h1, h2⟩ := h; exact ⟨p, h1, hk _ _ h2⟩)
theorem State.below {w w' : World} {p : Addr} {r : Nat} {l : Rows3} (h : State w p r l) (hb : Below w.heap.size w w') : State w' p r l := by
  have hk : ∀ a u, w.cell? a = some u → w'.cell? a = some u := fun a u hu => (hb.cell (World.block_lt_of_cell? _ _ hu)).trans hu
  exact ⟨hk _ _ h.var, h.tab.below hb, fun x hx => (h.forms x hx).keep hk, fun x hx => (h.norm x hx).keep hk⟩
def keysOf (bs : List Base) : List (List UInt8 × Int) := bs.flatMap fun b => (Kd.eq :: b.kinds).map (keyOf b.word)
theorem tabOf_keys (l : Rows3) : (tabOf l).map (·.1) = keysOf (l.map (·.1)) := by
  induction l with
  | nil => rfl
  | cons x l ih =>
    simp only [tabOf, keysOf, List.flatMap_cons, List.map_append, List.map_cons] at ih ⊢
    rw [ih]
    congr 1
    simp [added, entryOf, Function.comp_def]
theorem put_step (b : Base) (fv nv kv : Value) (p : Addr) (r : Nat) (l : Rows3) (w : World) (hs : State w p r l) (hf : FormsAt w b.forms fv) (hn : NormAt w b nv) (hk : KdRow w kv b.kinds) (hd : (keysOf (l.map (·.1) ++ [b])).Nodup) :
    Calls Tryz.prog 130 #[.string b.word, fv, nv, kv, .pointer (some p)] w fun e w' => e = .returned (.tuple #[]) ∧ State w' p r (l ++ [(b, fv, nv)]) ∧ w.grownBy w' (some r) := by
  obtain ⟨g, c, rfl, hfc⟩ := id hf
  obtain ⟨fn, a1, a2, rfl⟩ := hn.func
  have hc := put_calls b.word (some ⟨g, 0, none⟩) b.forms.length c fn a1 a2 kv b.kinds p r (tabOf l) w hs.var hs.tab hk (by cases b <;> decide) (by cases b <;> decide) (by
    rw [tabOf_keys]
    unfold keysOf at hd ⊢
    rw [List.flatMap_append] at hd
    simpa using hd)
  refine hc.mono ?_
  rintro e w' ⟨rfl, ht, hg⟩
  have keep : ∀ a u, w.cell? a = some u → w'.cell? a = some u := fun a u hu => Gr.cell hg hu (hs.tab.ne_cell hu)
  refine ⟨rfl, ⟨keep _ _ hs.var, ?_, ?_, ?_⟩, hg⟩
  · unfold tabOf at ht ⊢
    rw [List.flatMap_append]
    simpa using ht
  · intro x hx
    rcases List.mem_append.1 hx with hx | hx
    · exact (hs.forms x hx).keep keep
    · simp only [List.mem_singleton] at hx; subst hx; exact hf.keep keep
  · intro x hx
    rcases List.mem_append.1 hx with hx | hx
    · exact (hs.norm x hx).keep keep
    · simp only [List.mem_singleton] at hx; subst hx; exact hn.keep keep
set_option maxRecDepth 100000 in
theorem keys_fresh (bs : List Base) (h : bs <+: [.octet, .exact, .ignore, .integer, .boolean, .dn, .oid, .time]) : (keysOf bs).Nodup := by
  obtain ⟨t, ht⟩ := h
  have : (keysOf [.octet, .exact, .ignore, .integer, .boolean, .dn, .oid, .time]).Nodup := by decide +kernel
  rw [← ht] at this
  unfold keysOf at this ⊢
  rw [List.flatMap_append] at this
  exact (List.nodup_append.1 this).1
def allBases : List Base := [.octet, .exact, .ignore, .integer, .boolean, .dn, .oid, .time]
theorem keep_alloc (w : World) (o : Obj) (a : Addr) (u : Value) (h : w.cell? a = some u) : (w.alloc o).cell? a = some u :=
  (Below.cell ((Below.refl w.heap.size w).alloc (Nat.le_refl _) o) (World.block_lt_of_cell? _ _ h)).trans h
theorem forms1 (w : World) (f : Form) : FormsAt (w.alloc (.cells #[.string f.word] 9)) [f] (.slice (some ⟨w.heap.size, 0, none⟩) 1 1) :=
  ⟨_, _, rfl, fun k hk => by
    have : k = 0 := by simpa using hk
    subst this
    simp [go_sem]⟩
theorem ord1 (w : World) : KdRow (w.alloc (.cells #[Kd.ord.val] 9)) (.slice (some ⟨w.heap.size, 0, none⟩) 1 1) [.ord] :=
  .inr ⟨_, _, rfl, fun k hk => by
    have : k = 0 := by simpa using hk
    subst this
    simp [go_sem]⟩
theorem ordsub (w : World) : KdRow (w.alloc (.cells #[Kd.ord.val, Kd.sub.val] 9)) (.slice (some ⟨w.heap.size, 0, none⟩) 2 2) [.ord, .sub] :=
  .inr ⟨_, _, rfl, fun k hk => by
    have hk : k < 2 := hk
    rcases (by omega : k = 0 ∨ k = 1) with rfl | rfl <;> simp [go_sem]⟩
theorem two_forms (w : World) : FormsAt (w.alloc (.cells #[.string Form.text.word, .string Form.ascii.word] 9)) [.text, .ascii] (.slice (some ⟨w.heap.size, 0, none⟩) 2 2) :=
  ⟨_, _, rfl, fun k hk => by
    have hk : k < 2 := hk
    rcases (by omega : k = 0 ∨ k = 1) with rfl | rfl <;> simp [go_sem]⟩
theorem alloc_below (w : World) (o : Obj) : Below w.heap.size w (w.alloc o) := (Below.refl _ _).alloc (Nat.le_refl _) o
theorem alloc_below2 (w : World) (o o' : Obj) : Below w.heap.size w ((w.alloc o).alloc o') := (alloc_below w o).alloc (by simp) o'
theorem grown_below {w w1 w2 w3 : World} {r : Nat} (h : Below w.heap.size w w1) (h2 : Below w1.heap.size w1 w2) (hg : w2.grownBy w3 (some r)) (hr : w.heap.size ≤ r) : Below w.heap.size w w3 :=
  (h.trans (h2.mono h.size)).grown hg (Nat.le_trans h.size h2.size) (fun k hk => by injection hk with hk; omega)
theorem state_new (w : World) (o : Obj) : State (((w.alloc o).alloc (.map #[] 0)).alloc (.cells #[.map (some (w.heap.size + 1))] 91)) ⟨w.heap.size + 1 + 1, 0, none⟩ (w.heap.size + 1) [] where
  var := by simp [go_sem]
  tab := by
    refine TabAt.below (w := (w.alloc o).alloc (.map #[] 0)) ⟨#[], 0, ?_, rfl⟩ (alloc_below _ _)
    have := heap_alloc_new (w.alloc o) (.map #[] 0)
    simpa using this
  forms := by simp
  norm := by simp
theorem ord1a (w : World) (o : Obj) : KdRow ((w.alloc o).alloc (.cells #[Kd.ord.val] 9)) (.slice (some ⟨w.heap.size + 1, 0, none⟩) 1 1) [.ord] := by
  have := ord1 (w.alloc o)
  simpa using this
theorem ordsuba (w : World) (o : Obj) : KdRow ((w.alloc o).alloc (.cells #[Kd.ord.val, Kd.sub.val] 9)) (.slice (some ⟨w.heap.size + 1, 0, none⟩) 2 2) [.ord, .sub] := by
  have := ordsub (w.alloc o)
  simpa using this
theorem cell_bool (w : World) (b : Bool) : (w.alloc (.cells #[.bool b] 4)).cell? ⟨w.heap.size, 0, none⟩ = some (.bool b) := by simp [go_sem]
set_option maxRecDepth 100000 in
set_option maxHeartbeats 4000000 in
theorem rules_calls (w : World) :
    Calls Tryz.prog 90 #[] w fun e w' => ∃ p r l, e = .returned (.map (some r)) ∧ State w' p r l ∧ l.map (·.1) = allBases ∧ Below w.heap.size w w' := by
  have hmf : ∀ (fn : Fn) (first cap : Array Value) (w : World), (Instr.makeFunc fn first cap).run Tryz.prog w = .ok (.func fn first cap) w := fun _ _ _ _ => rfl
  have hmm : ∀ W : World, (Instr.makeMap 91 none).run Tryz.prog W = .ok (.map (some W.heap.size)) (W.alloc (.map #[] 0)) := fun W => by simp [Instr.makeMap, go_sem]
  have s0 := state_new w (.cells #[.string Form.text.word, .string Form.ascii.word] 9)
  have b0 : Below w.heap.size w (((w.alloc (.cells #[.string Form.text.word, .string Form.ascii.word] 9)).alloc (.map #[] 0)).alloc (.cells #[.map (some (w.heap.size + 1))] 91)) := (alloc_below2 w _ _).alloc (by simp; omega) _
  have t0 : FormsAt (((w.alloc (.cells #[.string Form.text.word, .string Form.ascii.word] 9)).alloc (.map #[] 0)).alloc (.cells #[.map (some (w.heap.size + 1))] 91)) [.text, .ascii] (.slice (some ⟨w.heap.size, 0, none⟩) 2 2) :=
    (two_forms w).keep fun a u h => keep_alloc _ _ _ _ (keep_alloc _ _ _ _ h)
  have S0 := Lib.hid s0
  have B0 := Lib.hid b0
  have T0 := Lib.hid t0
  clear s0 b0 t0
  have hlt : w.heap.size ≤ w.heap.size + 1 := by omega
  go_enter Tryz.func90, Tryz.ntmps90
  go_wp2_with fail
  obtain ⟨w0, hw0⟩ : ∃ w0, w0 = (((w.alloc (.cells #[.string Form.text.word, .string Form.ascii.word] 9)).alloc (.map #[] 0)).alloc (.cells #[.map (some (w.heap.size + 1))] 91)) := ⟨_, rfl⟩
  have e1 : w.heap.size + 1 + 1 + 1 = w0.heap.size := by rw [hw0]; simp
  rw [← hw0] at S0 B0 T0
  simp only [Form.word] at hw0
  rw [← hw0, e1]
  clear hw0 e1
  have st0 := S0.out.below (alloc_below2 w0 (.cells #[.string Form.octets.word] 9) (.cells #[Kd.ord.val] 9))
  refine (put_step .octet _ _ _ _ (w.heap.size + 1) _ _ st0 ((forms1 w0 .octets).keep (keep_alloc _ _)) rfl (ord1a w0 _) (keys_fresh _ ⟨_, rfl⟩)).mono ?_
  rintro e w1 ⟨rfl, s1, g1⟩
  have S1 := Lib.hid s1
  have B1 := Lib.hid (grown_below B0.out (alloc_below2 w0 (.cells #[.string Form.octets.word] 9) (.cells #[Kd.ord.val] 9)) g1 hlt)
  have T1 := Lib.hid (T0.out.keep fun a u h => Gr.cell g1 (((alloc_below2 w0 (.cells #[.string Form.octets.word] 9) (.cells #[Kd.ord.val] 9))).cell (World.block_lt_of_cell? _ _ h) |>.trans h) (fun e => st0.tab.ne_cell (((alloc_below2 w0 (.cells #[.string Form.octets.word] 9) (.cells #[Kd.ord.val] 9))).cell (World.block_lt_of_cell? _ _ h) |>.trans h) e))
  clear st0 s1 g1 S0 B0 T0
  go_wp2_with fail
  refine (textFn_calls false _).mono ?_
  rintro e v1 ⟨rfl, rfl⟩
  go_wp2_with fail
  have st1 := S1.out.below (alloc_below2 w1 (.cells #[.bool false] 4) (.cells #[Kd.ord.val, Kd.sub.val] 9))
  refine (put_step .exact _ _ _ _ (w.heap.size + 1) _ _ st1 (T1.out.keep fun a u h => keep_alloc _ _ _ _ (keep_alloc _ _ _ _ h)) ⟨_, rfl, keep_alloc _ _ _ _ (cell_bool w1 false)⟩ (ordsuba w1 _) (keys_fresh _ ⟨_, rfl⟩)).mono ?_
  rintro e w2 ⟨rfl, s2, g2⟩
  have S2 := Lib.hid s2
  have B2 := Lib.hid (grown_below B1.out (alloc_below2 w1 (.cells #[.bool false] 4) (.cells #[Kd.ord.val, Kd.sub.val] 9)) g2 hlt)
  have T2 := Lib.hid (T1.out.keep fun a u h => Gr.cell g2 (((alloc_below2 w1 (.cells #[.bool false] 4) (.cells #[Kd.ord.val, Kd.sub.val] 9))).cell (World.block_lt_of_cell? _ _ h) |>.trans h) (fun e => st1.tab.ne_cell (((alloc_below2 w1 (.cells #[.bool false] 4) (.cells #[Kd.ord.val, Kd.sub.val] 9))).cell (World.block_lt_of_cell? _ _ h) |>.trans h) e))
  clear st1 s2 g2 S1 B1 T1
  go_wp2_with fail
  refine (textFn_calls true _).mono ?_
  rintro e v1 ⟨rfl, rfl⟩
  go_wp2_with fail
  have st2 := S2.out.below (alloc_below2 w2 (.cells #[.bool true] 4) (.cells #[Kd.ord.val, Kd.sub.val] 9))
  refine (put_step .ignore _ _ _ _ (w.heap.size + 1) _ _ st2 (T2.out.keep fun a u h => keep_alloc _ _ _ _ (keep_alloc _ _ _ _ h)) ⟨_, rfl, keep_alloc _ _ _ _ (cell_bool w2 true)⟩ (ordsuba w2 _) (keys_fresh _ ⟨_, rfl⟩)).mono ?_
  rintro e w3 ⟨rfl, s3, g3⟩
  have S3 := Lib.hid s3
  have B3 := Lib.hid (grown_below B2.out (alloc_below2 w2 (.cells #[.bool true] 4) (.cells #[Kd.ord.val, Kd.sub.val] 9)) g3 hlt)
  clear st2 s3 g3 S2 B2 T2
  go_wp2_with fail
  have st3 := S3.out.below (alloc_below2 w3 (.cells #[.string Form.integer.word] 9) (.cells #[Kd.ord.val] 9))
  refine (put_step .integer _ _ _ _ (w.heap.size + 1) _ _ st3 ((forms1 w3 .integer).keep (keep_alloc _ _)) rfl (ord1a w3 _) (keys_fresh _ ⟨_, rfl⟩)).mono ?_
  rintro e w4 ⟨rfl, s4, g4⟩
  have S4 := Lib.hid s4
  have B4 := Lib.hid (grown_below B3.out (alloc_below2 w3 (.cells #[.string Form.integer.word] 9) (.cells #[Kd.ord.val] 9)) g4 hlt)
  clear st3 s4 g4 S3 B3
  go_wp2_with fail
  have st4 := S4.out.below (alloc_below w4 (.cells #[.string Form.boolean.word] 9))
  refine (put_step .boolean _ _ _ _ (w.heap.size + 1) _ _ st4 (forms1 w4 .boolean) rfl (.inl ⟨rfl, rfl⟩) (keys_fresh _ ⟨_, rfl⟩)).mono ?_
  rintro e w5 ⟨rfl, s5, g5⟩
  have S5 := Lib.hid s5
  have B5 := Lib.hid (grown_below B4.out (alloc_below w4 (.cells #[.string Form.boolean.word] 9)) g5 hlt)
  clear st4 s5 g5 S4 B4
  go_wp2_with fail
  have st5 := S5.out.below (alloc_below w5 (.cells #[.string Form.name.word] 9))
  refine (put_step .dn _ _ _ _ (w.heap.size + 1) _ _ st5 (forms1 w5 .name) rfl (.inl ⟨rfl, rfl⟩) (keys_fresh _ ⟨_, rfl⟩)).mono ?_
  rintro e w6 ⟨rfl, s6, g6⟩
  have S6 := Lib.hid s6
  have B6 := Lib.hid (grown_below B5.out (alloc_below w5 (.cells #[.string Form.name.word] 9)) g6 hlt)
  clear st5 s6 g6 S5 B5
  go_wp2_with fail
  have st6 := S6.out.below (alloc_below w6 (.cells #[.string Form.oid.word] 9))
  refine (put_step .oid _ _ _ _ (w.heap.size + 1) _ _ st6 (forms1 w6 .oid) rfl (.inl ⟨rfl, rfl⟩) (keys_fresh _ ⟨_, rfl⟩)).mono ?_
  rintro e w7 ⟨rfl, s7, g7⟩
  have S7 := Lib.hid s7
  have B7 := Lib.hid (grown_below B6.out (alloc_below w6 (.cells #[.string Form.oid.word] 9)) g7 hlt)
  clear st6 s7 g7 S6 B6
  go_wp2_with fail
  have st7 := S7.out.below (alloc_below2 w7 (.cells #[.string Form.time.word] 9) (.cells #[Kd.ord.val] 9))
  refine (put_step .time _ _ _ _ (w.heap.size + 1) _ _ st7 ((forms1 w7 .time).keep (keep_alloc _ _)) rfl (ord1a w7 _) (keys_fresh _ ⟨_, rfl⟩)).mono ?_
  rintro e w8 ⟨rfl, s8, g8⟩
  have S8 := Lib.hid s8
  have B8 := Lib.hid (grown_below B7.out (alloc_below2 w7 (.cells #[.string Form.time.word] 9) (.cells #[Kd.ord.val] 9)) g8 hlt)
  clear st7 s8 g8 S7 B7
  have c8 := S8.out.var
  go_wp2_with fail
  go_ret
  exact ⟨_, _, _, rfl, S8.out, rfl, B8.out⟩
end Sy
end Go.Proofs.YthoealembhkaoaaGreatDoor
namespace Go.Proofs.YthoealembhkaoaaGreatDoor
open Go.RowKit
namespace Sy
set_option linter.unusedVariables false

def entries (bs : List Base) : List (Base × Kd) := bs.flatMap fun b => (Kd.eq :: b.kinds).map fun k => (b, k)
/-- The rule of a key. -/
def ruleIn (bs : List Base) (k : List UInt8 × Int) : Option (Base × Kd) := (entries bs).find? fun e => decide (keyOf e.1.word e.2 = k)
theorem seek_append (k : List UInt8 × Int) : ∀ (a b : Tab) (i : Nat), seek k (a ++ b) i = (seek k a i).or (seek k b (i + a.length))
  | [], b, i => by simp [seek]
  | x :: a, b, i => by
    simp only [List.cons_append, seek]
    split
    · rfl
    · rw [seek_append k a b (i + 1)]
      simp only [List.length_cons]
      rw [show i + 1 + a.length = i + (a.length + 1) by omega]
theorem seek_added (k : List UInt8 × Int) (b : Base) (fv nv : Value) : ∀ (ks : List Kd) (i : Nat),
    (seek k (ks.map (entryOf b.word fv nv)) i = none ∧ (ks.map fun kd => (b, kd)).find? (fun e => decide (keyOf e.1.word e.2 = k)) = none) ∨
    ∃ kd j, seek k (ks.map (entryOf b.word fv nv)) i = some (j, rowV (b.word ++ kd.word) kd fv nv) ∧ (ks.map fun kd => (b, kd)).find? (fun e => decide (keyOf e.1.word e.2 = k)) = some (b, kd)
  | [], i => .inl ⟨rfl, rfl⟩
  | kd :: ks, i => by
    simp only [List.map_cons, seek, entryOf, List.find?_cons]
    by_cases h : keyOf b.word kd = k
    · right
      exact ⟨kd, i, by rw [if_pos h], by simp [h]⟩
    · rw [if_neg h]
      simp only [h, decide_false]
      exact seek_added k b fv nv ks (i + 1)
theorem seek_tab (k : List UInt8 × Int) : ∀ (l : Rows3) (i : Nat),
    (seek k (tabOf l) i = none ∧ ruleIn (l.map (·.1)) k = none) ∨
    ∃ b kd fv nv j, seek k (tabOf l) i = some (j, rowV (b.word ++ kd.word) kd fv nv) ∧ ruleIn (l.map (·.1)) k = some (b, kd) ∧ (b, fv, nv) ∈ l
  | [], i => .inl ⟨rfl, rfl⟩
  | (b, fv, nv) :: l, i => by
    have e1 : tabOf ((b, fv, nv) :: l) = added b.word fv nv b.kinds ++ tabOf l := by simp [tabOf]
    have e2 : ruleIn (((b, fv, nv) :: l).map (·.1)) k = (((Kd.eq :: b.kinds).map fun kd => (b, kd)).find? (fun e => decide (keyOf e.1.word e.2 = k))).or (ruleIn (l.map (·.1)) k) := by
      simp only [ruleIn, entries, List.map_cons, List.flatMap_cons, List.find?_append]
    rw [e1, e2, seek_append]
    rcases seek_added k b fv nv (Kd.eq :: b.kinds) i with ⟨h1, h2⟩ | ⟨kd, j, h1, h2⟩
    · unfold added
      rw [h1, h2]
      rcases seek_tab k l (i + ((Kd.eq :: b.kinds).map (entryOf b.word fv nv)).length) with ⟨h3, h4⟩ | ⟨b', kd', fv', nv', j', h3, h4, h5⟩
      · left; rw [h3, h4]; exact ⟨rfl, rfl⟩
      · right; rw [h3, h4]; exact ⟨b', kd', fv', nv', j', rfl, rfl, .tail _ h5⟩
    · right
      unfold added
      rw [h1, h2]
      exact ⟨b, kd, fv, nv, j, rfl, rfl, .head _⟩
/-- The rule of a name in small letters: first of the kind 0, then 1, then 2. -/
def ruleOf (x : List UInt8) : Option (Base × Kd) := (ruleIn allBases (x, 0)).or ((ruleIn allBases (x, 1)).or (ruleIn allBases (x, 2)))
/-- A rule in memory. -/
def RuleAt (w : World) (g : Nat) (b : Base) (kd : Kd) : Prop :=
  ∃ fv nv, w.cell? ⟨g, 0, none⟩ = some (.string (b.word ++ kd.word)) ∧ w.cell? ⟨g, 1, none⟩ = some (.int .i64 kd.num) ∧ w.cell? ⟨g, 2, none⟩ = some fv ∧ w.cell? ⟨g, 3, none⟩ = some nv ∧ FormsAt w b.forms fv ∧ NormAt w b nv
theorem RuleAt.below {w w' : World} {g : Nat} {b : Base} {kd : Kd} (h : RuleAt w g b kd) (hb : Below w.heap.size w w') : RuleAt w' g b kd := by
  have hk : ∀ a u, w.cell? a = some u → w'.cell? a = some u := fun a u hu => (hb.cell (World.block_lt_of_cell? _ _ hu)).trans hu
  obtain ⟨fv, nv, h0, h1, h2, h3, h4, h5⟩ := h
  exact ⟨fv, nv, hk _ _ h0, hk _ _ h1, hk _ _ h2, hk _ _ h3, h4.keep hk, h5.keep hk⟩
def AskedR (r : Option (Base × Kd)) (w : World) (e : Ending) (w' : World) : Prop :=
  match r with
  | none => e = .returned (.pointer none) ∧ Below w.heap.size w w'
  | some (b, kd) => ∃ g, e = .returned (.pointer (some ⟨g, 0, none⟩)) ∧ RuleAt w' g b kd ∧ Below w.heap.size w w'
theorem rule_new (w : World) (b : Base) (kd : Kd) (fv nv : Value) (hf : FormsAt w b.forms fv) (hn : NormAt w b nv) : RuleAt (w.alloc (.cells #[.string (b.word ++ kd.word), .int .i64 kd.num, fv, nv] 52)) w.heap.size b kd :=
  ⟨fv, nv, by simp [go_sem], by simp [go_sem], by simp [go_sem], by simp [go_sem], hf.keep (keep_alloc _ _), hn.keep (keep_alloc _ _)⟩
set_option maxRecDepth 100000 in
set_option maxHeartbeats 4000000 in
theorem rule_calls (s : ByteArray) (w : World) (hs : s.size ≤ 9223372036854775807) :
    Calls Tryz.prog 53 #[.string s] w (AskedR (ruleOf (small s.data.toList)) w) := by
  have hsm := fun W => small_calls s W hs
  have hsn : ∀ (W : World) (a : Addr) (m : Mode), (store a .nilFunc m).run Tryz.prog W = stored Tryz.prog W a .nilFunc m := fun W a m => run_store _ W a _ m rfl
  have hsf : ∀ (W : World) (a : Addr) (m : Mode) (fn : Fn) (a1 a2 : Array Value), (store a (.func fn a1 a2) m).run Tryz.prog W = stored Tryz.prog W a (.func fn a1 a2) m := fun W a m fn a1 a2 => run_store _ W a _ m rfl
  obtain ⟨res, hres⟩ : ∃ res, ruleOf (small s.data.toList) = res := ⟨_, rfl⟩
  rw [hres]
  have HRes := Lib.hid hres
  clear hres
  generalize small s.data.toList = x at *
  go_enter Tryz.func53, Tryz.ntmps53
  go_wp2_with fail
  refine (rules_calls _).mono ?_
  rintro e w1 ⟨p, r, l, rfl, hst, hl, hb⟩
  have HS := Lib.hid hst
  have HB := Lib.hid hb
  have HL := Lib.hid hl
  clear hst hb hl
  go_wp2_with fail
  go_loopg [4] 3 (fun k kv wr => ∃ i : Nat, i ≤ 3 ∧ 3 - i ≤ k ∧ kv = .int .i64 i ∧ Hid (State wr p r l) ∧ Hid (Below w.heap.size w wr) ∧ Hid (∀ j : Nat, j < i → ruleIn allBases (x, (j : Int)) = none))
  case atStart => exact ⟨0, Nat.zero_le _, Nat.le_refl _, rfl, HS.out, HB.out, fun j hj => absurd hj (Nat.not_lt_zero _)⟩
  case round =>
    obtain ⟨i, hi, hk, rfl, hst, hb, hno⟩ := hrel
    by_cases hlt : i ≤ 2
    · go_wp2_with fail
      refine (hsm _).mono ?_
      rintro e w2 ⟨rfl, hb2⟩
      simp only [strV]
      have st2 := hst.out.below hb2
      have hb3 : Below w.heap.size w w2 := hb.out.trans (hb2.mono hb.out.size)
      have hlk := lookup_tab st2.tab (x, (i : Int))
      simp only [keyV] at hlk
      rcases seek_tab (x, (i : Int)) l 0 with ⟨h1, h2⟩ | ⟨b, kd, fv, nv, j, h1, h2, h3⟩
      · rw [h1] at hlk
        simp only at hlk
        rw [HL.out] at h2
        have Hno : Hid (∀ j : Nat, j < i + 1 → ruleIn allBases (x, (j : Int)) = none) := fun j hj => by
          rcases (by omega : j < i ∨ j = i) with h | rfl
          · exact hno.out j h
          · exact h2
        have HS3 := Lib.hid (st2.below (alloc_below w2 (.cells #[.string ⟨#[]⟩, .int .i64 0, .slice none 0 0, .nilFunc] 52)))
        have HB3 := Lib.hid (hb3.alloc hb3.size (.cells #[.string ⟨#[]⟩, .int .i64 0, .slice none 0 0, .nilFunc] 52))
        clear h1 h2 st2 hb2 hb3 hno hst hb
        go_wp2_with fail
        go_roundg (3 - (i + 1))
        case measure => omega
        case rel => exact ⟨i + 1, by omega, Nat.le_refl _, by go_num, HS3.out, HB3.out, Hno.out⟩
      · rw [h1] at hlk
        simp only [rowV] at hlk
        rw [HL.out] at h2
        have hf := st2.forms _ h3
        have hn := st2.norm _ h3
        simp only at hf hn
        have Hr := Lib.hid (rule_new w2 b kd fv nv hf hn)
        have HB3 := Lib.hid (hb3.alloc hb3.size (.cells #[.string (b.word ++ kd.word), .int .i64 kd.num, fv, nv] 52))
        have Hres : Hid (res = some (b, kd)) := by
          show res = _
          rw [← HRes.out]
          unfold ruleOf
          have hno := hno.out
          rcases (by omega : i = 0 ∨ i = 1 ∨ i = 2) with rfl | rfl | rfl
          · rw [show ((0 : Nat) : Int) = 0 from rfl] at h2; rw [h2]; rfl
          · have n0 := hno 0 (by omega)
            rw [show ((0 : Nat) : Int) = 0 from rfl] at n0
            rw [show ((1 : Nat) : Int) = 1 from rfl] at h2
            rw [n0, h2]; rfl
          · have n0 := hno 0 (by omega)
            have n1 := hno 1 (by omega)
            rw [show ((0 : Nat) : Int) = 0 from rfl] at n0
            rw [show ((1 : Nat) : Int) = 1 from rfl] at n1
            rw [show ((2 : Nat) : Int) = 2 from rfl] at h2
            rw [n0, n1, h2]; rfl
        obtain ⟨gf, cf, rfl, _⟩ := id hf
        obtain ⟨fn, a1, a2, rfl⟩ := hn.func
        clear h1 h2 h3 st2 hb2 hb3 hno hst hb hf hn
        go_wp2_with fail
        go_ret
        rw [Hres.out]
        exact ⟨_, rfl, Hr.out, HB3.out⟩
    · have ei : i = 3 := by omega
      subst ei
      have Hres : Hid (res = none) := by
        show res = _
        rw [← HRes.out]
        have n0 := hno.out 0 (by omega)
        have n1 := hno.out 1 (by omega)
        have n2 := hno.out 2 (by omega)
        unfold ruleOf
        rw [show ((0 : Nat) : Int) = 0 from rfl] at n0
        rw [show ((1 : Nat) : Int) = 1 from rfl] at n1
        rw [show ((2 : Nat) : Int) = 2 from rfl] at n2
        rw [n0, n1, n2]; rfl
      go_wp2_with fail
      go_ret
      rw [Hres.out]
      exact ⟨rfl, hb.out⟩
end Sy
end Go.Proofs.YthoealembhkaoaaGreatDoor
