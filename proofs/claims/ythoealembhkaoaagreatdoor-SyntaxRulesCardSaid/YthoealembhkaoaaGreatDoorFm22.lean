import Derived.Test.YthoealembhkaoaaGreatDoorFm01
import Derived.MapKept
import Derived.Test.YthoealembhkaoaaGreatDoorFm21
import Derived.Deep.Upon
namespace Go.Proofs.YthoealembhkaoaaGreatDoor
open Go.RowKit
namespace Sy
set_option linter.unusedVariables false

/-! A map whose keys are a name and a kind. -/
def keyV (k : List UInt8 × Int) : Value := .agg #[.string ⟨k.1.toArray⟩, .int .i64 k.2]
theorem fields95 : Tryz.prog.fieldsOf 95 = #[(Tryz.prog.fieldsOf 95)[0]!, (Tryz.prog.fieldsOf 95)[1]!] := by kernel_rfl
theorem eq_cells95 (a c : ByteArray) (i j : Int) (W : World) : (Op.equalIn 10000 95 (.agg #[.string a, .int .i64 i]) (.agg #[.string c, .int .i64 j])).run Tryz.prog W = .ok (a.toList == c.toList && i == j) W := by
  rw [run_equalIn_agg W 9999 95 _ _ (by kernel_rfl) (by kernel_rfl), fields95]
  simp [Op.eqFields, go_sem]
  split
  · by_cases h : i = j <;> simp_all
  · simp_all
theorem eq_key (a b : List UInt8 × Int) (W : World) : (Op.equal 95 (keyV a) (keyV b)).run Tryz.prog W = .ok (decide (a = b)) W := by
  obtain ⟨a1, a2⟩ := a
  obtain ⟨b1, b2⟩ := b
  unfold keyV
  rw [show Op.equal 95 = Op.equalIn 10000 95 from rfl, eq_cells95]
  congr 1
  rw [Bool.eq_iff_iff]
  simp [ByteArray.toList_eq]
theorem check_key (em : Bool) (k : List UInt8 × Int) (W : World) : (Instr.checkKey em 10000 95 (keyV k)).run Tryz.prog W = .ok () W := by
  have h9 : (Instr.checkKey em 9999 9 (.string ⟨k.1.toArray⟩)).run Tryz.prog W = .ok () W := MapKept.run_checkKey (d := .string) Tryz.underlying9 (k := .string ⟨k.1.toArray⟩) (by simp [MapKept.IsKey]) em 9998
  have h3 : (Instr.checkKey em 9999 3 (.int .i64 k.2)).run Tryz.prog W = .ok () W := MapKept.run_checkKey (d := .int .i64) Tryz.underlying3 (by simp [MapKept.IsKey]) em 9998
  unfold keyV
  rw [show (10000 : Nat) = 9999 + 1 from rfl, Instr.checkKey]
  simp only [Sem.run_bind, run_underlying Tryz.underlying95, Result.andThen_ok]
  rw [← Array.forIn_toList]
  simp [List.forIn_cons, Sem.run_bind, go_sem, h9, h3]

/-- What a table holds, entry by entry: key, value. -/
abbrev Tab := List ((List UInt8 × Int) × Value)
def Holds (es : List MapEntry) (t : Tab) : Prop := es.map (fun e => (e.key, e.val)) = t.map fun x => (keyV x.1, x.2)
/-- The first entry of a key: its place, its value. -/
def seek (k : List UInt8 × Int) : Tab → Nat → Option (Nat × Value)
  | [], _ => none
  | x :: t, i => if x.1 = k then some (i, x.2) else seek k t (i + 1)
theorem find_asking (k : List UInt8 × Int) (W : World) : ∀ (es : List MapEntry) (t : Tab) (i : Nat), Holds es t → (Instr.findAsking 95 (keyV k) es i).run Tryz.prog W = .ok (seek k t i) W
  | [], [], i, _ => rfl
  | [], _ :: _, _, h => by simp [Holds] at h
  | _ :: _, [], _, h => by simp [Holds] at h
  | e :: es, x :: t, i, h => by
    simp only [Holds, List.map_cons, List.cons.injEq, Prod.mk.injEq] at h
    obtain ⟨⟨h1, h2⟩, h3⟩ := h
    have ih := find_asking k W es t (i + 1) h3
    unfold Instr.findAsking seek
    simp only [Sem.run_bind, h1, eq_key, Result.andThen_ok]
    by_cases hx : k = x.1
    · subst hx; simp [h2]
    · have hx' : ¬ x.1 = k := fun e => hx e.symm
      simpa [hx, hx'] using ih
theorem find_key (k : List UInt8 × Int) (W : World) (es : List MapEntry) (t : Tab) (h : Holds es t) : (Instr.findKey 95 (keyV k) es).run Tryz.prog W = .ok (seek k t 0) W := by
  have ha := find_asking k W es t 0 h
  unfold Instr.findKey
  simp only [Sem.run_bind, run_underlying Tryz.underlying95, Result.andThen_ok]
  cases es with
  | nil =>
    cases t with
    | nil => rfl
    | cons _ _ => simp [Holds] at h
  | cons e es =>
    have : ∀ fs, Instr.findNow (.struct fs) (keyV k) (e :: es) 0 = none := fun fs => by
      simp [Instr.findNow, Instr.sameNow]
    rw [this]
    exact ha

/-- A table lies in a block. -/
def TabAt (w : World) (r : Nat) (t : Tab) : Prop := ∃ es clock, w.heap[r]? = some (.map es clock) ∧ Holds es.toList t
theorem TabAt.lt {w : World} {r : Nat} {t : Tab} (h : TabAt w r t) : r < w.heap.size := by
  obtain ⟨es, clock, h, _⟩ := h
  exact lt_of_block h
theorem lookup_tab {w : World} {r : Nat} {t : Tab} (h : TabAt w r t) (k : List UInt8 × Int) :
    (Instr.lookup 91 (.map (some r)) (keyV k) true).run Tryz.prog w = (match seek k t 0 with | some (_, v) => .ok (.tuple #[v, .bool true]) w | none => .ok (.tuple #[.agg #[.string ⟨#[]⟩, .int .i64 0, .slice none 0 0, Value.nilFunc], .bool false]) w) := by
  obtain ⟨es, clock, h, hh⟩ := h
  have hf := find_key k w es.toList t hh
  unfold Instr.lookup
  simp only [Sem.run_bind, run_underlying Tryz.underlying91, MapKept.run_getObj_map h, check_key, hf, Result.andThen_ok, Sem.run_pure]
  cases seek k t 0 with
  | none => simp only [Sem.run_bind, Tryz.zeroValue52, Result.andThen_ok, Sem.run_pure, if_true]
  | some x => simp only [Sem.run_bind, Sem.run_pure, Result.andThen_ok, if_true]
theorem update_tab {w : World} {r : Nat} {t : Tab} (h : TabAt w r t) (k : List UInt8 × Int) (hn : seek k t 0 = none) (v : Value) :
    ∃ w', (Instr.mapUpdate 91 (.map (some r)) (keyV k) v).run Tryz.prog w = .ok () w' ∧ TabAt w' r (t ++ [(k, v)]) ∧ w.grownBy w' (some r) := by
  obtain ⟨es, clock, h, hh⟩ := h
  have hf := find_key k w es.toList t hh
  rw [hn] at hf
  refine ⟨{ w with heap := w.heap.setIfInBounds r (.map (es.push { key := keyV k, val := v, born := clock }) (clock + 1)) }, ?_, ?_, ?_⟩
  · unfold Instr.mapUpdate
    simp only [Sem.run_bind, run_underlying Tryz.underlying91, MapKept.run_getObj_map h, check_key, hf, Result.andThen_ok]
    exact MapKept.run_setObj_map _ h
  · refine ⟨_, _, (MapKept.heap_set h).1, ?_⟩
    unfold Holds at hh ⊢
    simp [hh]
  · refine ⟨rfl, rfl, rfl, by simp, fun i _ hne => (MapKept.heap_set h).2 i (fun e => hne (by rw [e]))⟩
end Sy
end Go.Proofs.YthoealembhkaoaaGreatDoor
namespace Go.Proofs.YthoealembhkaoaaGreatDoor
open Go.RowKit
namespace Sy
set_option linter.unusedVariables false

/-- Kinds of rules. -/
inductive Kd | eq | ord | sub
def Kd.word : Kd → ByteArray
  | .eq => ⟨#[77, 97, 116, 99, 104]⟩
  | .ord => ⟨#[79, 114, 100, 101, 114, 105, 110, 103, 77, 97, 116, 99, 104]⟩
  | .sub => ⟨#[83, 117, 98, 115, 116, 114, 105, 110, 103, 115, 77, 97, 116, 99, 104]⟩
def Kd.num : Kd → Int
  | .eq => 0
  | .ord => 1
  | .sub => 2
def Kd.val (k : Kd) : Value := .string k.word
/-- A row of the table, and its key. -/
def rowV (n : ByteArray) (k : Kd) (fv nv : Value) : Value := .agg #[.string n, .int .i64 k.num, fv, nv]
def keyOf (b : ByteArray) (k : Kd) : List UInt8 × Int := (small (b ++ k.word).data.toList, k.num)
def entryOf (b : ByteArray) (fv nv : Value) (k : Kd) : (List UInt8 × Int) × Value := (keyOf b k, rowV (b ++ k.word) k fv nv)
/-- What a base's rules add. -/
def added (b : ByteArray) (fv nv : Value) (ks : List Kd) : Tab := (Kd.eq :: ks).map (entryOf b fv nv)
theorem seek_none {k : List UInt8 × Int} : ∀ {t : Tab} (i : Nat), k ∉ t.map (·.1) → seek k t i = none
  | [], _, _ => rfl
  | x :: t, i, h => by
    simp only [List.map_cons, List.mem_cons, not_or] at h
    simp only [seek, if_neg (fun e => h.1 (Eq.symm e)), seek_none (i + 1) h.2]
/-- A store into the table. -/
def putW (w : World) (r : Nat) (k v : Value) : World :=
  match w.heap[r]? with
  | some (.map es clock) => { w with heap := w.heap.setIfInBounds r (.map (es.push { key := k, val := v, born := clock }) (clock + 1)) }
  | _ => w
theorem put_tab {w : World} {r : Nat} {t : Tab} (h : TabAt w r t) (k : List UInt8 × Int) (hn : k ∉ t.map (·.1)) (v : Value) :
    (Instr.mapUpdate 91 (.map (some r)) (keyV k) v).run Tryz.prog w = .ok () (putW w r (keyV k) v) ∧ TabAt (putW w r (keyV k) v) r (t ++ [(k, v)]) ∧ w.grownBy (putW w r (keyV k) v) (some r) := by
  obtain ⟨es, clock, hb, hh⟩ := h
  have hf := find_key k w es.toList t hh
  rw [seek_none 0 hn] at hf
  have hp : putW w r (keyV k) v = { w with heap := w.heap.setIfInBounds r (.map (es.push { key := keyV k, val := v, born := clock }) (clock + 1)) } := by
    simp only [putW, hb]
  rw [hp]
  refine ⟨?_, ?_, ?_⟩
  · unfold Instr.mapUpdate
    simp only [Sem.run_bind, run_underlying Tryz.underlying91, MapKept.run_getObj_map hb, check_key, hf, Result.andThen_ok]
    exact MapKept.run_setObj_map _ hb
  · refine ⟨_, _, (MapKept.heap_set hb).1, ?_⟩
    unfold Holds at hh ⊢
    simp [hh]
  · refine ⟨rfl, rfl, rfl, by simp, fun i _ hne => (MapKept.heap_set hb).2 i (fun e => hne (by rw [e]))⟩
theorem TabAt.below {w w' : World} {r : Nat} {t : Tab} (h : TabAt w r t) (hb : Below w.heap.size w w') : TabAt w' r t := by
  have hl := h.lt
  obtain ⟨es, clock, h, hh⟩ := h
  exact ⟨es, clock, (hb.block r hl).trans h, hh⟩
theorem TabAt.ne_cell {w : World} {r : Nat} {t : Tab} (h : TabAt w r t) {p : Addr} {v : Value} (hp : w.cell? p = some v) : p.block ≠ r := by
  intro e
  obtain ⟨es, clock, h, _⟩ := h
  simp [World.cell?, e, h] at hp
/-- The words of a base's rules lie in a row. -/
def KdRow (w : World) (kv : Value) (ks : List Kd) : Prop := (kv = .slice none 0 0 ∧ ks = []) ∨ ∃ g c, kv = .slice (some ⟨g, 0, none⟩) ks.length c ∧ ∀ j (h : j < ks.length), w.cell? ⟨g, j, none⟩ = some ks[j].val
theorem wpList_append_kds {ops : Array Oper} {rest : List Oper} {o : Oper} {a : Act} {w : World} {Q : Exit → Act → World → Prop} (hgd : o.guard = none) (s x : Operand)
    (ho : o.op = .call { callee := .builtin .append, args := #[s, x], argTypes := #[29, 29] })
    (base : Nat) (g cap : Nat) (xs : List Value) (hs : a.eval s = .slice (some ⟨g, 0, none⟩) 1 cap) (hown : w.ownsRow base 9 1 (.slice (some ⟨g, 0, none⟩) 1 cap) 1 xs)
    (ks : List Kd) (hk : KdRow w (a.eval x) ks) (h2 : ks.length ≤ 2) (hbase : base ≤ w.heap.size) (hcap : 1 ≤ cap)
    (h : ∀ v' w', w'.ownsRow base 9 1 v' (1 + ks.length) (xs ++ ks.map Kd.val) → w.grownBy w' (some g) → wpList Tryz.prog ops Q rest (a.put o.dst v') w') : wpList Tryz.prog ops Q (o :: rest) a w := by
  obtain ⟨i0, hi0, hz0, hz1, hz2⟩ := info_parts info9
  rcases hk with ⟨hx, rfl⟩ | ⟨gk, c, hx, hc⟩
  · have hr := run_append_nothing (P := Tryz.prog) w 29 29 o.type 9 i0 Tryz.underlying29 hi0 (some ⟨g, 0, none⟩) 1 cap hcap (.slice none 0 0) (Src.ofNil w Tryz.underlying29 0)
    refine wpList_plain hgd fun _ hK => ?_
    unfold Oper.wp execOp
    simp only [ho, resolve, invoke, builtin, Sem.run_bind, Sem.run_pure, Result.andThen_ok, List.map_toArray, List.map_cons, List.map_nil, hs, hx, hr]
    exact hK _ _ (h _ _ (by simpa using hown) (Gr.refl g w))
  · refine wpList_append_own w hgd s x 29 ho base 9 i0 (.string ⟨#[]⟩) 1 16 Tryz.underlying29 hi0 hz0 hz1 hz2 rfl (by decide) _ _ _ hs hown ⟨gk, 0, none⟩ ks.length c (ks.map Kd.val) hx (by simp) ?_ ?_ (by unfold maxLen; omega) (by omega) hbase ?_
    · intro j u hu
      rw [List.getElem?_map] at hu
      obtain ⟨k, hk, rfl⟩ := Option.map_eq_some_iff.1 hu
      obtain ⟨hj, rfl⟩ := List.getElem?_eq_some_iff.1 hk
      have e : (⟨gk, 0, none⟩ : Addr).add j = ⟨gk, j, none⟩ := by cases j <;> simp [Addr.add]
      rw [e]; exact hc j hj
    · intro u hu
      obtain ⟨k, _, rfl⟩ := List.mem_map.1 hu
      rfl
    · intro v' w' h3 h4 _
      exact h v' w' h3 h4

theorem own_some2 {w : World} {base e size n : Nat} {v : Value} {xs : List Value} (h : w.ownsRow base e size v n xs) (hn : 0 < n) : ∃ g c, v = .slice (some ⟨g, 0, none⟩) n c ∧ base ≤ g ∧ g < w.heap.size := by
  have h0 := h
  rcases h.2 with ⟨_, h1⟩ | ⟨g, cap, cur, hv, hgb, hh, _⟩
  · omega
  · exact ⟨g, cap, hv, hgb, lt_of_block hh⟩
theorem TabAt.grown {w w' : World} {r g : Nat} {t : Tab} (h : TabAt w r t) (hg : w.grownBy w' (some g)) (hne : g ≠ r) : TabAt w' r t := by
  have hl := h.lt
  obtain ⟨es, clock, h, hh⟩ := h
  exact ⟨es, clock, (hg.block r hl (by simpa using fun e => hne e.symm)).trans h, hh⟩
theorem Gr.cell {w w' : World} {r : Nat} {a : Addr} {v : Value} (hg : w.grownBy w' (some r)) (h : w.cell? a = some v) (hne : a.block ≠ r) : w'.cell? a = some v := by
  have hb := hg.block a.block (World.block_lt_of_cell? _ _ h) (by simpa using hne)
  rw [World.cell?_of_block hb]; exact h
set_option maxRecDepth 100000 in
set_option maxHeartbeats 4000000 in
theorem put_calls (b : ByteArray) (fa : Option Addr) (fl fc : Nat) (fn : Fn) (a1 a2 : Array Value) (kv : Value) (ks : List Kd) (p : Addr) (r : Nat) (t : Tab) (w : World)
    (hp : w.cell? p = some (.map (some r))) (ht : TabAt w r t) (hk : KdRow w kv ks) (hks : ks.length ≤ 2) (hb : b.size ≤ 1000)
    (hn : (t.map (·.1) ++ (Kd.eq :: ks).map (keyOf b)).Nodup) :
    Calls Tryz.prog 130 #[.string b, .slice fa fl fc, .func fn a1 a2, kv, .pointer (some p)] w fun e w' =>
      e = .returned (.tuple #[]) ∧ TabAt w' r (t ++ added b (.slice fa fl fc) (.func fn a1 a2) ks) ∧ w.grownBy w' (some r) := by
  obtain ⟨i0, hi0, hz0, hz1, hz2⟩ := info_parts info9
  have hpr := ht.ne_cell hp
  have hplt := World.block_lt_of_cell? _ _ hp
  have hrlt := ht.lt
  obtain ⟨al, hal⟩ : ∃ al, Kd.eq :: ks = al := ⟨_, rfl⟩
  have hall : al.length = 1 + ks.length := by rw [← hal]; simp; omega
  have hvals : [Value.string ⟨#[77, 97, 116, 99, 104]⟩] ++ ks.map Kd.val = al.map Kd.val := by rw [← hal]; rfl
  unfold added
  rw [hal] at hn ⊢
  have HN := Lib.hid hn
  have HT := Lib.hid ht
  have HK : Hid (KdRow (w.alloc (.cells #[.string ⟨#[77, 97, 116, 99, 104]⟩] 9)) kv ks) := by
    rcases hk with h | ⟨gk, c, hx, hc⟩
    · exact .inl h
    · refine .inr ⟨gk, c, hx, fun j hj => ?_⟩
      have := hc j hj
      exact (Below.cell ((Below.refl w.heap.size w).alloc (Nat.le_refl _) _) (World.block_lt_of_cell? _ _ this)).trans this
  clear hn ht hk
  go_enter Tryz.func130, Tryz.ntmps130
  go_wp2_with (at_builtin; refine wpList_append_kds rfl _ _ rfl w.heap.size w.heap.size 1 [.string ⟨#[77, 97, 116, 99, 104]⟩] rfl (own_new w w.heap.size #[.string ⟨#[77, 97, 116, 99, 104]⟩] 9 1 1 (Nat.le_refl _) (by decide) rfl) ks HK.out hks (by simp) (Nat.le_refl _) ?_; intro v7 w7 hown7 hgr7; rw [hvals, ← hall] at hown7; obtain ⟨g7, c7, rfl, hg7, hl7⟩ := own_some2 hown7 (by omega))
  have H7 := Lib.hid hown7
  have hgr : w.grownBy w7 (some r) := by
    have h1 : Below w.heap.size w (w.alloc (.cells #[.string ⟨#[77, 97, 116, 99, 104]⟩] 9)) := (Below.refl _ _).alloc (Nat.le_refl _) _
    have h2 : Below w.heap.size w w7 := h1.grown hgr7 (by simp) (fun k hk => by injection hk with hk; omega)
    exact Gr.of_below r h2
  have HT7 : Hid (TabAt w7 r t) := by
    refine (HT.out.below ((Below.refl _ _).alloc (Nat.le_refl _) _)).grown hgr7 (by omega)
  have HG := Lib.hid hgr
  clear hown7 hgr7 hgr
  go_wp2_with fail
  go_loopg [16] al.length (fun k iv wr => ∃ i : Nat, i ≤ al.length ∧ al.length - i ≤ k ∧ iv = .int .i64 i ∧ Hid (TabAt wr r (t ++ (al.take i).map (entryOf b (.slice fa fl fc) (.func fn a1 a2)))) ∧ Hid (w.grownBy wr (some r)) ∧ Hid (wr.ownsRow w.heap.size 9 1 (.slice (some ⟨g7, 0, none⟩) al.length c7) al.length (al.map Kd.val)))
  case atStart => exact ⟨0, Nat.zero_le _, Nat.le_refl _, rfl, by show TabAt _ _ _; simpa using HT7.out, HG.out, H7.out⟩
  case round =>
    obtain ⟨i, hi, hk, rfl, htab, hgr, hown⟩ := hrel
    by_cases hlt : i < al.length
    · have c0 : wr.cell? ⟨g7, i, none⟩ = some al[i].val := own_cells hown.out i _ (by simp [hlt])
      have cp : wr.cell? p = some (.map (some r)) := Gr.cell hgr.out hp hpr
      have hkey : keyOf b al[i] ∉ (t ++ (al.take i).map (entryOf b (.slice fa fl fc) (.func fn a1 a2))).map (·.1) := by
        have hn := HN.out
        rw [← List.take_append_drop i al, List.map_append, ← List.append_assoc, List.drop_eq_getElem_cons hlt, List.map_cons] at hn
        have := (List.nodup_append.1 hn).2.2
        intro hm
        rw [List.map_append, List.map_map] at hm
        exact this _ hm _ (.head _) rfl
      have hS : ∀ V, Below wr.heap.size wr V → V.cell? p = some (.map (some r)) ∧ TabAt V r (t ++ (al.take i).map (entryOf b (.slice fa fl fc) (.func fn a1 a2))) ∧ V.ownsRow w.heap.size 9 1 (.slice (some ⟨g7, 0, none⟩) al.length c7) al.length (al.map Kd.val) := fun V hV => ⟨(hV.cell (World.block_lt_of_cell? _ _ cp)).trans cp, htab.out.below hV, own_below hown.out hV⟩
      have Hnext : Hid ((al.take (i + 1)).map (entryOf b (.slice fa fl fc) (.func fn a1 a2)) = (al.take i).map (entryOf b (.slice fa fl fc) (.func fn a1 a2)) ++ [entryOf b (.slice fa fl fc) (.func fn a1 a2) al[i]]) := by
        show _ = _
        rw [List.take_succ_eq_append_getElem hlt, List.map_append]; rfl
      have Hkey := Lib.hid hkey
      have HS := Lib.hid hS
      clear hkey hS
      generalize al[i] = kd at *
      have Hput : Hid (∀ V, Below wr.heap.size wr V → V.cell? p = some (.map (some r)) ∧ (Instr.mapUpdate 91 (.map (some r)) (keyV (keyOf b kd)) (rowV (b ++ kd.word) kd (.slice fa fl fc) (.func fn a1 a2))).run Tryz.prog V = .ok () (putW V r (keyV (keyOf b kd)) (rowV (b ++ kd.word) kd (.slice fa fl fc) (.func fn a1 a2))) ∧ (putW V r (keyV (keyOf b kd)) (rowV (b ++ kd.word) kd (.slice fa fl fc) (.func fn a1 a2))).cell? p = some (.map (some r))) := fun V hV => ⟨(HS.out V hV).1, (put_tab (HS.out V hV).2.1 _ Hkey.out _).1, Gr.cell (put_tab (HS.out V hV).2.1 _ Hkey.out _).2.2 (HS.out V hV).1 hpr⟩
      have Hdone : Hid (∀ V, Below wr.heap.size wr V → TabAt (putW V r (keyV (keyOf b kd)) (rowV (b ++ kd.word) kd (.slice fa fl fc) (.func fn a1 a2))) r (t ++ (al.take (i + 1)).map (entryOf b (.slice fa fl fc) (.func fn a1 a2))) ∧ w.grownBy (putW V r (keyV (keyOf b kd)) (rowV (b ++ kd.word) kd (.slice fa fl fc) (.func fn a1 a2))) (some r) ∧ (putW V r (keyV (keyOf b kd)) (rowV (b ++ kd.word) kd (.slice fa fl fc) (.func fn a1 a2))).ownsRow w.heap.size 9 1 (.slice (some ⟨g7, 0, none⟩) al.length c7) al.length (al.map Kd.val)) := fun V hV => by
        obtain ⟨_, h2, h3⟩ := HS.out V hV
        obtain ⟨_, h4, h5⟩ := put_tab h2 _ Hkey.out (rowV (b ++ kd.word) kd (.slice fa fl fc) (.func fn a1 a2))
        refine ⟨?_, Gr.trans hgr.out (Gr.trans (Gr.of_below r hV) h5), h3.kept h5 (.inr (by simp [Value.ownBlock]; omega))⟩
        rw [Hnext.out, ← List.append_assoc]
        exact h4
      have e1 : kd.word.size ≤ 15 := by cases kd <;> decide
      have q1 : b.size ≤ 9223372036854775802 := by omega
      have q2 : b.size ≤ 9223372036854775794 := by omega
      have q3 : b.size ≤ 9223372036854775792 := by omega
      have r1 : ¬ 9223372036854775807 < b.size + 5 := by omega
      have r2 : ¬ 9223372036854775807 < b.size + 13 := by omega
      have r3 : ¬ 9223372036854775807 < b.size + 15 := by omega
      have hsm := fun W => small_calls (b ++ kd.word) W (by rw [ByteArray.size_append]; omega)
      clear Hkey Hnext HS e1
      cases kd with
      | eq =>
        simp only [Kd.val, Kd.word, keyOf, rowV, keyV, Kd.num] at c0 Hput Hdone hsm
        generalize small (b ++ ⟨#[77, 97, 116, 99, 104]⟩).data.toList = sk at *
        go_wp2_with fail
        have hput := Hput.out
        go_region_held3 (fun V : World => V.cell? p = some (.map (some r))) (first | exact (hput _ (Below.refl _ _).drew).1 | exact (hput _ ((Below.refl _ _).drew.trans (by simpa using hb9))).1 | exact (hput _ ((Below.refl _ _).drew.trans (by simpa using hb9))).2.2) (first | (go_at_call 91; refine (hsm _).mono ?_; rintro e w9 ⟨rfl, hb9⟩; have hp9 := (hput w9 ((Below.refl _ _).drew.trans (by simpa using hb9))).2.1; simp only [strV]))
        all_goals
          have hdn := Hdone.out w9 ((Below.refl _ _).drew.trans (by simpa using hb9))
          clear hput Hput Hdone hb9 hsm c0 hp9
          generalize putW w9 r (.agg #[.string ⟨sk.toArray⟩, .int .i64 0]) (.agg #[.string (b ++ ⟨#[77, 97, 116, 99, 104]⟩), .int .i64 0, .slice fa fl fc, .func fn a1 a2]) = wz at *
          have D1 := Lib.hid hdn.1
          have D2 := Lib.hid hdn.2.1
          have D3 := Lib.hid hdn.2.2
          clear hdn
          go_wp2_with fail
          go_roundg (al.length - (i + 1))
          case measure => omega
          case rel => exact ⟨i + 1, by omega, Nat.le_refl _, by go_num, D1.out, D2.out, D3.out⟩
      | ord =>
        simp only [Kd.val, Kd.word, keyOf, rowV, keyV, Kd.num] at c0 Hput Hdone hsm
        generalize small (b ++ ⟨#[79, 114, 100, 101, 114, 105, 110, 103, 77, 97, 116, 99, 104]⟩).data.toList = sk at *
        go_wp2_with fail
        have hput := Hput.out
        go_region_held3 (fun V : World => V.cell? p = some (.map (some r))) (first | exact (hput _ (Below.refl _ _).drew).1 | exact (hput _ ((Below.refl _ _).drew.trans (by simpa using hb9))).1 | exact (hput _ ((Below.refl _ _).drew.trans (by simpa using hb9))).2.2) (first | (go_at_call 91; refine (hsm _).mono ?_; rintro e w9 ⟨rfl, hb9⟩; have hp9 := (hput w9 ((Below.refl _ _).drew.trans (by simpa using hb9))).2.1; simp only [strV]))
        all_goals
          have hdn := Hdone.out w9 ((Below.refl _ _).drew.trans (by simpa using hb9))
          clear hput Hput Hdone hb9 hsm c0 hp9
          generalize putW w9 r (.agg #[.string ⟨sk.toArray⟩, .int .i64 1]) (.agg #[.string (b ++ ⟨#[79, 114, 100, 101, 114, 105, 110, 103, 77, 97, 116, 99, 104]⟩), .int .i64 1, .slice fa fl fc, .func fn a1 a2]) = wz at *
          have D1 := Lib.hid hdn.1
          have D2 := Lib.hid hdn.2.1
          have D3 := Lib.hid hdn.2.2
          clear hdn
          go_wp2_with fail
          go_roundg (al.length - (i + 1))
          case measure => omega
          case rel => exact ⟨i + 1, by omega, Nat.le_refl _, by go_num, D1.out, D2.out, D3.out⟩
      | sub =>
        simp only [Kd.val, Kd.word, keyOf, rowV, keyV, Kd.num] at c0 Hput Hdone hsm
        generalize small (b ++ ⟨#[83, 117, 98, 115, 116, 114, 105, 110, 103, 115, 77, 97, 116, 99, 104]⟩).data.toList = sk at *
        go_wp2_with fail
        have hput := Hput.out
        go_region_held3 (fun V : World => V.cell? p = some (.map (some r))) (first | exact (hput _ (Below.refl _ _).drew).1 | exact (hput _ ((Below.refl _ _).drew.trans (by simpa using hb9))).1 | exact (hput _ ((Below.refl _ _).drew.trans (by simpa using hb9))).2.2) (first | (go_at_call 91; refine (hsm _).mono ?_; rintro e w9 ⟨rfl, hb9⟩; have hp9 := (hput w9 ((Below.refl _ _).drew.trans (by simpa using hb9))).2.1; simp only [strV]))
        all_goals
          have hdn := Hdone.out w9 ((Below.refl _ _).drew.trans (by simpa using hb9))
          clear hput Hput Hdone hb9 hsm c0 hp9
          generalize putW w9 r (.agg #[.string ⟨sk.toArray⟩, .int .i64 2]) (.agg #[.string (b ++ ⟨#[83, 117, 98, 115, 116, 114, 105, 110, 103, 115, 77, 97, 116, 99, 104]⟩), .int .i64 2, .slice fa fl fc, .func fn a1 a2]) = wz at *
          have D1 := Lib.hid hdn.1
          have D2 := Lib.hid hdn.2.1
          have D3 := Lib.hid hdn.2.2
          clear hdn
          go_wp2_with fail
          go_roundg (al.length - (i + 1))
          case measure => omega
          case rel => exact ⟨i + 1, by omega, Nat.le_refl _, by go_num, D1.out, D2.out, D3.out⟩
    · have ei : i = al.length := by omega
      subst ei
      go_wp2_with fail
      go_end0
      refine ⟨rfl, ?_, hgr.out⟩
      have := htab.out
      rwa [List.take_of_length_le (Nat.le_refl _)] at this
end Sy
end Go.Proofs.YthoealembhkaoaaGreatDoor
