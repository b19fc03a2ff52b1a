import Derived.Test.YthoealembhkaoaaGreatDoorFm12
import Derived.Deep.RegionLaw
namespace Go.Proofs.YthoealembhkaoaaGreatDoor
open Go.RowKit
namespace Sy
set_option linter.unusedVariables false

def smallB (b : UInt8) : UInt8 := if 65 ≤ b.toNat ∧ b.toNat ≤ 90 then b + 32 else b
def small (l : List UInt8) : List UInt8 := l.map smallB
/-- The bytes of a block made out of a text. -/
def BR (w : World) (g : Nat) (l : List UInt8) : Prop := ∃ cur : Array Value, w.heap[g]? = some (.cells cur 5 (cur.size, cur.size + 1)) ∧ l.length ≤ cur.size ∧ ∀ j (h : j < l.length), cur[j]? = some (.int .u8 (l[j].toNat : Int))
theorem BR.cell {w : World} {g : Nat} {l : List UInt8} (h : BR w g l) (j : Nat) (hj : j < l.length) : w.cell? ⟨g, j, none⟩ = some (.int .u8 (l[j].toNat : Int)) := by
  obtain ⟨cur, hh, hl, hc⟩ := h
  simp [World.cell?, hh, hc j hj]
theorem BR.frozen {w : World} {g : Nat} {l : List UInt8} (h : BR w g l) (j : Nat) (hj : j < l.length) : w.frozen? ⟨g, j, none⟩ = false := by
  obtain ⟨cur, hh, hl, hc⟩ := h
  simp [World.frozen?, hh]
  intro _; omega
theorem BR.set {w : World} {g : Nat} {l : List UInt8} (h : BR w g l) (j : Nat) (hj : j < l.length) (x : UInt8) : BR (w.setCell ⟨g, j, none⟩ (.int .u8 (x.toNat : Int))) g (l.set j x) := by
  obtain ⟨cur, hh, hl, hc⟩ := h
  refine ⟨cur.setIfInBounds j (.int .u8 (x.toNat : Int)), ?_, by simpa using hl, ?_⟩
  · simp [World.setCell, Array.getElem?_modify, hh]
  · intro k hk
    simp at hk
    by_cases e : j = k
    · subst e
      rw [Array.getElem?_setIfInBounds_self_of_lt (by omega)]
      simp
    · rw [Array.getElem?_setIfInBounds_ne e, hc k hk]
      simp [List.getElem_set_ne e]
theorem BR.new (w : World) (s : ByteArray) (cap : Nat) : BR (w.alloc (.cells (bytesRow s cap) 5 ((bytesRow s cap).size, (bytesRow s cap).size + 1))) w.heap.size s.data.toList := by
  refine ⟨bytesRow s cap, ?_, ?_, ?_⟩
  · show (w.heap.push _)[w.heap.size]? = _
    simp
  · simp [bytesRow]
  · intro j hj
    simp at hj
    unfold bytesRow
    rw [Array.getElem?_append_left (by simpa using hj)]
    simp [hj]
theorem BR.back {w : World} {g : Nat} {l : List UInt8} (h : BR w g l) (c : Nat) : (convert 88 9 (.slice (some ⟨g, 0, none⟩) l.length c)).run Tryz.prog w = .ok (.string ⟨l.toArray⟩) w :=
  run_convert_bytes_back (P := Tryz.prog) w 88 9 5 ⟨g, 0, none⟩ c l Tryz.underlying88 Tryz.underlying5 Tryz.underlying9 (fun j hj => by cases j <;> simpa [Addr.add] using h.cell _ hj)
/-- What lies behind i rounds. -/
def smallAt (l : List UInt8) (i : Nat) : List UInt8 := (l.take i).map smallB ++ l.drop i
theorem smallAt_length (l : List UInt8) (i : Nat) : (smallAt l i).length = l.length := by simp [smallAt]; omega
theorem smallAt_get (l : List UInt8) (i : Nat) (h : i < l.length) : (smallAt l i)[i]'(by rw [smallAt_length]; exact h) = l[i] := by
  simp [smallAt, List.getElem_append_right, Nat.min_eq_left (Nat.le_of_lt h)]
theorem smallAt_next (l : List UInt8) (i : Nat) (h : i < l.length) : (smallAt l i).set i (smallB l[i]) = smallAt l (i + 1) := by
  unfold smallAt
  rw [List.set_append_right _ _ (by simp; omega)]
  have e : i - (List.map smallB (l.take i)).length = 0 := by simp; omega
  rw [e, List.drop_eq_getElem_cons h, List.set_cons_zero, List.take_succ_eq_append_getElem h, List.map_append]
  simp
theorem smallAt_same (l : List UInt8) (i : Nat) (h : i < l.length) (hs : smallB l[i] = l[i]) : smallAt l i = smallAt l (i + 1) := by
  rw [← smallAt_next l i h, hs]
  apply List.ext_getElem (by simp)
  intro k h1 h2
  by_cases e : i = k
  · subst e; simp [smallAt_get l i h]
  · rw [List.getElem_set_ne e]
set_option maxRecDepth 100000 in
set_option maxHeartbeats 4000000 in
theorem small_calls (s : ByteArray) (w : World) (hs : s.size ≤ 9223372036854775807) :
    Calls Tryz.prog 91 #[.string s] w fun e w' => e = .returned (strV (small s.data.toList)) ∧ Below w.heap.size w w' := by
  have hcv := run_bytes_of_string (P := Tryz.prog) w 9 88 5 s Tryz.underlying9 Tryz.underlying88 Tryz.underlying5
  have hB0 := BR.new w.drew s (grownCap w s.size 0 5)
  have hb0 : Below w.heap.size w (w.drew.alloc (.cells (bytesRow s (grownCap w s.size 0 5)) 5 ((bytesRow s (grownCap w s.size 0 5)).size, (bytesRow s (grownCap w s.size 0 5)).size + 1))) := (Below.refl _ _).drew.alloc (Nat.le_refl _) _
  obtain ⟨w1, hw1⟩ : ∃ w1, w1 = w.drew.alloc (.cells (bytesRow s (grownCap w s.size 0 5)) 5 ((bytesRow s (grownCap w s.size 0 5)).size, (bytesRow s (grownCap w s.size 0 5)).size + 1)) := ⟨_, rfl⟩
  rw [← hw1] at hcv hB0 hb0
  clear hw1
  generalize grownCap w s.size 0 5 = cap at *
  obtain ⟨g, hg⟩ : ∃ g, g = w.heap.size := ⟨_, rfl⟩
  rw [show w.drew.heap.size = g from hg.symm] at hB0
  rw [← hg] at hcv hb0 ⊢
  have HB := Lib.hid hB0
  have HW := Lib.hid hb0
  clear hg hB0 hb0
  go_enter Tryz.func91, Tryz.ntmps91
  go_wp2_with fail
  go_loopg [10] s.size (fun k iv wr => ∃ i : Nat, i ≤ s.size ∧ s.size - i ≤ k ∧ iv = .int .i64 i ∧ Hid (BR wr g (smallAt s.data.toList i)) ∧ Hid (Below g w wr))
  case atStart => exact ⟨0, Nat.zero_le _, Nat.le_refl _, rfl, by show BR _ _ _; simpa [smallAt] using HB.out, HW.out⟩
  case round =>
    obtain ⟨i, hi, hk, rfl, hb, hw⟩ := hrel
    have hsl : s.data.toList.length = s.size := by simp
    by_cases hlt : i < s.size
    · have hj : i < s.data.toList.length := by omega
      have hjl : i < (smallAt s.data.toList i).length := by rw [smallAt_length]; exact hj
      have c0 := hb.out.cell i hjl
      have f0 := hb.out.frozen i hjl
      rw [smallAt_get _ _ hj] at c0
      have hN := Lib.hid (smallAt_next s.data.toList i hj)
      have hS := fun h => Lib.hid (smallAt_same s.data.toList i hj h)
      have hset := fun x => Lib.hid (hb.out.set i hjl x)
      have hbl := byte_le (s.data.toList[i])
      generalize s.data.toList[i] = c at *
      by_cases hc : 65 ≤ c.toNat ∧ c.toNat ≤ 90
      · have q1 : (65 : Int) ≤ (c.toNat : Int) := by omega
        have q2 : (c.toNat : Int) ≤ 90 := by omega
        have hsm : smallB c = c + 32 := by simp [smallB, hc]
        have hv : ((c + 32 : UInt8).toNat : Int) = (c.toNat : Int) + 32 := by
          have : (c + 32 : UInt8).toNat = c.toNat + 32 := by rw [UInt8.toNat_add]; simp; omega
          omega
        have B2 : Hid (BR (wr.setCell ⟨g, i, none⟩ (.int .u8 ((c.toNat : Int) + 32))) g (smallAt s.data.toList (i + 1))) := by
          have := (hset (c + 32)).out
          rw [hv, ← hsm, hN.out] at this
          exact this
        have W2 : Hid (Below g w (wr.setCell ⟨g, i, none⟩ (.int .u8 ((c.toNat : Int) + 32)))) := hw.out.setCell (Nat.le_refl _) _
        clear hset hN hS hsm hv
        go_wp2_with fail
        go_roundg (s.size - (i + 1))
        case measure => omega
        case rel => exact ⟨i + 1, by omega, Nat.le_refl _, by go_num, B2.out, W2.out⟩
      · have hsm : smallB c = c := by simp [smallB, hc]
        have B2 : Hid (BR wr g (smallAt s.data.toList (i + 1))) := by
          have := hb.out
          rw [(hS hsm).out] at this
          exact this
        clear hset hN hS hsm
        by_cases q1 : (65 : Int) ≤ (c.toNat : Int)
        · have q2 : ¬ (c.toNat : Int) ≤ 90 := by omega
          go_wp2_with fail
          go_roundg (s.size - (i + 1))
          case measure => omega
          case rel => exact ⟨i + 1, by omega, Nat.le_refl _, by go_num, B2.out, hw.out⟩
        · go_wp2_with fail
          go_roundg (s.size - (i + 1))
          case measure => omega
          case rel => exact ⟨i + 1, by omega, Nat.le_refl _, by go_num, B2.out, hw.out⟩
    · have hcv2 := hb.out.back cap
      rw [smallAt_length, hsl] at hcv2
      have he : smallAt s.data.toList i = small s.data.toList := by
        simp only [smallAt, small]
        rw [List.take_of_length_le (by omega), List.drop_of_length_le (by omega)]; simp
      have He := Lib.hid he
      clear he
      go_wp2_with fail
      go_ret
      exact ⟨by rw [He.out]; rfl, hw.out⟩
end Sy
end Go.Proofs.YthoealembhkaoaaGreatDoor
namespace Go.Proofs.YthoealembhkaoaaGreatDoor
open Go.RowKit
namespace Sy
set_option linter.unusedVariables false

def pairT (q : Pair) : List UInt8 := q.1 ++ [61] ++ writtenR q.2
def rowT (r : List Pair) : List UInt8 := Lib.join (r.map pairT) [43]
def dnT (d : List (List Pair)) : List UInt8 := Lib.join (d.map rowT) [44]
def badRow (r : List Pair) : Bool := r.isEmpty || r.any fun q => !isType q.1
/-- A name, written. -/
def printR (d : List (List Pair)) : Option (List UInt8) × Int :=
  if d.any badRow then (none, 30) else if tooLong d then (none, 2) else if 65536 < (dnT d).length then (none, 2) else (some (dnT d), 0)
def printV (r : Option (List UInt8) × Int) : Value := .tuple #[strV (r.1.getD []), .int .i64 r.2]
/-- The lengths that the walk of a print leans on. -/
def Tight (d : List (List Pair)) : Prop := d.length ≤ 100000 ∧ ∀ r ∈ d, r.length ≤ 100000 ∧ ∀ q ∈ r, q.1.length ≤ 100000 ∧ q.2.length ≤ 1000000
theorem Tight.modest {d : List (List Pair)} (h : Tight d) : Modest d := ⟨by have := h.1; omega, fun r hr => ⟨by have := (h.2 r hr).1; omega, fun q hq => by have := (h.2 r hr).2 q hq; omega⟩⟩

theorem join_le (sep : List UInt8) (m : Nat) : ∀ l : List (List UInt8), (∀ x ∈ l, x.length ≤ m) → (Lib.join l sep).length ≤ l.length * (m + sep.length)
  | [], _ => by simp [Lib.join]
  | [x], h => by have := h x (by simp); simp [Lib.join]; omega
  | x :: y :: l, h => by
    have h1 := h x (by simp)
    have h2 := join_le sep m (y :: l) (fun z hz => h z (by simp [hz]))
    have e1 : Lib.join (x :: y :: l) sep = x ++ (sep ++ Lib.join (y :: l) sep) := by simp [Lib.join, List.intercalate]
    rw [e1]
    simp only [List.length_append, List.length_cons] at h2 ⊢
    have : (l.length + 1 + 1) * (m + sep.length) = (l.length + 1) * (m + sep.length) + (m + sep.length) := by rw [Nat.add_mul, Nat.one_mul]
    omega
theorem writtenR_len (l : List UInt8) : (writtenR l).length ≤ 3 * l.length + 1 := by
  unfold writtenR
  split
  · have := wrL_len true l; omega
  · have := hexed_length l; simp; omega

theorem notType_calls (q : Pair) (w : World) (hq : q.1.length < 4294967281) (he : Env w) :
    Calls Tryz.prog 181 #[avaV q] w fun e w' => e = .returned (.bool (!isType q.1)) ∧ Below w.heap.size w w' := by
  unfold avaV strV
  have hE := Lib.hid he
  have hc := fun o => isType_calls ⟨q.1.toArray⟩ (w.alloc o) (by show q.1.toArray.size < _; simpa using hq) (hE.out.below ((Below.refl _ _).alloc (Nat.le_refl _) o))
  dsimp only at hc
  generalize isType q.1 = b at *
  go_enter Tryz.func181, Tryz.ntmps181
  go_wp2_with fail
  refine (hc _).mono ?_
  rintro e w1 ⟨rfl, hb⟩
  clear hc
  go_wp2_with fail
  go_ret
  exact ⟨rfl, ((Below.refl _ _).alloc (Nat.le_refl _) _).trans (hb.mono (by simp))⟩
/-- append to a row of the call's own, as one step of a region that draws. -/
theorem step_append_own {P : Program} {ops : Array Oper} {o : Oper} {a : Act} {w : World} {K : Act → World → Prop} {Q : Exit → Act → World → Prop} {E : Prop}
    (hg : o.guard = none) (s x : Operand) (t : TypeId) (hop : o.op = Op.call { callee := Callee.builtin Builtin.append, args := #[s, x], argTypes := #[t, t] })
    (base : Nat) (e : TypeId) (i : TypeInfo) (z : Value) (size bytes : Nat) (ht : P.underlying t = some (.slice e)) (hi : P.info? e = some i) (hz : i.zero = some z)
    (hsize : i.size = size) (hby : i.bytes = bytes) (hzs : z.cells.size = size) (hsz : 0 < size)
    (v : Value) (n : Nat) (xs : List Value) (hs : a.eval s = v) (hown : w.ownsRow base e size v n xs)
    (ad : Addr) (m c : Nat) (news : List Value) (hx : a.eval x = .slice (some ad) m c) (hl : news.length = m * size) (hnews : ∀ j u, news[j]? = some u → w.cell? (ad.add j) = some u) (h1 : ∀ u ∈ news, u.oneCell' = true)
    (h63 : n + m ≤ maxLen) (hbytes : (n + m) * bytes ≤ 140737488355328) (hbase : base ≤ w.heap.size)
    (hK : ∀ v' w', w'.ownsRow base e size v' (n + m) (xs ++ news) → w.grownBy w' v.ownBlock → (v' = .slice none 0 0 ↔ v = .slice none 0 0 ∧ m = 0) → K (a.put o.dst v') w') :
    if Region.wanted o (yielded ops a.tmps) = true then Oper.wp P o a w K Q else E := by
  have hw : Region.wanted o (yielded ops a.tmps) = true := by simp [Region.wanted, hg]
  rw [if_pos hw]
  obtain ⟨v', w', hrun, r1, r2, r3⟩ := run_append_own (P := P) w base t o.type e i z size bytes ht hi hz hsize hby hzs hsz v n xs hown ad m c news hl hnews h1 h63 hbytes hbase
  unfold Oper.wp
  simp [execOp, hop, resolve, invoke, builtin, hs, hx, hrun, Result.andThen]
  exact hK v' w' r1 r2 r3
theorem info9 : (Tryz.prog.info? 9).map (fun i => (i.zero, i.size, i.bytes)) = some (some (.string ⟨#[]⟩), 1, 16) := by kernel_rfl
theorem join_own (W : World) (base : Nat) (v : Value) (xs : List (List UInt8)) (c : UInt8) (ho : W.ownsRow base 9 1 v xs.length (xs.map strV)) (hn : xs.length ≤ 100000) (hl : (Lib.join xs [c]).length ≤ 140737488355328) :
    Calls Tryz.prog 183 #[v, .string ⟨#[c]⟩] W fun e w' => e = .returned (strV (Lib.join xs [c])) ∧ Below W.heap.size W w' := by
  rcases ho.2 with ⟨rfl, h0⟩ | ⟨g, cap, cur, rfl, hgb, hh, hnc, hcm, hsz, htk⟩
  · have hx : xs = [] := List.length_eq_zero_iff.1 h0
    subst hx
    exact (Tryz.strings_Join_none none 0 ⟨#[c]⟩ W).mono fun e w' h => ⟨by rw [h.1]; rfl, by rw [h.2]; exact Below.refl _ _⟩
  · have hmap : (xs.map fun x => (⟨x.toArray⟩ : ByteArray)).map (fun b => b.data.toList) = xs := by
      rw [List.map_map]
      exact List.map_id' xs
    have h := Tryz.strings_Join g 0 cap (xs.map fun x => (⟨x.toArray⟩ : ByteArray)) ⟨#[c]⟩ W (fun j x hj => by
      rw [List.getElem?_map] at hj
      cases hx : xs[j]? with
      | none => rw [hx] at hj; cases hj
      | some y =>
        rw [hx] at hj
        have e : (⟨y.toArray⟩ : ByteArray) = x := by simpa using hj
        rw [← e, Nat.zero_add]
        exact own_cells ho j _ (by rw [List.getElem?_map, hx]; rfl)) (ho.lt g rfl).2 (by simp; omega) (by simpa using hnc) (by rw [hmap]; exact hl)
    rw [hmap, List.length_map] at h
    exact h
theorem OwnDn.below {w w' : World} {base : Nat} {v : Value} {d : List (List Pair)} (h : OwnDn w base v d) (hb : Below w.heap.size w w') : OwnDn w' base v d := by
  obtain ⟨vs, h1, h2⟩ := h
  exact ⟨vs, own_below h1 hb, h2.below hb⟩
theorem OwnDn.get {w : World} {base : Nat} {v : Value} {d : List (List Pair)} (h : OwnDn w base v d) (k : Nat) (hk : k < d.length) : ∃ g c u, v = .slice (some ⟨g, 0, none⟩) d.length c ∧ w.cell? ⟨g, k, none⟩ = some u ∧ OwnRdn w base u d[k] := by
  obtain ⟨vs, h1, h2⟩ := h
  obtain ⟨u, hu, ho⟩ := h2.get k hk
  rcases h1.2 with ⟨rfl, h0⟩ | ⟨g, c, cur, rfl, _⟩
  · omega
  · exact ⟨g, c, u, rfl, own_cells h1 k u hu, ho⟩
set_option maxRecDepth 100000 in
set_option maxHeartbeats 4000000 in
theorem print_calls (w : World) (base : Nat) (v : Value) (d : List (List Pair)) (ho : OwnDn w base v d) (ht : Tight d) (he : Env w) :
    Calls Tryz.prog 162 #[v] w fun e w' => e = .returned (printV (printR d)) ∧ Below w.heap.size w w' := by
  have HO := Lib.hid ho
  have HT := Lib.hid ht
  have hE := Lib.hid he
  have hd := ht.1
  obtain ⟨i0, hi0, hz0, hz1, hz2⟩ := info_parts info9
  obtain ⟨a0, c0, rfl⟩ : ∃ a c, v = .slice a d.length c := by
    obtain ⟨vs, h1, _⟩ := ho
    exact own_slice h1
  clear ho ht he
  obtain ⟨r, hr⟩ : ∃ r, printR d = r := ⟨_, rfl⟩
  rw [hr]
  have Hr := Lib.hid hr
  clear hr
  go_enter Tryz.func162, Tryz.ntmps162
  go_wp2_with fail
  go_loopg [15] d.length (fun k iv wr => ∃ i : Nat, i ≤ d.length ∧ d.length - i ≤ k ∧ iv = .int .i64 i ∧ Hid ((d.take i).any badRow = false) ∧ Hid (Below w.heap.size w wr))
  case atStart => exact ⟨0, Nat.zero_le _, Nat.le_refl _, rfl, by show _ = _; simp, Below.refl _ _⟩
  case round =>
    obtain ⟨i, hi, hk, rfl, hno, hb⟩ := hrel
    by_cases hlt : i < d.length
    · obtain ⟨g, c, u, hv, hu, hou⟩ := HO.out.get i hlt
      have hmem : d[i] ∈ d := List.getElem_mem hlt
      injection hv with hv1 hv2 hv3
      subst hv1 hv3
      clear hv2
      have cu : wr.cell? ⟨g, i, none⟩ = some u := (hb.out.cell (p := ⟨g, i, none⟩) (World.block_lt_of_cell? w _ hu)).trans hu
      have hou2 := own_below hou hb.out
      have hRl := (HT.out.2 d[i] hmem).1
      have hcont := contAva_calls 181 (enters_of Tryz.func181 (by kernel_rfl) rfl) (fun q => !isType q.1) wr base u d[i] hou2 (by omega) (fun W hW q hq => notType_calls q W (by have := ((HT.out.2 d[i] hmem).2 q hq).1; omega) ((hE.out.below hb.out).below hW))
      have hbad : badRow d[i] = (d[i].isEmpty || d[i].any fun q => !isType q.1) := rfl
      have hem : d[i].isEmpty = decide (d[i].length = 0) := by cases d[i] <;> simp
      rw [hem] at hbad
      have Hpos : Hid (badRow d[i] = true → r = (none, 30)) := by
        intro h
        rw [← Hr.out]
        unfold printR
        rw [if_pos (List.any_eq_true.2 ⟨_, hmem, h⟩)]
      have Hneg : Hid (badRow d[i] = false → (d.take (i + 1)).any badRow = false) := by
        intro h
        rw [List.take_succ_eq_append_getElem hlt, List.any_append, hno.out]
        simp [h]
      obtain ⟨y, z, hue⟩ := own_slice hou
      subst hue
      generalize (d[i].any fun q => !isType q.1) = b at *
      generalize badRow d[i] = B at *
      clear hou hou2 hmem hem hu
      by_cases h0 : d[i].length = 0
      · have hB : B = true := by rw [hbad]; simp [h0]
        subst hB
        rw [h0] at cu
        clear hbad h0 hcont hRl
        go_wp2_with fail
        go_ret2
        exact ⟨by rw [Hpos.out (by first | trivial | rfl)]; rfl, hb.out⟩
      · have q0 : ((d[i].length : Int) == 0) = false := by rw [beq_eq_false_iff_ne]; omega
        have hB : B = b := by rw [hbad]; simp [h0]
        subst hB
        clear hbad
        go_wp2_with fail
        refine hcont.mono ?_
        rintro e w2 ⟨rfl, hb2⟩
        have Hb2 := Lib.hid (hb.out.trans (hb2.mono hb.out.size))
        clear hb2 hcont
        cases B with
        | true =>
          go_wp2_with fail
          go_ret2
          exact ⟨by rw [Hpos.out (by first | trivial | rfl)]; rfl, Hb2.out⟩
        | false =>
          go_wp2_with fail
          go_roundg (d.length - (i + 1))
          case measure => omega
          case rel => exact ⟨i + 1, by omega, Nat.le_refl _, by go_num, Hneg.out (by first | trivial | rfl), Hb2.out⟩
    · have Hall : Hid (d.any badRow = false) := by
        have := hno.out
        rw [List.take_of_length_le (by omega)] at this
        exact this
      have htl := tooLong_calls wr base (.slice a0 d.length c0) d (HO.out.below hb.out) HT.out.modest
      have hTL : Hid (tooLong d = true → r = (none, 2)) := by
        intro h
        rw [← Hr.out]
        unfold printR
        rw [Hall.out, h]; rfl
      have hTF : Hid (tooLong d = false → r = if 65536 < (dnT d).length then (none, 2) else (some (dnT d), 0)) := by
        intro h
        rw [← Hr.out]
        unfold printR
        rw [Hall.out, h]; rfl
      have h20 : tooLong d = false → d.length ≤ 20 := by
        intro h
        simp only [tooLong, Bool.or_eq_false_iff, decide_eq_false_iff_not] at h
        omega
      have H20 := Lib.hid h20
      clear h20
      generalize tooLong d = tl at *
      go_wp2_with fail
      refine htl.mono ?_
      rintro e w2 ⟨rfl, hb2⟩
      have Hb2 := Lib.hid (hb.out.trans (hb2.mono hb.out.size))
      clear hb2 htl
      cases tl with
      | true =>
        go_wp2_with fail
        go_ret2
        exact ⟨by rw [hTL.out (by first | trivial | rfl)]; rfl, Hb2.out⟩
      | false =>
        have Hr2 : Hid (r = _) := hTF.out (by first | trivial | rfl)
        clear hTL hTF
        go_wp2_with fail
        have h20 := H20.out (by first | trivial | rfl)
        clear H20 hno hk hi hb
        go_loopg [6, 31] d.length (fun k pv iv wr => ∃ i : Nat, i ≤ d.length ∧ d.length - i ≤ k ∧ iv = .int .i64 i ∧ Hid (wr.ownsRow w.heap.size 9 1 pv i ((d.take i).map fun x => strV (rowT x))) ∧ Hid (Below w.heap.size w wr))
        case atStart => exact ⟨0, Nat.zero_le _, Nat.le_refl _, rfl, World.ownsRow_nil _ _ _ _, Hb2.out⟩
        case round =>
          obtain ⟨i, hi, hk, rfl, hown, hb⟩ := hrel
          by_cases hlt : i < d.length
          · obtain ⟨g, c, u, hv, hu, hou⟩ := HO.out.get i hlt
            have hmem : d[i] ∈ d := List.getElem_mem hlt
            injection hv with hv1 hv2 hv3
            subst hv1 hv3
            clear hv2
            have cu : wr.cell? ⟨g, i, none⟩ = some u := (hb.out.cell (p := ⟨g, i, none⟩) (World.block_lt_of_cell? w _ hu)).trans hu
            have Hou := Lib.hid hou
            have hRl := (HT.out.2 d[i] hmem).1
            have HQ := Lib.hid (HT.out.2 d[i] hmem).2
            have Hsnoc : Hid ((d.take (i + 1)).map (fun x => strV (rowT x)) = (d.take i).map (fun x => strV (rowT x)) ++ [strV (rowT d[i])]) := by
              show _ = _
              rw [List.take_succ_eq_append_getElem hlt, List.map_append]; rfl
            obtain ⟨y, z, hue⟩ := own_slice hou
            subst hue
            generalize d[i] = R at *
            clear hou hmem hu
            generalize wr = wo at *
            go_wp2_with fail
            go_loopg [9, 37] R.length (fun k pv iv wr2 => ∃ j : Nat, j ≤ R.length ∧ R.length - j ≤ k ∧ iv = .int .i64 j ∧ Hid (wr2.ownsRow wo.heap.size 9 1 pv j ((R.take j).map fun x => strV (pairT x))) ∧ Hid (Below wo.heap.size wo wr2))
            case atStart => exact ⟨0, Nat.zero_le _, Nat.le_refl _, rfl, World.ownsRow_nil _ _ _ _, Below.refl _ _⟩
            case round =>
              obtain ⟨j, hj, hkj, rfl, hown2, hb2⟩ := hrel
              by_cases hlj : j < R.length
              · have hq := HQ.out R[j] (List.getElem_mem hlj)
                have Hsnoc2 : Hid ((R.take (j + 1)).map (fun x => strV (pairT x)) = (R.take j).map (fun x => strV (pairT x)) ++ [strV (pairT R[j])]) := by
                  show _ = _
                  rw [List.take_succ_eq_append_getElem hlj, List.map_append]; rfl
                have Hb2 := Lib.hid (hb.out.trans (hb2.out.mono hb.out.size))
                have HR := Lib.hid (own_below Hou.out Hb2.out)
                have hget := rdnV_get R j hlj
                rcases HR.out.2 with ⟨_, h0⟩ | ⟨gb, cap, cur, hv, hgb, hh, hnc, hcm, hsz, htk⟩
                · omega
                injection hv with hv1 hv2 hv3
                subst hv1 hv3
                clear hgb hh hnc hcm hsz htk hv2
                have c0 : wr.cell? ⟨gb, 2 * j, none⟩ = some (strV R[j].1) := own_cells HR.out _ _ hget.1
                have c1 : wr.cell? ⟨gb, 2 * j + 1, none⟩ = some (strV R[j].2) := own_cells HR.out _ _ hget.2
                have e2 : j * 2 = 2 * j := Nat.mul_comm _ _
                clear hget
                generalize R[j] = q at *
                obtain ⟨q1, q2⟩ := q
                simp only [strV] at c0 c1
                have hul : (writtenR q2).length ≤ 3000001 := by have := writtenR_len q2; have := hq.2; simp only at this; omega
                have hql : q1.length ≤ 100000 := hq.1
                have hwr : ∀ W, Below wr.heap.size wr W → Calls Tryz.prog 182 #[.string ⟨q2.toArray⟩] W fun e w' => e = .returned (strV (writtenR q2)) ∧ Below W.heap.size W w' := fun W hW => by
                  have := written_calls ⟨q2.toArray⟩ W (by show q2.toArray.size ≤ _; have := hq.2; simp only at this; simp; omega) (hE.out.below (Hb2.out.trans (hW.mono Hb2.out.size)))
                  simpa using this
                have Hpt : Hid (pairT (q1, q2) = q1 ++ [61] ++ writtenR q2) := rfl
                have Hwr := Lib.hid hwr
                clear hwr hq
                generalize writtenR q2 = wt at *
                generalize hpt : pairT (q1, q2) = pt at *
                go_wp2_with fail
                have hbW : Below wr.heap.size wr (wr.alloc (.cells #[.string ⟨q1.toArray⟩, .string ⟨q2.toArray⟩] 85)) := (Below.refl _ _).alloc (Nat.le_refl _) _
                have d0 : (wr.alloc (.cells #[.string ⟨q1.toArray⟩, .string ⟨q2.toArray⟩] 85)).cell? ⟨wr.heap.size, 0, none⟩ = some (.string ⟨q1.toArray⟩) := by simp [go_sem]
                have d1 : (wr.alloc (.cells #[.string ⟨q1.toArray⟩, .string ⟨q2.toArray⟩] 85)).cell? ⟨wr.heap.size, 1, none⟩ = some (.string ⟨q2.toArray⟩) := by simp [go_sem]
                have O1 : Hid ((wr.alloc (.cells #[.string ⟨q1.toArray⟩, .string ⟨q2.toArray⟩] 85)).ownsRow wo.heap.size 9 1 u9 j ((R.take j).map fun x => strV (pairT x))) := hown2.out.alloc _
                obtain ⟨W, hW⟩ : ∃ W, W = wr.alloc (.cells #[.string ⟨q1.toArray⟩, .string ⟨q2.toArray⟩] 85) := ⟨_, rfl⟩
                rw [← hW] at hbW d0 d1 O1 ⊢
                clear hW c0 c1
                have HbW := Lib.hid hbW
                have hlt85 : wr.heap.size < W.heap.size := World.block_lt_of_cell? W _ d0
                have hcall := Hwr.out W.drew hbW.drew
                have hsW : wo.heap.size ≤ W.heap.size := by have := hb2.out.size; omega
                clear hbW Hwr
                have s1 : ¬ 9223372036854775807 < q1.length + 1 := by omega
                have s2 : ¬ 9223372036854775807 < q1.length + 1 + wt.length := by omega
                go_region_law (first | (refine step_append_own rfl _ _ 29 rfl wo.heap.size 9 i0 (.string ⟨#[]⟩) 1 16 Tryz.underlying29 hi0 hz0 hz1 hz2 rfl (by decide) _ _ _ rfl ((own_below (own_drewN O1.out 1) hb9).alloc _) _ 1 1 [_] rfl rfl (cell_one_new _ _ _) (by simp [Value.oneCell']) (by unfold maxLen; omega) (by omega) (by have := hb9.size; simp at this ⊢; omega) ?_; intro v7 w7 hown7 hgr7 _) | (go_simp; go_at_call 182; refine hcall.mono ?_; rintro e w9 ⟨rfl, hb9⟩; have e0 := (hb9.cell (p := ⟨wr.heap.size, 0, none⟩) hlt85).trans d0; simp only [strV]))
                all_goals
                  have hcat : (⟨q1.toArray⟩ ++ ⟨#[61]⟩ ++ ⟨wt.toArray⟩ : ByteArray) = ⟨pt.toArray⟩ := by
                    show (⟨q1.toArray⟩ ++ ⟨[61].toArray⟩ ++ ⟨wt.toArray⟩ : ByteArray) = _
                    rw [cat_bytes, cat_bytes, Hpt.out]
                  have O7 : Hid (w7.ownsRow wo.heap.size 9 1 v7 (j + 1) ((R.take (j + 1)).map fun x => strV (pairT x))) := by
                    show w7.ownsRow _ _ _ _ _ _
                    rw [Hsnoc2.out]
                    simp only [strV]
                    rw [← hcat]
                    exact hown7
                  have hs9 : W.heap.size ≤ w9.heap.size := hb9.size
                  have B9 : Below wo.heap.size wo w9 := ((hb2.out.trans (HbW.out.mono hb2.out.size)).drew).trans (hb9.mono (by simpa using hsW))
                  have B7 : Hid (Below wo.heap.size wo w7) := (B9.alloc B9.size _).grown hgr7 (by have := B9.size; simp; omega) (own_base_le O1.out)
                  clear hgr7 hown7 hb9 e0 hcat d0 d1 B9
                  go_wp2_with fail
                  go_roundg (R.length - (j + 1))
                  case measure => omega
                  case rel => exact ⟨j + 1, by omega, Nat.le_refl _, by go_num, O7.out, B7.out⟩
              · have ej : j = R.length := by omega
                subst ej
                have Hb2 := Lib.hid (hb.out.trans (hb2.out.mono hb.out.size))
                have hjn : Calls Tryz.prog 183 #[u9, .string ⟨#[43]⟩] wr fun e w' => e = .returned (strV (rowT R)) ∧ Below wr.heap.size wr w' := by
                  have ho' : wr.ownsRow wo.heap.size 9 1 u9 (R.map pairT).length ((R.map pairT).map strV) := by
                    have := hown2.out
                    rw [List.take_of_length_le (Nat.le_refl _)] at this
                    rw [List.length_map, List.map_map]
                    exact this
                  refine join_own wr wo.heap.size u9 (R.map pairT) 43 ho' (by simpa using hRl) ?_
                  have := join_le [43] 3200000 (R.map pairT) (fun x hx => by
                    obtain ⟨q, hq, rfl⟩ := List.mem_map.1 hx
                    have h1 := HQ.out q hq
                    have h2 := writtenR_len q.2
                    simp only [pairT, List.length_append, List.length_cons, List.length_nil]
                    omega)
                  rw [List.length_map] at this
                  have h3 : R.length * (3200000 + [43].length) ≤ 100000 * 3200001 := Nat.mul_le_mul hRl (Nat.le_refl _)
                  omega
                generalize rowT R = rt at *
                have O1 : Hid (wr.ownsRow w.heap.size 9 1 u6 i ((d.take i).map fun x => strV (rowT x))) := own_below hown.out hb2.out
                go_wp2_with fail
                refine hjn.mono ?_
                rintro e w3 ⟨rfl, hb3⟩
                clear hjn
                have HB3 := Lib.hid (Hb2.out.trans (hb3.mono Hb2.out.size))
                have O3 : Hid (w3.ownsRow w.heap.size 9 1 u6 i ((d.take i).map fun x => strV (rowT x))) := own_below O1.out hb3
                clear hb3
                have hw3 := HB3.out.size
                simp only [strV]
                go_wp2_with (at_builtin; refine wpList_append_own _ rfl _ _ 29 rfl w.heap.size 9 i0 (.string ⟨#[]⟩) 1 16 Tryz.underlying29 hi0 hz0 hz1 hz2 rfl (by decide) _ _ _ rfl (O3.out.alloc _) _ 1 1 [.string ⟨rt.toArray⟩] rfl rfl (cell_one_new _ _ _) (by simp [Value.oneCell']) (by unfold maxLen; omega) (by omega) (by simp; omega) ?_; intro v7 w7 hown7 hgr7 _)
                have O7 : Hid (w7.ownsRow w.heap.size 9 1 v7 (i + 1) ((d.take (i + 1)).map fun x => strV (rowT x))) := by
                  show w7.ownsRow _ _ _ _ _ _
                  rw [Hsnoc.out]
                  exact hown7
                have B7 : Hid (Below w.heap.size w w7) := (HB3.out.alloc hw3 _).grown hgr7 (by simp; omega) (own_base_le O3.out)
                clear hgr7 hown7
                go_wp2_with fail
                go_roundg (d.length - (i + 1))
                case measure => omega
                case rel => exact ⟨i + 1, by omega, Nat.le_refl _, by go_num, O7.out, B7.out⟩
          · have ei : i = d.length := by omega
            subst ei
            have hdl : (dnT d).length ≤ 140737488355328 := by
              have := join_le [44] 320000200000 (d.map rowT) (fun x hx => by
                obtain ⟨R, hR, rfl⟩ := List.mem_map.1 hx
                have hRl := (HT.out.2 R hR).1
                have := join_le [43] 3200000 (R.map pairT) (fun x hx => by
                  obtain ⟨q, hq, rfl⟩ := List.mem_map.1 hx
                  have h1 := (HT.out.2 R hR).2 q hq
                  have h2 := writtenR_len q.2
                  simp only [pairT, List.length_append, List.length_cons, List.length_nil]
                  omega)
                rw [List.length_map] at this
                have h3 : R.length * (3200000 + [43].length) ≤ 100000 * 3200001 := Nat.mul_le_mul hRl (Nat.le_refl _)
                show (Lib.join (R.map pairT) [43]).length ≤ _
                omega)
              rw [List.length_map] at this
              have h3 : d.length * (320000200000 + [44].length) ≤ 20 * 320000200001 := Nat.mul_le_mul h20 (Nat.le_refl _)
              show (Lib.join (d.map rowT) [44]).length ≤ _
              omega
            have hjn : Calls Tryz.prog 183 #[u6, .string ⟨#[44]⟩] wr fun e w' => e = .returned (strV (dnT d)) ∧ Below wr.heap.size wr w' := by
              have ho' : wr.ownsRow w.heap.size 9 1 u6 (d.map rowT).length ((d.map rowT).map strV) := by
                have := hown.out
                rw [List.take_of_length_le (Nat.le_refl _)] at this
                rw [List.length_map, List.map_map]
                exact this
              exact join_own wr w.heap.size u6 (d.map rowT) 44 ho' (by simpa using hd) hdl
            have Hr3 := Lib.hid Hr2.out
            clear Hr2 hown
            generalize dnT d = T at *
            go_wp2_with fail
            refine hjn.mono ?_
            rintro e w3 ⟨rfl, hb3⟩
            have HB3 := Lib.hid (hb.out.trans (hb3.mono hb.out.size))
            clear hjn hb3
            simp only [strV]
            by_cases hT : 65536 < T.length
            · have q1 : (65536 : Int) < (T.length : Int) := by omega
              have Hr4 : Hid (r = (none, 2)) := by show r = _; rw [Hr3.out, if_pos hT]
              go_wp2_with fail
              go_ret2
              exact ⟨by rw [Hr4.out]; rfl, HB3.out⟩
            · have q1 : ¬ (65536 : Int) < (T.length : Int) := by omega
              have Hr4 : Hid (r = (some T, 0)) := by show r = _; rw [Hr3.out, if_neg hT]
              go_wp2_with fail
              go_ret2
              exact ⟨by rw [Hr4.out]; rfl, HB3.out⟩
end Sy
end Go.Proofs.YthoealembhkaoaaGreatDoor
