import Derived.Test.YthoealembhkaoaaGreatDoorSyName
namespace Go.Proofs.YthoealembhkaoaaGreatDoor
open Go.RowKit
namespace Sy
set_option linter.unusedVariables false

theorem rdnV_get : ∀ (r : List Pair) (k : Nat) (h : k < r.length), (rdnV r)[2 * k]? = some (strV r[k].1) ∧ (rdnV r)[2 * k + 1]? = some (strV r[k].2)
  | p :: r, 0, _ => by simp [rdnV]
  | p :: r, k + 1, h => by
    have := rdnV_get r k (by simpa using h)
    have e : rdnV (p :: r) = strV p.1 :: strV p.2 :: rdnV r := by simp [rdnV]
    rw [e]
    simpa [Nat.mul_add] using this
theorem own_cells {W : World} {base g n cap : Nat} {e size : Nat} {xs : List Value} (h : W.ownsRow base e size (.slice (some ⟨g, 0, none⟩) n cap) n xs) (j : Nat) (u : Value) (hu : xs[j]? = some u) : W.cell? ⟨g, j, none⟩ = some u := by
  rcases h.2 with ⟨h2, _⟩ | ⟨g', cap', cur, hv, _, hh, hnc, _, hsz, htk⟩
  · cases h2
  · injection hv with h1 h2 h3
    injection h1 with h1
    injection h1 with h1
    subst h1
    have hlt := (List.getElem?_eq_some_iff.1 hu).1
    have h4 := h.1
    simp only [World.cell?, hh]
    rw [← htk, List.getElem?_take_of_lt (by omega)] at hu
    simpa using hu
/-- An answer that tells whether something was found. -/
def Found (b : Bool) (w : World) (e : Ending) (w' : World) : Prop := ∃ n : Int, e = .returned (.int .i64 n) ∧ decide (0 ≤ n) = b ∧ Below w.heap.size w w'

set_option maxHeartbeats 1000000 in
theorem idxAva_calls (g : Nat) (eg : ∀ args w, (callFunc g args).run Tryz.prog w = .ok (.enter g args) w) (p : Pair → Bool) (w : World) (base : Nat) (v : Value) (r : List Pair) (ho : OwnRdn w base v r) (hr : r.length ≤ 4294967296)
    (hp : ∀ W, Below w.heap.size w W → ∀ q ∈ r, Calls Tryz.prog g #[avaV q] W fun e w' => e = .returned (.bool (p q)) ∧ Below W.heap.size W w') :
    Calls Tryz.prog 151 #[v, .func (.func g) #[] #[]] w (Found (r.any p) w) := by
  have HO := Lib.hid ho
  have HP := Lib.hid hp
  clear hp
  obtain ⟨b, hb⟩ : ∃ b, r.any p = b := ⟨_, rfl⟩
  rw [hb]
  have Hb := Lib.hid hb
  clear hb
  rcases ho.2 with ⟨rfl, hr0⟩ | ⟨gb, cap, cur, rfl, hgb, hh, hnc, hcm, hsz, htk⟩
  · have hb : Hid (b = false) := by
      show b = false
      rw [← Hb.out, List.length_eq_zero_iff.1 hr0]; rfl
    clear ho
    go_enter Tryz.func151, Tryz.ntmps151
    go_wp2_with fail
    refine wp_loop_once ?_
    go_wp2_with fail
    go_ret
    exact ⟨-1, rfl, by rw [hb.out]; rfl, Below.refl _ _⟩
  · clear ho hh htk hsz
    go_enter Tryz.func151, Tryz.ntmps151
    go_wp2_with fail
    go_loopg [8] r.length (fun k i wr => ∃ j : Nat, j ≤ r.length ∧ r.length - j ≤ k ∧ i = .int .i64 j ∧ Hid ((r.take j).any p = false) ∧ Hid (Below w.heap.size w wr))
    case atStart => exact ⟨0, Nat.zero_le _, Nat.le_refl _, rfl, rfl, Below.refl _ _⟩
    case round =>
      obtain ⟨j, hj, hk, rfl, hno, hb⟩ := hrel
      by_cases hlt : j < r.length
      · have hget := rdnV_get r j hlt
        have c0 : wr.cell? ⟨gb, 2 * j, none⟩ = some (strV r[j].1) := (hb.out.cell (p := ⟨gb, 2 * j, none⟩) (HO.out.lt gb rfl).2).trans (own_cells HO.out _ _ hget.1)
        have c1 : wr.cell? ⟨gb, 2 * j + 1, none⟩ = some (strV r[j].2) := (hb.out.cell (p := ⟨gb, 2 * j + 1, none⟩) (HO.out.lt gb rfl).2).trans (own_cells HO.out _ _ hget.2)
        clear hget
        have e2 : j * 2 = 2 * j := Nat.mul_comm _ _
        go_wp2_with fail
        refine (HP.out wr hb.out r[j] (List.getElem_mem hlt)).mono ?_
        rintro e w2 ⟨rfl, hb2⟩
        have Hb2 := Lib.hid (hb.out.trans (hb2.mono hb.out.size))
        have Hpos : Hid (p r[j] = true → b = true) := by
          intro h
          rw [← Hb.out]
          exact List.any_eq_true.2 ⟨_, List.getElem_mem hlt, h⟩
        have Hneg : Hid (p r[j] = false → (r.take (j + 1)).any p = false) := by
          intro h
          rw [List.take_succ_eq_append_getElem hlt, List.any_append, hno.out]
          simp [h]
        clear hb2 e2 c0 c1
        generalize p r[j] = q at *
        cases q with
        | true =>
          go_wp2_with fail
          go_ret
          exact ⟨j, rfl, by rw [Hpos.out trivial]; simp, Hb2.out⟩
        | false =>
          go_wp2_with fail
          go_roundg (r.length - (j + 1))
          case measure => omega
          case rel => exact ⟨j + 1, by omega, Nat.le_refl _, by go_num, Hneg.out trivial, Hb2.out⟩
      · go_wp2_with fail
        go_ret
        refine ⟨-1, rfl, ?_, hb.out⟩
        have := hno.out
        rw [List.take_of_length_le (by omega), Hb.out] at this
        rw [this]; rfl

set_option maxHeartbeats 1000000 in
theorem contAva_calls (g : Nat) (eg : ∀ args w, (callFunc g args).run Tryz.prog w = .ok (.enter g args) w) (p : Pair → Bool) (w : World) (base : Nat) (v : Value) (r : List Pair) (ho : OwnRdn w base v r) (hr : r.length ≤ 4294967296)
    (hp : ∀ W, Below w.heap.size w W → ∀ q ∈ r, Calls Tryz.prog g #[avaV q] W fun e w' => e = .returned (.bool (p q)) ∧ Below W.heap.size W w') :
    Calls Tryz.prog 115 #[v, .func (.func g) #[] #[]] w fun e w' => e = .returned (.bool (r.any p)) ∧ Below w.heap.size w w' := by
  have hc := idxAva_calls g eg p w base v r ho hr hp
  clear ho hp
  generalize r.any p = b at *
  go_enter Tryz.func115, Tryz.ntmps115
  go_wp2_with fail
  refine hc.mono ?_
  rintro e w1 ⟨n, rfl, hn, hb⟩
  have Hb := Lib.hid hb
  clear hb hc
  go_wp2_with fail
  go_ret
  exact ⟨rfl, Hb.out⟩

set_option maxHeartbeats 1000000 in
theorem longAva_calls (q : Pair) (w : World) (hq : q.2.length ≤ 4294967296) :
    Calls Tryz.prog 116 #[avaV q] w fun e w' => e = .returned (.bool (decide (1024 < q.2.length))) ∧ Below w.heap.size w w' := by
  unfold avaV strV
  go_enter Tryz.func116, Tryz.ntmps116
  go_wp2_with fail
  go_ret
  exact ⟨ret_bool (by rw [Bool.eq_iff_iff]; simp; omega), (Below.refl _ _).alloc (Nat.le_refl _) _⟩

set_option maxHeartbeats 1000000 in
theorem longRdn_calls (w : World) (base : Nat) (v : Value) (r : List Pair) (ho : OwnRdn w base v r) (hr : r.length ≤ 4294967296) (hq : ∀ q ∈ r, q.2.length ≤ 4294967296) :
    Calls Tryz.prog 114 #[v] w fun e w' => e = .returned (.bool (decide (4 < r.length) || r.any fun q => decide (1024 < q.2.length))) ∧ Below w.heap.size w w' := by
  have hc := contAva_calls 116 (enters_of Tryz.func116 (by kernel_rfl) rfl) (fun q => decide (1024 < q.2.length)) w base v r ho hr (fun W _ q hm => longAva_calls q W (hq q hm))
  generalize r.any (fun q => decide (1024 < q.2.length)) = b at *
  obtain ⟨a, c, rfl⟩ := own_slice ho
  clear ho hq
  by_cases h4 : 4 < r.length
  · have h4' : (4 : Int) < (r.length : Int) := by omega
    go_enter Tryz.func114, Tryz.ntmps114
    go_wp2_with fail
    go_ret
    exact ⟨ret_bool (by simp [h4]), Below.refl _ _⟩
  · have h4' : ¬ (4 : Int) < (r.length : Int) := by omega
    go_enter Tryz.func114, Tryz.ntmps114
    go_wp2_with fail
    refine hc.mono ?_
    rintro e w1 ⟨rfl, hb⟩
    clear hc
    go_wp2_with fail
    go_ret
    exact ⟨ret_bool (by simp [h4]), hb⟩
/-- A part of a name is too long. -/
def longRdn (r : List Pair) : Bool := decide (4 < r.length) || r.any fun q => decide (1024 < q.2.length)

theorem RowsOf.get {w : World} {base : Nat} : ∀ {vs : List Value} {d : List (List Pair)}, RowsOf w base vs d → ∀ (k : Nat) (h : k < d.length), ∃ v : Value, vs[k]? = Option.some v ∧ OwnRdn w base v d[k]
  | v :: vs, r :: rs, h, 0, _ => ⟨v, rfl, h.1⟩
  | v :: vs, r :: rs, h, k + 1, hk => by
    obtain ⟨u, hu, ho⟩ := RowsOf.get h.2.2.2 k (by simpa using hk)
    exact ⟨u, by simpa using hu, by simpa using ho⟩
  | [], [], _, _, hk => by simp at hk
  | [], _ :: _, h, _, _ => h.elim
  | _ :: _, [], h, _, _ => h.elim
theorem own_below {w w' : World} {base : Nat} {e : TypeId} {size n : Nat} {v : Value} {xs : List Value} (h : w.ownsRow base e size v n xs) (hb : Below w.heap.size w w') : w'.ownsRow base e size v n xs :=
  h.kept (row := none) ⟨hb.os, hb.tape, hb.output, hb.size, fun k hk _ => hb.block k hk⟩ (by cases v.ownBlock <;> simp)
theorem RowsOf.below {w w' : World} {base : Nat} {vs : List Value} {d : List (List Pair)} (h : RowsOf w base vs d) (hb : Below w.heap.size w w') : RowsOf w' base vs d :=
  RowsOf.kept (w := w) (w' := w') (row := none) ⟨hb.os, hb.tape, hb.output, hb.size, fun k hk _ => hb.block k hk⟩ h h.some

set_option maxHeartbeats 1000000 in
theorem idxRdn_calls (g : Nat) (eg : ∀ args w, (callFunc g args).run Tryz.prog w = .ok (.enter g args) w) (p : List Pair → Bool) (w : World) (base : Nat) (v : Value) (d : List (List Pair)) (ho : OwnDn w base v d) (hr : d.length ≤ 4294967296)
    (hp : ∀ W u r, r ∈ d → OwnRdn W base u r → Below w.heap.size w W → Calls Tryz.prog g #[u] W fun e w' => e = .returned (.bool (p r)) ∧ Below W.heap.size W w') :
    Calls Tryz.prog 150 #[v, .func (.func g) #[] #[]] w (Found (d.any p) w) := by
  obtain ⟨vs, ho, hrows⟩ := ho
  have HO := Lib.hid ho
  have HR := Lib.hid hrows
  have HP := Lib.hid hp
  clear hp hrows
  obtain ⟨b, hb⟩ : ∃ b, d.any p = b := ⟨_, rfl⟩
  rw [hb]
  have Hb := Lib.hid hb
  clear hb
  rcases ho.2 with ⟨rfl, hr0⟩ | ⟨gb, cap, cur, rfl, hgb, hh, hnc, hcm, hsz, htk⟩
  · have hb : Hid (b = false) := by
      show b = false
      rw [← Hb.out, List.length_eq_zero_iff.1 hr0]; rfl
    clear ho
    go_enter Tryz.func150, Tryz.ntmps150
    go_wp2_with fail
    refine wp_loop_once ?_
    go_wp2_with fail
    go_ret
    exact ⟨-1, rfl, by rw [hb.out]; rfl, Below.refl _ _⟩
  · clear ho hh htk hsz
    go_enter Tryz.func150, Tryz.ntmps150
    go_wp2_with fail
    go_loopg [8] d.length (fun k i wr => ∃ j : Nat, j ≤ d.length ∧ d.length - j ≤ k ∧ i = .int .i64 j ∧ Hid ((d.take j).any p = false) ∧ Hid (Below w.heap.size w wr))
    case atStart => exact ⟨0, Nat.zero_le _, Nat.le_refl _, rfl, rfl, Below.refl _ _⟩
    case round =>
      obtain ⟨j, hj, hk, rfl, hno, hb⟩ := hrel
      by_cases hlt : j < d.length
      · obtain ⟨u, hu, hou⟩ := HR.out.get j hlt
        have c0 : wr.cell? ⟨gb, j, none⟩ = some u := (hb.out.cell (p := ⟨gb, j, none⟩) (HO.out.lt gb rfl).2).trans (own_cells HO.out _ _ hu)
        have Hcall := Lib.hid (HP.out wr u d[j] (List.getElem_mem hlt) (own_below hou hb.out) hb.out)
        obtain ⟨a, c, hue⟩ := own_slice hou
        subst hue
        clear hu hou
        go_wp2_with fail
        refine Hcall.out.mono ?_
        rintro e w2 ⟨rfl, hb2⟩
        have Hb2 := Lib.hid (hb.out.trans (hb2.mono hb.out.size))
        have Hpos : Hid (p d[j] = true → b = true) := by
          intro h
          rw [← Hb.out]
          exact List.any_eq_true.2 ⟨_, List.getElem_mem hlt, h⟩
        have Hneg : Hid (p d[j] = false → (d.take (j + 1)).any p = false) := by
          intro h
          rw [List.take_succ_eq_append_getElem hlt, List.any_append, hno.out]
          simp [h]
        clear hb2 c0 Hcall
        generalize p d[j] = q at *
        cases q with
        | true =>
          go_wp2_with fail
          go_ret
          exact ⟨j, rfl, by rw [Hpos.out trivial]; simp, Hb2.out⟩
        | false =>
          go_wp2_with fail
          go_roundg (d.length - (j + 1))
          case measure => omega
          case rel => exact ⟨j + 1, by omega, Nat.le_refl _, by go_num, Hneg.out trivial, Hb2.out⟩
      · go_wp2_with fail
        go_ret
        refine ⟨-1, rfl, ?_, hb.out⟩
        have := hno.out
        rw [List.take_of_length_le (by omega), Hb.out] at this
        rw [this]; rfl
set_option maxHeartbeats 1000000 in
theorem contRdn_calls (g : Nat) (eg : ∀ args w, (callFunc g args).run Tryz.prog w = .ok (.enter g args) w) (p : List Pair → Bool) (w : World) (base : Nat) (v : Value) (d : List (List Pair)) (ho : OwnDn w base v d) (hr : d.length ≤ 4294967296)
    (hp : ∀ W u r, r ∈ d → OwnRdn W base u r → Below w.heap.size w W → Calls Tryz.prog g #[u] W fun e w' => e = .returned (.bool (p r)) ∧ Below W.heap.size W w') :
    Calls Tryz.prog 113 #[v, .func (.func g) #[] #[]] w fun e w' => e = .returned (.bool (d.any p)) ∧ Below w.heap.size w w' := by
  have hc := idxRdn_calls g eg p w base v d ho hr hp
  clear ho hp
  generalize d.any p = b at *
  go_enter Tryz.func113, Tryz.ntmps113
  go_wp2_with fail
  refine hc.mono ?_
  rintro e w1 ⟨n, rfl, hn, hb⟩
  have Hb := Lib.hid hb
  clear hb hc
  go_wp2_with fail
  go_ret
  exact ⟨rfl, Hb.out⟩
def tooLong (d : List (List Pair)) : Bool := decide (20 < d.length) || d.any longRdn
/-- The lengths that the walk leans on. -/
def Modest (d : List (List Pair)) : Prop := d.length ≤ 4294967296 ∧ ∀ r ∈ d, r.length ≤ 4294967296 ∧ ∀ q ∈ r, q.1.length ≤ 4294967296 ∧ q.2.length ≤ 4294967296
set_option maxHeartbeats 1000000 in
theorem tooLong_calls (w : World) (base : Nat) (v : Value) (d : List (List Pair)) (ho : OwnDn w base v d) (hm : Modest d) :
    Calls Tryz.prog 66 #[v] w fun e w' => e = .returned (.bool (tooLong d)) ∧ Below w.heap.size w w' := by
  have hc := contRdn_calls 114 (enters_of Tryz.func114 (by kernel_rfl) rfl) longRdn w base v d ho hm.1 (fun W u r hr ho _ => longRdn_calls W base u r ho (hm.2 r hr).1 (fun q hq => ((hm.2 r hr).2 q hq).2))
  unfold tooLong
  have hd := hm.1
  generalize d.any longRdn = b at *
  obtain ⟨vs, ho, _⟩ := ho
  obtain ⟨a, c, rfl⟩ := own_slice ho
  clear ho hm
  by_cases h4 : 20 < d.length
  · have h4' : (20 : Int) < (d.length : Int) := by omega
    go_enter Tryz.func66, Tryz.ntmps66
    go_wp2_with fail
    go_ret
    exact ⟨ret_bool (by simp [h4]), Below.refl _ _⟩
  · have h4' : ¬ (20 : Int) < (d.length : Int) := by omega
    go_enter Tryz.func66, Tryz.ntmps66
    go_wp2_with fail
    refine hc.mono ?_
    rintro e w1 ⟨rfl, hb⟩
    clear hc
    go_wp2_with fail
    go_ret
    exact ⟨ret_bool (by simp [h4]), hb⟩
end Sy
end Go.Proofs.YthoealembhkaoaaGreatDoor
