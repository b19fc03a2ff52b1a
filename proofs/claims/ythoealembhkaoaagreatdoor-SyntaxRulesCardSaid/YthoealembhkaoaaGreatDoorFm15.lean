import Derived.Test.YthoealembhkaoaaGreatDoorFm14
import Derived.Lib.SlicesCompact
import Derived.Laws.IdiomCopy
namespace Go.Proofs.YthoealembhkaoaaGreatDoor
open Go.RowKit
namespace Sy
set_option linter.unusedVariables false

theorem rdnV_set : ∀ (r : List Pair) (k : Nat) (x : Pair), k < r.length → ((rdnV r).set (2 * k) (strV x.1)).set (2 * k + 1) (strV x.2) = rdnV (r.set k x)
  | p :: r, 0, x, _ => by simp [rdnV]
  | p :: r, k + 1, x, h => by
    have := rdnV_set r k x (by simpa using h)
    simp only [rdnV, List.flatMap_cons, List.cons_append, List.nil_append, List.set_cons_succ] at this ⊢
    rw [show 2 * (k + 1) = (2 * k + 1) + 1 by omega]
    simp only [List.set_cons_succ]
    rw [this]
theorem rdnV_take (r : List Pair) (k : Nat) : (rdnV r).take (k * 2) = rdnV (r.take k) := by
  induction r generalizing k with
  | nil => simp [rdnV]
  | cons p r ih =>
    cases k with
    | zero => simp [rdnV]
    | succ k =>
      have := ih k
      simp only [rdnV, List.flatMap_cons, List.take_succ_cons] at this ⊢
      rw [show (k + 1) * 2 = k * 2 + 1 + 1 by omega]
      simp [this]
/-- A row's head. -/
theorem own_take {w : World} {base g cap n m : Nat} {xs : List Value} (ho : w.ownsRow base 85 2 (.slice (some ⟨g, 0, none⟩) n cap) n xs) (hm : m ≤ n) : w.ownsRow base 85 2 (.slice (some ⟨g, 0, none⟩) m cap) m (xs.take (m * 2)) := by
  rcases ho.2 with ⟨h2, _⟩ | ⟨g', cap', cur, hv, hgb, hh, hnc, hcm, hsz, htk⟩
  · cases h2
  · injection hv with hv1 hv2 hv3
    injection hv1 with hv1
    injection hv1 with hv1
    subst hv1 hv3
    have hl := ho.1
    refine ⟨by rw [List.length_take]; omega, .inr ⟨g, cap, cur, rfl, hgb, hh, by omega, hcm, hsz, ?_⟩⟩
    rw [← htk, List.take_take]
    congr 1
    omega
theorem own_setCells {base e size n g cap : Nat} : ∀ (vs : List Value) (s : Nat) (w : World) (xs : List Value), w.ownsRow base e size (.slice (some ⟨g, 0, none⟩) n cap) n xs →
    ∃ xs', (w.setCells g s vs).ownsRow base e size (.slice (some ⟨g, 0, none⟩) n cap) n xs' ∧ xs'.take s = xs.take s ∧ w.grownBy (w.setCells g s vs) (some g)
  | [], s, w, xs, h => ⟨xs, h, rfl, Gr.refl g w⟩
  | v :: vs, s, w, xs, h => by
    have h1 := World.ownsRow.stored h s v
    obtain ⟨xs', h2, h3, h4⟩ := own_setCells vs (s + 1) _ _ h1.1
    refine ⟨xs', h2, ?_, Gr.trans h1.2 h4⟩
    have := congrArg (List.take s) h3
    rw [List.take_take, List.take_take, Nat.min_eq_left (by omega), List.take_set] at this
    rw [this, List.set_eq_of_length_le (by simp; omega)]
/-- 'clear' at a row of pairs. -/
theorem clear_pairs (w : World) (g o n c : Nat) (hn : 0 < n) (hc : ∀ j, j < n * 2 → (w.cell? ⟨g, o + j, none⟩).isSome = true) (hf : ∀ j, j < n * 2 → w.frozen? ⟨g, o + j, none⟩ = false) :
    ∃ vs, ∀ ty, (Builtin.clear_ #[83] ty #[.slice (some ⟨g, o, none⟩) n c]).run Tryz.prog w = .ok (.tuple #[]) (w.setCells g o vs) := by
  obtain ⟨m, rfl⟩ : ∃ m, n = m + 1 := ⟨n - 1, by omega⟩
  refine ⟨(Builtin.zeroCells (Value.agg #[.string ⟨#[]⟩, .string ⟨#[]⟩]).cells (m + 1)).toList, fun ty => ?_⟩
  have hst := run_storeCells_cells (P := Tryz.prog) g o (Builtin.zeroCells (Value.agg #[.string ⟨#[]⟩, .string ⟨#[]⟩]).cells (m + 1)).toList 0 w (fun j hj => hc j (by simpa [Builtin.zeroCells, Value.cells] using hj)) (fun j hj => hf j (by simpa [Builtin.zeroCells, Value.cells] using hj)) (fun v hv => by
    simp [Builtin.zeroCells, Value.cells] at hv
    obtain ⟨a, _, rfl⟩ := hv
    rcases (by omega : a % 2 = 0 ∨ a % 2 = 1) with h | h <;> rw [h] <;> rfl)
  simp only [Nat.add_zero] at hst
  simp [Builtin.clear_, run_underlying Tryz.underlying83, Tryz.zeroValue85, hst]
theorem fields85 : Tryz.prog.fieldsOf 85 = #[(Tryz.prog.fieldsOf 85)[0]!, (Tryz.prog.fieldsOf 85)[1]!] := by kernel_rfl
theorem eq_cells (a b c d : ByteArray) (W : World) : (Op.equalIn 10000 85 (.agg #[.string a, .string b]) (.agg #[.string c, .string d])).run Tryz.prog W = .ok (a.toList == c.toList && b.toList == d.toList) W := by
  rw [run_equalIn_agg W 9999 85 _ _ (by kernel_rfl) (by kernel_rfl), fields85]
  simp [Op.eqFields, go_sem]
  split <;> (try split) <;> simp_all
/-- Two pairs are equal. -/
theorem eq_pair (x1 x2 y1 y2 : List UInt8) (W : World) : (Op.equalIn 10000 85 (.agg #[.string ⟨x1.toArray⟩, .string ⟨x2.toArray⟩]) (.agg #[.string ⟨y1.toArray⟩, .string ⟨y2.toArray⟩])).run Tryz.prog W = .ok (decide ((x1, x2) = (y1, y2))) W := by
  rw [eq_cells]
  congr 1
  rw [Bool.eq_iff_iff]
  simp [ByteArray.toList_eq]
theorem guard_pair (op : BinOp) (a b : Operand) (xs ys : Array Value) (W : World) : (eqGuard op 85 a b (.agg xs) (.agg ys)).run Tryz.prog W = .ok () W := run_eqGuard_agg W op 85 a b xs ys (by kernel_rfl)
/-- The cells of the pair at a place. -/
theorem own_pair {w : World} {base g cap n : Nat} {d : Array Pair} (ho : w.ownsRow base 85 2 (.slice (some ⟨g, 0, none⟩) n cap) n (rdnV d.toList)) (k : Nat) (hk : k < d.size) :
    w.cell? ⟨g, 2 * k, none⟩ = some (strV d[k]!.1) ∧ w.cell? ⟨g, 2 * k + 1, none⟩ = some (strV d[k]!.2) := by
  have h := rdnV_get d.toList k (by simpa using hk)
  have e : d[k]! = d.toList[k]'(by simpa using hk) := by rw [getElem!_pos d k hk]; simp
  rw [e]
  exact ⟨own_cells ho _ _ h.1, own_cells ho _ _ h.2⟩
set_option maxRecDepth 100000 in
set_option maxHeartbeats 4000000 in
theorem compact_calls (w : World) (base g cap : Nat) (r : List Pair) (ho : OwnRdn w base (.slice (some ⟨g, 0, none⟩) r.length cap) r) (hr : r.length ≤ 100000) :
    Calls Tryz.prog 180 #[.slice (some ⟨g, 0, none⟩) r.length cap] w fun e w' =>
      e = .returned (.slice (some ⟨g, 0, none⟩) (Lib.compact r).length cap) ∧ OwnRdn w' base (.slice (some ⟨g, 0, none⟩) (Lib.compact r).length cap) (Lib.compact r) ∧ w.grownBy w' (some g) := by
  obtain ⟨d, hd⟩ : ∃ d : Array Pair, d = r.toArray := ⟨_, rfl⟩
  have hds : d.size = r.length := by rw [hd]; simp
  have hdl : d.toList = r := by rw [hd]
  have HO : Hid (w.ownsRow base 85 2 (.slice (some ⟨g, 0, none⟩) d.size cap) d.size (rdnV d.toList)) := by
    show w.ownsRow _ _ _ _ _ _
    rw [hds, hdl]; exact ho
  have hnc : d.size ≤ cap := by
    rcases ho.2 with ⟨h2, _⟩ | ⟨g', cap', cur, hv, hgb, hh, hnc, hcm, hsz, htk⟩
    · cases h2
    · injection hv with hv1 hv2 hv3
      omega
  have hcomp : Lib.compact r = Lib.compactUpTo d d.size := by rw [hd]; simp [Lib.compact]
  rw [hcomp, ← hds]
  clear hcomp ho hdl hd
  rw [← hds] at hr
  clear hds
  by_cases h2 : d.size < 2
  · have h2' : (d.size : Int) < 2 := by omega
    have Hall : Hid (Lib.compactUpTo d d.size = d.toList) := by
      show _ = _
      rw [Lib.compactUpTo_all d d.size (fun j hj => Lib.keeps_lt_one d j (by omega)), Lib.range_map_get]
    rw [Hall.out]
    go_enter Tryz.func180, Tryz.ntmps180
    go_wp2_with fail
    go_ret
    refine ⟨by simp, ?_, Gr.refl g w⟩
    have := HO.out
    unfold OwnRdn
    simpa using this
  · have h2' : ¬ (d.size : Int) < 2 := by omega
    go_enter Tryz.func180, Tryz.ntmps180
    go_wp2_with fail
    go_loopg [3] d.size (fun k iv wr => ∃ i : Nat, 1 ≤ i ∧ i ≤ d.size ∧ d.size - i ≤ k ∧ iv = .int .i64 i ∧ Hid (wr.ownsRow base 85 2 (.slice (some ⟨g, 0, none⟩) d.size cap) d.size (rdnV d.toList)) ∧ Hid (w.grownBy wr (some g)) ∧ Hid (∀ j, j < i → Lib.keeps d j = true))
    case atStart => exact ⟨1, Nat.le_refl _, by omega, by omega, rfl, HO.out, Gr.refl g w, Lib.keeps_lt_one d⟩
    case round =>
      obtain ⟨i, hi1, hi, hk, rfl, hown, hgr, hall⟩ := hrel
      by_cases hlt : i < d.size
      · have hp1 := own_pair hown.out i hlt
        have hp0 := own_pair hown.out (i - 1) (by omega)
        obtain ⟨i', rfl⟩ : ∃ i', i = i' + 1 := ⟨i - 1, by omega⟩
        simp only [Nat.add_sub_cancel] at hp0
        have hK1 := fun h => Lib.hid (Lib.keeps_pos (d := d) (m := i' + 1) h)
        have hK0 := fun h => Lib.hid (Lib.keeps_neg (d := d) (m := i' + 1) (by omega) h)
        simp only [Nat.add_sub_cancel] at hK1 hK0
        generalize hx : d[i' + 1]! = x at *
        generalize hy : d[i']! = y at *
        obtain ⟨x1, x2⟩ := x
        obtain ⟨y1, y2⟩ := y
        have c0 := hp1.1
        have c1 := hp1.2
        have c2 := hp0.1
        have c3 := hp0.2
        simp only [strV] at c0 c1 c2 c3
        clear hp1 hp0 hx hy
        have n1 : IntKind.i64.wrap (i' : Int) = (i' : Int) := IntWalk.i64_in _ (by omega)
        have n2 : (0 : Int) ≤ (i' : Int) + 1 := by omega
        have n3 : ((i' : Int) + 1).toNat = i' + 1 := by omega
        have n4 : (i' : Int) < (d.size : Int) := by omega
        have e2 : (i' + 1) * 2 = 2 * (i' + 1) := Nat.mul_comm _ _
        have e3 : i' * 2 = 2 * i' := Nat.mul_comm _ _
        have heq := eq_pair x1 x2 y1 y2
        have hgd := guard_pair
        by_cases hxy : (x1, x2) = (y1, y2)
        · have hk0 := hK0 hxy
          clear hK0 hK1
          rw [decide_eq_true hxy] at heq
          clear hxy
          go_wp2_with fail
          go_quiet (fail)
          have hst : Hid (Lib.CompInv d (i' + 1 + 1) (i' + 1) d) := Lib.CompInv.start hall.out hk0.out
          have hown1 := Lib.hid (own_drewN hown.out nq)
          have hgr1 := Lib.hid (Gr.drewN hgr.out nq)
          generalize wr.drewN nq = W1 at *
          clear c0 c1 c2 c3 heq hown hgr
          have ncap : ¬ cap = i' + 1 := by omega
          go_wp2_with fail
          go_loopg [3, 5] d.size (fun k s3 s5 wr => ∃ (kk k2 : Nat) (dk : Array Pair), s3 = .int .i64 kk ∧ s5 = .int .i64 k2 ∧ 1 ≤ k2 ∧ (i' + 1) + k2 ≤ d.size ∧ d.size - ((i' + 1) + k2) ≤ k ∧ Hid (wr.ownsRow base 85 2 (.slice (some ⟨g, 0, none⟩) d.size cap) d.size (rdnV dk.toList)) ∧ Hid (w.grownBy wr (some g)) ∧ Hid (Lib.CompInv d ((i' + 1) + k2) kk dk))
          case atStart => exact ⟨i' + 1, 1, d, by go_num, rfl, Nat.le_refl _, by omega, by omega, hown1.out, hgr1.out, hst.out⟩
          case round =>
            obtain ⟨kk, k2, dk, rfl, rfl, hk21, hle, hkm, hown, hgr, hI⟩ := hrel
            obtain ⟨k', rfl⟩ : ∃ k', k2 = k' + 1 := ⟨k2 - 1, by omega⟩
            have hkk := hI.out.lt
            have hdks := hI.out.size
            by_cases hlt2 : i' + 1 + (k' + 1) < d.size
            · have hp1 := own_pair hown.out (i' + 1 + (k' + 1)) (by omega)
              have hp0 := own_pair hown.out (i' + 1 + k') (by omega)
              rw [hI.out.high (i' + 1 + (k' + 1)) (by omega)] at hp1
              rw [hI.out.high (i' + 1 + k') (by omega)] at hp0
              have hKeep := fun h => Lib.hid (hI.out.keep hlt2 h)
              have hSkip := fun h => Lib.hid (hI.out.skip (d := d) h)
              have hK1 := Lib.keeps_pos (d := d) (m := i' + 1 + (k' + 1))
              have hK0 := Lib.keeps_neg (d := d) (m := i' + 1 + (k' + 1)) (by omega)
              rw [show i' + 1 + (k' + 1) - 1 = i' + 1 + k' by omega] at hK1 hK0
              generalize hx : d[i' + 1 + (k' + 1)]! = x at *
              generalize hy : d[i' + 1 + k']! = y at *
              obtain ⟨x1, x2⟩ := x
              obtain ⟨y1, y2⟩ := y
              have c0 := hp1.1
              have c1 := hp1.2
              have c2 := hp0.1
              have c3 := hp0.2
              simp only [strV] at c0 c1 c2 c3
              clear hp1 hp0 hx hy
              rw [show 2 * (i' + 1 + (k' + 1)) = 2 * (i' + 1) + (k' + 1) * 2 by omega] at c0 c1
              rw [show 2 * (i' + 1 + k') = 2 * (i' + 1) + k' * 2 by omega] at c2 c3
              have heq := eq_pair x1 x2 y1 y2
              have p1 : IntKind.i64.wrap (k' : Int) = (k' : Int) := IntWalk.i64_in _ (by omega)
              have p2 : (0 : Int) ≤ (k' : Int) + 1 := by omega
              have p3 : ((k' : Int) + 1).toNat = k' + 1 := by omega
              have p4 : (k' : Int) + 1 < ((d.size - (i' + 1) : Nat) : Int) := by omega
              have p5 : (k' : Int) < ((d.size - (i' + 1) : Nat) : Int) := by omega
              by_cases hxy : (x1, x2) = (y1, y2)
              · have hS := hSkip (hK0 hxy)
                clear hK0 hK1 hKeep hSkip
                rw [decide_eq_true hxy] at heq
                clear hxy
                go_wp2_with fail
                go_quiet (fail)
                have hown2 := Lib.hid (own_drewN hown.out nq)
                have hgr2 := Lib.hid (Gr.drewN hgr.out nq)
                go_wp2_with fail
                go_roundg (d.size - (i' + 1 + (k' + 1 + 1)))
                case measure => omega
                case rel => exact ⟨kk, k' + 1 + 1, dk, rfl, by go_num, by omega, by omega, Nat.le_refl _, hown2.out, hgr2.out, hS.out⟩
              · have hS := hKeep (hK1 hxy)
                clear hK0 hK1 hKeep hSkip
                rw [decide_eq_false hxy] at heq
                clear hxy
                have f0 := World.ownsRow.frozenAt hown.out
                have hpk := own_pair hown.out kk (by omega)
                have w0 := hpk.1
                have w1 := hpk.2
                clear hpk
                generalize dk[kk]! = z at w0 w1
                obtain ⟨z1, z2⟩ := z
                simp only [strV] at w0 w1
                have e4 : kk * 2 = 2 * kk := Nat.mul_comm _ _
                have p6 : (kk : Int) < (d.size : Int) := by omega
                go_wp2_with fail
                go_quiet (fail)
                go_wp2_with fail
                have s1 := World.ownsRow.stored (own_drewN hown.out nq) (2 * kk) (.string ⟨x1.toArray⟩)
                have s2 := World.ownsRow.stored s1.1 (2 * kk + 1) (.string ⟨x2.toArray⟩)
                have hset : ((rdnV dk.toList).set (2 * kk) (.string ⟨x1.toArray⟩)).set (2 * kk + 1) (.string ⟨x2.toArray⟩) = rdnV (dk.setIfInBounds kk (x1, x2)).toList := by
                  rw [Array.toList_setIfInBounds]
                  exact rdnV_set dk.toList kk (x1, x2) (by simp; omega)
                have hown2 := s2.1
                rw [hset] at hown2
                have Hown2 := Lib.hid hown2
                have Hgr2 := Lib.hid ((Gr.drewN hgr.out nq).trans (Gr.trans s1.2 s2.2))
                clear s1 s2 hset hown2
                go_roundg (d.size - (i' + 1 + (k' + 1 + 1)))
                case measure => omega
                case rel => exact ⟨kk + 1, k' + 1 + 1, _, by go_num, by go_num, by omega, by omega, Nat.le_refl _, Hown2.out, Hgr2.out, hS.out⟩
            · have hend : i' + 1 + (k' + 1) = d.size := by omega
              have HI : Hid (Lib.CompInv d d.size kk dk) := by show Lib.CompInv _ _ _ _; rw [← hend]; exact hI.out
              have hlen := HI.out.len
              obtain ⟨vs, hcl⟩ : ∃ vs, ∀ ty, (Builtin.clear_ #[83] ty #[.slice (some ⟨g, 2 * kk, none⟩) (d.size - kk) (cap - kk)]).run Tryz.prog wr = .ok (.tuple #[]) (wr.setCells g (2 * kk) vs) := by
                refine clear_pairs wr g (2 * kk) (d.size - kk) (cap - kk) (by omega) (fun j hj => ?_) (fun j hj => World.ownsRow.frozenAt hown.out _)
                have hl : 2 * kk + j < (rdnV dk.toList).length := by rw [rdnV_length]; simp; omega
                rw [own_cells hown.out (2 * kk + j) _ (List.getElem?_eq_getElem hl)]
                rfl
              have ncap2 : ¬ cap = kk := by omega
              have p5 : ¬ (k' : Int) + 1 < ((d.size - (i' + 1) : Nat) : Int) := by omega
              have e4 : kk * 2 = 2 * kk := Nat.mul_comm _ _
              clear hI hlt2
              go_wp2_with fail
              go_ret
              obtain ⟨xs', o1, o2, o3⟩ := own_setCells vs (2 * kk) wr _ hown.out
              refine ⟨rfl, ?_, Gr.trans hgr.out o3⟩
              have hlow : Lib.compactUpTo d d.size = dk.toList.take kk := by
                apply List.ext_getElem?
                intro j
                by_cases hj : j < kk
                · rw [HI.out.low j hj, List.getElem?_take_of_lt hj, getElem!_pos dk j (by omega)]
                  simp
                · rw [List.getElem?_eq_none (by omega), List.getElem?_eq_none (by simp; omega)]
              have h3 := own_take (m := kk) o1 (by omega)
              have h4 : xs'.take (kk * 2) = rdnV (Lib.compactUpTo d d.size) := by
                rw [hlow, ← rdnV_take, Nat.mul_comm]
                exact o2
              rw [h4] at h3
              unfold OwnRdn
              rw [hlen]
              exact h3
        · have hk1 := hK1 hxy
          clear hK0 hK1
          rw [decide_eq_false hxy] at heq
          clear hxy
          go_wp2_with fail
          go_quiet (fail)
          go_wp2_with fail
          go_roundg (d.size - (i' + 1 + 1))
          case measure => omega
          case rel =>
            refine ⟨i' + 1 + 1, by omega, by omega, Nat.le_refl _, by go_num, own_drewN hown.out nq, Gr.drewN hgr.out nq, fun j hj => ?_⟩
            by_cases e : j = i' + 1
            · subst e; exact hk1.out
            · exact hall.out j (by omega)
      · have ei : i = d.size := by omega
        subst ei
        have Hall : Hid (Lib.compactUpTo d d.size = d.toList) := by
          show _ = _
          rw [Lib.compactUpTo_all d d.size hall.out, Lib.range_map_get]
        go_wp2_with fail
        go_ret
        rw [Hall.out]
        refine ⟨by simp, ?_, hgr.out⟩
        have := hown.out
        unfold OwnRdn
        simpa using this
end Sy
end Go.Proofs.YthoealembhkaoaaGreatDoor
namespace Go.Proofs.YthoealembhkaoaaGreatDoor
open Go.RowKit
namespace Sy
set_option linter.unusedVariables false

/-- A part's pairs in their order, each once. -/
def partOf (r : List Pair) : List Pair := Lib.compact (sortR r)
theorem sortR_length (r : List Pair) : (sortR r).length = r.length := by rw [← sortR_size r]; simp [sortR]
set_option maxHeartbeats 1000000 in
theorem part161_calls (w : World) (base g cap : Nat) (r : List Pair) (ho : OwnRdn w base (.slice (some ⟨g, 0, none⟩) r.length cap) r) (hr : r.length ≤ 12) :
    Calls Tryz.prog 161 #[.slice (some ⟨g, 0, none⟩) r.length cap] w fun e w' =>
      e = .returned (.slice (some ⟨g, 0, none⟩) (partOf r).length cap) ∧ OwnRdn w' base (.slice (some ⟨g, 0, none⟩) (partOf r).length cap) (partOf r) ∧ w.grownBy w' (some g) := by
  have h1 := sort_calls w base g cap r ho hr
  have h2 := fun W (hW : OwnRdn W base (.slice (some ⟨g, 0, none⟩) r.length cap) (sortR r)) => compact_calls W base g cap (sortR r) (by rw [sortR_length]; exact hW) (by rw [sortR_length]; omega)
  simp only [sortR_length] at h2
  unfold partOf
  generalize Lib.compact (sortR r) = c at *
  clear ho
  go_enter Tryz.func161, Tryz.ntmps161
  go_wp2_with fail
  refine h1.mono ?_
  rintro e w1 ⟨rfl, ho1, hg1⟩
  have H2 := h2 w1 ho1
  have HG := Lib.hid hg1
  clear ho1 hg1 h1 h2
  go_wp2_with fail
  refine H2.mono ?_
  rintro e w2 ⟨rfl, ho2, hg2⟩
  have HO := Lib.hid ho2
  have HG2 := Lib.hid (Gr.trans HG.out hg2)
  clear ho2 hg2 H2
  go_wp2_with fail
  go_ret
  exact ⟨rfl, HO.out, HG2.out⟩
theorem self_calls (s : ByteArray) (w : World) : Calls Tryz.prog 131 #[.string s] w fun e w' => e = .returned (.tuple #[.string s, .bool true]) ∧ w' = w := by
  go_enter Tryz.func131, Tryz.ntmps131
  go_wp2_with fail
  go_ret2
  exact ⟨rfl, rfl⟩
theorem oidNorm_calls (s : ByteArray) (w : World) (hs : s.size ≤ 9223372036854775807) : Calls Tryz.prog 134 #[.string s] w fun e w' => e = .returned (.tuple #[strV (small s.data.toList), .bool true]) ∧ Below w.heap.size w w' := by
  have hc := small_calls s w hs
  generalize small s.data.toList = t at *
  go_enter Tryz.func134, Tryz.ntmps134
  go_wp2_with fail
  refine hc.mono ?_
  rintro e w1 ⟨rfl, hb⟩
  clear hc
  simp only [strV]
  go_wp2_with fail
  go_ret2
  exact ⟨rfl, hb⟩
def okV : Option (List UInt8) → Value
  | some l => .tuple #[strV l, .bool true]
  | none => .tuple #[.string ⟨#[]⟩, .bool false]
theorem text160_calls (s : ByteArray) (fold : Bool) (p : Addr) (w : World) (hp : w.cell? p = some (.bool fold)) (hs : s.size ≤ 4294967296) (he : Env w) :
    Calls Tryz.prog 160 #[.string s, .pointer (some p)] w fun e w' => e = .returned (okV (prepR fold s.data.toList)) ∧ Below w.heap.size w w' := by
  have hc := prepare_calls s fold w hs he
  generalize prepR fold s.data.toList = t at *
  go_enter Tryz.func160, Tryz.ntmps160
  go_wp2_with fail
  refine hc.mono ?_
  rintro e w1 ⟨rfl, hb⟩
  clear hc
  cases t with
  | none =>
    simp only [mappedV]
    go_wp2_with fail
    go_ret2
    exact ⟨rfl, hb⟩
  | some t =>
    simp only [mappedV, strV]
    go_wp2_with fail
    go_ret2
    exact ⟨rfl, hb⟩
end Sy
end Go.Proofs.YthoealembhkaoaaGreatDoor
namespace Go.Proofs.YthoealembhkaoaaGreatDoor
open Go.RowKit
namespace Sy
set_option linter.unusedVariables false

def isAscii (l : List UInt8) : Bool := l.all fun b => decide (b.toNat < 128)
set_option maxHeartbeats 1000000 in
theorem isASCII_calls (s : ByteArray) (w : World) (hs : s.size ≤ 9223372036854775807) :
    Calls Tryz.prog 35 #[.string s] w fun e w' => e = .returned (.bool (isAscii s.data.toList)) ∧ w' = w := by
  obtain ⟨r, hr⟩ : ∃ r, isAscii s.data.toList = r := ⟨_, rfl⟩
  rw [hr]
  have Hr := Lib.hid hr
  clear hr
  go_enter Tryz.func35, Tryz.ntmps35
  go_wp2_with fail
  go_loopg [6] s.size (fun k iv wr => (∃ i : Nat, i ≤ s.size ∧ s.size - i ≤ k ∧ iv = .int .i64 i ∧ Hid (isAscii (rest s i) = r)) ∧ wr = w)
  case atStart => exact ⟨⟨0, Nat.zero_le _, Nat.le_refl _, rfl, Hr.out⟩, rfl⟩
  case round =>
    obtain ⟨⟨i, hi, hk, rfl, hI⟩, rfl⟩ := hrel
    by_cases hlt : i < s.size
    · have Hrt := Lib.hid (rest_lt hlt)
      by_cases hc : (128 : Int) ≤ (s[i].toNat : Int)
      · have Hn : Hid (r = false) := by
          show r = _
          rw [← hI.out, Hrt.out]
          have : ¬ s[i].toNat < 128 := by omega
          simp [isAscii, this]
        go_wp2_with fail
        go_ret
        exact ⟨by rw [Hn.out]; rfl, rfl⟩
      · have Hn : Hid (isAscii (rest s (i + 1)) = r) := by
          show _ = r
          rw [← hI.out, Hrt.out]
          have : s[i].toNat < 128 := by omega
          simp [isAscii, this]
        go_wp2_with fail
        go_roundg (s.size - (i + 1))
        case measure => omega
        case rel => exact ⟨⟨i + 1, by omega, Nat.le_refl _, by go_num, Hn.out⟩, rfl⟩
    · have Hn : Hid (r = true) := by
        show r = _
        rw [← hI.out, rest_ge (by omega)]; rfl
      go_wp2_with fail
      go_ret
      exact ⟨by rw [Hn.out]; rfl, rfl⟩

/-- A whole number's text. -/
def isInt (l : List UInt8) : Bool :=
  let n := Lib.trimPrefix l [45]
  digits n && decide (n.length ≤ 40) && (!(n.head? == some 48) || (n == [48] && !Lib.hasPrefix l [45]))
set_option maxHeartbeats 1000000 in
theorem isInteger_calls (s : ByteArray) (w : World) (hs : s.size ≤ 9223372036854775807) :
    Calls Tryz.prog 36 #[.string s] w fun e w' => e = .returned (.bool (isInt s.data.toList)) ∧ Below w.heap.size w w' := by
  have hc := Tryz.strings_CutPrefix s ⟨#[45]⟩ w
  simp only at hc
  have hl : (Lib.trimPrefix s.data.toList [45]).length ≤ s.size := by
    have : s.data.toList.length = s.size := by simp
    unfold Lib.trimPrefix
    split
    · simp
    · omega
  unfold isInt
  generalize hpre : Lib.hasPrefix s.data.toList [45] = pre at *
  generalize hn : Lib.trimPrefix s.data.toList [45] = n at *
  clear hn hpre
  have hd := fun W => isDigits_calls ⟨n.toArray⟩ W (by show n.toArray.size ≤ _; simp; omega)
  simp only at hd
  obtain ⟨b, hb⟩ : ∃ b, digits n = b := ⟨_, rfl⟩
  rw [hb] at hd
  simp only [hb]
  cases b with
  | false =>
    clear hb
    go_enter Tryz.func36, Tryz.ntmps36
    go_wp2_with fail
    refine hc.mono ?_
    rintro e w1 ⟨rfl, rfl⟩
    clear hc
    go_wp2_with fail
    refine (hd _).mono ?_
    rintro e w2 ⟨rfl, hb2⟩
    clear hd
    go_wp2_with fail
    go_ret
    exact ⟨ret_bool (by simp), hb2⟩
  | true =>
    rcases n with _ | ⟨c, n⟩
    · simp [digits] at hb
    by_cases h40 : (c :: n).length ≤ 40
    · have q40 : ¬ (40 : Int) < ((c :: n).length : Int) := by omega
      go_enter Tryz.func36, Tryz.ntmps36
      go_wp2_with fail
      refine hc.mono ?_
      rintro e w1 ⟨rfl, rfl⟩
      clear hc
      go_wp2_with fail
      refine (hd _).mono ?_
      rintro e w2 ⟨rfl, hb2⟩
      clear hd
      have h4 : n.length + 1 ≤ 40 := by simpa using h40
      have hg : ∀ h, (⟨(c :: n).toArray⟩ : ByteArray)[0]'h = c := fun _ => rfl
      go_wp2_with fail
      · rename_i _ h5 h6
        go_ret
        refine ⟨ret_bool ?_, hb2⟩
        simp [h6.1, h6.2]
      · rename_i _ h5 h6
        have h7 : c = 48 := u8_eq (n := 48) (by omega) (by simpa [hg] using h5)
        have h8 : ¬ n = [] := fun h => h6 ⟨h7, h⟩
        go_ret
        refine ⟨ret_bool ?_, hb2⟩
        simp [h4, h7, h8]
      · rename_i _ h5
        have h7 : ¬ c = 48 := fun h => h5 (by first | (rw [hg, h]; rfl) | (rw [h]; rfl))
        go_ret
        refine ⟨ret_bool ?_, hb2⟩
        simp [h4, h7]
    · have q40 : (40 : Int) < (n.length : Int) + 1 := by simp at h40; omega
      go_enter Tryz.func36, Tryz.ntmps36
      go_wp2_with fail
      refine hc.mono ?_
      rintro e w1 ⟨rfl, rfl⟩
      clear hc
      go_wp2_with fail
      refine (hd _).mono ?_
      rintro e w2 ⟨rfl, hb2⟩
      clear hd
      go_wp2_with fail
      go_ret
      exact ⟨ret_bool (by have h4 : ¬ n.length + 1 ≤ 40 := by simpa using h40
                          simp [h4]), hb2⟩
end Sy
end Go.Proofs.YthoealembhkaoaaGreatDoor
