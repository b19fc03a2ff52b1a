import Derived.Test.YthoealembhkaoaaGreatDoorFm20
import Derived.Test.YthoealembhkaoaaGreatDoorFm16
namespace Go.Proofs.YthoealembhkaoaaGreatDoor
open Go.RowKit
namespace Sy
set_option linter.unusedVariables false
set_option maxRecDepth 100000

set_option maxHeartbeats 1000000 in
theorem rNumber_calls (s : ByteArray) (w : World) (hs : s.size ≤ 4) (hd : ∀ b ∈ s.data.toList, 48 ≤ b.toNat ∧ b.toNat ≤ 57) :
    Calls Tryz.prog 87 #[.string s] w fun e w' => e = .returned (.int .i64 (numN s.data.toList : Int)) ∧ w' = w := by
  have HD := Lib.hid hd
  have hsl : s.data.toList.length = s.size := by simp
  clear hd
  go_enter Tryz.func87, Tryz.ntmps87
  go_wp2_with fail
  go_loopg [3, 4] s.size (fun k nv iv wr => (∃ i : Nat, i ≤ s.size ∧ s.size - i ≤ k ∧ iv = .int .i64 i ∧ nv = .int .i64 (numN (s.data.toList.take i) : Int)) ∧ wr = w)
  case atStart => exact ⟨⟨0, Nat.zero_le _, Nat.le_refl _, rfl, rfl⟩, rfl⟩
  case round =>
    obtain ⟨⟨i, hi, hk, rfl, rfl⟩, rfl⟩ := hrel
    by_cases hlt : i < s.size
    · have hb := HD.out s[i] (by show s.data[i] ∈ _; simp)
      have hn : numN (s.data.toList.take (i + 1)) = 10 * numN (s.data.toList.take i) + (s[i].toNat - 48) := by
        rw [List.take_succ_eq_append_getElem (by omega), numN_snoc]; rfl
      have hlt2 := numN_lt (s.data.toList.take i) (fun b hb' => HD.out b (List.mem_of_mem_take hb'))
      have hpow : 10 ^ (s.data.toList.take i).length ≤ 10000 := by
        have : (s.data.toList.take i).length ≤ 4 := by simp; omega
        exact Nat.le_trans (Nat.pow_le_pow_right (by omega) this) (by decide)
      generalize numN (s.data.toList.take i) = m at *
      have HN := Lib.hid hn
      have w1 : IntKind.i64.wrap ((m : Int) * 10) = (m : Int) * 10 := IntWalk.i64_in _ (by omega)
      have w2 : IntKind.u8.wrap ((s[i].toNat : Int) - 48) = (s[i].toNat : Int) - 48 := IntWalk.u8_in _ (by omega)
      have w3 : IntKind.i64.wrap ((m : Int) * 10 + ((s[i].toNat : Int) - 48)) = (m : Int) * 10 + ((s[i].toNat : Int) - 48) := IntWalk.i64_in _ (by omega)
      clear hn hpow hlt2
      go_wp2_with fail
      go_roundg (s.size - (i + 1))
      case measure => omega
      case rel =>
        refine ⟨⟨i + 1, by omega, Nat.le_refl _, by go_num, ?_⟩, rfl⟩
        rw [HN.out]
        have e : (((10 * m + (s[i].toNat - 48) : Nat)) : Int) = (m : Int) * 10 + ((s[i].toNat : Int) - 48) := by omega
        rw [e]
    · have : i = s.size := by omega
      subst this
      have hT : s.data.toList.take s.size = s.data.toList := List.take_of_length_le (by omega)
      have HT := Lib.hid hT
      clear hT
      rw [HT.out]
      go_wp2_with fail
      go_ret
      exact ⟨rfl, rfl⟩
set_option maxHeartbeats 1000000 in
theorem rDays_calls (y m : Int) (w : World) (hy : 0 ≤ y) (hy' : y ≤ 9999) :
    Calls Tryz.prog 88 #[.int .i64 y, .int .i64 m] w fun e w' => e = .returned (.int .i64 (days y m)) ∧ w' = w := by
  go_enter Tryz.func88, Tryz.ntmps88
  go_wp2_with fail
  all_goals (go_ret; refine ⟨ret_int ?_, rfl⟩)
  all_goals (try simp only [beq_iff_eq, beq_eq_false_iff_ne, ne_eq] at *)
  all_goals (unfold days leap)
  all_goals (try (simp [*]; done))
  all_goals (have : ¬ y % 400 = 0 := by omega)
  all_goals (simp [*]; done)
theorem rtpart_calls (s : ByteArray) (a b : Nat) (hab : a ≤ b) (hb : b ≤ 14) (h4 : b - a ≤ 4) (hd : ∀ x ∈ s.data.toList.take 14, 48 ≤ x.toNat ∧ x.toNat ≤ 57) (W : World) :
    Calls Tryz.prog 87 #[.string (s.extract a b)] W fun e w' => e = .returned (.int .i64 (tpart s.data.toList a b)) ∧ w' = W := by
  have e : (s.extract a b).data.toList = (s.data.toList.drop a).take (b - a) := Lib.extract_data s a b
  have h := rNumber_calls (s.extract a b) W (by simp [ByteArray.size_extract]; omega) (fun x hx => by
    rw [e] at hx
    refine hd x ?_
    rw [← List.drop_take] at hx
    have h1 := List.mem_of_mem_drop hx
    have h2 : s.data.toList.take b = (s.data.toList.take 14).take b := by rw [List.take_take, Nat.min_eq_left hb]
    rw [h2] at h1
    exact List.mem_of_mem_take h1)
  rw [e] at h
  exact h
set_option maxHeartbeats 1000000 in
theorem rTime_calls (s : ByteArray) (w : World) (hs : s.size ≤ 140737488351232) :
    Calls Tryz.prog 51 #[.string s] w fun e w' => e = .returned (.bool (isTm s.data.toList)) ∧ Below w.heap.size w w' := by
  have hsl : s.data.toList.length = s.size := by simp
  by_cases h15 : s.size = 15
  · have hdc := fun W => rDigits_calls (s.extract 0 14) W (by simp [ByteArray.size_extract]; omega)
    have ee : (s.extract 0 14).data.toList = s.data.toList.take 14 := by rw [Lib.extract_data]; simp
    rw [ee] at hdc
    have hp := fun a b hab hb h4 hd W => rtpart_calls s a b hab hb h4 hd W
    unfold isTm
    have q15 : decide (s.data.toList.length = 15) = true := by simpa using h15
    rw [q15]
    have hz : (s.data.toList.drop 14 == [90]) = decide ((s[14]'(by omega)).toNat = 90) := by
      have : s.data.toList.drop 14 = [s[14]'(by omega)] := by
        have h1 := rest_lt (s := s) (i := 14) (by omega)
        have h2 := rest_ge (s := s) (i := 15) (by omega)
        show rest s 14 = _
        rw [h1, h2]
      rw [this, Bool.eq_iff_iff]
      simp [← UInt8.toNat_inj]
    rw [hz]
    have hall := fun h => digits_all (l := s.data.toList.take 14) h
    generalize hdg : digits (s.data.toList.take 14) = dg at *
    clear hdg hz
    by_cases h90 : (s[14]'(by omega)).toNat = 90
    · have q90 : ((s[14]'(by omega)).toNat : Int) = 90 := by omega
      simp only [h90, decide_true, Bool.true_and, Bool.and_true]
      cases dg with
      | false =>
        clear hp hall h90
        go_enter Tryz.func51, Tryz.ntmps51
        go_wp2_with fail
        refine (hdc _).mono ?_
        rintro e w1 ⟨rfl, rfl⟩
        clear hdc
        go_wp2_with fail
        go_ret
        exact ⟨ret_bool (by simp), Below.refl _ _⟩
      | true =>
        have hd := hall rfl
        have hP := fun a b W (hab : a ≤ b) (hb : b ≤ 14) (h4 : b - a ≤ 4) => hp a b hab hb h4 hd W
        have r1 := tpart_range s.data.toList 0 4 (by omega) hd (by omega) (by omega)
        have hdays := fun m W => rDays_calls (tpart s.data.toList 0 4) m W r1.1 r1.2
        clear hall hp hd ee q15 r1
        generalize tpart s.data.toList = P at *
        unfold clockOk
        go_enter Tryz.func51, Tryz.ntmps51
        go_wp2_with fail
        refine (hdc _).mono ?_
        rintro e w1 ⟨rfl, rfl⟩
        clear hdc h90
        go_wp2_with fail
        go_quiet ((go_at_call 87; exact Calls.quiet_of_same (hP _ _ _ (by decide) (by decide) (by decide))))
        have HB : Hid (Below w1.heap.size w1 (w1.drewN nq)) := (Below.refl _ _).drewN' nq
        go_wp2_with (first | (go_at_call 88; refine (hdays _ _).mono ?_; rintro e w9 ⟨rfl, rfl⟩) | (go_at_call 87; refine (hP _ _ _ (by decide) (by decide) (by decide)).mono ?_; rintro e w9 ⟨rfl, rfl⟩))
        all_goals (go_ret; refine ⟨ret_bool ?_, HB.out⟩; (try rw [Bool.eq_iff_iff]); (try simp); (try omega))
    · have q90 : ¬ ((s[14]'(by omega)).toNat : Int) = 90 := by omega
      simp only [h90, decide_false, Bool.and_false, Bool.false_and]
      clear hdc hp hall h90
      go_enter Tryz.func51, Tryz.ntmps51
      go_wp2_with fail
      go_ret
      exact ⟨ret_bool (by simp), Below.refl _ _⟩
  · have q15 : ¬ (s.size : Int) = 15 := by omega
    have hF : isTm s.data.toList = false := by
      have : ¬ s.data.toList.length = 15 := by omega
      simp [isTm, h15]
    rw [hF]
    go_enter Tryz.func51, Tryz.ntmps51
    go_wp2_with fail
    go_ret
    exact ⟨rfl, Below.refl _ _⟩
end Sy
end Go.Proofs.YthoealembhkaoaaGreatDoor
namespace Go.Proofs.YthoealembhkaoaaGreatDoor
open Go.RowKit
namespace Sy
set_option linter.unusedVariables false

/-- What a name that was read keeps within. -/
def Narrow (d : List (List Pair)) : Prop := d.length ≤ 20 ∧ ∀ r ∈ d, r.length ≤ 4 ∧ ∀ q ∈ r, q.1.length ≤ 65536 ∧ q.2.length ≤ 1024
theorem parseR_cases (l : List UInt8) : (∃ c, parseR l = (none, c) ∧ c ≠ 0) ∨ ∃ d, parseR l = (some d, 0) ∧ Narrow d := by
  unfold parseR
  split
  · exact .inl ⟨2, rfl, by decide⟩
  · rename_i hl
    cases hd : dnR l with
    | none => exact .inl ⟨30, rfl, by decide⟩
    | some d =>
      simp only
      cases ht : tooLong d with
      | true => exact .inl ⟨2, by simp, by decide⟩
      | false =>
        refine .inr ⟨d, by simp, ?_⟩
        obtain ⟨h1, h2⟩ := dnR_len hd
        simp only [tooLong, Bool.or_eq_false_iff, decide_eq_false_iff_not, List.any_eq_false] at ht
        refine ⟨by omega, fun r hr => ?_⟩
        have h3 := ht.2 r hr
        simp only [longRdn, Bool.or_eq_true, not_or, decide_eq_true_eq, List.any_eq_true, not_exists, not_and] at h3
        refine ⟨by omega, fun q hq => ⟨?_, ?_⟩⟩
        · have := ((h2 r hr).2 q hq).1; omega
        · have := h3.2 q hq; omega
theorem compact_le (r : List Pair) : (Lib.compact r).length ≤ r.length := by
  unfold Lib.compact Lib.compactUpTo
  rw [List.length_map]
  have := List.length_filter_le (Lib.keeps r.toArray) (List.range r.length)
  simpa using this
theorem normRow_tight {r : List Pair} (h : r.length ≤ 4 ∧ ∀ q ∈ r, q.1.length ≤ 65536 ∧ q.2.length ≤ 1024) : (normRow r).length ≤ 4 ∧ ∀ q ∈ normRow r, q.1.length ≤ 65536 ∧ q.2.length ≤ 4097 := by
  have hc := compact_le (sortR (r.map normPair))
  rw [sortR_length, List.length_map] at hc
  refine ⟨by have := h.1; unfold normRow partOf; omega, fun q hq => ?_⟩
  have hq1 : q ∈ sortR (r.map normPair) := by
    unfold normRow partOf Lib.compact Lib.compactUpTo at hq
    obtain ⟨k, hk, rfl⟩ := List.mem_map.1 hq
    have hk2 : k < (sortR (r.map normPair)).length := by
      have := (List.mem_filter.1 hk).1
      simpa using this
    have e : (sortR (r.map normPair)).toArray[k]! = (sortR (r.map normPair))[k] := by rw [getElem!_pos _ k (by simpa using hk2)]; simp
    rw [e]
    exact List.getElem_mem hk2
  have hq2 := (sortR_spec (r.map normPair)).1.mem_iff.1 hq1
  obtain ⟨p, hp, rfl⟩ := List.mem_map.1 hq2
  have hb := h.2 p hp
  refine ⟨by simp only [normPair]; rw [small_length]; exact hb.1, ?_⟩
  simp only [normPair]
  cases ht : prepR true p.2 with
  | none => simp; omega
  | some t => have := prepR_len ht; simp; omega
theorem norm_tight {d : List (List Pair)} (h : Narrow d) : Tight (d.map normRow) := by
  refine ⟨by have := h.1; simp; omega, fun r hr => ?_⟩
  obtain ⟨r0, hr0, rfl⟩ := List.mem_map.1 hr
  obtain ⟨h1, h2⟩ := normRow_tight (h.2 r0 hr0)
  exact ⟨by omega, fun q hq => by have := h2 q hq; omega⟩
theorem rdnV_set1 : ∀ (r : List Pair) (k : Nat) (x : List UInt8) (h : k < r.length), (rdnV r).set (2 * k) (strV x) = rdnV (r.set k (x, r[k].2))
  | p :: r, 0, x, _ => by simp [rdnV]
  | p :: r, k + 1, x, h => by
    have := rdnV_set1 r k x (by simpa using h)
    simp only [rdnV, List.flatMap_cons, List.cons_append, List.nil_append, List.set_cons_succ, List.getElem_cons_succ] at this ⊢
    rw [show 2 * (k + 1) = (2 * k + 1) + 1 by omega]
    simp only [List.set_cons_succ]
    rw [this]
set_option maxRecDepth 100000 in
set_option maxHeartbeats 2000000 in
theorem nameNorm_calls (s : ByteArray) (w : World) (he : Env w) (hs : s.size ≤ 9223372036854775807) :
    Calls Tryz.prog 133 #[.string s] w fun e w' => e = .returned (okV (nameR s.data.toList)) ∧ Below w.heap.size w w' := by
  have hp := parse_calls s w he hs
  unfold nameR
  rcases parseR_cases s.data.toList with ⟨c, hc, hc0⟩ | ⟨d, hd, hN⟩
  · rw [hc] at hp ⊢
    have q0 : (c == 0) = false := by simpa using hc0
    go_enter Tryz.func133, Tryz.ntmps133
    go_wp2_with fail
    refine hp.mono ?_
    rintro e w1 ⟨v, rfl, _, hb⟩
    clear hp hc
    go_wp2_with fail
    go_ret2
    exact ⟨rfl, hb⟩
  · rw [hd] at hp ⊢
    have HN := Lib.hid hN
    have hE := Lib.hid he
    simp only
    obtain ⟨r, hr⟩ : ∃ r, (printR (d.map normRow)).1 = r := ⟨_, rfl⟩
    rw [hr]
    have Hr := Lib.hid hr
    clear hr hd hN he
    go_enter Tryz.func133, Tryz.ntmps133
    go_wp2_with fail
    refine hp.mono ?_
    rintro e w1 ⟨v, rfl, hO, hb⟩
    have HO : Hid (OwnDn w1 w.heap.size v d) := hO
    have HB := Lib.hid hb
    clear hp hO hb
    obtain ⟨a0, c0, rfl⟩ : ∃ a c, v = .slice a d.length c := by
      obtain ⟨vs, h1, _⟩ := HO.out
      exact own_slice h1
    go_wp2_with fail
    go_loopg [22] d.length (fun k iv wr => ∃ i : Nat, i ≤ d.length ∧ d.length - i ≤ k ∧ iv = .int .i64 i ∧ Hid (OwnDn wr w.heap.size (.slice a0 d.length c0) ((d.take i).map normRow ++ d.drop i)) ∧ Hid (Below w.heap.size w wr))
    case atStart => exact ⟨0, Nat.zero_le _, Nat.le_refl _, rfl, by show OwnDn _ _ _ _; simpa using HO.out, HB.out⟩
    case round =>
      obtain ⟨i, hi, hk, rfl, hown, hb⟩ := hrel
      by_cases hlt : i < d.length
      · have hDl : ((d.take i).map normRow ++ d.drop i).length = d.length := by simp; omega
        have hDi : ((d.take i).map normRow ++ d.drop i)[i]'(by rw [hDl]; exact hlt) = d[i] := by
          simp [List.getElem_append_right, Nat.min_eq_left (Nat.le_of_lt hlt)]
        have hDs : ((d.take i).map normRow ++ d.drop i).set i (normRow d[i]) = (d.take (i + 1)).map normRow ++ d.drop (i + 1) := by
          rw [List.set_append_right _ _ (by simp; omega)]
          have e : i - (List.map normRow (d.take i)).length = 0 := by simp; omega
          rw [e, List.drop_eq_getElem_cons hlt, List.set_cons_zero, List.take_succ_eq_append_getElem hlt, List.map_append]
          simp
        obtain ⟨vs, ho, hrows⟩ := hown.out
        obtain ⟨u, hu, hou⟩ := hrows.get i (by rw [hDl]; exact hlt)
        rw [hDi] at hou
        have hsome := hrows.some u (List.mem_of_getElem? hu)
        have hbd := HN.out.2 d[i] (List.getElem_mem hlt)
        rw [hDl] at ho
        rcases ho.2 with ⟨_, h0⟩ | ⟨gd, capd, curd, hvd, hgbd, _⟩
        · omega
        injection hvd with hv1 hv2 hv3
        subst hv1 hv3
        rcases hou.2 with ⟨rfl, _⟩ | ⟨g, cap, cur, rfl, hgb, _⟩
        · simp [Value.ownBlock] at hsome
        have cu : wr.cell? ⟨gd, i, none⟩ = some (.slice (some ⟨g, 0, none⟩) d[i].length cap) := own_cells ho i _ hu
        have HOd := Lib.hid ho
        have HRows := Lib.hid hrows
        have HU := Lib.hid hu
        have HOu := Lib.hid hou
        have HDs := Lib.hid hDs
        have HBd := Lib.hid hbd
        clear ho hrows hu hou hown hDi hDs hsome hbd hv2
        generalize d[i] = R at *
        generalize wr = wo at *
        go_wp2_with fail
        go_loopg [29] R.length (fun k iv wr2 => ∃ j : Nat, j ≤ R.length ∧ R.length - j ≤ k ∧ iv = .int .i64 j ∧ Hid (wr2.ownsRow w.heap.size 85 2 (.slice (some ⟨g, 0, none⟩) R.length cap) R.length (rdnV (normAt R j))) ∧ Hid (wo.grownBy wr2 (some g)))
        case atStart => exact ⟨0, Nat.zero_le _, Nat.le_refl _, rfl, by show World.ownsRow _ _ _ _ _ _ _; have := HOu.out; unfold OwnRdn at this; simpa [normAt] using this, Gr.refl g wo⟩
        case round =>
          obtain ⟨j, hj, hkj, rfl, hown2, hgr2⟩ := hrel
          by_cases hlj : j < R.length
          · have hjn : j < (normAt R j).length := by rw [normAt_length]; exact hlj
            have hget := rdnV_get (normAt R j) j hjn
            rw [normAt_get R j hlj] at hget
            have Hnext := Lib.hid (normAt_next R j hlj)
            have Hg2 := Lib.hid (congrArg Prod.snd (normAt_get R j hlj))
            have hR4 := HBd.out.1
            have hq := HBd.out.2 R[j] (List.getElem_mem hlj)
            have b0 : wr.cell? ⟨g, 2 * j, none⟩ = some (strV R[j].1) := own_cells hown2.out _ _ hget.1
            have b1 : wr.cell? ⟨g, 2 * j + 1, none⟩ = some (strV R[j].2) := own_cells hown2.out _ _ hget.2
            have hblt := (hown2.out.lt g rfl).2
            have HBr : Hid (Below w.heap.size w wr) := hb.out.grown hgr2.out hb.out.size (fun k hk => by injection hk with hk; omega)
            have e2 : j * 2 = 2 * j := Nat.mul_comm _ _
            clear hget hjn
            generalize R[j] = q at *
            obtain ⟨q1, q2⟩ := q
            simp only [strV] at b0 b1
            have hsm := fun W => small_calls ⟨q1.toArray⟩ W (by show q1.toArray.size ≤ _; have := hq.1; simp only at this; simp; omega)
            simp only at hsm
            have hpp : ∀ W, Below w.heap.size w W → Calls Tryz.prog 34 #[.string ⟨q2.toArray⟩, .bool true] W fun e w' => e = .returned (mappedV (prepR true q2)) ∧ Below W.heap.size W w' := fun W hW => by
              have := prepare_calls ⟨q2.toArray⟩ true W (by show q2.toArray.size ≤ _; have := hq.2; simp only at this; simp; omega) (hE.out.below hW)
              simpa using this
            have HPP := Lib.hid hpp
            have Hnp : Hid (normPair (q1, q2) = (small q1, (prepR true q2).getD q2)) := rfl
            clear hpp hq
            generalize small q1 = sq at *
            generalize prepR true q2 = pq at *
            go_wp2_with fail
            have hba : Below wr.heap.size wr (wr.alloc (.cells #[.string ⟨q1.toArray⟩, .string ⟨q2.toArray⟩] 85)) := (Below.refl _ _).alloc (Nat.le_refl _) _
            have d1 : (wr.alloc (.cells #[.string ⟨q1.toArray⟩, .string ⟨q2.toArray⟩] 85)).cell? ⟨wr.heap.size, 1, none⟩ = some (.string ⟨q2.toArray⟩) := by simp [go_sem]
            obtain ⟨wa, hwa⟩ : ∃ wa, wa = wr.alloc (.cells #[.string ⟨q1.toArray⟩, .string ⟨q2.toArray⟩] 85) := ⟨_, rfl⟩
            rw [← hwa] at hba d1 ⊢
            clear hwa
            refine (hsm _).mono ?_
            rintro e w3 ⟨rfl, hb3⟩
            clear hsm
            have hb03 : Below wr.heap.size wr w3 := hba.trans (hb3.mono hba.size)
            have d13 : w3.cell? ⟨wr.heap.size, 1, none⟩ = some (.string ⟨q2.toArray⟩) := (hb3.cell (p := ⟨wr.heap.size, 1, none⟩) (World.block_lt_of_cell? _ _ d1)).trans d1
            have own3 := own_below hown2.out hb03
            have b03 : w3.cell? ⟨g, 2 * j, none⟩ = some (.string ⟨q1.toArray⟩) := (hb03.cell (p := ⟨g, 2 * j, none⟩) hblt).trans b0
            have f03 := World.ownsRow.frozenAt own3 (2 * j)
            have Gr3 := Lib.hid (Gr.trans hgr2.out (Gr.of_below g hb03))
            have st1 := World.ownsRow.stored own3 (2 * j) (.string ⟨sq.toArray⟩)
            have hdis : (w3.setCell ⟨g, 2 * j, none⟩ (.string ⟨sq.toArray⟩)).cell? ⟨wr.heap.size, 1, none⟩ = some (.string ⟨q2.toArray⟩) := by
              rw [World.cell?_of_block (w := w3) (Below.heap_setCell _ _ _ _ (by simp; omega))]; exact d13
            have hsz3 : wr.heap.size < w3.heap.size := World.block_lt_of_cell? _ _ d13
            clear hb3 hba d1 b0 b1 hb03
            simp only [strV]
            have hbW : Below w.heap.size w (w3.setCell ⟨g, 2 * j, none⟩ (.string ⟨sq.toArray⟩)) := (hb.out.grown Gr3.out hb.out.size (fun k hk => by injection hk with hk; omega)).setCell hgb _
            have hpp := HPP.out _ hbW
            have Gr4 := Lib.hid (Gr.trans Gr3.out st1.2)
            have Own4 := Lib.hid st1.1
            have hlt4 : g < (w3.setCell ⟨g, 2 * j, none⟩ (.string ⟨sq.toArray⟩)).heap.size := by simp; omega
            clear HPP st1 own3 hdis
            go_wp2_with fail
            obtain ⟨w4, hw4⟩ : ∃ w4, w4 = w3.setCell ⟨g, 2 * j, none⟩ (.string ⟨sq.toArray⟩) := ⟨_, rfl⟩
            rw [← hw4] at hpp Gr4 Own4 hlt4 hbW ⊢
            clear hw4 b03 f03 d13
            refine hpp.mono ?_
            rintro e w5 ⟨rfl, hb5⟩
            clear hpp
            have Own5 := Lib.hid (own_below Own4.out hb5)
            have Gr5 := Lib.hid (Gr.trans Gr4.out (Gr.of_below g hb5))
            have f5 := World.ownsRow.frozenAt Own5.out (2 * j + 1)
            cases pq with
            | none =>
              have hset : (rdnV (normAt R j)).set (2 * j) (.string ⟨sq.toArray⟩) = rdnV (normAt R (j + 1)) := by
                have h1 := rdnV_set1 (normAt R j) j sq (by rw [normAt_length]; exact hlj)
                rw [Hg2.out] at h1
                rw [← Hnext.out, Hnp.out]
                exact h1
              simp only [mappedV]
              go_wp2_with fail
              go_roundg (R.length - (j + 1))
              case measure => omega
              case rel => exact ⟨j + 1, by omega, Nat.le_refl _, by go_num, by rw [← hset]; exact Own5.out, Gr5.out⟩
            | some pt =>
              have hset : ((rdnV (normAt R j)).set (2 * j) (.string ⟨sq.toArray⟩)).set (2 * j + 1) (.string ⟨pt.toArray⟩) = rdnV (normAt R (j + 1)) := by
                rw [← Hnext.out, Hnp.out]
                exact rdnV_set (normAt R j) j (sq, pt) (by rw [normAt_length]; exact hlj)
              have b5 : ∃ x, w5.cell? ⟨g, 2 * j + 1, none⟩ = some x := by
                have hl : 2 * j + 1 < ((rdnV (normAt R j)).set (2 * j) (.string ⟨sq.toArray⟩)).length := by
                  rw [List.length_set, rdnV_length, normAt_length]; omega
                exact ⟨_, own_cells Own5.out (2 * j + 1) _ (List.getElem?_eq_getElem hl)⟩
              obtain ⟨x5, b5⟩ := b5
              have st2 := World.ownsRow.stored Own5.out (2 * j + 1) (.string ⟨pt.toArray⟩)
              rw [hset] at st2
              have Own6 := Lib.hid st2.1
              have Gr6 := Lib.hid (Gr.trans Gr5.out st2.2)
              clear st2 hset
              simp only [mappedV, strV]
              go_wp2_with fail
              go_roundg (R.length - (j + 1))
              case measure => omega
              case rel => exact ⟨j + 1, by omega, Nat.le_refl _, by go_num, Own6.out, Gr6.out⟩
          · have ej : j = R.length := by omega
            subst ej
            have hR4 := HBd.out.1
            have hml : (R.map normPair).length = R.length := by simp
            have hrow : OwnRdn wr w.heap.size (.slice (some ⟨g, 0, none⟩) (R.map normPair).length cap) (R.map normPair) := by
              have := hown2.out
              rw [normAt_done] at this
              unfold OwnRdn
              rw [hml]
              exact this
            have hpc := part161_calls wr w.heap.size g cap (R.map normPair) hrow (by omega)
            have hnr : partOf (R.map normPair) = normRow R := rfl
            rw [hml, hnr] at hpc
            clear hnr hrow hml
            have hne : ∀ x ∈ vs, x.ownBlock ≠ some gd := fun x hx => by
              have := HRows.out.outer HOd.out HRows.out.some x hx
              simpa [Value.ownBlock] using this
            have hgg : g ≠ gd := fun e => hne _ (List.mem_of_getElem? HU.out) (by simp [Value.ownBlock, e])
            have Hgg := Lib.hid hgg
            clear hne hgg
            generalize normRow R = NR at *
            go_wp2_with fail
            refine hpc.mono ?_
            rintro e w5 ⟨rfl, ho5, hg5⟩
            clear hpc
            have Gr5 := Lib.hid (Gr.trans hgr2.out hg5)
            have Own5 := Lib.hid ho5
            have Out5 := Lib.hid (HOd.out.kept Gr5.out (.inr (by simp [Value.ownBlock]; exact fun e => Hgg.out e.symm)))
            have Rows5 := Lib.hid (RowsOf.store Gr5.out Own5.out (by simp [Value.ownBlock]) i _ HRows.out HU.out (by simp [Value.ownBlock]))
            have cu5 : w5.cell? ⟨gd, i, none⟩ = some (.slice (some ⟨g, 0, none⟩) R.length cap) := own_cells Out5.out i _ HU.out
            have fu5 := World.ownsRow.frozenAt Out5.out i
            have st := World.ownsRow.stored Out5.out i (.slice (some ⟨g, 0, none⟩) NR.length cap)
            have St1 := Lib.hid st.1
            have St2 := Lib.hid st.2
            have HB5 : Below w.heap.size w w5 := hb.out.grown Gr5.out hb.out.size (fun k hk => by injection hk with hk; omega)
            have HB6 := Lib.hid (HB5.setCell (p := ⟨gd, i, none⟩) hgbd (.slice (some ⟨g, 0, none⟩) NR.length cap))
            have Rows6 : Hid (RowsOf (w5.setCell ⟨gd, i, none⟩ (.slice (some ⟨g, 0, none⟩) NR.length cap)) w.heap.size (vs.set i (.slice (some ⟨g, 0, none⟩) NR.length cap)) ((d.take (i + 1)).map normRow ++ d.drop (i + 1))) := by
              have h1 := Rows5.out
              rw [HDs.out] at h1
              exact RowsOf.kept St2.out h1 (fun x hx => by
                have := h1.outer Out5.out h1.some x hx
                simpa [Value.ownBlock] using this)
            clear st HB5 ho5 hg5
            have hd20 := HN.out.1
            go_wp2_with fail
            go_roundg (d.length - (i + 1))
            case measure => omega
            case rel =>
              refine ⟨i + 1, by omega, Nat.le_refl _, by go_num, ⟨_, ?_, Rows6.out⟩, HB6.out⟩
              rw [show ((d.take (i + 1)).map normRow ++ d.drop (i + 1)).length = d.length by simp; omega]
              exact St1.out
      · have ei : i = d.length := by omega
        subst ei
        have HO2 : Hid (OwnDn wr w.heap.size (.slice a0 d.length c0) (d.map normRow)) := by
          have := hown.out
          rw [List.take_of_length_le (Nat.le_refl _), List.drop_of_length_le (Nat.le_refl _), List.append_nil] at this
          exact this
        have hpr := print_calls wr w.heap.size (.slice a0 d.length c0) (d.map normRow) HO2.out (norm_tight HN.out) (hE.out.below hb.out)
        have hpz : Hid ((printR (d.map normRow)).1 = r) := Hr
        have hcode : ∀ x, printR x = (none, 30) ∨ printR x = (none, 2) ∨ ∃ t, printR x = (some t, 0) := by
          intro x
          unfold printR
          split
          · exact .inl rfl
          · split
            · exact .inr (.inl rfl)
            · split
              · exact .inr (.inl rfl)
              · exact .inr (.inr ⟨_, rfl⟩)
        have hcode' := hcode (d.map normRow)
        clear hcode
        generalize printR (d.map normRow) = P at *
        clear HO2 hown
        rcases hcode' with rfl | rfl | ⟨t, rfl⟩
        · go_wp2_with fail
          refine hpr.mono ?_
          rintro e w2 ⟨rfl, hb2⟩
          have HB2 := Lib.hid (hb.out.trans (hb2.mono hb.out.size))
          clear hpr hb2
          simp only [printV, Option.getD, strV]
          go_wp2_with fail
          go_ret2
          exact ⟨by rw [← hpz.out]; rfl, HB2.out⟩
        · go_wp2_with fail
          refine hpr.mono ?_
          rintro e w2 ⟨rfl, hb2⟩
          have HB2 := Lib.hid (hb.out.trans (hb2.mono hb.out.size))
          clear hpr hb2
          simp only [printV, Option.getD, strV]
          go_wp2_with fail
          go_ret2
          exact ⟨by rw [← hpz.out]; rfl, HB2.out⟩
        · go_wp2_with fail
          refine hpr.mono ?_
          rintro e w2 ⟨rfl, hb2⟩
          have HB2 := Lib.hid (hb.out.trans (hb2.mono hb.out.size))
          clear hpr hb2
          simp only [printV, Option.getD, strV]
          go_wp2_with fail
          go_ret2
          exact ⟨by rw [← hpz.out]; rfl, HB2.out⟩
end Sy
end Go.Proofs.YthoealembhkaoaaGreatDoor
namespace Go.Proofs.YthoealembhkaoaaGreatDoor
open Go.RowKit
namespace Sy
set_option linter.unusedVariables false

theorem ofForm_calls (f : Form) (s : ByteArray) (p : Addr) (w : World) (hp : w.cell? p = some (.string s)) (he : Env w) (hs : s.size ≤ 9223372036854775807) :
    Calls Tryz.prog 73 #[.string f.word, .pointer (some p)] w fun e w' => e = .returned (.bool (f.ok s.data.toList)) ∧ Below w.heap.size w w' := by
  have hc := valid_calls f s w he hs
  generalize f.ok s.data.toList = b at *
  generalize f.word = fw at *
  go_enter Tryz.func73, Tryz.ntmps73
  go_wp2_with fail
  refine hc.mono ?_
  rintro e w1 ⟨rfl, hb⟩
  clear hc
  go_wp2_with fail
  go_ret
  exact ⟨rfl, hb⟩
set_option maxHeartbeats 1000000 in
theorem idxForm_calls (s : ByteArray) (p : Addr) (g n c : Nat) (fs : List Form) (w : World) (hp : w.cell? p = some (.string s)) (he : Env w) (hs : s.size ≤ 9223372036854775807)
    (hn : fs.length ≤ 2) (hf : ∀ k (h : k < fs.length), w.cell? ⟨g, k, none⟩ = some (.string fs[k].word)) :
    Calls Tryz.prog 119 #[.slice (some ⟨g, 0, none⟩) fs.length c, .func (.func 73) #[] #[.pointer (some p)]] w (Found (fs.any fun f => f.ok s.data.toList) w) := by
  have HP := Lib.hid hp
  have HE := Lib.hid he
  have HF := Lib.hid hf
  clear hp he hf
  obtain ⟨b, hb⟩ : ∃ b, (fs.any fun f => f.ok s.data.toList) = b := ⟨_, rfl⟩
  rw [hb]
  have Hb := Lib.hid hb
  clear hb
  have eg := enters_of (P := Tryz.prog) Tryz.func73 (by kernel_rfl) rfl
  go_enter Tryz.func119, Tryz.ntmps119
  go_wp2_with fail
  go_loopg [8] fs.length (fun k i wr => ∃ j : Nat, j ≤ fs.length ∧ fs.length - j ≤ k ∧ i = .int .i64 j ∧ Hid ((fs.take j).any (fun f => f.ok s.data.toList) = false) ∧ Hid (Below w.heap.size w wr))
  case atStart => exact ⟨0, Nat.zero_le _, Nat.le_refl _, rfl, rfl, Below.refl _ _⟩
  case round =>
    obtain ⟨j, hj, hk, rfl, hno, hbw⟩ := hrel
    by_cases hlt : j < fs.length
    · have h0 := HF.out j hlt
      have c0 : wr.cell? ⟨g, j, none⟩ = some (.string fs[j].word) := (hbw.out.cell (p := ⟨g, j, none⟩) (World.block_lt_of_cell? _ _ h0)).trans h0
      have cp : wr.cell? p = some (.string s) := (hbw.out.cell (World.block_lt_of_cell? _ _ HP.out)).trans HP.out
      have hcall := ofForm_calls fs[j] s p wr cp (HE.out.below hbw.out) hs
      have Hpos : Hid (fs[j].ok s.data.toList = true → b = true) := by
        intro h
        rw [← Hb.out]
        exact List.any_eq_true.2 ⟨_, List.getElem_mem hlt, h⟩
      have Hneg : Hid (fs[j].ok s.data.toList = false → (fs.take (j + 1)).any (fun f => f.ok s.data.toList) = false) := by
        intro h
        rw [List.take_succ_eq_append_getElem hlt, List.any_append, hno.out]
        simp [h]
      clear h0 cp
      generalize fs[j].ok s.data.toList = q at *
      generalize fs[j].word = fw at *
      go_wp2_with fail
      refine hcall.mono ?_
      rintro e w2 ⟨rfl, hb2⟩
      have Hb2 := Lib.hid (hbw.out.trans (hb2.mono hbw.out.size))
      clear hb2 c0 hcall
      cases q with
      | true =>
        go_wp2_with fail
        go_ret
        exact ⟨j, rfl, by rw [Hpos.out (by first | trivial | rfl)]; simp, Hb2.out⟩
      | false =>
        go_wp2_with fail
        go_roundg (fs.length - (j + 1))
        case measure => omega
        case rel => exact ⟨j + 1, by omega, Nat.le_refl _, by go_num, Hneg.out (by first | trivial | rfl), Hb2.out⟩
    · go_wp2_with fail
      go_ret
      refine ⟨-1, rfl, ?_, hbw.out⟩
      have := hno.out
      rw [List.take_of_length_le (by omega), Hb.out] at this
      rw [this]; rfl
set_option maxHeartbeats 1000000 in
theorem contForm_calls (s : ByteArray) (p : Addr) (g n c : Nat) (fs : List Form) (w : World) (hp : w.cell? p = some (.string s)) (he : Env w) (hs : s.size ≤ 9223372036854775807)
    (hn : fs.length ≤ 2) (hf : ∀ k (h : k < fs.length), w.cell? ⟨g, k, none⟩ = some (.string fs[k].word)) :
    Calls Tryz.prog 72 #[.slice (some ⟨g, 0, none⟩) fs.length c, .func (.func 73) #[] #[.pointer (some p)]] w fun e w' => e = .returned (.bool (fs.any fun f => f.ok s.data.toList)) ∧ Below w.heap.size w w' := by
  have hc := idxForm_calls s p g n c fs w hp he hs hn hf
  clear hp hf
  generalize (fs.any fun f => f.ok s.data.toList) = b at *
  go_enter Tryz.func72, Tryz.ntmps72
  go_wp2_with fail
  refine hc.mono ?_
  rintro e w1 ⟨n, rfl, hn, hb⟩
  have Hb := Lib.hid hb
  clear hb hc
  go_wp2_with fail
  go_ret
  exact ⟨by first | rfl | exact ret_bool hn, Hb.out⟩
end Sy
end Go.Proofs.YthoealembhkaoaaGreatDoor
namespace Go.Proofs.YthoealembhkaoaaGreatDoor
open Go.RowKit
namespace Sy
set_option linter.unusedVariables false

theorem textFn_calls (b : Bool) (w : World) :
    Calls Tryz.prog 132 #[.bool b] w fun e w' => e = .returned (.func (.func 160) #[] #[.pointer (some ⟨w.heap.size, 0, none⟩)]) ∧ w' = w.alloc (.cells #[.bool b] 4) := by
  have hmf : ∀ (fn : Fn) (first cap : Array Value) (w : World), (Instr.makeFunc fn first cap).run Tryz.prog w = .ok (.func fn first cap) w := fun _ _ _ _ => rfl
  go_enter Tryz.func132, Tryz.ntmps132
  go_wp2_with fail
  go_ret
  exact ⟨rfl, rfl⟩
end Sy
end Go.Proofs.YthoealembhkaoaaGreatDoor
