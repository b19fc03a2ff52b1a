import Derived.Test.YthoealembhkaoaaGreatDoorRu02
import Derived.Test.YthoealembhkaoaaGreatDoorFm15
namespace Go.Proofs.YthoealembhkaoaaGreatDoor
open Go.RowKit
namespace Sy
set_option linter.unusedVariables false
set_option maxRecDepth 100000

theorem takeW_len (p : Pair → Bool) : ∀ (l : List Pair) (k : Nat), k ≤ l.length → (∀ j (h : j < k) (h2 : j < l.length), p l[j] = true) → (∀ h : k < l.length, p l[k] = false) → (l.takeWhile p).length = k
  | [], k, hk, _, _ => by simp at hk; simp [hk]
  | a :: l, 0, _, _, h => by
    have := h (by simp)
    simp at this
    simp [this]
  | a :: l, k + 1, hk, h1, h2 => by
    have h0 := h1 0 (by omega) (by simp)
    simp at h0
    have := takeW_len p l k (by simpa using hk) (fun j hj hl => by have := h1 (j + 1) (by omega) (by simpa using hl); simpa using this) (fun hl => by have := h2 (by simpa using hl); simpa using this)
    simp [h0, this]
theorem own_two {w : World} {base g cap n : Nat} {l : List Pair} (ho : w.ownsRow base 85 2 (.slice (some ⟨g, 0, none⟩) n cap) n (rdnV l)) (k : Nat) (hk : k < l.length) : w.cell? ⟨g, k * 2, none⟩ = some (strV l[k].1) ∧ w.cell? ⟨g, k * 2 + 1, none⟩ = some (strV l[k].2) := by
  have := rdnV_get l k hk
  rw [Nat.mul_comm]
  exact ⟨own_cells ho _ _ this.1, own_cells ho _ _ this.2⟩
theorem shift_set (acc : List Pair) (z : Pair) (j : Nat) (h : j < acc.length) : (acc.take (j + 1) ++ z :: acc.drop (j + 1)).set (j + 1) acc[j] = acc.take j ++ acc[j] :: acc.drop j := by
  have hl : (acc.take (j + 1)).length = j + 1 := by rw [List.length_take]; omega
  rw [List.set_append_right _ _ (by omega), hl, Nat.sub_self, List.set_cons_zero]
  rw [List.take_succ_eq_append_getElem h, List.append_assoc]
  conv => rhs; rw [List.drop_eq_getElem_cons h]
  rfl
theorem lay_set (acc : List Pair) (z x : Pair) (k : Nat) (h : k ≤ acc.length) : (acc.take k ++ z :: acc.drop k).set k x = acc.take k ++ x :: acc.drop k := by
  have hl : (acc.take k).length = k := by rw [List.length_take]; omega
  rw [List.set_append_right _ _ (by omega), hl, Nat.sub_self, List.set_cons_zero]
theorem gap_len (acc : List Pair) (z : Pair) (k : Nat) (h : k ≤ acc.length) : (acc.take k ++ z :: acc.drop k).length = acc.length + 1 := by
  simp only [List.length_append, List.length_take, List.length_cons, List.length_drop]
  omega
theorem gap_get (acc : List Pair) (z : Pair) (k j : Nat) (h : k ≤ acc.length) (hj : j < k) (h2 : j < (acc.take k ++ z :: acc.drop k).length) : (acc.take k ++ z :: acc.drop k)[j]'h2 = acc[j]'(by omega) := by
  rw [List.getElem_append_left (by rw [List.length_take]; omega)]
  simp
/-- A pair laid in at a place of a row. -/
theorem own_lay {w : World} {base g cap n : Nat} {L : List Pair} (ho : w.ownsRow base 85 2 (.slice (some ⟨g, 0, none⟩) n cap) n (rdnV L)) (k : Nat) (hk : k < L.length) (x : Pair) :
    ((w.setCell ⟨g, k * 2, none⟩ (strV x.1)).setCell ⟨g, k * 2 + 1, none⟩ (strV x.2)).ownsRow base 85 2 (.slice (some ⟨g, 0, none⟩) n cap) n (rdnV (L.set k x)) := by
  have s1 := World.ownsRow.stored ho (k * 2) (strV x.1)
  have s2 := World.ownsRow.stored s1.1 (k * 2 + 1) (strV x.2)
  have := s2.1
  rw [Nat.mul_comm, rdnV_set L k x hk] at this
  rw [Nat.mul_comm]
  exact this
theorem shift_facts {w : World} {base g cap n : Nat} {acc : List Pair} {z : Pair} {j : Nat} (h : j < acc.length) (ho : w.ownsRow base 85 2 (.slice (some ⟨g, 0, none⟩) n cap) n (rdnV (acc.take (j + 1) ++ z :: acc.drop (j + 1)))) :
    ∃ y1 y2 z1 z2 : List UInt8, w.cell? ⟨g, j * 2, none⟩ = some (.string ⟨y1.toArray⟩) ∧ w.cell? ⟨g, j * 2 + 1, none⟩ = some (.string ⟨y2.toArray⟩) ∧ w.cell? ⟨g, (j + 1) * 2, none⟩ = some (.string ⟨z1.toArray⟩) ∧ w.cell? ⟨g, (j + 1) * 2 + 1, none⟩ = some (.string ⟨z2.toArray⟩) ∧
      ((w.setCell ⟨g, (j + 1) * 2, none⟩ (.string ⟨y1.toArray⟩)).setCell ⟨g, (j + 1) * 2 + 1, none⟩ (.string ⟨y2.toArray⟩)).ownsRow base 85 2 (.slice (some ⟨g, 0, none⟩) n cap) n (rdnV (acc.take j ++ (y1, y2) :: acc.drop j)) := by
  have hlen := gap_len acc z (j + 1) h
  have hy := own_two ho j (by omega)
  rw [gap_get acc z (j + 1) j h (by omega)] at hy
  have hz := own_two ho (j + 1) (by omega)
  have hs := own_lay ho (j + 1) (by omega) acc[j]
  rw [shift_set acc z j h] at hs
  exact ⟨acc[j].1, acc[j].2, _, _, hy.1, hy.2, hz.1, hz.2, hs⟩
theorem lay_facts {w : World} {base g cap n : Nat} {acc : List Pair} {z : Pair} {k : Nat} (h : k ≤ acc.length) (ho : w.ownsRow base 85 2 (.slice (some ⟨g, 0, none⟩) n cap) n (rdnV (acc.take k ++ z :: acc.drop k))) (x1 x2 : List UInt8) :
    ∃ z1 z2 : List UInt8, w.cell? ⟨g, k * 2, none⟩ = some (.string ⟨z1.toArray⟩) ∧ w.cell? ⟨g, k * 2 + 1, none⟩ = some (.string ⟨z2.toArray⟩) ∧
      ((w.setCell ⟨g, k * 2, none⟩ (.string ⟨x1.toArray⟩)).setCell ⟨g, k * 2 + 1, none⟩ (.string ⟨x2.toArray⟩)).ownsRow base 85 2 (.slice (some ⟨g, 0, none⟩) n cap) n (rdnV (acc.take k ++ (x1, x2) :: acc.drop k)) := by
  have hlen := gap_len acc z k h
  have hz := own_two ho k (by omega)
  have hs := own_lay ho k (by omega) (x1, x2)
  rw [lay_set acc z (x1, x2) k h] at hs
  exact ⟨_, _, hz.1, hz.2, hs⟩
set_option maxHeartbeats 8000000 in
theorem rOrdered_calls (w : World) (base : Nat) (v : Value) (r : List Pair) (ho : OwnRdn w base v r) (hr : r.length ≤ 4) (hq : ∀ q ∈ r, q.1.length ≤ 4294967296 ∧ q.2.length ≤ 4294967296) :
    Calls Tryz.prog 79 #[v] w fun e w' => ∃ u, e = .returned u ∧ OwnRdn w' w.heap.size u (partOf r) ∧ Below w.heap.size w w' := by
  rw [← ordered_eq]
  have HO := Lib.hid ho
  have HQ := Lib.hid hq
  obtain ⟨i0, hi0, hz0, hz1, hz2⟩ := info_parts info85
  obtain ⟨a0, c0, rfl⟩ : ∃ a c, v = .slice a r.length c := own_slice ho
  clear ho hq
  go_enter Tryz.func79, Tryz.ntmps79
  go_wp2_with fail
  go_loopg [3, 4] r.length (fun k ov iv wr => ∃ (i : Nat) (acc : List Pair), i ≤ r.length ∧ r.length - i ≤ k ∧ iv = .int .i64 i ∧ acc.length ≤ i ∧ Hid (OwnRdn wr w.heap.size ov acc) ∧ Hid (∀ q ∈ acc, q ∈ r) ∧ Hid ((r.drop i).foldl insR acc = orderedR r) ∧ Hid (Below w.heap.size w wr))
  case atStart => exact ⟨0, [], Nat.zero_le _, Nat.le_refl _, rfl, Nat.le_refl _, World.ownsRow_nil _ _ _ _, (fun q h => by cases h), rfl, Below.refl _ _⟩
  case round =>
    obtain ⟨wo, rfl⟩ : ∃ wo : World, wo = wr := ⟨_, rfl⟩
    obtain ⟨i, acc, hi, hk, rfl, hai, hown, hin, hfold, hb⟩ := hrel
    by_cases hlt : i < r.length
    · have hor := own_below HO.out hb.out
      rcases hor.2 with ⟨_, h0⟩ | ⟨gr, cap, cur, hv, hgb, hh, hnc, hcm, hsz, htk⟩
      · omega
      injection hv with hv1 hv2 hv3
      subst hv1 hv3
      clear hgb hh hnc hcm hsz htk hv2
      have hx := own_two hor i hlt
      have hxw := own_two HO.out i hlt
      have Hfold : Hid ((r.drop (i + 1)).foldl insR (insR acc r[i]) = orderedR r) := by
        show _ = _
        rw [← hfold.out, List.drop_eq_getElem_cons hlt]; rfl
      have hxr := List.getElem_mem hlt
      have hxl := HQ.out _ hxr
      generalize r[i] = x at *
      obtain ⟨x1, x2⟩ := x
      have HXR := Lib.hid hxr
      simp only [strV] at hx hxl hxw
      have cx1 := hx.1
      have cx2 := hx.2
      have HX : Hid (∀ W, Below w.heap.size w W → W.cell? ⟨gr, i * 2, none⟩ = some (.string ⟨x1.toArray⟩) ∧ W.cell? ⟨gr, i * 2 + 1, none⟩ = some (.string ⟨x2.toArray⟩)) := fun W hW =>
        ⟨(hW.cell (World.block_lt_of_cell? _ _ hxw.1)).trans hxw.1, (hW.cell (World.block_lt_of_cell? _ _ hxw.2)).trans hxw.2⟩
      clear hx hor hxw hfold hxr
      obtain ⟨oa, oc, ho3⟩ := own_slice hown.out
      subst ho3
      have haq := Lib.hid (fun q (hq : q ∈ acc) => HQ.out q (hin.out q hq))
      go_upto_block 2 with fail
      go_cut [5] (fun kv wx => ∃ k : Nat, k ≤ acc.length ∧ kv = .int .i64 (k : Int) ∧ Hid ((acc.takeWhile (fun y => decide (cmpPair y (x1, x2) < 0))).length = k) ∧ Hid (Below wo.heap.size wo wx))
      case first =>
        go_wp2_with fail
        go_loopg [5] acc.length (fun k' kv wq => ∃ k : Nat, k ≤ acc.length ∧ acc.length - k ≤ k' ∧ kv = .int .i64 (k : Int) ∧ Hid (∀ j (h : j < k) (h2 : j < acc.length), cmpPair acc[j] (x1, x2) < 0) ∧ Hid (Below wo.heap.size wo wq))
        case atStart => exact ⟨0, Nat.zero_le _, Nat.le_refl _, rfl, (fun j h => by omega), Below.refl _ _⟩
        case round =>
          obtain ⟨k, hkl, hkk, rfl, hlow, hbq⟩ := hrel
          have keepx : ∀ {a : Addr} {u : Value}, wo.cell? a = some u → wr.cell? a = some u := fun h => (hbq.out.cell (World.block_lt_of_cell? _ _ h)).trans h
          by_cases hk1 : k < acc.length
          · have hd : decide ((k : Int) < (acc.length : Int)) = true := by simpa using hk1
            have hoq := own_below hown.out hbq.out
            rcases hoq.2 with ⟨_, h0⟩ | ⟨gb, cap2, cur2, hv, hgb, hh, hnc, hcm, hsz, htk⟩
            · omega
            injection hv with hv1 hv2 hv3
            subst hv1 hv3
            clear hgb hh hnc hcm hsz htk hv2
            have hy := own_two hoq k hk1
            have hyl := haq.out acc[k] (List.getElem_mem hk1)
            have hless := fun W => rLess_calls acc[k] (x1, x2) W hyl.1 hyl.2 hxl.1 hxl.2
            have Hyes : Hid (cmpPair acc[k] (x1, x2) < 0 → ∀ j (h : j < k + 1) (h2 : j < acc.length), cmpPair acc[j] (x1, x2) < 0) := fun h j hj hl => by
              rcases (by omega : j < k ∨ j = k) with h3 | rfl
              · exact hlow.out j h3 hl
              · exact h
            have Hno : Hid (¬ cmpPair acc[k] (x1, x2) < 0 → (acc.takeWhile (fun y => decide (cmpPair y (x1, x2) < 0))).length = k) := fun h =>
              takeW_len _ acc k hkl (fun j hj hl => decide_eq_true (hlow.out j hj hl)) (fun _ => decide_eq_false h)
            generalize acc[k] = y at *
            obtain ⟨y1, y2⟩ := y
            simp only [strV, avaV] at hy hless
            generalize cmpPair (y1, y2) (x1, x2) = z at *
            have g1 := fun d os => grw_cell hy.1 d os
            have g2 := fun d os => grw_cell hy.2 d os
            have g3 := fun d os => grw_cell (keepx cx1) d os
            have g4 := fun d os => grw_cell (keepx cx2) d os
            clear hoq hy hyl
            by_cases hz : z < 0
            · have HN := Lib.hid (Hyes.out hz)
              clear Hyes Hno
              go_wp2_with fail
              refine region_below (by kernel_rfl) (by kernel_rfl) ?_
              repeat (quiet_step ((go_at_call 125; exact quiet_below (hless _))))
              refine wpQuiet_nil ?_
              rintro w2 ⟨p, hp⟩
              have hb2 : Below wr.heap.size wr w2 := by rw [hp]; exact grw_below _ _ _
              have HB2 := Lib.hid (hbq.out.trans (hb2.mono hbq.out.size))
              clear hp hb2 g1 g2 g3 g4 hless
              go_wp2_with fail
              go_roundg (acc.length - (k + 1))
              case measure => omega
              case rel => exact ⟨k + 1, by omega, Nat.le_refl _, by go_num, HN.out, HB2.out⟩
            · have HN := Lib.hid (Hno.out hz)
              clear Hyes Hno
              go_wp2_with fail
              refine region_below (by kernel_rfl) (by kernel_rfl) ?_
              repeat (quiet_step ((go_at_call 125; exact quiet_below (hless _))))
              refine wpQuiet_nil ?_
              rintro w2 ⟨p, hp⟩
              have hb2 : Below wr.heap.size wr w2 := by rw [hp]; exact grw_below _ _ _
              have HB2 := Lib.hid (hbq.out.trans (hb2.mono hbq.out.size))
              clear hp hb2 g1 g2 g3 g4 hless
              go_wp2_with fail
              go_meet
              exact ⟨k, hkl, rfl, HN.out, HB2.out⟩
          · have hd : decide ((k : Int) < (acc.length : Int)) = false := by simpa using hk1
            have HN : Hid ((acc.takeWhile (fun y => decide (cmpPair y (x1, x2) < 0))).length = k) :=
              takeW_len _ acc k hkl (fun j hj hl => decide_eq_true (hlow.out j hj hl)) (fun h => absurd h hk1)
            go_wp2_with fail
            go_quiet (fail)
            have HB2 := Lib.hid (hbq.out.drewN' nq)
            go_wp2_with fail
            go_meet
            exact ⟨k, hkl, rfl, HN.out, HB2.out⟩
      case rest =>
        obtain ⟨w5, rfl⟩ : ∃ w5 : World, w5 = wc := ⟨_, rfl⟩
        obtain ⟨k, hkl, rfl, htw, hbc⟩ := hcut
        have hBc := Lib.hid (hb.out.trans (hbc.out.mono hb.out.size))
        have hoc := Lib.hid (own_below hown.out hbc.out)
        have hXc : Hid (∀ W, Below w.heap.size w W → W.cell? ⟨gr, i * 2, none⟩ = some (.string ⟨x1.toArray⟩) ∧ W.cell? ⟨gr, i * 2 + 1, none⟩ = some (.string ⟨x2.toArray⟩)) := HX
        have hins : Hid (insR acc (x1, x2) = if acc[k]? = some (x1, x2) then acc else acc.take k ++ (x1, x2) :: acc.drop k) := by
          show _ = _
          unfold insR
          rw [htw.out]
        have cx1' := (hXc.out w5 hBc.out).1
        have cx2' := (hXc.out w5 hBc.out).2
        have hgd := guard_pair
        clear cx1 cx2 hb hown hbc htw HX
        go_upto_region 8 with fail
        go_cut [45] (fun ev wx => ev = .bool (decide (acc[k]? = some (x1, x2))) ∧ Hid (∃ n, wx = w5.drewN n))
        case first =>
          by_cases hk1 : k < acc.length
          · have hd : decide ((k : Int) < (acc.length : Int)) = true := by simpa using hk1
            rcases hoc.out.2 with ⟨_, h0⟩ | ⟨gb, cap2, cur2, hv, hgb, hh, hnc, hcm, hsz, htk⟩
            · omega
            injection hv with hv1 hv2 hv3
            subst hv1 hv3
            clear hgb hh hnc hcm hsz htk hv2
            have hy := own_two hoc.out k hk1
            have hget : acc[k]? = some acc[k] := List.getElem?_eq_getElem hk1
            have Hdec : Hid (decide (acc[k]? = some (x1, x2)) = decide (acc[k] = (x1, x2))) := by
              show _ = _
              rw [hget, decide_eq_decide, Option.some.injEq]
            generalize acc[k] = y at *
            obtain ⟨y1, y2⟩ := y
            simp only [strV] at hy
            have cy1 := hy.1
            have cy2 := hy.2
            have heq := eq_pair y1 y2 x1 x2
            clear hy hget
            obtain ⟨bq, hbq⟩ : ∃ bq, decide ((y1, y2) = (x1, x2)) = bq := ⟨_, rfl⟩
            rw [hbq] at heq
            have HD : Hid (decide (acc[k]? = some (x1, x2)) = bq) := by show _ = _; rw [Hdec.out, hbq]
            clear hbq Hdec
            cases bq
            all_goals
              go_wp2_with fail
              go_quiet (fail)
              go_wp2_with fail
              go_meet
              exact ⟨congrArg Value.bool HD.out.symm, _, rfl⟩
          · have hd : decide ((k : Int) < (acc.length : Int)) = false := by simpa using hk1
            have HD : Hid (decide (acc[k]? = some (x1, x2)) = false) := by show _ = _; rw [List.getElem?_eq_none (by omega)]; simp
            go_wp2_with fail
            go_quiet (fail)
            go_wp2_with fail
            go_meet
            exact ⟨congrArg Value.bool HD.out.symm, _, rfl⟩
        case rest =>
          obtain ⟨hev, hwc⟩ := hcut
          subst hev
          have hB6 : Hid (Below w.heap.size w wc) := by
            obtain ⟨n, hn⟩ := hwc.out
            rw [hn]
            exact hBc.out.drewN' n
          have hO6 : Hid (wc.ownsRow w.heap.size 85 2 (Value.slice oa acc.length oc) acc.length (rdnV acc)) := by
            obtain ⟨n, hn⟩ := hwc.out
            rw [hn]
            exact own_drewN hoc.out n
          clear hwc hoc hBc cx1' cx2' hgd
          by_cases hex : acc[k]? = some (x1, x2)
          · have q1 : decide (acc[k]? = some (x1, x2)) = true := decide_eq_true hex
            have HF : Hid ((r.drop (i + 1)).foldl insR acc = orderedR r) := by
              show _ = _
              rw [← Hfold.out, hins.out, if_pos hex]
            rw [q1]
            clear hex hins Hfold q1
            go_wp2_with fail
            go_roundg (r.length - (i + 1))
            case measure => omega
            case rel => exact ⟨i + 1, acc, by omega, Nat.le_refl _, by go_num, by omega, hO6.out, hin.out, HF.out, hB6.out⟩
          · have q1 : decide (acc[k]? = some (x1, x2)) = false := decide_eq_false hex
            have HF : Hid ((r.drop (i + 1)).foldl insR (acc.take k ++ (x1, x2) :: acc.drop k) = orderedR r) := by
              show _ = _
              rw [← Hfold.out, hins.out, if_neg hex]
            rw [q1]
            clear hex hins Hfold q1
            go_upto_region 10 with (at_builtin; refine wpList_append_own _ rfl _ _ 83 rfl w.heap.size 85 i0 (.agg #[.string ⟨#[]⟩, .string ⟨#[]⟩]) 2 32 Tryz.underlying83 hi0 hz0 hz1 hz2 rfl (by decide) _ _ _ rfl (hO6.out.alloc _) ⟨wc.heap.size, 0, none⟩ 1 1 [.string ⟨#[]⟩, .string ⟨#[]⟩] rfl rfl ?c1 ?c2 ?c3 ?c4 ?c5 ?_)
            case c1 => exact cell_two_new _ _ _ _
            case c2 => simp [Value.oneCell']
            case c3 => unfold maxLen; omega
            case c4 => omega
            case c5 => have := hB6.out.size; simp; omega
            intro v7 w7 hown7 hgr7 _
            have hB7 : Hid (Below w.heap.size w w7) := (hB6.out.alloc hB6.out.size _).grown hgr7 (by have := hB6.out.size; simp; omega) (own_base_le hO6.out)
            rcases hown7.2 with ⟨_, h0⟩ | ⟨g7, cap7, cur7, hv7, hgb7, hh7, hnc7, hcm7, hsz7, htk7⟩
            · omega
            subst hv7
            have hO7 : Hid (w7.ownsRow w.heap.size 85 2 (.slice (some ⟨g7, 0, none⟩) (acc.length + 1) cap7) (acc.length + 1) (rdnV (acc.take acc.length ++ ([], []) :: acc.drop acc.length))) := by
              show w7.ownsRow _ _ _ _ _ _
              rw [List.take_length, List.drop_length, rdnV_snoc]
              exact hown7
            clear hown7 hgr7 hh7 hnc7 hcm7 hsz7 htk7 hB6 hO6
            go_wp2_with fail
            go_loopg [6] (acc.length - k) (fun k' jv wq => ∃ (j : Nat) (z : Pair), k ≤ j ∧ j ≤ acc.length ∧ j - k ≤ k' ∧ jv = .int .i64 (j : Int) ∧ Hid (wq.ownsRow w.heap.size 85 2 (.slice (some ⟨g7, 0, none⟩) (acc.length + 1) cap7) (acc.length + 1) (rdnV (acc.take j ++ z :: acc.drop j))) ∧ Hid (Below w.heap.size w wq))
            case atStart => exact ⟨acc.length, ([], []), hkl, Nat.le_refl _, Nat.le_refl _, by go_num, hO7.out, hB7.out⟩
            case round =>
              obtain ⟨j, z, hkj, hja, hjk, rfl, hO, hB⟩ := hrel
              by_cases hkj2 : k < j
              · obtain ⟨j, rfl⟩ : ∃ j', j = j' + 1 := ⟨j - 1, by omega⟩
                obtain ⟨y1, y2, z1, z2, cy1, cy2, cz1, cz2, hst⟩ := shift_facts (by omega) hO.out
                have HST := Lib.hid hst
                have f0 := World.ownsRow.frozenAt hO.out
                have hkj3 : (k : Int) < (j : Int) + 1 := by omega
                have HB2 : Hid (Below w.heap.size w ((wr.setCell ⟨g7, (j + 1) * 2, none⟩ (.string ⟨y1.toArray⟩)).setCell ⟨g7, (j + 1) * 2 + 1, none⟩ (.string ⟨y2.toArray⟩))) := (hB.out.setCell hgb7 _).setCell hgb7 _
                clear hst hO
                go_wp2_with fail
                go_roundg (j - k)
                case measure => omega
                case rel => exact ⟨j, (y1, y2), by omega, by omega, Nat.le_refl _, by go_num, HST.out, HB2.out⟩
              · have ejk : j = k := by omega
                subst ejk
                obtain ⟨z1, z2, cz1, cz2, hst⟩ := lay_facts hkl hO.out x1 x2
                have HST := Lib.hid hst
                have f0 := World.ownsRow.frozenAt hO.out
                have cx1 := (hXc.out wr hB.out).1
                have cx2 := (hXc.out wr hB.out).2
                have HB2 : Hid (Below w.heap.size w ((wr.setCell ⟨g7, j * 2, none⟩ (.string ⟨x1.toArray⟩)).setCell ⟨g7, j * 2 + 1, none⟩ (.string ⟨x2.toArray⟩))) := (hB.out.setCell hgb7 _).setCell hgb7 _
                have hlen := gap_len acc (x1, x2) j hkl
                have HLen := Lib.hid hlen
                have hin2 : Hid (∀ q ∈ acc.take j ++ (x1, x2) :: acc.drop j, q ∈ r) := by
                  intro q hq
                  rcases List.mem_append.1 hq with h | h
                  · exact hin.out q (List.mem_of_mem_take h)
                  · rcases List.mem_cons.1 h with rfl | h
                    · exact HXR.out
                    · exact hin.out q (List.mem_of_mem_drop h)
                have HO3 : Hid (OwnRdn ((wr.setCell ⟨g7, j * 2, none⟩ (.string ⟨x1.toArray⟩)).setCell ⟨g7, j * 2 + 1, none⟩ (.string ⟨x2.toArray⟩)) w.heap.size (.slice (some ⟨g7, 0, none⟩) (acc.length + 1) cap7) (acc.take j ++ (x1, x2) :: acc.drop j)) := by
                  show World.ownsRow _ _ _ _ _ _ _
                  rw [hlen]
                  exact hst
                clear hst hO hlen
                go_wp2_with fail
                go_roundg (r.length - (i + 1))
                case measure => omega
                case rel => exact ⟨i + 1, acc.take j ++ (x1, x2) :: acc.drop j, by omega, Nat.le_refl _, by go_num, by rw [HLen.out]; omega, HO3.out, hin2.out, HF.out, HB2.out⟩
    · have he : acc = orderedR r := by rw [← hfold.out, List.drop_of_length_le (by omega)]; rfl
      have HE := Lib.hid he
      clear he
      go_wp2_with fail
      go_ret
      exact ⟨u3, rfl, by rw [← HE.out]; exact hown.out, hb.out⟩
end Sy
end Go.Proofs.YthoealembhkaoaaGreatDoor
