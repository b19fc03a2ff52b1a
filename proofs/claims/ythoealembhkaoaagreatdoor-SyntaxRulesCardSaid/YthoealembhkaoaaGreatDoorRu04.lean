import Derived.Test.YthoealembhkaoaaGreatDoorRu03
import Derived.Test.YthoealembhkaoaaGreatDoorFm34
import Derived.Test.YthoealembhkaoaaGreatDoorFm21
import Derived.Test.YthoealembhkaoaaGreatDoorFm20
import Derived.Test.YthoealembhkaoaaGreatDoorFm16
namespace Go.Proofs.YthoealembhkaoaaGreatDoor
open Go.RowKit
namespace Sy
set_option linter.unusedVariables false
set_option maxRecDepth 100000

theorem bcell {W w1 : World} (h : Below W.heap.size W w1) : (∀ (b : Nat) (o : Nat), b < W.heap.size → w1.cell? ⟨b, o, none⟩ = W.cell? ⟨b, o, none⟩) ∧ (∀ (b : Nat) (o : Nat), b < W.heap.size → w1.frozen? ⟨b, o, none⟩ = W.frozen? ⟨b, o, none⟩) :=
  ⟨fun b o hb => Below.cell h hb, fun b o hb => Below.frozen h hb⟩

theorem partL_ne : ∀ (n : Nat) (acc : List Pair) (l : List UInt8) (p : List Pair) (l' : List UInt8), acc ≠ [] → partL n acc l = some (p, l') → p ≠ []
  | 0, _, _, _, _, _, h => by cases h
  | n + 1, acc, l, p, l', ha, h => by
    simp only [partL] at h
    split at h
    · split at h
      · exact partL_ne n _ _ p l' (by simp) h
      · cases h
    · injection h with h; injection h with h1 h2; subst h1; exact ha
theorem partR_ne {l : List UInt8} {p : List Pair} {l' : List UInt8} (h : partR l = some (p, l')) : p ≠ [] := by
  unfold partR at h
  split at h
  · exact partL_ne _ _ _ p l' (by simp) h
  · cases h
theorem dnL_ne : ∀ (n : Nat) (acc : List (List Pair)) (l : List UInt8) (d : List (List Pair)), (∀ r ∈ acc, r ≠ []) → dnL n acc l = some d → ∀ r ∈ d, r ≠ []
  | 0, _, _, _, _, h => by cases h
  | n + 1, acc, l, d, ha, h => by
    simp only [dnL] at h
    split at h
    · split at h
      · rename_i p l' hp
        refine dnL_ne n _ _ d (fun r hr => ?_) h
        rcases List.mem_append.1 hr with hr | hr
        · exact ha r hr
        · rw [List.mem_singleton.1 hr]; exact partR_ne hp
      · cases h
    · split at h
      · injection h with h; subst h; exact ha
      · cases h
theorem parse_ne {l : List UInt8} {d : List (List Pair)} {c : Int} (h : parseR l = (some d, c)) : ∀ r ∈ d, r ≠ [] := by
  unfold parseR at h
  split at h
  · cases h
  · split at h
    · cases h
    · rename_i d' hd
      split at h
      · cases h
      · injection h with h1 h2
        injection h1 with h1
        subst h1
        unfold dnR at hd
        split at hd
        · injection hd with hd; subst hd; intro r hr; cases hr
        · split at hd
          · rename_i p l' hp
            exact dnL_ne _ _ _ _ (fun r hr => by rw [List.mem_singleton.1 hr]; exact partR_ne hp) hd
          · cases hd

theorem part_ne {r : List Pair} (h : r ≠ []) : 0 < (partOf r).length := by
  obtain ⟨_, _, h3⟩ := compact_sorted _ (sortR r) rfl (sortR_spec _).2
  refine List.length_pos_iff.2 fun e => ?_
  unfold partOf at e
  rw [e] at h3
  have h4 := List.getLast?_eq_none_iff.1 h3.symm
  have h5 := sortR_length r
  rw [h4] at h5
  exact h (List.length_eq_zero_iff.1 h5.symm)

theorem two_below {W w9 : World} {k : Nat} {x y : Value} (t : Two W k x y) (h : Below W.heap.size W w9) : Two w9 k x y := ⟨(h.block k t.lt).trans t.heap⟩
theorem two_drewd {W : World} {k : Nat} {x y : Value} (t : Two W k x y) : Two W.drew k x y := ⟨t.heap⟩

set_option maxHeartbeats 8000000 in
theorem rNameNorm_calls (s : ByteArray) (d : List (List Pair)) (w : World) (hs : s.size ≤ 9223372036854775807) (hp : parseR s.data.toList = (some d, 0)) (hn : Narrow d) :
    Calls Tryz.prog 43 #[.string s] w fun e w' => e = .returned (strV ((printR (d.map normRow)).1.getD [])) ∧ Below w.heap.size w w' := by
  have HNE := Lib.hid (parse_ne hp)
  have hparse := rParse_calls s w hs
  rw [hp] at hparse
  have hd20 := hn.1
  have HN := Lib.hid hn
  obtain ⟨i0, hi0, hz0, hz1, hz2⟩ := info_parts info83
  obtain ⟨i1, hi1, ha0, ha1, ha2⟩ := info_parts info85
  obtain ⟨pr, hpr⟩ : ∃ pr, printR (d.map normRow) = pr := ⟨_, rfl⟩
  rw [hpr]
  have HP := Lib.hid hpr
  clear hp hn hpr
  go_enter Tryz.func43, Tryz.ntmps43
  go_wp2_with fail
  refine hparse.mono ?_
  rintro e w1 ⟨v, rfl, ho, hb⟩
  simp only at ho
  have HO := Lib.hid ho
  have HB1 := Lib.hid hb
  obtain ⟨a0, c0, rfl⟩ : ∃ a c, v = .slice a d.length c := by
    obtain ⟨vs, h1, _⟩ := ho
    exact own_slice h1
  clear hparse ho hb
  go_wp2_with fail
  go_loopg [5, 6] d.length (fun k ov iv wr => ∃ (i : Nat) (vs : List Value), i ≤ d.length ∧ d.length - i ≤ k ∧ iv = .int .i64 i ∧ Hid (wr.ownsRow w1.heap.size 83 1 ov i vs ∧ RowsOf wr w1.heap.size vs ((d.take i).map normRow)) ∧ Hid (Below w1.heap.size w1 wr))
  case atStart => exact ⟨0, [], Nat.zero_le _, Nat.le_refl _, rfl, ⟨World.ownsRow_nil _ _ _ _, trivial⟩, Below.refl _ _⟩
  case round =>
    obtain ⟨wo, rfl⟩ : ∃ wo : World, wo = wr := ⟨_, rfl⟩
    obtain ⟨i, vs, hi, hk, rfl, hown, hb⟩ := hrel
    obtain ⟨D, hD⟩ : ∃ D, (d.take i).map normRow = D := ⟨_, rfl⟩
    have hDl : D.length = i := by rw [← hD, List.length_map, List.length_take]; omega
    rw [hD] at hown
    have HD := Lib.hid hD
    clear hD
    by_cases hlt : i < d.length
    · obtain ⟨g, c, u, hv, hu, hou⟩ := (HO.out.below hb.out).get i hlt
      injection hv with hv1 hv2 hv3
      subst hv1 hv3
      clear hv2
      have hnr := HN.out.2 d[i] (List.getElem_mem hlt)
      have Htk : Hid ((d.take (i + 1)).map normRow = D ++ [normRow d[i]]) := by
        show _ = _
        rw [← HD.out, List.take_succ_eq_append_getElem hlt, List.map_append]; rfl
      have HRN := Lib.hid (HNE.out d[i] (List.getElem_mem hlt))
      generalize d[i] = R at *
      have HOu := Lib.hid hou
      have hR4 := hnr.1
      have HQ := Lib.hid hnr.2
      obtain ⟨y, z, hue⟩ := own_slice hou
      subst hue
      clear hou hnr
      have Hu : Hid (∀ W, Below wo.heap.size wo W → W.cell? ⟨g, i, none⟩ = some (.slice y R.length z)) := fun W hW => (hW.cell (World.block_lt_of_cell? _ _ hu)).trans hu
      clear hu
      go_wp2_with fail
      go_loopg [7, 8] R.length (fun k' pv kv wr => ∃ (k : Nat), k ≤ R.length ∧ R.length - k ≤ k' ∧ kv = .int .i64 k ∧ Hid (OwnRdn wr wo.heap.size pv ((R.take k).map normPair)) ∧ Hid (Below wo.heap.size wo wr))
      case atStart => exact ⟨0, Nat.zero_le _, Nat.le_refl _, rfl, World.ownsRow_nil _ _ _ _, Below.refl _ _⟩
      case round =>
        obtain ⟨k, hkl, hkk, rfl, hpo, hbq⟩ := hrel
        obtain ⟨L, hL⟩ : ∃ L, (R.take k).map normPair = L := ⟨_, rfl⟩
        have hLl : L.length = k := by rw [← hL, List.length_map, List.length_take]; omega
        rw [hL] at hpo
        have HL2 := Lib.hid hL
        clear hL
        have cu := Hu.out wr hbq.out
        by_cases hk1 : k < R.length
        · have hor := own_below HOu.out hbq.out
          rcases hor.2 with ⟨_, h0⟩ | ⟨gb, cap, cur, hv, hgb, hh, hnc, hcm, hsz, htk⟩
          · omega
          injection hv with hv1 hv2 hv3
          subst hv1 hv3
          clear hgb hh hnc hcm hsz htk hv2
          have hx := own_two hor k hk1
          have hql := HQ.out R[k] (List.getElem_mem hk1)
          have Htk2 : Hid ((R.take (k + 1)).map normPair = L ++ [normPair R[k]]) := by
            show _ = _
            rw [← HL2.out, List.take_succ_eq_append_getElem hk1, List.map_append]; rfl
          generalize R[k] = q at *
          obtain ⟨q1, q2⟩ := q
          simp only [strV] at hx hql
          have cx1 := hx.1
          have cx2 := hx.2
          have hlow := fun W => rLower_calls ⟨q1.toArray⟩ W (by show q1.toArray.size ≤ _; simp; omega)
          have hprep := fun W => rPrep_calls ⟨q2.toArray⟩ true W (by show q2.toArray.size ≤ _; simp; omega)
          simp only [strV] at hlow hprep
          have hnp : normPair (q1, q2) = (small q1, (prepR true q2).getD q2) := rfl
          rw [hnp] at Htk2
          generalize small q1 = t1 at *
          generalize prepR true q2 = pq at *
          clear hx hor hnp
          have hkeep : Hid (∀ W, Below wr.heap.size wr W → W.cell? ⟨g, i, none⟩ = some (.slice (some ⟨gb, 0, none⟩) R.length z) ∧ W.cell? ⟨gb, k * 2, none⟩ = some (.string ⟨q1.toArray⟩) ∧ W.cell? ⟨gb, k * 2 + 1, none⟩ = some (.string ⟨q2.toArray⟩)) := fun W hW =>
            ⟨(hW.cell (World.block_lt_of_cell? _ _ cu)).trans cu, (hW.cell (World.block_lt_of_cell? _ _ cx1)).trans cx1, (hW.cell (World.block_lt_of_cell? _ _ cx2)).trans cx2⟩
          go_upto_region 10 with fail
          go_cut [9] (fun xv wx => ∃ kx : Nat, wr.heap.size ≤ kx ∧ xv = .pointer (some ⟨kx, 0, none⟩) ∧ Hid (Two wx kx (.string ⟨t1.toArray⟩) (.string ⟨q2.toArray⟩)) ∧ Hid (Below wr.heap.size wr wx))
          case first =>
            have hB : ∀ (W : World), Below wr.heap.size wr W → W.cell? ⟨g, i, none⟩ = some (.slice (some ⟨gb, 0, none⟩) R.length z) ∧ W.cell? ⟨gb, k * 2, none⟩ = some (.string ⟨q1.toArray⟩) ∧ W.cell? ⟨gb, k * 2 + 1, none⟩ = some (.string ⟨q2.toArray⟩) := hkeep.out
            go_region_held3 (fun V : World => V.cell? ⟨g, i, none⟩ = some (.slice (some ⟨gb, 0, none⟩) R.length z) ∧ V.cell? ⟨gb, k * 2, none⟩ = some (.string ⟨q1.toArray⟩) ∧ V.cell? ⟨gb, k * 2 + 1, none⟩ = some (.string ⟨q2.toArray⟩)) (first | exact hB _ (Below.refl _ _).drew | exact hB _ ((Below.refl _ _).drew.trans hb9) | exact hB _ (((Below.refl _ _).alloc (Nat.le_refl _) _).drew) | exact hB _ ((((Below.refl _ _).alloc (Nat.le_refl _) _).drew).trans (hb9.mono (by simp))) | exact hB _ (((Below.refl _ _).drew.trans hb9).alloc hb9.size _) | exact hB _ (((((Below.refl _ _).alloc (Nat.le_refl _) _).drew.trans (hb9.mono (by simp))).setCell (p := ⟨_, 0, none⟩) (Nat.le_refl _) _).setCell (p := ⟨_, 1, none⟩) (Nat.le_refl _) _) | exact hB _ (((((Below.refl _ _).drew.trans hb9).alloc hb9.size _).setCell (p := ⟨_, 0, none⟩) hb9.size _).setCell (p := ⟨_, 1, none⟩) hb9.size _)) (first | (go_at_call 44; refine (hlow _).mono ?_; rintro e w9 ⟨rfl, hb9⟩; obtain ⟨hc9, hf9⟩ := bcell hb9))
            all_goals (go_wp2_with fail)
            all_goals go_meet
            · exact ⟨w9.heap.size, hb9.size, rfl, two_new w9 _ _, ((Below.refl _ _).drew.trans hb9).alloc hb9.size _⟩
            · exact ⟨wr.heap.size, Nat.le_refl _, rfl, ((two_below (two_drewd (two_new wr _ _)) hb9).set0 _).set1 _, ((((Below.refl _ _).alloc (Nat.le_refl _) _).drew.trans (hb9.mono (by simp))).setCell (p := ⟨_, 0, none⟩) (Nat.le_refl _) _).setCell (p := ⟨_, 1, none⟩) (Nat.le_refl _) _⟩
          case rest =>
            obtain ⟨kx, hkx, rfl, htw, hbx⟩ := hcut
            have t0 := htw.out.c0
            have t1' := htw.out.c1
            have hpo2 := own_below hpo.out hbx.out
            have HL : Hid (u7.ownBlock = none ∨ u7.ownBlock ≠ some kx) := by
              show _ ∨ _
              cases hb7 : u7.ownBlock with
              | none => exact .inl rfl
              | some g7 => exact .inr fun e => by injection e with e; have := (hpo.out.lt g7 hb7).2; omega
            have hso := hbq.out.size
            clear hkeep cx1 cx2 cu hpo hlow
            obtain ⟨w2, hw2⟩ : ∃ w2, w2 = wc := ⟨_, rfl⟩
            subst hw2
            go_wp2_with fail
            refine (hprep _).mono ?_
            rintro e w9 ⟨rfl, hb9⟩
            have T9 := two_below htw.out hb9
            have B9 := Lib.hid ((hbq.out.trans (hbx.out.mono hso)).trans (hb9.mono (by have := hbx.out.size; omega)))
            have hpo9 := Lib.hid (own_below hpo2 hb9)
            have x0 := T9.c0
            have x1 := T9.c1
            have x2 := T9.f1
            have hkw : wo.heap.size ≤ kx := Nat.le_trans hso hkx
            clear t0 t1' hpo2 hprep hb9 htw
            rcases pq with _ | v
            · simp only [mappedV]
              obtain ⟨w10, hw10⟩ : ∃ w10, w10 = w9 := ⟨_, rfl⟩
              subst hw10
              have P10 := hpo9
              have B10 := B9
              have hsz10 := B10.out.size
              go_wp2_with (at_builtin; refine wpList_append_own _ rfl _ _ 83 rfl wo.heap.size 85 i1 (.agg #[.string ⟨#[]⟩, .string ⟨#[]⟩]) 2 32 Tryz.underlying83 hi1 ha0 ha1 ha2 rfl (by decide) _ _ _ rfl (P10.out.alloc _) ⟨w10.heap.size, 0, none⟩ 1 1 [.string ⟨t1.toArray⟩, .string ⟨q2.toArray⟩] rfl rfl ?c1 ?c2 ?c3 ?c4 ?c5 ?_)
              case c1 => exact cell_two_new w10 _ _ 85
              case c2 => simp [Value.oneCell']
              case c3 => unfold maxLen; first | omega | (simp; omega)
              case c4 => first | omega | (simp; omega)
              case c5 => first | omega | (simp; omega)
              intro v7 w7 hown7 hgr7 _
              have B7 : Hid (Below wo.heap.size wo w7) := (B10.out.alloc hsz10 _).grown hgr7 (by simp; omega) (fun g e => own_base_le P10.out g e)
              have P7 : Hid (OwnRdn w7 wo.heap.size v7 ((R.take (k + 1)).map normPair)) := by
                show World.ownsRow _ _ _ _ _ _ _
                rw [Htk2.out, rdnV_snoc, List.length_append, hLl]
                exact hown7
              obtain ⟨y7, z7, hv7⟩ := own_slice hown7
              subst hv7
              clear hown7 hgr7
              go_wp2_with fail
              go_roundg (R.length - (k + 1))
              case measure => omega
              case rel => exact ⟨k + 1, hk1, Nat.le_refl _, by go_num, P7.out, B7.out⟩
            · simp only [mappedV, strV]
              go_upto_region 14 with fail
              have T10 := T9.set1 (.string ⟨v.toArray⟩)
              have P10 : Hid (OwnRdn (w9.setCell ⟨kx, 1, none⟩ (.string ⟨v.toArray⟩)) wo.heap.size u7 L) := hpo9.out.kept ((Gr.refl kx w9).setCell 1 _) HL.out
              have B10 : Hid (Below wo.heap.size wo (w9.setCell ⟨kx, 1, none⟩ (.string ⟨v.toArray⟩))) := B9.out.setCell (p := ⟨kx, 1, none⟩) hkw _
              obtain ⟨w10, hw10⟩ : ∃ w10, w10 = w9.setCell ⟨kx, 1, none⟩ (.string ⟨v.toArray⟩) := ⟨_, rfl⟩
              rw [← hw10] at T10 P10 B10 ⊢
              have y0 := T10.c0
              have y1 := T10.c1
              clear hw10 x0 x1 x2 T9
              have hsz10 := B10.out.size
              go_wp2_with (at_builtin; refine wpList_append_own _ rfl _ _ 83 rfl wo.heap.size 85 i1 (.agg #[.string ⟨#[]⟩, .string ⟨#[]⟩]) 2 32 Tryz.underlying83 hi1 ha0 ha1 ha2 rfl (by decide) _ _ _ rfl (P10.out.alloc _) ⟨w10.heap.size, 0, none⟩ 1 1 [.string ⟨t1.toArray⟩, .string ⟨v.toArray⟩] rfl rfl ?c1 ?c2 ?c3 ?c4 ?c5 ?_)
              case c1 => exact cell_two_new w10 _ _ 85
              case c2 => simp [Value.oneCell']
              case c3 => unfold maxLen; first | omega | (simp; omega)
              case c4 => first | omega | (simp; omega)
              case c5 => first | omega | (simp; omega)
              intro v7 w7 hown7 hgr7 _
              have B7 : Hid (Below wo.heap.size wo w7) := (B10.out.alloc hsz10 _).grown hgr7 (by simp; omega) (fun g e => own_base_le P10.out g e)
              have P7 : Hid (OwnRdn w7 wo.heap.size v7 ((R.take (k + 1)).map normPair)) := by
                show World.ownsRow _ _ _ _ _ _ _
                rw [Htk2.out, rdnV_snoc, List.length_append, hLl]
                exact hown7
              obtain ⟨y7, z7, hv7⟩ := own_slice hown7
              subst hv7
              clear hown7 hgr7
              go_wp2_with fail
              go_roundg (R.length - (k + 1))
              case measure => omega
              case rel => exact ⟨k + 1, hk1, Nat.le_refl _, by go_num, P7.out, B7.out⟩
        · have hkR : k = R.length := by omega
          subst hkR
          have hL : R.map normPair = L := by rw [← HL2.out, List.take_length]
          have hnr : normRow R = partOf L := by unfold normRow; rw [hL]
          have HPO : Hid (OwnRdn wr wo.heap.size u7 L) := hpo.out
          have HL4 : Hid (L.length ≤ 4 ∧ ∀ q ∈ L, q.1.length ≤ 4294967296 ∧ q.2.length ≤ 4294967296) := by
            refine ⟨by rw [← hL, List.length_map]; exact hR4, fun q hq => ?_⟩
            rw [← hL] at hq
            obtain ⟨q0, hq0, rfl⟩ := List.mem_map.1 hq
            have hb0 := HQ.out q0 hq0
            obtain ⟨a0, b0⟩ := q0
            refine ⟨by show (small a0).length ≤ _; rw [small_length]; simp only at hb0; omega, ?_⟩
            show ((prepR true b0).getD b0).length ≤ _
            simp only at hb0
            cases hp0 : prepR true b0 with
            | none => simp only [Option.getD_none]; omega
            | some t => have := prepR_len hp0; simp only [Option.getD_some]; omega
          have HPN : Hid (0 < (partOf L).length) := part_ne (by rw [← hL]; simpa using HRN.out)
          rw [hnr] at Htk
          clear hL hnr hpo HQ
          go_wp2_with fail
          refine (rOrdered_calls wr wo.heap.size _ L HPO.out HL4.out.1 HL4.out.2).mono ?_
          rintro e w9 ⟨u, rfl, hou, hb9⟩
          have HOU := Lib.hid hou
          have HPL : Hid ((partOf L).length ≤ 4294967296) := by
            have hc := compact_le (sortR L)
            rw [sortR_length] at hc
            have := HL4.out.1
            unfold partOf
            exact Nat.le_trans hc (by omega)
          obtain ⟨y, z2, hue⟩ := own_slice hou
          subst hue
          have hso := hbq.out.size
          have B9 := Lib.hid (hbq.out.trans (hb9.mono hso))
          have O9 : Hid (w9.ownsRow w1.heap.size 83 1 u5 i vs ∧ RowsOf w9 w1.heap.size vs D) := ⟨own_below hown.out.1 B9.out, hown.out.2.below B9.out⟩
          have hun : Hid (Under wo.heap.size vs) := fun u hu g hg => (hown.out.2.lt u hu g hg).2.1
          have hso1 := hb.out.size
          have C9 : Hid (RowsOf (w9.alloc (.cells #[.slice y (partOf L).length z2] 83)) w1.heap.size (vs ++ [.slice y (partOf L).length z2]) (D ++ [partOf L])) :=
            RowsOf.snoc ((own_mono HOU.out (by omega)).alloc _) (own_some HOU.out HPN.out) (O9.out.2.kept (World.grownBy_alloc _ _ none) O9.out.2.some) (under_ne hun.out O9.out.2 (own_mono HOU.out hso))
          clear hou hb9 HOU HPO HL4 hbq hown
          obtain ⟨m9, hm9⟩ : ∃ m, (partOf L).length = m := ⟨_, rfl⟩
          rw [hm9] at C9 HPN HPL
          simp only [hm9]
          clear hm9
          go_wp2_with (at_builtin; refine wpList_append_own _ rfl _ _ 56 rfl w1.heap.size 83 i0 (.slice none 0 0) 1 24 Tryz.underlying56 hi0 hz0 hz1 hz2 rfl (by decide) _ _ _ rfl (O9.out.1.alloc _) ⟨w9.heap.size, 0, none⟩ 1 1 [.slice y m9 z2] rfl rfl ?d1 ?d2 ?d3 ?d4 ?d5 ?_)
          case d1 => exact cell_one_new _ _ _
          case d2 => simp [Value.oneCell']
          case d3 => unfold maxLen; first | omega | (simp; omega)
          case d4 => first | omega | (simp; omega)
          case d5 => have := B9.out.size; first | omega | (simp; omega)
          intro v10 w10 hown10 hgr10 _
          have B10 : Hid (Below w1.heap.size w1 w10) := ((hb.out.trans (B9.out.mono hso1)).alloc (by have := B9.out.size; omega) _).grown hgr10 (by have := B9.out.size; simp; omega) (fun g e => own_base_le O9.out.1 g e)
          have O10 : Hid (w10.ownsRow w1.heap.size 83 1 v10 (i + 1) (vs ++ [.slice y m9 z2]) ∧ RowsOf w10 w1.heap.size (vs ++ [.slice y m9 z2]) ((d.take (i + 1)).map normRow)) := by
            refine ⟨hown10, ?_⟩
            rw [Htk.out]
            exact C9.out.kept hgr10 (C9.out.outer (O9.out.1.alloc _) C9.out.some)
          obtain ⟨y7, z7, hv7⟩ := own_slice hown10
          subst hv7
          clear hown10 hgr10
          go_wp2_with fail
          go_roundg (d.length - (i + 1))
          case measure => omega
          case rel => exact ⟨i + 1, vs ++ [Value.slice y m9 z2], hlt, Nat.le_refl _, by go_num, O10.out, B10.out⟩
    · have hid : i = d.length := by omega
      subst hid
      have HDD : Hid (D = d.map normRow) := by
        show _ = _
        rw [← HD.out, List.take_length]
      have HOD : Hid (OwnDn wo w1.heap.size u5 D) := ⟨vs, by rw [hDl]; exact hown.out.1, hown.out.2⟩
      have hprint := rPrint_calls wo w1.heap.size u5 D HOD.out (by rw [HDD.out]; exact norm_tight HN.out)
      rw [HDD.out, HP.out] at hprint
      simp only [printV, strV] at hprint ⊢
      go_wp2_with fail
      refine hprint.mono ?_
      rintro e w9 ⟨rfl, hb9⟩
      have HB9 := Lib.hid (HB1.out.trans ((hb.out.mono HB1.out.size).trans (hb9.mono (Nat.le_trans HB1.out.size hb.out.size))))
      clear hb9 hprint
      go_wp2_with fail
      go_ret
      exact ⟨rfl, HB9.out⟩
end Sy
end Go.Proofs.YthoealembhkaoaaGreatDoor
namespace Go.Proofs.YthoealembhkaoaaGreatDoor
open Go.RowKit
namespace Sy
set_option linter.unusedVariables false
set_option maxRecDepth 100000

/-- Two numbers' texts without a sign: the longer one is greater, and of like length the bytes tell. -/
def numsR (a b : List UInt8) : Int := orR (Lib.compareInt (a.length : Int) (b.length : Int)) (Lib.compareBytes a b)
theorem numsR_lt {a b : List UInt8} (h : a.length < b.length) : numsR a b = -1 := by
  unfold numsR orR Lib.compareInt
  rw [if_pos (by omega : (a.length : Int) < b.length)]; rfl
theorem numsR_gt {a b : List UInt8} (h : b.length < a.length) : numsR a b = 1 := by
  unfold numsR orR Lib.compareInt
  rw [if_neg (by omega : ¬ (a.length : Int) < b.length), if_pos (by omega : (a.length : Int) > b.length)]; rfl
theorem numsR_eq {a b : List UInt8} (h : a.length = b.length) : numsR a b = Lib.compareBytes a b := by
  unfold numsR orR Lib.compareInt
  rw [if_neg (by omega : ¬ (a.length : Int) < b.length), if_neg (by omega : ¬ (a.length : Int) > b.length)]; rfl
theorem isInt_head {l : List UInt8} (h : isInt l = true) : l ≠ [] ∧ ∀ t, l = 45 :: t → t ≠ [] ∧ t.head? ≠ some 45 := by
  have hd : digits (Lib.trimPrefix l [45]) = true := by
    unfold isInt at h
    simp only [Bool.and_eq_true] at h
    exact h.1.1
  refine ⟨fun e => ?_, fun t e => ?_⟩
  · subst e; cases hd
  · subst e
    have ht : Lib.trimPrefix (45 :: t) [45] = t := by simp [Lib.trimPrefix, Lib.hasPrefix]
    rw [ht] at hd
    refine ⟨fun e => (by subst e; cases hd), fun e => ?_⟩
    cases t with
    | nil => cases e
    | cons c m =>
      simp only [List.head?_cons, Option.some.injEq] at e
      subst e
      rw [digits_minus] at hd; cases hd
theorem no_minus {l : List UInt8} (hl : l.head? ≠ some 45) : Lib.hasPrefix l [45] = false ∧ Lib.trimPrefix l [45] = l := by
  cases l with
  | nil => exact ⟨rfl, rfl⟩
  | cons c m =>
    simp only [List.head?_cons, ne_eq, Option.some.injEq] at hl
    have h9 : ((45 : UInt8) == c) = false := by rw [beq_eq_false_iff_ne]; exact fun h => hl h.symm
    have hp : Lib.hasPrefix (c :: m) [45] = false := by simp [Lib.hasPrefix, List.isPrefixOf, h9]
    exact ⟨hp, by simp [Lib.trimPrefix, hp]⟩
theorem intCmp_pp {a b : List UInt8} (ha : a.head? ≠ some 45) (hb : b.head? ≠ some 45) : intCmp a b = numsR a b := by
  unfold intCmp
  rw [(no_minus ha).1, (no_minus hb).1, (no_minus ha).2, (no_minus hb).2]; rfl
theorem intCmp_mm (a b : List UInt8) : intCmp (45 :: a) (45 :: b) = numsR b a := by
  have e : ∀ l : List UInt8, Lib.hasPrefix (45 :: l) [45] = true ∧ Lib.trimPrefix (45 :: l) [45] = l := fun l => by simp [Lib.trimPrefix, Lib.hasPrefix]
  unfold intCmp
  rw [(e a).1, (e b).1, (e a).2, (e b).2]; rfl
theorem intCmp_mp (a : List UInt8) {b : List UInt8} (hb : b.head? ≠ some 45) : intCmp (45 :: a) b = -1 := by
  have e1 : Lib.hasPrefix (45 :: a) [45] = true := by simp [Lib.hasPrefix]
  have e2 := (no_minus hb).1
  unfold intCmp
  rw [e1, e2]
theorem intCmp_pm {a : List UInt8} (b : List UInt8) (ha : a.head? ≠ some 45) : intCmp a (45 :: b) = 1 := by
  have e1 : Lib.hasPrefix (45 :: b) [45] = true := by simp [Lib.hasPrefix]
  have e2 := (no_minus ha).1
  unfold intCmp
  rw [e1, e2]
theorem head_byte {s : ByteArray} (h : 0 < s.size) : s.data.toList.head? = some (s[0]'h) := by
  have := rest_lt (s := s) (i := 0) h
  have e : s.data.toList = s[0] :: rest s 1 := by simpa [rest] using this
  rw [e]; rfl

set_option maxHeartbeats 2000000 in
theorem rNum_plain (a b : ByteArray) (w : World) (ha : a.size ≤ 140737488351232) (hb : b.size ≤ 140737488351232) (pa : 0 < a.size) (pb : 0 < b.size) (qa : (((a[0]'pa).toNat : Int) == 45) = false) (qb : (((b[0]'pb).toNat : Int) == 45) = false) :
    Calls Tryz.prog 46 #[.string a, .string b] w fun e w' => e = .returned (.int .i64 (numsR a.data.toList b.data.toList)) ∧ ∃ n, w' = w.drewN n := by
  have la : a.data.toList.length = a.size := by simp
  have lb : b.data.toList.length = b.size := by simp
  have hpa : (0 : Int) < (a.size : Int) := by omega
  have hpb : (0 : Int) < (b.size : Int) := by omega
  rcases Nat.lt_trichotomy a.size b.size with h | h | h
  · rw [numsR_lt (by omega)]
    have q1 : decide ((a.size : Int) < (b.size : Int)) = true := by simpa using h
    clear la lb
    go_enter Tryz.func46, Tryz.ntmps46
    go_wp2_with fail
    go_quiet (fail)
    go_wp2_with fail
    go_ret
    exact ⟨rfl, nq, rfl⟩
  · rw [numsR_eq (by omega)]
    have hc := fun W => rCompare_calls a b W (by omega) (by omega)
    have q1 : decide ((a.size : Int) < (b.size : Int)) = false := by rw [decide_eq_false_iff_not]; omega
    have q2 : decide ((a.size : Int) > (b.size : Int)) = false := by rw [decide_eq_false_iff_not]; omega
    have n1 : ¬ a.size < b.size := by omega
    have n2 : ¬ b.size < a.size := by omega
    clear la lb h
    go_enter Tryz.func46, Tryz.ntmps46
    go_wp2_with fail
    go_quiet (fail)
    go_wp2_with fail
    refine (hc _).mono ?_
    rintro e w1 ⟨rfl, n1, rfl⟩
    go_wp2_with fail
    go_ret
    exact ⟨rfl, nq + n1, rfl⟩
  · rw [numsR_gt (by omega)]
    have q1 : decide ((a.size : Int) < (b.size : Int)) = false := by rw [decide_eq_false_iff_not]; omega
    have q2 : decide ((a.size : Int) > (b.size : Int)) = true := by rw [decide_eq_true_iff]; omega
    clear la lb
    go_enter Tryz.func46, Tryz.ntmps46
    go_wp2_with fail
    go_quiet (fail)
    go_wp2_with fail
    go_ret
    exact ⟨rfl, nq, rfl⟩

set_option maxHeartbeats 2000000 in
theorem rNum_calls (a b : ByteArray) (w : World) (ha : a.size ≤ 140737488351232) (hb : b.size ≤ 140737488351232) (ia : isInt a.data.toList = true) (ib : isInt b.data.toList = true) :
    Calls Tryz.prog 46 #[.string a, .string b] w fun e w' => e = .returned (.int .i64 (intCmp a.data.toList b.data.toList)) ∧ ∃ n, w' = w.drewN n := by
  have H : ∀ s : ByteArray, isInt s.data.toList = true → ∃ pa : 0 < s.size, ((((s[0]'pa).toNat : Int) == 45) = false ∧ s.data.toList.head? ≠ some 45) ∨ ((((s[0]'pa).toNat : Int) == 45) = true ∧ s.data.toList = 45 :: (s.extract 1 s.size).data.toList ∧ ∃ p1 : 0 < (s.extract 1 s.size).size, ((((s.extract 1 s.size)[0]'p1).toNat : Int) == 45) = false) := by
    intro s hi
    obtain ⟨h1, h2⟩ := isInt_head hi
    have hpos : 0 < s.size := by
      rcases Nat.eq_zero_or_pos s.size with h | h
      · exact absurd (List.length_eq_zero_iff.1 (by simpa using h)) h1
      · exact h
    refine ⟨hpos, ?_⟩
    have hh := head_byte hpos
    by_cases h45 : ((s[0]'hpos).toNat : Int) = 45
    · have e1 : (s.extract 1 s.size).data.toList = rest s 1 := by rw [Lib.extract_data, List.take_of_length_le (by simp)]
      have he : s.data.toList = s[0] :: rest s 1 := by have := rest_lt (s := s) (i := 0) hpos; simpa [rest] using this
      have hc : s[0] = 45 := u8_eq (n := 45) (by omega) h45
      rw [hc] at he
      obtain ⟨h3, h4⟩ := h2 _ he
      rw [← e1] at h3 h4 he
      have hp1 : 0 < (s.extract 1 s.size).size := by
        rcases Nat.eq_zero_or_pos (s.extract 1 s.size).size with h | h
        · exact absurd (List.length_eq_zero_iff.1 (by simpa using h)) h3
        · exact h
      refine .inr ⟨by simpa using h45, he, hp1, ?_⟩
      rw [head_byte hp1] at h4
      rw [beq_eq_false_iff_ne]
      exact fun e => h4 (congrArg some (u8_eq (n := 45) (by omega) e))
    · refine .inl ⟨by simpa using h45, ?_⟩
      rw [hh]
      exact fun e => h45 (by injection e with e; rw [e]; rfl)
  obtain ⟨pa, h1⟩ := H a ia
  obtain ⟨pb, h2⟩ := H b ib
  have hpa : (0 : Int) < (a.size : Int) := by omega
  have hpb : (0 : Int) < (b.size : Int) := by omega
  rcases h1 with ⟨qa, na⟩ | ⟨qa, ea, p1, za⟩
  · rcases h2 with ⟨qb, nb⟩ | ⟨qb, eb, p2, zb⟩
    · rw [intCmp_pp na nb]
      exact rNum_plain a b w ha hb pa pb qa qb
    · rw [eb, intCmp_pm _ na]
      clear eb na zb H ia ib
      go_enter Tryz.func46, Tryz.ntmps46
      go_wp2_with fail
      go_quiet (fail)
      go_wp2_with fail
      go_ret
      exact ⟨rfl, nq, rfl⟩
  · rcases h2 with ⟨qb, nb⟩ | ⟨qb, eb, p2, zb⟩
    · rw [ea, intCmp_mp _ nb]
      clear ea nb za H ia ib
      go_enter Tryz.func46, Tryz.ntmps46
      go_wp2_with fail
      go_quiet (fail)
      go_wp2_with fail
      go_ret
      exact ⟨rfl, nq, rfl⟩
    · rw [ea, eb, intCmp_mm]
      have hx1 : (a.extract 1 a.size).size ≤ 140737488351232 := by simp [ByteArray.size_extract]; omega
      have hx2 : (b.extract 1 b.size).size ≤ 140737488351232 := by simp [ByteArray.size_extract]; omega
      have hr : ∀ (W : World) (n : Nat), Calls Tryz.prog 46 #[.string (b.extract 1 b.size), .string (a.extract 1 a.size)] (W.drewN n) fun e w'' => e = .returned (.int .i64 (numsR (b.extract 1 b.size).data.toList (a.extract 1 a.size).data.toList)) ∧ ∃ m, w'' = W.drewN m := fun W n =>
        (rNum_plain _ _ _ hx2 hx1 p2 p1 zb za).mono fun e w' h => ⟨h.1, by obtain ⟨m, hm⟩ := h.2; exact ⟨n + m, by rw [hm, drewN_two]⟩⟩
      have l1 : (1 : Int) ≤ (a.size : Int) := by omega
      have l2 : (1 : Int) ≤ (b.size : Int) := by omega
      clear ea eb za zb H ia ib hx1 hx2 p1 p2
      go_enter Tryz.func46, Tryz.ntmps46
      go_wp2_with fail
      go_quiet (fail)
      obtain ⟨w1, hw1⟩ : ∃ w1, w1 = w.drewN nq := ⟨_, rfl⟩
      rw [← hw1]
      have HW := Lib.hid hw1
      clear hw1
      go_wp2_with fail
      go_quiet ((go_at_call 46; exact hr _ _))
      go_wp2_with fail
      go_ret
      exact ⟨rfl, _, by rw [HW.out, drewN_two]⟩
end Sy
end Go.Proofs.YthoealembhkaoaaGreatDoor
