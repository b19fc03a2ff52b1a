import Derived.Test.YthoealembhkaoaaGreatDoorFm17
import Derived.Test.YthoealembhkaoaaGreatDoorFm11
namespace Go.Proofs.YthoealembhkaoaaGreatDoor
open Go.RowKit
namespace Sy
set_option linter.unusedVariables false
set_option maxRecDepth 100000

theorem info21 : (Tryz.prog.info? 21).map (fun i => (i.zero, i.size, i.bytes)) = some (some (.int .i32 0), 1, 4) := by kernel_rfl
def runesV (l : List Int) : List Value := l.map (Value.int .i32)
def sgStep (acc : List Int) (r : Int) : List Int := if r = 32 ∧ acc.getLast? = some 32 then acc else acc ++ [r]
def singleR (l : List Int) : List Int := l.foldl sgStep []
theorem runes_own {w : World} {base : Nat} {v : Value} {l : List Int} (h : w.ownsRow base 21 1 v l.length (runesV l)) : RunesAt w v l := by
  rcases h.2 with ⟨rfl, h0⟩ | ⟨g, cap, cur, rfl, hgb, hh, hnc, hcm, hsz, htk⟩
  · exact Or.inl ⟨rfl, List.length_eq_zero_iff.1 h0⟩
  · exact Or.inr ⟨g, 0, cap, rfl, hnc, (h.lt g rfl).2, fun k hk => by rw [Nat.zero_add]; exact own_cells h k _ (by simp [runesV, hk])⟩
set_option maxHeartbeats 4000000 in
theorem rSingle_calls (l : List Int) (v : Value) (w : World) (h : RunesAt w v l) (hl : l.length ≤ 4294967296) :
    Calls Tryz.prog 77 #[v] w fun e w' => ∃ u, e = .returned u ∧ w'.ownsRow w.heap.size 21 1 u (singleR l).length (runesV (singleR l)) ∧ Below w.heap.size w w' := by
  obtain ⟨i0, hi, hz0, hz1, hz2⟩ := info_parts info21
  obtain ⟨r, hr⟩ : ∃ r, singleR l = r := ⟨_, rfl⟩
  rw [hr]
  have Hr := Lib.hid hr
  clear hr
  rcases h with ⟨rfl, rfl⟩ | ⟨g, o, c, rfl, hlc, hg, hc⟩
  · have hr0 : r = [] := Hr.out.symm
    subst hr0
    go_enter Tryz.func77, Tryz.ntmps77
    go_wp2_with fail
    go_loopg [3, 4] 0 (fun k pv iv wr => (pv = .slice none 0 0 ∧ iv = .int .i64 0) ∧ wr = w)
    case atStart => exact ⟨⟨rfl, rfl⟩, rfl⟩
    case round =>
      obtain ⟨⟨rfl, rfl⟩, rfl⟩ := hrel
      go_wp2_with fail
      go_ret
      exact ⟨_, rfl, World.ownsRow_nil _ _ _ _, Below.refl _ _⟩
  have HC := Lib.hid hc
  clear hc
  go_enter Tryz.func77, Tryz.ntmps77
  go_wp2_with fail
  go_loopg [3, 4] l.length (fun k pv iv wr => ∃ (i : Nat) (acc : List Int), i ≤ l.length ∧ l.length - i ≤ k ∧ acc.length ≤ i ∧ iv = .int .i64 i ∧ Hid (wr.ownsRow w.heap.size 21 1 pv acc.length (runesV acc)) ∧ Hid ((l.drop i).foldl sgStep acc = r) ∧ Hid (Below w.heap.size w wr))
  case atStart => exact ⟨0, [], Nat.zero_le _, Nat.le_refl _, Nat.le_refl _, rfl, World.ownsRow_nil _ _ _ _, Hr.out, Below.refl _ _⟩
  case round =>
    obtain ⟨i, acc, hi', hk, hai, rfl, hown, hI, hb⟩ := hrel
    obtain ⟨y, z, hv⟩ := own_slice hown.out
    subst hv
    by_cases hlt : i < l.length
    · have hd := List.drop_eq_getElem_cons hlt
      obtain ⟨a, ha⟩ : ∃ a, l[i] = a := ⟨_, rfl⟩
      have c0 := HC.out i hlt
      rw [ha] at c0 hd
      have c0 : wr.cell? ⟨g, o + i, none⟩ = some (.int .i32 a) := (hb.out.cell (p := ⟨g, o + i, none⟩) hg).trans c0
      have hI2 : Hid ((l.drop (i + 1)).foldl sgStep (sgStep acc a) = r) := by show _ = r; rw [← hI.out, hd]; rfl
      have hws := hb.out.size
      clear hd ha hI
      have Happ : ¬ (a = 32 ∧ acc.getLast? = some 32) → Hid ((l.drop (i + 1)).foldl sgStep (acc ++ [a]) = r) := by
        intro h
        have := hI2.out
        unfold sgStep at this
        rw [if_neg h] at this
        exact this
      by_cases h32 : a = 32
      · subst h32
        rcases hrev : acc.getLast? with _ | b
        · have hz : acc = [] := by simpa using hrev
          have HA := Happ (fun h => by rw [hz] at h; cases h.2)
          subst hz
          clear hI2 Happ hrev
          simp only [List.length_nil] at hown hai ⊢
          have Hn : Hid (([] : List Int).length = 0) := rfl
          go_wp2_with (at_builtin; refine wpList_append_own _ rfl _ _ 77 rfl w.heap.size 21 i0 (.int .i32 0) 1 4 Tryz.underlying77 hi hz0 hz1 hz2 rfl (by decide) _ _ _ rfl (hown.out.alloc _) ⟨wr.heap.size, 0, none⟩ 1 1 [.int .i32 32] rfl rfl (cell_one_new _ _ _) (by simp [Value.oneCell']) (by unfold maxLen; omega) (by omega) (by simp; omega) ?_; intro v2 w2 hown2 hgr2 _)
          all_goals
            have Hb2 := Lib.hid (((hb.out.alloc hb.out.size _).grown hgr2 (by have := hb.out.size; simp; omega) (own_base_le hown.out)))
            have HO2 : Hid (w2.ownsRow w.heap.size 21 1 v2 1 (runesV ([] ++ [32]))) := by
              show w2.ownsRow _ _ _ _ _ _
              rw [runesV, List.map_append]
              exact hown2
            clear hgr2 hown2
            go_wp2_with fail
            go_roundg (l.length - (i + 1))
            case measure => omega
            case rel => exact ⟨i + 1, [] ++ [32], by omega, Nat.le_refl _, by rw [List.length_append, Hn.out]; simp, by go_num, by rw [List.length_append, Hn.out]; exact HO2.out, HA.out, Hb2.out⟩
        · have hpos : 0 < acc.length := by
            rcases acc with _ | _
            · cases hrev
            · simp
          obtain ⟨n, hn⟩ : ∃ n, acc.length = n + 1 := ⟨acc.length - 1, by omega⟩
          have hlast : acc[n]? = some b := by
            rw [List.getLast?_eq_getElem?, hn, Nat.add_sub_cancel] at hrev
            exact hrev
          have hcell : ∃ g2, y = some ⟨g2, 0, none⟩ ∧ wr.cell? ⟨g2, n, none⟩ = some (.int .i32 b) := by
            rcases hown.out.2 with ⟨hv, h0⟩ | ⟨g2, cap, cur, hv, hgb, hh, hnc, hcm, hsz, htk⟩
            · omega
            · injection hv with hv1 hv2 hv3
              subst hv1
              exact ⟨g2, rfl, own_cells hown.out n _ (by rw [runesV, List.getElem?_map, hlast]; rfl)⟩
          obtain ⟨g2, rfl, cb⟩ := hcell
          have hnz := (hown.out.lt g2 rfl)
          have Hown2 := hown
          rw [hn] at hown hai ⊢
          by_cases hb32 : b = 32
          · have HS : Hid ((l.drop (i + 1)).foldl sgStep acc = r) := by
              have := hI2.out
              unfold sgStep at this
              rw [if_pos ⟨rfl, by rw [hrev, hb32]⟩] at this
              exact this
            subst hb32
            clear hI2 Happ hlast hpos hrev
            go_wp2_with fail
            go_roundg (l.length - (i + 1))
            case measure => omega
            case rel => exact ⟨i + 1, acc, by omega, Nat.le_refl _, by omega, by go_num, by rw [hn]; exact hown.out, HS.out, hb.out⟩
          · have HA := Happ (fun h => hb32 (by rw [hrev] at h; exact Option.some.inj h.2))
            have q : (b == 32) = false := by simpa using hb32
            have q0 : ((n : Int) + 1 == 0) = false := by rw [beq_eq_false_iff_ne]; omega
            have Hn := Lib.hid hn
            clear hI2 Happ hlast hpos hrev hb32 hn
            go_wp2_with (at_builtin; refine wpList_append_own _ rfl _ _ 77 rfl w.heap.size 21 i0 (.int .i32 0) 1 4 Tryz.underlying77 hi hz0 hz1 hz2 rfl (by decide) _ _ _ rfl (hown.out.alloc _) ⟨wr.heap.size, 0, none⟩ 1 1 [.int .i32 32] rfl rfl (cell_one_new _ _ _) (by simp [Value.oneCell']) (by unfold maxLen; omega) (by omega) (by simp; omega) ?_; intro v2 w2 hown2 hgr2 _)
            all_goals
              have Hb2 := Lib.hid (((hb.out.alloc hb.out.size _).grown hgr2 (by have := hb.out.size; simp; omega) (own_base_le hown.out)))
              have HO2 : Hid (w2.ownsRow w.heap.size 21 1 v2 (n + 1 + 1) (runesV (acc ++ [32]))) := by
                show w2.ownsRow _ _ _ _ _ _
                rw [runesV, List.map_append]
                exact hown2
              clear hgr2 hown2
              go_wp2_with fail
              go_roundg (l.length - (i + 1))
              case measure => omega
              case rel => exact ⟨i + 1, acc ++ [32], by omega, Nat.le_refl _, by rw [List.length_append, Hn.out]; simp; omega, by go_num, by rw [List.length_append, Hn.out]; exact HO2.out, HA.out, Hb2.out⟩
      · have HA := Happ (fun h => h32 h.1)
        have q : (a == 32) = false := by simpa using h32
        clear hI2 Happ
        obtain ⟨n, hn⟩ : ∃ n, acc.length = n := ⟨_, rfl⟩
        rw [hn] at hown hai ⊢
        have Hn := Lib.hid hn
        clear hn
        go_wp2_with (at_builtin; refine wpList_append_own _ rfl _ _ 77 rfl w.heap.size 21 i0 (.int .i32 0) 1 4 Tryz.underlying77 hi hz0 hz1 hz2 rfl (by decide) _ _ _ rfl (hown.out.alloc _) ⟨wr.heap.size, 0, none⟩ 1 1 [.int .i32 a] rfl rfl (cell_one_new _ _ _) (by simp [Value.oneCell']) (by unfold maxLen; omega) (by omega) (by simp; omega) ?_; intro v2 w2 hown2 hgr2 _)
        all_goals
          have Hb2 := Lib.hid (((hb.out.alloc hb.out.size _).grown hgr2 (by have := hb.out.size; simp; omega) (own_base_le hown.out)))
          have HO2 : Hid (w2.ownsRow w.heap.size 21 1 v2 (n + 1) (runesV (acc ++ [a]))) := by
            show w2.ownsRow _ _ _ _ _ _
            rw [runesV, List.map_append]
            exact hown2
          clear hgr2 hown2
          go_wp2_with fail
          go_roundg (l.length - (i + 1))
          case measure => omega
          case rel => exact ⟨i + 1, acc ++ [a], by omega, Nat.le_refl _, by rw [List.length_append, Hn.out]; simp; omega, by go_num, by rw [List.length_append, Hn.out]; exact HO2.out, HA.out, Hb2.out⟩
    · have hr2 : acc = r := by
        have := hI.out
        rw [List.drop_eq_nil_iff.2 (by omega)] at this
        exact this
      subst hr2
      obtain ⟨n, hn⟩ : ∃ n, acc.length = n := ⟨_, rfl⟩
      have Hn := Lib.hid hn
      rw [hn] at hown ⊢
      clear hn
      go_wp2_with fail
      go_ret
      exact ⟨_, rfl, by rw [Hn.out]; exact hown.out, hb.out⟩
end Sy
end Go.Proofs.YthoealembhkaoaaGreatDoor
namespace Go.Proofs.YthoealembhkaoaaGreatDoor
open Go.RowKit
namespace Sy
set_option linter.unusedVariables false
set_option maxRecDepth 100000

theorem RunesAt.open {w : World} {v : Value} {l : List Int} (h : RunesAt w v l) : ∃ y c, v = .slice y l.length c ∧ ∀ k (hk : k < l.length), ∃ g o, y = some ⟨g, o, none⟩ ∧ g < w.heap.size ∧ w.cell? ⟨g, o + k, none⟩ = some (.int .i32 l[k]) := by
  rcases h with ⟨rfl, rfl⟩ | ⟨g, o, c, rfl, hlc, hg, hc⟩
  · exact ⟨none, 0, rfl, fun k hk => absurd hk (by simp)⟩
  · exact ⟨_, c, rfl, fun k hk => ⟨g, o, rfl, hg, hc k hk⟩⟩
set_option maxHeartbeats 4000000 in
theorem rTextOf_calls (l : List Int) (v : Value) (w : World) (h : RunesAt w v l) (hl : l.length ≤ 4294967296) (hv : ∀ r ∈ l, Lib.validRune r = true) :
    Calls Tryz.prog 78 #[v] w fun e w' => e = .returned (strV (enc l)) ∧ Below w.heap.size w w' := by
  obtain ⟨i0, hi0, hz0, hz1, hz2⟩ := info_parts info5
  obtain ⟨r, hr⟩ : ∃ r, enc l = r := ⟨_, rfl⟩
  rw [hr]
  have Hr := Lib.hid hr
  have HV := Lib.hid hv
  clear hr hv
  obtain ⟨y, c, rfl, hc⟩ := h.open
  have HC := Lib.hid hc
  clear hc h
  have hown0 : Hid ((w.alloc (.cells #[] 5)).ownsRow w.heap.size 5 1 (.slice (some ⟨w.heap.size, 0, none⟩) 0 0) ([] : List UInt8).length (bytesV [])) :=
    own_new w w.heap.size #[] 5 1 0 (Nat.le_refl _) (by unfold maxLen; omega) rfl
  have hb0 : Hid (Below w.heap.size w (w.alloc (.cells #[] 5))) := alc_below _ _
  go_enter Tryz.func78, Tryz.ntmps78
  go_wp2_with fail
  go_loopg [3, 4] l.length (fun k pv iv wr => ∃ (i : Nat) (acc : List UInt8), i ≤ l.length ∧ l.length - i ≤ k ∧ acc.length ≤ 4 * i ∧ Hid (pv ≠ .slice none 0 0) ∧ iv = .int .i64 i ∧ Hid (wr.ownsRow w.heap.size 5 1 pv acc.length (bytesV acc)) ∧ Hid (acc ++ enc (l.drop i) = r) ∧ Hid (Below w.heap.size w wr))
  case atStart => exact ⟨0, [], Nat.zero_le _, Nat.le_refl _, Nat.le_refl _, (by intro h; cases h), rfl, hown0.out, Hr.out, hb0.out⟩
  case round =>
    obtain ⟨i, acc, hi', hk, hai, hne, rfl, hown, hI, hb⟩ := hrel
    obtain ⟨y2, z2, hv2⟩ := own_slice hown.out
    subst hv2
    by_cases hlt : i < l.length
    · have hd := List.drop_eq_getElem_cons hlt
      have hva := HV.out l[i] (List.getElem_mem hlt)
      obtain ⟨g, o, hy, hg, c0⟩ := HC.out i hlt
      subst hy
      obtain ⟨a, ha⟩ : ∃ a, l[i] = a := ⟨_, rfl⟩
      rw [ha] at c0 hd hva
      have c0 : wr.cell? ⟨g, o + i, none⟩ = some (.int .i32 a) := (hb.out.cell (p := ⟨g, o + i, none⟩) hg).trans c0
      have HI2 : Hid ((acc ++ runeB a) ++ enc (l.drop (i + 1)) = r) := by show _ = r; rw [← hI.out, hd, enc_cons, List.append_assoc]
      have hp := rPutRune_calls a wr hva
      have h4 : (runeB a).length ≤ 4 := runeB_le a
      have hws := hb.out.size
      obtain ⟨n, hn⟩ : ∃ n, acc.length = n := ⟨_, rfl⟩
      have Hn := Lib.hid hn
      rw [hn] at hown hai ⊢
      clear hd ha hI hva hn
      generalize runeB a = B at *
      go_wp2_with fail
      refine hp.mono ?_
      rintro e w1 ⟨rfl, hb1⟩
      simp only [strV]
      have HO1 := Lib.hid (own_below hown.out hb1)
      have HB1 := Lib.hid (hb.out.trans (hb1.mono hws))
      have hB : (⟨B.toArray⟩ : ByteArray).size = B.length := by simp [ByteArray.size]
      clear hb1 hp
      go_wp2_with (at_builtin; refine Lib.wpList_append_own_string _ rfl _ _ 88 9 rfl w.heap.size 5 i0 Tryz.underlying88 Tryz.underlying9 hi0 hz0 hz1 hz2 _ _ _ rfl HO1.out ⟨B.toArray⟩ rfl (by unfold maxLen; omega) (by omega) HB1.out.size ?_; intro v7 w7 hown7 hgr7 hnn)
      all_goals
        have HB7 := Lib.hid (HB1.out.grown hgr7 HB1.out.size (own_base_le HO1.out))
        have HO7 : Hid (w7.ownsRow w.heap.size 5 1 v7 (acc ++ B).length (bytesV (acc ++ B))) := by
          show w7.ownsRow _ _ _ _ _ _
          have e1 : (acc ++ B).length = n + (⟨B.toArray⟩ : ByteArray).size := by rw [List.length_append, Hn.out, hB]
          have e2 : bytesV (acc ++ B) = bytesV acc ++ Lib.strCells ⟨B.toArray⟩ := by simp [bytesV, Lib.strCells]
          rw [e1, e2]
          exact hown7
        have HN7 : Hid (v7 ≠ .slice none 0 0) := fun h => hne.out (by have := (hnn.1 h).1; rw [← Hn.out] at this; exact this)
        clear hgr7 hown7 hnn
        go_wp2_with fail
        go_roundg (l.length - (i + 1))
        case measure => omega
        case rel => exact ⟨i + 1, acc ++ B, by omega, Nat.le_refl _, by rw [List.length_append, Hn.out]; omega, HN7.out, by go_num, HO7.out, HI2.out, HB7.out⟩
    · have hr2 : acc = r := by
        have := hI.out
        rw [List.drop_eq_nil_iff.2 (by omega)] at this
        simpa [enc] using this
      subst hr2
      rcases hown.out.2 with ⟨hv, h0⟩ | ⟨g2, cap, cur, hv, hgb, hh, hnc, hcm, hsz, htk⟩
      · injection hv with hv1 hv2 hv3
        exact absurd (by rw [hv1, hv3, h0]) hne.out
      · injection hv with hv1 hv2 hv3
        subst hv1
        have hc := convert_own hown.out (Nat.le_refl _) z2
        rw [List.take_of_length_le (Nat.le_refl _)] at hc
        obtain ⟨n, hn⟩ : ∃ n, acc.length = n := ⟨_, rfl⟩
        rw [hn] at hc hown ⊢
        clear hh hnc hcm hsz htk hn hv2 hv3
        go_wp2_with fail
        go_ret
        exact ⟨rfl, hb.out⟩
end Sy
end Go.Proofs.YthoealembhkaoaaGreatDoor
namespace Go.Proofs.YthoealembhkaoaaGreatDoor
open Go.RowKit
namespace Sy
set_option linter.unusedVariables false
set_option maxRecDepth 100000

def mapsGo (fold : Bool) : Nat → List Int → List UInt8 → Option (List Int)
  | 0, acc, _ => some acc
  | n + 1, acc, l =>
    if l = [] then some acc else
    if (mapR ((Lib.decodeL l).1 : Int)).2.2 = true then none
    else if (mapR ((Lib.decodeL l).1 : Int)).2.1 = false then mapsGo fold n acc (l.drop (Lib.decodeL l).2)
    else mapsGo fold n (acc ++ [laidR fold (mapR ((Lib.decodeL l).1 : Int)).1]) (l.drop (Lib.decodeL l).2)
/-- A text's characters, as numbers, mapped. -/
def mapsR (fold : Bool) (l : List UInt8) : Option (List Int) := if Lib.validD l then mapsGo fold l.length [] l else none
theorem rMap_eq (r : Int) : rMap r = ((mapR r).1, if (mapR r).2.2 then 2 else if (mapR r).2.1 then 0 else 1) := by
  unfold rMap mapR
  cases isBlank r <;> cases goes r <;> cases refused r <;> rfl
def MapsPost (r : Option (List Int)) (w : World) (e : Ending) (w' : World) : Prop :=
  match r with
  | some rs => ∃ v, e = .returned (.tuple #[v, .bool true]) ∧ w'.ownsRow w.heap.size 21 1 v rs.length (runesV rs) ∧ Below w.heap.size w w'
  | none => e = .returned (.tuple #[.slice none 0 0, .bool false]) ∧ Below w.heap.size w w'
theorem maps_none {r : Option (List Int)} {w w' : World} (h : r = none) (hb : Below w.heap.size w w') : MapsPost r w (.returned (.tuple #[.slice none 0 0, .bool false])) w' := by
  subst h; exact ⟨rfl, hb⟩
theorem maps_some {r : Option (List Int)} {rs : List Int} {v : Value} {w w' : World} (h : r = some rs) (ho : w'.ownsRow w.heap.size 21 1 v rs.length (runesV rs)) (hb : Below w.heap.size w w') : MapsPost r w (.returned (.tuple #[v, .bool true])) w' := by
  subst h; exact ⟨v, rfl, ho, hb⟩
set_option maxHeartbeats 4000000 in
theorem rMapped_calls (s : ByteArray) (fold : Bool) (w : World) (hs : s.size ≤ 4294967296) :
    Calls Tryz.prog 74 #[.string s, .bool fold] w (MapsPost (mapsR fold s.data.toList) w) := by
  obtain ⟨i0, hi, hz0, hz1, hz2⟩ := info_parts info21
  obtain ⟨r, hr⟩ : ∃ r, mapsR fold s.data.toList = r := ⟨_, rfl⟩
  rw [hr]
  have Hr := Lib.hid hr
  clear hr
  have ht := rText_calls s w hs
  have hR : Hid (r = if Lib.validD s.data.toList then mapsGo fold s.data.toList.length [] s.data.toList else none) := Hr.out.symm
  clear Hr
  generalize Lib.validD s.data.toList = vd at *
  go_enter Tryz.func74, Tryz.ntmps74
  go_wp2_with fail
  refine ht.mono ?_
  rintro e w1 ⟨rfl, hw⟩
  have hw := hw.symm
  subst hw
  clear ht
  cases vd with
  | false =>
    go_wp2_with fail
    go_ret2
    exact maps_none (by rw [hR.out]; rfl) (Below.refl _ _)
  | true =>
    go_wp2_with fail
    go_loopg [6, 7] s.size (fun k pv iv wr => ∃ (i n : Nat) (acc : List Int), i ≤ s.size ∧ s.size - i ≤ k ∧ acc.length ≤ i ∧ iv = .int .i64 i ∧ Hid (wr.ownsRow w.heap.size 21 1 pv acc.length (runesV acc)) ∧ Hid ((rest s i).length ≤ n ∧ mapsGo fold n acc (rest s i) = r) ∧ Hid (Below w.heap.size w wr))
    case atStart => exact ⟨0, s.data.toList.length, [], Nat.zero_le _, Nat.le_refl _, Nat.le_refl _, rfl, World.ownsRow_nil _ _ _ _, ⟨Nat.le_refl _, by rw [hR.out]; rfl⟩, Below.refl _ _⟩
    case round =>
      obtain ⟨i, n, acc, hi', hk, hai, rfl, hown, hI, hb⟩ := hrel
      obtain ⟨y2, z2, hv2⟩ := own_slice hown.out
      subst hv2
      obtain ⟨nl, hn⟩ : ∃ nl, acc.length = nl := ⟨_, rfl⟩
      have Hn := Lib.hid hn
      rw [hn] at hown hai ⊢
      clear hn
      by_cases hlt : i < s.size
      · obtain ⟨p1, p2⟩ := decode_in s i hlt
        have hd := rRune_calls s i wr hlt hs
        have hm := rMap_calls ((Utf8.decode s i).1 : Int) wr
        rw [rMap_eq] at hm
        obtain ⟨n, rfl⟩ : ∃ m, n = m + 1 := ⟨n - 1, by have := hI.out.1; rw [rest_lt hlt] at this; simp at this; omega⟩
        have hI2 := hI.out.2
        have hne : rest s i ≠ [] := by rw [rest_lt hlt]; simp
        have hdl : Lib.decodeL (rest s i) = Utf8.decode s i := Lib.decodeL_drop s i
        simp only [mapsGo, if_neg hne, hdl] at hI2
        have hdr : (rest s i).drop (Utf8.decode s i).2 = rest s (i + (Utf8.decode s i).2) := by simp [rest]
        rw [hdr] at hI2
        have hlen : (rest s (i + (Utf8.decode s i).2)).length ≤ n := by
          have h1 := hI.out.1
          rw [← hdr, List.length_drop]; omega
        have Hlen := Lib.hid hlen
        have hst := @mapR_stays ((Utf8.decode s i).1 : Int)
        clear hI hne hdl hdr hlen
        generalize Utf8.decode s i = d at *
        obtain ⟨dr, dn⟩ := d
        simp only [runeV] at hd p1 p2 hm hst hI2
        generalize mapR (dr : Int) = m at *
        obtain ⟨m1, m2, m3⟩ := m
        simp only at hm hst hI2
        have hws := hb.out.size
        cases m3 with
        | true =>
          simp only [if_true] at hm hI2
          have HI := Lib.hid hI2
          clear hst hI2
          go_wp2_with fail
          refine hd.mono ?_
          rintro e w1 ⟨rfl, hq⟩
          have hq := hq.symm
          subst hq
          clear hd
          go_wp2_with fail
          refine hm.mono ?_
          rintro e w2 ⟨rfl, hb2⟩
          have HB2 := Lib.hid (hb.out.trans (hb2.mono hws))
          clear hm hb2
          go_wp2_with fail
          go_ret2
          exact maps_none HI.out.symm HB2.out
        | false =>
          cases m2 with
          | false =>
            simp only [Bool.false_eq_true, if_false, if_true] at hm hI2
            have HI := Lib.hid hI2
            clear hst hI2
            go_wp2_with fail
            refine hd.mono ?_
            rintro e w1 ⟨rfl, hq⟩
            have hq := hq.symm
            subst hq
            clear hd
            go_wp2_with fail
            refine hm.mono ?_
            rintro e w2 ⟨rfl, hb2⟩
            have HB2 := Lib.hid (hb.out.trans (hb2.mono hws))
            have HO2 := Lib.hid (own_below hown.out hb2)
            clear hm hb2
            go_wp2_with fail
            go_roundg (s.size - (i + dn))
            case measure => omega
            case rel => exact ⟨i + dn, n, acc, p2, Nat.le_refl _, by rw [Hn.out]; omega, by go_num, by rw [Hn.out]; exact HO2.out, ⟨Hlen.out, HI.out⟩, HB2.out⟩
          | true =>
            simp only [Bool.false_eq_true, if_false, if_true, Bool.true_eq_false] at hm hI2
            obtain ⟨v1, v2, v3⟩ := hst rfl (by omega) rfl
            have hf := fun W : World => rFold_calls m1 W v2 v3
            have HI := Lib.hid hI2
            clear hst hI2 v1
            cases fold with
            | true =>
              simp only [laidR, if_true] at HI
              go_wp2_with fail
              refine hd.mono ?_
              rintro e w1 ⟨rfl, hq⟩
              have hq := hq.symm
              subst hq
              clear hd
              go_wp2_with fail
              refine hm.mono ?_
              rintro e w2 ⟨rfl, hb2⟩
              have HB2 := Lib.hid (hb.out.trans (hb2.mono hws))
              have HO2 := Lib.hid (own_below hown.out hb2)
              clear hm hb2
              generalize foldR m1 = fm at *
              go_wp2_with fail
              refine (hf _).mono ?_
              rintro e w3 ⟨rfl, hb3⟩
              have HB3 := Lib.hid (HB2.out.trans (hb3.mono HB2.out.size))
              have HO3 := Lib.hid (own_below HO2.out hb3)
              have hs3 := HB3.out.size
              clear hf hb3
              go_wp2_with (at_builtin; refine wpList_append_own _ rfl _ _ 77 rfl w.heap.size 21 i0 (.int .i32 0) 1 4 Tryz.underlying77 hi hz0 hz1 hz2 rfl (by decide) _ _ _ rfl (HO3.out.alloc _) ⟨w3.heap.size, 0, none⟩ 1 1 [.int .i32 fm] rfl rfl (cell_one_new _ _ _) (by simp [Value.oneCell']) (by unfold maxLen; omega) (by omega) (by simp; omega) ?_; intro v2 w2 hown2 hgr2 _)
              all_goals
                have HB4 := Lib.hid (((HB3.out.alloc HB3.out.size _).grown hgr2 (by have := HB3.out.size; simp; omega) (own_base_le HO3.out)))
                have HO4 : Hid (w2.ownsRow w.heap.size 21 1 v2 (nl + 1) (runesV (acc ++ [fm]))) := by
                  show w2.ownsRow _ _ _ _ _ _
                  rw [runesV, List.map_append]
                  exact hown2
                clear hgr2 hown2
                go_wp2_with fail
                go_roundg (s.size - (i + dn))
                case measure => omega
                case rel => exact ⟨i + dn, n, acc ++ [fm], p2, Nat.le_refl _, by rw [List.length_append, Hn.out]; simp; omega, by go_num, by rw [List.length_append, Hn.out]; exact HO4.out, ⟨Hlen.out, HI.out⟩, HB4.out⟩
            | false =>
              simp only [laidR, Bool.false_eq_true, if_false] at HI
              clear hf v2 v3
              go_wp2_with fail
              refine hd.mono ?_
              rintro e w1 ⟨rfl, hq⟩
              have hq := hq.symm
              subst hq
              clear hd
              go_wp2_with fail
              refine hm.mono ?_
              rintro e w2 ⟨rfl, hb2⟩
              have HB3 := Lib.hid (hb.out.trans (hb2.mono hws))
              have HO3 := Lib.hid (own_below hown.out hb2)
              have hs3 := HB3.out.size
              clear hm hb2
              generalize w2 = w3 at *
              go_wp2_with (at_builtin; refine wpList_append_own _ rfl _ _ 77 rfl w.heap.size 21 i0 (.int .i32 0) 1 4 Tryz.underlying77 hi hz0 hz1 hz2 rfl (by decide) _ _ _ rfl (HO3.out.alloc _) ⟨w3.heap.size, 0, none⟩ 1 1 [.int .i32 m1] rfl rfl (cell_one_new _ _ _) (by simp [Value.oneCell']) (by unfold maxLen; omega) (by omega) (by simp; omega) ?_; intro v2 w2 hown2 hgr2 _)
              all_goals
                have HB4 := Lib.hid (((HB3.out.alloc HB3.out.size _).grown hgr2 (by have := HB3.out.size; simp; omega) (own_base_le HO3.out)))
                have HO4 : Hid (w2.ownsRow w.heap.size 21 1 v2 (nl + 1) (runesV (acc ++ [m1]))) := by
                  show w2.ownsRow _ _ _ _ _ _
                  rw [runesV, List.map_append]
                  exact hown2
                clear hgr2 hown2
                go_wp2_with fail
                go_roundg (s.size - (i + dn))
                case measure => omega
                case rel => exact ⟨i + dn, n, acc ++ [m1], p2, Nat.le_refl _, by rw [List.length_append, Hn.out]; simp; omega, by go_num, by rw [List.length_append, Hn.out]; exact HO4.out, ⟨Hlen.out, HI.out⟩, HB4.out⟩
      · have hr2 : r = some acc := by
          have := hI.out.2
          rw [rest_ge (by omega)] at this
          rw [← this]
          cases n <;> simp [mapsGo]
        have HR := Lib.hid hr2
        clear hr2
        go_wp2_with fail
        go_ret2
        exact maps_some HR.out (by rw [Hn.out]; exact hown.out) hb.out
end Sy
end Go.Proofs.YthoealembhkaoaaGreatDoor
namespace Go.Proofs.YthoealembhkaoaaGreatDoor
open Go.RowKit
namespace Sy
set_option linter.unusedVariables false
set_option maxRecDepth 100000

theorem mapsGo_valid (fold : Bool) : ∀ (n : Nat) (acc : List Int) (l : List UInt8) (rs : List Int), mapsGo fold n acc l = some rs → (∀ r ∈ acc, Lib.validRune r = true) → (∀ r ∈ rs, Lib.validRune r = true) ∧ rs.length ≤ acc.length + n
  | 0, acc, l, rs, h, ha => by simp only [mapsGo] at h; injection h with h; subst h; exact ⟨ha, by omega⟩
  | n + 1, acc, l, rs, h, ha => by
    simp only [mapsGo] at h
    split at h
    · injection h with h; subst h; exact ⟨ha, by omega⟩
    · split at h
      · cases h
      · rename_i h1 h2
        split at h
        · have := mapsGo_valid fold n _ _ _ h ha
          exact ⟨this.1, by have := this.2; omega⟩
        · rename_i h3
          have hs := mapR_stays (by simpa using h2) (by omega) (by simpa using h3)
          have := mapsGo_valid fold n _ _ _ h (fun r hr => by
            rcases List.mem_append.1 hr with hr | hr
            · exact ha r hr
            · rw [List.mem_singleton.1 hr]
              unfold laidR
              cases fold
              · exact hs.1
              · exact foldR_valid hs.1)
          exact ⟨this.1, by have := this.2; simp at this; omega⟩
theorem mapsR_valid {fold : Bool} {l : List UInt8} {rs : List Int} (h : mapsR fold l = some rs) : (∀ r ∈ rs, Lib.validRune r = true) ∧ rs.length ≤ l.length := by
  unfold mapsR at h
  split at h
  · have := mapsGo_valid fold _ _ _ _ h (by simp)
    exact ⟨this.1, by simpa using this.2⟩
  · cases h
theorem single_mem : ∀ (l acc : List Int) (r : Int), r ∈ l.foldl sgStep acc → r ∈ acc ∨ r ∈ l
  | [], acc, r, h => .inl h
  | a :: l, acc, r, h => by
    rcases single_mem l _ r h with h | h
    · unfold sgStep at h
      split at h
      · exact .inl h
      · rcases List.mem_append.1 h with h | h
        · exact .inl h
        · exact .inr (by rw [List.mem_singleton.1 h]; simp)
    · exact .inr (by simp [h])
theorem single_len : ∀ (l acc : List Int), (l.foldl sgStep acc).length ≤ acc.length + l.length
  | [], acc => by simp
  | a :: l, acc => by
    have := single_len l (sgStep acc a)
    have h2 : (sgStep acc a).length ≤ acc.length + 1 := by unfold sgStep; split <;> simp
    simp only [List.foldl_cons, List.length_cons]
    omega
theorem leftR_mem {l : List Int} {r : Int} (h : r ∈ leftR l) : r ∈ l := by
  rcases l with _ | ⟨a, l⟩
  · exact h
  · simp only [leftR] at h
    by_cases ha : a = 32
    · rw [if_pos ha] at h
      exact List.mem_cons_of_mem _ h
    · rw [if_neg ha] at h
      exact h
theorem leftR_len (l : List Int) : (leftR l).length ≤ l.length := by
  rcases l with _ | ⟨a, l⟩
  · exact Nat.le_refl _
  · simp only [leftR]
    by_cases ha : a = 32
    · rw [if_pos ha]; simp
    · rw [if_neg ha]; exact Nat.le_refl _
theorem rightR_mem {l : List Int} {r : Int} (h : r ∈ rightR l) : r ∈ l := by
  unfold rightR at h
  split at h
  · exact List.dropLast_subset _ h
  · exact h
theorem rightR_len (l : List Int) : (rightR l).length ≤ l.length := by
  unfold rightR
  split <;> simp
/-- A text prepared, as the reference has it. -/
def prepL (fold : Bool) (l : List UInt8) : Option (List UInt8) :=
  match mapsR fold l with
  | none => none
  | some rs => if rightR (leftR (singleR rs)) = [] ∧ l ≠ [] then some [32] else some (enc (rightR (leftR (singleR rs))))
set_option maxHeartbeats 4000000 in
theorem rPrepare_calls (s : ByteArray) (fold : Bool) (w : World) (hs : s.size ≤ 4294967296) :
    Calls Tryz.prog 42 #[.string s, .bool fold] w fun e w' => e = .returned (mappedV (prepL fold s.data.toList)) ∧ Below w.heap.size w w' := by
  obtain ⟨r, hr⟩ : ∃ r, prepL fold s.data.toList = r := ⟨_, rfl⟩
  rw [hr]
  have Hr := Lib.hid hr
  clear hr
  have hm := rMapped_calls s fold w hs
  have hR : Hid (r = prepL fold s.data.toList) := Hr.out.symm
  have HV : Hid (∀ rs, mapsR fold s.data.toList = some rs → (∀ r ∈ rs, Lib.validRune r = true) ∧ rs.length ≤ s.data.toList.length) := fun rs h => mapsR_valid h
  clear Hr
  unfold prepL at hR
  generalize mapsR fold s.data.toList = ms at *
  go_enter Tryz.func42, Tryz.ntmps42
  go_wp2_with fail
  refine hm.mono ?_
  intro e w1 h
  clear hm
  cases ms with
  | none =>
    obtain ⟨rfl, hb⟩ := h
    go_wp2_with fail
    go_ret2
    exact ⟨by rw [hR.out]; rfl, hb⟩
  | some rs =>
    obtain ⟨v, rfl, ho, hb⟩ := h
    obtain ⟨hva, hle⟩ := HV.out rs rfl
    have hsz : s.data.toList.length = s.size := by simp
    rw [hsz] at hle
    simp only at hR
    have HB1 := Lib.hid hb
    have hs1 := rSingle_calls rs v w1 (runes_own ho) (by omega)
    have HVA := Lib.hid hva
    have hl1 := single_len rs []
    have hm1 := fun r => single_mem rs [] r
    simp only [List.length_nil, Nat.zero_add] at hl1
    have hem : Hid ((s.data.toList = []) ↔ s.size = 0) := by rw [← hsz]; exact List.length_eq_zero_iff.symm
    change (singleR rs).length ≤ rs.length at hl1
    change ∀ r, r ∈ singleR rs → _ at hm1
    have HM1 : Hid (∀ r ∈ singleR rs, Lib.validRune r = true) := fun r hr => HVA.out r ((hm1 r hr).elim (fun h => by cases h) id)
    clear HVA hva ho hb HV hm1
    generalize singleR rs = ts at *
    go_wp2_with fail
    refine hs1.mono ?_
    rintro e w2 ⟨u, rfl, ho2, hb2⟩
    have HB2 := Lib.hid (HB1.out.trans (hb2.mono HB1.out.size))
    have hs2 := rLeft_calls ts u w2 (runes_own ho2) (by omega)
    have hl2 := leftR_len ts
    have HM2 : Hid (∀ r ∈ leftR ts, Lib.validRune r = true) := fun r hr => HM1.out r (leftR_mem hr)
    clear hs1 ho2 hb2 HM1
    generalize leftR ts = us at *
    go_wp2_with fail
    refine hs2.mono ?_
    rintro e w3 ⟨u3, rfl, ho3, hq⟩
    have hq := hq.symm
    subst hq
    have hs3 := rRight_calls us u3 w2 ho3 (by omega)
    have hl3 := rightR_len us
    have HM3 : Hid (∀ r ∈ rightR us, Lib.validRune r = true) := fun r hr => HM2.out r (rightR_mem hr)
    clear hs2 ho3 HM2
    generalize rightR us = vs at *
    go_wp2_with fail
    refine hs3.mono ?_
    rintro e w4 ⟨u4, rfl, ho4, hq⟩
    have hq := hq.symm
    subst hq
    obtain ⟨y, c, hu4, _⟩ := ho4.open
    subst hu4
    have ht := rTextOf_calls vs _ w2 ho4 (by omega) HM3.out
    clear hs3 HM3 ho4
    by_cases h0 : vs.length = 0
    · have hz := List.length_eq_zero_iff.1 h0
      subst hz
      simp only [List.length_nil] at ht ⊢
      by_cases h1 : s.size = 0
      · have he : Hid (r = some (enc [])) := by
          show r = _
          rw [hR.out, if_neg (fun h => h.2 (hem.out.2 h1))]
        go_wp2_with fail
        refine ht.mono ?_
        rintro e w5 ⟨rfl, hb5⟩
        have HB5 := Lib.hid (HB2.out.trans (hb5.mono HB2.out.size))
        clear ht hb5
        go_wp2_with fail
        go_ret2
        exact ⟨by rw [he.out]; rfl, HB5.out⟩
      · have he : Hid (r = some [32]) := by
          show r = _
          rw [hR.out, if_pos ⟨rfl, fun h => h1 (hem.out.1 h)⟩]
        have h1' : (0 : Int) < (s.size : Int) := by omega
        clear ht
        go_wp2_with fail
        go_ret2
        exact ⟨by rw [he.out]; rfl, HB2.out⟩
    · have he : Hid (r = some (enc vs)) := by
        show r = _
        rw [hR.out, if_neg (fun h => h0 (by rw [h.1]; rfl))]
      have q0 : ((vs.length : Int) == 0) = false := by rw [beq_eq_false_iff_ne]; omega
      go_wp2_with fail
      refine ht.mono ?_
      rintro e w5 ⟨rfl, hb5⟩
      have HB5 := Lib.hid (HB2.out.trans (hb5.mono HB2.out.size))
      clear ht hb5
      go_wp2_with fail
      go_ret2
      exact ⟨by rw [he.out]; rfl, HB5.out⟩
end Sy
end Go.Proofs.YthoealembhkaoaaGreatDoor
