import Derived.Test.YthoealembhkaoaaGreatDoorRu01
import Derived.Test.YthoealembhkaoaaGreatDoorFm26
namespace Go.Proofs.YthoealembhkaoaaGreatDoor
open Go.RowKit
namespace Sy
set_option linter.unusedVariables false
set_option maxRecDepth 100000

theorem dnT_take (d : List (List Pair)) (i : Nat) (h : i < d.length) : dnT (d.take (i + 1)) = (if i = 0 then [] else dnT (d.take i) ++ [44]) ++ rowT d[i] := by
  rw [List.take_succ_eq_append_getElem h, dnT_snoc]
  have : (d.take i = []) ↔ i = 0 := by
    constructor
    · intro h2
      have h3 := congrArg List.length h2
      rw [List.length_take, List.length_nil, Nat.min_eq_left (Nat.le_of_lt h)] at h3
      exact h3
    · intro h2; subst h2; rfl
  by_cases h0 : i = 0
  · rw [if_pos (this.2 h0), if_pos h0]
  · rw [if_neg (fun h2 => h0 (this.1 h2)), if_neg h0]
theorem rowT_len (r : List Pair) (hr : r.length ≤ 4) (hq : ∀ q ∈ r, q.1.length ≤ 100000 ∧ q.2.length ≤ 1000000) : (rowT r).length ≤ 4 * (4200000 + ([43] : List UInt8).length) := by
  have h := join_le [43] 4200000 (r.map pairT) (fun x hx => by
    obtain ⟨q, hqr, rfl⟩ := List.mem_map.1 hx
    have := hq q hqr
    have := writtenR_len q.2
    simp [pairT]; omega)
  rw [List.length_map] at h
  exact Nat.le_trans h (Nat.mul_le_mul_right _ hr)
theorem printR_bad {d : List (List Pair)} (h : d.any badRow = true) : printR d = (none, 30) := by unfold printR; rw [if_pos h]
theorem printR_long {d : List (List Pair)} (h : d.any badRow = false) (h2 : tooLong d = true) : printR d = (none, 2) := by unfold printR; rw [if_neg (by rw [h]; simp), if_pos h2]
theorem printR_great {d : List (List Pair)} (h : d.any badRow = false) (h2 : tooLong d = false) (h3 : 65536 < (dnT d).length) : printR d = (none, 2) := by
  unfold printR; rw [if_neg (by rw [h]; simp), if_neg (by rw [h2]; simp)]
  first | rw [if_pos h3] | simp [h3]
theorem printR_some {d : List (List Pair)} (h : d.any badRow = false) (h2 : tooLong d = false) (h3 : ¬ 65536 < (dnT d).length) : printR d = (some (dnT d), 0) := by
  unfold printR; rw [if_neg (by rw [h]; simp), if_neg (by rw [h2]; simp)]
  first | rw [if_neg h3] | simp [h3]
set_option maxHeartbeats 8000000 in
theorem rPrint_calls (w : World) (base : Nat) (v : Value) (d : List (List Pair)) (ho : OwnDn w base v d) (ht : Tight d) :
    Calls Tryz.prog 80 #[v] w fun e w' => e = .returned (printV (printR d)) ∧ Below w.heap.size w w' := by
  have HO := Lib.hid ho
  have HT := Lib.hid ht
  have hd := ht.1
  obtain ⟨a0, c0, rfl⟩ : ∃ a c, v = .slice a d.length c := by
    obtain ⟨vs, h1, _⟩ := ho
    exact own_slice h1
  have hfit := rFits_calls w base _ d ho ht.modest
  have Hfit := Lib.hid hfit
  obtain ⟨r, hr⟩ : ∃ r, printR d = r := ⟨_, rfl⟩
  rw [hr]
  have Hr := Lib.hid hr
  clear hr ho ht hfit
  go_enter Tryz.func80, Tryz.ntmps80
  go_upto_block 0 with fail
  go_cut [4] (fun iv wx => Hid (d.any badRow = false) ∧ w = wx)
  case first =>
    go_wp2_with fail
    go_loopg [4] d.length (fun k iv wr => (∃ i : Nat, i ≤ d.length ∧ d.length - i ≤ k ∧ iv = .int .i64 i ∧ Hid ((d.take i).any badRow = false)) ∧ w = wr)
    case atStart => exact ⟨⟨0, Nat.zero_le _, Nat.le_refl _, rfl, by show _ = _; simp⟩, rfl⟩
    case round =>
      obtain ⟨⟨i, hi, hk, rfl, hno⟩, hw⟩ := hrel
      subst hw
      by_cases hlt : i < d.length
      · obtain ⟨g, c, u, hv, hu, hou⟩ := HO.out.get i hlt
        injection hv with hv1 hv2 hv3
        subst hv1 hv3
        clear hv2
        have Hnx : Hid (badRow d[i] = false → (d.take (i + 1)).any badRow = false) := fun h => any_next hlt hno.out h
        have Hbad : Hid (badRow d[i] = true → r = (none, 30)) := fun h => by rw [← Hr.out, printR_bad (any_yes hlt h)]
        have HQ := Lib.hid (HT.out.2 d[i] (List.getElem_mem hlt))
        have HOu := Lib.hid hou
        have hRl := (HT.out.2 d[i] (List.getElem_mem hlt)).1
        generalize d[i] = R at *
        obtain ⟨y, z, hue⟩ := own_slice hou
        subst hue
        clear hou
        by_cases h0 : R.length = 0
        · have hR : R = [] := List.length_eq_zero_iff.1 h0
          have HF : Hid (r = (none, 30)) := Hbad.out (by rw [hR]; rfl)
          have q0 : ((R.length : Int) == 0) = true := by rw [beq_iff_eq]; omega
          clear h0
          go_wp2_with fail
          go_ret2
          exact ⟨by rw [HF.out]; rfl, Below.refl _ _⟩
        · have q0 : ((R.length : Int) == 0) = false := by rw [beq_eq_false_iff_ne]; omega
          have hne : Hid (R.isEmpty = false) := by show _ = _; rw [List.isEmpty_eq_false_iff]; intro h; rw [h] at h0; exact h0 rfl
          clear h0
          go_wp2_with fail
          go_loopg [5] R.length (fun k iv wr => (∃ j : Nat, j ≤ R.length ∧ R.length - j ≤ k ∧ iv = .int .i64 j ∧ Hid ((R.take j).any (fun q => !isType q.1) = false)) ∧ w = wr)
          case atStart => exact ⟨⟨0, Nat.zero_le _, Nat.le_refl _, rfl, by show _ = _; simp⟩, rfl⟩
          case round =>
            obtain ⟨⟨j, hj, hkj, rfl, hno2⟩, hw⟩ := hrel
            subst hw
            by_cases hlj : j < R.length
            · have hget := rdnV_get R j hlj
              rcases HOu.out.2 with ⟨_, h0⟩ | ⟨gb, cap, cur, hv, hgb, hh, hnc, hcm, hsz, htk⟩
              · omega
              injection hv with hv1 hv2 hv3
              subst hv1 hv3
              clear hgb hh hnc hcm hsz htk hv2
              have c1 : w.cell? ⟨gb, j * 2, none⟩ = some (strV R[j].1) := by rw [Nat.mul_comm]; exact own_cells HOu.out _ _ hget.1
              have hqm := HQ.out.2 R[j] (List.getElem_mem hlj)
              have Hn2 : Hid ((!isType R[j].1) = false → (R.take (j + 1)).any (fun q => !isType q.1) = false) := fun h => any_next hlj hno2.out h
              have Hb2 : Hid ((!isType R[j].1) = true → r = (none, 30)) := fun h => Hbad.out (by unfold badRow; rw [any_yes (p := fun q : Pair => !isType q.1) hlj h]; simp)
              clear hget
              generalize R[j] = q at *
              obtain ⟨q1, q2⟩ := q
              simp only [strV] at c1 hqm Hn2 Hb2
              have hty := fun W => rTypeOf_calls ⟨q1.toArray⟩ W (by show q1.toArray.size < _; simp; omega)
              simp only at hty
              cases htb : isType q1 with
              | true =>
                have HN : Hid ((R.take (j + 1)).any (fun q => !isType q.1) = false) := Hn2.out (by rw [htb]; rfl)
                rw [htb] at hty
                clear htb Hn2 Hb2
                go_wp2_with fail
                refine (hty _).mono ?_
                rintro e w1 ⟨rfl, hq⟩
                have hq := hq.symm
                subst hq
                clear hty
                go_wp2_with fail
                go_roundg (R.length - (j + 1))
                case measure => omega
                case rel => exact ⟨⟨j + 1, by omega, Nat.le_refl _, by go_num, HN.out⟩, rfl⟩
              | false =>
                have HF : Hid (r = (none, 30)) := Hb2.out (by rw [htb]; rfl)
                rw [htb] at hty
                clear htb Hn2 Hb2
                go_wp2_with fail
                refine (hty _).mono ?_
                rintro e w1 ⟨rfl, hq⟩
                have hq := hq.symm
                subst hq
                clear hty
                go_wp2_with fail
                go_ret2
                exact ⟨by rw [HF.out]; rfl, Below.refl _ _⟩
            · have HN : Hid ((d.take (i + 1)).any badRow = false) := Hnx.out (by
                have := hno2.out
                rw [List.take_of_length_le (by omega)] at this
                unfold badRow
                rw [this, hne.out]; rfl)
              go_wp2_with fail
              go_roundg (d.length - (i + 1))
              case measure => omega
              case rel => exact ⟨⟨i + 1, by omega, Nat.le_refl _, by go_num, HN.out⟩, rfl⟩
      · have HT2 : Hid (d.any badRow = false) := by
          show _ = _
          have := hno.out
          rw [List.take_of_length_le (by omega)] at this
          exact this
        go_wp2_with fail
        go_meet
        exact ⟨HT2.out, rfl⟩
  case rest =>
    obtain ⟨hgood, hw⟩ := hcut
    subst hw
    have hfit := Hfit.out
    clear Hfit
    cases htl : tooLong d with
    | true =>
      have HF : Hid (r = (none, 2)) := by show r = _; rw [← Hr.out, printR_long hgood.out htl]
      rw [htl] at hfit
      clear htl
      go_wp2_with fail
      refine hfit.mono ?_
      rintro e w1 ⟨rfl, hq⟩
      have hq := hq.symm
      subst hq
      clear hfit
      go_wp2_with fail
      go_ret2
      exact ⟨by rw [HF.out]; rfl, Below.refl _ _⟩
    | false =>
      have HL := Lib.hid htl
      have hnar : d.length ≤ 20 ∧ ∀ R ∈ d, R.length ≤ 4 := by
        unfold tooLong at htl
        rw [Bool.or_eq_false_iff] at htl
        refine ⟨by have := of_decide_eq_false htl.1; omega, fun R hR => ?_⟩
        have := List.any_eq_false.1 htl.2 R hR
        unfold longRdn at this
        rw [Bool.or_eq_true, not_or] at this
        have := this.1
        simp at this
        omega
      have h20 := hnar.1
      have HNa := Lib.hid hnar.2
      rw [htl] at hfit
      clear htl hnar
      go_wp2_with fail
      refine hfit.mono ?_
      rintro e w1 ⟨rfl, hq⟩
      have hq := hq.symm
      subst hq
      clear hfit
      go_wp2_with fail
      go_loopg [6, 7] d.length (fun k sv iv wr => ∃ (i : Nat) (acc : List UInt8), i ≤ d.length ∧ d.length - i ≤ k ∧ iv = .int .i64 i ∧ sv = .string ⟨acc.toArray⟩ ∧ acc.length ≤ i * 20000000 ∧ Hid (acc = dnT (d.take i)) ∧ Hid (Below w.heap.size w wr))
      case atStart => exact ⟨0, [], Nat.zero_le _, Nat.le_refl _, rfl, rfl, Nat.le_refl _, rfl, Below.refl _ _⟩
      case round =>
        obtain ⟨i, acc, hi, hk, rfl, rfl, hal, hacc, hb⟩ := hrel
        by_cases hlt : i < d.length
        · obtain ⟨g, c, u, hv, hu, hou⟩ := (HO.out.below hb.out).get i hlt
          injection hv with hv1 hv2 hv3
          subst hv1 hv3
          clear hv2
          have hq2 := HT.out.2 d[i] (List.getElem_mem hlt)
          have hrl : (rowT d[i]).length ≤ 16800004 := rowT_len d[i] (HNa.out d[i] (List.getElem_mem hlt)) hq2.2
          have hpt := rPart_calls wr base u d[i] hou hq2.1 hq2.2
          have Hnx := Lib.hid (dnT_take d i hlt)
          obtain ⟨y, z, hue⟩ := own_slice hou
          subst hue
          generalize (List.length d[i]) = dl at *
          generalize rowT d[i] = rt at *
          simp only [strV] at hpt
          clear hou hq2
          by_cases h0 : i = 0
          · have h0' : ¬ (0 : Int) < (i : Int) := by omega
            have hz : acc = [] := by
              have : acc.length = 0 := by rw [h0] at hal; omega
              exact List.length_eq_zero_iff.1 this
            have HN : Hid (acc ++ rt = dnT (d.take (i + 1))) := by
              show _ = _
              rw [Hnx.out, if_pos h0, hz]
            clear h0 hz Hnx
            have s1 : ¬ 9223372036854775807 < acc.length + rt.length := by omega
            go_wp2_with fail
            refine hpt.mono ?_
            rintro e w2 ⟨rfl, hb2⟩
            have HB2 := Lib.hid (hb.out.trans (hb2.mono hb.out.size))
            clear hpt hb2
            go_wp2_with fail
            go_roundg (d.length - (i + 1))
            case measure => omega
            case rel => exact ⟨i + 1, acc ++ rt, by omega, Nat.le_refl _, by go_num, congrArg Value.string (cat_bytes acc rt), by simp; omega, HN.out, HB2.out⟩
          · have h0' : (0 : Int) < (i : Int) := by omega
            have HN' : Hid (acc ++ [44] ++ rt = dnT (d.take (i + 1))) := by
              show _ = _
              rw [Hnx.out, if_neg h0, hacc.out]
            clear h0 Hnx
            have t1 : ¬ 9223372036854775807 < acc.length + 1 := by omega
            go_upto_region 19 with fail
            rw [show (⟨acc.toArray⟩ ++ ⟨#[44]⟩ : ByteArray) = ⟨(acc ++ [44]).toArray⟩ from cat_bytes acc [44]]
            have hal2 : (acc ++ [44]).length ≤ i * 20000000 + 1 := by simp; omega
            obtain ⟨ac2, hac⟩ : ∃ ac2, acc ++ [44] = ac2 := ⟨_, rfl⟩
            rw [hac] at hal2 ⊢
            have HN : Hid (ac2 ++ rt = dnT (d.take (i + 1))) := by rw [← hac]; exact HN'.out
            clear hac HN' t1
            have s1 : ¬ 9223372036854775807 < ac2.length + rt.length := by omega
            go_wp2_with fail
            refine hpt.mono ?_
            rintro e w2 ⟨rfl, hb2⟩
            have HB2 := Lib.hid (hb.out.trans (hb2.mono hb.out.size))
            clear hpt hb2
            go_wp2_with fail
            go_roundg (d.length - (i + 1))
            case measure => omega
            case rel => exact ⟨i + 1, ac2 ++ rt, by omega, Nat.le_refl _, by go_num, congrArg Value.string (cat_bytes ac2 rt), by simp; omega, HN.out, HB2.out⟩
        · have he : acc = dnT d := by rw [hacc.out, List.take_of_length_le (by omega)]
          by_cases hgr : 65536 < acc.length
          · have HF : Hid (r = (none, 2)) := by show r = _; rw [← Hr.out, printR_great hgood.out HL.out (by rw [← he]; exact hgr)]
            have hgr' : (65536 : Int) < (acc.length : Int) := by omega
            clear he
            go_wp2_with fail
            go_ret2
            exact ⟨by rw [HF.out]; rfl, hb.out⟩
          · have HF : Hid (r = (some acc, 0)) := by show r = _; rw [← Hr.out, printR_some hgood.out HL.out (by rw [← he]; exact hgr), he]
            have hgr' : ¬ (65536 : Int) < (acc.length : Int) := by omega
            clear he
            go_wp2_with fail
            go_ret2
            exact ⟨by rw [HF.out]; rfl, hb.out⟩
end Sy
end Go.Proofs.YthoealembhkaoaaGreatDoor
namespace Go.Proofs.YthoealembhkaoaaGreatDoor
open Go.RowKit
namespace Sy
set_option linter.unusedVariables false
set_option maxRecDepth 100000

/-- A pair laid in at its place, if it is not there. -/
def insR (acc : List Pair) (x : Pair) : List Pair :=
  if acc[(acc.takeWhile fun y => decide (cmpPair y x < 0)).length]? = some x then acc
  else acc.take (acc.takeWhile fun y => decide (cmpPair y x < 0)).length ++ x :: acc.drop (acc.takeWhile fun y => decide (cmpPair y x < 0)).length
def orderedR (r : List Pair) : List Pair := r.foldl insR []
abbrev Strict (l : List Pair) : Prop := l.Pairwise fun a b => cmpPair a b < 0
theorem cp_lt_trans {a b c : Pair} (h1 : cmpPair a b < 0) (h2 : cmpPair b c < 0) : cmpPair a c < 0 := by
  have h3 := cp_trans a b c (Int.le_of_lt h1) (Int.le_of_lt h2)
  by_cases h : cmpPair a c = 0
  · have := cp_eq a c h
    subst this
    have := cp_neg a b
    omega
  · omega
theorem takeW_split (p : Pair → Bool) : ∀ l : List Pair, l.take (l.takeWhile p).length = l.takeWhile p ∧ l.drop (l.takeWhile p).length = l.dropWhile p
  | [] => ⟨rfl, rfl⟩
  | a :: l => by
    cases h : p a with
    | true =>
      have := takeW_split p l
      simp [h, this.1, this.2]
    | false => simp [h]
theorem dropW_head {p : Pair → Bool} : ∀ {l m : List Pair} {z : Pair}, l.dropWhile p = z :: m → p z = false
  | [], _, _, h => by cases h
  | a :: l, m, z, h => by
    rw [List.dropWhile_cons] at h
    split at h
    · exact dropW_head h
    · rename_i hp
      injection h with h1 _
      subst h1
      simpa using hp
theorem takeW_all {p : Pair → Bool} : ∀ {l : List Pair} {z : Pair}, z ∈ l.takeWhile p → p z = true
  | [], _, h => by cases h
  | a :: l, z, h => by
    rw [List.takeWhile_cons] at h
    split at h
    · rename_i hp
      rcases List.mem_cons.1 h with rfl | h
      · exact hp
      · exact takeW_all h
    · cases h
theorem ins_spec (acc : List Pair) (x : Pair) (hs : Strict acc) : Strict (insR acc x) ∧ ∀ y, y ∈ insR acc x ↔ y ∈ acc ∨ y = x := by
  obtain ⟨p, hp⟩ : ∃ p : Pair → Bool, p = fun y => decide (cmpPair y x < 0) := ⟨_, rfl⟩
  have hsp := takeW_split p acc
  have hap := List.takeWhile_append_dropWhile (p := p) (l := acc)
  have hall : ∀ z ∈ acc.takeWhile p, cmpPair z x < 0 := fun z hz => by
    have := takeW_all hz
    rw [hp] at this
    exact of_decide_eq_true this
  have hhd : ∀ z m, acc.dropWhile p = z :: m → ¬ cmpPair z x < 0 := fun z m h => by
    have := dropW_head h
    rw [hp] at this
    exact of_decide_eq_false this
  have hget : acc[(acc.takeWhile p).length]? = (acc.dropWhile p).head? := by
    rw [← hsp.2, List.head?_drop]
  unfold insR
  rw [← hp, hget, hsp.1, hsp.2]
  rw [← hap] at hs
  generalize acc.takeWhile p = a at *
  generalize acc.dropWhile p = b at *
  by_cases h : b.head? = some x
  · rw [if_pos h, ← hap]
    refine ⟨hs, fun y => ⟨fun hy => .inl hy, fun hy => hy.elim id fun e => ?_⟩⟩
    rw [e]
    rcases b with _ | ⟨z, m⟩
    · cases h
    · injection h with h; subst h; simp
  · rw [if_neg h]
    have hs2 := List.pairwise_append.1 hs
    have hxb : ∀ u ∈ b, cmpPair x u < 0 := by
      rcases b with _ | ⟨z, m⟩
      · simp
      · have hz := hhd z m rfl
        have hne : z ≠ x := fun e => h (by rw [e]; rfl)
        have h0 : ¬ cmpPair z x = 0 := fun e => hne (cp_eq z x e)
        have hxz : cmpPair x z < 0 := by have := cp_neg z x; omega
        intro u hu
        rcases List.mem_cons.1 hu with rfl | hu
        · exact hxz
        · exact cp_lt_trans hxz ((List.pairwise_cons.1 hs2.2.1).1 u hu)
    constructor
    · refine List.pairwise_append.2 ⟨hs2.1, List.pairwise_cons.2 ⟨hxb, hs2.2.1⟩, fun y hy z hz => ?_⟩
      rcases List.mem_cons.1 hz with rfl | hz
      · exact hall y hy
      · exact hs2.2.2 y hy z hz
    · intro y
      rw [← hap]
      simp only [List.mem_append, List.mem_cons]
      constructor
      · rintro (h | h | h)
        · exact .inl (.inl h)
        · exact .inr h
        · exact .inl (.inr h)
      · rintro ((h | h) | h)
        · exact .inl h
        · exact .inr (.inr h)
        · exact .inr (.inl h)
theorem ordered_go : ∀ (r acc : List Pair), Strict acc → Strict (r.foldl insR acc) ∧ ∀ y, y ∈ r.foldl insR acc ↔ y ∈ acc ∨ y ∈ r
  | [], acc, h => ⟨h, fun y => by simp⟩
  | x :: r, acc, h => by
    have h1 := ins_spec acc x h
    have h2 := ordered_go r (insR acc x) h1.1
    refine ⟨h2.1, fun y => ?_⟩
    rw [List.foldl_cons, h2.2, h1.2, List.mem_cons]
    constructor
    · rintro ((h | h) | h)
      · exact .inl h
      · exact .inr (.inl h)
      · exact .inr (.inr h)
    · rintro (h | h | h)
      · exact .inl (.inl h)
      · exact .inl (.inr h)
      · exact .inr h
theorem mem_compact (k : Nat) : ∀ l : List Pair, l.length = k → ∀ x ∈ l, x ∈ Lib.compact l := by
  induction k with
  | zero => intro l hl x hx; rw [List.length_eq_zero_iff.1 hl] at hx; cases hx
  | succ k ih =>
    intro l hl x hx
    obtain ⟨l', z, rfl⟩ : ∃ l' z, l = l' ++ [z] := by
      rcases nil_or_snoc l with rfl | ⟨l', z, h⟩
      · simp at hl
      · exact ⟨l', z, h⟩
    have hl' : l'.length = k := by simpa using hl
    rw [compact_snoc]
    split
    · rename_i h
      rcases List.mem_append.1 hx with hx | hx
      · exact ih l' hl' x hx
      · rw [List.mem_singleton.1 hx]
        exact ih l' hl' z (List.mem_of_getLast? h)
    · rcases List.mem_append.1 hx with hx | hx
      · exact List.mem_append_left _ (ih l' hl' x hx)
      · exact List.mem_append_right _ hx
theorem strict_nodup {l : List Pair} (h : Strict l) : l.Nodup := by
  refine List.Pairwise.imp ?_ h
  intro a b hab e
  subst e
  rw [cp_self] at hab
  omega
/-- The reference's order of a part's pairs is the program's. -/
theorem ordered_eq (r : List Pair) : orderedR r = partOf r := by
  have h1 := ordered_go r [] List.Pairwise.nil
  have h2 := compact_sorted (sortR r).length (sortR r) rfl (sortR_spec r).2
  have hm : ∀ y, y ∈ orderedR r ↔ y ∈ partOf r := fun y => by
    have h3 : y ∈ orderedR r ↔ y ∈ r := by rw [show orderedR r = r.foldl insR [] from rfl, h1.2]; simp
    rw [h3]
    constructor
    · intro h; exact mem_compact _ (sortR r) rfl y ((sortR_spec r).1.mem_iff.2 h)
    · intro h; exact (sortR_spec r).1.mem_iff.1 (h2.2.1 y h)
  have hp : (orderedR r).Perm (partOf r) := (List.perm_ext_iff_of_nodup (strict_nodup h1.1) (strict_nodup h2.1)).2 hm
  exact sorted_unique hp (List.Pairwise.imp (fun h => Int.le_of_lt h) h1.1) (List.Pairwise.imp (fun h => Int.le_of_lt h) h2.1)
end Sy
end Go.Proofs.YthoealembhkaoaaGreatDoor
