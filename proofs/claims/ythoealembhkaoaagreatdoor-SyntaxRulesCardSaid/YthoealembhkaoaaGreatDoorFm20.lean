import Derived.Test.YthoealembhkaoaaGreatDoorFm19
import Derived.Test.YthoealembhkaoaaGreatDoorFm16
namespace Go.Proofs.YthoealembhkaoaaGreatDoor
open Go.RowKit
namespace Sy
set_option linter.unusedVariables false

/-- The reference's reader lies whole in block B: its text, its place. -/
structure Dk (w : World) (B : Nat) (s : ByteArray) (i : Nat) : Prop where
  heap : w.heap[B]? = some (.cells #[.string s, .int .i64 (i : Int)] 124 (0, 0))
section
variable {w : World} {B : Nat} {s : ByteArray} {i : Nat}
theorem Dk.c0 (h : Dk w B s i) : w.cell? ⟨B, 0, none⟩ = some (.string s) := by simp [World.cell?, h.heap]
theorem Dk.c1 (h : Dk w B s i) : w.cell? ⟨B, 1, none⟩ = some (.int .i64 (i : Int)) := by simp [World.cell?, h.heap]
theorem Dk.f1 (h : Dk w B s i) : w.frozen? ⟨B, 1, none⟩ = false := by simp [World.frozen?, h.heap]
theorem Dk.drewN (h : Dk w B s i) (n : Nat) : Dk (w.drewN n) B s i := ⟨h.heap⟩
theorem Dk.lt (h : Dk w B s i) : B < w.heap.size := lt_of_block h.heap
theorem Dk.setCell (h : Dk w B s i) (j : Nat) : Dk (w.setCell ⟨B, 1, none⟩ (.int .i64 (j : Int))) B s j := by
  refine ⟨?_⟩
  have hlt := h.lt
  have h' : w.heap[B] = .cells #[.string s, .int .i64 (i : Int)] 124 (0, 0) := by simpa [Array.getElem?_eq_getElem hlt] using h.heap
  show (w.heap.modify B _)[B]? = _
  rw [Array.getElem?_eq_getElem (by simpa using hlt), Array.getElem_modify_self, h']
  rfl
end
set_option maxHeartbeats 800000 in
theorem rIs_calls (w : World) (B : Nat) (s : ByteArray) (i : Nat) (c : Int) (hr : Dk w B s i) (hi : i ≤ s.size) :
    Calls Tryz.prog 128 #[.pointer (some ⟨B, 0, none⟩), .int .u8 c] w fun e w' => e = .returned (.bool (isAt c (rest s i))) ∧ ∃ n, w' = w.drewN n := by
  have h0 := hr.c0
  have h1 := hr.c1
  clear hr
  by_cases he : i < s.size
  · have hd : decide ((i : Int) < (s.size : Int)) = true := by simpa using he
    go_enter Tryz.func128, Tryz.ntmps128
    go_wp2_with (fail)
    go_quiet (fail)
    go_wp2
    go_ret
    exact ⟨ret_bool (by rw [rest_lt he]; rfl), _, rfl⟩
  · have hd : decide ((i : Int) < (s.size : Int)) = false := by simpa using he
    go_enter Tryz.func128, Tryz.ntmps128
    go_wp2_with (fail)
    go_quiet (fail)
    go_wp2
    go_ret
    exact ⟨ret_bool (by rw [rest_ge (by omega)]; rfl), _, rfl⟩
/-- The place has moved to where l is left. -/
def MovedD (B : Nat) (s : ByteArray) (l : List UInt8) (w w' : World) : Prop := ∃ j, j ≤ s.size ∧ rest s j = l ∧ Dk w' B s j ∧ Gr B w w'
set_option maxHeartbeats 2000000 in
theorem rBlanks_calls (w : World) (B : Nat) (s : ByteArray) (i : Nat) (hr : Dk w B s i) (hi : i ≤ s.size) (hs : s.size ≤ 4294967296) :
    Calls Tryz.prog 156 #[.pointer (some ⟨B, 0, none⟩)] w fun e w' => e = .returned (.tuple #[]) ∧ MovedD B s (skip (rest s i)) w w' := by
  have hR := Lib.hid hr
  clear hr
  go_enter Tryz.func156, Tryz.ntmps156
  go_wp2_with (fail)
  go_loopg [] (s.size - i) (fun k wr => ∃ j : Nat, j ≤ s.size ∧ s.size - j ≤ k ∧ Hid (skip (rest s j) = skip (rest s i)) ∧ Hid (Dk wr B s j) ∧ Hid (Gr B w wr))
  case atStart => exact ⟨i, hi, Nat.le_refl _, rfl, hR, Gr.refl _ _⟩
  case round =>
    obtain ⟨j, hj, hm, hk, hRj, hG⟩ := hrel
    have h0 := hRj.out.c0
    have h1 := hRj.out.c1
    have hf := hRj.out.f1
    by_cases hlt : j < s.size
    · have hd : decide ((j : Int) < (s.size : Int)) = true := by simpa using hlt
      by_cases hb : isAt 32 (rest s j) = true
      · have Hsk := Lib.hid ((skip_lt hb).symm.trans hk.out)
        have hb2 := hb
        rw [rest_lt hlt] at hb2
        have q : ((s[j].toNat : Int) == 32) = true := hb2
        clear hb hb2
        go_wp2_with (fail)
        go_quiet (fail)
        go_wp2_with (fail)
        go_roundg (s.size - (j + 1))
        case measure => omega
        case rel => exact ⟨j + 1, by omega, Nat.le_refl _, Hsk.out, (hRj.out.drewN _).setCell (j + 1), (hG.out.drewN _).setCell _ _⟩
      · have hb' : isAt 32 (rest s j) = false := by simpa using hb
        have Hsk : Hid (rest s j = skip (rest s i)) := by show _ = _; rw [← hk.out, skip_at hb']
        rw [rest_lt hlt] at hb'
        have q : ((s[j].toNat : Int) == 32) = false := hb'
        clear hb hb'
        go_wp2_with (fail)
        go_quiet (fail)
        go_wp2_with (fail)
        go_end0
        exact ⟨rfl, j, hj, Hsk.out, hRj.out.drewN _, hG.out.drewN _⟩
    · have hd : decide ((j : Int) < (s.size : Int)) = false := by simpa using hlt
      have Hsk : Hid (rest s j = skip (rest s i)) := by show _ = _; rw [← hk.out, rest_ge (by omega)]; rfl
      go_wp2_with (fail)
      go_quiet (fail)
      go_wp2_with (fail)
      go_end0
      exact ⟨rfl, j, hj, Hsk.out, hRj.out.drewN _, hG.out.drewN _⟩
end Sy
end Go.Proofs.YthoealembhkaoaaGreatDoor
namespace Go.Proofs.YthoealembhkaoaaGreatDoor
open Go.RowKit
namespace Sy
set_option linter.unusedVariables false
set_option maxRecDepth 100000

theorem rdigit_quiet (c : Int) (w : World) (n : Nat) (h0 : 0 ≤ c) (h1 : c ≤ 255) : Calls Tryz.prog 157 #[.int .u8 c] (w.drewN n) fun e w'' => e = .returned (.int .i64 (digit c)) ∧ ∃ m, w'' = w.drewN m :=
  Calls.quiet_of_same ((rHexDigit_calls c (w.drewN n) h0 h1).mono fun _ _ h => ⟨h.1, h.2.symm⟩)
set_option maxHeartbeats 4000000 in
theorem rUnhex_calls (s : ByteArray) (w : World) (hs : s.size ≤ 140737488351232) :
    Calls Tryz.prog 158 #[.string s] w fun e w' => e = .returned (unhexV (unhex s.data.toList)) ∧ Below w.heap.size w w' := by
  obtain ⟨i0, hi, hz0, hz1, hz2⟩ := info_parts info5
  by_cases hodd : s.size % 2 = 0
  · obtain ⟨r, hr⟩ : ∃ r, unhex s.data.toList = r := ⟨_, rfl⟩
    rw [hr]
    have Hr := Lib.hid hr
    clear hr
    go_enter Tryz.func158, Tryz.ntmps158
    go_wp2_with (at_make; refine wpList_make_own _ rfl _ _ 88 rfl w.heap.size 5 i0 (.int .u8 0) 1 Tryz.underlying88 hi hz0 hz1 _ _ _ (s.size / 2) rfl rfl (by omega) (by rw [hz2]; omega) (by unfold maxLen; omega) (Nat.le_refl _) ?_; intro w1 hown1 hgr1)
    have hb1 : Below w.heap.size w w1 := (Below.refl _ _).grown hgr1 (Nat.le_refl _) (by simp)
    obtain ⟨g, hg⟩ : ∃ g, g = w.heap.size := ⟨_, rfl⟩
    rw [← hg] at hown1
    have Hown1 := Lib.hid hown1
    have Hb1 := Lib.hid hb1
    rw [← hg]
    clear hown1 hb1 hgr1
    have Hg := Lib.hid hg
    clear hg
    go_loopg [4, 5] s.size (fun k v iv wr => ∃ (i j : Nat) (l : List UInt8), i ≤ s.size ∧ s.size - i ≤ k ∧ iv = .int .i64 i ∧ v = .slice (some ⟨g, 0, none⟩) j (s.size / 2) ∧ Hid (i = 2 * j) ∧ Hid (wr.ownsRow g 5 1 (.slice (some ⟨g, 0, none⟩) j (s.size / 2)) j (bytesV l)) ∧ Hid (r = (unhex (rest s i)).map (l ++ ·)) ∧ Hid (Below g w wr))
    case atStart => exact ⟨0, 0, [], Nat.zero_le _, Nat.le_refl _, rfl, rfl, rfl, Hown1.out, by rw [← Hr.out]; simp only [rest, List.drop_zero]; cases unhex s.data.toList <;> exact rfl, by rw [Hg.out]; exact Hb1.out⟩
    case round =>
      obtain ⟨i, j, l, hi', hk, rfl, rfl, hij, hown, hu, hb⟩ := hrel
      by_cases hlt : i < s.size
      · have hlt1 : i + 1 < s.size := by have := hij.out; omega
        have hd0 := digit_lt ((s[i]'hlt).toNat : Int)
        have hd1 := digit_lt ((s[i + 1]'hlt1).toNat : Int)
        have hB0 := byte_le (s[i]'hlt)
        have hB1 := byte_le (s[i + 1]'hlt1)
        have n1 : IntKind.i64.wrap ((i : Int) + 1) = (i : Int) + 1 := IntWalk.i64_in _ (by omega)
        have n2 : (0 : Int) ≤ (i : Int) + 1 := by omega
        have n3 : ((i : Int) + 1).toNat = i + 1 := by omega
        have n4 : (i : Int) + 1 < (s.size : Int) := by omega
        have Hrt := Lib.hid (rest_two hlt1)
        go_wp2_with fail
        go_quiet ((go_at_call 157; exact rdigit_quiet _ _ _ (Int.natCast_nonneg _) (byte_le _)))
        generalize s[i]'hlt = a at *
        generalize s[i + 1]'hlt1 = b at *
        clear n1 n2 n3 n4
        by_cases hbad : digit (a.toNat : Int) < 0 ∨ digit (b.toNat : Int) < 0
        · have Hn : Hid (r = none) := by
            show r = none
            rw [hu.out, Hrt.out]
            simp [unhex, hbad]
          go_wp2_with fail
          all_goals first
            | (exfalso; omega)
            | (go_ret2; exact ⟨by rw [Hn.out]; rfl, by have := hb.out; rw [Hg.out] at this; exact this.drewN' _⟩)
        · have hd2 : 0 ≤ digit (a.toNat : Int) := by omega
          have hd3 : 0 ≤ digit (b.toNat : Int) := by omega
          have Hs : Hid (r = (unhex (rest s (i + 2))).map ((l ++ [UInt8.ofNat (16 * digit a.toNat + digit b.toNat).toNat]) ++ ·)) := by
            show r = _
            rw [hu.out, Hrt.out]
            simp only [unhex, hbad, if_false, Option.map_map, Function.comp_def, List.append_assoc, List.singleton_append]
          have hor := or_digits _ _ hd2 hd0.2 hd3 hd1.2
          clear hbad
          have hjc : j + 1 ≤ s.size / 2 := by have := hij.out; omega
          go_wp2_with (at_builtin; refine wpList_append_fits _ rfl _ _ 88 rfl g 5 i0 1 Tryz.underlying88 hi hz1 g j (s.size / 2) (bytesV l) rfl ((own_drewN hown.out nq).alloc _) ⟨wr.heap.size, 0, none⟩ 1 1 [.int .u8 (16 * digit (a.toNat : Int) + digit (b.toNat : Int))] rfl rfl ?c1 ?c2 hjc ?_)
          case c1 => exact cell_one_new _ _ _
          case c2 => simp [Value.oneCell']
          intro w2 hown2 hgr2
          have hv : (16 * digit (a.toNat : Int) + digit (b.toNat : Int)) = ((UInt8.ofNat (16 * digit a.toNat + digit b.toNat).toNat).toNat : Int) := by simp; omega
          have Hown2 := Lib.hid hown2
          rw [hv, ← bytesV_snoc] at Hown2
          clear hown2 hv
          have Hb2 := Lib.hid ((((hb.out.drewN' nq).alloc (by have := (hown.out.lt g rfl).2; simp; omega) _).grown hgr2 (by have := (hown.out.lt g rfl).2; simp; omega) (fun k hk => by simp at hk; omega)))
          clear hgr2
          go_wp2_with fail
          go_roundg (s.size - (i + 2))
          case measure => omega
          case rel => exact ⟨i + 2, j + 1, _, by omega, Nat.le_refl _, by go_num, rfl, by have := hij.out; exact (by omega : i + 2 = 2 * (j + 1)), Hown2.out, Hs.out, Hb2.out⟩
      · have Hc := Lib.hid (convert_own hown.out (Nat.le_refl _) (s.size / 2))
        have hc := Hc.out
        go_wp2_with fail
        go_ret2
        refine ⟨?_, by have := hb.out; rw [Hg.out] at this; exact this⟩
        have hn : l.length = j := by have := hown.out.1; rw [bytesV_length] at this; omega
        rw [hu.out, rest_ge (by omega)]
        simp [unhex, unhexV, ← hn]
  · have Hu := Lib.hid (unhex_odd s.data.toList (by simpa using hodd))
    rw [Hu.out]
    go_enter Tryz.func158, Tryz.ntmps158
    go_wp2_with fail
    go_ret2
    exact ⟨rfl, Below.refl _ _⟩
end Sy
end Go.Proofs.YthoealembhkaoaaGreatDoor
namespace Go.Proofs.YthoealembhkaoaaGreatDoor
open Go.RowKit
namespace Sy
set_option linter.unusedVariables false
set_option maxRecDepth 100000

theorem any_next {α : Type} {p : α → Bool} {l : List α} {i : Nat} (h : i < l.length) (h1 : (l.take i).any p = false) (h2 : p l[i] = false) : (l.take (i + 1)).any p = false := by
  rw [List.take_succ_eq_append_getElem h, List.any_append, h1]; simp [h2]
theorem any_yes {α : Type} {p : α → Bool} {l : List α} {i : Nat} (h : i < l.length) (h2 : p l[i] = true) : l.any p = true := List.any_eq_true.2 ⟨_, List.getElem_mem h, h2⟩
set_option maxHeartbeats 4000000 in
theorem rFits_calls (w : World) (base : Nat) (v : Value) (d : List (List Pair)) (ho : OwnDn w base v d) (hm : Modest d) :
    Calls Tryz.prog 83 #[v] w fun e w' => e = .returned (.bool (!tooLong d)) ∧ w' = w := by
  have HO := Lib.hid ho
  have HM := Lib.hid hm
  have hd := hm.1
  obtain ⟨a0, c0, rfl⟩ : ∃ a c, v = .slice a d.length c := by
    obtain ⟨vs, h1, _⟩ := ho
    exact own_slice h1
  obtain ⟨r, hr⟩ : ∃ r, (!tooLong d) = r := ⟨_, rfl⟩
  rw [hr]
  have Hr := Lib.hid hr
  clear hr ho hm
  by_cases h20 : 20 < d.length
  · have HF : Hid (r = false) := by
      show r = false
      rw [← Hr.out]
      simp [tooLong, h20]
    have h20' : (20 : Int) < (d.length : Int) := by omega
    go_enter Tryz.func83, Tryz.ntmps83
    go_wp2_with fail
    go_ret
    exact ⟨by rw [HF.out]; rfl, rfl⟩
  have h20' : ¬ (20 : Int) < (d.length : Int) := by omega
  have HR : Hid (r = !d.any longRdn) := by
    show r = _
    rw [← Hr.out]
    simp [tooLong, h20]
  clear Hr
  go_enter Tryz.func83, Tryz.ntmps83
  go_wp2_with fail
  go_loopg [3] d.length (fun k iv wr => (∃ i : Nat, i ≤ d.length ∧ d.length - i ≤ k ∧ iv = .int .i64 i ∧ Hid ((d.take i).any longRdn = false)) ∧ wr = w)
  case atStart => exact ⟨⟨0, Nat.zero_le _, Nat.le_refl _, rfl, by show _ = _; simp⟩, rfl⟩
  case round =>
    obtain ⟨⟨i, hi, hk, rfl, hno⟩, hw⟩ := hrel
    have hw := hw.symm
    subst hw
    by_cases hlt : i < d.length
    · obtain ⟨g, c, u, hv, hu, hou⟩ := HO.out.get i hlt
      injection hv with hv1 hv2 hv3
      subst hv1 hv3
      clear hv2
      have HMi := Lib.hid (HM.out.2 d[i] (List.getElem_mem hlt))
      have Hnx : Hid (longRdn d[i] = false → (d.take (i + 1)).any longRdn = false) := fun h => any_next hlt hno.out h
      have Hbad : Hid (longRdn d[i] = true → r = false) := fun h => by rw [HR.out, any_yes hlt h]; rfl
      have HOu := Lib.hid hou
      have hRl := (HM.out.2 d[i] (List.getElem_mem hlt)).1
      generalize d[i] = R at *
      obtain ⟨y, z, hue⟩ := own_slice hou
      subst hue
      clear hou
      by_cases h4 : 4 < R.length
      · have HF : Hid (r = false) := Hbad.out (by simp [longRdn, h4])
        have h4' : (4 : Int) < (R.length : Int) := by omega
        go_wp2_with fail
        go_ret
        exact ⟨by rw [HF.out]; rfl, rfl⟩
      · have h4' : ¬ (4 : Int) < (R.length : Int) := by omega
        go_wp2_with fail
        go_loopg [4] R.length (fun k iv wr => (∃ j : Nat, j ≤ R.length ∧ R.length - j ≤ k ∧ iv = .int .i64 j ∧ Hid ((R.take j).any (fun q => decide (1024 < q.2.length)) = false)) ∧ wr = w)
        case atStart => exact ⟨⟨0, Nat.zero_le _, Nat.le_refl _, rfl, by show _ = _; simp⟩, rfl⟩
        case round =>
          obtain ⟨⟨j, hj, hkj, rfl, hno2⟩, hw⟩ := hrel
          have hw := hw.symm
          subst hw
          by_cases hlj : j < R.length
          · have hget := rdnV_get R j hlj
            rcases HOu.out.2 with ⟨_, h0⟩ | ⟨gb, cap, cur, hv, hgb, hh, hnc, hcm, hsz, htk⟩
            · omega
            injection hv with hv1 hv2 hv3
            subst hv1 hv3
            clear hgb hh hnc hcm hsz htk hv2
            have c1 : w.cell? ⟨gb, 2 * j + 1, none⟩ = some (strV R[j].2) := own_cells HOu.out _ _ hget.2
            have e2 : j * 2 = 2 * j := Nat.mul_comm _ _
            have hqm := (HMi.out.2 R[j] (List.getElem_mem hlj)).2
            have Hn2 : Hid (decide (1024 < R[j].2.length) = false → (R.take (j + 1)).any (fun q => decide (1024 < q.2.length)) = false) := fun h => any_next hlj hno2.out h
            have Hb2 : Hid (decide (1024 < R[j].2.length) = true → r = false) := fun h => Hbad.out (by unfold longRdn; rw [any_yes (p := fun q : Pair => decide (1024 < q.2.length)) hlj h]; simp)
            clear hget
            generalize R[j] = q at *
            obtain ⟨q1, q2⟩ := q
            simp only [strV] at c1 hqm Hn2 Hb2
            have hS : (⟨q2.toArray⟩ : ByteArray).size = q2.length := by simp [ByteArray.size]
            by_cases hl : 1024 < q2.length
            · have HF : Hid (r = false) := Hb2.out (by simpa using hl)
              have hl' : (1024 : Int) < (q2.length : Int) := by omega
              clear Hn2 Hb2
              go_wp2_with fail
              go_ret
              exact ⟨by rw [HF.out]; rfl, rfl⟩
            · have HN : Hid ((R.take (j + 1)).any (fun q => decide (1024 < q.2.length)) = false) := Hn2.out (by simpa using hl)
              have hl' : ¬ (1024 : Int) < (q2.length : Int) := by omega
              clear Hn2 Hb2
              go_wp2_with fail
              go_roundg (R.length - (j + 1))
              case measure => omega
              case rel => exact ⟨⟨j + 1, by omega, Nat.le_refl _, by go_num, HN.out⟩, rfl⟩
          · have HN : Hid ((d.take (i + 1)).any longRdn = false) := Hnx.out (by
              have := hno2.out
              rw [List.take_of_length_le (by omega)] at this
              unfold longRdn
              rw [this]; simpa using h4)
            go_wp2_with fail
            go_roundg (d.length - (i + 1))
            case measure => omega
            case rel => exact ⟨⟨i + 1, by omega, Nat.le_refl _, by go_num, HN.out⟩, rfl⟩
    · have HT : Hid (r = true) := by
        show r = true
        have := hno.out
        rw [List.take_of_length_le (by omega)] at this
        rw [HR.out, this]; rfl
      go_wp2_with fail
      go_ret
      exact ⟨by rw [HT.out]; rfl, rfl⟩
end Sy
end Go.Proofs.YthoealembhkaoaaGreatDoor
namespace Go.Proofs.YthoealembhkaoaaGreatDoor
open Go.RowKit
namespace Sy
set_option linter.unusedVariables false
set_option maxRecDepth 100000

set_option maxHeartbeats 2000000 in
theorem rDigits_calls (s : ByteArray) (w : World) (hs : s.size ≤ 140737488351232) :
    Calls Tryz.prog 81 #[.string s] w fun e w' => e = .returned (.bool (digits s.data.toList)) ∧ w' = w := by
  obtain ⟨r, hr⟩ : ∃ r, digits s.data.toList = r := ⟨_, rfl⟩
  rw [hr]
  have hl : s.data.toList.length = s.size := by simp
  have Hr : Hid (r = (!s.data.toList.isEmpty && s.data.toList.all fun b => isDigit (b.toNat : Int))) := by show r = _; rw [← hr, digits_isD]
  have Hl := Lib.hid hl
  clear hr hl
  go_enter Tryz.func81, Tryz.ntmps81
  go_wp2_with fail
  go_loopg [3] s.size (fun k v wr => (∃ j : Nat, j ≤ s.size ∧ s.size - j ≤ k ∧ v = .int .i64 j ∧ Hid (∀ b ∈ s.data.toList.take j, isDigit (b.toNat : Int) = true)) ∧ wr = w)
  case atStart => exact ⟨⟨0, Nat.zero_le _, Nat.le_refl _, rfl, fun p hp => by simp at hp⟩, rfl⟩
  case round =>
    obtain ⟨⟨j, hj, hk, rfl, hall⟩, hw⟩ := hrel
    have hw := hw.symm
    subst hw
    by_cases hlt : j < s.size
    · have Hall : Hid (isDigit ((s[j]'hlt).toNat : Int) = true → ∀ b ∈ s.data.toList.take (j + 1), isDigit (b.toNat : Int) = true) := fun h => all_take (p := fun b : UInt8 => isDigit (b.toNat : Int)) hlt hall.out h
      have Hno : Hid (isDigit ((s[j]'hlt).toNat : Int) = false → r = false) := fun h => by
        rw [Hr.out, all_no (p := fun b : UInt8 => isDigit (b.toNat : Int)) hlt h]; simp
      by_cases hd : (48 : Int) ≤ ((s[j]'hlt).toNat : Int) ∧ ((s[j]'hlt).toNat : Int) ≤ 57
      · have HA : Hid (∀ b ∈ s.data.toList.take (j + 1), isDigit (b.toNat : Int) = true) := Hall.out (by simp [isDigit]; omega)
        have h1 := hd.1
        have h2 := hd.2
        clear Hall Hno hd
        go_wp2_with fail
        go_roundg (s.size - (j + 1))
        case measure => omega
        case rel => exact ⟨⟨j + 1, by omega, Nat.le_refl _, by go_num, HA.out⟩, rfl⟩
      · have HF : Hid (r = false) := Hno.out (by rw [← Bool.not_eq_true]; intro h; simp only [isDigit, Bool.and_eq_true, decide_eq_true_eq] at h; omega)
        clear Hall Hno
        by_cases h1 : ((s[j]'hlt).toNat : Int) < 48
        · clear hd
          go_wp2_with fail
          go_ret
          exact ⟨by rw [HF.out]; rfl, rfl⟩
        · have h2 : (57 : Int) < ((s[j]'hlt).toNat : Int) := by omega
          clear hd
          go_wp2_with fail
          go_ret
          exact ⟨by rw [HF.out]; rfl, rfl⟩
    · have HT : Hid (r = decide (0 < s.size)) := by
        show r = _
        have h := hall.out
        rw [List.take_of_length_le (by rw [Hl.out]; omega)] at h
        rw [Hr.out, List.all_eq_true.2 h, Bool.and_true, Bool.eq_iff_iff]
        simp only [Bool.not_eq_true', List.isEmpty_eq_false_iff, decide_eq_true_eq]
        rw [← List.length_pos_iff, Hl.out]
      go_wp2_with fail
      go_ret
      exact ⟨by rw [HT.out]; rfl, rfl⟩
end Sy
end Go.Proofs.YthoealembhkaoaaGreatDoor
namespace Go.Proofs.YthoealembhkaoaaGreatDoor
open Go.RowKit
namespace Sy
set_option linter.unusedVariables false
set_option maxRecDepth 100000

/-- A whole number's text, as the reference reads it. -/
def rInt : List UInt8 → Bool
  | [] => false
  | c :: l => if c = 45 then (decide (l ≠ [48]) && rInt l) && !(l.head? == some 45) else digits (c :: l) && decide ((c :: l).length ≤ 40) && (!(c == 48) || decide (l = []))
theorem digits_minus (l : List UInt8) : digits (45 :: l) = false := by simp [digits]
theorem rInt_eq (l : List UInt8) : rInt l = isInt l := by
  rcases l with _ | ⟨c, l⟩
  · decide
  · by_cases h45 : c = 45
    · subst h45
      have e1 : isInt (45 :: l) = (digits l && decide (l.length ≤ 40) && !(l.head? == some 48)) := by
        have hp : Lib.hasPrefix (45 :: l) [45] = true := by simp [Lib.hasPrefix]
        have ht : Lib.trimPrefix (45 :: l) [45] = l := by simp [Lib.trimPrefix, hp]
        simp [isInt, hp, ht]
      rw [e1]
      simp only [rInt, if_true]
      rcases l with _ | ⟨d, m⟩
      · decide
      · by_cases hd : d = 45
        · subst hd
          rw [digits_minus]; simp
        · simp only [rInt, hd, if_false, List.head?_cons]
          have hb : (d == 45) = false := by simpa using hd
          by_cases h48 : d = 48
          · subst h48
            by_cases hm : m = []
            · subst hm; decide
            · simp [hm]
          · have hb8 : (d == 48) = false := by simpa using h48
            simp [h48, hb, hb8]
    · have hp : Lib.hasPrefix (c :: l) [45] = false := by
        have h9 : ((45 : UInt8) == c) = false := by rw [beq_eq_false_iff_ne]; exact fun h => h45 h.symm
        simp [Lib.hasPrefix, List.isPrefixOf, h9]
      have ht : Lib.trimPrefix (c :: l) [45] = c :: l := by simp [Lib.trimPrefix, hp]
      simp only [isInt, hp, ht, rInt, h45, if_false]
      by_cases h48 : c = 48
      · subst h48
        by_cases hl : l = [] <;> simp [hl]
      · have hb8 : (c == 48) = false := by simpa using h48
        simp [hb8]
theorem rInt_minus {s : ByteArray} (h : 0 < s.size) (h45 : ((s[0]'h).toNat : Int) = 45) : rInt s.data.toList = ((decide (rest s 1 ≠ [48]) && rInt (rest s 1)) && !((rest s 1).head? == some 45)) := by
  have e : s.data.toList = s[0] :: rest s 1 := by have := rest_lt (s := s) (i := 0) h; simpa [rest] using this
  have hc : s[0] = 45 := u8_eq (n := 45) (by omega) h45
  rw [e]
  simp only [rInt, hc, if_true]
theorem rInt_plain {s : ByteArray} (h : 0 < s.size) (h45 : ¬ ((s[0]'h).toNat : Int) = 45) : rInt s.data.toList = (digits s.data.toList && decide (s.size ≤ 40) && (!decide (((s[0]'h).toNat : Int) = 48) || decide (rest s 1 = []))) := by
  have e : s.data.toList = s[0] :: rest s 1 := by have := rest_lt (s := s) (i := 0) h; simpa [rest] using this
  have hc : ¬ s[0] = 45 := fun h => h45 (by rw [h]; rfl)
  have hl : (s[0] :: rest s 1).length = s.size := by rw [← e]; simp
  have hz : (s[0] == 48) = decide ((s[0].toNat : Int) = 48) := by
    rw [Bool.eq_iff_iff, beq_iff_eq, decide_eq_true_eq]; exact byte_is _ _
  have e2 : rInt (s[0] :: rest s 1) = (digits (s[0] :: rest s 1) && decide (s.size ≤ 40) && (!decide ((s[0].toNat : Int) = 48) || decide (rest s 1 = []))) := by
    simp only [rInt, hc, if_false, hl, hz]
  rw [← e] at e2
  exact e2
set_option maxHeartbeats 2000000 in
theorem rInteger_any (n : Nat) : ∀ (s : ByteArray) (w : World), s.size ≤ n → s.size ≤ 140737488351232 →
    Calls Tryz.prog 48 #[.string s] w fun e w' => e = .returned (.bool (rInt s.data.toList)) ∧ w' = w := by
  induction n with
  | zero =>
    intro s w hn hs
    have hd := rDigits_calls s w hs
    have h0 : s.data.toList = [] := by
      apply List.length_eq_zero_iff.1
      have : s.data.toList.length = s.size := by simp
      omega
    rw [h0] at hd ⊢
    have hz : ¬ (0 : Int) < (s.size : Int) := by omega
    change Calls _ _ _ _ fun e w' => e = .returned (.bool false) ∧ w' = w at hd
    clear hn h0
    go_enter Tryz.func48, Tryz.ntmps48
    go_wp2_with fail
    refine hd.mono ?_
    rintro e w1 ⟨rfl, rfl⟩
    clear hd
    go_wp2_with fail
    go_ret
    exact ⟨rfl, rfl⟩
  | succ n ih =>
    intro s w hn hs
    by_cases h0 : s.size = 0
    · have := ih s w (by omega) hs
      exact this
    have hpos : 0 < s.size := by omega
    have hlt : (0 : Int) < (s.size : Int) := by omega
    by_cases h45 : ((s[0]'hpos).toNat : Int) = 45
    · rw [rInt_minus hpos h45]
      have q45 : (((s[0]'hpos).toNat : Int) == 45) = true := by simpa using h45
      have e1 : (s.extract 1 s.size).data.toList = rest s 1 := by rw [Lib.extract_data, List.take_of_length_le (by simp)]
      have hxz : (s.extract 1 s.size).size = s.size - 1 := by simp [ByteArray.size_extract]
      have hx := ih (s.extract 1 s.size) w (by omega) (by omega)
      rw [e1] at hx
      have hi : rInt (rest s 1) = true → 0 < (rest s 1).length := fun h => by
        rcases hr : rest s 1 with _ | ⟨a, b⟩
        · rw [hr] at h; cases h
        · simp
      have he : s.data.toList = s[0] :: rest s 1 := by have := rest_lt (s := s) (i := 0) hpos; simpa [rest] using this
      have hc : s[0] = 45 := u8_eq (n := 45) (by omega) h45
      have HQ : (s.toList == [45, 48]) = decide (rest s 1 = [48]) := by
        rw [ByteArray.toList_eq, he, hc]
        rw [Bool.eq_iff_iff]; simp
      have Hl1 : (rest s 1).length = s.size - 1 := by simp [rest]
      have hh : 1 < s.size → ∃ h : 1 < s.size, (rest s 1).head? = some (s[1]'h) := fun h => ⟨h, by rw [rest_lt h]; rfl⟩
      by_cases hq : rest s 1 = [48]
      · have q1 : (s.toList == [45, 48]) = true := by rw [HQ]; simpa using hq
        have q2 : s.toList = [45, 48] := by simpa using q1
        have hr : (decide (rest s 1 ≠ [48]) && rInt (rest s 1) && !(rest s 1).head? == some 45) = false := by simp [hq]
        rw [hr]
        clear hq hr HQ hi he hc hh Hl1 hx e1 ih h45 hs hxz
        go_enter Tryz.func48, Tryz.ntmps48
        go_wp2_with fail
        go_ret
        exact ⟨rfl, rfl⟩
      · have q1 : (s.toList == [45, 48]) = false := by rw [HQ]; simpa using hq
        have q2 : ¬ s.toList = [45, 48] := by simpa using q1
        have p1 : (1 : Int) ≤ (s.size : Int) := by omega
        cases hx1 : rInt (rest s 1) with
        | false =>
          have hr : (decide (rest s 1 ≠ [48]) && false && !(rest s 1).head? == some 45) = false := by simp
          rw [hr]
          rw [hx1] at hx
          clear hq hr HQ hi he hc hh Hl1 hx1 e1 ih h45 hxz
          go_enter Tryz.func48, Tryz.ntmps48
          go_wp2_with fail
          refine hx.mono ?_
          rintro e w1 ⟨rfl, rfl⟩
          clear hx
          go_wp2_with fail
          go_ret
          exact ⟨rfl, rfl⟩
        | true =>
          obtain ⟨h1, hh1⟩ := hh (by have := hi hx1; omega)
          have p2 : (1 : Int) < (s.size : Int) := by omega
          have hr : (decide (rest s 1 ≠ [48]) && true && !(rest s 1).head? == some 45) = !decide (((s[1]'h1).toNat : Int) = 45) := by
            rw [hh1]
            have e9 : (some (s[1]'h1) == some (45 : UInt8)) = decide (((s[1]'h1).toNat : Int) = 45) := by
              rw [Bool.eq_iff_iff, beq_iff_eq, decide_eq_true_eq, Option.some.injEq]; exact byte_is _ _
            rw [e9, decide_eq_true (p := rest s 1 ≠ [48]) hq]; simp only [Bool.true_and]
          rw [hr]
          rw [hx1] at hx
          obtain ⟨b, hb⟩ : ∃ b, decide (((s[1]'h1).toNat : Int) = 45) = b := ⟨_, rfl⟩
          rw [hb]
          clear hq hr HQ hi he hc hh Hl1 hx1 e1 ih h45 hxz hh1
          cases b with
          | true =>
            have q5 : (((s[1]'h1).toNat : Int) != 45) = false := by have := of_decide_eq_true hb; simp [this]
            clear hb
            go_enter Tryz.func48, Tryz.ntmps48
            go_wp2_with fail
            refine hx.mono ?_
            rintro e w1 ⟨rfl, rfl⟩
            clear hx
            go_wp2_with fail
            go_ret
            exact ⟨rfl, rfl⟩
          | false =>
            have q5 : (((s[1]'h1).toNat : Int) != 45) = true := by have := of_decide_eq_false hb; simp [this]
            clear hb
            go_enter Tryz.func48, Tryz.ntmps48
            go_wp2_with fail
            refine hx.mono ?_
            rintro e w1 ⟨rfl, rfl⟩
            clear hx
            go_wp2_with fail
            go_ret
            exact ⟨rfl, rfl⟩
    · rw [rInt_plain hpos h45]
      have q45 : (((s[0]'hpos).toNat : Int) == 45) = false := by simpa using h45
      have hd := rDigits_calls s w hs
      cases hdd : digits s.data.toList with
      | false =>
        rw [hdd] at hd
        simp only [Bool.false_and]
        clear hdd ih h45
        go_enter Tryz.func48, Tryz.ntmps48
        go_wp2_with fail
        refine hd.mono ?_
        rintro e w1 ⟨rfl, rfl⟩
        clear hd
        go_wp2_with fail
        go_ret
        exact ⟨rfl, rfl⟩
      | true =>
        rw [hdd] at hd
        by_cases h40 : s.size ≤ 40
        · have e40 : decide (s.size ≤ 40) = true := by simpa using h40
          have p40 : (s.size : Int) ≤ 40 := by omega
          simp only [e40, Bool.true_and]
          by_cases h48 : ((s[0]'hpos).toNat : Int) = 48
          · have q48 : (((s[0]'hpos).toNat : Int) != 48) = false := by simp [h48]
            have he : s.data.toList = s[0] :: rest s 1 := by have := rest_lt (s := s) (i := 0) hpos; simpa [rest] using this
            have hc : s[0] = 48 := u8_eq (n := 48) (by omega) h48
            have HQ : (s.toList == [48]) = decide (rest s 1 = []) := by
              rw [ByteArray.toList_eq, he, hc]
              rw [Bool.eq_iff_iff]; simp
            rw [decide_eq_true h48]
            simp only [Bool.not_true, Bool.false_or]
            obtain ⟨b, hb⟩ : ∃ b, decide (rest s 1 = []) = b := ⟨_, rfl⟩
            rw [hb] at HQ ⊢
            clear hb hdd ih h45 he hc e40 h48
            cases b with
            | true =>
              have q2 : s.toList = [48] := by simpa using HQ
              go_enter Tryz.func48, Tryz.ntmps48
              go_wp2_with fail
              refine hd.mono ?_
              rintro e w1 ⟨rfl, rfl⟩
              clear hd
              go_wp2_with fail
              go_ret
              exact ⟨rfl, rfl⟩
            | false =>
              have q2 : ¬ s.toList = [48] := by simpa using HQ
              go_enter Tryz.func48, Tryz.ntmps48
              go_wp2_with fail
              refine hd.mono ?_
              rintro e w1 ⟨rfl, rfl⟩
              clear hd
              go_wp2_with fail
              go_ret
              exact ⟨rfl, rfl⟩
          · have q48 : (((s[0]'hpos).toNat : Int) != 48) = true := by simp [h48]
            rw [decide_eq_false h48]
            simp only [Bool.not_false, Bool.true_or]
            clear hdd ih h45 e40 h48
            go_enter Tryz.func48, Tryz.ntmps48
            go_wp2_with fail
            refine hd.mono ?_
            rintro e w1 ⟨rfl, rfl⟩
            clear hd
            go_wp2_with fail
            go_ret
            exact ⟨rfl, rfl⟩
        · have e40 : decide (s.size ≤ 40) = false := by simpa using h40
          have p40 : ¬ (s.size : Int) ≤ 40 := by omega
          simp only [e40, Bool.and_false, Bool.false_and]
          clear hdd ih h45 e40
          go_enter Tryz.func48, Tryz.ntmps48
          go_wp2_with fail
          refine hd.mono ?_
          rintro e w1 ⟨rfl, rfl⟩
          clear hd
          go_wp2_with fail
          go_ret
          exact ⟨rfl, rfl⟩
theorem rInteger_calls (s : ByteArray) (w : World) (hs : s.size ≤ 140737488351232) :
    Calls Tryz.prog 48 #[.string s] w fun e w' => e = .returned (.bool (isInt s.data.toList)) ∧ w' = w := by
  rw [← rInt_eq]
  exact rInteger_any s.size s w (Nat.le_refl _) hs
end Sy
end Go.Proofs.YthoealembhkaoaaGreatDoor
