import Derived.Test.YthoealembhkaoaaGreatDoorFm34
import Derived.Test.YthoealembhkaoaaGreatDoorFm14
import Derived.Test.YthoealembhkaoaaGreatDoorFm12
import Derived.Test.YthoealembhkaoaaGreatDoorFm13
namespace Go.Proofs.YthoealembhkaoaaGreatDoor
open Go.RowKit
namespace Sy
set_option linter.unusedVariables false
set_option maxRecDepth 100000

theorem drewN_two (w : World) (a b : Nat) : (w.drewN a).drewN b = w.drewN (a + b) := by
  unfold World.drewN
  simp only [Nat.add_assoc]
theorem cb_nil_nil : Lib.compareBytes [] [] = 0 := rfl
theorem cb_nil_cons (b : UInt8) (m : List UInt8) : Lib.compareBytes [] (b :: m) = -1 := rfl
theorem cb_cons_nil (a : UInt8) (l : List UInt8) : Lib.compareBytes (a :: l) [] = 1 := rfl
set_option maxHeartbeats 4000000 in
theorem rCompare_calls (a b : ByteArray) (w : World) (ha : a.size ≤ 9223372036854775807) (hb : b.size ≤ 9223372036854775807) :
    Calls Tryz.prog 47 #[.string a, .string b] w fun e w' => e = .returned (.int .i64 (Lib.compareBytes a.data.toList b.data.toList)) ∧ ∃ n, w' = w.drewN n := by
  obtain ⟨r, hr⟩ : ∃ r, Lib.compareBytes a.data.toList b.data.toList = r := ⟨_, rfl⟩
  rw [hr]
  have Hr := Lib.hid hr
  clear hr
  go_enter Tryz.func47, Tryz.ntmps47
  go_wp2_with fail
  go_loopg [5] a.size (fun k iv wr => ∃ i : Nat, i ≤ a.size ∧ i ≤ b.size ∧ a.size - i ≤ k ∧ iv = .int .i64 i ∧ Hid (Lib.compareBytes (rest a i) (rest b i) = r) ∧ Hid (∃ n, wr = w.drewN n))
  case atStart => exact ⟨0, Nat.zero_le _, Nat.zero_le _, Nat.le_refl _, rfl, Hr.out, 0, rfl⟩
  case round =>
    obtain ⟨i, hia, hib, hk, rfl, hI, hw⟩ := hrel
    by_cases h1 : i < a.size
    · have q1 : decide ((i : Int) < (a.size : Int)) = true := by simpa using h1
      by_cases h2 : i < b.size
      · have q2 : decide ((i : Int) < (b.size : Int)) = true := by simpa using h2
        have hI2 := hI.out
        rw [rest_lt h1, rest_lt h2, cb_cons] at hI2
        have HI2 := Lib.hid hI2
        clear hI2
        rcases Nat.lt_trichotomy (a[i]'h1).toNat (b[i]'h2).toNat with hc | hc | hc
        · have HN : Hid (r = -1) := by
            show r = _
            rw [← HI2.out, if_pos hc]
          have hc1 : ((a[i]'h1).toNat : Int) < ((b[i]'h2).toNat : Int) := by omega
          clear HI2
          go_wp2_with fail
          go_quiet (fail)
          go_wp2_with fail
          go_ret
          refine ⟨by rw [HN.out]; rfl, ?_⟩
          obtain ⟨n, hn⟩ := hw.out
          exact ⟨n + nq, by rw [hn]; exact drewN_two _ _ _⟩
        · have HN : Hid (Lib.compareBytes (rest a (i + 1)) (rest b (i + 1)) = r) := by
            show _ = r
            rw [← HI2.out, if_neg (by omega), if_neg (by omega)]
          have hc1 : ¬ ((a[i]'h1).toNat : Int) < ((b[i]'h2).toNat : Int) := by omega
          have hc2 : ¬ ((b[i]'h2).toNat : Int) < ((a[i]'h1).toNat : Int) := by omega
          have hc3 : ¬ (a[i]'h1).toNat < (b[i]'h2).toNat := by omega
          have hc4 : ¬ (b[i]'h2).toNat < (a[i]'h1).toNat := by omega
          clear HI2 hc
          go_wp2_with fail
          go_quiet (fail)
          have hw1 : Hid (∃ n, wr.drewN nq = w.drewN n) := by
            obtain ⟨n, hn⟩ := hw.out
            exact ⟨n + nq, by rw [hn]; exact drewN_two _ _ _⟩
          generalize wr.drewN nq = w1 at *
          go_wp2_with fail
          go_quiet (fail)
          have hw2 : Hid (∃ n, w1.drewN nq = w.drewN n) := by
            obtain ⟨n, hn⟩ := hw1.out
            exact ⟨n + nq, by rw [hn]; exact drewN_two _ _ _⟩
          generalize w1.drewN nq = w2 at *
          go_wp2_with fail
          go_roundg (a.size - (i + 1))
          case measure => omega
          case rel => exact ⟨i + 1, by omega, by omega, Nat.le_refl _, by go_num, HN.out, hw2.out⟩
        · have HN : Hid (r = 1) := by
            show r = _
            rw [← HI2.out, if_neg (by omega), if_pos hc]
          have hc1 : ¬ ((a[i]'h1).toNat : Int) < ((b[i]'h2).toNat : Int) := by omega
          have hc2 : ((b[i]'h2).toNat : Int) < ((a[i]'h1).toNat : Int) := by omega
          have hc3 : ¬ (a[i]'h1).toNat < (b[i]'h2).toNat := by omega
          clear HI2
          go_wp2_with fail
          go_quiet (fail)
          have hw1 : Hid (∃ n, wr.drewN nq = w.drewN n) := by
            obtain ⟨n, hn⟩ := hw.out
            exact ⟨n + nq, by rw [hn]; exact drewN_two _ _ _⟩
          generalize wr.drewN nq = w1 at *
          go_wp2_with fail
          go_quiet (fail)
          go_wp2_with fail
          go_ret
          refine ⟨by rw [HN.out]; rfl, ?_⟩
          obtain ⟨n, hn⟩ := hw1.out
          exact ⟨n + nq, by rw [hn]; exact drewN_two _ _ _⟩
      · have e2 : i = b.size := by omega
        subst e2
        have HN : Hid (r = 1) := by
          show r = _
          rw [← hI.out, rest_lt h1, rest_ge (Nat.le_refl _)]; rfl
        have h3 : (b.size : Int) < (a.size : Int) := by omega
        have h4 : ¬ (a.size : Int) < (b.size : Int) := by omega
        have h5 : ¬ a.size < b.size := by omega
        clear h2
        go_wp2_with fail
        go_ret
        exact ⟨by rw [HN.out]; rfl, hw.out⟩
    · have e1 : i = a.size := by omega
      subst e1
      by_cases h2 : a.size < b.size
      · have HN : Hid (r = -1) := by
          show r = _
          rw [← hI.out, rest_ge (Nat.le_refl _), rest_lt h2]; rfl
        have h3 : (a.size : Int) < (b.size : Int) := by omega
        clear h1
        go_wp2_with fail
        go_ret
        exact ⟨by rw [HN.out]; rfl, hw.out⟩
      · have e2 : b.size ≤ a.size := by omega
        have HN : Hid (r = 0) := by
          show r = _
          rw [← hI.out, rest_ge (Nat.le_refl _), rest_ge e2]; rfl
        have h3 : ¬ (a.size : Int) < (b.size : Int) := by omega
        have h4 : ¬ (b.size : Int) < (a.size : Int) := by omega
        have h5 : ¬ b.size < a.size := by omega
        clear h1
        go_wp2_with fail
        go_ret
        exact ⟨by rw [HN.out]; rfl, hw.out⟩
set_option maxHeartbeats 2000000 in
theorem rLess_calls (p q : Pair) (w : World) (h1 : p.1.length ≤ 4294967296) (h2 : p.2.length ≤ 4294967296) (h3 : q.1.length ≤ 4294967296) (h4 : q.2.length ≤ 4294967296) :
    Calls Tryz.prog 125 #[avaV p, avaV q] w fun e w' => e = .returned (.int .i64 (cmpPair p q)) ∧ Below w.heap.size w w' := by
  obtain ⟨p1, p2⟩ := p
  obtain ⟨q1, q2⟩ := q
  simp only at h1 h2 h3 h4
  have hc1 := fun W => rCompare_calls ⟨p1.toArray⟩ ⟨q1.toArray⟩ W (by show p1.toArray.size ≤ _; simp; omega) (by show q1.toArray.size ≤ _; simp; omega)
  have hc2 := fun W => rCompare_calls ⟨p2.toArray⟩ ⟨q2.toArray⟩ W (by show p2.toArray.size ≤ _; simp; omega) (by show q2.toArray.size ≤ _; simp; omega)
  simp only at hc1 hc2
  have hcp : cmpPair (p1, p2) (q1, q2) = orR (Lib.compareBytes p1 q1) (Lib.compareBytes p2 q2) := rfl
  rw [hcp]
  generalize Lib.compareBytes p1 q1 = x at *
  generalize Lib.compareBytes p2 q2 = y at *
  clear hcp h1 h2 h3 h4
  simp only [avaV, strV]
  have hb0 : Below w.heap.size w ((w.alloc (Obj.cells #[Value.string { data := p1.toArray }, Value.string { data := p2.toArray }] 85)).alloc (Obj.cells #[Value.string { data := q1.toArray }, Value.string { data := q2.toArray }] 85)) := ((Below.refl _ _).alloc (Nat.le_refl _) _).alloc (by simp) _
  have HB := Lib.hid hb0
  clear hb0
  by_cases hx : x = 0
  · have q0 : (x == 0) = true := by simpa using hx
    have e1 : orR x y = y := by unfold orR; rw [if_pos hx]
    rw [e1]
    clear hx e1
    go_enter Tryz.func125, Tryz.ntmps125
    go_wp2_with fail
    refine (hc1 _).mono ?_
    rintro e w1 ⟨rfl, n1, rfl⟩
    clear hc1
    go_wp2_with fail
    refine (hc2 _).mono ?_
    rintro e w1 ⟨rfl, n2, rfl⟩
    clear hc2
    go_wp2_with fail
    go_ret
    exact ⟨rfl, HB.out.drewN' _⟩
  · have q0 : (x == 0) = false := by simpa using hx
    have e1 : orR x y = x := by unfold orR; rw [if_neg hx]
    rw [e1]
    clear hx e1 hc2
    go_enter Tryz.func125, Tryz.ntmps125
    go_wp2_with fail
    refine (hc1 _).mono ?_
    rintro e w1 ⟨rfl, n1, rfl⟩
    clear hc1
    go_wp2_with fail
    go_ret
    exact ⟨rfl, HB.out.drewN' n1⟩
end Sy
end Go.Proofs.YthoealembhkaoaaGreatDoor
namespace Go.Proofs.YthoealembhkaoaaGreatDoor
open Go.RowKit
namespace Sy
set_option linter.unusedVariables false
set_option maxRecDepth 100000

set_option maxRecDepth 100000 in
set_option maxHeartbeats 2000000 in
theorem rHex_calls (s : ByteArray) (w : World) (hs : s.size ≤ 140737488351232) :
    Calls Tryz.prog 177 #[.string s] w fun e w' => e = .returned (strV (hexed s.data.toList)) ∧ Below w.heap.size w w' := by
  obtain ⟨i0, hi, hz0, hz1, hz2⟩ := info_parts info5
  obtain ⟨r, hr⟩ : ∃ r, hexed s.data.toList = r := ⟨_, rfl⟩
  rw [hr]
  have Hr := Lib.hid hr
  clear hr
  go_enter Tryz.func177, Tryz.ntmps177
  go_wp2_with (at_make; refine wpList_make_own _ rfl _ _ 88 rfl w.heap.size 5 i0 (.int .u8 0) 1 Tryz.underlying88 hi hz0 hz1 _ _ _ (2 * s.size) rfl rfl (by omega) (by rw [hz2]; omega) (by unfold maxLen; omega) (Nat.le_refl _) ?_; intro w1 hown1 hgr1)
  have hb1 : Below w.heap.size w w1 := (Below.refl _ _).grown hgr1 (Nat.le_refl _) (by simp)
  obtain ⟨g, hg⟩ : ∃ g, g = w.heap.size := ⟨_, rfl⟩
  rw [← hg] at hown1
  have Hown1 := Lib.hid hown1
  have Hb1 := Lib.hid hb1
  rw [← hg]
  clear hown1 hb1 hgr1
  have Hg := Lib.hid hg
  clear hg
  go_loopg [3, 4] s.size (fun k v iv wr => ∃ (i j : Nat) (l : List UInt8), i ≤ s.size ∧ s.size - i ≤ k ∧ iv = .int .i64 i ∧ v = .slice (some ⟨g, 0, none⟩) j (2 * s.size) ∧ Hid (j = 2 * i) ∧ Hid (wr.ownsRow g 5 1 (.slice (some ⟨g, 0, none⟩) j (2 * s.size)) j (bytesV l)) ∧ Hid (r = l ++ hexed (rest s i)) ∧ Hid (Below g w wr))
  case atStart => exact ⟨0, 0, [], Nat.zero_le _, Nat.le_refl _, rfl, rfl, rfl, Hown1.out, by rw [← Hr.out]; rfl, by rw [Hg.out]; exact Hb1.out⟩
  case round =>
    obtain ⟨i, j, l, hi', hk, rfl, rfl, hij, hown, hu, hb⟩ := hrel
    by_cases hlt : i < s.size
    · have hB0 := byte_le (s[i]'hlt)
      have Hrt := Lib.hid (rest_lt hlt)
      have hjc : j + 2 ≤ 2 * s.size := by have := hij.out; omega
      go_wp2_with fail
      have q1 : (0 : Int) ≤ (s[i].toNat : Int) / 16 := by omega
      have q2 : (s[i].toNat : Int) / 16 < 16 := by omega
      have q3 : (0 : Int) ≤ (s[i].toNat : Int) % 16 := by omega
      have q4 : (s[i].toNat : Int) % 16 < 16 := by omega
      have q5 : IntKind.u8.wrap ((s[i].toNat : Int) / 16) = (s[i].toNat : Int) / 16 := IntWalk.u8_in _ (by omega)
      have q6 : IntKind.u8.wrap ((s[i].toNat : Int) % 16) = (s[i].toNat : Int) % 16 := IntWalk.u8_in _ (by omega)
      have q7 : (s[i].toNat : Int).tmod 16 = (s[i].toNat : Int) % 16 := Int.tmod_eq_emod_of_nonneg (by omega)
      go_region_law (refine step_append_fits rfl _ _ 88 rfl g 5 i0 1 Tryz.underlying88 hi hz1 g j (2 * s.size) (bytesV l) rfl ((own_drewN hown.out 1).alloc _) ⟨wr.heap.size, 0, none⟩ 2 2 [_, _] rfl rfl (cell_two_new _ _ _ _) (by simp [Value.oneCell']) hjc ?_; intro w2 hown2 hgr2)
      all_goals
        clear q5 q6 q7
        simp only [digs_at] at hown2
        have e1 : ((s[i].toNat : Int) / 16).toNat = s[i].toNat / 16 := by omega
        have e2 : ((s[i].toNat : Int) % 16).toNat = s[i].toNat % 16 := by omega
        rw [e1, e2] at hown2
        have hv : bytesV l ++ [Value.int .u8 ((hexd (s[i].toNat / 16)).toNat : Int), Value.int .u8 ((hexd (s[i].toNat % 16)).toNat : Int)] = bytesV (l ++ [hexd (s[i].toNat / 16), hexd (s[i].toNat % 16)]) := by simp [bytesV]
        rw [hv] at hown2
        have Hown2 := Lib.hid hown2
        have Hs : Hid (r = (l ++ [hexd (s[i].toNat / 16), hexd (s[i].toNat % 16)]) ++ hexed (rest s (i + 1))) := by
          show r = _
          rw [hu.out, Hrt.out]
          simp [hexed]
        have Hb2 := Lib.hid ((((hb.out.drewN' 1).alloc (by have := (hown.out.lt g rfl).2; simp; omega) _).grown hgr2 (by have := (hown.out.lt g rfl).2; simp; omega) (fun k hk => by simp at hk; omega)))
        clear hgr2 hown2 hv e1 e2
        go_wp2_with fail
        go_roundg (s.size - (i + 1))
        case measure => omega
        case rel => exact ⟨i + 1, j + 2, _, by omega, Nat.le_refl _, by go_num, rfl, by have := hij.out; exact (by omega : j + 2 = 2 * (i + 1)), Hown2.out, Hs.out, Hb2.out⟩
    · have Hc := Lib.hid (convert_own hown.out (Nat.le_refl _) (2 * s.size))
      have hc := Hc.out
      go_wp2_with fail
      go_ret
      refine ⟨?_, by have := hb.out; rw [Hg.out] at this; exact this⟩
      have hn : l.length = j := by have := hown.out.1; rw [bytesV_length] at this; omega
      rw [hu.out, rest_ge (by omega)]
      simp [hexed, strV, ← hn]
end Sy
end Go.Proofs.YthoealembhkaoaaGreatDoor
namespace Go.Proofs.YthoealembhkaoaaGreatDoor
open Go.RowKit
namespace Sy
set_option linter.unusedVariables false
set_option maxRecDepth 100000

theorem byte_beq (c : UInt8) (n : Nat) (hn : n < 256) : (c == UInt8.ofNat n) = ((c.toNat : Int) == (n : Int)) := by
  rw [Bool.eq_iff_iff, beq_iff_eq, beq_iff_eq]
  constructor
  · intro h; rw [h]; simp; omega
  · intro h; exact u8_eq hn h
theorem marked_eq (c : UInt8) (i n : Nat) (l : List UInt8) (hl : l.isEmpty = decide (i + 1 = n)) (hi : i < n) :
    marked (decide (i = 0)) c l = (specI (c.toNat : Int) || (((i : Int) == 0) && (((c.toNat : Int) == 35) || ((c.toNat : Int) == 32))) || (((i : Int) == (n : Int) - 1) && ((c.toNat : Int) == 32))) := by
  unfold marked
  rw [specI_byte, hl]
  have e1 : (c == 35) = ((c.toNat : Int) == 35) := byte_beq c 35 (by omega)
  have e2 : (c == 32) = ((c.toNat : Int) == 32) := byte_beq c 32 (by omega)
  have e3 : decide (i = 0) = ((i : Int) == 0) := by rw [Bool.eq_iff_iff, beq_iff_eq, decide_eq_true_eq]; omega
  have e4 : decide (i + 1 = n) = ((i : Int) == (n : Int) - 1) := by rw [Bool.eq_iff_iff, beq_iff_eq, decide_eq_true_eq]; omega
  rw [e1, e2, e3, e4]
set_option maxHeartbeats 8000000 in
theorem rValue_calls (s : ByteArray) (w : World) (hs : s.size ≤ 4294967296) :
    Calls Tryz.prog 155 #[.string s] w fun e w' => e = .returned (strV (writtenR s.data.toList)) ∧ Below w.heap.size w w' := by
  obtain ⟨i0, hi0, hz0, hz1, hz2⟩ := info_parts info5
  have htx := rText_calls s w (by omega)
  unfold writtenR
  cases hval : Lib.validD s.data.toList with
  | false =>
    rw [hval] at htx
    have hh := fun W => rHex_calls s W (by omega)
    have hul := hexed_length s.data.toList
    simp only [Bool.false_eq_true, if_false]
    generalize hexed s.data.toList = u at *
    have hul2 : u.length ≤ 8589934592 := by
      have : s.data.toList.length = s.size := by simp
      omega
    clear hul
    go_enter Tryz.func155, Tryz.ntmps155
    go_wp2_with fail
    refine htx.mono ?_
    rintro e w1 ⟨rfl, rfl⟩
    clear htx
    go_wp2_with fail
    refine (hh _).mono ?_
    rintro e w2 ⟨rfl, hb2⟩
    clear hh
    simp only [strV]
    go_wp2_with fail
    rw [cat_one]
    go_ret
    exact ⟨rfl, hb2⟩
  | true =>
    rw [hval] at htx
    simp only [if_true]
    obtain ⟨r, hr⟩ : ∃ r, wrL true s.data.toList = r := ⟨_, rfl⟩
    rw [hr]
    have Hr := Lib.hid hr
    clear hr
    go_enter Tryz.func155, Tryz.ntmps155
    go_wp2_with fail
    refine htx.mono ?_
    rintro e w1 ⟨rfl, hw1⟩
    have hw1 := hw1.symm
    subst hw1
    clear htx
    go_wp2_with fail
    go_loopg [3, 4] s.size (fun k v iv wr => ∃ (i : Nat) (l : List UInt8), i ≤ s.size ∧ s.size - i ≤ k ∧ iv = .int .i64 i ∧ l.length ≤ 3 * i ∧ Hid (wr.ownsRow w.heap.size 5 1 v l.length (bytesV l)) ∧ Hid (r = l ++ wrL (decide (i = 0)) (rest s i)) ∧ Hid (Below w.heap.size w wr))
    case atStart => exact ⟨0, [], Nat.zero_le _, Nat.le_refl _, rfl, Nat.le_refl _, ⟨rfl, .inl ⟨rfl, rfl⟩⟩, by rw [← Hr.out]; rfl, Below.refl _ _⟩
    case round =>
      obtain ⟨i, l, hi', hk, rfl, hll, hown, hu, hb⟩ := hrel
      by_cases hlt : i < s.size
      · have hlast : (rest s (i + 1)).isEmpty = decide (i + 1 = s.size) := by
          rw [Bool.eq_iff_iff]; simp [rest]; omega
        go_upto_region 8 with fail
        obtain ⟨c, hc⟩ : ∃ c, s[i]'hlt = c := ⟨_, rfl⟩
        have Hrt : Hid (rest s i = c :: rest s (i + 1)) := by show _ = _; rw [← hc]; exact rest_lt hlt
        rw [hc]
        have hbl := byte_le c
        have hmk := Lib.hid (marked_eq c i s.size (rest s (i + 1)) hlast hlt)
        clear hc hlast
        by_cases h0 : c = 0
        · have q0 : ((c.toNat : Int) == 0) = true := by rw [h0]; rfl
          have Hn : Hid (r = (l ++ [92, 48, 48]) ++ wrL (decide (i + 1 = 0)) (rest s (i + 1))) := by
            show r = _
            rw [hu.out, Hrt.out]; simp [wrL, h0]
          clear h0
          go_wp2_with (at_builtin; refine Lib.wpList_append_own_string _ rfl _ _ 88 9 rfl w.heap.size 5 i0 Tryz.underlying88 Tryz.underlying9 hi0 hz0 hz1 hz2 _ _ _ rfl hown.out ⟨#[92, 48, 48]⟩ rfl (by show l.length + 3 ≤ _; unfold maxLen; omega) (by show l.length + 3 ≤ _; omega) hb.out.size ?_; intro v7 w7 hown7 hgr7 _)
          have O7 : Hid (w7.ownsRow w.heap.size 5 1 v7 (l ++ [92, 48, 48]).length (bytesV (l ++ [92, 48, 48]))) := by
            have e1 : (l ++ [92, 48, 48]).length = l.length + (⟨#[92, 48, 48]⟩ : ByteArray).size := by rw [List.length_append]; rfl
            have e2 : bytesV (l ++ [92, 48, 48]) = bytesV l ++ Lib.strCells ⟨#[92, 48, 48]⟩ := by simp [bytesV, Lib.strCells]
            show w7.ownsRow _ _ _ _ _ _
            rw [e1, e2]
            exact hown7
          have B7 : Hid (Below w.heap.size w w7) := hb.out.grown hgr7 hb.out.size (own_base_le hown.out)
          clear hown7 hgr7
          go_wp2_with fail
          go_roundg (s.size - (i + 1))
          case measure => omega
          case rel => exact ⟨i + 1, l ++ [92, 48, 48], by omega, Nat.le_refl _, by go_num, by simp; omega, by have := O7.out; exact this, Hn.out, B7.out⟩
        · have q0 : ((c.toNat : Int) == 0) = false := by
            rw [beq_eq_false_iff_ne]
            intro h
            exact h0 (u8_eq (n := 0) (by omega) h)
          have Hnm : Hid (r = (if marked (decide (i = 0)) c (rest s (i + 1)) then (l ++ [92]) ++ [c] else l ++ [c]) ++ wrL (decide (i + 1 = 0)) (rest s (i + 1))) := by
            show r = _
            rw [hu.out, Hrt.out]
            simp only [wrL, h0, if_false, List.append_assoc]
            split <;> simp
          have hsp := fun W => rSpecial_calls (c.toNat : Int) W
          clear h0 hu Hrt
          go_upto_region 10 with fail
          go_cut [49] (fun mv wx => mv = .bool (marked (decide (i = 0)) c (rest s (i + 1))) ∧ wr = wx)
          case first =>
            clear Hnm q0
            cases hb1 : specI (c.toNat : Int) <;> cases hb2 : ((i : Int) == 0) <;> cases hb3 : ((c.toNat : Int) == 35) <;> cases hb4 : ((c.toNat : Int) == 32) <;> cases hb5 : ((i : Int) == (s.size : Int) - 1)
            all_goals
              have hm := hmk.out
              rw [hb1, hb2, hb3, hb4, hb5] at hm
              have HM := Lib.hid hm
              rw [hb1] at hsp
              clear hm hmk hb1
              go_wp2_with (go_at_call 159; refine (hsp _).mono ?_; rintro e w9 ⟨rfl, rfl⟩)
              go_meet
              exact ⟨congrArg Value.bool HM.out.symm, rfl⟩
          case rest =>
            obtain ⟨hev, hwc⟩ := hcut
            subst hev
            subst hwc
            clear hmk hsp q0
            generalize marked (decide (i = 0)) c (rest s (i + 1)) = mk at *
            cases mk with
            | true =>
              have Hn : Hid (r = ((l ++ [92]) ++ [c]) ++ wrL (decide (i + 1 = 0)) (rest s (i + 1))) := Hnm.out
              clear Hnm
              go_upto_region 12 with (at_builtin; refine wpList_append_own _ rfl _ _ 88 rfl w.heap.size 5 i0 (.int .u8 0) 1 1 Tryz.underlying88 hi0 hz0 hz1 hz2 rfl (by decide) _ _ _ rfl (hown.out.alloc _) ⟨wr.heap.size, 0, none⟩ 1 1 [.int .u8 92] rfl rfl (cell_one_new _ _ _) (by simp [Value.oneCell']) (by unfold maxLen; omega) (by omega) (by have := hb.out.size; simp; omega) ?_; intro v7 w7 hown7 hgr7 _)
              have O7 : Hid (w7.ownsRow w.heap.size 5 1 v7 (l.length + 1) (bytesV (l ++ [(92 : UInt8)]))) := by
                show w7.ownsRow _ _ _ _ _ _
                rw [bytesV_snoc]
                exact hown7
              have B7 : Hid (Below w.heap.size w w7) := (hb.out.alloc hb.out.size _).grown hgr7 (by have := hb.out.size; simp; omega) (own_base_le hown.out)
              clear hown7 hgr7
              go_wp2_with (at_builtin; refine wpList_append_own _ rfl _ _ 88 rfl w.heap.size 5 i0 (.int .u8 0) 1 1 Tryz.underlying88 hi0 hz0 hz1 hz2 rfl (by decide) _ _ _ rfl (O7.out.alloc _) ⟨w7.heap.size, 0, none⟩ 1 1 [.int .u8 (c.toNat : Int)] rfl rfl (cell_one_new _ _ _) (by simp [Value.oneCell']) (by unfold maxLen; omega) (by omega) (by have := B7.out.size; simp; omega) ?_; intro v8 w8 hown8 hgr8 _)
              have O8 : Hid (w8.ownsRow w.heap.size 5 1 v8 (l.length + 1 + 1) (bytesV ((l ++ [92]) ++ [c]))) := by
                show w8.ownsRow _ _ _ _ _ _
                rw [bytesV_snoc]
                exact hown8
              have B8 : Hid (Below w.heap.size w w8) := (B7.out.alloc B7.out.size _).grown hgr8 (by have := B7.out.size; simp; omega) (own_base_le O7.out)
              clear hown8 hgr8
              go_wp2_with fail
              go_roundg (s.size - (i + 1))
              case measure => omega
              case rel => exact ⟨i + 1, l ++ [92] ++ [c], by omega, Nat.le_refl _, by go_num, by simp; omega, by have := O8.out; rw [(by simp : (l ++ [92] ++ [c] : List UInt8).length = l.length + 1 + 1)]; exact this, Hn.out, B8.out⟩
            | false =>
              have Hn : Hid (r = (l ++ [c]) ++ wrL (decide (i + 1 = 0)) (rest s (i + 1))) := Hnm.out
              clear Hnm
              go_wp2_with (at_builtin; refine wpList_append_own _ rfl _ _ 88 rfl w.heap.size 5 i0 (.int .u8 0) 1 1 Tryz.underlying88 hi0 hz0 hz1 hz2 rfl (by decide) _ _ _ rfl (hown.out.alloc _) ⟨wr.heap.size, 0, none⟩ 1 1 [.int .u8 (c.toNat : Int)] rfl rfl (cell_one_new _ _ _) (by simp [Value.oneCell']) (by unfold maxLen; omega) (by omega) (by have := hb.out.size; simp; omega) ?_; intro v8 w8 hown8 hgr8 _)
              have O8 : Hid (w8.ownsRow w.heap.size 5 1 v8 (l.length + 1) (bytesV (l ++ [c]))) := by
                show w8.ownsRow _ _ _ _ _ _
                rw [bytesV_snoc]
                exact hown8
              have B8 : Hid (Below w.heap.size w w8) := (hb.out.alloc hb.out.size _).grown hgr8 (by have := hb.out.size; simp; omega) (own_base_le hown.out)
              clear hown8 hgr8
              go_wp2_with fail
              go_roundg (s.size - (i + 1))
              case measure => omega
              case rel => exact ⟨i + 1, l ++ [c], by omega, Nat.le_refl _, by go_num, by simp; omega, by have := O8.out; rw [(by simp : (l ++ [c] : List UInt8).length = l.length + 1)]; exact this, Hn.out, B8.out⟩
      · have Hn : Hid (r = l) := by
          show r = _
          rw [hu.out, rest_ge (by omega)]
          simp [wrL]
        rcases hown.out.2 with ⟨rfl, h0⟩ | ⟨g, cap, cur, rfl, hgb, hh, hnc, hcm, hsz, htk⟩
        · have ha : l = [] := List.length_eq_zero_iff.1 h0
          subst ha
          have hcn := convert_nil
          go_wp2_with fail
          go_ret
          exact ⟨by rw [Hn.out]; rfl, hb.out⟩
        · clear hgb hh hnc hcm hsz htk
          have Hc := Lib.hid (convert_own hown.out (Nat.le_refl _) cap)
          have hc := Hc.out
          go_wp2_with fail
          go_ret
          exact ⟨by rw [Hn.out]; simp [strV], hb.out⟩
end Sy
end Go.Proofs.YthoealembhkaoaaGreatDoor
namespace Go.Proofs.YthoealembhkaoaaGreatDoor
open Go.RowKit
namespace Sy
set_option linter.unusedVariables false
set_option maxRecDepth 100000

theorem join_snoc (sep x : List UInt8) : ∀ l : List (List UInt8), Lib.join (l ++ [x]) sep = (if l = [] then [] else Lib.join l sep ++ sep) ++ x
  | [] => by simp [Lib.join, List.intercalate]
  | [a] => by simp [Lib.join, List.intercalate]
  | a :: b :: l => by
    have h := join_snoc sep x (b :: l)
    have e1 : ∀ m : List (List UInt8), Lib.join (a :: b :: m) sep = a ++ (sep ++ Lib.join (b :: m) sep) := fun m => by simp [Lib.join, List.intercalate]
    rw [show (a :: b :: l) ++ [x] = a :: b :: (l ++ [x]) from rfl, e1, e1]
    rw [show b :: (l ++ [x]) = (b :: l) ++ [x] from rfl, h]
    simp
theorem rowT_snoc (r : List Pair) (q : Pair) : rowT (r ++ [q]) = (if r = [] then [] else rowT r ++ [43]) ++ pairT q := by
  unfold rowT
  rw [List.map_append, List.map_singleton, join_snoc]
  cases r <;> simp
theorem dnT_snoc (d : List (List Pair)) (r : List Pair) : dnT (d ++ [r]) = (if d = [] then [] else dnT d ++ [44]) ++ rowT r := by
  unfold dnT
  rw [List.map_append, List.map_singleton, join_snoc]
  cases d <;> simp
theorem rowT_take (r : List Pair) (i : Nat) (h : i < r.length) : rowT (r.take (i + 1)) = (if i = 0 then [] else rowT (r.take i) ++ [43]) ++ (r[i].1 ++ [61] ++ writtenR r[i].2) := by
  rw [List.take_succ_eq_append_getElem h, rowT_snoc]
  have : (r.take i = []) ↔ i = 0 := by
    constructor
    · intro h2
      have h3 := congrArg List.length h2
      rw [List.length_take, List.length_nil, Nat.min_eq_left (Nat.le_of_lt h)] at h3
      exact h3
    · intro h2; subst h2; rfl
  by_cases h0 : i = 0
  · rw [if_pos (this.2 h0), if_pos h0]; rfl
  · rw [if_neg (fun h2 => h0 (this.1 h2)), if_neg h0]; rfl
set_option maxHeartbeats 8000000 in
theorem rPart_calls (w : World) (base : Nat) (v : Value) (r : List Pair) (ho : OwnRdn w base v r) (hr : r.length ≤ 100000) (hq : ∀ q ∈ r, q.1.length ≤ 100000 ∧ q.2.length ≤ 1000000) :
    Calls Tryz.prog 126 #[v] w fun e w' => e = .returned (strV (rowT r)) ∧ Below w.heap.size w w' := by
  have HO := Lib.hid ho
  have HQ := Lib.hid hq
  obtain ⟨a0, c0, rfl⟩ : ∃ a c, v = .slice a r.length c := own_slice ho
  clear ho hq
  go_enter Tryz.func126, Tryz.ntmps126
  go_wp2_with fail
  go_loopg [3, 4] r.length (fun k sv iv wr => ∃ (i : Nat) (acc : List UInt8), i ≤ r.length ∧ r.length - i ≤ k ∧ iv = .int .i64 i ∧ sv = .string ⟨acc.toArray⟩ ∧ acc.length ≤ i * 4200000 ∧ Hid (acc = rowT (r.take i)) ∧ Hid (Below w.heap.size w wr))
  case atStart => exact ⟨0, [], Nat.zero_le _, Nat.le_refl _, rfl, rfl, Nat.le_refl _, rfl, Below.refl _ _⟩
  case round =>
    obtain ⟨i, acc, hi, hk, rfl, rfl, hal, hacc, hb⟩ := hrel
    by_cases hlt : i < r.length
    · have hget := rdnV_get r i hlt
      have hor := own_below HO.out hb.out
      rcases hor.2 with ⟨_, h0⟩ | ⟨gb, cap, cur, hv, hgb, hh, hnc, hcm, hsz, htk⟩
      · omega
      injection hv with hv1 hv2 hv3
      subst hv1 hv3
      clear hgb hh hnc hcm hsz htk hv2
      have c1 : wr.cell? ⟨gb, i * 2, none⟩ = some (strV r[i].1) := by rw [Nat.mul_comm]; exact own_cells hor _ _ hget.1
      have c2 : wr.cell? ⟨gb, i * 2 + 1, none⟩ = some (strV r[i].2) := by rw [Nat.mul_comm]; exact own_cells hor _ _ hget.2
      have hql := HQ.out r[i] (List.getElem_mem hlt)
      have Hnx := Lib.hid (rowT_take r i hlt)
      clear hget hor
      generalize r[i] = q at *
      obtain ⟨q1, q2⟩ := q
      simp only [strV] at c1 c2 hql Hnx
      have hwl := writtenR_len q2
      have hval := fun W => rValue_calls ⟨q2.toArray⟩ W (by show q2.toArray.size ≤ _; simp; omega)
      simp only at hval
      generalize writtenR q2 = wt at *
      simp only [strV] at hval
      have g1 := fun d os => grw_cell c1 d os
      have g2 := fun d os => grw_cell c2 d os
      by_cases h0 : i = 0
      · have h0' : ¬ (0 : Int) < (i : Int) := by omega
        have hz : acc = [] := by
          have : acc.length = 0 := by rw [h0] at hal; omega
          exact List.length_eq_zero_iff.1 this
        have HN : Hid (acc ++ q1 ++ [61] ++ wt = rowT (r.take (i + 1))) := by
          show _ = _
          rw [Hnx.out, if_pos h0, hz]; simp
        clear h0 hz Hnx
        go_upto_region 7 with fail
        refine region_below (by kernel_rfl) (by kernel_rfl) ?_
        have s1 : ¬ 9223372036854775807 < acc.length + q1.length := by omega
        have s2 : ¬ 9223372036854775807 < acc.length + q1.length + 1 := by omega
        have s3 : ¬ 9223372036854775807 < acc.length + q1.length + 1 + wt.length := by omega
        repeat (quiet_step ((go_at_call 155; exact quiet_below (hval _))))
        refine wpQuiet_nil ?_
        rintro w2 ⟨p, hp⟩
        have hb2 : Below wr.heap.size wr w2 := by rw [hp]; exact grw_below _ _ _
        have HB2 := Lib.hid (hb.out.trans (hb2.mono hb.out.size))
        clear hp hb2 g1 g2 c1 c2 hval s1 s2 s3
        rw [show (⟨acc.toArray⟩ ++ ⟨q1.toArray⟩ ++ ⟨#[61]⟩ ++ ⟨wt.toArray⟩ : ByteArray) = ⟨(acc ++ q1 ++ [61] ++ wt).toArray⟩ by rw [cat_bytes, show (⟨#[61]⟩ : ByteArray) = ⟨[61].toArray⟩ from rfl, cat_bytes, cat_bytes]]
        go_wp2_with fail
        go_roundg (r.length - (i + 1))
        case measure => omega
        case rel => exact ⟨i + 1, acc ++ q1 ++ [61] ++ wt, by omega, Nat.le_refl _, by go_num, by simp, by simp; omega, HN.out, HB2.out⟩
      · have h0' : (0 : Int) < (i : Int) := by omega
        have HN' : Hid (acc ++ [43] ++ q1 ++ [61] ++ wt = rowT (r.take (i + 1))) := by
          show _ = _
          rw [Hnx.out, if_neg h0, hacc.out]; simp
        clear h0 Hnx
        have t1 : ¬ 9223372036854775807 < acc.length + 1 := by omega
        go_upto_region 7 with fail
        rw [show (⟨acc.toArray⟩ ++ ⟨#[43]⟩ : ByteArray) = ⟨(acc ++ [43]).toArray⟩ from cat_bytes acc [43]]
        have hal2 : (acc ++ [43]).length ≤ i * 4200000 + 1 := by simp; omega
        obtain ⟨ac2, hac⟩ : ∃ ac2, acc ++ [43] = ac2 := ⟨_, rfl⟩
        rw [hac] at hal2 ⊢
        have HN : Hid (ac2 ++ q1 ++ [61] ++ wt = rowT (r.take (i + 1))) := by rw [← hac]; exact HN'.out
        clear hac HN' t1
        refine region_below (by kernel_rfl) (by kernel_rfl) ?_
        have s1 : ¬ 9223372036854775807 < ac2.length + q1.length := by omega
        have s2 : ¬ 9223372036854775807 < ac2.length + q1.length + 1 := by omega
        have s3 : ¬ 9223372036854775807 < ac2.length + q1.length + 1 + wt.length := by omega
        repeat (quiet_step ((go_at_call 155; exact quiet_below (hval _))))
        refine wpQuiet_nil ?_
        rintro w2 ⟨p, hp⟩
        have hb2 : Below wr.heap.size wr w2 := by rw [hp]; exact grw_below _ _ _
        have HB2 := Lib.hid (hb.out.trans (hb2.mono hb.out.size))
        clear hp hb2 g1 g2 c1 c2 hval s1 s2 s3
        rw [show (⟨ac2.toArray⟩ ++ ⟨q1.toArray⟩ ++ ⟨#[61]⟩ ++ ⟨wt.toArray⟩ : ByteArray) = ⟨(ac2 ++ q1 ++ [61] ++ wt).toArray⟩ by rw [cat_bytes, show (⟨#[61]⟩ : ByteArray) = ⟨[61].toArray⟩ from rfl, cat_bytes, cat_bytes]]
        go_wp2_with fail
        go_roundg (r.length - (i + 1))
        case measure => omega
        case rel => exact ⟨i + 1, ac2 ++ q1 ++ [61] ++ wt, by omega, Nat.le_refl _, by go_num, by simp, by simp; omega, HN.out, HB2.out⟩
    · have he : acc = rowT r := by rw [hacc.out, List.take_of_length_le (by omega)]
      have HE := Lib.hid he
      clear he
      go_wp2_with fail
      go_ret
      exact ⟨by rw [HE.out]; rfl, hb.out⟩
end Sy
end Go.Proofs.YthoealembhkaoaaGreatDoor
