import Derived.Test.YthoealembhkaoaaGreatDoorSyTwice
namespace Go.Proofs.YthoealembhkaoaaGreatDoor
open Go.RowKit
namespace Sy
set_option linter.unusedVariables false
set_option maxRecDepth 100000

/-- Small letters alone. -/
def Low (l : List UInt8) : Prop := ∀ b ∈ l, 97 ≤ b.toNat ∧ b.toNat ≤ 122
theorem low_stays {b : UInt8} (h : 97 ≤ b.toNat ∧ b.toNat ≤ 122) : Stays true (b.toNat : Int) ∧ runeB (b.toNat : Int) = [b] := by
  have hv : Lib.validRune (b.toNat : Int) = true := by simp only [Lib.validRune, decide_eq_true_eq]; omega
  refine ⟨⟨hv, ?_, ?_⟩, ?_⟩
  · have h1 : isBlank (b.toNat : Int) = false := by simp only [isBlank, decide_eq_false_iff_not]; omega
    have h2 : goes (b.toNat : Int) = false := by simp only [goes, decide_eq_false_iff_not]; omega
    have h3 : refused (b.toNat : Int) = false := by simp only [refused, decide_eq_false_iff_not]; omega
    simp [mapR, h1, h2, h3]
  · simp only [laidR, if_true]
    unfold foldR
    (repeat' split) <;> omega
  · rw [runeB_eq hv, if_pos (by omega)]
    simp
theorem low_enc : ∀ {l : List UInt8}, Low l → enc (l.map fun b => (b.toNat : Int)) = l
  | [], _ => rfl
  | b :: l, h => by
    have := low_stays (h b (.head _))
    rw [List.map_cons, enc_cons, this.2, low_enc (l := l) fun x hx => h x (.tail _ hx)]
    rfl
theorem low_nodbl : ∀ {l : List UInt8}, Low l → NoDbl (l.map fun b => (b.toNat : Int))
  | [], _ => trivial
  | [_], _ => trivial
  | a :: b :: l, h => by
    have ha := h a (.head _)
    exact ⟨fun e => by have h1 : ((a.toNat : Nat) : Int) = 32 := e.1; omega, low_nodbl (l := b :: l) fun x hx => h x (.tail _ hx)⟩
theorem low_trim {l : List UInt8} (h : Low l) : Lib.trimB l 32 = l := by
  have ne : ∀ b ∈ l, b ≠ 32 := fun b hb e => by have := h b hb; subst e; simp at this
  have h1 : Lib.trimRightB l 32 = l := by
    rcases nil_or_snoc l with rfl | ⟨m, x, rfl⟩
    · rfl
    · exact trimR_stop m (ne x (by simp))
  unfold Lib.trimB
  rw [h1]
  cases l with
  | nil => rfl
  | cons b l => simp [Lib.trimLeftB, ne b (by simp)]
theorem prep_low {l : List UInt8} (h : Low l) : prepR true l = some l := by
  have hm : mapped true l = some l := by
    have := mapped_same (fold := true) (rs := l.map fun b => (b.toNat : Int)) (fun r hr => by
      obtain ⟨b, hb, rfl⟩ := List.mem_map.1 hr
      exact (low_stays (h b hb)).1) (low_nodbl h)
    rwa [low_enc h] at this
  unfold prepR
  rw [hm]
  simp only [low_trim h]
  rw [if_neg (fun hh => hh.2 hh.1)]
theorem low_valid {l : List UInt8} (h : Low l) : Lib.validD l = true := by
  have := valid_enc (l.map fun b => (b.toNat : Int)) (fun r hr => by
    obtain ⟨b, hb, rfl⟩ := List.mem_map.1 hr
    exact ⟨(low_stays (h b hb)).1.1, (low_stays (h b hb)).1.not_bad⟩)
  rwa [low_enc h] at this
theorem low_no {b : UInt8} (h : 97 ≤ b.toNat ∧ b.toNat ≤ 122) (c : UInt8) (hc : c.toNat < 97) : b ≠ c := fun e => by subst e; omega
theorem low_plain {b : UInt8} (h : 97 ≤ b.toNat ∧ b.toNat ≤ 122) : b ≠ 0 ∧ special.data.toList.contains b = false ∧ b ≠ 32 ∧ b ≠ 35 ∧ b ≠ 44 ∧ b ≠ 43 ∧ b ≠ 92 := by
  refine ⟨low_no h 0 (by decide), ?_, low_no h 32 (by decide), low_no h 35 (by decide), low_no h 44 (by decide), low_no h 43 (by decide), low_no h 92 (by decide)⟩
  rw [special_has]
  have := low_no h 34 (by decide)
  have := low_no h 43 (by decide)
  have := low_no h 44 (by decide)
  have := low_no h 59 (by decide)
  have := low_no h 60 (by decide)
  have := low_no h 62 (by decide)
  have := low_no h 92 (by decide)
  simp [*]
theorem wr_low : ∀ {l : List UInt8} (first : Bool), Low l → wrL first l = l
  | [], _, _ => rfl
  | b :: l, first, h => by
    obtain ⟨h0, h1, h2, h3, _⟩ := low_plain (h b (.head _))
    have hm : marked first b l = false := by
      unfold marked
      rw [h1]
      simp [h2, h3]
    simp only [wrL]
    rw [if_neg h0, hm, wr_low false fun x hx => h x (.tail _ hx)]
    rfl
theorem written_low {l : List UInt8} (h : Low l) : writtenR l = l := by
  unfold writtenR
  rw [low_valid h, if_pos rfl, wr_low true h]
/-- Small letters are read as they are, up to what stops a value, blanks ahead of it being passed by. -/
theorem val_low : ∀ (l : List UInt8) (b : List UInt8) (n : Nat) (rest : List UInt8) (R : Option (List UInt8 × List UInt8)), Low l → (l ++ rest).length < n →
    (∀ m, rest.length < m → valL m (b ++ l) (b ++ l).length rest = R) → valL n b b.length (l ++ rest) = R
  | [], b, n, rest, R, _, hn, h => by simpa using h n (by simpa using hn)
  | c :: l, b, n, rest, R, hl, hn, h => by
    obtain ⟨h0, h1, h2, h3, h4, h5, h6⟩ := low_plain (hl c (.head _))
    have n44 : isAt 44 (c :: (l ++ rest)) = false := by
      cases hh : isAt 44 (c :: (l ++ rest)) with
      | false => rfl
      | true => exact absurd (at_eq (c := 44) (by omega) hh) h4
    have n43 : isAt 43 (c :: (l ++ rest)) = false := by
      cases hh : isAt 43 (c :: (l ++ rest)) with
      | false => rfl
      | true => exact absurd (at_eq (c := 43) (by omega) hh) h5
    obtain ⟨m, hm, e⟩ := valL_step (n := n) (b := b) (k := b.length) (c := c) (l := l ++ rest) hn n44 n43
    rw [List.cons_append, e, if_neg h6, if_neg (by rw [h1]; simp [h0]), if_neg h2]
    have := val_low l (b ++ [c]) m rest R (fun x hx => hl x (.tail _ hx)) hm (fun m hm => by simpa using h m hm)
    simpa using this
theorem val_blank {b : List UInt8} {n k : Nat} {rest : List UInt8} (hn : rest.length + 1 < n) (hk : k ≤ b.length) (hs : Stop rest) : valL n b k (32 :: rest) = some (b.take k, rest) := by
  obtain ⟨m, hm, e⟩ := valL_step (n := n) (b := b) (k := k) (c := 32) (l := rest) (by simpa using hn) rfl rfl
  rw [e, if_neg (by decide), if_neg (by rw [special_has]; decide), if_pos rfl, valL_end hm hs]
  rw [List.take_append_of_le_length hk]
theorem value_low {l rest : List UInt8} (hl : Low l) (hs : Stop rest) : valueR (skip (l ++ rest)) = some (l, rest) ∧ valueR (skip (l ++ 32 :: rest)) = some (l, rest) := by
  cases l with
  | nil =>
    have h35 : isAt 35 rest = false := by rcases hs.cases with rfl | ⟨m, rfl⟩ | ⟨m, rfl⟩ <;> rfl
    have key : valueR rest = some ([], rest) := by
      rw [valueR_plain h35, valL_end (by omega) hs]; rfl
    refine ⟨?_, ?_⟩
    · rw [List.nil_append, hs.skip, key]
    · have : skip (32 :: rest) = rest := by
        show (if _ then skip rest else _) = _
        rw [if_pos (by rfl), hs.skip]
      rw [List.nil_append, this, key]
  | cons c l =>
    obtain ⟨_, _, h2, h3, _⟩ := low_plain (hl c (.head _))
    have h35 : ∀ r, isAt 35 (c :: l ++ r) = false := fun r => by
      cases hh : isAt 35 (c :: l ++ r) with
      | false => rfl
      | true => exact absurd (at_eq (c := 35) (by omega) hh) h3
    have hsk : ∀ r, skip (c :: l ++ r) = c :: l ++ r := fun r => skip_ne _ h2
    refine ⟨?_, ?_⟩
    · rw [hsk, valueR_plain (h35 _)]
      refine val_low (c :: l) [] _ rest _ hl (by omega) (fun m hm => ?_)
      rw [valL_end hm hs, List.take_of_length_le (by simp)]; rfl
    · rw [hsk, valueR_plain (h35 _)]
      refine val_low (c :: l) [] _ (32 :: rest) _ hl (by omega) (fun m hm => ?_)
      rw [val_blank (by simpa using hm) (Nat.le_refl _) hs, List.take_of_length_le (by simp)]; rfl
/-- A row whose pairs come to a strict order. -/
theorem normRow_of {r c : List Pair} (hp : (r.map normPair).Perm c) (hc : c.Pairwise fun a b => cmpPair a b < 0) : normRow r = c := by
  have hs : sortR (r.map normPair) = c := sorted_unique ((sortR_spec _).1.trans hp) (sortR_spec _).2 (List.Pairwise.imp (fun h => Int.le_of_lt h) hc)
  unfold normRow partOf
  rw [hs]
  exact compact_strict _ _ rfl hc
def cnB : List UInt8 := [99, 110]
def snB : List UInt8 := [115, 110]
def dcB : List UInt8 := [100, 99]
theorem normPair_low {t u v : List UInt8} (h1 : small t = u) (h2 : Low v) : normPair (t, v) = (u, v) := by
  unfold normPair
  rw [h1, prep_low h2]; rfl
theorem low_x : Low [120] := fun b hb => by simp only [List.mem_singleton] at hb; subst hb; decide
theorem dc_row (t v : List UInt8) (h1 : small t = dcB) (h2 : prepR true v = some [120]) : normRow [(t, v)] = [(dcB, [120])] := by
  refine normRow_of ?_ (by simp)
  simp [normPair, h1, h2]
theorem two_row {r : List Pair} {a b : List UInt8} (hp : (r.map normPair).Perm [(cnB, a), (snB, b)]) : normRow r = [(cnB, a), (snB, b)] := by
  refine normRow_of hp ?_
  have : cmpPair (cnB, a) (snB, b) = -1 := by
    unfold cmpPair
    rw [show Lib.compareBytes (cnB, a).1 (snB, b).1 = -1 from (by decide : Lib.compareBytes cnB snB = -1)]
    rfl
  simp [this]
theorem one_row {t a : List UInt8} (h1 : small t = cnB) (ha : Low a) : normRow [(t, a)] = [(cnB, a)] := by
  refine normRow_of ?_ (by simp)
  simp [normPair_low h1 ha]
theorem print_of {d : List (List Pair)} (h1 : d.any badRow = false) (h2 : tooLong d = false) (h3 : (dnT d).length ≤ 65536) : printR d = (some (dnT d), 0) := by
  unfold printR
  rw [h1, h2, if_neg (by simp), if_neg (by simp), if_neg (by omega)]
theorem parse_of {l : List UInt8} {d : List (List Pair)} (h1 : dnR l = some d) (h2 : tooLong d = false) (h3 : l.length ≤ 65536) : parseR l = (some d, 0) := by
  unfold parseR
  rw [if_neg (by omega), h1]
  simp [h2]
theorem skip_blank (l : List UInt8) : skip (32 :: l) = skip l := by
  show (if _ then skip l else _) = _
  rw [if_pos (by rfl)]
/-- The name in other letters, and in another order. -/
def nameX (a b : List UInt8) : List UInt8 := [99, 110, 61] ++ a ++ [43, 83, 78, 61] ++ b ++ [44, 68, 67, 61, 120]
def nameY (a b : List UInt8) : List UInt8 := [32, 115, 110, 32, 61, 32] ++ b ++ [32, 43, 32, 67, 78, 61] ++ a ++ [44, 32, 100, 99, 32, 61, 32, 88, 32]
def nameZ (a : List UInt8) : List UInt8 := [99, 110, 61] ++ a ++ [44, 100, 99, 61, 120]
def dnX (a b : List UInt8) : List (List Pair) := [[(cnB, a), ([83, 78], b)], [([68, 67], [120])]]
def dnY (a b : List UInt8) : List (List Pair) := [[(snB, b), ([67, 78], a)], [(dcB, [88])]]
def dnZ (a : List UInt8) : List (List Pair) := [[(cnB, a)], [(dcB, [120])]]
def nfXY (a b : List UInt8) : List (List Pair) := [[(cnB, a), (snB, b)], [(dcB, [120])]]
theorem dnT_X {a b : List UInt8} (ha : Low a) (hb : Low b) : dnT (dnX a b) = nameX a b := by
  have hx := written_low low_x
  simp [dnX, nameX, dnT_cons, rowT_cons, pairT, written_low ha, written_low hb, hx, cnB]
theorem dnT_Z {a : List UInt8} (ha : Low a) : dnT (dnZ a) = nameZ a := by
  have hx := written_low low_x
  simp [dnZ, nameZ, dnT_cons, rowT_cons, pairT, written_low ha, hx, cnB, dcB]
theorem long_no {d : List (List Pair)} (h1 : d.length ≤ 20) (h2 : ∀ r ∈ d, r.length ≤ 4 ∧ ∀ q ∈ r, q.2.length ≤ 1024) : tooLong d = false := by
  unfold tooLong
  simp only [Bool.or_eq_false_iff, decide_eq_false_iff_not, List.any_eq_false]
  refine ⟨by omega, fun r hr => ?_⟩
  unfold longRdn
  simp only [Bool.or_eq_true, not_or, decide_eq_true_eq, List.any_eq_true, not_exists, not_and]
  exact ⟨by have := (h2 r hr).1; omega, fun q hq => by have := (h2 r hr).2 q hq; omega⟩
theorem long2 {x1 x2 x3 y1 y2 y3 : List UInt8} (h1 : y1.length ≤ 1024) (h2 : y2.length ≤ 1024) (h3 : y3.length ≤ 1024) : tooLong [[(x1, y1), (x2, y2)], [(x3, y3)]] = false := by
  refine long_no (by simp) (fun r hr => ?_)
  simp only [List.mem_cons, List.mem_nil_iff, or_false] at hr
  rcases hr with rfl | rfl
  · refine ⟨by simp, fun q hq => ?_⟩
    simp only [List.mem_cons, List.mem_nil_iff, or_false] at hq
    rcases hq with rfl | rfl
    · exact h1
    · exact h2
  · refine ⟨by simp, fun q hq => ?_⟩
    simp only [List.mem_cons, List.mem_nil_iff, or_false] at hq
    subst hq
    exact h3
theorem long1 {x1 x3 y1 y3 : List UInt8} (h1 : y1.length ≤ 1024) (h3 : y3.length ≤ 1024) : tooLong [[(x1, y1)], [(x3, y3)]] = false := by
  refine long_no (by simp) (fun r hr => ?_)
  simp only [List.mem_cons, List.mem_nil_iff, or_false] at hr
  rcases hr with rfl | rfl
  · refine ⟨by simp, fun q hq => ?_⟩
    simp only [List.mem_cons, List.mem_nil_iff, or_false] at hq
    subst hq
    exact h1
  · refine ⟨by simp, fun q hq => ?_⟩
    simp only [List.mem_cons, List.mem_nil_iff, or_false] at hq
    subst hq
    exact h3
theorem parse_X {a b : List UInt8} (ha : Low a) (hb : Low b) (hl : a.length + b.length ≤ 200) : parseR (nameX a b) = (some (dnX a b), 0) := by
  refine parse_of ?_ (long2 (by omega) (by omega) (by simp)) (by simp [nameX]; omega)
  rw [← dnT_X ha hb]
  refine dn_back _ (fun r hr => ?_)
  simp only [dnX, List.mem_cons, List.mem_nil_iff, or_false] at hr
  rcases hr with rfl | rfl
  · refine ⟨by simp, fun q hq => ?_⟩
    simp only [List.mem_cons, List.mem_nil_iff, or_false] at hq
    rcases hq with rfl | rfl
    · exact (by decide +kernel : isType cnB = true)
    · exact (by decide +kernel : isType [83, 78] = true)
  · refine ⟨by simp, fun q hq => ?_⟩
    simp only [List.mem_cons, List.mem_nil_iff, or_false] at hq
    subst hq
    decide +kernel
theorem parse_Z {a : List UInt8} (ha : Low a) (hl : a.length ≤ 201) : parseR (nameZ a) = (some (dnZ a), 0) := by
  refine parse_of ?_ (long1 (by omega) (by simp)) (by simp [nameZ]; omega)
  rw [← dnT_Z ha]
  refine dn_back _ (fun r hr => ?_)
  simp only [dnZ, List.mem_cons, List.mem_nil_iff, or_false] at hr
  rcases hr with rfl | rfl
  · refine ⟨by simp, fun q hq => ?_⟩
    simp only [List.mem_cons, List.mem_nil_iff, or_false] at hq
    subst hq
    exact (by decide +kernel : isType cnB = true)
  · refine ⟨by simp, fun q hq => ?_⟩
    simp only [List.mem_cons, List.mem_nil_iff, or_false] at hq
    subst hq
    decide +kernel
theorem pair_Y1 (b rest : List UInt8) (hb : Low b) : pairR ([32, 115, 110, 32, 61, 32] ++ b ++ (32 :: 43 :: rest)) = some ((snB, b), 43 :: rest) := by
  have e : [32, 115, 110, 32, 61, 32] ++ b ++ (32 :: 43 :: rest) = 32 :: 115 :: 110 :: 32 :: 61 :: 32 :: (b ++ 32 :: 43 :: rest) := by simp
  have ht : ∀ l, typR (115 :: 110 :: 32 :: l) = some ([115, 110], 32 :: l) := fun l => by
    unfold typR
    obtain ⟨h1, h2⟩ := take_all (p := inTypeB) [115, 110] (32 :: l) (by decide) (.inr ⟨_, _, rfl, by decide⟩)
    rw [show (115 :: 110 :: 32 :: l : List UInt8) = [115, 110] ++ 32 :: l from rfl, h1, h2, if_pos (by decide +kernel)]
  rw [e]
  unfold pairR
  rw [skip_blank, skip_ne _ (by decide), ht]
  simp only
  rw [skip_blank, skip_ne _ (by decide)]
  simp only [List.drop_succ_cons, List.drop_zero]
  rw [if_pos (by rfl), skip_blank, (value_low hb (stop_plus rest)).2]
  simp only
  rw [skip_ne _ (by decide)]
  rfl
theorem pair_Y2 (a rest : List UInt8) (ha : Low a) : pairR ([32, 67, 78, 61] ++ a ++ (44 :: rest)) = some (([67, 78], a), 44 :: rest) := by
  have e : [32, 67, 78, 61] ++ a ++ (44 :: rest) = 32 :: 67 :: 78 :: 61 :: (a ++ 44 :: rest) := by simp
  have ht : ∀ l, typR (67 :: 78 :: 61 :: l) = some ([67, 78], 61 :: l) := fun l => by
    unfold typR
    obtain ⟨h1, h2⟩ := take_all (p := inTypeB) [67, 78] (61 :: l) (by decide) (.inr ⟨_, _, rfl, by decide⟩)
    rw [show (67 :: 78 :: 61 :: l : List UInt8) = [67, 78] ++ 61 :: l from rfl, h1, h2, if_pos (by decide +kernel)]
  rw [e]
  unfold pairR
  rw [skip_blank, skip_ne _ (by decide), ht]
  simp only
  rw [skip_ne _ (by decide)]
  simp only [List.drop_succ_cons, List.drop_zero]
  rw [if_pos (by rfl), (value_low ha (stop_comma rest)).1]
  simp only
  rw [skip_ne _ (by decide)]
theorem pair_Y3 : pairR [32, 100, 99, 32, 61, 32, 88, 32] = some ((dcB, [88]), []) := by decide +kernel
theorem parse_Y {a b : List UInt8} (ha : Low a) (hb : Low b) (hl : a.length + b.length ≤ 200) : parseR (nameY a b) = (some (dnY a b), 0) := by
  refine parse_of ?_ (long2 (by omega) (by omega) (by simp)) (by simp [nameY]; omega)
  have e : nameY a b = [32, 115, 110, 32, 61, 32] ++ b ++ (32 :: 43 :: ([32, 67, 78, 61] ++ a ++ (44 :: [32, 100, 99, 32, 61, 32, 88, 32]))) := by simp [nameY]
  rw [e]
  unfold dnR
  rw [if_neg (by simp)]
  have hp : partR ([32, 115, 110, 32, 61, 32] ++ b ++ (32 :: 43 :: ([32, 67, 78, 61] ++ a ++ (44 :: [32, 100, 99, 32, 61, 32, 88, 32])))) = some ([(snB, b), ([67, 78], a)], 44 :: [32, 100, 99, 32, 61, 32, 88, 32]) := by
    unfold partR
    rw [pair_Y1 b _ hb]
    simp only [List.length_cons]
    simp only [partL]
    rw [if_pos (by rfl)]
    simp only [List.drop_succ_cons, List.drop_zero]
    rw [pair_Y2 a _ ha]
    simp only [List.length_append, List.length_cons, List.length_nil]
    rw [if_neg (by decide)]
    rfl
  rw [hp]
  simp only
  have h3 : partR [32, 100, 99, 32, 61, 32, 88, 32] = some ([(dcB, [88])], []) := by decide +kernel
  simp only [List.length_cons, List.length_nil, dnL]
  rw [if_pos (by rfl)]
  simp only [List.drop_succ_cons, List.drop_zero]
  rw [h3]
  rfl
theorem types_ok (t : List UInt8) (h : t = cnB ∨ t = snB ∨ t = dcB) : isType t = true := by
  rcases h with rfl | rfl | rfl <;> decide +kernel
theorem print_XY {a b : List UInt8} (ha : Low a) (hb : Low b) (hl : a.length + b.length ≤ 200) : ∃ t, printR (nfXY a b) = (some t, 0) := by
  refine ⟨_, print_of ?_ (long2 (by omega) (by omega) (by simp)) ?_⟩
  · simp [nfXY, badRow, types_ok cnB (by simp), types_ok snB (by simp), types_ok dcB (by simp)]
  · have hx := written_low low_x
    simp [nfXY, dnT_cons, rowT_cons, pairT, written_low ha, written_low hb, hx, cnB, snB, dcB]
    omega
theorem print_Z {a : List UInt8} (ha : Low a) (hl : a.length ≤ 201) : printR (dnZ a) = (some (nameZ a), 0) := by
  rw [← dnT_Z ha]
  refine print_of ?_ (long1 (by omega) (by simp)) ?_
  · simp [dnZ, badRow, types_ok cnB (by simp), types_ok dcB (by simp)]
  · rw [dnT_Z ha]; simp [nameZ]; omega
theorem norm_X {a b : List UInt8} (ha : Low a) (hb : Low b) : (dnX a b).map normRow = nfXY a b := by
  have h1 : normRow [(cnB, a), ([83, 78], b)] = [(cnB, a), (snB, b)] := two_row (by
    simp only [List.map_cons, List.map_nil]
    rw [normPair_low (u := cnB) (by decide) ha, normPair_low (u := snB) (by decide) hb])
  have h2 : normRow [([68, 67], [120])] = [(dcB, [120])] := dc_row _ _ (by decide) (prep_low low_x)
  simp [dnX, nfXY, h1, h2]
theorem norm_Y {a b : List UInt8} (ha : Low a) (hb : Low b) : (dnY a b).map normRow = nfXY a b := by
  have h1 : normRow [(snB, b), ([67, 78], a)] = [(cnB, a), (snB, b)] := two_row (by
    simp only [List.map_cons, List.map_nil]
    rw [normPair_low (u := snB) (by decide) hb, normPair_low (u := cnB) (by decide) ha]
    exact List.Perm.swap _ _ _)
  have h2 : normRow [(dcB, [88])] = [(dcB, [120])] := dc_row _ _ (by decide) (by decide +kernel)
  simp [dnY, nfXY, h1, h2]
theorem norm_Z {a : List UInt8} (ha : Low a) : (dnZ a).map normRow = dnZ a := by
  have h1 : normRow [(cnB, a)] = [(cnB, a)] := one_row (by decide) ha
  have h2 : normRow [(dcB, [120])] = [(dcB, [120])] := dc_row _ _ (by decide) (prep_low low_x)
  simp [dnZ, h1, h2]
theorem normB_dn {l : List UInt8} {d : List (List Pair)} {t : List UInt8} (hl : l.length ≤ 1024) (hp : parseR l = (some d, 0)) (hn : (printR (d.map normRow)).1 = some t) : normB .dn l = some t := by
  unfold normB
  rw [if_pos ⟨hl, one_ok hl (by simp [Form.of, hp])⟩]
  simp only [Base.norm, nameR, hp, hn]
/-- The two names are the same; a name with a letter more is another. -/
theorem names_law {a b : List UInt8} (ha : Low a) (hb : Low b) (hl : a.length + b.length ≤ 200) :
    (∃ t, normB .dn (nameX a b) = some t ∧ normB .dn (nameY a b) = some t) ∧ ∃ s t, normB .dn (nameZ a) = some s ∧ normB .dn (nameZ (a ++ [122])) = some t ∧ s ≠ t := by
  obtain ⟨t, ht⟩ := print_XY ha hb hl
  have hz : Low (a ++ [122]) := fun x hx => by
    rcases List.mem_append.1 hx with hx | hx
    · exact ha x hx
    · simp only [List.mem_singleton] at hx; subst hx; decide
  refine ⟨⟨t, normB_dn (by simp [nameX]; omega) (parse_X ha hb hl) (by rw [norm_X ha hb, ht]), normB_dn (by simp [nameY]; omega) (parse_Y ha hb hl) (by rw [norm_Y ha hb, ht])⟩, ?_⟩
  refine ⟨_, _, normB_dn (by simp [nameZ]; omega) (parse_Z ha (by omega)) (by rw [norm_Z ha, print_Z ha (by omega)]), normB_dn (by simp [nameZ]; omega) (parse_Z hz (by simp; omega)) (by rw [norm_Z hz, print_Z hz (by simp; omega)]), fun e => ?_⟩
  have := congrArg List.length e
  simp [nameZ] at this
end Sy
end Go.Proofs.YthoealembhkaoaaGreatDoor
