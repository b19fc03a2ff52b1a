import Derived.Test.YthoealembhkaoaaGreatDoorFm21
import Derived.Test.YthoealembhkaoaaGreatDoorFm17
import Derived.Test.YthoealembhkaoaaGreatDoorFm24
namespace Go.Proofs.YthoealembhkaoaaGreatDoor
open Go.RowKit
namespace Sy
set_option linter.unusedVariables false

/-- Where a value ends: nothing more, a comma, a plus. -/
def Stop (l : List UInt8) : Prop := l = [] ∨ isAt 44 l = true ∨ isAt 43 l = true
theorem at_eq {c : Nat} (hc : c < 256) {b : UInt8} {l : List UInt8} (h : isAt (c : Int) (b :: l) = true) : b = UInt8.ofNat c := u8_eq hc (beq_iff_eq.1 h)
theorem Stop.cases {l : List UInt8} (h : Stop l) : l = [] ∨ (∃ m, l = 44 :: m) ∨ ∃ m, l = 43 :: m := by
  rcases h with rfl | h | h
  · exact .inl rfl
  · cases l with
    | nil => cases h
    | cons b m => rw [at_eq (c := 44) (by omega) h]; exact .inr (.inl ⟨m, rfl⟩)
  · cases l with
    | nil => cases h
    | cons b m => rw [at_eq (c := 43) (by omega) h]; exact .inr (.inr ⟨m, rfl⟩)
theorem stop_nil : Stop [] := .inl rfl
theorem stop_comma (l : List UInt8) : Stop (44 :: l) := .inr (.inl rfl)
theorem stop_plus (l : List UInt8) : Stop (43 :: l) := .inr (.inr rfl)
theorem skip_ne {b : UInt8} (l : List UInt8) (h : b ≠ 32) : skip (b :: l) = b :: l := by
  unfold skip
  rw [if_neg]
  intro e
  exact h (u8_eq (n := 32) (by omega) (beq_iff_eq.1 e))
theorem Stop.skip {l : List UInt8} (h : Stop l) : skip l = l := by
  rcases h.cases with rfl | ⟨m, rfl⟩ | ⟨m, rfl⟩
  · rfl
  · exact skip_ne _ (by decide)
  · exact skip_ne _ (by decide)
theorem special_has (c : UInt8) : special.data.toList.contains c = (c == 34 || c == 43 || c == 44 || c == 59 || c == 60 || c == 62 || c == 92) := by
  rw [Bool.eq_iff_iff]
  show [34, 43, 44, 59, 60, 62, 92].contains c = true ↔ _
  simp [or_assoc]
theorem escapable_has (c : UInt8) : escapable.data.toList.contains c = (c == 34 || c == 43 || c == 44 || c == 59 || c == 60 || c == 62 || c == 92 || c == 61 || c == 35 || c == 32) := by
  rw [Bool.eq_iff_iff]
  show [34, 43, 44, 59, 60, 62, 92, 61, 35, 32].contains c = true ↔ _
  simp [or_assoc]
theorem marked_esc {first : Bool} {c : UInt8} {l : List UInt8} (h : marked first c l = true) : escapable.data.toList.contains c = true := by
  rw [escapable_has]
  unfold marked at h
  rw [special_has] at h
  simp only [Bool.or_eq_true, Bool.and_eq_true, beq_iff_eq] at h ⊢
  rcases h with (h | h) | h
  · simp [h]
  · rcases h.2 with h | h <;> simp [h]
  · simp [h.2]
theorem plain_not {first : Bool} {c : UInt8} {l : List UInt8} (h : marked first c l = false) : special.data.toList.contains c = false ∧ (c = 32 → l ≠ []) ∧ (first = true → c ≠ 35 ∧ c ≠ 32) := by
  unfold marked at h
  simp only [Bool.or_eq_false_iff, Bool.and_eq_false_imp, beq_eq_false_iff_ne] at h
  obtain ⟨⟨h1, h2⟩, h3⟩ := h
  refine ⟨h1, fun hc hl => ?_, fun hf => ?_⟩
  · exact h3 (by simp [hl]) hc
  · have := h2 hf
    exact ⟨this.1, this.2⟩
/-- A value that was written is read. -/
theorem wr_back : ∀ (v : List UInt8) (first : Bool) (n : Nat) (b : List UInt8) (k : Nat) (rest : List UInt8), Stop rest → (wrL first v ++ rest).length < n →
    valL n b k (wrL first v ++ rest) = some (if v = [] then b.take k else b ++ v, rest)
  | [], first, n, b, k, rest, hs, hn => by
    have := valL_end (b := b) (k := k) (l := rest) (n := n) (by simpa [wrL] using hn) hs
    simpa [wrL] using this
  | c :: v, first, n, b, k, rest, hs, hn => by
    have fin : ∀ (m k' : Nat) (x : UInt8), (wrL false v ++ rest).length < m → (v = [] → k' = b.length + 1) → valL m (b ++ [x]) k' (wrL false v ++ rest) = some (b ++ x :: v, rest) := fun m k' x hm hk => by
      rw [wr_back v false m (b ++ [x]) k' rest hs hm]
      by_cases hv : v = []
      · subst hv
        rw [if_pos rfl, hk rfl, List.take_of_length_le (by simp)]
      · rw [if_neg hv]; simp
    simp only [wrL] at hn ⊢
    rw [if_neg (by simp : ¬ (c :: v) = [])]
    by_cases h0 : c = 0
    · subst h0
      rw [if_pos rfl] at hn ⊢
      simp only [List.cons_append, List.nil_append] at hn ⊢
      obtain ⟨m, hm, e⟩ := valL_step (n := n) (b := b) (k := k) (c := 92) (l := 48 :: 48 :: (wrL false v ++ rest)) hn rfl rfl
      rw [e, if_pos rfl]
      have he : escR (48 :: 48 :: (wrL false v ++ rest)) = some (0, wrL false v ++ rest) := by
        rw [escR_cons, if_neg (by rw [escapable_has]; decide)]
        simp only
        rw [if_neg (by decide)]
        rfl
      rw [he]
      exact fin m (b.length + 1) 0 (by simp at hm ⊢; omega) (fun _ => rfl)
    · rw [if_neg h0] at hn ⊢
      cases hm : marked first c v with
      | true =>
        rw [hm, if_pos rfl] at hn
        simp only [if_true, List.cons_append, List.nil_append] at hn ⊢
        obtain ⟨m, hm2, e⟩ := valL_step (n := n) (b := b) (k := k) (c := 92) (l := c :: (wrL false v ++ rest)) hn rfl rfl
        rw [e, if_pos rfl]
        have he : escR (c :: (wrL false v ++ rest)) = some (c, wrL false v ++ rest) := by
          rw [escR_cons, if_pos (marked_esc hm)]
        rw [he]
        exact fin m (b.length + 1) c (by simp at hm2 ⊢; omega) (fun _ => rfl)
      | false =>
        rw [hm] at hn
        obtain ⟨hsp, h32, _⟩ := plain_not hm
        simp only [Bool.false_eq_true, if_false, List.cons_append, List.nil_append] at hn ⊢
        have hsp2 := hsp
        rw [special_has] at hsp2
        simp only [Bool.or_eq_false_iff, beq_eq_false_iff_ne] at hsp2
        have n44 : isAt 44 (c :: (wrL false v ++ rest)) = false := by
          cases h : isAt 44 (c :: (wrL false v ++ rest)) with
          | false => rfl
          | true => exact absurd (at_eq (c := 44) (by omega) h) hsp2.1.1.1.1.2
        have n43 : isAt 43 (c :: (wrL false v ++ rest)) = false := by
          cases h : isAt 43 (c :: (wrL false v ++ rest)) with
          | false => rfl
          | true => exact absurd (at_eq (c := 43) (by omega) h) hsp2.1.1.1.1.1.2
        obtain ⟨m, hm2, e⟩ := valL_step (n := n) (b := b) (k := k) (c := c) (l := wrL false v ++ rest) hn n44 n43
        rw [e, if_neg hsp2.2, if_neg (by rw [hsp]; simp [h0])]
        refine fin m _ c hm2 (fun hv => ?_)
        rw [if_neg (fun hc => h32 hc hv)]
theorem digit_hexd {n : Nat} (h : n < 16) : digit ((hexd n).toNat : Int) = (n : Int) := by
  rcases (by omega : n = 0 ∨ n = 1 ∨ n = 2 ∨ n = 3 ∨ n = 4 ∨ n = 5 ∨ n = 6 ∨ n = 7 ∨ n = 8 ∨ n = 9 ∨ n = 10 ∨ n = 11 ∨ n = 12 ∨ n = 13 ∨ n = 14 ∨ n = 15) with rfl | rfl | rfl | rfl | rfl | rfl | rfl | rfl | rfl | rfl | rfl | rfl | rfl | rfl | rfl | rfl <;> decide
theorem unhex_hexed : ∀ v : List UInt8, unhex (hexed v) = some v
  | [] => rfl
  | b :: v => by
    have hb := b.toNat_lt
    have h1 := digit_hexd (n := b.toNat / 16) (by omega)
    have h2 := digit_hexd (n := b.toNat % 16) (by omega)
    simp only [hexed, unhex]
    rw [h1, h2, if_neg (by omega), unhex_hexed v]
    simp only [Option.map_some, Option.some.injEq, List.cons.injEq, and_true]
    apply UInt8.toNat_inj.1
    rw [UInt8.toNat_ofNat']
    omega
theorem hexed_all : ∀ v : List UInt8, ∀ b ∈ hexed v, hexB b = true
  | [], b, h => by cases h
  | a :: v, b, h => by
    have ha := a.toNat_lt
    simp only [hexed, List.mem_cons] at h
    rcases h with rfl | rfl | h
    · unfold hexB; rw [digit_hexd (by omega)]; simp; omega
    · unfold hexB; rw [digit_hexd (by omega)]; simp; omega
    · exact hexed_all v b h
theorem take_all {p : UInt8 → Bool} : ∀ (a rest : List UInt8), (∀ b ∈ a, p b = true) → (rest = [] ∨ ∃ c m, rest = c :: m ∧ p c = false) → (a ++ rest).takeWhile p = a ∧ (a ++ rest).dropWhile p = rest
  | [], rest, _, hr => by
    rcases hr with rfl | ⟨c, m, rfl, hc⟩
    · exact ⟨rfl, rfl⟩
    · simp [hc]
  | x :: a, rest, ha, hr => by
    have hx := ha x (.head _)
    obtain ⟨h1, h2⟩ := take_all a rest (fun b hb => ha b (.tail _ hb)) hr
    simp [hx, h1, h2]
theorem Stop.no {p : UInt8 → Bool} {l : List UInt8} (h : Stop l) (h1 : p 44 = false) (h2 : p 43 = false) : l = [] ∨ ∃ c m, l = c :: m ∧ p c = false := by
  rcases h.cases with h | ⟨m, rfl⟩ | ⟨m, rfl⟩
  · exact .inl h
  · exact .inr ⟨_, m, rfl, h1⟩
  · exact .inr ⟨_, m, rfl, h2⟩
theorem value_back (v rest : List UInt8) (hs : Stop rest) : valueR (writtenR v ++ rest) = some (v, rest) := by
  unfold writtenR
  cases hv : Lib.validD v with
  | true =>
    simp only [if_true]
    have h35 : isAt 35 (wrL true v ++ rest) = false := by
      cases v with
      | nil =>
        rcases hs.cases with rfl | ⟨m, rfl⟩ | ⟨m, rfl⟩ <;> rfl
      | cons c v =>
        simp only [wrL]
        split
        · rfl
        · split
          · rfl
          · rename_i hm
            have := (plain_not (by simpa using hm)).2.2 rfl
            cases h : isAt 35 ([c] ++ wrL false v ++ rest) with
            | false => rfl
            | true => exact absurd (at_eq (c := 35) (by omega) h) this.1
    rw [valueR_plain h35, wr_back v true _ [] 0 rest hs (by omega)]
    by_cases h : v = []
    · subst h; rfl
    · rw [if_neg h]; rfl
  | false =>
    simp only [Bool.false_eq_true, if_false, List.cons_append]
    show hexR (hexed v ++ rest) = _
    obtain ⟨h1, h2⟩ := take_all (p := hexB) (hexed v) rest (hexed_all v) (hs.no (by decide) (by decide))
    unfold hexR
    rw [h1, h2, unhex_hexed]
    cases v with
    | nil => cases hv
    | cons a v => rfl
theorem head_dot {s : List UInt8} {i : Nat} : ∀ {s : List UInt8} {i : Nat}, Lib.index s [46] = (i : Int) → s.drop i = 46 :: s.drop (i + 1) := by
  intro s
  induction s with
  | nil => intro i h; simp [Lib.index] at h
  | cons b l ih =>
    intro i h
    simp only [Lib.index] at h
    split at h
    · rename_i hp
      have : 46 = b := by simpa [List.isPrefixOf] using hp
      have hi : i = 0 := by omega
      subst hi
      rw [← this]
      rfl
    · split at h
      · omega
      · obtain ⟨j, rfl⟩ : ∃ j, i = j + 1 := ⟨i - 1, by
          rename_i hne
          have h1 := Lib.index_ge l [46]
          have h2 : Lib.index l [46] ≠ -1 := by simpa using hne
          omega⟩
        exact ih (by omega)
theorem split_all {P : UInt8 → Prop} : ∀ (k : Nat) (s : List UInt8), (∀ q ∈ Lib.splitK [46] 0 k s, ∀ b ∈ q, P b) → ∀ b ∈ s, P b ∨ b = 46
  | 0, s, h, b, hb => .inl (h s (by simp [Lib.splitK]) b hb)
  | k + 1, s, h, b, hb => by
    simp only [Lib.splitK] at h
    split at h
    · exact .inl (h s (by simp) b hb)
    · rename_i hi
      have hge := Lib.index_ge s [46]
      have hi' : Lib.index s [46] ≠ -1 := by simpa using hi
      obtain ⟨i, e⟩ : ∃ i : Nat, Lib.index s [46] = (i : Int) := ⟨(Lib.index s [46]).toNat, by omega⟩
      rw [e] at h
      simp only [Int.toNat_natCast, Nat.add_zero, List.length_cons, List.length_nil, Nat.zero_add] at h
      have hd := head_dot (s := s) (i := i) e
      rw [← List.take_append_drop i s, hd] at hb
      rcases List.mem_append.1 hb with hb | hb
      · exact .inl (h _ (.head _) b hb)
      · rcases List.mem_cons.1 hb with hb | hb
        · exact .inr hb
        · exact split_all k _ (fun q hq => h q (.tail _ hq)) b hb
theorem oid_chars {t : List UInt8} (h : isOid t = true) : ∀ b ∈ t, (48 ≤ b.toNat ∧ b.toNat ≤ 57) ∨ b = 46 := by
  unfold isOid Lib.split at h
  simp only [Bool.and_eq_true, List.all_eq_true] at h
  refine split_all (Lib.count t [46]) t (fun q hq b hb => ?_)
  have := h.1 q hq
  unfold isNum at this
  simp only [Bool.and_eq_true] at this
  exact digits_all this.1 b hb
theorem type_chars {t : List UInt8} (h : isType t = true) : t ≠ [] ∧ ∀ b ∈ t, inTypeB b = true := by
  unfold isType at h
  simp only [Bool.and_eq_true, Bool.not_eq_true', List.isEmpty_eq_false_iff, decide_eq_true_eq] at h
  obtain ⟨⟨h1, _⟩, h2⟩ := h
  refine ⟨h1, fun b hb => ?_⟩
  split at h2
  · have := List.all_eq_true.1 h2 b hb
    simp only [Bool.and_eq_true] at this
    exact this.1
  · rcases oid_chars h2 b hb with hb | hb
    · unfold inTypeB inType isDigit
      simp; omega
    · subst hb; decide
theorem type_head {t : List UInt8} (h : isType t = true) : ∃ c m, t = c :: m ∧ c ≠ 32 := by
  obtain ⟨h1, h2⟩ := type_chars h
  cases t with
  | nil => exact absurd rfl h1
  | cons c m =>
    refine ⟨c, m, rfl, fun e => ?_⟩
    have := h2 c (.head _)
    subst e
    exact absurd this (by decide)
/-- A pair that was written is read. -/
theorem pair_back (q : Pair) (rest : List UInt8) (h : isType q.1 = true) (hs : Stop rest) : pairR (pairT q ++ rest) = some (q, rest) := by
  obtain ⟨t, v⟩ := q
  simp only at h
  obtain ⟨c, m, hc, h32⟩ := type_head h
  have e : pairT (t, v) ++ rest = t ++ (61 :: (writtenR v ++ rest)) := by simp [pairT]
  have hk : skip (t ++ (61 :: (writtenR v ++ rest))) = t ++ (61 :: (writtenR v ++ rest)) := by
    rw [hc]; exact skip_ne _ h32
  obtain ⟨h1, h2⟩ := take_all (p := inTypeB) t (61 :: (writtenR v ++ rest)) (type_chars h).2 (.inr ⟨_, _, rfl, by decide⟩)
  have hw : skip (writtenR v ++ rest) = writtenR v ++ rest := by
    unfold writtenR
    cases hv : Lib.validD v with
    | false => exact skip_ne _ (by decide)
    | true =>
      simp only [if_true]
      cases v with
      | nil => exact hs.skip
      | cons x v =>
        simp only [wrL]
        split
        · exact skip_ne _ (by decide)
        · split
          · exact skip_ne _ (by decide)
          · rename_i hm
            have := (plain_not (by simpa using hm)).2.2 rfl
            exact skip_ne _ this.2
  rw [e]
  unfold pairR typR
  rw [hk, h1, h2, if_pos h]
  simp only
  rw [skip_ne _ (by decide : (61 : UInt8) ≠ 32)]
  simp only [List.drop_succ_cons, List.drop_zero]
  rw [if_pos (by rfl), hw, value_back v rest hs]
  simp only [hs.skip]
theorem rowT_cons (q : Pair) (r : List Pair) : rowT (q :: r) = pairT q ++ (if r = [] then [] else 43 :: rowT r) := by
  cases r with
  | nil => simp [rowT, Lib.join, List.intercalate]
  | cons p r => simp [rowT, Lib.join, List.intercalate]
theorem dnT_cons (r : List Pair) (d : List (List Pair)) : dnT (r :: d) = rowT r ++ (if d = [] then [] else 44 :: dnT d) := by
  cases d with
  | nil => simp [dnT, Lib.join, List.intercalate]
  | cons p r => simp [dnT, Lib.join, List.intercalate]
theorem pairT_ne (q : Pair) : pairT q ≠ [] := by simp [pairT]
/-- A part that was written is read. -/
theorem partL_back : ∀ (r : List Pair) (acc : List Pair) (n : Nat) (rest : List UInt8), (∀ q ∈ r, isType q.1 = true) → (rest = [] ∨ ∃ m, rest = 44 :: m) → ((if r = [] then [] else 43 :: rowT r) ++ rest).length < n →
    partL n acc ((if r = [] then [] else 43 :: rowT r) ++ rest) = some (acc ++ r, rest)
  | [], acc, n, rest, _, hr, hn => by
    obtain ⟨n, rfl⟩ : ∃ m, n = m + 1 := ⟨n - 1, by omega⟩
    simp only [if_true, List.nil_append, List.append_nil]
    rcases hr with rfl | ⟨m, rfl⟩ <;> rfl
  | q :: r, acc, n, rest, hq, hr, hn => by
    obtain ⟨n, rfl⟩ : ∃ m, n = m + 1 := ⟨n - 1, by omega⟩
    rw [if_neg (by simp)] at hn ⊢
    simp only [List.cons_append, partL]
    rw [if_pos (by rfl)]
    simp only [List.drop_succ_cons, List.drop_zero]
    have hs : Stop ((if r = [] then [] else 43 :: rowT r) ++ rest) := by
      split
      · rcases hr with rfl | ⟨m, rfl⟩
        · exact stop_nil
        · exact stop_comma m
      · exact stop_plus _
    rw [rowT_cons, List.append_assoc, pair_back q _ (hq q (.head _)) hs]
    simp only
    rw [partL_back r (acc ++ [q]) n rest (fun x hx => hq x (.tail _ hx)) hr ?_]
    · simp
    · rw [rowT_cons] at hn
      have := List.length_pos_iff.2 (pairT_ne q)
      simp only [List.length_append, List.length_cons] at hn ⊢
      omega
theorem part_back (r : List Pair) (rest : List UInt8) (h0 : r ≠ []) (hq : ∀ q ∈ r, isType q.1 = true) (hr : rest = [] ∨ ∃ m, rest = 44 :: m) : partR (rowT r ++ rest) = some (r, rest) := by
  cases r with
  | nil => exact absurd rfl h0
  | cons q r =>
    have hs : Stop ((if r = [] then [] else 43 :: rowT r) ++ rest) := by
      split
      · rcases hr with rfl | ⟨m, rfl⟩
        · exact stop_nil
        · exact stop_comma m
      · exact stop_plus _
    unfold partR
    rw [rowT_cons, List.append_assoc, pair_back q _ (hq q (.head _)) hs]
    simp only
    rw [partL_back r [q] _ rest (fun x hx => hq x (.tail _ hx)) hr (by omega)]
    simp
theorem rowT_ne {r : List Pair} (h : r ≠ []) : rowT r ≠ [] := by
  cases r with
  | nil => exact absurd rfl h
  | cons q r => rw [rowT_cons]; simp [pairT_ne]
/-- What a name is made of. -/
def Names (d : List (List Pair)) : Prop := ∀ r ∈ d, r ≠ [] ∧ ∀ q ∈ r, isType q.1 = true
theorem dnL_back : ∀ (d acc : List (List Pair)) (n : Nat), Names d → (if d = [] then [] else 44 :: dnT d : List UInt8).length < n →
    dnL n acc (if d = [] then [] else 44 :: dnT d) = some (acc ++ d)
  | [], acc, n, _, hn => by
    obtain ⟨n, rfl⟩ : ∃ m, n = m + 1 := ⟨n - 1, by omega⟩
    simp [dnL, isAt]
  | r :: d, acc, n, hd, hn => by
    obtain ⟨n, rfl⟩ : ∃ m, n = m + 1 := ⟨n - 1, by omega⟩
    have h1 := hd r (.head _)
    rw [if_neg (by simp)] at hn ⊢
    simp only [dnL]
    rw [if_pos (by rfl)]
    simp only [List.drop_succ_cons, List.drop_zero]
    rw [dnT_cons, part_back r _ h1.1 h1.2 (by split <;> simp)]
    simp only
    rw [dnL_back d (acc ++ [r]) n (fun x hx => hd x (.tail _ hx)) ?_]
    · simp
    · rw [dnT_cons] at hn
      have := List.length_pos_iff.2 (rowT_ne h1.1)
      simp only [List.length_cons, List.length_append] at hn
      omega
/-- A name that was written is read. -/
theorem dn_back (d : List (List Pair)) (h : Names d) : dnR (dnT d) = some d := by
  cases d with
  | nil => rfl
  | cons r d =>
    have h1 := h r (.head _)
    unfold dnR
    rw [dnT_cons, if_neg (by simp [rowT_ne h1.1]), part_back r _ h1.1 h1.2 (by split <;> simp)]
    simp only
    rw [dnL_back d [r] _ (fun x hx => h x (.tail _ hx)) (by omega)]
    simp
/-- What is printed is read as the name. -/
theorem print_parse {d : List (List Pair)} {t : List UInt8} (h : printR d = (some t, 0)) : parseR t = (some d, 0) ∧ Names d := by
  unfold printR at h
  split at h
  · cases h
  · rename_i hb
    split at h
    · cases h
    · rename_i hl
      split at h
      · cases h
      · rename_i hn
        injection h with h
        injection h with h
        subst h
        have hN : Names d := fun r hr => by
          have : ¬ badRow r = true := fun e => hb (List.any_eq_true.2 ⟨r, hr, e⟩)
          simp only [badRow, Bool.or_eq_true, not_or, List.any_eq_true, not_exists, not_and] at this
          refine ⟨by simpa using this.1, fun q hq => ?_⟩
          have := this.2 q hq
          simpa using this
        refine ⟨?_, hN⟩
        unfold parseR
        rw [if_neg hn, dn_back d hN]
        simp only
        rw [if_neg hl]
end Sy
end Go.Proofs.YthoealembhkaoaaGreatDoor
namespace Go.Proofs.YthoealembhkaoaaGreatDoor
open Go.RowKit
namespace Sy
set_option linter.unusedVariables false
set_option maxRecDepth 100000

theorem smallB_again (b : UInt8) : smallB (smallB b) = smallB b := by
  have : ∀ b : UInt8, (smallB (smallB b) == smallB b) = true := all_bytes (by decide)
  simpa using this b
theorem small_again (l : List UInt8) : small (small l) = small l := by
  unfold small
  rw [List.map_map]
  apply List.map_congr_left
  intro b _
  exact smallB_again b
theorem normPair_again (q : Pair) : normPair (normPair q) = normPair q := by
  unfold normPair
  simp only [small_again, Prod.mk.injEq, true_and]
  cases h : prepR true q.2 with
  | none => simp [h]
  | some t => simp [(prepR_again h).1]
theorem sorted_unique : ∀ {l m : List Pair}, l.Perm m → l.Pairwise (fun a b => cmpPair a b ≤ 0) → m.Pairwise (fun a b => cmpPair a b ≤ 0) → l = m
  | [], m, hp, _, _ => (List.nil_perm.1 hp).symm
  | a :: l, [], hp, _, _ => by simp at hp
  | a :: l, b :: m, hp, hl, hm => by
    have hab : a = b := by
      have ha : a ∈ b :: m := hp.mem_iff.1 (.head _)
      have hb : b ∈ a :: l := hp.mem_iff.2 (.head _)
      rcases List.mem_cons.1 ha with h | h
      · exact h
      · rcases List.mem_cons.1 hb with h' | h'
        · exact h'.symm
        · have h1 := (List.pairwise_cons.1 hl).1 b h'
          have h2 := (List.pairwise_cons.1 hm).1 a h
          have h3 := cp_neg a b
          exact cp_eq a b (by omega)
    subst hab
    rw [sorted_unique (List.Perm.cons_inv hp) (List.pairwise_cons.1 hl).2 (List.pairwise_cons.1 hm).2]
theorem sortR_sorted {l : List Pair} (h : l.Pairwise fun a b => cmpPair a b ≤ 0) : sortR l = l :=
  sorted_unique (sortR_spec l).1 (sortR_spec l).2 h
theorem keeps_snoc {l : List Pair} {x : Pair} {j : Nat} (h : j < l.length) : Lib.keeps (l ++ [x]).toArray j = Lib.keeps l.toArray j := by
  have e : ∀ i, i < l.length → (l ++ [x]).toArray[i]! = l.toArray[i]! := fun i hi => by
    rw [getElem!_pos _ i (by simp; omega), getElem!_pos _ i (by simpa using hi)]
    simp [List.getElem_append_left hi]
  unfold Lib.keeps
  rw [e j h]
  by_cases hj : j = 0
  · simp [hj]
  · rw [e (j - 1) (by omega)]
theorem compact_snoc (l : List Pair) (x : Pair) : Lib.compact (l ++ [x]) = if l.getLast? = some x then Lib.compact l else Lib.compact l ++ [x] := by
  have e0 : ∀ i, i < l.length → (l ++ [x]).toArray[i]! = l.toArray[i]! := fun i hi => by
    rw [getElem!_pos _ i (by simp; omega), getElem!_pos _ i (by simpa using hi)]
    simp [List.getElem_append_left hi]
  have ex : (l ++ [x]).toArray[l.length]! = x := by
    rw [getElem!_pos _ l.length (by simp)]
    simp
  have h1 : ((List.range l.length).filter (Lib.keeps (l ++ [x]).toArray)).map ((l ++ [x]).toArray[·]!) = Lib.compact l := by
    unfold Lib.compact Lib.compactUpTo
    rw [List.filter_congr (fun j hj => keeps_snoc (List.mem_range.1 hj))]
    apply List.map_congr_left
    intro j hj
    exact e0 j (List.mem_range.1 (List.mem_filter.1 hj).1)
  show ((List.range (l ++ [x]).length).filter (Lib.keeps (l ++ [x]).toArray)).map ((l ++ [x]).toArray[·]!) = _
  rw [show (l ++ [x]).length = l.length + 1 by simp, List.range_succ, List.filter_append, List.map_append, h1]
  have hk : Lib.keeps (l ++ [x]).toArray l.length = decide (l.getLast? ≠ some x) := by
    unfold Lib.keeps
    rw [ex]
    rcases nil_or_snoc l with rfl | ⟨m, y, rfl⟩
    · simp
    · rw [e0 _ (by simp), getElem!_pos _ _ (by simp)]
      simp [eq_comm]
  by_cases h : l.getLast? = some x
  · rw [if_pos h]
    simp [hk, h]
  · rw [if_neg h]
    simp [hk, h]
theorem compact_nil : Lib.compact ([] : List Pair) = [] := rfl
theorem compact_sorted : ∀ (k : Nat) (l : List Pair), l.length = k → l.Pairwise (fun a b => cmpPair a b ≤ 0) → (Lib.compact l).Pairwise (fun a b => cmpPair a b < 0) ∧ (∀ x ∈ Lib.compact l, x ∈ l) ∧ (Lib.compact l).getLast? = l.getLast?
  | 0, l, hk, _ => by
    have : l = [] := List.length_eq_zero_iff.1 hk
    subst this
    rw [compact_nil]
    simp
  | k + 1, l, hk, hl => by
    rcases nil_or_snoc l with rfl | ⟨m, x, rfl⟩
    · simp at hk
    · obtain ⟨hm, _, hx⟩ := List.pairwise_append.1 hl
      obtain ⟨h1, h2, h3⟩ := compact_sorted k m (by simpa using hk) hm
      rw [compact_snoc]
      by_cases h : m.getLast? = some x
      · rw [if_pos h]
        refine ⟨h1, fun y hy => by simp [h2 y hy], ?_⟩
        rw [h3, h]; simp
      · rw [if_neg h]
        refine ⟨List.pairwise_append.2 ⟨h1, by simp, fun a ha b hb => ?_⟩, fun y hy => ?_, by simp⟩
        · simp only [List.mem_singleton] at hb
          subst hb
          have hle := hx a (h2 a ha) b (by simp)
          have hne : cmpPair a b ≠ 0 := fun e => by
            have := cp_eq a b e
            subst this
            -- a is the last of m as well
            rcases nil_or_snoc m with rfl | ⟨m', y, rfl⟩
            · rw [compact_nil] at ha; cases ha
            · have hya : y ≠ a := fun e => h (by simp [e])
              have ham := h2 a ha
              rcases List.mem_append.1 ham with ham | ham
              · have l1 := (List.pairwise_append.1 hm).2.2 a ham y (by simp)
                have l2 := hx y (by simp) a (by simp)
                have l3 := cp_neg a y
                exact hya (cp_eq a y (by omega)).symm
              · simp only [List.mem_singleton] at ham
                exact hya ham.symm
          omega
        · rcases List.mem_append.1 hy with hy | hy
          · simp [h2 y hy]
          · simp only [List.mem_singleton] at hy; simp [hy]
theorem compact_strict : ∀ (k : Nat) (l : List Pair), l.length = k → l.Pairwise (fun a b => cmpPair a b < 0) → Lib.compact l = l
  | 0, l, hk, _ => by
    have : l = [] := List.length_eq_zero_iff.1 hk
    subst this
    rfl
  | k + 1, l, hk, hl => by
    rcases nil_or_snoc l with rfl | ⟨m, x, rfl⟩
    · simp at hk
    · obtain ⟨hm, _, hx⟩ := List.pairwise_append.1 hl
      rw [compact_snoc, compact_strict k m (by simpa using hk) hm, if_neg]
      intro e
      have := hx x (List.mem_of_getLast? e) x (by simp)
      rw [cp_self] at this
      omega
theorem normRow_again (r : List Pair) : normRow (normRow r) = normRow r := by
  obtain ⟨h1, h2, _⟩ := compact_sorted _ (sortR (r.map normPair)) rfl (sortR_spec _).2
  have hmap : (normRow r).map normPair = normRow r := by
    rw [List.map_congr_left (g := id) ?_, List.map_id]
    intro q hq
    have := (sortR_spec (r.map normPair)).1.mem_iff.1 (h2 q hq)
    obtain ⟨p, _, rfl⟩ := List.mem_map.1 this
    exact normPair_again p
  have hs : (normRow r).Pairwise fun a b => cmpPair a b ≤ 0 := List.Pairwise.imp (fun h => Int.le_of_lt h) h1
  have e : normRow (normRow r) = Lib.compact (sortR ((normRow r).map normPair)) := rfl
  rw [e, hmap, sortR_sorted hs]
  exact compact_strict _ _ rfl h1
theorem nameR_print {l t : List UInt8} (h : nameR l = some t) : ∃ d : List (List Pair), printR (d.map normRow) = (some t, 0) := by
  unfold nameR at h
  split at h
  · cases h
  · rename_i d _
    refine ⟨d, ?_⟩
    generalize hp : printR (d.map normRow) = r at h
    obtain ⟨a, b⟩ := r
    simp only at h
    subst h
    unfold printR at hp
    split at hp
    · cases hp
    · split at hp
      · cases hp
      · split at hp
        · cases hp
        · injection hp with h1 h2
          rw [← h2]
/-- A name's normal form is a name, and its own normal form. -/
theorem nameR_again {l t : List UInt8} (h : nameR l = some t) : nameR t = some t ∧ (parseR t).2 = 0 := by
  obtain ⟨d, hd⟩ := nameR_print h
  obtain ⟨hp, _⟩ := print_parse hd
  have hm : (d.map normRow).map normRow = d.map normRow := by
    rw [List.map_map]
    apply List.map_congr_left
    intro r _
    exact normRow_again r
  refine ⟨?_, by rw [hp]⟩
  unfold nameR
  rw [hp]
  simp only
  rw [hm, hd]
theorem letter_small (b : UInt8) : isLetter ((smallB b).toNat : Int) = isLetter (b.toNat : Int) := by
  have : ∀ b : UInt8, (isLetter ((smallB b).toNat : Int) == isLetter (b.toNat : Int)) = true := all_bytes (by decide)
  simpa using this b
theorem inType_small (b : UInt8) : (inType ((smallB b).toNat : Int) && !decide (((smallB b).toNat : Int) = 46)) = (inType (b.toNat : Int) && !decide ((b.toNat : Int) = 46)) := by
  have : ∀ b : UInt8, ((inType ((smallB b).toNat : Int) && !decide (((smallB b).toNat : Int) = 46)) == (inType (b.toNat : Int) && !decide ((b.toNat : Int) = 46))) = true := all_bytes (by decide)
  simpa using this b
theorem small_digits {t : List UInt8} (h : ∀ b ∈ t, (48 ≤ b.toNat ∧ b.toNat ≤ 57) ∨ b = 46) : small t = t := by
  unfold small
  rw [List.map_congr_left (g := id) ?_, List.map_id]
  intro b hb
  rcases h b hb with h | rfl
  · unfold smallB; rw [if_neg (by omega)]; rfl
  · rfl
theorem isType_small {t : List UInt8} (h : isType t = true) : isType (small t) = true := by
  have h0 := h
  unfold isType at h
  simp only [Bool.and_eq_true, Bool.not_eq_true', List.isEmpty_eq_false_iff, decide_eq_true_eq] at h
  obtain ⟨⟨h1, h2⟩, h3⟩ := h
  cases t with
  | nil => exact absurd rfl h1
  | cons c t =>
    split at h3
    · rename_i hl
      have hl : isLetter (c.toNat : Int) = true := by simpa using hl
      have e : small (c :: t) = smallB c :: small t := rfl
      have hall : (small (c :: t)).all (fun b => inType b.toNat && !decide ((b.toNat : Int) = 46)) = true := by
        unfold small
        rw [List.all_map]
        refine List.all_eq_true.2 fun b hb => ?_
        have := List.all_eq_true.1 h3 b hb
        rw [Function.comp_apply, inType_small]
        exact this
      have hlen : (small (c :: t)).length ≤ 64 := by rw [small_length]; exact h2
      unfold isType
      rw [if_pos (by rw [e]; simp [letter_small, hl]), hall, decide_eq_true hlen]
      rfl
    · rw [small_digits (oid_chars h3)]
      exact h0
theorem ok_one {f : Form} {l : List UInt8} (h : ([f].any fun f => f.ok l) = true) : f.of l = true := by
  simp only [List.any_cons, List.any_nil, Bool.or_false, Form.ok, Bool.and_eq_true] at h
  exact h.2
theorem one_ok {f : Form} {l : List UInt8} (hl : l.length ≤ 1024) (h : f.of l = true) : ([f].any fun f => f.ok l) = true := by
  simp only [List.any_cons, List.any_nil, Bool.or_false, Form.ok, Bool.and_eq_true, decide_eq_true_eq]
  exact ⟨hl, h⟩
theorem texts_ok {t : List UInt8} (hl : t.length ≤ 1024) (h : (prepR false t).isSome = true) : ([Form.text, Form.ascii].any fun f => f.ok t) = true := by
  simp only [List.any_cons, List.any_nil, Bool.or_false, Form.ok, Form.of, decide_eq_true hl, Bool.true_and, h, Bool.and_true, Bool.or_eq_true]
  cases t with
  | nil => exact .inr rfl
  | cons _ _ => exact .inl rfl
/-- A normal form is its own normal form. -/
theorem normB_again {b : Base} {l t : List UInt8} (h : normB b l = some t) (ht : t.length ≤ 1024) : normB b t = some t := by
  unfold normB at h
  split at h
  · rename_i hc
    obtain ⟨hl, hf⟩ := hc
    unfold normB
    cases b
    · exact if_pos ⟨ht, one_ok ht rfl⟩
    · simp only [Base.norm] at h
      obtain ⟨h1, h2⟩ := prepR_again h
      rw [if_pos ⟨ht, texts_ok ht (by rw [h2]; rfl)⟩]
      exact h1
    · simp only [Base.norm] at h
      obtain ⟨h1, h2⟩ := prepR_again h
      rw [if_pos ⟨ht, texts_ok ht (by rw [h2]; rfl)⟩]
      exact h1
    · simp only [Base.norm, Option.some.injEq] at h
      subst h
      exact if_pos ⟨ht, hf⟩
    · simp only [Base.norm, Option.some.injEq] at h
      subst h
      exact if_pos ⟨ht, hf⟩
    · simp only [Base.norm] at h
      obtain ⟨h1, h2⟩ := nameR_again h
      rw [if_pos ⟨ht, one_ok ht (by simp [Form.of, h2])⟩]
      exact h1
    · simp only [Base.norm, Option.some.injEq] at h
      subst h
      have := ok_one hf
      rw [if_pos ⟨ht, one_ok ht (isType_small this)⟩]
      simp [Base.norm, small_again]
    · simp only [Base.norm, Option.some.injEq] at h
      subst h
      exact if_pos ⟨ht, hf⟩
  · cases h
end Sy
end Go.Proofs.YthoealembhkaoaaGreatDoor
