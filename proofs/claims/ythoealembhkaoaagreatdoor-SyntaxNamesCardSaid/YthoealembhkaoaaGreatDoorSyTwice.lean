import Derived.Test.YthoealembhkaoaaGreatDoorSyBack
import Derived.Test.YthoealembhkaoaaGreatDoorSyPrepLaw
import Derived.Test.YthoealembhkaoaaGreatDoorSyNormal
namespace Go.Proofs.YthoealembhkaoaaGreatDoor
open Go.RowKit
namespace Sy
set_option linter.unusedVariables false
set_option maxRecDepth 100000

theorem smallB_again (b : UInt8) : smallB (smallB b) = smallB b := by
  have : ∀ b : UInt8, (smallB (smallB b) == smallB b) = true := all_bytes (by decide)
  simpa using this b
theorem small_again (l : List UInt8) : small (small l) = small l := by
  unfold small
  rw [List.map_map]
  apply List.map_congr_left
  intro b _
  exact smallB_again b
theorem normPair_again (q : Pair) : normPair (normPair q) = normPair q := by
  unfold normPair
  simp only [small_again, Prod.mk.injEq, true_and]
  cases h : prepR true q.2 with
  | none => simp [h]
  | some t => simp [(prepR_again h).1]
theorem sorted_unique : ∀ {l m : List Pair}, l.Perm m → l.Pairwise (fun a b => cmpPair a b ≤ 0) → m.Pairwise (fun a b => cmpPair a b ≤ 0) → l = m
  | [], m, hp, _, _ => (List.nil_perm.1 hp).symm
  | a :: l, [], hp, _, _ => by simp at hp
  | a :: l, b :: m, hp, hl, hm => by
    have hab : a = b := by
      have ha : a ∈ b :: m := hp.mem_iff.1 (.head _)
      have hb : b ∈ a :: l := hp.mem_iff.2 (.head _)
      rcases List.mem_cons.1 ha with h | h
      · exact h
      · rcases List.mem_cons.1 hb with h' | h'
        · exact h'.symm
        · have h1 := (List.pairwise_cons.1 hl).1 b h'
          have h2 := (List.pairwise_cons.1 hm).1 a h
          have h3 := cp_neg a b
          exact cp_eq a b (by omega)
    subst hab
    rw [sorted_unique (List.Perm.cons_inv hp) (List.pairwise_cons.1 hl).2 (List.pairwise_cons.1 hm).2]
theorem sortR_sorted {l : List Pair} (h : l.Pairwise fun a b => cmpPair a b ≤ 0) : sortR l = l :=
  sorted_unique (sortR_spec l).1 (sortR_spec l).2 h
theorem keeps_snoc {l : List Pair} {x : Pair} {j : Nat} (h : j < l.length) : Lib.keeps (l ++ [x]).toArray j = Lib.keeps l.toArray j := by
  have e : ∀ i, i < l.length → (l ++ [x]).toArray[i]! = l.toArray[i]! := fun i hi => by
    rw [getElem!_pos _ i (by simp; omega), getElem!_pos _ i (by simpa using hi)]
    simp [List.getElem_append_left hi]
  unfold Lib.keeps
  rw [e j h]
  by_cases hj : j = 0
  · simp [hj]
  · rw [e (j - 1) (by omega)]
theorem compact_snoc (l : List Pair) (x : Pair) : Lib.compact (l ++ [x]) = if l.getLast? = some x then Lib.compact l else Lib.compact l ++ [x] := by
  have e0 : ∀ i, i < l.length → (l ++ [x]).toArray[i]! = l.toArray[i]! := fun i hi => by
    rw [getElem!_pos _ i (by simp; omega), getElem!_pos _ i (by simpa using hi)]
    simp [List.getElem_append_left hi]
  have ex : (l ++ [x]).toArray[l.length]! = x := by
    rw [getElem!_pos _ l.length (by simp)]
    simp
  have h1 : ((List.range l.length).filter (Lib.keeps (l ++ [x]).toArray)).map ((l ++ [x]).toArray[·]!) = Lib.compact l := by
    unfold Lib.compact Lib.compactUpTo
    rw [List.filter_congr (fun j hj => keeps_snoc (List.mem_range.1 hj))]
    apply List.map_congr_left
    intro j hj
    exact e0 j (List.mem_range.1 (List.mem_filter.1 hj).1)
  show ((List.range (l ++ [x]).length).filter (Lib.keeps (l ++ [x]).toArray)).map ((l ++ [x]).toArray[·]!) = _
  rw [show (l ++ [x]).length = l.length + 1 by simp, List.range_succ, List.filter_append, List.map_append, h1]
  have hk : Lib.keeps (l ++ [x]).toArray l.length = decide (l.getLast? ≠ some x) := by
    unfold Lib.keeps
    rw [ex]
    rcases nil_or_snoc l with rfl | ⟨m, y, rfl⟩
    · simp
    · rw [e0 _ (by simp), getElem!_pos _ _ (by simp)]
      simp [eq_comm]
  by_cases h : l.getLast? = some x
  · rw [if_pos h]
    simp [hk, h]
  · rw [if_neg h]
    simp [hk, h]
theorem compact_nil : Lib.compact ([] : List Pair) = [] := rfl
theorem compact_sorted : ∀ (k : Nat) (l : List Pair), l.length = k → l.Pairwise (fun a b => cmpPair a b ≤ 0) → (Lib.compact l).Pairwise (fun a b => cmpPair a b < 0) ∧ (∀ x ∈ Lib.compact l, x ∈ l) ∧ (Lib.compact l).getLast? = l.getLast?
  | 0, l, hk, _ => by
    have : l = [] := List.length_eq_zero_iff.1 hk
    subst this
    rw [compact_nil]
    simp
  | k + 1, l, hk, hl => by
    rcases nil_or_snoc l with rfl | ⟨m, x, rfl⟩
    · simp at hk
    · obtain ⟨hm, _, hx⟩ := List.pairwise_append.1 hl
      obtain ⟨h1, h2, h3⟩ := compact_sorted k m (by simpa using hk) hm
      rw [compact_snoc]
      by_cases h : m.getLast? = some x
      · rw [if_pos h]
        refine ⟨h1, fun y hy => by simp [h2 y hy], ?_⟩
        rw [h3, h]; simp
      · rw [if_neg h]
        refine ⟨List.pairwise_append.2 ⟨h1, by simp, fun a ha b hb => ?_⟩, fun y hy => ?_, by simp⟩
        · simp only [List.mem_singleton] at hb
          subst hb
          have hle := hx a (h2 a ha) b (by simp)
          have hne : cmpPair a b ≠ 0 := fun e => by
            have := cp_eq a b e
            subst this
            -- a is the last of m as well
            rcases nil_or_snoc m with rfl | ⟨m', y, rfl⟩
            · rw [compact_nil] at ha; cases ha
            · have hya : y ≠ a := fun e => h (by simp [e])
              have ham := h2 a ha
              rcases List.mem_append.1 ham with ham | ham
              · have l1 := (List.pairwise_append.1 hm).2.2 a ham y (by simp)
                have l2 := hx y (by simp) a (by simp)
                have l3 := cp_neg a y
                exact hya (cp_eq a y (by omega)).symm
              · simp only [List.mem_singleton] at ham
                exact hya ham.symm
          omega
        · rcases List.mem_append.1 hy with hy | hy
          · simp [h2 y hy]
          · simp only [List.mem_singleton] at hy; simp [hy]
theorem compact_strict : ∀ (k : Nat) (l : List Pair), l.length = k → l.Pairwise (fun a b => cmpPair a b < 0) → Lib.compact l = l
  | 0, l, hk, _ => by
    have : l = [] := List.length_eq_zero_iff.1 hk
    subst this
    rfl
  | k + 1, l, hk, hl => by
    rcases nil_or_snoc l with rfl | ⟨m, x, rfl⟩
    · simp at hk
    · obtain ⟨hm, _, hx⟩ := List.pairwise_append.1 hl
      rw [compact_snoc, compact_strict k m (by simpa using hk) hm, if_neg]
      intro e
      have := hx x (List.mem_of_getLast? e) x (by simp)
      rw [cp_self] at this
      omega
theorem normRow_again (r : List Pair) : normRow (normRow r) = normRow r := by
  obtain ⟨h1, h2, _⟩ := compact_sorted _ (sortR (r.map normPair)) rfl (sortR_spec _).2
  have hmap : (normRow r).map normPair = normRow r := by
    rw [List.map_congr_left (g := id) ?_, List.map_id]
    intro q hq
    have := (sortR_spec (r.map normPair)).1.mem_iff.1 (h2 q hq)
    obtain ⟨p, _, rfl⟩ := List.mem_map.1 this
    exact normPair_again p
  have hs : (normRow r).Pairwise fun a b => cmpPair a b ≤ 0 := List.Pairwise.imp (fun h => Int.le_of_lt h) h1
  have e : normRow (normRow r) = Lib.compact (sortR ((normRow r).map normPair)) := rfl
  rw [e, hmap, sortR_sorted hs]
  exact compact_strict _ _ rfl h1
theorem nameR_print {l t : List UInt8} (h : nameR l = some t) : ∃ d : List (List Pair), printR (d.map normRow) = (some t, 0) := by
  unfold nameR at h
  split at h
  · cases h
  · rename_i d _
    refine ⟨d, ?_⟩
    generalize hp : printR (d.map normRow) = r at h
    obtain ⟨a, b⟩ := r
    simp only at h
    subst h
    unfold printR at hp
    split at hp
    · cases hp
    · split at hp
      · cases hp
      · split at hp
        · cases hp
        · injection hp with h1 h2
          rw [← h2]
/-- A name's normal form is a name, and its own normal form. -/
theorem nameR_again {l t : List UInt8} (h : nameR l = some t) : nameR t = some t ∧ (parseR t).2 = 0 := by
  obtain ⟨d, hd⟩ := nameR_print h
  obtain ⟨hp, _⟩ := print_parse hd
  have hm : (d.map normRow).map normRow = d.map normRow := by
    rw [List.map_map]
    apply List.map_congr_left
    intro r _
    exact normRow_again r
  refine ⟨?_, by rw [hp]⟩
  unfold nameR
  rw [hp]
  simp only
  rw [hm, hd]
theorem letter_small (b : UInt8) : isLetter ((smallB b).toNat : Int) = isLetter (b.toNat : Int) := by
  have : ∀ b : UInt8, (isLetter ((smallB b).toNat : Int) == isLetter (b.toNat : Int)) = true := all_bytes (by decide)
  simpa using this b
theorem inType_small (b : UInt8) : (inType ((smallB b).toNat : Int) && !decide (((smallB b).toNat : Int) = 46)) = (inType (b.toNat : Int) && !decide ((b.toNat : Int) = 46)) := by
  have : ∀ b : UInt8, ((inType ((smallB b).toNat : Int) && !decide (((smallB b).toNat : Int) = 46)) == (inType (b.toNat : Int) && !decide ((b.toNat : Int) = 46))) = true := all_bytes (by decide)
  simpa using this b
theorem small_digits {t : List UInt8} (h : ∀ b ∈ t, (48 ≤ b.toNat ∧ b.toNat ≤ 57) ∨ b = 46) : small t = t := by
  unfold small
  rw [List.map_congr_left (g := id) ?_, List.map_id]
  intro b hb
  rcases h b hb with h | rfl
  · unfold smallB; rw [if_neg (by omega)]; rfl
  · rfl
theorem isType_small {t : List UInt8} (h : isType t = true) : isType (small t) = true := by
  have h0 := h
  unfold isType at h
  simp only [Bool.and_eq_true, Bool.not_eq_true', List.isEmpty_eq_false_iff, decide_eq_true_eq] at h
  obtain ⟨⟨h1, h2⟩, h3⟩ := h
  cases t with
  | nil => exact absurd rfl h1
  | cons c t =>
    split at h3
    · rename_i hl
      have hl : isLetter (c.toNat : Int) = true := by simpa using hl
      have e : small (c :: t) = smallB c :: small t := rfl
      have hall : (small (c :: t)).all (fun b => inType b.toNat && !decide ((b.toNat : Int) = 46)) = true := by
        unfold small
        rw [List.all_map]
        refine List.all_eq_true.2 fun b hb => ?_
        have := List.all_eq_true.1 h3 b hb
        rw [Function.comp_apply, inType_small]
        exact this
      have hlen : (small (c :: t)).length ≤ 64 := by rw [small_length]; exact h2
      unfold isType
      rw [if_pos (by rw [e]; simp [letter_small, hl]), hall, decide_eq_true hlen]
      rfl
    · rw [small_digits (oid_chars h3)]
      exact h0
theorem ok_one {f : Form} {l : List UInt8} (h : ([f].any fun f => f.ok l) = true) : f.of l = true := by
  simp only [List.any_cons, List.any_nil, Bool.or_false, Form.ok, Bool.and_eq_true] at h
  exact h.2
theorem one_ok {f : Form} {l : List UInt8} (hl : l.length ≤ 1024) (h : f.of l = true) : ([f].any fun f => f.ok l) = true := by
  simp only [List.any_cons, List.any_nil, Bool.or_false, Form.ok, Bool.and_eq_true, decide_eq_true_eq]
  exact ⟨hl, h⟩
theorem texts_ok {t : List UInt8} (hl : t.length ≤ 1024) (h : (prepR false t).isSome = true) : ([Form.text, Form.ascii].any fun f => f.ok t) = true := by
  simp only [List.any_cons, List.any_nil, Bool.or_false, Form.ok, Form.of, decide_eq_true hl, Bool.true_and, h, Bool.and_true, Bool.or_eq_true]
  cases t with
  | nil => exact .inr rfl
  | cons _ _ => exact .inl rfl
/-- A normal form is its own normal form. -/
theorem normB_again {b : Base} {l t : List UInt8} (h : normB b l = some t) (ht : t.length ≤ 1024) : normB b t = some t := by
  unfold normB at h
  split at h
  · rename_i hc
    obtain ⟨hl, hf⟩ := hc
    unfold normB
    cases b
    · exact if_pos ⟨ht, one_ok ht rfl⟩
    · simp only [Base.norm] at h
      obtain ⟨h1, h2⟩ := prepR_again h
      rw [if_pos ⟨ht, texts_ok ht (by rw [h2]; rfl)⟩]
      exact h1
    · simp only [Base.norm] at h
      obtain ⟨h1, h2⟩ := prepR_again h
      rw [if_pos ⟨ht, texts_ok ht (by rw [h2]; rfl)⟩]
      exact h1
    · simp only [Base.norm, Option.some.injEq] at h
      subst h
      exact if_pos ⟨ht, hf⟩
    · simp only [Base.norm, Option.some.injEq] at h
      subst h
      exact if_pos ⟨ht, hf⟩
    · simp only [Base.norm] at h
      obtain ⟨h1, h2⟩ := nameR_again h
      rw [if_pos ⟨ht, one_ok ht (by simp [Form.of, h2])⟩]
      exact h1
    · simp only [Base.norm, Option.some.injEq] at h
      subst h
      have := ok_one hf
      rw [if_pos ⟨ht, one_ok ht (isType_small this)⟩]
      simp [Base.norm, small_again]
    · simp only [Base.norm, Option.some.injEq] at h
      subst h
      exact if_pos ⟨ht, hf⟩
  · cases h
end Sy
end Go.Proofs.YthoealembhkaoaaGreatDoor
