import Derived.Test.YthoealembhkaoaaGreatDoorFm20
import Derived.Test.YthoealembhkaoaaGreatDoorFm26
namespace Go.Proofs.YthoealembhkaoaaGreatDoor
open Go.RowKit
namespace Sy
set_option linter.unusedVariables false

/-- The characters of a value, as the reference reads them: any special byte, and the zero byte, ends it. -/
def rValL : Nat → List UInt8 → Nat → List UInt8 → Option (List UInt8 × List UInt8)
  | 0, b, k, l => some (b.take k, l)
  | _ + 1, b, k, [] => some (b.take k, [])
  | n + 1, b, k, c :: l =>
    if c = 92 then
      match escR l with
      | some (x, l') => rValL n (b ++ [x]) (b.length + 1) l'
      | none => none
    else if c = 0 ∨ special.data.toList.contains c = true then some (b.take k, c :: l)
    else rValL n (b ++ [c]) (if c = 32 then k else b.length + 1) l
def rValueR (l : List UInt8) : Option (List UInt8 × List UInt8) :=
  if isAt 35 l then (hexR (l.drop 1)).map fun x => (x.1, skip x.2) else rValL (l.length + 1) [] 0 l
def rPairR (l : List UInt8) : Option (Pair × List UInt8) :=
  match typR (skip l) with
  | none => none
  | some (t, l2) =>
    if isAt 61 (skip l2) then (rValueR (skip ((skip l2).drop 1))).map fun x => ((t, x.1), x.2) else none
def rDnL : Nat → List (List Pair) → List Pair → List UInt8 → Option (List (List Pair))
  | 0, _, _, _ => none
  | n + 1, out, part, l =>
    match rPairR l with
    | none => none
    | some (x, l') =>
      if isAt 43 l' then rDnL n out (part ++ [x]) (l'.drop 1)
      else if l' = [] then some (out ++ [part ++ [x]])
      else if isAt 44 l' then rDnL n (out ++ [part ++ [x]]) [] (l'.drop 1)
      else none
/-- A name, as the reference reads it. -/
def rDnR (l : List UInt8) : Option (List (List Pair)) := if l = [] then some [] else rDnL (l.length + 1) [] [] l

theorem stop_dec (l : List UInt8) : Stop l ∨ ¬ Stop l := Classical.em _
theorem not_stop {c : UInt8} {l : List UInt8} (h1 : c ≠ 44) (h2 : c ≠ 43) : ¬ Stop (c :: l) := by
  intro h
  rcases h.cases with h | ⟨m, h⟩ | ⟨m, h⟩
  · cases h
  · injection h with h _; exact h1 h
  · injection h with h _; exact h2 h
theorem val_rel : ∀ (n : Nat) (b : List UInt8) (k : Nat) (l : List UInt8), l.length < n →
    (rValL n b k l = none → valL n b k l = none) ∧ (∀ v l', rValL n b k l = some (v, l') → (Stop l' → valL n b k l = some (v, l')) ∧ (¬ Stop l' → valL n b k l = none))
  | 0, _, _, _, h => by omega
  | n + 1, b, k, [], _ => by
    refine ⟨(fun h => by cases h), fun v l' h => ?_⟩
    simp only [rValL] at h
    injection h with h; injection h with h1 h2
    subst h1 h2
    exact ⟨fun _ => rfl, fun h => absurd stop_nil h⟩
  | n + 1, b, k, c :: l, hn => by
    simp only [List.length_cons] at hn
    by_cases h92 : c = 92
    · subst h92
      have e1 : rValL (n + 1) b k (92 :: l) = match escR l with
          | some (x, l') => rValL n (b ++ [x]) (b.length + 1) l'
          | none => none := by simp only [rValL, if_true]
      have e2 : valL (n + 1) b k (92 :: l) = match escR l with
          | some (x, l') => valL n (b ++ [x]) (b.length + 1) l'
          | none => none := by
          have h9 : ¬ ((92 : UInt8) = 44 ∨ (92 : UInt8) = 43) := by decide
          simp only [valL, h9, if_false, if_true]
          cases escR l <;> rfl
      rw [e1, e2]
      cases he : escR l with
      | none => exact ⟨fun _ => rfl, fun _ _ h => by cases h⟩
      | some y =>
        obtain ⟨x, l2⟩ := y
        have := escR_shorter he
        exact val_rel n _ _ _ (by omega)
    · by_cases hs : c = 0 ∨ special.data.toList.contains c = true
      · have e1 : rValL (n + 1) b k (c :: l) = some (b.take k, c :: l) := by simp only [rValL, h92, if_false, hs, if_true]
        rw [e1]
        refine ⟨(fun h => by cases h), fun v l' h => ?_⟩
        injection h with h; injection h with h1 h2
        subst h1 h2
        by_cases h4 : c = 44 ∨ c = 43
        · have e2 : valL (n + 1) b k (c :: l) = some (b.take k, c :: l) := by simp only [valL, h4, if_true]
          refine ⟨fun _ => e2, fun hno => absurd ?_ hno⟩
          rcases h4 with rfl | rfl
          · exact stop_comma _
          · exact stop_plus _
        · have e2 : valL (n + 1) b k (c :: l) = none := by simp only [valL, h4, if_false, h92, hs, if_true]
          exact ⟨fun hst => absurd hst (not_stop (fun e => h4 (.inl e)) (fun e => h4 (.inr e))), fun _ => e2⟩
      · have h4 : ¬ (c = 44 ∨ c = 43) := by
          rintro (rfl | rfl)
          · exact hs (.inr rfl)
          · exact hs (.inr rfl)
        have e1 : rValL (n + 1) b k (c :: l) = rValL n (b ++ [c]) (if c = 32 then k else b.length + 1) l := by simp only [rValL, h92, if_false, hs]
        have e2 : valL (n + 1) b k (c :: l) = valL n (b ++ [c]) (if c = 32 then k else b.length + 1) l := by simp only [valL, h4, h92, if_false, hs]
        rw [e1, e2]
        exact val_rel n _ _ _ (by omega)
theorem value_rel (l : List UInt8) : (rValueR l = none → valueR l = none) ∧ (∀ v l', rValueR l = some (v, l') → (Stop l' → ∃ l1, valueR l = some (v, l1) ∧ skip l1 = l') ∧ (¬ Stop l' → valueR l = none ∨ ∃ l1, valueR l = some (v, l1) ∧ skip l1 = l')) := by
  unfold rValueR
  cases ha : isAt 35 l with
  | true =>
    rw [if_pos rfl, valueR_hash ha]
    cases hexR (l.drop 1) with
    | none => exact ⟨fun _ => rfl, fun _ _ h => by cases h⟩
    | some y =>
      obtain ⟨u, l1⟩ := y
      refine ⟨(fun h => by cases h), fun v l' h => ?_⟩
      simp only [Option.map_some] at h
      injection h with h; injection h with h1 h2
      subst h1 h2
      exact ⟨fun _ => ⟨l1, rfl, rfl⟩, fun _ => .inr ⟨l1, rfl, rfl⟩⟩
  | false =>
    rw [if_neg (by simp), valueR_plain ha]
    have := val_rel (l.length + 1) [] 0 l (by omega)
    refine ⟨this.1, fun v l' h => ?_⟩
    have h2 := this.2 v l' h
    exact ⟨fun hs => ⟨l', h2.1 hs, hs.skip⟩, fun hs => .inl (h2.2 hs)⟩
theorem pair_rel (l : List UInt8) : (rPairR l = none → pairR l = none) ∧ (∀ x l', rPairR l = some (x, l') → (Stop l' → pairR l = some (x, l')) ∧ (¬ Stop l' → pairR l = none ∨ pairR l = some (x, l'))) := by
  unfold rPairR pairR
  cases typR (skip l) with
  | none => exact ⟨fun _ => rfl, fun _ _ h => by cases h⟩
  | some y =>
    obtain ⟨t, l2⟩ := y
    simp only
    cases isAt 61 (skip l2) with
    | false => exact ⟨fun _ => rfl, fun _ _ h => by cases h⟩
    | true =>
      simp only [if_true]
      have hv := value_rel (skip ((skip l2).drop 1))
      generalize rValueR (skip ((skip l2).drop 1)) = q at *
      cases q with
      | none =>
        refine ⟨fun _ => ?_, fun _ _ h => by cases h⟩
        rw [hv.1 rfl]
      | some y =>
        obtain ⟨v, l3⟩ := y
        refine ⟨(fun h => by cases h), fun x l' h => ?_⟩
        simp only [Option.map_some] at h
        injection h with h; injection h with h1 h2
        subst h1 h2
        have hw := hv.2 v l3 rfl
        refine ⟨fun hs => ?_, fun hs => ?_⟩
        · obtain ⟨l1, h1, h2⟩ := hw.1 hs
          rw [h1, ← h2]
        · rcases hw.2 hs with h1 | ⟨l1, h1, h2⟩
          · rw [h1]; exact .inl rfl
          · rw [h1, ← h2]; exact .inr rfl
theorem partL_fuel : ∀ (n m : Nat) (acc : List Pair) (l : List UInt8), l.length < n → l.length < m → partL n acc l = partL m acc l
  | 0, _, _, _, h, _ => by omega
  | _ + 1, 0, _, _, _, h => by omega
  | n + 1, m + 1, acc, l, h1, h2 => by
    simp only [partL]
    cases hp : isAt 43 l with
    | false => rfl
    | true =>
      simp only [if_true]
      cases hq : pairR (l.drop 1) with
      | none => rfl
      | some y =>
        obtain ⟨p, l'⟩ := y
        have h3 := pairR_le hq
        have h4 := isAt_pos hp
        simp only [List.length_drop] at h3
        exact partL_fuel n m _ _ (by omega) (by omega)
theorem dnL_fuel : ∀ (n m : Nat) (acc : List (List Pair)) (l : List UInt8), l.length < n → l.length < m → dnL n acc l = dnL m acc l
  | 0, _, _, _, h, _ => by omega
  | _ + 1, 0, _, _, _, h => by omega
  | n + 1, m + 1, acc, l, h1, h2 => by
    simp only [dnL]
    cases hp : isAt 44 l with
    | false => rfl
    | true =>
      simp only [if_true]
      cases hq : partR (l.drop 1) with
      | none => rfl
      | some y =>
        obtain ⟨p, l'⟩ := y
        have h3 := (partR_le hq).1
        have h4 := isAt_pos hp
        simp only [List.length_drop] at h3
        exact dnL_fuel n m _ _ (by omega) (by omega)
/-- What the program's reader makes of the rest of a name. -/
def goOn (out : List (List Pair)) (part : List Pair) (q : Option (Pair × List UInt8)) : Option (List (List Pair)) :=
  match q with
  | none => none
  | some (x, l') => match partL (l'.length + 1) (part ++ [x]) l' with
    | none => none
    | some (p, l2) => dnL (l2.length + 1) (out ++ [p]) l2
theorem partL_stay {n : Nat} {acc : List Pair} {l : List UInt8} (h : isAt 43 l = false) : partL (n + 1) acc l = some (acc, l) := by simp [partL, h]
theorem rDn_rel : ∀ (n : Nat) (out : List (List Pair)) (part : List Pair) (l : List UInt8), l.length < n → rDnL n out part l = goOn out part (pairR l)
  | 0, _, _, _, h => by omega
  | n + 1, out, part, l, hn => by
    have hr := pair_rel l
    have hle := @pairR_le l
    unfold rDnL
    cases hq : rPairR l with
    | none => rw [hr.1 hq]; rfl
    | some y =>
      obtain ⟨x, l'⟩ := y
      have hx := hr.2 x l' hq
      simp only
      cases h43 : isAt 43 l' with
      | true =>
        have hp := hx.1 (.inr (.inr h43))
        have hl := hle hp
        have hpos := isAt_pos h43
        simp only [if_true]
        rw [hp, rDn_rel n _ _ _ (by simp; omega)]
        show _ = match partL (l'.length + 1) (part ++ [x]) l' with
          | none => none
          | some (p, l2) => dnL (l2.length + 1) (out ++ [p]) l2
        conv => rhs; simp only [partL, h43, if_true]
        cases hq2 : pairR (l'.drop 1) with
        | none => rfl
        | some y =>
          obtain ⟨x2, l2⟩ := y
          have hl2 := pairR_le hq2
          simp only [List.length_drop] at hl2
          simp only [goOn]
          rw [partL_fuel (l2.length + 1) l'.length _ _ (by omega) (by omega)]
      | false =>
        simp only [Bool.false_eq_true, if_false]
        by_cases hnil : l' = []
        · subst hnil
          rw [hx.1 stop_nil]
          rfl
        · simp only [hnil, if_false]
          cases h44 : isAt 44 l' with
          | true =>
            have hp := hx.1 (.inr (.inl h44))
            have hl := hle hp
            have hpos := isAt_pos h44
            simp only [if_true]
            rw [hp, rDn_rel n _ _ _ (by simp; omega)]
            show _ = match partL (l'.length + 1) (part ++ [x]) l' with
              | none => none
              | some (p, l2) => dnL (l2.length + 1) (out ++ [p]) l2
            rw [partL_stay h43]
            simp only
            conv => rhs; simp only [dnL, h44, if_true]
            unfold partR
            cases hq2 : pairR (l'.drop 1) with
            | none => rfl
            | some y =>
              obtain ⟨x2, l2⟩ := y
              have hl2 := pairR_le hq2
              simp only [List.length_drop] at hl2
              simp only [goOn, List.nil_append]
              cases hq3 : partL (l2.length + 1) [x2] l2 with
              | none => rfl
              | some y =>
                obtain ⟨p, l3⟩ := y
                have hl3 := (partL_le _ _ _ _ _ hq3).1
                exact dnL_fuel _ _ _ _ (by omega) (by omega)
          | false =>
            have hno : ¬ Stop l' := by
              rintro (h | h | h)
              · exact hnil h
              · rw [h44] at h; cases h
              · rw [h43] at h; cases h
            simp only [Bool.false_eq_true, if_false]
            rcases hx.2 hno with h | h
            · rw [h]; rfl
            · rw [h]
              simp only [goOn, partL_stay h43, dnL, h44, Bool.false_eq_true, if_false, hnil]
theorem rDn_eq (l : List UInt8) : rDnR l = dnR l := by
  unfold rDnR dnR
  split
  · rfl
  · rw [rDn_rel _ _ _ _ (by omega)]
    unfold partR goOn
    cases pairR l with
    | none => rfl
    | some y =>
      obtain ⟨x, l'⟩ := y
      simp only [List.nil_append]
      cases partL (l'.length + 1) [x] l' <;> rfl
end Sy
end Go.Proofs.YthoealembhkaoaaGreatDoor
