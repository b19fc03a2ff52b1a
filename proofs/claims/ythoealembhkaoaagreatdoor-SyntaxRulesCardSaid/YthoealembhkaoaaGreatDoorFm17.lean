import Derived.Test.YthoealembhkaoaaGreatDoorFm16
import Derived.Lib.TrimUEq
import Derived.Test.YthoealembhkaoaaGreatDoorFm06
namespace Go.Proofs.YthoealembhkaoaaGreatDoor
open Go.RowKit
namespace Sy
set_option linter.unusedVariables false

theorem runeB_eq {r : Int} (h : Lib.validRune r = true) : runeB r =
    if r.toNat < 128 then [UInt8.ofNat r.toNat]
    else if r.toNat < 2048 then [UInt8.ofNat (192 + r.toNat / 64), UInt8.ofNat (128 + r.toNat % 64)]
    else if r.toNat < 65536 then [UInt8.ofNat (224 + r.toNat / 4096), UInt8.ofNat (128 + r.toNat / 64 % 64), UInt8.ofNat (128 + r.toNat % 64)]
    else [UInt8.ofNat (240 + r.toNat / 262144), UInt8.ofNat (128 + r.toNat / 4096 % 64), UInt8.ofNat (128 + r.toNat / 64 % 64), UInt8.ofNat (128 + r.toNat % 64)] := by
  have hv : Utf8.valid r = true := by
    simp only [Lib.validRune, decide_eq_true_eq] at h
    simp [Utf8.valid]
    omega
  unfold runeB Utf8.encode
  simp only [hv, if_true]
  (repeat' split) <;> rfl
theorem toNat_of {n : Nat} (h : n < 256) : (UInt8.ofNat n).toNat = n := by rw [UInt8.toNat_ofNat']; omega
theorem decode_rune {r : Int} (h : Lib.validRune r = true) (l : List UInt8) : Lib.decodeL (runeB r ++ l) = (r.toNat, (runeB r).length) := by
  have hr : r.toNat < 55296 ∨ (57343 < r.toNat ∧ r.toNat ≤ 1114111) := by
    simp only [Lib.validRune, decide_eq_true_eq] at h
    omega
  rw [runeB_eq h]
  generalize r.toNat = n at *
  clear h
  rw [Lib.decodeL_N]
  by_cases h1 : n < 128
  · simp only [if_pos h1]
    have e0 : (([UInt8.ofNat n] ++ l).getD 0 0).toNat = n := toNat_of (by omega)
    rw [e0, Lib.decodeN, if_pos h1]; rfl
  by_cases h2 : n < 2048
  · simp only [if_neg h1, if_pos h2]
    have e0 : (([UInt8.ofNat (192 + n / 64), UInt8.ofNat (128 + n % 64)] ++ l).getD 0 0).toNat = 192 + n / 64 := toNat_of (by omega)
    have e1 : (([UInt8.ofNat (192 + n / 64), UInt8.ofNat (128 + n % 64)] ++ l).getD 1 0).toNat = 128 + n % 64 := toNat_of (by omega)
    have el : 1 < ([UInt8.ofNat (192 + n / 64), UInt8.ofNat (128 + n % 64)] ++ l).length := by simp
    have ev : (192 + n / 64) % 32 * 64 + (128 + n % 64) % 64 = n := by omega
    rw [e0, e1, Lib.decodeN, if_neg (by omega), if_pos ⟨by omega, el, by omega⟩, ev, if_pos (by omega)]
    rfl
  by_cases h3 : n < 65536
  · simp only [if_neg h1, if_neg h2, if_pos h3]
    have e0 : (([UInt8.ofNat (224 + n / 4096), UInt8.ofNat (128 + n / 64 % 64), UInt8.ofNat (128 + n % 64)] ++ l).getD 0 0).toNat = 224 + n / 4096 := toNat_of (by omega)
    have e1 : (([UInt8.ofNat (224 + n / 4096), UInt8.ofNat (128 + n / 64 % 64), UInt8.ofNat (128 + n % 64)] ++ l).getD 1 0).toNat = 128 + n / 64 % 64 := toNat_of (by omega)
    have e2 : (([UInt8.ofNat (224 + n / 4096), UInt8.ofNat (128 + n / 64 % 64), UInt8.ofNat (128 + n % 64)] ++ l).getD 2 0).toNat = 128 + n % 64 := toNat_of (by omega)
    have el : 2 < ([UInt8.ofNat (224 + n / 4096), UInt8.ofNat (128 + n / 64 % 64), UInt8.ofNat (128 + n % 64)] ++ l).length := by simp
    have ev : (224 + n / 4096) % 16 * 4096 + (128 + n / 64 % 64) % 64 * 64 + (128 + n % 64) % 64 = n := by omega
    rw [e0, e1, e2, Lib.decodeN, if_neg (by omega), if_neg (by omega), if_pos ⟨by omega, ⟨by omega, by omega⟩, el, by omega⟩, ev, if_pos (by omega)]
    rfl
  · simp only [if_neg h1, if_neg h2, if_neg h3]
    have e0 : (([UInt8.ofNat (240 + n / 262144), UInt8.ofNat (128 + n / 4096 % 64), UInt8.ofNat (128 + n / 64 % 64), UInt8.ofNat (128 + n % 64)] ++ l).getD 0 0).toNat = 240 + n / 262144 := toNat_of (by omega)
    have e1 : (([UInt8.ofNat (240 + n / 262144), UInt8.ofNat (128 + n / 4096 % 64), UInt8.ofNat (128 + n / 64 % 64), UInt8.ofNat (128 + n % 64)] ++ l).getD 1 0).toNat = 128 + n / 4096 % 64 := toNat_of (by omega)
    have e2 : (([UInt8.ofNat (240 + n / 262144), UInt8.ofNat (128 + n / 4096 % 64), UInt8.ofNat (128 + n / 64 % 64), UInt8.ofNat (128 + n % 64)] ++ l).getD 2 0).toNat = 128 + n / 64 % 64 := toNat_of (by omega)
    have e3 : (([UInt8.ofNat (240 + n / 262144), UInt8.ofNat (128 + n / 4096 % 64), UInt8.ofNat (128 + n / 64 % 64), UInt8.ofNat (128 + n % 64)] ++ l).getD 3 0).toNat = 128 + n % 64 := toNat_of (by omega)
    have el : 3 < ([UInt8.ofNat (240 + n / 262144), UInt8.ofNat (128 + n / 4096 % 64), UInt8.ofNat (128 + n / 64 % 64), UInt8.ofNat (128 + n % 64)] ++ l).length := by simp
    have ev : (240 + n / 262144) % 8 * 262144 + (128 + n / 4096 % 64) % 64 * 4096 + (128 + n / 64 % 64) % 64 * 64 + (128 + n % 64) % 64 = n := by omega
    rw [e0, e1, e2, e3, Lib.decodeN, if_neg (by omega), if_neg (by omega), if_neg (by omega), if_pos ⟨by omega, ⟨by omega, by omega⟩, ⟨by omega, by omega⟩, el, by omega⟩, ev, if_pos (by omega)]
    rfl
/-- The bytes of characters. -/
def enc (rs : List Int) : List UInt8 := rs.flatMap runeB
theorem runeB_ne {r : Int} (h : Lib.validRune r = true) : runeB r ≠ [] := by
  rw [runeB_eq h]
  (repeat' split) <;> simp
theorem drop_rune (r : Int) (l : List UInt8) : (runeB r ++ l).drop (runeB r).length = l := by simp
theorem valid_enc : ∀ rs : List Int, (∀ r ∈ rs, Lib.validRune r = true ∧ r ≠ 65533) → Lib.validD (enc rs) = true
  | [], _ => rfl
  | r :: rs, h => by
    have hr := h r (.head _)
    have hne : enc (r :: rs) ≠ [] := by simp [enc, runeB_ne hr.1]
    rw [Lib.validD_step _ hne]
    have e : enc (r :: rs) = runeB r ++ enc rs := by simp [enc]
    rw [e, decode_rune hr.1, drop_rune]
    have h0 : (0 : Int) ≤ r := by
      have := hr.1
      simp only [Lib.validRune, decide_eq_true_eq] at this
      omega
    rw [if_neg (by simp only; omega)]
    exact valid_enc rs (fun r hr => h r (.tail _ hr))
/-- A character that stays as it is. -/
def Stays (fold : Bool) (r : Int) : Prop := Lib.validRune r = true ∧ mapR r = (r, true, false) ∧ laidR fold r = r
def NoDbl : List Int → Prop
  | a :: b :: l => ¬ (a = 32 ∧ b = 32) ∧ NoDbl (b :: l)
  | _ => True
theorem NoDbl.tail {a : Int} {l : List Int} (h : NoDbl (a :: l)) : NoDbl l := by
  cases l with
  | nil => trivial
  | cons b l => exact h.2
theorem NoDbl.left : ∀ {l m : List Int}, NoDbl (l ++ m) → NoDbl l
  | [], _, _ => trivial
  | [_], _, _ => trivial
  | a :: b :: l, m, h => ⟨h.1, NoDbl.left (l := b :: l) h.2⟩
theorem NoDbl.right : ∀ {l m : List Int}, NoDbl (l ++ m) → NoDbl m
  | [], _, h => h
  | a :: l, m, h => NoDbl.right (l := l) h.tail
theorem NoDbl.snoc : ∀ {l : List Int} {x : Int}, NoDbl l → (x = 32 → l.getLast? ≠ some 32) → NoDbl (l ++ [x])
  | [], _, _, _ => trivial
  | [a], x, _, h => ⟨fun e => h e.2 (by simp [e.1]), trivial⟩
  | a :: b :: l, x, hl, h => ⟨hl.1, NoDbl.snoc (l := b :: l) hl.2 (by simpa using h)⟩
theorem NoDbl.join : ∀ {l m : List Int} {x : Int}, NoDbl (l ++ x :: m) → x = 32 → l.getLast? ≠ some 32
  | [], _, _, _, _ => by simp
  | [a], m, x, h, hx => by
    simp only [List.getLast?_singleton, ne_eq, Option.some.injEq]
    exact fun e => h.1 ⟨e, hx⟩
  | a :: b :: l, m, x, h, hx => by
    have := NoDbl.join (l := b :: l) (m := m) h.2 hx
    simpa using this
theorem enc_append (a b : List Int) : enc (a ++ b) = enc a ++ enc b := by simp [enc]
theorem enc_cons (a : Int) (b : List Int) : enc (a :: b) = runeB a ++ enc b := by simp [enc]
theorem rune_32 : runeB 32 = [32] := by decide
theorem rune_ends {r : Int} (h : Lib.validRune r = true) (h32 : r ≠ 32) : (∃ a l, runeB r = a :: l ∧ a ≠ 32) ∧ ∃ l a, runeB r = l ++ [a] ∧ a ≠ 32 := by
  have hr : r.toNat ≠ 32 ∧ r.toNat ≤ 1114111 := by
    simp only [Lib.validRune, decide_eq_true_eq] at h
    omega
  have ne : ∀ n : Nat, n < 256 → n ≠ 32 → UInt8.ofNat n ≠ 32 := fun n h1 h2 e => h2 (by
    have := congrArg UInt8.toNat e
    rw [toNat_of h1] at this
    exact this)
  rw [runeB_eq h]
  generalize r.toNat = n at *
  split
  · exact ⟨⟨_, _, rfl, ne _ (by omega) (by omega)⟩, [], _, rfl, ne _ (by omega) (by omega)⟩
  · split
    · exact ⟨⟨_, _, rfl, ne _ (by omega) (by omega)⟩, [_], _, rfl, ne _ (by omega) (by omega)⟩
    · split
      · exact ⟨⟨_, _, rfl, ne _ (by omega) (by omega)⟩, [_, _], _, rfl, ne _ (by omega) (by omega)⟩
      · exact ⟨⟨_, _, rfl, ne _ (by omega) (by omega)⟩, [_, _, _], _, rfl, ne _ (by omega) (by omega)⟩
theorem enc_last {rs : List Int} (h : ∀ r ∈ rs, Lib.validRune r = true) : (enc rs).getLast? = some 32 ↔ rs.getLast? = some 32 := by
  rcases nil_or_snoc rs with rfl | ⟨l, x, rfl⟩
  · simp [enc]
  · rw [enc_append]
    by_cases hx : x = 32
    · subst hx; simp [enc, rune_32]
    · obtain ⟨_, m, a, hm, ha⟩ := rune_ends (h x (by simp)) hx
      have e : enc [x] = m ++ [a] := by simp [enc, hm]
      rw [e, ← List.append_assoc]
      simp [ha, hx]
theorem foldR_eq32 {r : Int} (h : foldR r = 32) : r = 32 := by
  unfold foldR at h
  (repeat' split at h) <;> omega
theorem foldR_idem (r : Int) : foldR (foldR r) = foldR r := by
  unfold foldR
  (repeat' split) <;> omega
theorem stays_fold {r : Int} (h : mapR r = (r, true, false)) : mapR (foldR r) = (foldR r, true, false) := by
  have h1 : isBlank r = false ∨ r = 32 := by
    unfold mapR at h
    split at h
    · injection h with h; exact .inr h.symm
    · rename_i hb; exact .inl (by simpa using hb)
  rcases h1 with h1 | rfl
  · unfold mapR at h
    rw [h1] at h
    simp only [Bool.false_eq_true, if_false] at h
    split at h
    · injection h with _ h; injection h with h _; cases h
    · rename_i h2
      split at h
      · injection h with _ h; injection h with h _; cases h
      · rename_i h3
        simp only [isBlank, goes, refused, decide_eq_false_iff_not, decide_eq_true_eq] at h1 h2 h3
        have hb : isBlank (foldR r) = false := by
          simp only [isBlank, decide_eq_false_iff_not]
          unfold foldR
          (repeat' split) <;> omega
        have hg : goes (foldR r) = false := by
          simp only [goes, decide_eq_false_iff_not]
          unfold foldR
          (repeat' split) <;> omega
        have hf : refused (foldR r) = false := by
          simp only [refused, decide_eq_false_iff_not]
          unfold foldR
          (repeat' split) <;> omega
        simp [mapR, hb, hg, hf]
  · decide
theorem mapR_again {r : Int} (h0 : 0 ≤ r) (h : (mapR r).2.2 = false) (h1 : (mapR r).2.1 = true) : mapR (mapR r).1 = ((mapR r).1, true, false) := by
  by_cases hb : isBlank r = true
  · have : mapR r = (32, true, false) := by simp [mapR, hb]
    rw [this]; decide
  · by_cases hg : goes r = true
    · simp [mapR, hb, hg] at h1
    · by_cases hf : refused r = true
      · simp [mapR, hb, hg, hf] at h
      · have : mapR r = (r, true, false) := by simp [mapR, hb, hg, hf]
        rw [this]; exact this
theorem laid_stays {fold : Bool} {r : Int} (h0 : 0 ≤ r) (h : (mapR r).2.2 = false) (h1 : (mapR r).2.1 = true) : Stays fold (laidR fold (mapR r).1) ∧ (laidR fold (mapR r).1 = 32 → (mapR r).1 = 32) := by
  have hv := (mapR_stays h h0 h1).1
  have hm := mapR_again h0 h h1
  cases fold with
  | false => exact ⟨⟨hv, hm, rfl⟩, id⟩
  | true => exact ⟨⟨foldR_valid hv, stays_fold hm, foldR_idem _⟩, foldR_eq32⟩
theorem Stays.plain {fold : Bool} {r : Int} (h : Stays fold r) : Stays false r := ⟨h.1, h.2.1, rfl⟩
theorem Stays.not_bad {fold : Bool} {r : Int} (h : Stays fold r) : r ≠ 65533 := by
  intro e
  subst e
  exact absurd h.2.1 (by decide)
/-- What a text comes to is characters that stay. -/
theorem mapGo_stays (fold : Bool) : ∀ (n : Nat) (rs : List Int) (l t : List UInt8), (∀ r ∈ rs, Stays fold r) → NoDbl rs → mapGo fold n (enc rs) l = some t → ∃ rs', t = enc rs' ∧ (∀ r ∈ rs', Stays fold r) ∧ NoDbl rs'
  | 0, rs, l, t, h1, h2, h => by
    simp only [mapGo] at h
    injection h with h
    exact ⟨rs, h.symm, h1, h2⟩
  | n + 1, rs, l, t, h1, h2, h => by
    simp only [mapGo] at h
    split at h
    · injection h with h
      exact ⟨rs, h.symm, h1, h2⟩
    · split at h
      · cases h
      · rename_i h3
        split at h
        · exact mapGo_stays fold n rs _ t h1 h2 h
        · rename_i h4
          simp only [not_or, Bool.not_eq_false, not_and] at h4
          obtain ⟨s1, s2⟩ := laid_stays (fold := fold) (Int.natCast_nonneg (Lib.decodeL l).1) (by simpa using h3) h4.1
          generalize laidR fold (mapR ((Lib.decodeL l).1 : Int)).1 = x at *
          have e : enc rs ++ runeB x = enc (rs ++ [x]) := by simp [enc]
          rw [e] at h
          refine mapGo_stays fold n (rs ++ [x]) _ t ?_ ?_ h
          · intro r hr
            rcases List.mem_append.1 hr with hr | hr
            · exact h1 r hr
            · simp only [List.mem_singleton] at hr; subst hr; exact s1
          · refine h2.snoc (fun hx hl => ?_)
            exact h4.2 (s2 hx) ((enc_last fun r hr => (h1 r hr).1).2 hl)
theorem mapped_stays {fold : Bool} {l t : List UInt8} (h : mapped fold l = some t) : ∃ rs, t = enc rs ∧ (∀ r ∈ rs, Stays fold r) ∧ NoDbl rs := by
  unfold mapped at h
  split at h
  · exact mapGo_stays fold _ [] l t (by simp) trivial h
  · cases h
/-- Characters that stay, stay. -/
theorem mapGo_same (fold : Bool) : ∀ (rs pre : List Int) (n : Nat), (∀ r ∈ pre ++ rs, Stays fold r) → NoDbl (pre ++ rs) → (enc rs).length ≤ n → mapGo fold n (enc pre) (enc rs) = some (enc (pre ++ rs))
  | [], pre, n, _, _, _ => by
    cases n <;> simp [mapGo, enc]
  | r :: rs, pre, n, h1, h2, hn => by
    have hr := h1 r (by simp)
    have hne := runeB_ne hr.1
    have e : enc (r :: rs) = runeB r ++ enc rs := enc_cons r rs
    obtain ⟨n', rfl⟩ : ∃ n', n = n' + 1 := ⟨n - 1, by
      rw [e] at hn
      have : 0 < (runeB r).length := List.length_pos_iff.2 hne
      simp at hn; omega⟩
    have h0 : ((r.toNat : Nat) : Int) = r := by
      have := hr.1
      simp only [Lib.validRune, decide_eq_true_eq] at this
      omega
    have hnil : ¬ enc (r :: rs) = [] := by rw [e]; simp [hne]
    simp only [mapGo, if_neg hnil]
    rw [e, decode_rune hr.1, drop_rune, h0, hr.2.1]
    simp only [Bool.false_eq_true, if_false, Bool.true_eq_false, false_or]
    rw [if_neg (fun hh => by
      have := NoDbl.join h2 hh.1
      exact this ((enc_last fun r hr => (h1 r (by simp [hr])).1).1 hh.2)), hr.2.2]
    have e2 : enc pre ++ runeB r = enc (pre ++ [r]) := by simp [enc]
    rw [e2]
    have hlen : (enc rs).length ≤ n' := by
      rw [e] at hn
      have : 0 < (runeB r).length := List.length_pos_iff.2 hne
      simp at hn; omega
    have := mapGo_same fold rs (pre ++ [r]) n' (by simpa using h1) (by simpa using h2) hlen
    rw [this]
    simp
theorem mapped_same {fold : Bool} {rs : List Int} (h1 : ∀ r ∈ rs, Stays fold r) (h2 : NoDbl rs) : mapped fold (enc rs) = some (enc rs) := by
  unfold mapped
  rw [if_pos (valid_enc rs fun r hr => ⟨(h1 r hr).1, (h1 r hr).not_bad⟩)]
  exact mapGo_same fold rs [] _ (by simpa using h1) (by simpa using h2) (Nat.le_refl _)
theorem trimL_enc : ∀ rs : List Int, (∀ r ∈ rs, Lib.validRune r = true) → ∃ a b, rs = a ++ b ∧ Lib.trimLeftB (enc rs) 32 = enc b ∧ b.head? ≠ some 32
  | [], _ => ⟨[], [], rfl, rfl, by simp⟩
  | r :: rs, h => by
    by_cases h32 : r = 32
    · subst h32
      obtain ⟨a, b, h1, h2, h3⟩ := trimL_enc rs (fun r hr => h r (.tail _ hr))
      refine ⟨32 :: a, b, by rw [h1]; rfl, ?_, h3⟩
      rw [enc_cons, rune_32]
      exact h2
    · refine ⟨[], r :: rs, rfl, ?_, by simpa using h32⟩
      obtain ⟨⟨x, l, hx, hx32⟩, _⟩ := rune_ends (h r (.head _)) h32
      rw [enc_cons, hx]
      simp [Lib.trimLeftB, hx32]
theorem trimR_snoc (l : List UInt8) : Lib.trimRightB (l ++ [32]) 32 = Lib.trimRightB l 32 := by simp [Lib.trimRightB]
theorem trimR_stop (l : List UInt8) {x : UInt8} (h : x ≠ 32) : Lib.trimRightB (l ++ [x]) 32 = l ++ [x] := by simp [Lib.trimRightB, h]
theorem trimR_enc : ∀ (k : Nat) (rs : List Int), rs.length = k → (∀ r ∈ rs, Lib.validRune r = true) → ∃ a b, rs = a ++ b ∧ Lib.trimRightB (enc rs) 32 = enc a ∧ a.getLast? ≠ some 32
  | 0, rs, hk, _ => by
    have : rs = [] := List.length_eq_zero_iff.1 hk
    subst this
    exact ⟨[], [], rfl, rfl, by simp⟩
  | k + 1, rs, hk, h => by
    rcases nil_or_snoc rs with rfl | ⟨l, r, rfl⟩
    · simp at hk
    · by_cases h32 : r = 32
      · subst h32
        obtain ⟨a, b, h1, h2, h3⟩ := trimR_enc k l (by simpa using hk) (fun r hr => h r (by simp [hr]))
        refine ⟨a, b ++ [32], by rw [h1]; simp, ?_, h3⟩
        rw [enc_append, show enc [32] = [32] by simp [enc, rune_32], trimR_snoc]
        exact h2
      · refine ⟨l ++ [r], [], by simp, ?_, by simpa using h32⟩
        obtain ⟨_, m, x, hx, hx32⟩ := rune_ends (h r (by simp)) h32
        rw [enc_append, show enc [r] = m ++ [x] by simp [enc, hx], ← List.append_assoc, trimR_stop _ hx32]
/-- A text without blanks at its ends stays. -/
theorem trim_enc (rs : List Int) (h : ∀ r ∈ rs, Lib.validRune r = true) : ∃ a b c, rs = a ++ b ++ c ∧ Lib.trimB (enc rs) 32 = enc b ∧ Lib.trimB (enc b) 32 = enc b := by
  obtain ⟨ab, c, h1, h2, h3⟩ := trimR_enc _ rs rfl h
  obtain ⟨a, b, h4, h5, h6⟩ := trimL_enc ab (fun r hr => h r (by rw [h1]; simp [hr]))
  have hb : b.getLast? ≠ some 32 := by
    intro e
    apply h3
    rw [h4, List.getLast?_append, e]
    rfl
  refine ⟨a, b, c, by rw [h1, h4], by unfold Lib.trimB; rw [h2, h5], ?_⟩
  have hv : ∀ r ∈ b, Lib.validRune r = true := fun r hr => h r (by rw [h1, h4]; simp [hr])
  unfold Lib.trimB
  have e1 : Lib.trimRightB (enc b) 32 = enc b := by
    rcases nil_or_snoc b with rfl | ⟨l, r, rfl⟩
    · rfl
    · have h32 : r ≠ 32 := by simpa using hb
      obtain ⟨_, m, x, hx, hx32⟩ := rune_ends (hv r (by simp)) h32
      rw [enc_append, show enc [r] = m ++ [x] by simp [enc, hx], ← List.append_assoc, trimR_stop _ hx32]
  rw [e1]
  cases b with
  | nil => rfl
  | cons r b =>
    have h32 : r ≠ 32 := by simpa using h6
    obtain ⟨⟨x, l, hx, hx32⟩, _⟩ := rune_ends (hv r (.head _)) h32
    rw [enc_cons, hx]
    simp [Lib.trimLeftB, hx32]
/-- A prepared text is prepared. -/
theorem prepR_again {fold : Bool} {l t : List UInt8} (h : prepR fold l = some t) : prepR fold t = some t ∧ prepR false t = some t := by
  unfold prepR at h
  cases hm : mapped fold l with
  | none => rw [hm] at h; cases h
  | some u =>
    rw [hm] at h
    simp only at h
    obtain ⟨rs, rfl, h1, h2⟩ := mapped_stays hm
    split at h
    · injection h with h
      subst h
      cases fold <;> exact ⟨by decide, by decide⟩
    · rename_i hc
      injection h with h
      subst h
      obtain ⟨a, b, c, e1, e2, e3⟩ := trim_enc rs (fun r hr => (h1 r hr).1)
      rw [e2]
      rw [e2] at hc
      have hb : ∀ r ∈ b, Stays fold r := fun r hr => h1 r (by rw [e1]; simp [hr])
      have hb2 : NoDbl b := by
        rw [e1] at h2
        exact h2.left.right
      have key : ∀ f : Bool, (∀ r ∈ b, Stays f r) → prepR f (enc b) = some (enc b) := fun f hf => by
        unfold prepR
        rw [mapped_same hf hb2]
        simp only [e3]
        rw [if_neg (fun hh => by exact hh.2 hh.1)]
      exact ⟨key fold hb, key false fun r hr => (hb r hr).plain⟩
end Sy
end Go.Proofs.YthoealembhkaoaaGreatDoor
namespace Go.Proofs.YthoealembhkaoaaGreatDoor
open Go.RowKit
namespace Sy
set_option linter.unusedVariables false
set_option maxRecDepth 100000

theorem conv_bytes (w : World) (l : List UInt8) (c : Nat) :
    (convert 88 9 (.slice (some ⟨w.heap.size, 0, none⟩) l.length c)).run Tryz.prog (w.alloc (.cells (l.map fun b => Value.int .u8 (b.toNat : Int)).toArray 5)) = .ok (.string ⟨l.toArray⟩) (w.alloc (.cells (l.map fun b => Value.int .u8 (b.toNat : Int)).toArray 5)) :=
  run_convert_bytes_back (P := Tryz.prog) _ 88 9 5 ⟨w.heap.size, 0, none⟩ c l Tryz.underlying88 Tryz.underlying5 Tryz.underlying9 (fun j hj => by
    have e : (⟨w.heap.size, 0, none⟩ : Addr).add j = ⟨w.heap.size, j, none⟩ := by cases j <;> simp [Addr.add]
    rw [e]
    have h : (w.alloc (.cells (l.map fun b => Value.int .u8 (b.toNat : Int)).toArray 5)).heap[w.heap.size]? = some (.cells (l.map fun b => Value.int .u8 (b.toNat : Int)).toArray 5) := heap_alloc_new w _
    unfold World.cell?
    rw [h]
    simp [hj])
set_option maxHeartbeats 4000000 in
theorem rPutRune_calls (r : Int) (w : World) (hv : Lib.validRune r = true) :
    Calls Tryz.prog 124 #[.int .i32 r] w fun e w' => e = .returned (.tuple #[strV (runeB r), .int .i64 0]) ∧ Below w.heap.size w w' := by
  have he := runeB_eq hv
  simp only [Lib.validRune, decide_eq_true_eq] at hv
  obtain ⟨n, rfl⟩ : ∃ n : Nat, r = (n : Int) := ⟨r.toNat, by omega⟩
  simp only [Int.toNat_natCast] at he
  rw [he]
  have hv2 : n < 55296 ∨ (57343 < n ∧ n ≤ 1114111) := by omega
  have hmax : (n : Int) ≤ 1114111 := by omega
  have hcb := conv_bytes w
  clear hv he
  have fin : ∀ o : Obj, Below w.heap.size w (w.alloc o) := alc_below w
  by_cases h1 : n < 128
  · simp only [if_pos h1]
    have h1' : (n : Int) < 128 := by omega
    have hc := hcb [UInt8.ofNat n] 1
    simp only [List.map_cons, List.map_nil, List.length_cons, List.length_nil, toNat_of (by omega : n < 256), Nat.zero_add] at hc
    clear hcb h1 hv2
    go_enter Tryz.func124, Tryz.ntmps124
    go_wp2_with fail
    go_ret2
    exact ⟨rfl, fin _⟩
  have h1' : ¬ (n : Int) < 128 := by omega
  by_cases h2 : n < 2048
  · simp only [if_neg h1, if_pos h2]
    have h2' : (n : Int) < 2048 := by omega
    have hc := hcb [UInt8.ofNat (192 + n / 64), UInt8.ofNat (128 + n % 64)] 2
    simp only [List.map_cons, List.map_nil, List.length_cons, List.length_nil, toNat_of (by omega : 192 + n / 64 < 256), toNat_of (by omega : 128 + n % 64 < 256), Nat.zero_add, Nat.reduceAdd] at hc
    push_cast at hc
    clear hcb h1 h2 hv2
    go_enter Tryz.func124, Tryz.ntmps124
    go_wp2_with fail
    go_ret2
    exact ⟨rfl, fin _⟩
  have h2' : ¬ (n : Int) < 2048 := by omega
  have k0 : (0 : Int) ≤ (n : Int) := by omega
  by_cases h3 : n < 65536
  · simp only [if_neg h1, if_neg h2, if_pos h3]
    have hc := hcb [UInt8.ofNat (224 + n / 4096), UInt8.ofNat (128 + n / 64 % 64), UInt8.ofNat (128 + n % 64)] 3
    simp only [List.map_cons, List.map_nil, List.length_cons, List.length_nil, toNat_of (by omega : 224 + n / 4096 < 256), toNat_of (by omega : 128 + n / 64 % 64 < 256), toNat_of (by omega : 128 + n % 64 < 256), Nat.zero_add, Nat.reduceAdd] at hc
    rw [show ((224 + n / 4096 : Nat) : Int) = 224 + (n : Int) / 4096 by omega, show ((128 + n / 64 % 64 : Nat) : Int) = 128 + (n : Int) / 64 % 64 by omega, show ((128 + n % 64 : Nat) : Int) = 128 + (n : Int) % 64 by omega] at hc
    have h3' : (n : Int) < 65536 := by omega
    have hS : ([UInt8.ofNat (224 + n / 4096), UInt8.ofNat (128 + n / 64 % 64), UInt8.ofNat (128 + n % 64)] : List UInt8) = [UInt8.ofNat (224 + n / 4096), UInt8.ofNat (128 + n / 64 % 64), UInt8.ofNat (128 + n % 64)] := rfl
    clear hS
    generalize hX : ([UInt8.ofNat (224 + n / 4096), UInt8.ofNat (128 + n / 64 % 64), UInt8.ofNat (128 + n % 64)] : List UInt8) = X at *
    clear hX
    rcases hv2 with hv2 | ⟨hv2, _⟩
    · have k1 : (n : Int) < 55296 := by omega
      clear hcb h1 h2 h3 hv2
      generalize hxV : (n : Int) = V at *
      clear hxV
      go_enter Tryz.func124, Tryz.ntmps124
      go_wp2_with fail
      go_ret2
      exact ⟨rfl, fin _⟩
    · have k1 : (57343 : Int) < (n : Int) := by omega
      clear hcb h1 h2 h3 hv2
      generalize hxV : (n : Int) = V at *
      clear hxV
      go_enter Tryz.func124, Tryz.ntmps124
      go_wp2_with fail
      go_ret2
      exact ⟨rfl, fin _⟩
  · simp only [if_neg h1, if_neg h2, if_neg h3]
    have hc := hcb [UInt8.ofNat (240 + n / 262144), UInt8.ofNat (128 + n / 4096 % 64), UInt8.ofNat (128 + n / 64 % 64), UInt8.ofNat (128 + n % 64)] 4
    simp only [List.map_cons, List.map_nil, List.length_cons, List.length_nil, toNat_of (by omega : 240 + n / 262144 < 256), toNat_of (by omega : 128 + n / 4096 % 64 < 256), toNat_of (by omega : 128 + n / 64 % 64 < 256), toNat_of (by omega : 128 + n % 64 < 256), Nat.zero_add, Nat.reduceAdd] at hc
    rw [show ((240 + n / 262144 : Nat) : Int) = 240 + (n : Int) / 262144 by omega, show ((128 + n / 4096 % 64 : Nat) : Int) = 128 + (n : Int) / 4096 % 64 by omega, show ((128 + n / 64 % 64 : Nat) : Int) = 128 + (n : Int) / 64 % 64 by omega, show ((128 + n % 64 : Nat) : Int) = 128 + (n : Int) % 64 by omega] at hc
    have h3' : ¬ (n : Int) < 65536 := by omega
    generalize hX : ([UInt8.ofNat (240 + n / 262144), UInt8.ofNat (128 + n / 4096 % 64), UInt8.ofNat (128 + n / 64 % 64), UInt8.ofNat (128 + n % 64)] : List UInt8) = X at *
    clear hX
    clear hcb h1 h2 h3 hv2
    generalize hxV : (n : Int) = V at *
    clear hxV
    go_enter Tryz.func124, Tryz.ntmps124
    go_wp2_with fail
    go_ret2
    exact ⟨rfl, fin _⟩
end Sy
end Go.Proofs.YthoealembhkaoaaGreatDoor
namespace Go.Proofs.YthoealembhkaoaaGreatDoor
open Go.RowKit
namespace Sy
set_option linter.unusedVariables false
set_option maxRecDepth 100000

/-- A row of runes lies at a slice, which may begin inside its block. -/
def RunesAt (w : World) (v : Value) (l : List Int) : Prop :=
  (v = .slice none 0 0 ∧ l = []) ∨ ∃ g o c, v = .slice (some ⟨g, o, none⟩) l.length c ∧ l.length ≤ c ∧ g < w.heap.size ∧ ∀ k (h : k < l.length), w.cell? ⟨g, o + k, none⟩ = some (.int .i32 l[k])
def leftR : List Int → List Int
  | [] => []
  | a :: l => if a = 32 then l else a :: l
def rightR (l : List Int) : List Int := if l.getLast? = some 32 then l.dropLast else l
theorem rLeft_calls (l : List Int) (v : Value) (w : World) (h : RunesAt w v l) (hl : l.length ≤ 4294967296) :
    Calls Tryz.prog 76 #[v] w fun e w' => ∃ u, e = .returned u ∧ RunesAt w u (leftR l) ∧ w' = w := by
  rcases h with ⟨rfl, rfl⟩ | ⟨g, o, c, rfl, hlc, hg, hc⟩
  · go_enter Tryz.func76, Tryz.ntmps76
    go_wp2_with fail
    go_ret
    exact ⟨_, rfl, Or.inl ⟨rfl, rfl⟩, rfl⟩
  · rcases l with _ | ⟨a, l⟩
    · have hr : RunesAt w (.slice (some ⟨g, o, none⟩) 0 c) (leftR []) := Or.inr ⟨g, o, c, rfl, hlc, hg, hc⟩
      simp only [List.length_nil] at hlc ⊢
      clear hc
      go_enter Tryz.func76, Tryz.ntmps76
      go_wp2_with fail
      go_ret
      exact ⟨_, rfl, hr, rfl⟩
    · have c0 := hc 0 (by simp)
      simp only [List.getElem_cons_zero, Nat.add_zero] at c0
      by_cases ha : a = 32
      · have hr : RunesAt w (.slice (some ⟨g, o + 1, none⟩) l.length (c - 1)) (leftR (a :: l)) := by
          simp only [leftR, if_pos ha]
          refine Or.inr ⟨g, o + 1, c - 1, rfl, by simp at hlc; omega, hg, fun k hk => ?_⟩
          have := hc (k + 1) (by simp; omega)
          rw [show o + (k + 1) = o + 1 + k by omega] at this
          simpa using this
        subst ha
        clear hc
        simp only [List.length_cons] at hlc hl ⊢
        have hz : c = 1 → leftR (32 :: l) = [] := fun h => List.length_eq_zero_iff.1 (by show l.length = 0; omega)
        generalize l.length = n at *
        generalize leftR (32 :: l) = m at *
        go_enter Tryz.func76, Tryz.ntmps76
        go_wp2_with fail
        · go_ret
          exact ⟨_, rfl, Or.inr ⟨g, o, 0, by simp; omega, by simp, hg, by simp⟩, rfl⟩
        · go_ret
          exact ⟨_, rfl, hr, rfl⟩
      · have hr : RunesAt w (.slice (some ⟨g, o, none⟩) (l.length + 1) c) (leftR (a :: l)) := by
          simp only [leftR, if_neg ha]
          exact Or.inr ⟨g, o, c, rfl, hlc, hg, hc⟩
        have q : (a == 32) = false := by simpa using ha
        clear hc ha
        simp only [List.length_cons] at hlc hl ⊢
        generalize l.length = n at *
        go_enter Tryz.func76, Tryz.ntmps76
        go_wp2_with fail
        go_ret
        exact ⟨_, rfl, hr, rfl⟩
theorem rRight_calls (l : List Int) (v : Value) (w : World) (h : RunesAt w v l) (hl : l.length ≤ 4294967296) :
    Calls Tryz.prog 75 #[v] w fun e w' => ∃ u, e = .returned u ∧ RunesAt w u (rightR l) ∧ w' = w := by
  rcases h with ⟨rfl, rfl⟩ | ⟨g, o, c, rfl, hlc, hg, hc⟩
  · go_enter Tryz.func75, Tryz.ntmps75
    go_wp2_with fail
    go_ret
    exact ⟨_, rfl, Or.inl ⟨rfl, rfl⟩, rfl⟩
  · by_cases hn : l.length = 0
    · have hr : RunesAt w (.slice (some ⟨g, o, none⟩) 0 c) (rightR l) := by
        obtain rfl := List.length_eq_zero_iff.1 hn
        exact Or.inr ⟨g, o, c, rfl, hlc, hg, hc⟩
      rw [hn] at hlc ⊢
      clear hc hn
      go_enter Tryz.func75, Tryz.ntmps75
      go_wp2_with fail
      go_ret
      exact ⟨_, rfl, hr, rfl⟩
    · obtain ⟨n, hn1⟩ : ∃ n, l.length = n + 1 := ⟨l.length - 1, by omega⟩
      have c0 := hc n (by omega)
      obtain ⟨a, ha⟩ : ∃ a, l[n]'(by omega) = a := ⟨_, rfl⟩
      have hlast : l.getLast? = some a := by
        rw [List.getLast?_eq_getElem?, hn1, Nat.add_sub_cancel, List.getElem?_eq_getElem (by omega), ha]
      rw [ha] at c0
      by_cases h32 : a = 32
      · have hr : RunesAt w (.slice (some ⟨g, o, none⟩) n c) (rightR l) := by
          unfold rightR
          rw [hlast, h32, if_pos rfl]
          refine Or.inr ⟨g, o, c, by simp [hn1], by simp; omega, hg, fun k hk => ?_⟩
          rw [List.getElem_dropLast]
          exact hc k (by simp at hk; omega)
        subst h32
        rw [hn1] at hlc hl ⊢
        clear hc ha hn hn1 hlast
        go_enter Tryz.func75, Tryz.ntmps75
        go_wp2_with fail
        go_ret
        exact ⟨_, rfl, hr, rfl⟩
      · have hr : RunesAt w (.slice (some ⟨g, o, none⟩) (n + 1) c) (rightR l) := by
          unfold rightR
          rw [hlast, if_neg (fun h => h32 (Option.some.inj h))]
          exact Or.inr ⟨g, o, c, by rw [hn1], hlc, hg, hc⟩
        have q : (a == 32) = false := by simpa using h32
        rw [hn1] at hlc hl ⊢
        clear hc ha hn hn1 hlast h32
        go_enter Tryz.func75, Tryz.ntmps75
        go_wp2_with fail
        go_ret
        exact ⟨_, rfl, hr, rfl⟩
end Sy
end Go.Proofs.YthoealembhkaoaaGreatDoor
