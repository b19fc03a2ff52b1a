import Derived.Test.YthoealembhkaoaaGreatDoorFm18
import Derived.Lib.SplitLaws
namespace Go.Proofs.YthoealembhkaoaaGreatDoor
open Go.RowKit
namespace Sy
set_option linter.unusedVariables false
set_option maxRecDepth 100000

theorem single_snoc (acc : List Int) (x : Int) : singleR (acc ++ [x]) = sgStep (singleR acc) x := by
  simp [singleR, List.foldl_append]
theorem single_valid {acc : List Int} (h : ∀ r ∈ acc, Lib.validRune r = true) : ∀ r ∈ singleR acc, Lib.validRune r = true := fun r hr =>
  h r ((single_mem acc [] r hr).elim (fun h => by cases h) id)
theorem mapGo_maps (fold : Bool) : ∀ (n : Nat) (acc : List Int) (l : List UInt8), (∀ r ∈ acc, Lib.validRune r = true) → mapGo fold n (enc (singleR acc)) l = (mapsGo fold n acc l).map fun rs => enc (singleR rs)
  | 0, acc, l, h => rfl
  | n + 1, acc, l, h => by
    simp only [mapGo, mapsGo]
    by_cases hl : l = []
    · simp [hl]
    rw [if_neg hl, if_neg hl]
    have hst := @mapR_stays ((Lib.decodeL l).1 : Int)
    generalize l.drop (Lib.decodeL l).2 = l2 at *
    generalize mapR ((Lib.decodeL l).1 : Int) = m at *
    obtain ⟨m1, m2, m3⟩ := m
    simp only at hst ⊢
    cases m3 with
    | true => simp
    | false =>
      cases m2 with
      | false => simpa using mapGo_maps fold n acc l2 h
      | true =>
        obtain ⟨v1, _, _⟩ := hst rfl (by omega) rfl
        have hx : laidR fold m1 = 32 ↔ m1 = 32 := by
          unfold laidR
          cases fold
          · exact Iff.rfl
          · exact ⟨foldR_eq32, fun e => by rw [e]; decide⟩
        have hvx : Lib.validRune (laidR fold m1) = true := by
          unfold laidR
          cases fold
          · exact v1
          · exact foldR_valid v1
        have hva : ∀ r ∈ acc ++ [laidR fold m1], Lib.validRune r = true := fun r hr => by
          rcases List.mem_append.1 hr with hr | hr
          · exact h r hr
          · rw [List.mem_singleton.1 hr]; exact hvx
        have ih := mapGo_maps fold n (acc ++ [laidR fold m1]) l2 hva
        rw [single_snoc] at ih
        have hlast := enc_last (single_valid h)
        simp only [Bool.false_eq_true, if_false, Bool.true_eq_false, false_or]
        by_cases hc : m1 = 32 ∧ (enc (singleR acc)).getLast? = some 32
        · rw [if_pos hc]
          have e : sgStep (singleR acc) (laidR fold m1) = singleR acc := by
            unfold sgStep
            rw [if_pos ⟨hx.2 hc.1, hlast.1 hc.2⟩]
          rw [e] at ih
          exact ih
        · rw [if_neg hc]
          have e : sgStep (singleR acc) (laidR fold m1) = singleR acc ++ [laidR fold m1] := by
            unfold sgStep
            rw [if_neg (fun k => hc ⟨hx.1 k.1, hlast.2 k.2⟩)]
          rw [e, enc_append] at ih
          have e1 : enc [laidR fold m1] = runeB (laidR fold m1) := by simp [enc]
          rw [e1] at ih
          exact ih
theorem mapped_maps (fold : Bool) (l : List UInt8) : mapped fold l = (mapsR fold l).map fun rs => enc (singleR rs) := by
  unfold mapped mapsR
  by_cases h : Lib.validD l = true
  · rw [if_pos h, if_pos h]
    exact mapGo_maps fold _ [] l (by simp)
  · rw [if_neg h, if_neg h]; rfl
theorem single_noDbl : ∀ (l acc : List Int), NoDbl acc → NoDbl (l.foldl sgStep acc)
  | [], acc, h => h
  | a :: l, acc, h => by
    refine single_noDbl l _ ?_
    unfold sgStep
    by_cases hc : a = 32 ∧ acc.getLast? = some 32
    · rw [if_pos hc]; exact h
    · rw [if_neg hc]
      exact h.snoc fun e k => hc ⟨e, k⟩
theorem trimR_id {l : List Int} (h : ∀ r ∈ l, Lib.validRune r = true) (hl : l.getLast? ≠ some 32) : Lib.trimRightB (enc l) 32 = enc l := by
  rcases nil_or_snoc l with rfl | ⟨l, r, rfl⟩
  · rfl
  · have h32 : r ≠ 32 := by simpa using hl
    obtain ⟨_, m, x, hx, hx32⟩ := rune_ends (h r (by simp)) h32
    rw [enc_append, show enc [r] = m ++ [x] by simp [enc, hx], ← List.append_assoc, trimR_stop _ hx32]
theorem trimL_id {l : List Int} (h : ∀ r ∈ l, Lib.validRune r = true) (hl : l.head? ≠ some 32) : Lib.trimLeftB (enc l) 32 = enc l := by
  cases l with
  | nil => rfl
  | cons r b =>
    have h32 : r ≠ 32 := by simpa using hl
    obtain ⟨⟨x, l, hx, hx32⟩, _⟩ := rune_ends (h r (.head _)) h32
    rw [enc_cons, hx]
    simp [Lib.trimLeftB, hx32]
theorem trimR_once {l : List Int} (h : ∀ r ∈ l, Lib.validRune r = true) (hd : NoDbl l) : Lib.trimRightB (enc l) 32 = enc (rightR l) := by
  by_cases hl : l.getLast? = some 32
  · unfold rightR
    rw [if_pos hl]
    rcases nil_or_snoc l with rfl | ⟨m, r, rfl⟩
    · cases hl
    · have h32 : r = 32 := by simpa using hl
      subst h32
      rw [enc_append, show enc [32] = [32] by simp [enc, rune_32], trimR_snoc, List.dropLast_concat]
      exact trimR_id (fun r hr => h r (by simp [hr])) (NoDbl.join hd rfl)
  · unfold rightR
    rw [if_neg hl]
    exact trimR_id h hl
theorem trimL_once {l : List Int} (h : ∀ r ∈ l, Lib.validRune r = true) (hd : NoDbl l) : Lib.trimLeftB (enc l) 32 = enc (leftR l) := by
  cases l with
  | nil => rfl
  | cons a l =>
    simp only [leftR]
    by_cases ha : a = 32
    · subst ha
      rw [if_pos rfl, enc_cons, rune_32]
      show Lib.trimLeftB (enc l) 32 = _
      refine trimL_id (fun r hr => h r (.tail _ hr)) ?_
      cases l with
      | nil => simp
      | cons b l => simpa using fun e => hd.1 ⟨rfl, e⟩
    · rw [if_neg ha]
      exact trimL_id h (by simpa using ha)
theorem left_right (l : List Int) : leftR (rightR l) = rightR (leftR l) := by
  rcases l with _ | ⟨a, l⟩
  · rfl
  rcases l with _ | ⟨b, l⟩
  · by_cases ha : a = 32 <;> simp [leftR, rightR, ha]
  · by_cases hl : (b :: l).getLast? = some 32
    · have e1 : rightR (a :: b :: l) = a :: (b :: l).dropLast := by
        unfold rightR
        rw [List.getLast?_cons_cons, if_pos hl, List.dropLast_cons_cons]
      have e2 : rightR (b :: l) = (b :: l).dropLast := by
        unfold rightR
        rw [if_pos hl]
      rw [e1]
      simp only [leftR]
      by_cases ha : a = 32
      · rw [if_pos ha, if_pos ha, e2]
      · rw [if_neg ha, if_neg ha, e1]
    · have e1 : rightR (a :: b :: l) = a :: b :: l := by
        unfold rightR
        rw [List.getLast?_cons_cons, if_neg hl]
      have e2 : rightR (b :: l) = b :: l := by
        unfold rightR
        rw [if_neg hl]
      rw [e1]
      simp only [leftR]
      by_cases ha : a = 32
      · rw [if_pos ha, e2]
      · rw [if_neg ha, e1]
theorem runeB_pos {l : List Int} (h : ∀ r ∈ l, Lib.validRune r = true) : enc l = [] ↔ l = [] := by
  cases l with
  | nil => simp [enc]
  | cons a l =>
    rw [enc_cons]
    simp [runeB_ne (h a (.head _))]
/-- Both prepare alike. -/
theorem prep_eq (fold : Bool) (l : List UInt8) : prepL fold l = prepR fold l := by
  unfold prepL prepR
  rw [mapped_maps]
  have hv := @mapsR_valid fold l
  generalize mapsR fold l = ms at *
  cases ms with
  | none => rfl
  | some rs =>
    have h1 := single_valid (hv rfl).1
    have hd : NoDbl (singleR rs) := single_noDbl rs [] trivial
    have hvr : ∀ r ∈ rightR (singleR rs), Lib.validRune r = true := fun r hr => h1 r (rightR_mem hr)
    have hdr : NoDbl (rightR (singleR rs)) := by
      unfold rightR
      split
      · rcases nil_or_snoc (singleR rs) with e | ⟨m, r, e⟩
        · rw [e]; trivial
        · rw [e] at hd ⊢
          rw [List.dropLast_concat]
          exact hd.left
      · exact hd
    have e : Lib.trimB (enc (singleR rs)) 32 = enc (rightR (leftR (singleR rs))) := by
      unfold Lib.trimB
      rw [trimR_once h1 hd, trimL_once hvr hdr, left_right]
    have hvl : ∀ r ∈ rightR (leftR (singleR rs)), Lib.validRune r = true := fun r hr => h1 r (leftR_mem (rightR_mem hr))
    simp only [Option.map_some, e, runeB_pos hvl]
end Sy
end Go.Proofs.YthoealembhkaoaaGreatDoor
namespace Go.Proofs.YthoealembhkaoaaGreatDoor
open Go.RowKit
namespace Sy
set_option linter.unusedVariables false
set_option maxRecDepth 100000

def okP (cur : List UInt8) : Bool := decide (cur ≠ []) && !(cur.head? == some 48 && decide (1 < cur.length))
/-- Numbers with points between them: the piece so far, the points met, what is left. -/
def numP (cur : List UInt8) (dots : Nat) : List UInt8 → Bool
  | [] => okP cur && decide (0 < dots)
  | b :: l => if isDigit (b.toNat : Int) then numP (cur ++ [b]) dots l else okP cur && decide (b = 46) && numP [] (dots + 1) l
theorem seg_next {s : ByteArray} {f i : Nat} (h : i < s.size) (hf : f ≤ i) : (rest s f).take (i + 1 - f) = (rest s f).take (i - f) ++ [s[i]] := by
  have hl : i - f < (rest s f).length := by simp [rest]; omega
  rw [show i + 1 - f = i - f + 1 by omega, List.take_succ_eq_append_getElem hl]
  congr 2
  simp only [rest, List.getElem_drop]
  simp only [show f + (i - f) = i by omega]
  rfl
theorem seg_ok {s : ByteArray} {f i : Nat} (h1 : f < i) (h2 : i ≤ s.size) (h3 : f < s.size) : okP ((rest s f).take (i - f)) = !(decide (s[f] = 48) && decide (f + 1 < i)) := by
  have hl : ((rest s f).take (i - f)).length = i - f := by simp [rest]; omega
  have hc : (rest s f).take (i - f) = s[f] :: (rest s (f + 1)).take (i - f - 1) := by
    rw [rest_lt h3, show i - f = (i - f - 1) + 1 by omega, List.take_succ_cons]; simp
  unfold okP
  rw [hl, hc]
  have e : decide (1 < i - f) = decide (f + 1 < i) := by rw [decide_eq_decide]; omega
  rw [e]
  by_cases h48 : s[f] = 48 <;> simp [h48]
theorem byte_is (b c : UInt8) : b = c ↔ (b.toNat : Int) = (c.toNat : Int) := by rw [← UInt8.toNat_inj]; omega
theorem seg_nil (s : ByteArray) (i : Nat) : okP ((rest s i).take (i - i)) = false := by simp [okP]
set_option maxHeartbeats 4000000 in
theorem rNumbers_calls (s : ByteArray) (w : World) (hs : s.size ≤ 4294967296) :
    Calls Tryz.prog 86 #[.string s] w fun e w' => e = .returned (.bool (numP [] 0 s.data.toList)) ∧ w' = w := by
  obtain ⟨r, hr⟩ : ∃ r, numP [] 0 s.data.toList = r := ⟨_, rfl⟩
  rw [hr]
  have Hr := Lib.hid hr
  clear hr
  go_enter Tryz.func86, Tryz.ntmps86
  go_wp2_with fail
  go_loopg [3, 4, 5] (s.size + 1) (fun k dv fv iv wr => (∃ (i f d : Nat), i ≤ s.size + 1 ∧ s.size + 1 - i ≤ k ∧ d ≤ i ∧ f ≤ i ∧ dv = .int .i64 d ∧ fv = .int .i64 f ∧ iv = .int .i64 i ∧ Hid ((i ≤ s.size ∧ numP ((rest s f).take (i - f)) d (rest s i) = r) ∨ (i = s.size + 1 ∧ decide (0 < d) = r))) ∧ wr = w)
  case atStart => exact ⟨⟨0, 0, 0, Nat.zero_le _, Nat.le_refl _, Nat.le_refl _, Nat.le_refl _, rfl, rfl, rfl, .inl ⟨Nat.zero_le _, Hr.out⟩⟩, rfl⟩
  case round =>
    obtain ⟨⟨i, f, d, hi, hk, hd, hf, rfl, rfl, rfl, hI⟩, hw⟩ := hrel
    have hw := hw.symm
    subst hw
    by_cases hle : i ≤ s.size
    · have hN : numP ((rest s f).take (i - f)) d (rest s i) = r := by
        rcases hI.out with h | h
        · exact h.2
        · omega
      clear hI
      by_cases hlt : i < s.size
      · have hdig := rDigit_calls (s[i].toNat : Int) w
        rw [rest_lt hlt] at hN
        simp only [numP] at hN
        have hnx := seg_next hlt hf
        cases hdb : isDigit (s[i].toNat : Int) with
        | true =>
          rw [hdb] at hN hdig
          simp only [if_true] at hN
          rw [← hnx] at hN
          have HN := Lib.hid hN
          clear hN hnx hdb
          go_wp2_with fail
          refine hdig.mono ?_
          rintro e w1 ⟨rfl, rfl⟩
          clear hdig
          go_wp2_with fail
          go_roundg (s.size + 1 - (i + 1))
          case measure => omega
          case rel => exact ⟨⟨i + 1, f, d, by omega, Nat.le_refl _, by omega, by omega, rfl, rfl, by go_num, .inl ⟨by omega, HN.out⟩⟩, rfl⟩
        | false =>
          rw [hdb] at hN hdig
          simp only [Bool.false_eq_true, if_false] at hN
          clear hnx hdb
          by_cases hfi : i = f
          · subst hfi
            rw [seg_nil] at hN
            have HN := Lib.hid hN
            clear hN
            go_wp2_with fail
            refine hdig.mono ?_
            rintro e w1 ⟨rfl, rfl⟩
            clear hdig
            go_wp2_with fail
            go_ret
            exact ⟨by rw [← HN.out]; rfl, rfl⟩
          · have hfl : f < i := by omega
            have hfs : f < s.size := by omega
            have qe : ((i : Int) == (f : Int)) = false := by rw [beq_eq_false_iff_ne]; omega
            rw [seg_ok hfl hle hfs] at hN
            have e48 : (s[f] = 48) ↔ ((s[f].toNat : Int) = 48) := byte_is _ _
            have e46 : (s[i] = 46) ↔ ((s[i].toNat : Int) = 46) := byte_is _ _
            have d48 : decide (s[f] = 48) = decide ((s[f].toNat : Int) = 48) := by rw [decide_eq_decide]; exact e48
            have d46 : decide (s[i] = 46) = decide ((s[i].toNat : Int) = 46) := by rw [decide_eq_decide]; exact e46
            rw [d48, d46] at hN
            clear d48 d46 e48 e46
            by_cases h48 : (s[f].toNat : Int) = 48
            · have q48 : ((s[f].toNat : Int) == 48) = true := by simpa using h48
              rw [decide_eq_true h48] at hN
              by_cases hg : f + 1 < i
              · have hg' : (f : Int) + 1 < (i : Int) := by omega
                rw [decide_eq_true hg] at hN
                simp only [Bool.and_self, Bool.not_true, Bool.false_and] at hN
                have HN := Lib.hid hN
                clear hN
                go_wp2_with fail
                refine hdig.mono ?_
                rintro e w1 ⟨rfl, rfl⟩
                clear hdig
                go_wp2_with fail
                go_ret
                exact ⟨by rw [← HN.out]; rfl, rfl⟩
              · have hg' : ¬ (f : Int) + 1 < (i : Int) := by omega
                rw [decide_eq_false hg] at hN
                simp only [Bool.and_false, Bool.not_false, Bool.true_and] at hN
                by_cases h46 : (s[i].toNat : Int) = 46
                · have q46 : ((s[i].toNat : Int) == 46) = true := by simpa using h46
                  rw [decide_eq_true h46] at hN
                  rw [h46] at hdig
                  simp only [Bool.true_and] at hN
                  have HN := Lib.hid hN
                  clear hN
                  go_wp2_with fail
                  refine hdig.mono ?_
                  rintro e w1 ⟨rfl, rfl⟩
                  clear hdig
                  go_wp2_with fail
                  go_roundg (s.size + 1 - (i + 1))
                  case measure => omega
                  case rel => exact ⟨⟨i + 1, i + 1, d + 1, by omega, Nat.le_refl _, by omega, by omega, by go_num, by go_num, by go_num, .inl ⟨by omega, by rw [Nat.sub_self]; exact HN.out⟩⟩, rfl⟩
                · have q46 : ((s[i].toNat : Int) != 46) = true := by simpa using h46
                  rw [decide_eq_false h46] at hN
                  simp only [Bool.false_and] at hN
                  have HN := Lib.hid hN
                  clear hN
                  go_wp2_with fail
                  refine hdig.mono ?_
                  rintro e w1 ⟨rfl, rfl⟩
                  clear hdig
                  go_wp2_with fail
                  go_ret
                  exact ⟨by rw [← HN.out]; rfl, rfl⟩
            · have q48 : ((s[f].toNat : Int) == 48) = false := by simpa using h48
              rw [decide_eq_false h48] at hN
              simp only [Bool.false_and, Bool.not_false, Bool.true_and] at hN
              by_cases h46 : (s[i].toNat : Int) = 46
              · have q46 : ((s[i].toNat : Int) == 46) = true := by simpa using h46
                rw [decide_eq_true h46] at hN
                rw [h46] at hdig
                simp only [Bool.true_and] at hN
                have HN := Lib.hid hN
                clear hN
                go_wp2_with fail
                refine hdig.mono ?_
                rintro e w1 ⟨rfl, rfl⟩
                clear hdig
                go_wp2_with fail
                go_roundg (s.size + 1 - (i + 1))
                case measure => omega
                case rel => exact ⟨⟨i + 1, i + 1, d + 1, by omega, Nat.le_refl _, by omega, by omega, by go_num, by go_num, by go_num, .inl ⟨by omega, by rw [Nat.sub_self]; exact HN.out⟩⟩, rfl⟩
              · have q46 : ((s[i].toNat : Int) != 46) = true := by simpa using h46
                rw [decide_eq_false h46] at hN
                simp only [Bool.false_and] at hN
                have HN := Lib.hid hN
                clear hN
                go_wp2_with fail
                refine hdig.mono ?_
                rintro e w1 ⟨rfl, rfl⟩
                clear hdig
                go_wp2_with fail
                go_ret
                exact ⟨by rw [← HN.out]; rfl, rfl⟩
      · obtain rfl : i = s.size := by omega
        rw [rest_ge (Nat.le_refl _)] at hN
        simp only [numP] at hN
        by_cases hfi : s.size = f
        · rw [hfi] at hN
          rw [seg_nil] at hN
          have qe : ((s.size : Int) == (f : Int)) = true := by rw [beq_iff_eq]; omega
          have HN := Lib.hid hN
          clear hN
          go_wp2_with fail
          go_ret
          exact ⟨by rw [← HN.out]; rfl, rfl⟩
        · have hfl : f < s.size := by omega
          have qe : ((s.size : Int) == (f : Int)) = false := by rw [beq_eq_false_iff_ne]; omega
          rw [seg_ok hfl hle hfl] at hN
          have e48 : (s[f] = 48) ↔ ((s[f].toNat : Int) = 48) := byte_is _ _
          have d48 : decide (s[f] = 48) = decide ((s[f].toNat : Int) = 48) := by rw [decide_eq_decide]; exact e48
          rw [d48] at hN
          clear d48 e48
          by_cases h48 : (s[f].toNat : Int) = 48
          · have q48 : ((s[f].toNat : Int) == 48) = true := by simpa using h48
            rw [decide_eq_true h48] at hN
            by_cases hg : f + 1 < s.size
            · have hg' : (f : Int) + 1 < (s.size : Int) := by omega
              rw [decide_eq_true hg] at hN
              simp only [Bool.and_self, Bool.not_true, Bool.false_and] at hN
              have HN := Lib.hid hN
              clear hN
              go_wp2_with fail
              go_ret
              exact ⟨by rw [← HN.out]; rfl, rfl⟩
            · have hg' : ¬ (f : Int) + 1 < (s.size : Int) := by omega
              rw [decide_eq_false hg] at hN
              simp only [Bool.and_false, Bool.not_false, Bool.true_and] at hN
              have HN := Lib.hid hN
              clear hN
              go_wp2_with fail
              go_roundg (s.size + 1 - (s.size + 1))
              case measure => omega
              case rel => exact ⟨⟨s.size + 1, s.size + 1, d, by omega, Nat.le_refl _, by omega, by omega, rfl, by go_num, by go_num, .inr ⟨by omega, HN.out⟩⟩, rfl⟩
          · have q48 : ((s[f].toNat : Int) == 48) = false := by simpa using h48
            rw [decide_eq_false h48] at hN
            simp only [Bool.false_and, Bool.not_false, Bool.true_and] at hN
            have HN := Lib.hid hN
            clear hN
            go_wp2_with fail
            go_roundg (s.size + 1 - (s.size + 1))
            case measure => omega
            case rel => exact ⟨⟨s.size + 1, s.size + 1, d, by omega, Nat.le_refl _, by omega, by omega, rfl, by go_num, by go_num, .inr ⟨by omega, HN.out⟩⟩, rfl⟩
    · have hd2 : decide (0 < d) = r := by
        rcases hI.out with h | h
        · omega
        · exact h.2
      have HN := Lib.hid hd2
      clear hd2 hI
      go_wp2_with fail
      go_ret
      refine ⟨?_, rfl⟩
      rw [← HN.out]
      refine ret_bool ?_
      rw [decide_eq_decide]
end Sy
end Go.Proofs.YthoealembhkaoaaGreatDoor
namespace Go.Proofs.YthoealembhkaoaaGreatDoor
open Go.RowKit
namespace Sy
set_option linter.unusedVariables false
set_option maxRecDepth 100000

def inT (b : UInt8) : Bool := inType b.toNat && !decide ((b.toNat : Int) = 46)
theorem inT_eq (b : UInt8) : inT b = (isLetter (b.toNat : Int) || isDigit (b.toNat : Int) || ((b.toNat : Int) == 45)) := by
  have : ∀ b : UInt8, (inT b == (isLetter (b.toNat : Int) || isDigit (b.toNat : Int) || ((b.toNat : Int) == 45))) = true := all_bytes (by decide)
  simpa using this b
set_option maxHeartbeats 4000000 in
theorem rIsType_calls (s : ByteArray) (w : World) (hs : s.size < 4294967281) (hno : numP [] 0 s.data.toList = isOid s.data.toList) :
    Calls Tryz.prog 50 #[.string s] w fun e w' => e = .returned (.bool (isType s.data.toList)) ∧ w' = w := by
  have hl : s.data.toList.length = s.size := by simp
  by_cases h0 : s.data.toList = []
  · have h2 := toList_nil s h0
    have hd : isType s.data.toList = false := by rw [h0]; rfl
    rw [hd]
    have hz : (s.size : Int) < 1 := by rw [← hl, h0]; decide
    clear hd h0 hl hno
    go_enter Tryz.func50, Tryz.ntmps50
    go_wp2_with fail
    go_ret
    exact ⟨rfl, rfl⟩
  have h2 := toList_ne s h0
  have hpos : 0 < s.size := by
    rw [← hl]; exact List.length_pos_iff.2 h0
  have hp' : ¬ (s.size : Int) < 1 := by omega
  by_cases h64 : s.size ≤ 64
  · rw [isType_head hpos h64]
    have h6 : ¬ (64 : Int) < (s.size : Int) := by omega
    clear h0 hl
    have hlet := rLetter_calls ((s[0]'hpos).toNat : Int) w
    cases hlb : isLetter ((s[0]'hpos).toNat : Int) with
    | true =>
      rw [hlb] at hlet
      rw [if_pos rfl]
      obtain ⟨r, hr⟩ : ∃ r, s.data.toList.all inT = r := ⟨_, rfl⟩
      change Calls _ _ _ _ fun e w' => e = .returned (.bool (s.data.toList.all inT)) ∧ w' = w
      rw [hr]
      have Hr := Lib.hid hr
      clear hr hno hlb
      go_enter Tryz.func50, Tryz.ntmps50
      go_wp2_with fail
      refine hlet.mono ?_
      rintro e w1 ⟨rfl, rfl⟩
      clear hlet
      go_wp2_with fail
      go_loopg [3] s.size (fun k v wr => (∃ j : Nat, j ≤ s.size ∧ s.size - j ≤ k ∧ v = .int .i64 j ∧ Hid (∀ b ∈ s.data.toList.take j, inT b = true)) ∧ wr = w)
      case atStart => exact ⟨⟨0, Nat.zero_le _, Nat.le_refl _, rfl, fun p hp => by simp at hp⟩, rfl⟩
      case round =>
        obtain ⟨⟨j, hj, hk, rfl, hall⟩, hw⟩ := hrel
        have hw := hw.symm
        subst hw
        by_cases hlt : j < s.size
        · have hL := rLetter_calls ((s[j]'hlt).toNat : Int) w
          have hD := rDigit_calls ((s[j]'hlt).toNat : Int) w
          have hin := inT_eq (s[j]'hlt)
          have Hall : Hid (inT (s[j]'hlt) = true → ∀ b ∈ s.data.toList.take (j + 1), inT b = true) := fun h => all_take (p := inT) hlt hall.out h
          have Hno : Hid (inT (s[j]'hlt) = false → s.data.toList.all inT = false) := fun h => all_no (p := inT) hlt h
          generalize isLetter ((s[j]'hlt).toNat : Int) = bl at *
          generalize isDigit ((s[j]'hlt).toNat : Int) = bd at *
          cases bl with
          | true =>
            simp only [Bool.true_or] at hin
            have HA : Hid (∀ b ∈ s.data.toList.take (j + 1), inT b = true) := Hall.out hin
            clear hD hin Hno
            go_wp2_with fail
            refine hL.mono ?_
            rintro e w1 ⟨rfl, rfl⟩
            clear hL
            go_wp2_with fail
            go_roundg (s.size - (j + 1))
            case measure => omega
            case rel => exact ⟨⟨j + 1, by omega, Nat.le_refl _, by go_num, HA.out⟩, rfl⟩
          | false =>
            cases bd with
            | true =>
              simp only [Bool.false_or, Bool.true_or] at hin
              have HA : Hid (∀ b ∈ s.data.toList.take (j + 1), inT b = true) := Hall.out hin
              clear hin Hno
              go_wp2_with fail
              refine hL.mono ?_
              rintro e w1 ⟨rfl, rfl⟩
              clear hL
              go_wp2_with fail
              refine hD.mono ?_
              rintro e w1 ⟨rfl, rfl⟩
              clear hD
              go_wp2_with fail
              go_roundg (s.size - (j + 1))
              case measure => omega
              case rel => exact ⟨⟨j + 1, by omega, Nat.le_refl _, by go_num, HA.out⟩, rfl⟩
            | false =>
              simp only [Bool.false_or] at hin
              by_cases h45 : ((s[j]'hlt).toNat : Int) = 45
              · have HA : Hid (∀ b ∈ s.data.toList.take (j + 1), inT b = true) := Hall.out (by rw [hin]; simpa using h45)
                rw [h45] at hL hD
                clear hin Hno
                go_wp2_with fail
                refine hL.mono ?_
                rintro e w1 ⟨rfl, rfl⟩
                clear hL
                go_wp2_with fail
                refine hD.mono ?_
                rintro e w1 ⟨rfl, rfl⟩
                clear hD
                go_wp2_with fail
                go_roundg (s.size - (j + 1))
                case measure => omega
                case rel => exact ⟨⟨j + 1, by omega, Nat.le_refl _, by go_num, HA.out⟩, rfl⟩
              · have HF : Hid (r = false) := by
                  show r = false
                  rw [← Hr.out]
                  exact Hno.out (by rw [hin]; simpa using h45)
                have q45 : ((s[j]'hlt).toNat : Int) != 45 := by simpa using h45
                clear hin Hall h45
                go_wp2_with fail
                refine hL.mono ?_
                rintro e w1 ⟨rfl, rfl⟩
                clear hL
                go_wp2_with fail
                refine hD.mono ?_
                rintro e w1 ⟨rfl, rfl⟩
                clear hD
                go_wp2_with fail
                go_ret
                exact ⟨by rw [HF.out]; rfl, rfl⟩
        · have hr2 : r = true := by
            have h := hall.out
            rw [List.take_of_length_le (by simp; omega)] at h
            rw [← Hr.out, List.all_eq_true.2 h]
          have HR2 := Lib.hid hr2
          clear hr2
          go_wp2_with fail
          go_ret
          exact ⟨by rw [HR2.out]; rfl, rfl⟩
    | false =>
      rw [hlb] at hlet
      rw [if_neg (by simp)]
      have hn := rNumbers_calls s w (by omega)
      rw [hno] at hn
      clear hno hlb
      generalize isOid s.data.toList = r at *
      go_enter Tryz.func50, Tryz.ntmps50
      go_wp2_with fail
      refine hlet.mono ?_
      rintro e w1 ⟨rfl, rfl⟩
      clear hlet
      go_wp2_with fail
      refine hn.mono ?_
      rintro e w1 ⟨rfl, rfl⟩
      clear hn
      go_wp2_with fail
      go_ret
      exact ⟨rfl, rfl⟩
  · rw [isType_long (by rw [hl]; exact h64)]
    have h6 : (64 : Int) < (s.size : Int) := by omega
    clear h0 hl hno
    go_enter Tryz.func50, Tryz.ntmps50
    go_wp2_with fail
    go_ret
    exact ⟨rfl, rfl⟩
end Sy
end Go.Proofs.YthoealembhkaoaaGreatDoor
namespace Go.Proofs.YthoealembhkaoaaGreatDoor
open Go.RowKit
namespace Sy
set_option linter.unusedVariables false
set_option maxRecDepth 100000

theorem split_nil46 : Lib.split [] [46] = [[]] := by
  unfold Lib.split
  rw [Lib.count_one]; rfl
theorem split_eq46 (l : List UInt8) : Lib.split (46 :: l) [46] = [] :: Lib.split l [46] := by
  unfold Lib.split
  rw [Lib.count_cons_eq, Nat.add_comm]
  have hix : Lib.index (46 :: l) [46] = ((0 : Nat) : Int) := by rw [Lib.index]; simp [List.isPrefixOf]
  rw [Lib.splitK, hix]
  simp
theorem split_ne46 (b : UInt8) (l : List UInt8) (h : b ≠ 46) : Lib.split (b :: l) [46] = match Lib.split l [46] with | x :: t => (b :: x) :: t | [] => [] := by
  unfold Lib.split
  rw [Lib.count_cons_ne b 46 l h]
  have hp : ([46] : List UInt8).isPrefixOf (b :: l) = false := by simp [List.isPrefixOf, Ne.symm h]
  have hix : Lib.index (b :: l) [46] = if Lib.index l [46] == -1 then -1 else Lib.index l [46] + 1 := by rw [Lib.index, hp]; simp
  cases Lib.count l [46] with
  | zero => rfl
  | succ k =>
    rw [Lib.splitK, Lib.splitK, hix]
    by_cases hm : Lib.index l [46] = -1
    · simp [hm]
    · have hge := Lib.index_ge l [46]
      obtain ⟨j, hj⟩ : ∃ j : Nat, Lib.index l [46] = j := ⟨(Lib.index l [46]).toNat, by omega⟩
      have e1 : (Lib.index l [46] == -1) = false := by simpa using hm
      have e2 : ((j : Int) + 1 == -1) = false := by rw [beq_eq_false_iff_ne]; omega
      have e3 : ((j : Int) + 1).toNat = j + 1 := by omega
      rw [hj] at e1
      simp [hj, e1, e2, e3]
def sp (cur : List UInt8) : List UInt8 → List (List UInt8)
  | [] => [cur]
  | b :: l => if b = 46 then cur :: sp [] l else sp (cur ++ [b]) l
theorem sp_split : ∀ (l cur : List UInt8), sp cur l = match Lib.split l [46] with | x :: t => (cur ++ x) :: t | [] => []
  | [], cur => by rw [split_nil46]; simp [sp]
  | b :: l, cur => by
    unfold sp
    by_cases h : b = 46
    · subst h
      rw [if_pos rfl, split_eq46, sp_split l []]
      cases Lib.split l [46] <;> simp
    · rw [if_neg h, split_ne46 b l h, sp_split l (cur ++ [b])]
      cases Lib.split l [46] <;> simp
theorem sp_pos : ∀ (l cur : List UInt8), 0 < (sp cur l).length
  | [], cur => by simp [sp]
  | b :: l, cur => by
    unfold sp
    split
    · simp
    · exact sp_pos l _
theorem split_sp (l : List UInt8) : Lib.split l [46] = sp [] l := by
  have h := sp_split l []
  have hp := sp_pos l []
  cases hs : Lib.split l [46] with
  | nil => rw [hs] at h; rw [h] at hp; simp at hp
  | cons x t => rw [hs] at h; rw [h]; simp
theorem dig_eq (b : UInt8) : isDigit (b.toNat : Int) = (decide (48 ≤ b.toNat) && decide (b.toNat ≤ 57)) := by
  have : ∀ b : UInt8, (isDigit (b.toNat : Int) == (decide (48 ≤ b.toNat) && decide (b.toNat ≤ 57))) = true := all_bytes (by decide)
  simpa using this b
theorem digits_isD (cur : List UInt8) : digits cur = (!cur.isEmpty && cur.all fun b => isDigit (b.toNat : Int)) := by
  unfold digits
  simp only [dig_eq]
theorem isNum_ok {cur : List UInt8} (h : cur.all (fun b => isDigit (b.toNat : Int)) = true) : isNum cur = okP cur := by
  unfold isNum okP
  rw [digits_isD, h]
  cases cur with
  | nil => rfl
  | cons a l =>
    have e : ((Option.map (fun x : UInt8 => x.toNat) (some a)) == some 48) = ((some a : Option UInt8) == some 48) := by
      have : ∀ a : UInt8, (((Option.map (fun x : UInt8 => x.toNat) (some a)) == some 48) == ((some a : Option UInt8) == some 48)) = true := all_bytes (by decide)
      simpa using this a
    rw [List.head?_cons, e, Bool.and_comm (decide (1 < (a :: l).length))]
    simp
theorem sp_bad : ∀ (l cur : List UInt8), cur.all (fun b => isDigit (b.toNat : Int)) = false → (sp cur l).all isNum = false
  | [], cur, h => by
    simp only [sp, List.all_cons, List.all_nil, Bool.and_true]
    unfold isNum
    rw [digits_isD, h]
    simp
  | b :: l, cur, h => by
    unfold sp
    split
    · rw [List.all_cons]
      have := sp_bad [] cur h
      simp only [sp, List.all_cons, List.all_nil, Bool.and_true] at this
      rw [this]; rfl
    · exact sp_bad l _ (by rw [List.all_append, h]; rfl)
theorem numP_sp : ∀ (l cur : List UInt8) (d : Nat), cur.all (fun b => isDigit (b.toNat : Int)) = true → numP cur d l = ((sp cur l).all isNum && decide (0 < d + ((sp cur l).length - 1)))
  | [], cur, d, h => by simp [numP, sp, isNum_ok h]
  | b :: l, cur, d, h => by
    unfold numP sp
    by_cases hb : b = 46
    · subst hb
      have hd : isDigit (((46 : UInt8).toNat : Nat) : Int) = false := by decide
      rw [hd, if_pos rfl, numP_sp l [] (d + 1) rfl, List.all_cons, isNum_ok h]
      have hp := sp_pos l []
      have e1 : decide (0 < d + 1 + ((sp [] l).length - 1)) = true := by simp; omega
      simp [e1]
      omega
    · rw [if_neg hb]
      cases hd : isDigit (b.toNat : Int) with
      | true =>
        rw [if_pos rfl]
        exact numP_sp l _ d (by rw [List.all_append, h]; simp [hd])
      | false =>
        rw [sp_bad l (cur ++ [b]) (by rw [List.all_append]; simp [hd])]
        simp [hb]
theorem num_oid (l : List UInt8) : numP [] 0 l = isOid l := by
  rw [numP_sp l [] 0 rfl]
  unfold isOid
  rw [split_sp]
  have hp := sp_pos l []
  congr 1
  rw [decide_eq_decide]; omega
end Sy
end Go.Proofs.YthoealembhkaoaaGreatDoor
