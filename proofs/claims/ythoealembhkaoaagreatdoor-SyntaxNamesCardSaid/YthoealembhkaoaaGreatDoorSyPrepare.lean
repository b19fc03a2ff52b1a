import Derived.Test.YthoealembhkaoaaGreatDoorSyPrep
namespace Go.Proofs.YthoealembhkaoaaGreatDoor
open Go.RowKit
namespace Sy
set_option linter.unusedVariables false

/-- A text, prepared. -/
def prepR (fold : Bool) (l : List UInt8) : Option (List UInt8) :=
  match mapped fold l with
  | none => none
  | some t => if Lib.trimB t 32 = [] ∧ l ≠ [] then some [32] else some (Lib.trimB t 32)

theorem mapGo_len (fold : Bool) : ∀ (n : Nat) (acc l t : List UInt8), mapGo fold n acc l = some t → t.length ≤ acc.length + 4 * l.length
  | 0, acc, l, t, h => by simp only [mapGo] at h; injection h with h; subst h; omega
  | n + 1, acc, l, t, h => by
    simp only [mapGo] at h
    split at h
    · injection h with h; subst h; omega
    · rename_i hne
      have hw := Lib.decodeL_width l
      have hl : 0 < l.length := by cases l with | nil => exact absurd rfl hne | cons _ _ => simp
      split at h
      · cases h
      · split at h
        · have := mapGo_len fold n _ _ _ h
          simp at this; omega
        · have h1 := mapGo_len fold n _ _ _ h
          have h2 : (runeB (laidR fold (mapR ((Lib.decodeL l).1 : Int)).1)).length ≤ 4 := runeB_le _
          simp at h1; omega
theorem mapped_len {fold : Bool} {l t : List UInt8} (h : mapped fold l = some t) : t.length ≤ 4 * l.length := by
  unfold mapped at h
  split at h
  · simpa using mapGo_len fold _ _ _ _ h
  · cases h

set_option maxHeartbeats 1000000 in
theorem prepare_calls (s : ByteArray) (fold : Bool) (w : World) (hs : s.size ≤ 4294967296) (he : Env w) :
    Calls Tryz.prog 34 #[.string s, .bool fold] w fun e w' => e = .returned (mappedV (prepR fold s.data.toList)) ∧ Below w.heap.size w w' := by
  have hm := mapped_calls s fold w hs he
  unfold prepR
  have hml := fun t (h : mapped fold s.data.toList = some t) => mapped_len h
  generalize mapped fold s.data.toList = M at *
  cases M with
  | none =>
    clear hml
    go_enter Tryz.func34, Tryz.ntmps34
    go_wp2_with fail
    refine hm.mono ?_
    rintro e w1 ⟨rfl, hb⟩
    clear hm
    simp only [mappedV]
    go_wp2_with fail
    go_ret2
    exact ⟨rfl, hb⟩
  | some t =>
    have htl := hml t rfl
    have htr := fun W => Tryz.strings_Trim_one ⟨t.toArray⟩ 32 (by decide) W (by simp at htl ⊢; show t.length ≤ _; omega)
    simp only at htr
    clear hml
    by_cases hc : Lib.trimB t 32 = [] ∧ s.data.toList ≠ []
    · rw [hc.1] at htr
      have q1 : s.toList.isEmpty = false := toList_ne s hc.2
      simp only [hc.1, hc.2, ne_eq, not_false_eq_true, and_self, if_true]
      clear hc
      go_enter Tryz.func34, Tryz.ntmps34
      go_wp2_with fail
      refine hm.mono ?_
      rintro e w1 ⟨rfl, hb⟩
      clear hm
      simp only [mappedV, strV]
      go_wp2_with fail
      refine (htr _).mono ?_
      rintro e w2 ⟨rfl, hw⟩
      go_wp2_with fail
      have hb2 : Below w.heap.size w w2 := by
        rcases hw with rfl | rfl
        · exact hb
        · exact hb.drew
      go_ret2
      exact ⟨rfl, hb2⟩
    · simp only [if_neg hc]
      generalize Lib.trimB t 32 = u at *
      rcases u with _ | ⟨x, u⟩
      · have q0 : s.data.toList = [] := by
          rcases Decidable.em (s.data.toList = []) with h | h
          · exact h
          · exact absurd ⟨rfl, h⟩ hc
        have q1 : s.toList.isEmpty = true := toList_nil s q0
        clear hc q0
        go_enter Tryz.func34, Tryz.ntmps34
        go_wp2_with fail
        refine hm.mono ?_
        rintro e w1 ⟨rfl, hb⟩
        clear hm
        simp only [mappedV, strV]
        go_wp2_with fail
        refine (htr _).mono ?_
        rintro e w2 ⟨rfl, hw⟩
        go_wp2_with fail
        have hb2 : Below w.heap.size w w2 := by
          rcases hw with rfl | rfl
          · exact hb
          · exact hb.drew
        go_ret2
        exact ⟨rfl, hb2⟩
      · have q1 : (⟨(x :: u).toArray⟩ : ByteArray).toList.isEmpty = false := toList_ne _ (by simp)
        clear hc
        go_enter Tryz.func34, Tryz.ntmps34
        go_wp2_with fail
        refine hm.mono ?_
        rintro e w1 ⟨rfl, hb⟩
        clear hm
        simp only [mappedV, strV]
        go_wp2_with fail
        refine (htr _).mono ?_
        rintro e w2 ⟨rfl, hw⟩
        go_wp2_with fail
        have hb2 : Below w.heap.size w w2 := by
          rcases hw with rfl | rfl
          · exact hb
          · exact hb.drew
        go_ret2
        exact ⟨rfl, hb2⟩
end Sy
end Go.Proofs.YthoealembhkaoaaGreatDoor
