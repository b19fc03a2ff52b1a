import Derived.Test.YthoealembhkaoaaGreatDoorFm04
namespace Go.Proofs.YthoealembhkaoaaGreatDoor
open Go.RowKit
namespace Sy
set_option linter.unusedVariables false
set_option maxRecDepth 100000

theorem alc_below (w : World) (o : Obj) : Below w.heap.size w (w.alloc o) := (Below.refl _ _).alloc (Nat.le_refl _) o
def withinR (r : Int) : List Int → Bool
  | a :: b :: l => (decide (a ≤ r) && decide (r ≤ b)) || withinR r l
  | _ => false
def IntsAt (w : World) (g : Nat) (l : List Int) : Prop := ∀ k (h : k < l.length), w.cell? ⟨g, k, none⟩ = some (.int .i32 l[k])
theorem ints_new (w : World) (l : List Int) (t : TypeId) : IntsAt (w.alloc (.cells (l.map (Value.int .i32)).toArray t)) w.heap.size l := fun j hj => by
  have : (w.alloc (.cells (l.map (Value.int .i32)).toArray t)).heap[w.heap.size]? = some (.cells (l.map (Value.int .i32)).toArray t) := heap_alloc_new w _
  unfold World.cell?
  rw [this]
  simp [hj]
theorem within_step {r a b : Int} {l : List Int} {i : Nat} (h : i + 1 < l.length) (ha : l[i] = a) (hb : l[i + 1] = b) : withinR r (l.drop i) = ((decide (a ≤ r) && decide (r ≤ b)) || withinR r (l.drop (i + 2))) := by
  rw [List.drop_eq_getElem_cons (by omega : i < l.length), List.drop_eq_getElem_cons h, ha, hb]
  rfl
theorem within_end {r : Int} {l : List Int} {i : Nat} (h : ¬ i + 1 < l.length) : withinR r (l.drop i) = false := by
  have : (l.drop i).length ≤ 1 := by simp; omega
  generalize l.drop i = d at *
  rcases d with _ | ⟨a, _ | ⟨b, m⟩⟩
  · rfl
  · rfl
  · simp at this
set_option maxHeartbeats 1000000 in
theorem within_calls (r : Int) (l : List Int) (g c : Nat) (w : World) (hl : l.length ≤ 100) (hc : IntsAt w g l) :
    Calls Tryz.prog 154 #[.int .i32 r, .slice (some ⟨g, 0, none⟩) l.length c] w fun e w' => e = .returned (.bool (withinR r l)) ∧ w' = w := by
  obtain ⟨res, hres⟩ : ∃ res, withinR r l = res := ⟨_, rfl⟩
  rw [hres]
  have Hres := Lib.hid hres
  have HC := Lib.hid hc
  clear hres hc
  go_enter Tryz.func154, Tryz.ntmps154
  go_wp2_with fail
  go_loopg [5] (l.length + 1) (fun k iv wr => (∃ i : Nat, i ≤ l.length + 1 ∧ l.length + 1 - i ≤ k ∧ iv = .int .i64 i ∧ Hid (withinR r (l.drop i) = res)) ∧ wr = w)
  case atStart => exact ⟨⟨0, Nat.zero_le _, Nat.le_refl _, rfl, Hres.out⟩, rfl⟩
  case round =>
    obtain ⟨⟨i, hi, hk, rfl, hI⟩, hw⟩ := hrel
    have hw := hw.symm
    subst hw
    by_cases hlt : i + 1 < l.length
    · have c0 := HC.out i (by omega)
      have c1 := HC.out (i + 1) hlt
      obtain ⟨a, ha⟩ : ∃ a, l[i] = a := ⟨_, rfl⟩
      obtain ⟨b, hb⟩ : ∃ b, l[i + 1] = b := ⟨_, rfl⟩
      have hs := within_step (r := r) hlt ha hb
      rw [ha] at c0
      rw [hb] at c1
      clear ha hb
      have hlt' : (i : Int) + 1 < (l.length : Int) := by omega
      by_cases h1 : a ≤ r
      · by_cases h2 : r ≤ b
        · have hn : Hid (res = true) := by
            show res = true
            rw [← hI.out, hs]; simp [h1, h2]
          go_wp2_with fail
          go_ret
          exact ⟨by rw [hn.out]; rfl, rfl⟩
        · have hn : Hid (withinR r (l.drop (i + 2)) = res) := by
            show _ = res
            rw [← hI.out, hs]; simp [h2]
          go_wp2_with fail
          go_roundg (l.length + 1 - (i + 2))
          case measure => omega
          case rel => exact ⟨⟨i + 2, by omega, Nat.le_refl _, by go_num, hn.out⟩, rfl⟩
      · have hn : Hid (withinR r (l.drop (i + 2)) = res) := by
          show _ = res
          rw [← hI.out, hs]; simp [h1]
        go_wp2_with fail
        go_roundg (l.length + 1 - (i + 2))
        case measure => omega
        case rel => exact ⟨⟨i + 2, by omega, Nat.le_refl _, by go_num, hn.out⟩, rfl⟩
    · have hn : Hid (res = false) := by
        show res = false
        rw [← hI.out]; exact within_end hlt
      have hlt' : ¬ (i : Int) + 1 < (l.length : Int) := by omega
      go_wp2_with fail
      go_ret
      exact ⟨by rw [hn.out]; rfl, rfl⟩
def blankL : List Int := [9, 13, 0x85, 0x85, 0xA0, 0xA0, 0x1680, 0x1680, 0x2000, 0x200A, 0x2028, 0x2029, 0x202F, 0x202F, 0x205F, 0x205F, 0x3000, 0x3000]
def goesL : List Int := [0, 31, 127, 0x9F, 0xAD, 0xAD, 0x34F, 0x34F, 0x1806, 0x1806, 0x180B, 0x180E, 0x200B, 0x200F, 0x202A, 0x202E, 0x2060, 0x206F, 0xFE00, 0xFE0F, 0xFEFF, 0xFEFF, 0xFFF9, 0xFFFC]
def badL : List Int := [0xD800, 0xF8FF, 0xFFFD, 0xFFFF]
theorem blank_eq (r : Int) : withinR r blankL = isBlank r := by
  rw [Bool.eq_iff_iff]
  simp only [blankL, withinR, isBlank, Bool.or_eq_true, Bool.and_eq_true, decide_eq_true_eq, Bool.false_eq_true, or_false]
  omega
theorem goes_eq (r : Int) : withinR r goesL = goes r := by
  rw [Bool.eq_iff_iff]
  simp only [goesL, withinR, goes, Bool.or_eq_true, Bool.and_eq_true, decide_eq_true_eq, Bool.false_eq_true, or_false]
  omega
theorem bad_eq (r : Int) : (decide (r < 0) || decide (983040 ≤ r) || withinR r badL) = refused r := by
  rw [Bool.eq_iff_iff]
  simp only [badL, withinR, refused, Bool.or_eq_true, Bool.and_eq_true, decide_eq_true_eq, Bool.false_eq_true, or_false]
  omega
/-- What becomes of a character, by a number. -/
def rMap (r : Int) : Int × Int := if isBlank r then (32, 0) else if goes r then (0, 1) else if refused r then (0, 2) else (r, 0)
set_option maxHeartbeats 2000000 in
theorem rMap_calls (r : Int) (w : World) :
    Calls Tryz.prog 122 #[.int .i32 r] w fun e w' => e = .returned (.tuple #[.int .i32 (rMap r).1, .int .i64 (rMap r).2]) ∧ Below w.heap.size w w' := by
  have h1 := within_calls r blankL w.heap.size 18 (w.alloc (.cells (blankL.map (Value.int .i32)).toArray 21)) (by decide) (ints_new w blankL 21)
  have h2 := fun W : World => within_calls r goesL W.heap.size 24 (W.alloc (.cells (goesL.map (Value.int .i32)).toArray 21)) (by decide) (ints_new W goesL 21)
  have h3 := fun W : World => within_calls r badL W.heap.size 4 (W.alloc (.cells (badL.map (Value.int .i32)).toArray 21)) (by decide) (ints_new W badL 21)
  have e3 := bad_eq r
  rw [blank_eq] at h1
  simp only [goes_eq] at h2
  have H1 := Lib.hid h1
  have H2 := Lib.hid h2
  have H3 := Lib.hid h3
  unfold rMap
  cases hb : isBlank r with
  | true =>
    rw [hb] at h1
    simp only [if_true]
    clear h2 h3 hb e3 H1 H2 H3
    go_enter Tryz.func122, Tryz.ntmps122
    go_wp2_with fail
    refine h1.mono ?_
    rintro e w1 ⟨rfl, rfl⟩
    go_wp2_with fail
    go_ret2
    exact ⟨rfl, alc_below _ _⟩
  | false =>
    rw [hb] at h1
    simp only [Bool.false_eq_true, if_false]
    cases hg : goes r with
    | true =>
      simp only [hg] at h2
      simp only [if_true]
      clear h3 hb hg e3 H1 H2 H3
      go_enter Tryz.func122, Tryz.ntmps122
      go_wp2_with fail
      refine h1.mono ?_
      rintro e w1 ⟨rfl, hw⟩
      have hb1 := alc_below w (.cells (blankL.map (Value.int .i32)).toArray 21)
      rw [← hw] at hb1
      clear hw h1
      go_wp2_with fail
      refine (h2 _).mono ?_
      rintro e w2 ⟨rfl, hw⟩
      have hb2 := hb1.alloc hb1.size (.cells (goesL.map (Value.int .i32)).toArray 21)
      rw [← hw] at hb2
      clear hw h2 hb1
      go_wp2_with fail
      go_ret2
      exact ⟨rfl, hb2⟩
    | false =>
      simp only [hg] at h2
      simp only [Bool.false_eq_true, if_false]
      clear hb hg H1 H2 H3
      by_cases l1 : r < 0
      · have hf : refused r = true := by rw [← e3]; simp [l1]
        simp only [hf, if_true]
        clear h3 e3 hf
        go_enter Tryz.func122, Tryz.ntmps122
        go_wp2_with fail
        refine h1.mono ?_
        rintro e w1 ⟨rfl, hw⟩
        have hb1 := alc_below w (.cells (blankL.map (Value.int .i32)).toArray 21)
        rw [← hw] at hb1
        clear hw h1
        go_wp2_with fail
        refine (h2 _).mono ?_
        rintro e w2 ⟨rfl, hw⟩
        have hb2 := hb1.alloc hb1.size (.cells (goesL.map (Value.int .i32)).toArray 21)
        rw [← hw] at hb2
        clear hw h2 hb1
        go_wp2_with fail
        go_ret2
        exact ⟨rfl, hb2⟩
      by_cases l2 : 983040 ≤ r
      · have hf : refused r = true := by rw [← e3]; simp [l2]
        simp only [hf, if_true]
        clear h3 e3 hf
        go_enter Tryz.func122, Tryz.ntmps122
        go_wp2_with fail
        refine h1.mono ?_
        rintro e w1 ⟨rfl, hw⟩
        have hb1 := alc_below w (.cells (blankL.map (Value.int .i32)).toArray 21)
        rw [← hw] at hb1
        clear hw h1
        go_wp2_with fail
        refine (h2 _).mono ?_
        rintro e w2 ⟨rfl, hw⟩
        have hb2 := hb1.alloc hb1.size (.cells (goesL.map (Value.int .i32)).toArray 21)
        rw [← hw] at hb2
        clear hw h2 hb1
        go_wp2_with fail
        go_ret2
        exact ⟨rfl, hb2⟩
      have e3 : withinR r badL = refused r := by rw [← e3]; simp [l1, l2]
      simp only [e3] at h3
      clear e3
      cases hf : refused r
      all_goals
        simp only [hf] at h3
        simp only [Bool.false_eq_true, if_false, if_true]
        clear hf
        go_enter Tryz.func122, Tryz.ntmps122
        go_wp2_with fail
        refine h1.mono ?_
        rintro e w1 ⟨rfl, hw⟩
        have hb1 := alc_below w (.cells (blankL.map (Value.int .i32)).toArray 21)
        rw [← hw] at hb1
        clear hw h1
        go_wp2_with fail
        refine (h2 _).mono ?_
        rintro e w2 ⟨rfl, hw⟩
        have hb2 := hb1.alloc hb1.size (.cells (goesL.map (Value.int .i32)).toArray 21)
        rw [← hw] at hb2
        clear hw h2 hb1
        go_wp2_with fail
        refine (h3 _).mono ?_
        rintro e w3 ⟨rfl, hw⟩
        have hb3 := hb2.alloc hb2.size (.cells (badL.map (Value.int .i32)).toArray 21)
        rw [← hw] at hb3
        clear hw h3 hb2
        go_wp2_with fail
        go_ret2
        exact ⟨rfl, hb3⟩
def greatL : List Int := [65, 90, 0xC0, 0xD6, 0xD8, 0xDE, 0x391, 0x3A1, 0x3A3, 0x3A9, 0x410, 0x42F]
def kyrL : List Int := [0x400, 0x40F]
def evenL : List Int := [0x100, 0x137, 0x14A, 0x177]
theorem great_eq (r : Int) : withinR r greatL = decide (65 ≤ r ∧ r ≤ 90 ∨ 0xC0 ≤ r ∧ r ≤ 0xDE ∧ r ≠ 0xD7 ∨ 0x391 ≤ r ∧ r ≤ 0x3A9 ∧ r ≠ 0x3A2 ∨ 0x410 ≤ r ∧ r ≤ 0x42F) := by
  rw [Bool.eq_iff_iff]
  simp only [greatL, withinR, Bool.or_eq_true, Bool.and_eq_true, decide_eq_true_eq, Bool.false_eq_true, or_false]
  omega
theorem kyr_eq (r : Int) : withinR r kyrL = decide (0x400 ≤ r ∧ r ≤ 0x40F) := by
  rw [Bool.eq_iff_iff]
  simp only [kyrL, withinR, Bool.or_eq_true, Bool.and_eq_true, decide_eq_true_eq, Bool.false_eq_true, or_false]
theorem even_eq (r : Int) : withinR r evenL = decide (0x100 ≤ r ∧ r ≤ 0x137 ∨ 0x14A ≤ r ∧ r ≤ 0x177) := by
  rw [Bool.eq_iff_iff]
  simp only [evenL, withinR, Bool.or_eq_true, Bool.and_eq_true, decide_eq_true_eq, Bool.false_eq_true, or_false]
set_option maxHeartbeats 4000000 in
theorem rFold_calls (r : Int) (w : World) (h0 : 0 ≤ r) (hr : r ≤ 0x10FFFF) :
    Calls Tryz.prog 123 #[.int .i32 r] w fun e w' => e = .returned (.int .i32 (foldR r)) ∧ Below w.heap.size w w' := by
  have h1 := within_calls r greatL w.heap.size 12 (w.alloc (.cells (greatL.map (Value.int .i32)).toArray 21)) (by decide) (ints_new w greatL 21)
  have h2 := fun W : World => within_calls r kyrL W.heap.size 2 (W.alloc (.cells (kyrL.map (Value.int .i32)).toArray 21)) (by decide) (ints_new W kyrL 21)
  have h3 := fun W : World => within_calls r evenL W.heap.size 4 (W.alloc (.cells (evenL.map (Value.int .i32)).toArray 21)) (by decide) (ints_new W evenL 21)
  rw [great_eq] at h1
  simp only [kyr_eq] at h2
  simp only [even_eq] at h3
  unfold foldR
  by_cases c1 : 65 ≤ r ∧ r ≤ 90 ∨ 0xC0 ≤ r ∧ r ≤ 0xDE ∧ r ≠ 0xD7 ∨ 0x391 ≤ r ∧ r ≤ 0x3A9 ∧ r ≠ 0x3A2 ∨ 0x410 ≤ r ∧ r ≤ 0x42F
  · rw [if_pos c1]
    rw [decide_eq_true c1] at h1
    clear h2 h3 c1
    go_enter Tryz.func123, Tryz.ntmps123
    go_wp2_with fail
    refine h1.mono ?_
    rintro e w1 ⟨rfl, rfl⟩
    go_wp2_with fail
    go_ret
    exact ⟨rfl, alc_below _ _⟩
  rw [if_neg c1]
  rw [decide_eq_false c1] at h1
  clear c1
  have hb1 := alc_below w (.cells (greatL.map (Value.int .i32)).toArray 21)
  by_cases c2 : 0x400 ≤ r ∧ r ≤ 0x40F
  · rw [if_pos c2]
    simp only [decide_eq_true c2] at h2
    clear h3 c2
    go_enter Tryz.func123, Tryz.ntmps123
    go_wp2_with fail
    refine h1.mono ?_
    rintro e w1 ⟨rfl, hw⟩
    rw [← hw] at hb1
    clear hw h1
    go_wp2_with fail
    refine (h2 _).mono ?_
    rintro e w2 ⟨rfl, hw⟩
    have hb2 := hb1.alloc hb1.size (.cells (kyrL.map (Value.int .i32)).toArray 21)
    rw [← hw] at hb2
    clear hw h2 hb1
    go_wp2_with fail
    go_ret
    exact ⟨rfl, hb2⟩
  rw [if_neg c2]
  simp only [decide_eq_false c2] at h2
  clear c2
  by_cases c3 : r = 0x1E9E
  · rw [if_pos c3]
    have q : (r == 7838) = true := by simpa using c3
    clear h3 c3
    go_enter Tryz.func123, Tryz.ntmps123
    go_wp2_with fail
    refine h1.mono ?_
    rintro e w1 ⟨rfl, hw⟩
    rw [← hw] at hb1
    clear hw h1
    go_wp2_with fail
    refine (h2 _).mono ?_
    rintro e w2 ⟨rfl, hw⟩
    have hb2 := hb1.alloc hb1.size (.cells (kyrL.map (Value.int .i32)).toArray 21)
    rw [← hw] at hb2
    clear hw h2 hb1
    go_wp2_with fail
    go_ret
    exact ⟨rfl, hb2⟩
  rw [if_neg c3]
  have q : (r == 7838) = false := by simpa using c3
  clear c3
  by_cases c4 : 0x100 ≤ r ∧ r ≤ 0x137 ∨ 0x14A ≤ r ∧ r ≤ 0x177
  · simp only [decide_eq_true c4] at h3
    by_cases c5 : r % 2 = 0
    · rw [if_pos ⟨c4, c5⟩]
      have q5 : (r % 2 == 0) = true := by simpa using c5
      have hle : r ≤ 0x177 := by omega
      clear c4 c5
      go_enter Tryz.func123, Tryz.ntmps123
      go_wp2_with fail
      refine h1.mono ?_
      rintro e w1 ⟨rfl, hw⟩
      rw [← hw] at hb1
      clear hw h1
      go_wp2_with fail
      refine (h2 _).mono ?_
      rintro e w2 ⟨rfl, hw⟩
      have hb2 := hb1.alloc hb1.size (.cells (kyrL.map (Value.int .i32)).toArray 21)
      rw [← hw] at hb2
      clear hw h2 hb1
      go_wp2_with fail
      refine (h3 _).mono ?_
      rintro e w3 ⟨rfl, hw⟩
      have hb3 := hb2.alloc hb2.size (.cells (evenL.map (Value.int .i32)).toArray 21)
      rw [← hw] at hb3
      clear hw h3 hb2
      go_wp2_with fail
      go_ret
      exact ⟨rfl, hb3⟩
    · rw [if_neg (fun h => c5 h.2)]
      have q5 : (r % 2 == 0) = false := by simpa using c5
      clear c4 c5
      go_enter Tryz.func123, Tryz.ntmps123
      go_wp2_with fail
      refine h1.mono ?_
      rintro e w1 ⟨rfl, hw⟩
      rw [← hw] at hb1
      clear hw h1
      go_wp2_with fail
      refine (h2 _).mono ?_
      rintro e w2 ⟨rfl, hw⟩
      have hb2 := hb1.alloc hb1.size (.cells (kyrL.map (Value.int .i32)).toArray 21)
      rw [← hw] at hb2
      clear hw h2 hb1
      go_wp2_with fail
      refine (h3 _).mono ?_
      rintro e w3 ⟨rfl, hw⟩
      have hb3 := hb2.alloc hb2.size (.cells (evenL.map (Value.int .i32)).toArray 21)
      rw [← hw] at hb3
      clear hw h3 hb2
      go_wp2_with fail
      go_ret
      exact ⟨rfl, hb3⟩
  · simp only [decide_eq_false c4] at h3
    rw [if_neg (fun h => c4 h.1)]
    clear c4
    go_enter Tryz.func123, Tryz.ntmps123
    go_wp2_with fail
    refine h1.mono ?_
    rintro e w1 ⟨rfl, hw⟩
    rw [← hw] at hb1
    clear hw h1
    go_wp2_with fail
    refine (h2 _).mono ?_
    rintro e w2 ⟨rfl, hw⟩
    have hb2 := hb1.alloc hb1.size (.cells (kyrL.map (Value.int .i32)).toArray 21)
    rw [← hw] at hb2
    clear hw h2 hb1
    go_wp2_with fail
    refine (h3 _).mono ?_
    rintro e w3 ⟨rfl, hw⟩
    have hb3 := hb2.alloc hb2.size (.cells (evenL.map (Value.int .i32)).toArray 21)
    rw [← hw] at hb3
    clear hw h3 hb2
    go_wp2_with fail
    go_ret
    exact ⟨rfl, hb3⟩
end Sy
end Go.Proofs.YthoealembhkaoaaGreatDoor
