import Derived.Test.YthoealembhkaoaaGreatDoorSyLaw1
import Derived.Test.YthoealembhkaoaaGreatDoorSyTwice
namespace Go.Proofs.YthoealembhkaoaaGreatDoor
open Go.RowKit
namespace Sy
set_option linter.unusedVariables false
set_option maxRecDepth 100000

/-- Texts lie in a row. -/
def StrsAt (w : World) (g : Nat) (l : List ByteArray) : Prop := ∀ j (h : j < l.length), w.cell? ⟨g, j, none⟩ = some (.string l[j])
theorem StrsAt.below {w w' : World} {g : Nat} {l : List ByteArray} (h : StrsAt w g l) (hb : Below w.heap.size w w') : StrsAt w' g l := fun j hj =>
  (hb.cell (World.block_lt_of_cell? _ _ (h j hj))).trans (h j hj)
theorem strs_new (w : World) (l : List ByteArray) (t : TypeId) : StrsAt (w.alloc (.cells (l.map Value.string).toArray t)) w.heap.size l := fun j hj => by
  have : (w.alloc (.cells (l.map Value.string).toArray t)).heap[w.heap.size]? = some (.cells (l.map Value.string).toArray t) := heap_alloc_new w _
  unfold World.cell?
  rw [this]
  simp [hj]
def eqNames : List ByteArray := [⟨#[111, 99, 116, 101, 116, 83, 116, 114, 105, 110, 103, 77, 97, 116, 99, 104]⟩, ⟨#[99, 97, 115, 101, 69, 120, 97, 99, 116, 77, 97, 116, 99, 104]⟩, ⟨#[99, 97, 115, 101, 73, 103, 110, 111, 114, 101, 77, 97, 116, 99, 104]⟩, ⟨#[105, 110, 116, 101, 103, 101, 114, 77, 97, 116, 99, 104]⟩, ⟨#[98, 111, 111, 108, 101, 97, 110, 77, 97, 116, 99, 104]⟩, ⟨#[100, 105, 115, 116, 105, 110, 103, 117, 105, 115, 104, 101, 100, 78, 97, 109, 101, 77, 97, 116, 99, 104]⟩, ⟨#[111, 98, 106, 101, 99, 116, 73, 100, 101, 110, 116, 105, 102, 105, 101, 114, 77, 97, 116, 99, 104]⟩, ⟨#[103, 101, 110, 101, 114, 97, 108, 105, 122, 101, 100, 84, 105, 109, 101, 77, 97, 116, 99, 104]⟩]
theorem equality_calls (w : World) : Calls Tryz.prog 20 #[] w fun e w' => e = .returned (.slice (some ⟨w.heap.size, 0, none⟩) 8 8) ∧ StrsAt w' w.heap.size eqNames ∧ Below w.heap.size w w' := by
  go_enter Tryz.func20, Tryz.ntmps20
  go_wp2_with fail
  go_ret
  exact ⟨rfl, strs_new w eqNames 9, alloc_below _ _⟩
theorem eq_ask : ∀ j (h : j < eqNames.length), ∃ b, askR (small eqNames[j].data.toList) 0 = some (b, .eq)
  | 0, _ => ⟨.octet, rfl⟩
  | 1, _ => ⟨.exact, rfl⟩
  | 2, _ => ⟨.ignore, rfl⟩
  | 3, _ => ⟨.integer, rfl⟩
  | 4, _ => ⟨.boolean, rfl⟩
  | 5, _ => ⟨.dn, rfl⟩
  | 6, _ => ⟨.oid, rfl⟩
  | 7, _ => ⟨.time, rfl⟩
  | j + 8, h => absurd h (by simp [eqNames])
theorem eq_size : ∀ j (h : j < eqNames.length), eqNames[j].size ≤ 9223372036854775807 := by
  intro j h
  have : ∀ n ∈ eqNames, n.size ≤ 9223372036854775807 := by decide
  exact this _ (List.getElem_mem h)
theorem normF_of {n : List UInt8} {b : Base} (h : askR (small n) 0 = some (b, .eq)) (v : List UInt8) : normF n v = match normB b v with | none => (none, 40) | some s => (some s, 0) := by
  unfold normF; rw [h]; rfl
theorem sameF_of {n : List UInt8} {b : Base} (h : askR (small n) 0 = some (b, .eq)) {x y s t : List UInt8} (hx : normB b x = some s) (hy : normB b y = some t) : sameF n x y = (s == t, 0) := by
  unfold sameF bothR; rw [h]; simp only [hx, hy]
set_option maxHeartbeats 4000000 in
theorem twice_go_calls (v : ByteArray) (w : World) (he : Env w) (hv : v.size ≤ 9223372036854775807) :
    Calls Tryz.prog 5 #[.string v] w fun e w' => e = .returned (.bool true) ∧ Below w.heap.size w w' := by
  have HE := Lib.hid he
  clear he
  go_enter Tryz.func5, Tryz.ntmps5
  go_wp2_with fail
  refine (equality_calls w).mono ?_
  rintro e w0 ⟨rfl, hs0, hb0⟩
  have HS := Lib.hid hs0
  have HB := Lib.hid hb0
  clear hs0 hb0
  go_wp2_with fail
  go_loopg [4] 8 (fun k iv wr => ∃ i : Nat, i ≤ 8 ∧ 8 - i ≤ k ∧ iv = .int .i64 i ∧ Hid (StrsAt wr w.heap.size eqNames) ∧ Hid (Below w.heap.size w wr))
  case atStart => exact ⟨0, Nat.zero_le _, Nat.le_refl _, rfl, HS.out, HB.out⟩
  case round =>
    obtain ⟨i, hi, hk, rfl, hst, hb⟩ := hrel
    by_cases hlt : i < 8
    · obtain ⟨b, hask⟩ := eq_ask i hlt
      have hsz := eq_size i hlt
      have c0 := hst.out i hlt
      generalize eqNames[i] = n at *
      have hn1 := norm_go_calls n v wr (HE.out.below hb.out) hsz hv
      have keep : ∀ W, Below wr.heap.size wr W → Below w.heap.size w W := fun W hW => hb.out.trans (hW.mono hb.out.size)
      rw [normF_of hask] at hn1
      cases hs : normB b v.data.toList with
      | none =>
        rw [hs] at hn1
        simp only [normFV, Option.getD, strV] at hn1
        clear hask hs
        go_wp2_with fail
        refine hn1.mono ?_
        rintro e w1 ⟨rfl, hb1⟩
        have HS1 := Lib.hid (hst.out.below hb1)
        have HB1 := Lib.hid (keep _ hb1)
        clear hn1 hb1 keep c0
        go_wp2_with fail
        go_roundg (8 - (i + 1))
        case measure => omega
        case rel => exact ⟨i + 1, by omega, Nat.le_refl _, by go_num, HS1.out, HB1.out⟩
      | some s =>
        rw [hs] at hn1
        simp only [normFV, Option.getD, strV] at hn1
        by_cases hl : s.length ≤ 1024
        · have hag := normB_again hs hl
          have hl' : ¬ (1024 : Int) < (s.length : Int) := by omega
          have h2 : ∀ W, Below wr.heap.size wr W → Calls Tryz.prog 15 #[.string n, .string ⟨s.toArray⟩] W _ := fun W hW => norm_go_calls n ⟨s.toArray⟩ W (HE.out.below (keep W hW)) hsz (by show s.toArray.size ≤ _; simp; omega)
          have h3 : ∀ W, Below wr.heap.size wr W → Calls Tryz.prog 17 #[.string n, .string v, .string ⟨s.toArray⟩] W _ := fun W hW => same_go_calls n v ⟨s.toArray⟩ W (HE.out.below (keep W hW)) hsz hv (by show s.toArray.size ≤ _; simp; omega)
          simp only [normF_of hask, hag, sameF_of hask hs hag] at h2 h3
          simp only [normFV, Option.getD, strV, sameFV, beq_self_eq_true] at h2 h3
          have H2 := Lib.hid h2
          have H3 := Lib.hid h3
          clear hask hs hag h2 h3
          go_wp2_with fail
          refine hn1.mono ?_
          rintro e w1 ⟨rfl, hb1⟩
          have d1 := (hb1.cell (World.block_lt_of_cell? _ _ c0)).trans c0
          have h2 := H2.out _ hb1
          clear hn1 c0 H2
          go_wp2_with fail
          refine h2.mono ?_
          rintro e w2 ⟨rfl, hb2⟩
          have d2 := (hb2.cell (World.block_lt_of_cell? _ _ d1)).trans d1
          have hb12 := hb1.trans (hb2.mono hb1.size)
          have h3 := H3.out _ hb12
          clear h2 d1 H3 hb1 hb2
          go_wp2_with fail
          refine h3.mono ?_
          rintro e w3 ⟨rfl, hb3⟩
          have hb13 := hb12.trans (hb3.mono hb12.size)
          have HS1 := Lib.hid (hst.out.below hb13)
          have HB1 := Lib.hid (keep _ hb13)
          clear h3 hb3 hb12 hb13 keep d2
          go_wp2_with fail
          go_roundg (8 - (i + 1))
          case measure => omega
          case rel => exact ⟨i + 1, by omega, Nat.le_refl _, by go_num, HS1.out, HB1.out⟩
        · have hl' : (1024 : Int) < (s.length : Int) := by omega
          clear hask hs
          go_wp2_with fail
          refine hn1.mono ?_
          rintro e w1 ⟨rfl, hb1⟩
          have HS1 := Lib.hid (hst.out.below hb1)
          have HB1 := Lib.hid (keep _ hb1)
          clear hn1 hb1 keep c0
          go_wp2_with fail
          go_roundg (8 - (i + 1))
          case measure => omega
          case rel => exact ⟨i + 1, by omega, Nat.le_refl _, by go_num, HS1.out, HB1.out⟩
    · have ei : i = 8 := by omega
      subst ei
      have hal := alive_calls wr (HE.out.below hb.out)
      go_wp2_with fail
      refine hal.mono ?_
      rintro e w1 ⟨rfl, hb1⟩
      have HB1 := Lib.hid (hb.out.trans (hb1.mono hb.out.size))
      clear hal hb1
      go_wp2_with fail
      go_ret
      exact ⟨rfl, HB1.out⟩
end Sy
end Go.Proofs.YthoealembhkaoaaGreatDoor
