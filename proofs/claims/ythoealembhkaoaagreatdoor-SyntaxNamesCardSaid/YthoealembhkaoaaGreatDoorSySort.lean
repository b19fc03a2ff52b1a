import Derived.Test.YthoealembhkaoaaGreatDoorSyPrint
import Derived.Shelf.SlSortCmp.SmallK
namespace Go.Proofs.YthoealembhkaoaaGreatDoor
open Go.RowKit Go.Shelf Go.Lib Go.Sort
namespace Sy
set_option linter.unusedVariables false

/-- The library's insertion sort lies at function 201. -/
def sortRen : Go.Shelf.Ren := ⟨fun | 20 => 201 | n => n, fun | 22 => 82 | 24 => 85 | 25 => 120 | n => n, fun | n => n⟩
theorem sortLays : SlLaysF0.n20 Tryz.prog sortRen := {
  mixed := by kernel_rfl
  f20 := ⟨"slices.insertionSortCmpFunc[chancery/api.Ava]", by decide, Tryz.func201.trans (congrArg some (by kernel_rfl))⟩
  t0 := Tryz.underlying0
  a0 := Tryz.isAgg0
  z0 := Tryz.sizeOf0
  v0 := Tryz.zeroValue0
  t3 := Tryz.underlying3
  a3 := Tryz.isAgg3
  z3 := Tryz.sizeOf3
  v3 := Tryz.zeroValue3
  t4 := Tryz.underlying4
  a4 := Tryz.isAgg4
  z4 := Tryz.sizeOf4
  v4 := Tryz.zeroValue4
  t22 := Tryz.underlying82
  a22 := Tryz.isAgg82
  z22 := Tryz.sizeOf82
  v22 := Tryz.zeroValue82
  t25 := Tryz.underlying120
  a25 := Tryz.isAgg120
  z25 := Tryz.sizeOf120
  v25 := Tryz.zeroValue120 }

def orR (x y : Int) : Int := if x = 0 then y else x
set_option maxHeartbeats 1000000 in
theorem or_calls (W : World) (g c : Nat) (x y : Int) (h0 : W.cell? ⟨g, 0, none⟩ = some (.int .i64 x)) (h1 : W.cell? ⟨g, 1, none⟩ = some (.int .i64 y)) :
    Calls Tryz.prog 58 #[.slice (some ⟨g, 0, none⟩) 2 c] W fun e w' => e = .returned (.int .i64 (orR x y)) ∧ w' = W := by
  unfold orR
  go_enter Tryz.func58, Tryz.ntmps58
  go_wp2_with fail
  go_loopg [8] 2 (fun k iv wr => (∃ i : Nat, i ≤ 2 ∧ 2 - i ≤ k ∧ iv = .int .i64 i ∧ (0 < i → x = 0) ∧ (1 < i → y = 0)) ∧ wr = W)
  case atStart => exact ⟨⟨0, by omega, by omega, rfl, fun h => by omega, fun h => by omega⟩, rfl⟩
  case round =>
    obtain ⟨⟨i, hi, hk, rfl, hx, hy⟩, rfl⟩ := hrel
    rcases (by omega : i = 0 ∨ i = 1 ∨ i = 2) with rfl | rfl | rfl
    · by_cases hx0 : x = 0
      · subst hx0
        go_wp2_with fail
        go_roundg 1
        case measure => omega
        case rel => exact ⟨⟨1, by omega, by omega, rfl, fun _ => (by first | trivial | rfl), fun h => absurd h (by decide)⟩, rfl⟩
      · have q : (x == 0) = false := by simpa using hx0
        go_wp2_with fail
        go_ret
        exact ⟨rfl, rfl⟩
    · have hx1 := hx (by omega)
      clear hx hy
      subst hx1
      by_cases hy0 : y = 0
      · subst hy0
        go_wp2_with fail
        go_roundg 0
        case measure => omega
        case rel => exact ⟨⟨2, by omega, by omega, rfl, fun _ => (by first | trivial | rfl), fun _ => (by first | trivial | rfl)⟩, rfl⟩
      · have q : (y == 0) = false := by simpa using hy0
        go_wp2_with fail
        go_ret
        exact ⟨ret_int (by simp), rfl⟩
    · have hx1 := hx (by omega)
      have hy1 := hy (by omega)
      clear hx hy
      subst hx1 hy1
      go_wp2_with fail
      go_ret
      exact ⟨ret_int (by simp), rfl⟩
/-- The order of two pairs. -/
def cmpPair (a b : Pair) : Int := orR (Lib.compareBytes a.1 b.1) (Lib.compareBytes a.2 b.2)
set_option maxRecDepth 100000 in
set_option maxHeartbeats 1000000 in
theorem cmpPair_calls (a b : Pair) (w : World) :
    Calls Tryz.prog 179 #[avaV a, avaV b] w fun e w' => e = .returned (.int .i64 (cmpPair a b)) ∧ ∃ q os', w' = grow (w.drewN q) os' := by
  obtain ⟨a1, a2⟩ := a
  obtain ⟨b1, b2⟩ := b
  unfold cmpPair avaV strV
  simp only
  have hc1 := fun W => compare_calls ⟨a1.toArray⟩ ⟨b1.toArray⟩ W
  have hc2 := fun W => compare_calls ⟨a2.toArray⟩ ⟨b2.toArray⟩ W
  simp only at hc1 hc2
  generalize Lib.compareBytes a1 b1 = x at *
  generalize Lib.compareBytes a2 b2 = y at *
  generalize (⟨a1.toArray⟩ : ByteArray) = A1 at *
  generalize (⟨a2.toArray⟩ : ByteArray) = A2 at *
  generalize (⟨b1.toArray⟩ : ByteArray) = B1 at *
  generalize (⟨b2.toArray⟩ : ByteArray) = B2 at *
  go_enter Tryz.func179, Tryz.ntmps179
  go_wp2_with fail
  have d0 : ((w.alloc (.cells #[.string A1, .string A2] 85)).alloc (.cells #[.string B1, .string B2] 85)).cell? ⟨w.heap.size, 0, none⟩ = some (.string A1) := by simp [go_sem]
  have d1 : ((w.alloc (.cells #[.string A1, .string A2] 85)).alloc (.cells #[.string B1, .string B2] 85)).cell? ⟨w.heap.size, 1, none⟩ = some (.string A2) := by simp [go_sem]
  have d2 : ((w.alloc (.cells #[.string A1, .string A2] 85)).alloc (.cells #[.string B1, .string B2] 85)).cell? ⟨w.heap.size + 1, 0, none⟩ = some (.string B1) := by simp [go_sem]
  have d3 : ((w.alloc (.cells #[.string A1, .string A2] 85)).alloc (.cells #[.string B1, .string B2] 85)).cell? ⟨w.heap.size + 1, 1, none⟩ = some (.string B2) := by simp [go_sem]
  have hb : ∀ o, (((w.alloc (.cells #[.string A1, .string A2] 85)).alloc (.cells #[.string B1, .string B2] 85)).alloc o).drew = grow (w.drewN 1) #[.cells #[.string A1, .string A2] 85, .cells #[.string B1, .string B2] 85, o] := fun o => by
    simp only [grow, World.alloc, World.drew, World.drewN]
    congr 1
  generalize (w.alloc (.cells #[.string A1, .string A2] 85)).alloc (.cells #[.string B1, .string B2] 85) = W at *
  have HB := Lib.hid hb
  clear hb
  have hor := fun g c (V : World) h0 h1 => or_calls V g c x y h0 h1
  have hd : W.drew.cell? ⟨w.heap.size, 0, none⟩ = some (.string A1) ∧ W.drew.cell? ⟨w.heap.size, 1, none⟩ = some (.string A2) ∧ W.drew.cell? ⟨w.heap.size + 1, 0, none⟩ = some (.string B1) ∧ W.drew.cell? ⟨w.heap.size + 1, 1, none⟩ = some (.string B2) := ⟨d0, d1, d2, d3⟩
  have hal : ∀ a v, W.drew.cell? a = some v → (W.drew.alloc (.cells #[.int .i64 x, .int .i64 y] 3)).cell? a = some v := fun a v h => (Below.cell ((Below.refl W.drew.heap.size W.drew).alloc (Nat.le_refl _) _) (World.block_lt_of_cell? _ a h)).trans h
  have hda : (W.drew.alloc (.cells #[.int .i64 x, .int .i64 y] 3)).cell? ⟨w.heap.size, 0, none⟩ = some (.string A1) ∧ (W.drew.alloc (.cells #[.int .i64 x, .int .i64 y] 3)).cell? ⟨w.heap.size, 1, none⟩ = some (.string A2) ∧ (W.drew.alloc (.cells #[.int .i64 x, .int .i64 y] 3)).cell? ⟨w.heap.size + 1, 0, none⟩ = some (.string B1) ∧ (W.drew.alloc (.cells #[.int .i64 x, .int .i64 y] 3)).cell? ⟨w.heap.size + 1, 1, none⟩ = some (.string B2) := ⟨hal _ _ d0, hal _ _ d1, hal _ _ d2, hal _ _ d3⟩
  clear hal
  go_region_held3 (fun V : World => V.cell? ⟨w.heap.size, 0, none⟩ = some (.string A1) ∧ V.cell? ⟨w.heap.size, 1, none⟩ = some (.string A2) ∧ V.cell? ⟨w.heap.size + 1, 0, none⟩ = some (.string B1) ∧ V.cell? ⟨w.heap.size + 1, 1, none⟩ = some (.string B2)) (first | exact hd | exact hda) (first | (go_at_call 33; refine (hc1 _).mono ?_; rintro e w9 ⟨rfl, rfl⟩) | (go_at_call 33; refine (hc2 _).mono ?_; rintro e w9 ⟨rfl, rfl⟩) | (go_at_call 58; refine (hor _ _ _ (by simp [go_sem]) (by simp [go_sem])).mono ?_; rintro e w9 ⟨rfl, rfl⟩))
  all_goals
    go_wp2_with fail
    go_ret
    exact ⟨rfl, _, _, HB.out _⟩
end Sy
end Go.Proofs.YthoealembhkaoaaGreatDoor
