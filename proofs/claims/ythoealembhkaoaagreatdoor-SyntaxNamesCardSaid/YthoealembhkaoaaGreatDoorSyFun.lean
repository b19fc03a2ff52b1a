import Derived.Test.YthoealembhkaoaaGreatDoorSyCompact
namespace Go.Proofs.YthoealembhkaoaaGreatDoor
open Go.RowKit
namespace Sy
set_option linter.unusedVariables false

/-- A part's pairs in their order, each once. -/
def partOf (r : List Pair) : List Pair := Lib.compact (sortR r)
theorem sortR_length (r : List Pair) : (sortR r).length = r.length := by rw [← sortR_size r]; simp [sortR]
set_option maxHeartbeats 1000000 in
theorem part161_calls (w : World) (base g cap : Nat) (r : List Pair) (ho : OwnRdn w base (.slice (some ⟨g, 0, none⟩) r.length cap) r) (hr : r.length ≤ 12) :
    Calls Tryz.prog 161 #[.slice (some ⟨g, 0, none⟩) r.length cap] w fun e w' =>
      e = .returned (.slice (some ⟨g, 0, none⟩) (partOf r).length cap) ∧ OwnRdn w' base (.slice (some ⟨g, 0, none⟩) (partOf r).length cap) (partOf r) ∧ w.grownBy w' (some g) := by
  have h1 := sort_calls w base g cap r ho hr
  have h2 := fun W (hW : OwnRdn W base (.slice (some ⟨g, 0, none⟩) r.length cap) (sortR r)) => compact_calls W base g cap (sortR r) (by rw [sortR_length]; exact hW) (by rw [sortR_length]; omega)
  simp only [sortR_length] at h2
  unfold partOf
  generalize Lib.compact (sortR r) = c at *
  clear ho
  go_enter Tryz.func161, Tryz.ntmps161
  go_wp2_with fail
  refine h1.mono ?_
  rintro e w1 ⟨rfl, ho1, hg1⟩
  have H2 := h2 w1 ho1
  have HG := Lib.hid hg1
  clear ho1 hg1 h1 h2
  go_wp2_with fail
  refine H2.mono ?_
  rintro e w2 ⟨rfl, ho2, hg2⟩
  have HO := Lib.hid ho2
  have HG2 := Lib.hid (Gr.trans HG.out hg2)
  clear ho2 hg2 H2
  go_wp2_with fail
  go_ret
  exact ⟨rfl, HO.out, HG2.out⟩
theorem self_calls (s : ByteArray) (w : World) : Calls Tryz.prog 131 #[.string s] w fun e w' => e = .returned (.tuple #[.string s, .bool true]) ∧ w' = w := by
  go_enter Tryz.func131, Tryz.ntmps131
  go_wp2_with fail
  go_ret2
  exact ⟨rfl, rfl⟩
theorem oidNorm_calls (s : ByteArray) (w : World) (hs : s.size ≤ 9223372036854775807) : Calls Tryz.prog 134 #[.string s] w fun e w' => e = .returned (.tuple #[strV (small s.data.toList), .bool true]) ∧ Below w.heap.size w w' := by
  have hc := small_calls s w hs
  generalize small s.data.toList = t at *
  go_enter Tryz.func134, Tryz.ntmps134
  go_wp2_with fail
  refine hc.mono ?_
  rintro e w1 ⟨rfl, hb⟩
  clear hc
  simp only [strV]
  go_wp2_with fail
  go_ret2
  exact ⟨rfl, hb⟩
def okV : Option (List UInt8) → Value
  | some l => .tuple #[strV l, .bool true]
  | none => .tuple #[.string ⟨#[]⟩, .bool false]
theorem text160_calls (s : ByteArray) (fold : Bool) (p : Addr) (w : World) (hp : w.cell? p = some (.bool fold)) (hs : s.size ≤ 4294967296) (he : Env w) :
    Calls Tryz.prog 160 #[.string s, .pointer (some p)] w fun e w' => e = .returned (okV (prepR fold s.data.toList)) ∧ Below w.heap.size w w' := by
  have hc := prepare_calls s fold w hs he
  generalize prepR fold s.data.toList = t at *
  go_enter Tryz.func160, Tryz.ntmps160
  go_wp2_with fail
  refine hc.mono ?_
  rintro e w1 ⟨rfl, hb⟩
  clear hc
  cases t with
  | none =>
    simp only [mappedV]
    go_wp2_with fail
    go_ret2
    exact ⟨rfl, hb⟩
  | some t =>
    simp only [mappedV, strV]
    go_wp2_with fail
    go_ret2
    exact ⟨rfl, hb⟩
end Sy
end Go.Proofs.YthoealembhkaoaaGreatDoor
