import Derived.Test.YthoealembhkaoaaGreatDoorCards
import Derived.Test.YthoealembhkaoaaGreatDoorTie
import Derived.Test.YthoealembhkaoaaGreatDoorSyLib
import Derived.ProofKit
import Derived.OpenShut
import Derived.Deep.DeepHandedRow
import Derived.Lib.LaidTab
import Derived.Lib.LaidU8T
import Derived.Shelf.Vars
namespace Go.Proofs.YthoealembhkaoaaGreatDoor
open Go.ChangeShapes Go.WideShapes Go.ChangeAt Go.RowKit
namespace Sy
set_option linter.unusedVariables false
set_option maxRecDepth 100000

theorem own : ownKnob Tryz.prog.godebug = none := by kernel_rfl
/-- What every row of this seat lists. -/
def laidList : List (String × DataW Unit) := [("unicode/utf8.acceptRanges", Rows.laid_unicode_utf8_acceptRanges), ("unicode/utf8.first", Rows.laid_unicode_utf8_first)]
def u8Ren : Go.Shelf.Ren := ⟨fun n => n, fun | 119 => 143 | 138 => 145 | 139 => 146 | n => n, fun | 3 => 1 | 4 => 2 | n => n⟩
theorem u8Types : U8Types Tryz.prog u8Ren := ⟨Tryz.underlying5, Tryz.underlying143, Tryz.underlying145, Tryz.underlying146⟩
theorem u8Extra : U8Extra Tryz.prog u8Ren := ⟨by kernel_rfl, by kernel_rfl, by kernel_rfl, by kernel_rfl, by kernel_rfl, by kernel_rfl, by kernel_rfl⟩
theorem accept_eq : (Rows.laid_unicode_utf8_acceptRanges : DataW Unit) = Lib.acceptData := by kernel_rfl
theorem first_eq : (Rows.laid_unicode_utf8_first : DataW Unit) = Lib.firstData := by kernel_rfl
/-- What the row's list and the world's shape give. -/
theorem env_of_laid {W : World} (hL : laidMetH Tryz.prog laidList W) (hsh : W.ShapedOpen Tryz.prog) : Env W where
  m := cell_of_shapedOpen_int (g := 0) (t := 3) (zero := #[.int .i64 0]) hsh (of_decide_eq_true (by kernel_rfl)) (by kernel_rfl) rfl (by kernel_rfl) (by kernel_rfl) Tryz.underlying3
  u := by
    have h1 := Lib.laidMet.reads hL (n := "unicode/utf8.first") (d := Rows.laid_unicode_utf8_first) (by simp [laidList])
    have h2 := Lib.laidMet.reads hL (n := "unicode/utf8.acceptRanges") (d := Rows.laid_unicode_utf8_acceptRanges) (by simp [laidList])
    rw [first_eq] at h1
    rw [accept_eq] at h2
    exact utf8Tabs_of_readsT u8Types u8Extra h1 h2
def fillFirst : Obj → Obj
  | .cells _ t frozen => .cells (Lib.firstTab.map fun z => Value.int .u8 z).toArray t frozen
  | o => o
def fillAccept : Obj → Obj
  | .cells _ t frozen => .cells ((List.range 16).flatMap fun i => [Value.int .u8 (Lib.accLo i : Int), .int .u8 (Lib.accHi i : Int)]).toArray t frozen
  | o => o
/-- A world for the witness. -/
noncomputable def laidWorld (os : Os) : World :=
  { World.holding Tryz.prog os ⟨#[], #[], []⟩ with heap := Array.modify (Array.modify (World.holding Tryz.prog os ⟨#[], #[], []⟩).heap 1 fillFirst) 2 fillAccept }
theorem laid_met (os : Os) (args : Array Value) : laidMet Tryz.prog laidList ((laidWorld os).forCall (fun _ _ => 0) ⟨#[], args, []⟩).memory :=
  laidMet_of_run' 8 (by kernel_rfl) (by kernel_rfl)
end Sy
end Go.Proofs.YthoealembhkaoaaGreatDoor
