/- Part 4 of the proof: LaidV; no condition of ours. -/
import Derived.Test.YtaioeailgknfjaaGreatDoorPkp1
import Derived.Test.YtaioeailgknfjaaGreatDoorPkp2
import Derived.Test.YtaioeailgknfjaaGreatDoorPkp3
set_option linter.unusedVariables false
set_option linter.unusedSimpArgs false
namespace Go.Proofs.YtaioeailgknfjaaGreatDoor
open Go Go.RowKit
open Go.ChangeShapes Go.WideShapes Go.ChangeAt
theorem ownKnob_none : ownKnob Tryz.prog.godebug = none := by kernel_rfl
theorem laidOut_yes : laidOutB Tryz.prog = true := by kernel_rfl
theorem knob_of {W : World} (h : W.ShapedOpen Tryz.prog) : Knob W :=
  Go.Proofs.cell_of_shapedOpen_int (zero := #[.int .i64 0]) (t := 3) h (of_decide_eq_true (by kernel_rfl)) (by kernel_rfl) rfl (by kernel_rfl) (by kernel_rfl) Tryz.underlying3
def litCell : DataW Unit → Value
  | .lit (.int k n) => .int k n
  | _ => undef
def rowCells : DataW Unit → List Value
  | .agg l => l.map litCell
  | d => [litCell d]
def tabCells : DataW Unit → Array Value
  | .agg l => (l.flatMap rowCells).toArray
  | _ => #[]
def relay (h : Array Obj) (g : Nat) (cs : Array Value) : Array Obj := h.modify g fun
  | .cells _ t frozen => .cells cs t frozen
  | o => o
end Go.Proofs.YtaioeailgknfjaaGreatDoor
namespace Go.Proofs.YtaioeailgknfjaaGreatDoor
open Go Go.RowKit Go.Sort
end Go.Proofs.YtaioeailgknfjaaGreatDoor
namespace Go.Proofs.YtaioeailgknfjaaGreatDoor
open Go Go.RowKit
open Go.ChangeShapes Go.WideShapes Go.ChangeAt
theorem gTab : Tryz.prog.globalNamed "internal/strconv.uint64pow10" = some 1 := by kernel_rfl
theorem gTabType : (Tryz.prog.globals[1]?).map (·.type) = some 164 := by kernel_rfl
theorem cellsTab : Tryz.prog.cellsOf 164 = 20 := by kernel_rfl
theorem cellsU64 : Tryz.prog.cellsOf 154 = 1 := by kernel_rfl
theorem tab_of {W : World} (h : laidMet Tryz.prog [("internal/strconv.uint64pow10", Rows.laid_internal_strconv_uint64pow10)] W) : Tab W :=
  Lib.tabIs_of_head (rest := []) gTab gTabType Tryz.underlying164 Tryz.underlying154 cellsU64 cellsTab h
noncomputable def laidWorldN (os : Os) (args : Array Value) : World :=
  let h0 := (World.holding Tryz.prog os ⟨#[], #[], []⟩).heap
  let h1 := relay (relay (relay (relay (relay h0 6 (tabCells Rows.laid_unicode_utf8_first)) 7 (tabCells Rows.laid_unicode_utf8_acceptRanges)) 1 (tabCells Rows.laid_internal_strconv_uint64pow10)) 2 (tabCells Rows.laid_math_bits_deBruijn32tab)) 3 (tabCells Rows.laid_math_bits_deBruijn64tab)
  let h2 := relay (relay h1 5 #[.iface 189 (.pointer (some ⟨h0.size, 0, none⟩))]) 4 #[.iface 189 (.pointer (some ⟨h0.size + 1, 0, none⟩))]
  { World.holding Tryz.prog os ⟨#[], #[], []⟩ with heap := (h2.push (.cells #[.string ⟨#[118, 97, 108, 117, 101, 32, 111, 117, 116, 32, 111, 102, 32, 114, 97, 110, 103, 101]⟩] 191)).push (.cells #[.string ⟨#[105, 110, 118, 97, 108, 105, 100, 32, 115, 121, 110, 116, 97, 120]⟩] 191) }
end Go.Proofs.YtaioeailgknfjaaGreatDoor
