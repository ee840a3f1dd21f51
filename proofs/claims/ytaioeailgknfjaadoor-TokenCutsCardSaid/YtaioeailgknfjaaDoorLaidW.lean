/- The row's list of package-level variables: what it gives, and a world that meets it. -/
import Derived.Test.YtaioeailgknfjaaDoorRows
import Derived.Test.YtaioeailgknfjaaDoorWords
import Derived.Test.YtaioeailgknfjaaDoorArgsW
import Derived.LaidSub
import Derived.Deep.DeepHandedRow
namespace Go.Proofs.YtaioeailgknfjaaDoor
open Go Go.RowKit
open Go.ChangeShapes Go.WideShapes Go.ChangeAt

theorem ownKnob_none : ownKnob Tryd.prog.godebug = none := by kernel_rfl
theorem laidOut_yes : laidOutB Tryd.prog = true := by kernel_rfl
theorem knob_of {W : World} (h : W.ShapedOpen Tryd.prog) : Knob W :=
  Go.Proofs.cell_of_shapedOpen_int (zero := #[.int .i64 0]) (t := 3) h (of_decide_eq_true (by kernel_rfl)) (by kernel_rfl) rfl (by kernel_rfl) (by kernel_rfl) Tryd.underlying3

/-- A datum's cells. -/
def litCell : DataW Unit → Value
  | .lit (.int k n) => .int k n
  | _ => undef
def rowCells : DataW Unit → List Value
  | .agg l => l.map litCell
  | d => [litCell d]
/-- A listed table's cells. -/
def tabCells : DataW Unit → Array Value
  | .agg l => (l.flatMap rowCells).toArray
  | _ => #[]
/-- A block's cells anew. -/
def relay (h : Array Obj) (g : Nat) (cs : Array Value) : Array Obj := h.modify g fun
  | .cells _ t frozen => .cells cs t frozen
  | o => o
/-- A world for the witness: the settled one, the listed tables holding what the text lays. -/
noncomputable def laidWorld (os : Os) (args : Array Value) : World :=
  { World.holding Tryd.prog os ⟨#[], #[], []⟩ with heap := relay (relay (World.holding Tryd.prog os ⟨#[], #[], []⟩).heap 3 (tabCells Rows.laid_unicode_utf8_first)) 4 (tabCells Rows.laid_unicode_utf8_acceptRanges) }
end Go.Proofs.YtaioeailgknfjaaDoor
