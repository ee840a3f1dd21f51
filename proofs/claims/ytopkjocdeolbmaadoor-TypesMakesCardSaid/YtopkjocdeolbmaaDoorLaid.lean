/- The row's list of package-level variables: what it gives, and a world that meets it. -/
import Derived.Test.YtopkjocdeolbmaaDoorRows
import Derived.Test.YtopkjocdeolbmaaDoorDigits
import Derived.Test.YtopkjocdeolbmaaDoorArgs
import Derived.LaidSub
import Derived.Deep.DeepHandedRow
namespace Go.Proofs.YtopkjocdeolbmaaDoor
open Go Go.RowKit
open Go.ChangeShapes Go.WideShapes Go.ChangeAt

theorem ownKnob_none : ownKnob Tryd.prog.godebug = none := by kernel_rfl
theorem laidOut_yes : laidOutB Tryd.prog = true := by kernel_rfl
theorem gTab : Tryd.prog.globalNamed "internal/strconv.uint64pow10" = some 1 := by kernel_rfl
theorem gTabType : (Tryd.prog.globals[1]?).map (·.type) = some 76 := by kernel_rfl
theorem cellsTab : Tryd.prog.cellsOf 76 = 20 := by kernel_rfl
theorem cellsU64 : Tryd.prog.cellsOf 69 = 1 := by kernel_rfl
theorem tab_of_laid {W : World} (h : laidMetH Tryd.prog [("math/bits.deBruijn32tab", Rows.laid_math_bits_deBruijn32tab), ("math/bits.deBruijn64tab", Rows.laid_math_bits_deBruijn64tab), ("internal/strconv.uint64pow10", Rows.laid_internal_strconv_uint64pow10)] W) : Tab W :=
  Lib.tabIs_of_head (rest := []) gTab gTabType Tryd.underlying76 Tryd.underlying69 cellsU64 cellsTab (h.filter fun x => x.1 == "internal/strconv.uint64pow10")

/-- A listed table's cells. -/
def tabCells : DataW Unit → Array Value
  | .agg l => (l.map fun | .lit (.int k n) => Value.int k n | _ => undef).toArray
  | _ => #[]
/-- A block's cells anew. -/
def relay (h : Array Obj) (g : Nat) (cs : Array Value) : Array Obj := h.modify g fun
  | .cells _ t frozen => .cells cs t frozen
  | o => o
/-- A world for the witness: the settled one, the listed tables holding what the text lays. -/
noncomputable def laidWorld (os : Os) (args : Array Value) : World :=
  { World.holding Tryd.prog os ⟨#[], #[], []⟩ with heap := relay (relay (relay (World.holding Tryd.prog os ⟨#[], #[], []⟩).heap 1 (tabCells Rows.laid_internal_strconv_uint64pow10)) 2 (tabCells Rows.laid_math_bits_deBruijn32tab)) 3 (tabCells Rows.laid_math_bits_deBruijn64tab) }
end Go.Proofs.YtopkjocdeolbmaaDoor
