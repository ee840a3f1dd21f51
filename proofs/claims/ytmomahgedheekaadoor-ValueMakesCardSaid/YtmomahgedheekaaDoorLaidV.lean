/- The rows' lists of package-level variables, errors among them: what they give, and a world that meets them. -/
import Derived.Test.YtmomahgedheekaaDoorLaidW
import Derived.Test.YtmomahgedheekaaDoorDigits
namespace Go.Proofs.YtmomahgedheekaaDoor
open Go Go.RowKit
open Go.ChangeShapes Go.WideShapes Go.ChangeAt

theorem gTab : Tryd.prog.globalNamed "internal/strconv.uint64pow10" = some 1 := by kernel_rfl
theorem gTabType : (Tryd.prog.globals[1]?).map (·.type) = some 173 := by kernel_rfl
theorem cellsTab : Tryd.prog.cellsOf 173 = 20 := by kernel_rfl
theorem cellsU64 : Tryd.prog.cellsOf 155 = 1 := by kernel_rfl
theorem tab_of {W : World} (h : laidMet Tryd.prog [("internal/strconv.uint64pow10", Rows.laid_internal_strconv_uint64pow10)] W) : Tab W :=
  Lib.tabIs_of_head (rest := []) gTab gTabType Tryd.underlying173 Tryd.underlying155 cellsU64 cellsTab h
theorem tab_apart {W : World} (h : laidMetH Tryd.prog Rows.valueApartRow.laid W) : Tab W := tab_of (h.filter fun x => x.1 == "internal/strconv.uint64pow10")
theorem tab_is {W : World} (h : laidMetH Tryd.prog Rows.valueIsRow.laid W) : Tab W := tab_of (h.filter fun x => x.1 == "internal/strconv.uint64pow10")

/-- A world for the witness: the settled one, the listed variables holding what the text lays. -/
noncomputable def laidWorldN (os : Os) (args : Array Value) : World :=
  let h0 := (World.holding Tryd.prog os ⟨#[], #[], []⟩).heap
  let h1 := relay (relay (relay (relay (relay h0 4 (tabCells Rows.laid_unicode_utf8_first)) 5 (tabCells Rows.laid_unicode_utf8_acceptRanges)) 1 (tabCells Rows.laid_internal_strconv_uint64pow10)) 6 (tabCells Rows.laid_math_bits_deBruijn32tab)) 7 (tabCells Rows.laid_math_bits_deBruijn64tab)
  let h2 := relay (relay h1 3 #[.iface 189 (.pointer (some ⟨h0.size, 0, none⟩))]) 2 #[.iface 189 (.pointer (some ⟨h0.size + 1, 0, none⟩))]
  { World.holding Tryd.prog os ⟨#[], #[], []⟩ with heap := (h2.push (.cells #[.string ⟨#[118, 97, 108, 117, 101, 32, 111, 117, 116, 32, 111, 102, 32, 114, 97, 110, 103, 101]⟩] 191)).push (.cells #[.string ⟨#[105, 110, 118, 97, 108, 105, 100, 32, 115, 121, 110, 116, 97, 120]⟩] 191) }
end Go.Proofs.YtmomahgedheekaaDoor
