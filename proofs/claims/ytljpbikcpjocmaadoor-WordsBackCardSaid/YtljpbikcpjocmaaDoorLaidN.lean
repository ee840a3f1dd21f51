/- The rows' list of package-level variables, errors among them: what it gives, and a world that meets it. -/
import Derived.Test.YtljpbikcpjocmaaDoorLaidW
import Derived.Test.YtljpbikcpjocmaaDoorDigits
namespace Go.Proofs.YtljpbikcpjocmaaDoor
open Go Go.RowKit
open Go.ChangeShapes Go.WideShapes Go.ChangeAt

theorem gTab : Tryd.prog.globalNamed "internal/strconv.uint64pow10" = some 2 := by kernel_rfl
theorem gTabType : (Tryd.prog.globals[2]?).map (·.type) = some 103 := by kernel_rfl
theorem cellsTab : Tryd.prog.cellsOf 103 = 20 := by kernel_rfl
theorem cellsU64 : Tryd.prog.cellsOf 82 = 1 := by kernel_rfl
theorem tab_of_laid {W : World} (h : laidMetH Tryd.prog Rows.wordsBackRow.laid W) : Tab W :=
  Lib.tabIs_of_head (rest := []) gTab gTabType Tryd.underlying103 Tryd.underlying82 cellsU64 cellsTab (h.filter fun x => x.1 == "internal/strconv.uint64pow10")

/-- A world for the witness: the settled one, the listed variables holding what the text lays. -/
noncomputable def laidWorldN (os : Os) (args : Array Value) : World :=
  let h0 := (World.holding Tryd.prog os ⟨#[], #[], []⟩).heap
  let h1 := relay (relay (relay (relay (relay h0 6 (tabCells Rows.laid_unicode_utf8_first)) 7 (tabCells Rows.laid_unicode_utf8_acceptRanges)) 2 (tabCells Rows.laid_internal_strconv_uint64pow10)) 4 (tabCells Rows.laid_math_bits_deBruijn32tab)) 5 (tabCells Rows.laid_math_bits_deBruijn64tab)
  let h2 := relay (relay h1 1 #[.iface 111 (.pointer (some ⟨h0.size, 0, none⟩))]) 0 #[.iface 111 (.pointer (some ⟨h0.size + 1, 0, none⟩))]
  { World.holding Tryd.prog os ⟨#[], #[], []⟩ with heap := (h2.push (.cells #[.string ⟨#[118, 97, 108, 117, 101, 32, 111, 117, 116, 32, 111, 102, 32, 114, 97, 110, 103, 101]⟩] 113)).push (.cells #[.string ⟨#[105, 110, 118, 97, 108, 105, 100, 32, 115, 121, 110, 116, 97, 120]⟩] 113) }
end Go.Proofs.YtljpbikcpjocmaaDoor
