/- Part 41 of the proof: Law06f; no condition of ours. -/
import Derived.Test.YtaioeailgknfjaaGreatDoorPkp38
import Derived.Test.YtaioeailgknfjaaGreatDoorPkp39
import Derived.Test.YtaioeailgknfjaaGreatDoorPkp40
set_option linter.unusedVariables false
set_option linter.unusedSimpArgs false
namespace Go.Proofs.YtaioeailgknfjaaGreatDoor
open Go Go.RowKit Go.Sort
theorem isPg_open {w : World} {es : List Tk} {x : Hd} {ks : List Tm} {v : Value} (h : IsPg w (es, .mk x ks) v) : ∃ ea ec a n c, v = .agg #[.slice ea es.length ec, .int .u8 x.k, .int .u8 x.op, .int .i64 x.pos, .int .i64 x.n, .string x.name, .string x.arg, .string x.exn, .slice a n c] ∧ IsToks w es ea es.length ∧ IsTm w (.mk x ks) (.agg #[.int .u8 x.k, .int .u8 x.op, .int .i64 x.pos, .int .i64 x.n, .string x.name, .string x.arg, .string x.exn, .slice a n c]) := by
  obtain ⟨ea, en, ec, a, n, c, rfl, -, -, h1, h2, h3, h4, h5⟩ := h
  obtain rfl := h1.length
  exact ⟨ea, ec, a, n, c, rfl, h1, IsTmA.mk_ h5 h3 h4 h2⟩
end Go.Proofs.YtaioeailgknfjaaGreatDoor
