/- The library's errors, as they stand in memory. -/
import Derived.Test.YtaioeailgknfjaaDoorMem
import Derived.Test.YtaioeailgknfjaaDoorProg
namespace Go.Proofs.YtaioeailgknfjaaDoor
open Go Go.RowKit Go.Sort

/-- The library's two errors, as they stand. -/
def Errs (w : World) : Prop := ∃ t p t' p', w.var? Tryd.prog "strconv.ErrSyntax" = some #[.iface t p] ∧ w.var? Tryd.prog "strconv.ErrRange" = some #[.iface t' p']
theorem var_ext {w w' : World} (hx : Ext w w') {s : String} {cs : Array Value} (h : w.var? Tryd.prog s = some cs) : w'.var? Tryd.prog s = some cs := by
  unfold World.var? at *
  cases hg : Program.globalNamed Tryd.prog s with
  | none => rw [hg] at h; simp at h
  | some g =>
    rw [hg] at h
    simp only [Option.bind_some] at h ⊢
    have hgl : g < w.heap.size := by
      rcases Nat.lt_or_ge g w.heap.size with hlt | hge
      · exact hlt
      · rw [Array.getElem?_eq_none hge] at h; simp at h
    rw [Below.block hx g hgl]
    exact h
theorem Errs.ext {w w' : World} (h : Errs w) (hx : Ext w w') : Errs w' := let ⟨t, p, t', p', h1, h2⟩ := h; ⟨t, p, t', p', var_ext hx h1, var_ext hx h2⟩

end Go.Proofs.YtaioeailgknfjaaDoor
