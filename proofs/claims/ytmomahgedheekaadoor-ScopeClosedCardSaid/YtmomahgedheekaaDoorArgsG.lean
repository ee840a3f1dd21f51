/- What the rows hand over: an argument that reads as data is a program in memory. -/
import Derived.Test.YtmomahgedheekaaDoorArgsT
import Derived.Test.YtmomahgedheekaaDoorArgsK
import Derived.Test.YtmomahgedheekaaDoorScope9
namespace Go.Proofs.YtmomahgedheekaaDoor
open Go Go.RowKit Go.Sort
open Go.ChangeShapes Go.WideShapes

section
variable {H : Type} {enc : TypeId × Value → H} {w : World} {base : Nat} {spare : Nat → Bool} {held : Bool}
theorem cellsPg : Tryd.prog.cellsOf 43 = 9 := by kernel_rfl
set_option maxRecDepth 8000 in
theorem isPg_trod (fuel : Nat) (cs : List Value) (x : DataW H × List MemPlace) (h : DataW.trod enc Tryd.prog w base spare held fuel 43 cs = some x) : ∃ p, IsPg w p (.agg cs.toArray) := by
  obtain ⟨xs, n, hn, hx, hlen, hxl, hf⟩ := DataW.trod_struct Tryd.underlying43 h
  rw [cellsPg] at hlen
  match cs, hlen with
  | [c0, c1, c2, c3, c4, c5, c6, c7, c8], _ =>
    have f0 := hf 0 _ rfl
    have f1 := hf 1 _ rfl
    rw [List.getElem?_eq_getElem (by rw [hxl]; decide)] at f0 f1
    have k1 : Tryd.prog.cellsOf 36 = 1 := by kernel_rfl
    simp [cellsTm, k1] at f0 f1
    obtain ⟨lt, a, m, c, e, h1, h2, ht⟩ := isToks_trod n _ _ f0
    obtain ⟨t, htm⟩ := isTm_trod n _ _ f1
    obtain ⟨y, l⟩ := t
    obtain ⟨ak, lenk, capk, e1, h3, h4, hfy, hl⟩ := htm.open_
    injection e1 with e1
    simp at e1
    obtain ⟨rfl, rfl, rfl, rfl, rfl, rfl, rfl, rfl⟩ := e1
    subst e
    exact ⟨⟨lt, .mk y l⟩, a, m, c, y, l, ak, lenk, capk, rfl, rfl, h1, h2, ht, hfy, h3, h4, hl⟩
end
end Go.Proofs.YtmomahgedheekaaDoor
