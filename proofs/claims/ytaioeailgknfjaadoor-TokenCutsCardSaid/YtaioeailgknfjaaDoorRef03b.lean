/- The walk of enclaveref03.take, the plain part: how far a run of bytes goes. -/
import Derived.Test.YtaioeailgknfjaaDoorRef03
import Derived.Test.YtaioeailgknfjaaDoorToken3
namespace Go.Proofs.YtaioeailgknfjaaDoor
open Go Go.RowKit Go.Sort

/-- A run of bytes of some classes, from one place on: all of the ones behind it, too. -/
theorem span_at {cl : List Int} {l : List UInt8} {j : Nat} (hj : j < spanU cl l) : ∃ c, l[j]? = some c ∧ cl.contains (clsU c) = true := by
  have hle := spanU_le cl l
  have hc := List.getElem?_eq_getElem (l := l) (i := j) (by omega)
  refine ⟨_, hc, take_span_all cl l _ ?_⟩
  rw [List.mem_take_iff_getElem]
  exact ⟨j, by omega, rfl⟩
theorem span_end {cl : List Int} {l : List UInt8} {c : UInt8} (h : l[spanU cl l]? = some c) : cl.contains (clsU c) = false := by
  have hlt := (List.getElem?_eq_some_iff.1 h).1
  refine span_stop cl l (c := c) (r := l.drop (spanU cl l + 1)) ?_
  rw [List.drop_eq_getElem_cons hlt]
  have := (List.getElem?_eq_some_iff.1 h).2
  rw [this]
end Go.Proofs.YtaioeailgknfjaaDoor
