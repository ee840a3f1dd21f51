/- Rows of rows of types in memory. No program in sight. -/
import Derived.Test.YtkjjbackkipfdaaMem
namespace Go.Proofs.Ytkjjbackkipfdaa
open Go Go.RowKit Go.Sort

/-- A row of rows of types in memory. -/
def IsTyss (w : World) (L : List (List Ty)) (a : Option Addr) (len : Nat) : Prop :=
  len = L.length ∧ ∀ (i : Nat) l, L[i]? = some l → ∃ (b o : Nat) (a' : Option Addr) (len' cap' : Nat), a = some ⟨b, o, none⟩ ∧ w.cell? ⟨b, o + i, none⟩ = some (.slice a' len' cap') ∧ len' ≤ cap' ∧ cap' ≤ 9223372036854775807 ∧ IsTys w l a' len'
theorem IsTyss.at_ {w : World} {L : List (List Ty)} {a : Option Addr} {len : Nat} (h : IsTyss w L a len) {i : Nat} (hi : i < len) : ∃ l b o a' len' cap', L[i]? = some l ∧ a = some ⟨b, o, none⟩ ∧ w.cell? ⟨b, o + i, none⟩ = some (.slice a' len' cap') ∧ len' ≤ cap' ∧ cap' ≤ 9223372036854775807 ∧ IsTys w l a' len' := by
  have hl : i < L.length := by rw [← h.1]; exact hi
  obtain ⟨b, o, a', len', cap', g⟩ := h.2 i _ (List.getElem?_eq_getElem hl)
  exact ⟨_, b, o, a', len', cap', List.getElem?_eq_getElem hl, g⟩
theorem IsTyss.ext {w w' : World} (hx : Ext w w') {L : List (List Ty)} {a : Option Addr} {len : Nat} (h : IsTyss w L a len) : IsTyss w' L a len :=
  ⟨h.1, fun i l hi => by
    obtain ⟨b, o, a', len', cap', g1, g2, g3, g4, g5⟩ := h.2 i l hi
    exact ⟨b, o, a', len', cap', g1, hx.cell g2, g3, g4, g5.ext hx⟩⟩
end Go.Proofs.Ytkjjbackkipfdaa
