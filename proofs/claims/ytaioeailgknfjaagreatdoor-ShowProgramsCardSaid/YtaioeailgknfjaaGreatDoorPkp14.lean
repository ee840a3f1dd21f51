/- Part 14 of the proof: Mov; no condition of ours. -/
import Derived.Test.YtaioeailgknfjaaGreatDoorPkp1
import Derived.Test.YtaioeailgknfjaaGreatDoorPkp5
set_option linter.unusedVariables false
set_option linter.unusedSimpArgs false
namespace Go.Proofs.YtaioeailgknfjaaGreatDoor
open Go Go.RowKit Go.Sort
def FlatA (A : Nat → Prop) (w : World) : List Tm → List Value → Prop
  | [], xs => xs = []
  | t :: l, xs => ∃ a len cap rest, xs = (tcells t.head a len cap).toList ++ rest ∧ t.head.Fits ∧ len ≤ cap ∧ cap ≤ maxLen ∧ IsTmsA A w t.kids a len ∧ FlatA A w l rest
theorem FlatA.append {A : Nat → Prop} {w : World} {l l' : List Tm} {xs ys : List Value} (h : FlatA A w l xs) (h' : FlatA A w l' ys) : FlatA A w (l ++ l') (xs ++ ys) := by
  induction l generalizing xs with
  | nil => simp only [FlatA] at h; subst h; simpa using h'
  | cons t l ih =>
    simp only [FlatA, List.cons_append] at h ⊢
    obtain ⟨a, len, cap, rest, rfl, hf, h1, h2, hk, hr⟩ := h
    exact ⟨a, len, cap, rest ++ ys, by simp, hf, h1, h2, hk, ih hr⟩
theorem FlatA.move {A A' : Nat → Prop} {w w' : World} (hA : ∀ b, b < w.heap.size → A' b → A b) (hc : ∀ p v, ¬ A p.block → w.cell? p = some v → w'.cell? p = some v) {l : List Tm} {xs : List Value} (h : FlatA A w l xs) : FlatA A' w' l xs := by
  induction l generalizing xs with
  | nil => simpa only [FlatA] using h
  | cons t l ih =>
    simp only [FlatA] at h ⊢
    obtain ⟨a, len, cap, rest, rfl, hf, h1, h2, hk, hr⟩ := h
    exact ⟨a, len, cap, rest, rfl, hf, h1, h2, hk.move hA hc, ih hr⟩
theorem FlatA.tms {A A' : Nat → Prop} {w : World} {l : List Tm} {xs : List Value} (h : FlatA A w l xs) (hA : ∀ b, A' b → A b) (b o : Nat) (hb : ¬ A' b) (hc : ∀ (j : Nat) u, xs[j]? = some u → w.cell? ⟨b, o + j, none⟩ = some u) : IsTmsA A' w l (some ⟨b, o, none⟩) l.length := by
  induction l generalizing xs o with
  | nil => exact IsTmsA.nil _
  | cons t l ih =>
    simp only [FlatA] at h
    obtain ⟨a, len, cap, rest, rfl, hf, h1, h2, hk, hr⟩ := h
    obtain ⟨x, k⟩ := t
    have hrest := ih hr (o + 8) fun j u hu => by
      have := hc (8 + j) u (by
        rw [List.getElem?_append_right (by simp [tcells])]
        simpa [tcells] using hu)
      rw [show o + 8 + j = o + (8 + j) from by omega]
      exact this
    unfold IsTmsA
    refine ⟨by simp, b, o, rfl, hb, ?_, by simpa using hrest⟩
    simp only [TmAt]
    exact ⟨⟨hc 0 _ rfl, hc 1 _ rfl, hc 2 _ rfl, hc 3 _ rfl, hc 4 _ rfl, hc 5 _ rfl, hc 6 _ rfl⟩, hf, a, len, cap, hc 7 _ rfl, h1, h2, hk.off fun b _ h => hA b h⟩
end Go.Proofs.YtaioeailgknfjaaGreatDoor
