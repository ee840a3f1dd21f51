/- A type's sense, node by node; what is left of a bound. Plain Lean. -/
import Derived.Test.YtkjjbackkipfdaaPureU10
namespace Go.Proofs.Ytkjjbackkipfdaa

/-- The head of a type's sense is what its root stands for. -/
theorem sense_node {n : Nat} {S : St} (g : Good n S) {σ : Int → Ty} (hσ : Sense S σ) {t : Ty} (ht : Fit n t) : Fit n (hd S (rootD S t)) ∧ t.sub σ = .mk (hd S (rootD S t)).kind (hd S (rootD S t)).var ((hd S (rootD S t)).kids.map (Ty.sub σ)) ∧ ((hd S (rootD S t)).kind = 5 → (hd S (rootD S t)).kids = []) := by
  have hr := rootD_root g.acy t
  have hf := hr.fit g ht
  have hh := hd_fit g hf
  have e1 := hr.sub hσ.sol
  have e2 := hd_sub hσ.sol (rootD S t)
  refine ⟨hh, ?_, fun h5 => by rw [hh.vr_eq h5]; rfl⟩
  rw [← e1, ← e2]
  by_cases h5 : (hd S (rootD S t)).kind = 5
  · obtain ⟨-, -, hn⟩ := hd_free hr.last h5
    have hv : (hd S (rootD S t)).var = (rootD S t).var := by rw [(hd_free hr.last h5).1]
    have := hh.vr_eq h5
    rw [Ty.sub_var h5, hσ.free _ (by rw [hv]; exact hn)]
    rw [this]
    rfl
  · rw [Ty.sub_node h5]
/-- What is left behind some kids' senses. -/
theorem left_mk (k v : Int) (l : List Ty) (n : Int) : (Ty.mk k v l).left n = Ty.lefts l (n - 1) := by rw [Ty.left]
end Go.Proofs.Ytkjjbackkipfdaa
