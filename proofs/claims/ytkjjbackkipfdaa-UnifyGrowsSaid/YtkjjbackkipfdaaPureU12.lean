/- The document's example of layer 9; what the laws say of books, in plain Lean. -/
import Derived.Test.YtkjjbackkipfdaaPureU11
namespace Go.Proofs.Ytkjjbackkipfdaa

def P9 : Ty := .mk 2 0 [.mk 1 0 [], vr 1]
theorem P9_sub (σ : Int → Ty) : P9.sub σ = .mk 2 0 [.mk 1 0 [], σ 1] := by
  unfold P9
  rw [Ty.sub_other σ (by omega)]
  simp [vr_sub, Ty.sub_other σ (show (1 : Int) ≠ 5 by omega)]
theorem P9_knows : knows 2 [vr 0, P9] = true := by decide +kernel
theorem awake9 {S' : St} {b : Bool} (h : JoinP 2 (fun _ => none) [vr 0, P9] S' b) : b = true ∧ ∀ σ, Sense S' σ → tell 2 σ (vr 0) 9 = (P9, 0) := by
  have eqs : ∀ θ : Int → Ty, Eqs [vr 0, P9] θ ↔ θ 0 = .mk 2 0 [.mk 1 0 [], θ 1] := by
    intro θ
    rw [eqs_to]
    unfold EqTo
    simp only [List.mem_singleton, forall_eq, vr_sub, P9_sub]
  have way : ∀ t : Ty, Eqs [vr 0, P9] (fun v => if v = 0 then .mk 2 0 [.mk 1 0 [], t] else t) := fun t => (eqs _).2 (by simp)
  have hb : b = true := h.can P9_knows (θ := fun v => if v = 0 then .mk 2 0 [.mk 1 0 [], .mk 1 0 []] else .mk 1 0 []) (fun v t e => by cases e) (way _)
  subst hb
  refine ⟨rfl, fun σ hσ => ?_⟩
  have hsol : ∀ θ, Sol S' θ ↔ θ 0 = .mk 2 0 [.mk 1 0 [], θ 1] := fun θ => by
    rw [(h.yes rfl).2, eqs]
    exact ⟨fun h => h.2, fun h => ⟨fun v t e => (by cases e), h⟩⟩
  have h0 := (hsol σ).1 hσ.sol
  obtain ⟨r, h1, hch⟩ := open_var h.good hσ (v := 1) fun k _ => ⟨fun v => if v = 0 then .mk 2 0 [.mk 1 0 [], .mk k 0 []] else .mk k 0 [], (hsol _).2 (by simp), by simp⟩
  have hr0 := hch.nonneg h.good (by omega)
  have hr1 := h.good.least _ _ hch
  have hr : r = 1 := by
    rcases (show r = 0 ∨ r = 1 by omega) with rfl | rfl
    · -- what stands at 1 would be what stands at 0
      have hs2 : Sol S' (fun v => if v = 0 then .mk 2 0 [.mk 1 0 [], .mk 1 0 []] else .mk 1 0 []) := (hsol _).2 (by simp)
      have := hσ.most h.good.acy hs2 1
      rw [h1, vr_sub] at this
      simp at this
    · rfl
  subst hr
  have hs : (vr 0).sub σ = P9 := by rw [vr_sub, h0, h1]; rfl
  unfold tell
  rw [show knows1 2 (vr 0) = true by decide +kernel, hs]
  have hl : P9.left (max 9 0) = 6 := by decide +kernel
  simp [hl]
end Go.Proofs.Ytkjjbackkipfdaa
