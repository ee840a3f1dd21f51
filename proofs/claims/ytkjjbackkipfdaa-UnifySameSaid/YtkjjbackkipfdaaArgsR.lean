/- What the rows hand over: rows of rows of types. -/
import Derived.Test.YtkjjbackkipfdaaArgs
import Derived.Test.YtkjjbackkipfdaaMemR
namespace Go.Proofs.Ytkjjbackkipfdaa
open Go Go.RowKit Go.Sort
open Go.ChangeShapes Go.WideShapes

section
variable {H : Type} {enc : TypeId × Value → H} {w : World} {base : Nat} {spare : Nat → Bool} {held : Bool}
theorem isTyss_trod (fuel : Nat) (v : Value) (x : DataW H × List MemPlace) (h : DataW.trod enc Try.prog w base spare held fuel 22 [v] = some x) : ∃ l a len cap, v = .slice a len cap ∧ len ≤ cap ∧ cap ≤ maxLen ∧ IsTyss w l a len := by
  cases fuel with
  | zero => simp [DataW.trod] at h
  | succ n =>
    rcases DataW.trod_slice Try.underlying22 h with ⟨h0, _⟩ | ⟨a, len, cap, elems, rest, n', hn, hcs, _, _, hl, hm, hlen, hel, _, _⟩
    · simp at h0
      subst h0
      exact ⟨[], none, 0, 0, rfl, Nat.le_refl _, by omega, rfl, fun i l hi => by simp at hi⟩
    · obtain rfl : n = n' := by omega
      simp at hcs
      subst hcs
      have k1 : Try.prog.cellsOf 23 = 1 := by kernel_rfl
      have hg : ∀ i, i < len → ∃ l : List Ty, ∃ a' len' cap', w.cell? (a.add i) = some (.slice a' len' cap') ∧ len' ≤ cap' ∧ cap' ≤ maxLen ∧ IsTys w l a' len' := by
        intro i hi
        have he := hel i hi
        rw [k1, List.getElem?_eq_getElem (by omega)] at he
        obtain ⟨cs, hcs, htr⟩ := Option.bind_eq_some_iff.1 he
        obtain ⟨_, hcl, hat⟩ := World.cells?_some hcs
        match cs, hcl with
        | [c0], _ =>
          obtain ⟨l, a', len', cap', rfl, g1, g2, g3⟩ := isTys_trod n c0 _ htr
          exact ⟨l, a', len', cap', by simpa [Addr.add] using hat 0 (by omega), g1, g2, g3⟩
      obtain ⟨L, hll, hp⟩ := choose_list len hg
      refine ⟨L, some a, len, cap, rfl, hl, hm, hll.symm, fun i l hi => ?_⟩
      obtain ⟨b, o, sp⟩ := a
      obtain ⟨a', len', cap', g0, g1, g2, g3⟩ := hp i l hi
      have h0 : 0 < L.length := by have := (List.getElem?_eq_some_iff.1 hi).1; omega
      obtain ⟨_, _, _, k0, _⟩ := hp 0 _ (List.getElem?_eq_getElem h0)
      have hsp := cell_spot k0
      simp [Addr.add] at hsp
      subst hsp
      exact ⟨b, o, a', len', cap', rfl, by rw [← g0]; simp [go_sem], g1, g2, g3⟩
end
end Go.Proofs.Ytkjjbackkipfdaa
