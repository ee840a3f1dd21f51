/- The first place of something in a row. No program in sight. -/
namespace Go.Proofs.Ytkjjbackkipfdaa

def fidx {α : Type} (q : α → Bool) (l : List α) : Int := if l.any q then (l.findIdx q : Nat) else -1
theorem fidx_none {α : Type} {q : α → Bool} {l : List α} (h : ∀ t, t ∈ l → q t = false) : fidx q l = -1 := by
  unfold fidx
  rw [if_neg]
  simp only [List.any_eq_true, not_exists, not_and]
  intro t ht
  simp [h t ht]
theorem fidx_at {α : Type} {q : α → Bool} {l : List α} {i : Nat} {t : α} (h : ∀ t, t ∈ l.take i → q t = false) (g : l[i]? = some t) (hq : q t = true) : fidx q l = i := by
  unfold fidx
  rw [if_pos (List.any_eq_true.2 ⟨t, List.mem_of_getElem? g, hq⟩)]
  congr 1
  have hi : i < l.length := by
    rcases Nat.lt_or_ge i l.length with h | h
    · exact h
    · rw [List.getElem?_eq_none h] at g; cases g
  refine (List.findIdx_eq hi).2 ⟨?_, fun j hj => ?_⟩
  · rw [List.getElem?_eq_getElem hi] at g; cases g; exact hq
  · rw [Bool.eq_false_iff, ne_eq, Bool.not_eq_true]
    exact h _ (List.mem_take_iff_getElem.2 ⟨j, by omega, rfl⟩)
theorem fidx_nonneg {α : Type} (q : α → Bool) (l : List α) : decide (0 ≤ fidx q l) = l.any q := by
  unfold fidx
  cases h : l.any q <;> simp
theorem fidx_bd {α : Type} (q : α → Bool) (l : List α) : -1 ≤ fidx q l ∧ fidx q l ≤ l.length := by
  unfold fidx
  split
  · have := List.findIdx_le_length (xs := l) (p := q); omega
  · omega
end Go.Proofs.Ytkjjbackkipfdaa
