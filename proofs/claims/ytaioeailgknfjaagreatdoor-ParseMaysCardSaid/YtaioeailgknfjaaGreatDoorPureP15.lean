/- What comes of a text may be, and begins at its tokens; no program in sight. -/
import Derived.Test.YtaioeailgknfjaaGreatDoorPureP7
namespace Go.Proofs.YtaioeailgknfjaaGreatDoor
open Go

theorem tokAt_ok {c : UInt8} {r : List UInt8} {n : Nat} {k : Int} (h : tokAt (c :: r) = some (n, k)) : (k = 1 → numB (bs ((c :: r).take n)) = true) ∧ (k = 2 → isName (bs ((c :: r).take n)) = true) ∧ (k = 3 → isExn (bs ((c :: r).take n)) = true) := by
  unfold tokAt at h
  simp only at h
  split at h
  · split at h
    · rename_i hn
      cases h
      exact ⟨fun _ => hn, fun h => absurd h (by omega), fun h => absurd h (by omega)⟩
    · cases h
  split at h
  · split at h
    · cases h
      exact ⟨fun h => absurd h (by omega), fun h => absurd h (by omega), fun h => absurd h (by omega)⟩
    split at h
    · rename_i hn
      cases h
      exact ⟨fun h => absurd h (by omega), fun _ => hn, fun h => absurd h (by omega)⟩
    split at h
    · rename_i hn
      cases h
      exact ⟨fun h => absurd h (by omega), fun h => absurd h (by omega), fun _ => hn⟩
    · cases h
  split at h
  · split at h
    · cases h
    · cases h
      exact ⟨fun h => absurd h (by omega), fun h => absurd h (by omega), fun h => absurd h (by omega)⟩
  · cases h
theorem lexL_ok (p : Nat) (l : List UInt8) : ∀ o, lexL p l = .ok o → ∀ t, t ∈ o → TkOk t.tk := by
  refine lex_ind (P := fun p l => ∀ o, lexL p l = .ok o → ∀ t, t ∈ o → TkOk t.tk) ?_ ?_ ?_ ?_ l.length p l (Nat.le_refl _)
  · intro p o h t ht
    rw [lexL_nil] at h
    cases h
    simp at ht
    subst ht
    exact ⟨Int.natCast_nonneg _, fun h => absurd h (by show ¬ (6 : Int) = 1; omega), fun h => absurd h (by show ¬ (6 : Int) = 2; omega), fun h => absurd h (by show ¬ (6 : Int) = 3; omega)⟩
  · intro p c r hc ih o h
    rw [lexL_blank hc] at h
    exact ih o h
  · intro p c r hc ht o h
    rw [lexL_none hc _ ht] at h
    cases h
  · intro p c r n k hc ht ih o h t htm
    have hok := tokAt_ok ht
    rw [lexL_tok hc _ ht] at h
    cases e1 : lexL (p + n) ((c :: r).drop n) with
    | error x => rw [e1] at h; cases h
    | ok o1 =>
      rw [e1] at h
      have h : Except.ok (⟨k, bs ((c :: r).take n), p⟩ :: o1) = Except.ok (ε := Nat) o := h
      cases h
      rcases List.mem_cons.1 htm with rfl | htm
      · exact ⟨Int.natCast_nonneg _, hok.1, hok.2.1, hok.2.2⟩
      · exact ih o1 e1 t htm
/-- A term that comes of a text. -/
theorem Parses.mays {B : List UInt8} {t : Tm} (h : Parses B t) (hB : B.length ≤ 2000) : t.may = true ∧ t.size ≤ 4000 ∧ ∃ o, lexL 0 B = .ok o ∧ ∀ u, u ∈ t.all → ∃ k, k ∈ o.map Tok.tk ∧ k.k ≠ 6 ∧ k.pos = u.head.pos := by
  obtain ⟨o, e, f, hl, hp, he⟩ := h
  have hok := lexL_ok 0 B o hl
  have hc := lexL_count 0 B o hl
  have hS := parse_sound (o.map Tok.tk) (fun x hx => by
    obtain ⟨t, ht, rfl⟩ := List.mem_map.1 hx
    exact hok t ht) f .expr _ _ _ (fun x hx => hx) trivial hp
  have hfew := hS.few
  simp only [NT.size0, List.length_map, List.length_cons, List.length_nil] at hfew
  have hsz : t.size ≤ 4000 := by omega
  refine ⟨?_, hsz, o, hl, fun u hu => (hS.good u hu).2⟩
  unfold Tm.may
  rw [Bool.and_eq_true]
  exact ⟨by simpa using hsz, List.all_eq_true.2 fun u hu => (hS.good u hu).1⟩
end Go.Proofs.YtaioeailgknfjaaGreatDoor
