/- What parse.Term answers, by the laws on texts. What parse.Term answers to a long row of operands. -/
import Derived.Test.YtaioeailgknfjaaGreatDoorParse19
import Derived.Test.YtaioeailgknfjaaGreatDoorPureP7
namespace Go.Proofs.YtaioeailgknfjaaGreatDoor
open Go Go.RowKit Go.Sort

theorem ended_one : ∀ {l : List Tk}, Ended l → kindT l = 6 → ∃ e, l = [e] ∧ e.k = 6
  | [e], _, h => ⟨e, rfl, h⟩
  | e :: u :: l, h, hk => absurd hk h.1
theorem lexR_inv {B : List UInt8} (h : (lexR B).2.2 = 0) : ¬ 65536 < B.length ∧ ∃ o, lexL 0 B = .ok o ∧ (lexR B).1 = o.map Tok.tk := by
  unfold lexR at h ⊢
  split at h
  · simp at h
  rename_i hn
  rw [if_neg hn]
  refine ⟨hn, ?_⟩
  cases e : lexL 0 B with
  | error p => rw [e] at h; simp at h
  | ok o => exact ⟨o, rfl, rfl⟩
theorem termR_inv {B : List UInt8} {t : Tm} (h : termR B = .ok t) : Parses B t := by
  unfold termR runR at h
  split at h
  · cases h
  rename_i hf
  have hf : (lexR B).2.2 = 0 := Classical.byContradiction hf
  split at h
  · cases h
  obtain ⟨-, o, hl, ho⟩ := lexR_inv hf
  have hE := lexR_ended hf
  obtain ⟨f, hp, hT⟩ := parseL_some (nt := .expr) hE
  cases hr : parseL .expr (lexR B).1 with
  | error l => rw [hr] at h; cases h
  | ok q =>
    obtain ⟨a, l⟩ := q
    rw [hr] at h hp hT
    simp only at h
    split at h
    · rename_i hk
      cases h
      obtain ⟨e, rfl, he⟩ := ended_one (hT.1) hk
      rw [ho] at hp
      exact ⟨o, e, f, hl, hp, he⟩
    · cases h
theorem termR_ok {B : List UInt8} {t : Tm} (h : Parses B t) (hB : B.length ≤ 4000) : termR B = .ok t := by
  obtain ⟨o, e, f, hl, hp, he⟩ := h
  have hR := lexR_ok (B := B) (by omega) hl
  have hE : Ended (lexR B).1 := lexR_ended (by rw [hR])
  rw [hR] at hE
  have hc := lexL_count 0 B o hl
  unfold termR runR
  rw [hR]
  rw [if_neg (by simp), if_neg (by simp only [List.length_map]; omega)]
  simp only
  rw [parseL_eq hE hp]
  simp [kindT, he]
end Go.Proofs.YtaioeailgknfjaaGreatDoor
namespace Go.Proofs.YtaioeailgknfjaaGreatDoor
open Go Go.RowKit Go.Sort

theorem termR_row_long (n : Nat) (h1 : 2000 ≤ n) (h2 : n ≤ 3000) : termR (120 :: minusB n) = .error (8000, 3) := by
  obtain ⟨o, hl, hc, hp⟩ := row_tokens n
  have hR := lexR_ok (B := 120 :: minusB n) (by simp only [List.length_cons, minusB_length]; omega) hl
  unfold termR runR
  rw [hR]
  rw [if_neg (by simp), if_pos (by simp only [List.length_map]; omega)]
  simp only
  rw [hp h1]
  rfl
theorem termR_row_ok (n : Nat) (h1 : 1 ≤ n) (h2 : n ≤ 1999) : ∃ h b q, termR (120 :: minusB n) = .ok (.mk h [b, q]) ∧ h.k = 9 ∧ q.head.k = 2 := by
  obtain ⟨o, hl, hc, -⟩ := row_tokens n
  obtain ⟨t, ⟨o', e, f, hl', hp, he⟩, ht⟩ := parses_row n
  rw [hl] at hl'
  cases hl'
  obtain ⟨h, b, q, rfl, g1, g2⟩ := ht (by omega)
  refine ⟨h, b, q, ?_, g1, g2⟩
  have hR := lexR_ok (B := 120 :: minusB n) (by simp only [List.length_cons, minusB_length]; omega) hl
  have hE : Ended (lexR (120 :: minusB n)).1 := lexR_ended (by rw [hR])
  rw [hR] at hE
  unfold termR runR
  rw [hR]
  rw [if_neg (by simp), if_neg (by simp only [List.length_map]; omega)]
  simp only
  rw [parseL_eq hE hp]
  simp [kindT, he]
end Go.Proofs.YtaioeailgknfjaaGreatDoor
