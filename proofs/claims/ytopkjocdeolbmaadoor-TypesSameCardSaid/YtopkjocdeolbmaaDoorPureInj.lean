/- Two closed types that have one text are the same. -/
import Derived.Test.YtopkjocdeolbmaaDoorPureText
namespace Go.Proofs.YtopkjocdeolbmaaDoor
open Go

/-- A closed type. -/
def Ty.closed (t : Ty) : Bool := t.may && !t.has 5
theorem Ty.closed_kids {k n : Int} {l : List Ty} (h : (Ty.mk k n l).closed = true) : (k = 1 ∧ n = 0 ∧ l = []) ∨ (∃ a b, k = 2 ∧ n = 0 ∧ l = [a, b] ∧ a.closed = true ∧ b.closed = true) ∨ (∃ a, k = 3 ∧ n = 0 ∧ l = [a] ∧ a.closed = true) ∨ (∃ a b, k = 4 ∧ n = 0 ∧ l = [a, b] ∧ a.closed = true ∧ b.closed = true) := by
  simp only [Ty.closed, Bool.and_eq_true, Bool.not_eq_true'] at h
  obtain ⟨hm, hh⟩ := h
  have hn : k = 5 ∨ n = 0 := by
    have := hm
    simp only [Ty.may, Ty.node, Bool.and_eq_true, Bool.or_eq_true, decide_eq_true_eq] at this
    omega
  simp only [Ty.has, Bool.or_eq_false_iff, beq_eq_false_iff_ne] at hh
  have hn0 : n = 0 := by
    rcases hn with h | h
    · exact absurd h hh.1
    · exact h
  have hk := (Ty.hass_no 5 l).1 hh.2
  rcases Ty.may_cases hm with ⟨rfl, rfl⟩ | ⟨x, y, rfl, rfl, hx, hy⟩ | ⟨x, rfl, rfl, hx⟩ | ⟨x, y, rfl, rfl, hx, hy⟩ | ⟨rfl, rfl, _⟩
  · exact .inl ⟨rfl, hn0, rfl⟩
  · exact .inr (.inl ⟨x, y, rfl, hn0, rfl, by simp [Ty.closed, hx, hk], by simp [Ty.closed, hy, hk]⟩)
  · exact .inr (.inr (.inl ⟨x, rfl, hn0, rfl, by simp [Ty.closed, hx, hk]⟩))
  · exact .inr (.inr (.inr ⟨x, y, rfl, hn0, rfl, by simp [Ty.closed, hx, hk], by simp [Ty.closed, hy, hk]⟩))
  · exact absurd rfl hh.1
/-- What a closed type's text is. -/
theorem text_int : (Ty.mk 1 0 []).text = [105, 110, 116] := by simp [Ty.text, txt, Ty.texts]
theorem text_pair (a b : Ty) : (Ty.mk 2 0 [a, b]).text = [40, 32] ++ a.text ++ [32, 42, 32] ++ b.text ++ [32, 41] := by simp [Ty.text, txt, Ty.texts]
theorem text_ref (a : Ty) : (Ty.mk 3 0 [a]).text = [114, 101, 102, 32] ++ tightOf a.kind a.text := by simp [Ty.text, txt, Ty.texts]
theorem text_fn (a b : Ty) : (Ty.mk 4 0 [a, b]).text = tightOf a.kind a.text ++ [32, 45, 62, 32] ++ b.text := by simp [Ty.text, txt, Ty.texts]

mutual
/-- A reader of tight texts. -/
def pAtom : Nat → List UInt8 → Option (Ty × List UInt8)
  | 0, _ => none
  | f + 1, s =>
    match s with
    | 105 :: 110 :: 116 :: r => some (.mk 1 0 [], r)
    | 114 :: 101 :: 102 :: 32 :: r => match pAtom f r with
      | some (a, r) => some (.mk 3 0 [a], r)
      | none => none
    | 40 :: 32 :: r => match pFull f r with
      | some (a, 32 :: 42 :: 32 :: r) => match pFull f r with
        | some (b, 32 :: 41 :: r) => some (.mk 2 0 [a, b], r)
        | _ => none
      | some (a, 32 :: 41 :: r) => some (a, r)
      | _ => none
    | _ => none
/-- A reader of texts. -/
def pFull : Nat → List UInt8 → Option (Ty × List UInt8)
  | 0, _ => none
  | f + 1, s => match pAtom f s with
    | some (a, 32 :: 45 :: 62 :: 32 :: r) => match pFull f r with
      | some (b, r) => some (.mk 4 0 [a, b], r)
      | none => none
    | x => x
end
def noArrow (r : List UInt8) : Prop := ∀ x, r ≠ 32 :: 45 :: 62 :: 32 :: x
theorem pFull_stop (f : Nat) (s : List UInt8) (a : Ty) (r : List UInt8) (h : pAtom f s = some (a, r)) (hr : noArrow r) : pFull (f + 1) s = some (a, r) := by
  simp only [pFull, h]
  split
  · rename_i heq; simp at heq; exact absurd heq.2 (hr _)
  · rfl
theorem read_text (a : Ty) : a.closed = true →
    (a.kind ≠ 4 → ∀ f r, 3 * a.size - 2 ≤ f → pAtom f (a.text ++ r) = some (a, r)) ∧
    (∀ f r, 3 * a.size - 1 ≤ f → noArrow r → pFull f (a.text ++ r) = some (a, r)) ∧
    (∀ f r, 3 * a.size ≤ f → pAtom f (tightOf a.kind a.text ++ r) = some (a, r)) := by
  induction a using Ty.ind with
  | h k n l ih =>
    intro hc
    have step1 : k ≠ 4 → ∀ f r, 3 * (Ty.mk k n l).size - 2 ≤ f → pAtom f ((Ty.mk k n l).text ++ r) = some (.mk k n l, r) := by
      intro hk f r hf
      rcases Ty.closed_kids hc with ⟨rfl, rfl, rfl⟩ | ⟨x, y, rfl, rfl, rfl, hx, hy⟩ | ⟨x, rfl, rfl, rfl, hx⟩ | ⟨x, y, rfl, rfl, rfl, hx, hy⟩
      · simp [Ty.size, Ty.sizes] at hf
        obtain ⟨f, rfl⟩ : ∃ g, f = g + 1 := ⟨f - 1, by omega⟩
        rw [text_int]
        simp [pAtom]
      · simp [Ty.size, Ty.sizes] at hf
        obtain ⟨f, rfl⟩ : ∃ g, f = g + 1 := ⟨f - 1, by omega⟩
        have h1 := (ih x (by simp) hx).2.1 f ([32, 42, 32] ++ (y.text ++ ([32, 41] ++ r))) (by have := y.size_pos; omega) (by intro q; simp)
        have h2 := (ih y (by simp) hy).2.1 f ([32, 41] ++ r) (by have := x.size_pos; omega) (by intro q; simp)
        rw [text_pair]
        simp only [List.append_assoc, List.cons_append, List.nil_append] at h1 h2 ⊢
        simp only [pAtom, h1, h2]
      · simp [Ty.size, Ty.sizes] at hf
        obtain ⟨f, rfl⟩ : ∃ g, f = g + 1 := ⟨f - 1, by omega⟩
        have h1 := (ih x (by simp) hx).2.2 f r (by omega)
        rw [text_ref]
        simp only [List.append_assoc, List.cons_append, List.nil_append] at h1 ⊢
        simp only [pAtom, h1]
      · exact absurd rfl hk
    have step2 : ∀ f r, 3 * (Ty.mk k n l).size - 1 ≤ f → noArrow r → pFull f ((Ty.mk k n l).text ++ r) = some (.mk k n l, r) := by
      intro f r hf hr
      have hp := (Ty.mk k n l).size_pos
      obtain ⟨f, rfl⟩ : ∃ g, f = g + 1 := ⟨f - 1, by omega⟩
      by_cases hk : k = 4
      · rcases Ty.closed_kids hc with ⟨rfl, rfl, rfl⟩ | ⟨x, y, rfl, rfl, rfl, hx, hy⟩ | ⟨x, rfl, rfl, rfl, hx⟩ | ⟨x, y, rfl, rfl, rfl, hx, hy⟩
        · simp at hk
        · simp at hk
        · simp at hk
        · simp [Ty.size, Ty.sizes] at hf
          have h1 := (ih x (by simp) hx).2.2 f ([32, 45, 62, 32] ++ (y.text ++ r)) (by have := y.size_pos; omega)
          have h2 := (ih y (by simp) hy).2.1 f r (by have := x.size_pos; omega) hr
          rw [text_fn]
          simp only [List.append_assoc, List.cons_append, List.nil_append] at h1 h2 ⊢
          simp only [pFull, h1, h2]
      · exact pFull_stop f _ _ _ (step1 hk f r (by omega)) hr
    refine ⟨step1, step2, fun f r hf => ?_⟩
    by_cases hk : k = 4
    · have hp := (Ty.mk k n l).size_pos
      obtain ⟨f, rfl⟩ : ∃ g, f = g + 1 := ⟨f - 1, by omega⟩
      have h1 := step2 f ([32, 41] ++ r) (by omega) (by intro q; simp)
      rw [show tightOf (Ty.mk k n l).kind (Ty.mk k n l).text = [40, 32] ++ (Ty.mk k n l).text ++ [32, 41] from if_pos hk]
      simp only [List.append_assoc, List.cons_append, List.nil_append] at h1 ⊢
      simp only [pAtom, h1]
    · rw [show tightOf (Ty.mk k n l).kind (Ty.mk k n l).text = (Ty.mk k n l).text from if_neg hk]
      exact step1 hk f r (by omega)
theorem text_inj {a b : Ty} (ha : a.closed = true) (hb : b.closed = true) (h : a.text = b.text) : a = b := by
  have h1 := (read_text a ha).2.1 (3 * a.size + 3 * b.size) [] (by omega) (by intro q; simp)
  have h2 := (read_text b hb).2.1 (3 * a.size + 3 * b.size) [] (by omega) (by intro q; simp)
  rw [h, h2] at h1
  simp at h1
  exact h1.symm
end Go.Proofs.YtopkjocdeolbmaaDoor
