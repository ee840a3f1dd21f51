/- How the reference reads a number whose text may begin with a sign, in plain Lean; no program in sight. -/
import Derived.Test.YtmomahgedheekaaDoorPureV
import Derived.Handy
namespace Go.Proofs.YtmomahgedheekaaDoor
open Go

theorem wrap_bd (n : Int) : -9223372036854775808 ≤ IntKind.i64.wrap n ∧ IntKind.i64.wrap n ≤ 9223372036854775807 := by
  simp only [IntKind.wrap, IntKind.bits, IntKind.signed]
  simp
  split <;> omega
theorem decDigits_len (n : Nat) (h : n ≤ 9223372036854775808) : (Lib.decDigits n).length ≤ 19 := by
  obtain ⟨d1, d2⟩ := decDigits_back n
  have hh := decDigits_head n
  rcases Nat.eq_zero_or_pos n with h0 | h0
  · rw [h0, Lib.decDigits_one (by omega)]; simp
  cases hd : Lib.decDigits n with
  | nil => simp
  | cons c r =>
    rw [hd] at d1 d2 hh
    rw [List.all_cons, Bool.and_eq_true] at d1
    have hc := (isD_iff c).1 d1.1
    have hc0 : c ≠ 48 := fun e => by
      have := hh (by rw [e]; rfl)
      omega
    have hp : 1 ≤ c.toNat - 48 := by
      have := val_head_pos (r := []) d1.1 hc0
      simp only [valN_nil, valN_cons] at this
      omega
    have hg := valN_ge r (10 * 0 + (c.toNat - 48))
    rw [valN_cons] at d2
    rw [d2] at hg
    rw [List.length_cons]
    rcases Nat.lt_or_ge r.length 19 with hl | hl
    · omega
    exfalso
    have h19 : 10 ^ 19 ≤ 10 ^ r.length := Nat.pow_le_pow_right (by omega) hl
    have : 1 * 10 ^ r.length ≤ (10 * 0 + (c.toNat - 48)) * 10 ^ r.length := Nat.mul_le_mul_right _ (by omega)
    have e : (10 : Nat) ^ 19 = 10000000000000000000 := by decide
    omega
def low (l : List UInt8) : Nat := if l.head? = some 45 then 1 else 0
/-- What is known of a text that is a number's. -/
theorem of_itoa {l : List UInt8} {m : Int} (h0 : -9223372036854775808 ≤ m) (h1 : m ≤ 9223372036854775807) (h : Lib.itoa m = l) :
    (l.drop (low l)).all isD = true ∧ valN 0 (l.drop (low l)) = m.natAbs ∧ l.length ≤ 20 ∧ (m < 0 ↔ low l = 1) := by
  have hl := decDigits_len m.natAbs (by omega)
  by_cases hm : m < 0
  · rw [itoa_neg hm] at h
    have e : low l = 1 := by rw [← h]; rfl
    obtain ⟨d1, d2⟩ := decDigits_back m.natAbs
    rw [e, ← h]
    exact ⟨d1, d2, by rw [List.length_cons]; omega, by simp [hm]⟩
  · rw [itoa_pos (by omega)] at h
    obtain ⟨c, r, e, hc⟩ := decDigits_first m.toNat
    have e0 : low l = 0 := by
      unfold low
      rw [if_neg]
      rw [← h, e]
      intro h'
      cases h'
      exact absurd hc (by decide)
    obtain ⟨d1, d2⟩ := decDigits_back m.toNat
    rw [e0, ← h]
    refine ⟨d1, by rw [List.drop_zero, d2]; omega, by rw [show m.toNat = m.natAbs by omega]; omega, by omega⟩
/-- What the loop has read ahead of a place. -/
def readAt (l : List UInt8) (j : Nat) (n : Int) : Prop :=
  (-9223372036854775808 ≤ n ∧ n ≤ 9223372036854775807) ∧ ∀ m : Int, -9223372036854775808 ≤ m → m ≤ 9223372036854775807 → Lib.itoa m = l → n = -((valN 0 ((l.drop (low l)).take (j - low l)) : Nat) : Int)
theorem readAt_zero (l : List UInt8) : readAt l 0 0 := ⟨by omega, fun m _ _ _ => by simp [valN_nil]⟩
theorem readAt_sign {l : List UInt8} {n : Int} (h : readAt l 0 n) (hl : low l = 1) : readAt l 1 n := by
  refine ⟨h.1, fun m h0 h1 hm => ?_⟩
  rw [h.2 m h0 h1 hm, hl]
theorem take_at {l : List UInt8} {j : Nat} {c : UInt8} (hj : l[j]? = some c) (ho : low l ≤ j) : (l.drop (low l)).take (j + 1 - low l) = (l.drop (low l)).take (j - low l) ++ [c] := by
  rw [show j + 1 - low l = (j - low l) + 1 by omega, List.take_add_one]
  congr 1
  rw [List.getElem?_drop, show low l + (j - low l) = j by omega, hj]
  rfl
theorem valN_take (l : List UInt8) (k n : Nat) : valN n (l.take k) ≤ valN n l := by
  have := valN_append (l.take k) (l.drop k) n
  rw [List.take_append_drop] at this
  rw [this]
  exact valN_le _ _
theorem readAt_step {l : List UInt8} {j : Nat} {n : Int} {c : UInt8} (h : readAt l j n) (hj : l[j]? = some c) (ho : low l ≤ j) (hd : isD c = true) :
    readAt l (j + 1) (IntKind.i64.wrap (IntKind.i64.wrap (10 * n) - ((c.toNat : Nat) - 48 : Int))) := by
  refine ⟨wrap_bd _, fun m h0 h1 hm => ?_⟩
  have e := h.2 m h0 h1 hm
  obtain ⟨a1, a2, a3, a4⟩ := of_itoa h0 h1 hm
  have hc := (isD_iff c).1 hd
  rw [take_at hj ho, valN_append, valN_cons, valN_nil]
  have hle := valN_take (l.drop (low l)) (j + 1 - low l) 0
  rw [take_at hj ho, valN_append, valN_cons, valN_nil, a2] at hle
  generalize valN 0 ((l.drop (low l)).take (j - low l)) = v at *
  subst e
  rw [IntWalk.i64_in (10 * -(v : Int)) ⟨by omega, by omega⟩, IntWalk.i64_in _ ⟨by omega, by omega⟩]
  omega
/-- The loop stops at no number's text. -/
theorem readAt_stop {l : List UInt8} {j : Nat} {c : UInt8} (hj : l[j]? = some c) (ho : low l ≤ j) (hn : ¬ (isD c = true ∧ l.length ≤ 20)) : numC l = none := by
  cases hc : numC l with
  | none => rfl
  | some m =>
    obtain ⟨h0, h1, hm⟩ := (numC_iff l m).1 hc
    obtain ⟨a1, a2, a3, a4⟩ := of_itoa h0 h1 hm
    refine absurd ⟨List.all_eq_true.1 a1 c ?_, a3⟩ hn
    refine List.mem_of_getElem? (i := j - low l) ?_
    rw [List.getElem?_drop, show low l + (j - low l) = j by omega, hj]
/-- What is told at the end. -/
theorem readAt_end {l : List UInt8} {n v : Int} (h : readAt l l.length n) (hv : v = if low l = 1 then n else IntKind.i64.wrap (-n)) :
    (-9223372036854775808 ≤ v ∧ v ≤ 9223372036854775807) ∧ numC l = if Lib.itoa v = l then some v else none := by
  have hb : -9223372036854775808 ≤ v ∧ v ≤ 9223372036854775807 := by
    rw [hv]
    split
    · exact h.1
    · exact wrap_bd _
  refine ⟨hb, ?_⟩
  by_cases he : Lib.itoa v = l
  · rw [if_pos he]
    exact (numC_iff l v).2 ⟨hb.1, hb.2, he⟩
  · rw [if_neg he]
    cases hc : numC l with
    | none => rfl
    | some m =>
      exfalso
      apply he
      obtain ⟨h0, h1, hm⟩ := (numC_iff l m).1 hc
      obtain ⟨a1, a2, a3, a4⟩ := of_itoa h0 h1 hm
      have e := h.2 m h0 h1 hm
      rw [List.take_of_length_le (by rw [List.length_drop]; exact Nat.le_refl _), a2] at e
      rw [hv]
      by_cases hl : low l = 1
      · rw [if_pos hl]
        have := a4.2 hl
        have : n = m := by omega
        rw [this, hm]
      · rw [if_neg hl]
        have : ¬ m < 0 := fun hm' => hl (a4.1 hm')
        have : -n = m := by omega
        rw [this, IntWalk.i64_in m ⟨by omega, by omega⟩, hm]
end Go.Proofs.YtmomahgedheekaaDoor
