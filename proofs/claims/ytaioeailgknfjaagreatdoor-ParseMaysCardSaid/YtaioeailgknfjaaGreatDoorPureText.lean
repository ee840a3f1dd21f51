/- Texts of types, in plain Lean. -/
import Derived.Test.YtaioeailgknfjaaGreatDoorPure
import Derived.Test.YtaioeailgknfjaaGreatDoorBytes
import Derived.Lib.ItoaNum
import Derived.Lib.ItoaLen
import Derived.Lib.Join
namespace Go.Proofs.YtaioeailgknfjaaGreatDoor
open Go

def tightOf (k : Int) (s : List UInt8) : List UInt8 := if k = 4 then [40, 32] ++ s ++ [32, 41] else s
/-- A type's text, of its kids' kinds and texts. -/
def txt (k n : Int) (ts : List (Int × List UInt8)) : List UInt8 :=
  if k = 2 then [40, 32] ++ (ts.getD 0 (0, [])).2 ++ [32, 42, 32] ++ (ts.getD 1 (0, [])).2 ++ [32, 41]
  else if k = 3 then [114, 101, 102, 32] ++ tightOf (ts.getD 0 (0, [])).1 (ts.getD 0 (0, [])).2
  else if k = 4 then tightOf (ts.getD 0 (0, [])).1 (ts.getD 0 (0, [])).2 ++ [32, 45, 62, 32] ++ (ts.getD 1 (0, [])).2
  else if k = 5 then [63] ++ Lib.itoa n
  else [105, 110, 116]
mutual
def Ty.text : Ty → List UInt8
  | .mk k n l => txt k n (Ty.texts l)
def Ty.texts : List Ty → List (Int × List UInt8)
  | [] => []
  | t :: l => (t.kind, t.text) :: Ty.texts l
end
/-- Variables' numbers are numbers that Go has. -/
def Ty.fits : Ty → Prop
  | .mk _ n _ => -9223372036854775808 ≤ n ∧ n ≤ 9223372036854775807
mutual
def Ty.fit : Ty → Prop
  | .mk _ n l => (-9223372036854775808 ≤ n ∧ n ≤ 9223372036854775807) ∧ Ty.fitss l
def Ty.fitss : List Ty → Prop
  | [] => True
  | t :: l => t.fit ∧ Ty.fitss l
end
theorem Ty.fitss_iff (l : List Ty) : Ty.fitss l ↔ ∀ t, t ∈ l → t.fit := by
  induction l with
  | nil => simp [Ty.fitss]
  | cons t l ih => simp [Ty.fitss, ih]
theorem tightOf_length (k : Int) (s : List UInt8) : (tightOf k s).length ≤ s.length + 4 := by
  unfold tightOf
  split <;> simp
theorem Ty.text_length (t : Ty) : t.fit → t.text.length ≤ 24 * t.size := by
  induction t using Ty.ind with
  | h k n l ih =>
    intro hf
    simp only [Ty.fit] at hf
    have hi := Lib.itoa_length_le n hf.1.1 hf.1.2
    have h0 : ((Ty.texts l).getD 0 (0, [])).2.length + ((Ty.texts l).getD 1 (0, [])).2.length ≤ 24 * Ty.sizes l := by
      have hfs := (Ty.fitss_iff l).1 hf.2
      match l, ih with
      | [], _ => simp [Ty.texts]
      | [a], ih => have := ih a (by simp) (hfs a (by simp)); simp [Ty.texts, Ty.sizes]; omega
      | a :: b :: r, ih =>
        have h1 := ih a (by simp) (hfs a (by simp))
        have h2 := ih b (by simp) (hfs b (by simp))
        simp [Ty.texts, Ty.sizes]
        omega
    have h1 := tightOf_length ((Ty.texts l).getD 0 (0, [])).1 ((Ty.texts l).getD 0 (0, [])).2
    simp only [Ty.text, Ty.size, txt]
    generalize (Ty.texts l).getD 0 (0, []) = x at *
    generalize (Ty.texts l).getD 1 (0, []) = y at *
    split
    · simp; omega
    split
    · simp; omega
    split
    · simp; omega
    split
    · simp; omega
    · simp; omega
theorem two_of_length {α : Type} {l : List α} (h : l.length = 2) : ∃ a b, l = [a, b] := by
  match l, h with
  | [a, b], _ => exact ⟨a, b, rfl⟩
/-- What a type that may be is made of. -/
theorem Ty.may_cases {k n : Int} {l : List Ty} (h : (Ty.mk k n l).may = true) :
    (k = 1 ∧ l = []) ∨ (∃ a b, k = 2 ∧ l = [a, b] ∧ a.may = true ∧ b.may = true) ∨ (∃ a, k = 3 ∧ l = [a] ∧ a.may = true) ∨ (∃ a b, k = 4 ∧ l = [a, b] ∧ a.may = true ∧ b.may = true) ∨ (k = 5 ∧ l = [] ∧ 0 ≤ n) := by
  simp only [Ty.may, Ty.node, Bool.and_eq_true, decide_eq_true_eq] at h
  obtain ⟨⟨⟨ha, hn⟩, hv⟩, hm⟩ := h
  unfold arity at ha
  split at ha
  · left
    exact ⟨‹_›, List.eq_nil_of_length_eq_zero (by omega)⟩
  split at ha
  · right; right; right; right
    exact ⟨‹_›, List.eq_nil_of_length_eq_zero (by omega), hn⟩
  split at ha
  · right; right; left
    obtain ⟨a, rfl⟩ := List.length_eq_one_iff.1 (show l.length = 1 by omega)
    exact ⟨a, ‹_›, rfl, by simpa [Ty.mays] using hm⟩
  split at ha
  · right; left
    obtain ⟨a, b, rfl⟩ := two_of_length (show l.length = 2 by omega)
    simp [Ty.mays] at hm
    exact ⟨a, b, ‹_›, rfl, hm.1, hm.2⟩
  split at ha
  · right; right; right; left
    obtain ⟨a, b, rfl⟩ := two_of_length (show l.length = 2 by omega)
    simp [Ty.mays] at hm
    exact ⟨a, b, ‹_›, rfl, hm.1, hm.2⟩
  · omega
theorem join5 (a b c d e s : List UInt8) : Lib.join [a, b, c, d, e] s = a ++ s ++ b ++ s ++ c ++ s ++ d ++ s ++ e := by
  simp [Lib.join, List.intercalate, List.append_assoc]
end Go.Proofs.YtaioeailgknfjaaGreatDoor
