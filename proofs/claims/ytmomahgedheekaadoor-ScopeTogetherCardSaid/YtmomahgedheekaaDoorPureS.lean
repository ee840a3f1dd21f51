/- Names that are free, in plain Lean; no program in sight. -/
import Derived.Test.YtmomahgedheekaaDoorPureT
namespace Go.Proofs.YtmomahgedheekaaDoor
open Go

/-- Is a text among some? -/
def inB (l : List ByteArray) (x : ByteArray) : Bool := l.any fun y => x.toList == y.toList
theorem toList_inj {s t : ByteArray} (h : s.toList = t.toList) : s = t := by
  rw [ByteArray.toList_eq, ByteArray.toList_eq] at h
  exact ByteArray.ext (Array.toList_inj.1 h)
theorem beq_bytes (s t : ByteArray) : (s.toList == t.toList) = decide (s = t) := by
  rw [Bool.eq_iff_iff, beq_iff_eq, decide_eq_true_eq]
  exact ⟨toList_inj, fun h => by rw [h]⟩
theorem inB_iff (l : List ByteArray) (x : ByteArray) : inB l x = true ↔ x ∈ l := by
  unfold inB
  rw [List.any_eq_true]
  constructor
  · rintro ⟨y, hy, h⟩
    rw [beq_bytes, decide_eq_true_eq] at h
    exact h ▸ hy
  · intro h
    exact ⟨x, h, by simp⟩
theorem inB_append (l l' : List ByteArray) (x : ByteArray) : inB (l ++ l') x = (inB l x || inB l' x) := by simp [inB]
theorem inB_one (a x : ByteArray) : inB [a] x = (x.toList == a.toList) := by simp [inB]
/-- A row with one more, if it isn't there. -/
def put (l : List ByteArray) (x : ByteArray) : List ByteArray := if inB l x then l else l ++ [x]
def puts (o l : List ByteArray) : List ByteArray := l.foldl put o
theorem puts_nil (o : List ByteArray) : puts o [] = o := rfl
theorem puts_cons (o : List ByteArray) (x : ByteArray) (l : List ByteArray) : puts o (x :: l) = puts (put o x) l := rfl
theorem puts_append (o l l' : List ByteArray) : puts o (l ++ l') = puts (puts o l) l' := by simp [puts]
theorem puts_snoc (o l : List ByteArray) (x : ByteArray) : puts o (l ++ [x]) = put (puts o l) x := by rw [puts_append]; rfl
theorem mem_put (o : List ByteArray) (x y : ByteArray) : y ∈ put o x ↔ y ∈ o ∨ y = x := by
  unfold put
  split
  · rename_i h
    rw [inB_iff] at h
    constructor
    · exact .inl
    · rintro (h' | rfl)
      · exact h'
      · exact h
  · simp
theorem mem_puts (o l : List ByteArray) (y : ByteArray) : y ∈ puts o l ↔ y ∈ o ∨ y ∈ l := by
  induction l generalizing o with
  | nil => simp [puts_nil]
  | cons x l ih => rw [puts_cons, ih, mem_put]; simp [or_assoc]
theorem put_filter (p : ByteArray → Bool) (o : List ByteArray) (x : ByteArray) : (put o x).filter p = if p x then put (o.filter p) x else o.filter p := by
  unfold put
  by_cases h : inB o x = true
  · rw [if_pos h]
    by_cases hp : p x = true
    · have : inB (o.filter p) x = true := by rw [inB_iff] at h ⊢; exact List.mem_filter.2 ⟨h, hp⟩
      rw [if_pos hp, if_pos this]
    · rw [if_neg hp]
  · rw [if_neg h, List.filter_append]
    by_cases hp : p x = true
    · have : ¬ inB (o.filter p) x = true := by rw [inB_iff] at h ⊢; exact fun hm => h (List.mem_filter.1 hm).1
      rw [if_pos hp, if_neg this]
      simp [hp]
    · rw [if_neg hp]
      simp [hp]
theorem puts_filter (p : ByteArray → Bool) (l : List ByteArray) : ∀ o, (puts o l).filter p = puts (o.filter p) (l.filter p) := by
  induction l with
  | nil => intro o; rfl
  | cons x l ih =>
    intro o
    rw [puts_cons, ih, put_filter]
    by_cases hp : p x = true
    · rw [if_pos hp, List.filter_cons_of_pos hp, puts_cons]
    · rw [if_neg hp, List.filter_cons_of_neg hp]
/-- What is put already plays no part. -/
theorem puts_in (l : List ByteArray) : ∀ o, (∀ x, x ∈ l → x ∈ o) → puts o l = o := by
  induction l with
  | nil => intro o _; rfl
  | cons x l ih =>
    intro o h
    have : put o x = o := by unfold put; rw [if_pos ((inB_iff o x).2 (h x (by simp)))]
    rw [puts_cons, this]
    exact ih o fun y hy => h y (by simp [hy])
theorem puts_puts (o l : List ByteArray) : puts o (puts [] l) = puts o l := by
  have key : ∀ (l : List ByteArray) (a : List ByteArray), puts o (puts a l) = puts (puts o a) l := by
    intro l
    induction l with
    | nil => intro a; rfl
    | cons x l ih =>
      intro a
      rw [puts_cons, ih, puts_cons]
      congr 1
      unfold put
      by_cases h : inB a x = true
      · rw [if_pos h, if_pos ((inB_iff _ _).2 ((mem_puts o a x).2 (.inr ((inB_iff a x).1 h))))]
      · rw [if_neg h, puts_append]
        rfl
  have := key l []
  rw [puts_nil] at this
  exact this

/-- The names that are bound in a kid. -/
def bound (h : Hd) (kid : Nat) (bd : List ByteArray) : List ByteArray :=
  if h.k = 11 ∨ (h.k = 16 ∧ kid = 1) then bd ++ [h.arg] else if (h.k = 12 ∨ h.k = 13) ∧ kid = 1 then bd ++ [h.name] else if h.k = 13 then bd ++ [h.name, h.arg] else bd
mutual
/-- The free names' places, from the left. -/
def Tm.occ : Tm → List ByteArray → List ByteArray
  | .mk h l, bd => (if h.k = 2 ∧ inB bd h.name = false then [h.name] else []) ++ Tm.occs h 0 l bd
def Tm.occs (h : Hd) : Nat → List Tm → List ByteArray → List ByteArray
  | _, [], _ => []
  | i, t :: l, bd => t.occ (bound h i bd) ++ Tm.occs h (i + 1) l bd
end
theorem bound_more (h : Hd) (i : Nat) (bd bd' : List ByteArray) (q : ByteArray → Bool) (hb : ∀ x, inB bd' x = (inB bd x || q x)) : ∀ x, inB (bound h i bd') x = (inB (bound h i bd) x || q x) := by
  intro x
  unfold bound
  split
  · rw [inB_append, inB_append, hb, Bool.or_right_comm]
  · split
    · rw [inB_append, inB_append, hb, Bool.or_right_comm]
    · split
      · rw [inB_append, inB_append, hb, Bool.or_right_comm]
      · exact hb x
/-- More names that are bound strike those from the free ones. -/
theorem Tm.occ_more (q : ByteArray → Bool) (t : Tm) : ∀ (bd bd' : List ByteArray), (∀ x, inB bd' x = (inB bd x || q x)) → t.occ bd' = (t.occ bd).filter fun x => !q x := by
  induction t using Tm.ind with
  | h x l ih =>
    intro bd bd' hb
    simp only [Tm.occ, List.filter_append]
    congr 1
    · rw [hb]
      by_cases h2 : x.k = 2
      · cases hi : inB bd x.name <;> cases hq : q x.name <;> simp [h2, hq]
      · simp [h2]
    · generalize 0 = i
      induction l generalizing i with
      | nil => simp [Tm.occs]
      | cons t l ihl =>
        simp only [Tm.occs, List.filter_append]
        rw [ih t (by simp) _ _ (bound_more x i bd bd' q hb), ihl (fun t ht => ih t (by simp [ht]))]
theorem Tm.occ_congr (t : Tm) (bd bd' : List ByteArray) (h : ∀ x, inB bd' x = inB bd x) : t.occ bd' = t.occ bd := by
  rw [Tm.occ_more (fun _ => false) t bd bd' (fun x => by rw [h]; simp)]
  simp
/-- The names that are free, each once. -/
def Tm.free (t : Tm) : List ByteArray := puts [] (t.occ [])
def Tm.frees (l : List Tm) : List ByteArray := puts [] (l.flatMap fun t => t.occ [])
theorem Tm.frees_two (a b : Tm) : Tm.frees [a, b] = puts a.free b.free := by
  unfold Tm.frees Tm.free
  rw [puts_puts]
  simp [puts_append]
/-- Bound by a function, or a let, a name isn't free any more; the others are as before. -/
theorem Tm.free_bound (t : Tm) (name : ByteArray) : puts [] (t.occ [name]) = t.free.filter fun x => !(x.toList == name.toList) := by
  unfold Tm.free
  rw [puts_filter, Tm.occ_more (fun x => x.toList == name.toList) t [] [name] (fun x => by rw [inB_one]; simp [inB])]
  rfl
end Go.Proofs.YtmomahgedheekaaDoor
