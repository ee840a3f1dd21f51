/- Terms as trees, and what the program's functions on terms compute, in plain Lean; no program in sight. -/
import Derived.Test.YtaioeailgknfjaaDoorPureW
namespace Go.Proofs.YtaioeailgknfjaaDoor
open Go

/-- A term's head. -/
structure Hd where
  k : Int
  op : Int
  pos : Int
  n : Int
  name : ByteArray
  arg : ByteArray
  exn : ByteArray
/-- A head holds what Go's types hold. -/
structure Hd.Fits (h : Hd) : Prop where
  k0 : 0 ≤ h.k
  k1 : h.k ≤ 255
  op0 : 0 ≤ h.op
  op1 : h.op ≤ 255
  pos0 : -9223372036854775808 ≤ h.pos
  pos1 : h.pos ≤ 9223372036854775807
  n0 : -9223372036854775808 ≤ h.n
  n1 : h.n ≤ 9223372036854775807
  name1 : h.name.size ≤ 9223372036854775807
  arg1 : h.arg.size ≤ 9223372036854775807
  exn1 : h.exn.size ≤ 9223372036854775807
/-- A term: a head, and its kids. -/
inductive Tm where
  | mk (h : Hd) (kids : List Tm)
def Tm.head : Tm → Hd | .mk h _ => h
def Tm.kids : Tm → List Tm | .mk _ l => l

mutual
/-- How many nodes. -/
def Tm.size : Tm → Nat
  | .mk _ l => 1 + Tm.sizes l
def Tm.sizes : List Tm → Nat
  | [] => 0
  | t :: l => t.size + Tm.sizes l
end
theorem Tm.size_pos (t : Tm) : 0 < t.size := by cases t; simp [Tm.size]; omega
theorem Tm.sizes_take_succ (l : List Tm) (i : Nat) (t : Tm) (h : l[i]? = some t) : Tm.sizes (l.take (i+1)) = Tm.sizes (l.take i) + t.size := by
  induction l generalizing i with
  | nil => simp at h
  | cons x l ih =>
    cases i with
    | zero => simp at h; subst h; simp [Tm.sizes]
    | succ i => simp at h; simp [Tm.sizes, ih i h]; omega
theorem Tm.sizes_take_le (l : List Tm) (i : Nat) : Tm.sizes (l.take i) ≤ Tm.sizes l := by
  induction l generalizing i with
  | nil => simp
  | cons x l ih =>
    cases i with
    | zero => simp [Tm.sizes]
    | succ i => simp [Tm.sizes]; exact ih i
theorem Tm.size_at (l : List Tm) (i : Nat) (t : Tm) (h : l[i]? = some t) : t.size ≤ Tm.sizes l := by
  have h1 := Tm.sizes_take_succ l i t h
  have h2 := Tm.sizes_take_le l (i+1)
  omega
theorem Tm.size_mem (l : List Tm) (t : Tm) (h : t ∈ l) : t.size ≤ Tm.sizes l := by
  obtain ⟨i, hi, rfl⟩ := List.mem_iff_getElem.1 h
  exact Tm.size_at l i _ (List.getElem?_eq_getElem hi)
theorem Tm.sizes_length (l : List Tm) : l.length ≤ Tm.sizes l := by
  induction l with
  | nil => simp
  | cons t l ih => have := t.size_pos; simp [Tm.sizes]; omega
/-- An induction on trees: what holds of all kids. -/
theorem Tm.ind {P : Tm → Prop} (h : ∀ x l, (∀ t, t ∈ l → P t) → P (.mk x l)) (t : Tm) : P t := by
  have key : ∀ m t, t.size ≤ m → P t := by
    intro m
    induction m with
    | zero => intro t ht; have := t.size_pos; omega
    | succ m ih =>
      intro t ht
      obtain ⟨x, l⟩ := t
      refine h x l fun t hm => ih t ?_
      have := Tm.size_mem l t hm
      simp [Tm.size] at ht
      omega
  exact key _ t (Nat.le_refl _)

mutual
/-- All nodes, each ahead of its kids. -/
def Tm.all : Tm → List Tm
  | .mk h l => .mk h l :: Tm.alls l
def Tm.alls : List Tm → List Tm
  | [] => []
  | t :: l => t.all ++ Tm.alls l
end
theorem Tm.alls_eq (l : List Tm) : Tm.alls l = l.flatMap Tm.all := by
  induction l with
  | nil => simp [Tm.alls]
  | cons t l ih => simp [Tm.alls, ih]
theorem Tm.all_length (t : Tm) : t.all.length = t.size := by
  induction t using Tm.ind with
  | h x l ih =>
    simp only [Tm.all, Tm.size, List.length_cons]
    have : (Tm.alls l).length = Tm.sizes l := by
      clear x
      induction l with
      | nil => simp [Tm.alls, Tm.sizes]
      | cons t l ihl => simp only [Tm.alls, Tm.sizes, List.length_append, ih t (by simp), ihl (fun t ht => ih t (by simp [ht]))]
    omega
theorem Tm.alls_length (l : List Tm) : (Tm.alls l).length = Tm.sizes l := by
  induction l with
  | nil => simp [Tm.alls, Tm.sizes]
  | cons t l ih => simp only [Tm.alls, Tm.sizes, List.length_append, Tm.all_length, ih]
theorem Tm.alls_take_succ (l : List Tm) (i : Nat) (t : Tm) (h : l[i]? = some t) : Tm.alls (l.take (i+1)) = Tm.alls (l.take i) ++ t.all := by
  rw [Tm.alls_eq, Tm.alls_eq, List.take_add_one, h]
  simp

mutual
/-- How many stand one in the other. -/
def Tm.depth : Tm → Nat
  | .mk _ l => 1 + Tm.depths l
def Tm.depths : List Tm → Nat
  | [] => 0
  | t :: l => max t.depth (Tm.depths l)
end
theorem Tm.depths_take_succ (l : List Tm) (i : Nat) (t : Tm) (h : l[i]? = some t) : Tm.depths (l.take (i+1)) = max (Tm.depths (l.take i)) t.depth := by
  induction l generalizing i with
  | nil => simp at h
  | cons x l ih =>
    cases i with
    | zero => simp at h; subst h; simp [Tm.depths]
    | succ i => simp at h; simp only [List.take_succ_cons, Tm.depths, ih i h]; omega
theorem Tm.depth_size (t : Tm) : t.depth ≤ t.size := by
  induction t using Tm.ind with
  | h x l ih =>
    simp only [Tm.depth, Tm.size]
    have : Tm.depths l ≤ Tm.sizes l := by
      clear x
      induction l with
      | nil => simp [Tm.depths]
      | cons t l ihl =>
        have h1 := ih t (by simp)
        have h2 := ihl (fun t ht => ih t (by simp [ht]))
        simp only [Tm.depths, Tm.sizes]
        omega
    omega
theorem Tm.depths_sizes (l : List Tm) : Tm.depths l ≤ Tm.sizes l := by
  induction l with
  | nil => simp [Tm.depths]
  | cons t l ih =>
    have h1 := t.depth_size
    simp only [Tm.depths, Tm.sizes]
    omega

/-- Is a text too long to be gone through? -/
def Hd.long (h : Hd) : Bool := decide (100 < h.name.size) || (decide (100 < h.arg.size) || decide (100 < h.exn.size))
mutual
def Tm.left : Tm → Int → Int
  | .mk h l, n => if h.long then -1 else Tm.lefts l (n - 1)
def Tm.lefts : List Tm → Int → Int
  | [], n => n
  | t :: l, n => if 0 ≤ n then Tm.lefts l (t.left n) else n
end
mutual
/-- No text is too long. -/
def Tm.short : Tm → Prop
  | .mk h l => h.long = false ∧ Tm.shorts l
def Tm.shorts : List Tm → Prop
  | [] => True
  | t :: l => t.short ∧ Tm.shorts l
end
theorem Tm.lefts_neg (l : List Tm) (n : Int) (h : n < 0) : Tm.lefts l n = n := by cases l <;> simp [Tm.lefts]; omega
theorem Tm.lefts_spec (l : List Tm) (ih : ∀ t, t ∈ l → ∀ n : Int, 0 ≤ n → -1 ≤ t.left n ∧ t.left n ≤ n ∧ (0 ≤ t.left n → (t.size : Int) ≤ n ∧ t.left n = n - t.size ∧ t.short)) :
    ∀ n : Int, -1 ≤ n → -1 ≤ Tm.lefts l n ∧ Tm.lefts l n ≤ n ∧ (0 ≤ Tm.lefts l n → (Tm.sizes l : Int) ≤ n ∧ Tm.lefts l n = n - Tm.sizes l ∧ Tm.shorts l) := by
  induction l with
  | nil => intro n hn; simp [Tm.lefts, Tm.sizes, Tm.shorts]; omega
  | cons t l ihl =>
    intro n hn
    simp only [Tm.lefts, Tm.sizes, Tm.shorts]
    by_cases h : 0 ≤ n
    · rw [if_pos h]
      obtain ⟨a, b, c⟩ := ih t (by simp) n h
      obtain ⟨a', b', c'⟩ := ihl (fun t ht => ih t (by simp [ht])) (t.left n) a
      refine ⟨a', by omega, fun hs => ?_⟩
      obtain ⟨c1, c2, c3⟩ := c (by omega)
      obtain ⟨d1, d2, d3⟩ := c' hs
      exact ⟨by omega, by omega, c3, d3⟩
    · rw [if_neg h]
      exact ⟨hn, Int.le_refl _, fun hs => by omega⟩
theorem Tm.left_spec (t : Tm) : ∀ n : Int, 0 ≤ n → -1 ≤ t.left n ∧ t.left n ≤ n ∧ (0 ≤ t.left n → (t.size : Int) ≤ n ∧ t.left n = n - t.size ∧ t.short) := by
  induction t using Tm.ind with
  | h x l ih =>
    intro n hn
    obtain ⟨a, b, c⟩ := Tm.lefts_spec l ih (n - 1) (by omega)
    simp only [Tm.left, Tm.size, Tm.short]
    cases hl : x.long
    · simp only [Bool.false_eq_true, if_false]
      refine ⟨a, by omega, fun h => ?_⟩
      obtain ⟨c1, c2, c3⟩ := c h
      exact ⟨by omega, by omega, trivial, c3⟩
    · simp only [if_true]
      exact ⟨by omega, by omega, fun h => by omega⟩
theorem Tm.lefts_take (l : List Tm) (n : Int) (i : Nat) (t : Tm) (h : l[i]? = some t) (h0 : 0 ≤ Tm.lefts (l.take i) n) : Tm.lefts (l.take (i+1)) n = t.left (Tm.lefts (l.take i) n) := by
  induction l generalizing i n with
  | nil => simp at h
  | cons x l ih =>
    cases i with
    | zero =>
      simp at h; subst h
      simp [Tm.lefts] at h0 ⊢
      intro hn; omega
    | succ i =>
      simp only [List.take_succ_cons, Tm.lefts] at h0 ⊢
      by_cases hn : 0 ≤ n
      · rw [if_pos hn] at h0 ⊢; rw [if_pos hn]; exact ih _ i (by simpa using h) h0
      · rw [if_neg hn] at h0; omega
theorem Tm.lefts_stop (l : List Tm) (n : Int) (i : Nat) (h0 : Tm.lefts (l.take i) n < 0) : Tm.lefts l n = Tm.lefts (l.take i) n := by
  induction l generalizing i n with
  | nil => simp [Tm.lefts]
  | cons x l ih =>
    cases i with
    | zero => simp [Tm.lefts] at h0 ⊢; intro hn; omega
    | succ i =>
      simp only [List.take_succ_cons, Tm.lefts] at h0 ⊢
      by_cases hn : 0 ≤ n
      · rw [if_pos hn] at h0 ⊢; rw [if_pos hn]; exact ih _ i h0
      · rw [if_neg hn, if_neg hn]
/-- More than is gone through. -/
def Tm.great (t : Tm) : Bool := decide (t.left 400 < 0)
theorem Tm.not_great {t : Tm} (h : t.great = false) : t.size ≤ 400 ∧ t.short := by
  have hs := (t.left_spec 400 (by omega)).2.2
  simp only [Tm.great, decide_eq_false_iff_not] at h
  have := hs (by omega)
  exact ⟨by omega, this.2.2⟩

/-- Heads that are the same, but for places. -/
def Hd.same (h h' : Hd) : Bool := h.k == h'.k && (h.op == h'.op && (h.n == h'.n && (h.name.toList == h'.name.toList && (h.arg.toList == h'.arg.toList && h.exn.toList == h'.exn.toList))))
mutual
/-- The same, but for places. -/
def Tm.same : Tm → Tm → Bool
  | .mk h l, .mk h' l' => h.same h' && Tm.sames l l'
def Tm.sames : List Tm → List Tm → Bool
  | [], [] => true
  | t :: l, t' :: l' => t.same t' && Tm.sames l l'
  | _, _ => false
end
def Tm.samesTo (l l' : List Tm) (i : Nat) : Prop := ∀ j, j < i → ∀ t t', l[j]? = some t → l'[j]? = some t' → t.same t' = true
theorem Tm.sames_len (l l' : List Tm) (h : l.length ≠ l'.length) : Tm.sames l l' = false := by
  induction l generalizing l' with
  | nil => cases l' <;> simp [Tm.sames] at h ⊢
  | cons t l ih =>
    cases l' with
    | nil => simp [Tm.sames]
    | cons t' l' => simp [Tm.sames]; intro _; exact ih l' (by simpa using h)
theorem Tm.sames_no (l l' : List Tm) (i : Nat) (t t' : Tm) (h : l[i]? = some t) (h' : l'[i]? = some t') (hs : t.same t' = false) : Tm.sames l l' = false := by
  induction l generalizing l' i with
  | nil => simp at h
  | cons x l ih =>
    cases l' with
    | nil => simp at h'
    | cons x' l' =>
      cases i with
      | zero => simp at h h'; subst h h'; simp [Tm.sames, hs]
      | succ i => simp at h h'; simp [Tm.sames, ih l' i h h']
theorem Tm.sames_yes (l l' : List Tm) (hl : l.length = l'.length) (h : Tm.samesTo l l' l.length) : Tm.sames l l' = true := by
  induction l generalizing l' with
  | nil => cases l' <;> simp [Tm.sames] at hl ⊢
  | cons t l ih =>
    cases l' with
    | nil => simp at hl
    | cons t' l' =>
      simp only [Tm.sames, Bool.and_eq_true]
      refine ⟨h 0 (by simp) t t' rfl rfl, ih l' (by simpa using hl) fun j hj x x' hx hx' => h (j+1) (by simpa using hj) x x' (by simpa using hx) (by simpa using hx')⟩
theorem Tm.samesTo_succ {l l' : List Tm} {i : Nat} {t t' : Tm} (h : Tm.samesTo l l' i) (g : l[i]? = some t) (g' : l'[i]? = some t') (hs : t.same t' = true) : Tm.samesTo l l' (i+1) := by
  intro j hj x x' hx hx'
  rcases Nat.lt_or_ge j i with hlt | hge
  · exact h j hlt x x' hx hx'
  · obtain rfl : j = i := by omega
    rw [g] at hx; rw [g'] at hx'
    cases hx; cases hx'
    exact hs

/-- How many kids a kind has; -1. -/
def karity (k : Int) : Int :=
  if k = 1 ∨ k = 2 then 0 else if k = 4 ∨ k = 5 ∨ k = 6 ∨ k = 7 ∨ k = 11 ∨ k = 15 then 1 else if k = 3 ∨ k = 8 ∨ k = 9 ∨ k = 10 ∨ k = 12 ∨ k = 13 ∨ k = 16 then 2 else if k = 14 then 3 else -1
/-- Is a text there just where it should be? -/
def fitB (there : Bool) (s : ByteArray) (ok : Bool) : Bool := (there && ok) || (!there && s.toList.isEmpty)
def Hd.hasName (h : Hd) : Bool := h.k == 2 || (h.k == 12 || h.k == 13)
def Hd.hasArg (h : Hd) : Bool := h.k == 11 || (h.k == 13 || h.k == 16)
def Hd.hasExn (h : Hd) : Bool := h.k == 15 || h.k == 16
/-- The numbers of a node are right. -/
def Tm.nums : Tm → Bool
  | .mk h l => decide (0 ≤ karity h.k) && (decide ((l.length : Int) = karity h.k) && (decide (0 ≤ h.pos) && ((if h.k = 9 then decide (1 ≤ h.op) && decide (h.op ≤ 5) else decide (h.op = 0)) && ((decide (0 ≤ h.n) && decide (h.n ≤ 2147483647)) && (decide (h.k = 1) || decide (h.n = 0))))))
/-- May a node alone be? -/
def Tm.node : Tm → Bool
  | .mk h l => Tm.nums (.mk h l) && (fitB h.hasName h.name (isName h.name) && (fitB h.hasArg h.arg (isName h.arg) && fitB h.hasExn h.exn (isExn h.exn)))
def Tm.may (t : Tm) : Bool := decide (t.size ≤ 4000) && t.all.all Tm.node
end Go.Proofs.YtaioeailgknfjaaDoor
