/- Terms as trees, and what the program's functions on terms compute, in plain Lean; no program in sight. Names that are free, in plain Lean; no program in sight. Going through nodes with the names that are bound there; closed programs. In plain Lean; no program in sight. Free names, one kid after the other; how many there are. In plain Lean; no program in sight. A function and a let that bind a name. In plain Lean; no program in sight. -/
import Derived.Test.YtaioeailgknfjaaGreatDoorPureW
namespace Go.Proofs.YtaioeailgknfjaaGreatDoor
open Go

/-- A term's head. -/
structure Hd where
  k : Int
  op : Int
  pos : Int
  n : Int
  name : ByteArray
  arg : ByteArray
  exn : ByteArray
/-- A head holds what Go's types hold. -/
structure Hd.Fits (h : Hd) : Prop where
  k0 : 0 ≤ h.k
  k1 : h.k ≤ 255
  op0 : 0 ≤ h.op
  op1 : h.op ≤ 255
  pos0 : -9223372036854775808 ≤ h.pos
  pos1 : h.pos ≤ 9223372036854775807
  n0 : -9223372036854775808 ≤ h.n
  n1 : h.n ≤ 9223372036854775807
  name1 : h.name.size ≤ 9223372036854775807
  arg1 : h.arg.size ≤ 9223372036854775807
  exn1 : h.exn.size ≤ 9223372036854775807
/-- A term: a head, and its kids. -/
inductive Tm where
  | mk (h : Hd) (kids : List Tm)
def Tm.head : Tm → Hd | .mk h _ => h
def Tm.kids : Tm → List Tm | .mk _ l => l

mutual
/-- How many nodes. -/
def Tm.size : Tm → Nat
  | .mk _ l => 1 + Tm.sizes l
def Tm.sizes : List Tm → Nat
  | [] => 0
  | t :: l => t.size + Tm.sizes l
end
theorem Tm.size_pos (t : Tm) : 0 < t.size := by cases t; simp [Tm.size]; omega
theorem Tm.sizes_take_succ (l : List Tm) (i : Nat) (t : Tm) (h : l[i]? = some t) : Tm.sizes (l.take (i+1)) = Tm.sizes (l.take i) + t.size := by
  induction l generalizing i with
  | nil => simp at h
  | cons x l ih =>
    cases i with
    | zero => simp at h; subst h; simp [Tm.sizes]
    | succ i => simp at h; simp [Tm.sizes, ih i h]; omega
theorem Tm.sizes_take_le (l : List Tm) (i : Nat) : Tm.sizes (l.take i) ≤ Tm.sizes l := by
  induction l generalizing i with
  | nil => simp
  | cons x l ih =>
    cases i with
    | zero => simp [Tm.sizes]
    | succ i => simp [Tm.sizes]; exact ih i
theorem Tm.size_at (l : List Tm) (i : Nat) (t : Tm) (h : l[i]? = some t) : t.size ≤ Tm.sizes l := by
  have h1 := Tm.sizes_take_succ l i t h
  have h2 := Tm.sizes_take_le l (i+1)
  omega
theorem Tm.size_mem (l : List Tm) (t : Tm) (h : t ∈ l) : t.size ≤ Tm.sizes l := by
  obtain ⟨i, hi, rfl⟩ := List.mem_iff_getElem.1 h
  exact Tm.size_at l i _ (List.getElem?_eq_getElem hi)
theorem Tm.sizes_length (l : List Tm) : l.length ≤ Tm.sizes l := by
  induction l with
  | nil => simp
  | cons t l ih => have := t.size_pos; simp [Tm.sizes]; omega
/-- An induction on trees: what holds of all kids. -/
theorem Tm.ind {P : Tm → Prop} (h : ∀ x l, (∀ t, t ∈ l → P t) → P (.mk x l)) (t : Tm) : P t := by
  have key : ∀ m t, t.size ≤ m → P t := by
    intro m
    induction m with
    | zero => intro t ht; have := t.size_pos; omega
    | succ m ih =>
      intro t ht
      obtain ⟨x, l⟩ := t
      refine h x l fun t hm => ih t ?_
      have := Tm.size_mem l t hm
      simp [Tm.size] at ht
      omega
  exact key _ t (Nat.le_refl _)

mutual
/-- All nodes, each ahead of its kids. -/
def Tm.all : Tm → List Tm
  | .mk h l => .mk h l :: Tm.alls l
def Tm.alls : List Tm → List Tm
  | [] => []
  | t :: l => t.all ++ Tm.alls l
end
theorem Tm.alls_eq (l : List Tm) : Tm.alls l = l.flatMap Tm.all := by
  induction l with
  | nil => simp [Tm.alls]
  | cons t l ih => simp [Tm.alls, ih]
theorem Tm.all_length (t : Tm) : t.all.length = t.size := by
  induction t using Tm.ind with
  | h x l ih =>
    simp only [Tm.all, Tm.size, List.length_cons]
    have : (Tm.alls l).length = Tm.sizes l := by
      clear x
      induction l with
      | nil => simp [Tm.alls, Tm.sizes]
      | cons t l ihl => simp only [Tm.alls, Tm.sizes, List.length_append, ih t (by simp), ihl (fun t ht => ih t (by simp [ht]))]
    omega
theorem Tm.alls_length (l : List Tm) : (Tm.alls l).length = Tm.sizes l := by
  induction l with
  | nil => simp [Tm.alls, Tm.sizes]
  | cons t l ih => simp only [Tm.alls, Tm.sizes, List.length_append, Tm.all_length, ih]
theorem Tm.alls_take_succ (l : List Tm) (i : Nat) (t : Tm) (h : l[i]? = some t) : Tm.alls (l.take (i+1)) = Tm.alls (l.take i) ++ t.all := by
  rw [Tm.alls_eq, Tm.alls_eq, List.take_add_one, h]
  simp

mutual
/-- How many stand one in the other. -/
def Tm.depth : Tm → Nat
  | .mk _ l => 1 + Tm.depths l
def Tm.depths : List Tm → Nat
  | [] => 0
  | t :: l => max t.depth (Tm.depths l)
end
theorem Tm.depths_take_succ (l : List Tm) (i : Nat) (t : Tm) (h : l[i]? = some t) : Tm.depths (l.take (i+1)) = max (Tm.depths (l.take i)) t.depth := by
  induction l generalizing i with
  | nil => simp at h
  | cons x l ih =>
    cases i with
    | zero => simp at h; subst h; simp [Tm.depths]
    | succ i => simp at h; simp only [List.take_succ_cons, Tm.depths, ih i h]; omega
theorem Tm.depth_size (t : Tm) : t.depth ≤ t.size := by
  induction t using Tm.ind with
  | h x l ih =>
    simp only [Tm.depth, Tm.size]
    have : Tm.depths l ≤ Tm.sizes l := by
      clear x
      induction l with
      | nil => simp [Tm.depths]
      | cons t l ihl =>
        have h1 := ih t (by simp)
        have h2 := ihl (fun t ht => ih t (by simp [ht]))
        simp only [Tm.depths, Tm.sizes]
        omega
    omega
theorem Tm.depths_sizes (l : List Tm) : Tm.depths l ≤ Tm.sizes l := by
  induction l with
  | nil => simp [Tm.depths]
  | cons t l ih =>
    have h1 := t.depth_size
    simp only [Tm.depths, Tm.sizes]
    omega

/-- Is a text too long to be gone through? -/
def Hd.long (h : Hd) : Bool := decide (100 < h.name.size) || (decide (100 < h.arg.size) || decide (100 < h.exn.size))
mutual
def Tm.left : Tm → Int → Int
  | .mk h l, n => if h.long then -1 else Tm.lefts l (n - 1)
def Tm.lefts : List Tm → Int → Int
  | [], n => n
  | t :: l, n => if 0 ≤ n then Tm.lefts l (t.left n) else n
end
mutual
/-- No text is too long. -/
def Tm.short : Tm → Prop
  | .mk h l => h.long = false ∧ Tm.shorts l
def Tm.shorts : List Tm → Prop
  | [] => True
  | t :: l => t.short ∧ Tm.shorts l
end
theorem Tm.lefts_neg (l : List Tm) (n : Int) (h : n < 0) : Tm.lefts l n = n := by cases l <;> simp [Tm.lefts]; omega
theorem Tm.lefts_spec (l : List Tm) (ih : ∀ t, t ∈ l → ∀ n : Int, 0 ≤ n → -1 ≤ t.left n ∧ t.left n ≤ n ∧ (0 ≤ t.left n → (t.size : Int) ≤ n ∧ t.left n = n - t.size ∧ t.short)) :
    ∀ n : Int, -1 ≤ n → -1 ≤ Tm.lefts l n ∧ Tm.lefts l n ≤ n ∧ (0 ≤ Tm.lefts l n → (Tm.sizes l : Int) ≤ n ∧ Tm.lefts l n = n - Tm.sizes l ∧ Tm.shorts l) := by
  induction l with
  | nil => intro n hn; simp [Tm.lefts, Tm.sizes, Tm.shorts]; omega
  | cons t l ihl =>
    intro n hn
    simp only [Tm.lefts, Tm.sizes, Tm.shorts]
    by_cases h : 0 ≤ n
    · rw [if_pos h]
      obtain ⟨a, b, c⟩ := ih t (by simp) n h
      obtain ⟨a', b', c'⟩ := ihl (fun t ht => ih t (by simp [ht])) (t.left n) a
      refine ⟨a', by omega, fun hs => ?_⟩
      obtain ⟨c1, c2, c3⟩ := c (by omega)
      obtain ⟨d1, d2, d3⟩ := c' hs
      exact ⟨by omega, by omega, c3, d3⟩
    · rw [if_neg h]
      exact ⟨hn, Int.le_refl _, fun hs => by omega⟩
theorem Tm.left_spec (t : Tm) : ∀ n : Int, 0 ≤ n → -1 ≤ t.left n ∧ t.left n ≤ n ∧ (0 ≤ t.left n → (t.size : Int) ≤ n ∧ t.left n = n - t.size ∧ t.short) := by
  induction t using Tm.ind with
  | h x l ih =>
    intro n hn
    obtain ⟨a, b, c⟩ := Tm.lefts_spec l ih (n - 1) (by omega)
    simp only [Tm.left, Tm.size, Tm.short]
    cases hl : x.long
    · simp only [Bool.false_eq_true, if_false]
      refine ⟨a, by omega, fun h => ?_⟩
      obtain ⟨c1, c2, c3⟩ := c h
      exact ⟨by omega, by omega, trivial, c3⟩
    · simp only [if_true]
      exact ⟨by omega, by omega, fun h => by omega⟩
theorem Tm.lefts_take (l : List Tm) (n : Int) (i : Nat) (t : Tm) (h : l[i]? = some t) (h0 : 0 ≤ Tm.lefts (l.take i) n) : Tm.lefts (l.take (i+1)) n = t.left (Tm.lefts (l.take i) n) := by
  induction l generalizing i n with
  | nil => simp at h
  | cons x l ih =>
    cases i with
    | zero =>
      simp at h; subst h
      simp [Tm.lefts] at h0 ⊢
      intro hn; omega
    | succ i =>
      simp only [List.take_succ_cons, Tm.lefts] at h0 ⊢
      by_cases hn : 0 ≤ n
      · rw [if_pos hn] at h0 ⊢; rw [if_pos hn]; exact ih _ i (by simpa using h) h0
      · rw [if_neg hn] at h0; omega
theorem Tm.lefts_stop (l : List Tm) (n : Int) (i : Nat) (h0 : Tm.lefts (l.take i) n < 0) : Tm.lefts l n = Tm.lefts (l.take i) n := by
  induction l generalizing i n with
  | nil => simp [Tm.lefts]
  | cons x l ih =>
    cases i with
    | zero => simp [Tm.lefts] at h0 ⊢; intro hn; omega
    | succ i =>
      simp only [List.take_succ_cons, Tm.lefts] at h0 ⊢
      by_cases hn : 0 ≤ n
      · rw [if_pos hn] at h0 ⊢; rw [if_pos hn]; exact ih _ i h0
      · rw [if_neg hn, if_neg hn]
/-- More than is gone through. -/
def Tm.great (t : Tm) : Bool := decide (t.left 400 < 0)
theorem Tm.not_great {t : Tm} (h : t.great = false) : t.size ≤ 400 ∧ t.short := by
  have hs := (t.left_spec 400 (by omega)).2.2
  simp only [Tm.great, decide_eq_false_iff_not] at h
  have := hs (by omega)
  exact ⟨by omega, this.2.2⟩

/-- Heads that are the same, but for places. -/
def Hd.same (h h' : Hd) : Bool := h.k == h'.k && (h.op == h'.op && (h.n == h'.n && (h.name.toList == h'.name.toList && (h.arg.toList == h'.arg.toList && h.exn.toList == h'.exn.toList))))
mutual
/-- The same, but for places. -/
def Tm.same : Tm → Tm → Bool
  | .mk h l, .mk h' l' => h.same h' && Tm.sames l l'
def Tm.sames : List Tm → List Tm → Bool
  | [], [] => true
  | t :: l, t' :: l' => t.same t' && Tm.sames l l'
  | _, _ => false
end
def Tm.samesTo (l l' : List Tm) (i : Nat) : Prop := ∀ j, j < i → ∀ t t', l[j]? = some t → l'[j]? = some t' → t.same t' = true
theorem Tm.sames_len (l l' : List Tm) (h : l.length ≠ l'.length) : Tm.sames l l' = false := by
  induction l generalizing l' with
  | nil => cases l' <;> simp [Tm.sames] at h ⊢
  | cons t l ih =>
    cases l' with
    | nil => simp [Tm.sames]
    | cons t' l' => simp [Tm.sames]; intro _; exact ih l' (by simpa using h)
theorem Tm.sames_no (l l' : List Tm) (i : Nat) (t t' : Tm) (h : l[i]? = some t) (h' : l'[i]? = some t') (hs : t.same t' = false) : Tm.sames l l' = false := by
  induction l generalizing l' i with
  | nil => simp at h
  | cons x l ih =>
    cases l' with
    | nil => simp at h'
    | cons x' l' =>
      cases i with
      | zero => simp at h h'; subst h h'; simp [Tm.sames, hs]
      | succ i => simp at h h'; simp [Tm.sames, ih l' i h h']
theorem Tm.sames_yes (l l' : List Tm) (hl : l.length = l'.length) (h : Tm.samesTo l l' l.length) : Tm.sames l l' = true := by
  induction l generalizing l' with
  | nil => cases l' <;> simp [Tm.sames] at hl ⊢
  | cons t l ih =>
    cases l' with
    | nil => simp at hl
    | cons t' l' =>
      simp only [Tm.sames, Bool.and_eq_true]
      refine ⟨h 0 (by simp) t t' rfl rfl, ih l' (by simpa using hl) fun j hj x x' hx hx' => h (j+1) (by simpa using hj) x x' (by simpa using hx) (by simpa using hx')⟩
theorem Tm.samesTo_succ {l l' : List Tm} {i : Nat} {t t' : Tm} (h : Tm.samesTo l l' i) (g : l[i]? = some t) (g' : l'[i]? = some t') (hs : t.same t' = true) : Tm.samesTo l l' (i+1) := by
  intro j hj x x' hx hx'
  rcases Nat.lt_or_ge j i with hlt | hge
  · exact h j hlt x x' hx hx'
  · obtain rfl : j = i := by omega
    rw [g] at hx; rw [g'] at hx'
    cases hx; cases hx'
    exact hs

/-- How many kids a kind has; -1. -/
def karity (k : Int) : Int :=
  if k = 1 ∨ k = 2 then 0 else if k = 4 ∨ k = 5 ∨ k = 6 ∨ k = 7 ∨ k = 11 ∨ k = 15 then 1 else if k = 3 ∨ k = 8 ∨ k = 9 ∨ k = 10 ∨ k = 12 ∨ k = 13 ∨ k = 16 then 2 else if k = 14 then 3 else -1
/-- Is a text there just where it should be? -/
def fitB (there : Bool) (s : ByteArray) (ok : Bool) : Bool := (there && ok) || (!there && s.toList.isEmpty)
def Hd.hasName (h : Hd) : Bool := h.k == 2 || (h.k == 12 || h.k == 13)
def Hd.hasArg (h : Hd) : Bool := h.k == 11 || (h.k == 13 || h.k == 16)
def Hd.hasExn (h : Hd) : Bool := h.k == 15 || h.k == 16
/-- The numbers of a node are right. -/
def Tm.nums : Tm → Bool
  | .mk h l => decide (0 ≤ karity h.k) && (decide ((l.length : Int) = karity h.k) && (decide (0 ≤ h.pos) && ((if h.k = 9 then decide (1 ≤ h.op) && decide (h.op ≤ 5) else decide (h.op = 0)) && ((decide (0 ≤ h.n) && decide (h.n ≤ 2147483647)) && (decide (h.k = 1) || decide (h.n = 0))))))
/-- May a node alone be? -/
def Tm.node : Tm → Bool
  | .mk h l => Tm.nums (.mk h l) && (fitB h.hasName h.name (isName h.name) && (fitB h.hasArg h.arg (isName h.arg) && fitB h.hasExn h.exn (isExn h.exn)))
def Tm.may (t : Tm) : Bool := decide (t.size ≤ 4000) && t.all.all Tm.node
end Go.Proofs.YtaioeailgknfjaaGreatDoor
namespace Go.Proofs.YtaioeailgknfjaaGreatDoor
open Go

/-- Is a text among some? -/
def inB (l : List ByteArray) (x : ByteArray) : Bool := l.any fun y => x.toList == y.toList
theorem toList_inj {s t : ByteArray} (h : s.toList = t.toList) : s = t := by
  rw [ByteArray.toList_eq, ByteArray.toList_eq] at h
  exact ByteArray.ext (Array.toList_inj.1 h)
theorem beq_bytes (s t : ByteArray) : (s.toList == t.toList) = decide (s = t) := by
  rw [Bool.eq_iff_iff, beq_iff_eq, decide_eq_true_eq]
  exact ⟨toList_inj, fun h => by rw [h]⟩
theorem inB_iff (l : List ByteArray) (x : ByteArray) : inB l x = true ↔ x ∈ l := by
  unfold inB
  rw [List.any_eq_true]
  constructor
  · rintro ⟨y, hy, h⟩
    rw [beq_bytes, decide_eq_true_eq] at h
    exact h ▸ hy
  · intro h
    exact ⟨x, h, by simp⟩
theorem inB_append (l l' : List ByteArray) (x : ByteArray) : inB (l ++ l') x = (inB l x || inB l' x) := by simp [inB]
theorem inB_one (a x : ByteArray) : inB [a] x = (x.toList == a.toList) := by simp [inB]
/-- A row with one more, if it isn't there. -/
def put (l : List ByteArray) (x : ByteArray) : List ByteArray := if inB l x then l else l ++ [x]
def puts (o l : List ByteArray) : List ByteArray := l.foldl put o
theorem puts_nil (o : List ByteArray) : puts o [] = o := rfl
theorem puts_cons (o : List ByteArray) (x : ByteArray) (l : List ByteArray) : puts o (x :: l) = puts (put o x) l := rfl
theorem puts_append (o l l' : List ByteArray) : puts o (l ++ l') = puts (puts o l) l' := by simp [puts]
theorem puts_snoc (o l : List ByteArray) (x : ByteArray) : puts o (l ++ [x]) = put (puts o l) x := by rw [puts_append]; rfl
theorem mem_put (o : List ByteArray) (x y : ByteArray) : y ∈ put o x ↔ y ∈ o ∨ y = x := by
  unfold put
  split
  · rename_i h
    rw [inB_iff] at h
    constructor
    · exact .inl
    · rintro (h' | rfl)
      · exact h'
      · exact h
  · simp
theorem mem_puts (o l : List ByteArray) (y : ByteArray) : y ∈ puts o l ↔ y ∈ o ∨ y ∈ l := by
  induction l generalizing o with
  | nil => simp [puts_nil]
  | cons x l ih => rw [puts_cons, ih, mem_put]; simp [or_assoc]
theorem put_filter (p : ByteArray → Bool) (o : List ByteArray) (x : ByteArray) : (put o x).filter p = if p x then put (o.filter p) x else o.filter p := by
  unfold put
  by_cases h : inB o x = true
  · rw [if_pos h]
    by_cases hp : p x = true
    · have : inB (o.filter p) x = true := by rw [inB_iff] at h ⊢; exact List.mem_filter.2 ⟨h, hp⟩
      rw [if_pos hp, if_pos this]
    · rw [if_neg hp]
  · rw [if_neg h, List.filter_append]
    by_cases hp : p x = true
    · have : ¬ inB (o.filter p) x = true := by rw [inB_iff] at h ⊢; exact fun hm => h (List.mem_filter.1 hm).1
      rw [if_pos hp, if_neg this]
      simp [hp]
    · rw [if_neg hp]
      simp [hp]
theorem puts_filter (p : ByteArray → Bool) (l : List ByteArray) : ∀ o, (puts o l).filter p = puts (o.filter p) (l.filter p) := by
  induction l with
  | nil => intro o; rfl
  | cons x l ih =>
    intro o
    rw [puts_cons, ih, put_filter]
    by_cases hp : p x = true
    · rw [if_pos hp, List.filter_cons_of_pos hp, puts_cons]
    · rw [if_neg hp, List.filter_cons_of_neg hp]
/-- What is put already plays no part. -/
theorem puts_in (l : List ByteArray) : ∀ o, (∀ x, x ∈ l → x ∈ o) → puts o l = o := by
  induction l with
  | nil => intro o _; rfl
  | cons x l ih =>
    intro o h
    have : put o x = o := by unfold put; rw [if_pos ((inB_iff o x).2 (h x (by simp)))]
    rw [puts_cons, this]
    exact ih o fun y hy => h y (by simp [hy])
theorem puts_puts (o l : List ByteArray) : puts o (puts [] l) = puts o l := by
  have key : ∀ (l : List ByteArray) (a : List ByteArray), puts o (puts a l) = puts (puts o a) l := by
    intro l
    induction l with
    | nil => intro a; rfl
    | cons x l ih =>
      intro a
      rw [puts_cons, ih, puts_cons]
      congr 1
      unfold put
      by_cases h : inB a x = true
      · rw [if_pos h, if_pos ((inB_iff _ _).2 ((mem_puts o a x).2 (.inr ((inB_iff a x).1 h))))]
      · rw [if_neg h, puts_append]
        rfl
  have := key l []
  rw [puts_nil] at this
  exact this

/-- The names that are bound in a kid. -/
def bound (h : Hd) (kid : Nat) (bd : List ByteArray) : List ByteArray :=
  if h.k = 11 ∨ (h.k = 16 ∧ kid = 1) then bd ++ [h.arg] else if (h.k = 12 ∨ h.k = 13) ∧ kid = 1 then bd ++ [h.name] else if h.k = 13 then bd ++ [h.name, h.arg] else bd
mutual
/-- The free names' places, from the left. -/
def Tm.occ : Tm → List ByteArray → List ByteArray
  | .mk h l, bd => (if h.k = 2 ∧ inB bd h.name = false then [h.name] else []) ++ Tm.occs h 0 l bd
def Tm.occs (h : Hd) : Nat → List Tm → List ByteArray → List ByteArray
  | _, [], _ => []
  | i, t :: l, bd => t.occ (bound h i bd) ++ Tm.occs h (i + 1) l bd
end
theorem bound_more (h : Hd) (i : Nat) (bd bd' : List ByteArray) (q : ByteArray → Bool) (hb : ∀ x, inB bd' x = (inB bd x || q x)) : ∀ x, inB (bound h i bd') x = (inB (bound h i bd) x || q x) := by
  intro x
  unfold bound
  split
  · rw [inB_append, inB_append, hb, Bool.or_right_comm]
  · split
    · rw [inB_append, inB_append, hb, Bool.or_right_comm]
    · split
      · rw [inB_append, inB_append, hb, Bool.or_right_comm]
      · exact hb x
/-- More names that are bound strike those from the free ones. -/
theorem Tm.occ_more (q : ByteArray → Bool) (t : Tm) : ∀ (bd bd' : List ByteArray), (∀ x, inB bd' x = (inB bd x || q x)) → t.occ bd' = (t.occ bd).filter fun x => !q x := by
  induction t using Tm.ind with
  | h x l ih =>
    intro bd bd' hb
    simp only [Tm.occ, List.filter_append]
    congr 1
    · rw [hb]
      by_cases h2 : x.k = 2
      · cases hi : inB bd x.name <;> cases hq : q x.name <;> simp [h2, hq]
      · simp [h2]
    · generalize 0 = i
      induction l generalizing i with
      | nil => simp [Tm.occs]
      | cons t l ihl =>
        simp only [Tm.occs, List.filter_append]
        rw [ih t (by simp) _ _ (bound_more x i bd bd' q hb), ihl (fun t ht => ih t (by simp [ht]))]
theorem Tm.occ_congr (t : Tm) (bd bd' : List ByteArray) (h : ∀ x, inB bd' x = inB bd x) : t.occ bd' = t.occ bd := by
  rw [Tm.occ_more (fun _ => false) t bd bd' (fun x => by rw [h]; simp)]
  simp
/-- The names that are free, each once. -/
def Tm.free (t : Tm) : List ByteArray := puts [] (t.occ [])
def Tm.frees (l : List Tm) : List ByteArray := puts [] (l.flatMap fun t => t.occ [])
theorem Tm.frees_two (a b : Tm) : Tm.frees [a, b] = puts a.free b.free := by
  unfold Tm.frees Tm.free
  rw [puts_puts]
  simp [puts_append]
/-- Bound by a function, or a let, a name isn't free any more; the others are as before. -/
theorem Tm.free_bound (t : Tm) (name : ByteArray) : puts [] (t.occ [name]) = t.free.filter fun x => !(x.toList == name.toList) := by
  unfold Tm.free
  rw [puts_filter, Tm.occ_more (fun x => x.toList == name.toList) t [] [name] (fun x => by rw [inB_one]; simp [inB])]
  rfl
end Go.Proofs.YtaioeailgknfjaaGreatDoor
namespace Go.Proofs.YtaioeailgknfjaaGreatDoor
open Go

mutual
/-- What comes of going through all nodes, with the names that are bound there, as long as something holds. -/
def Tm.nwalk {σ : Type} (f : σ → List ByteArray → Tm → σ × Bool) : Tm → List ByteArray → σ → σ × Bool
  | .mk h l, bd, s => if (f s bd (.mk h l)).2 then Tm.nwalks f h 0 l bd (f s bd (.mk h l)).1 else ((f s bd (.mk h l)).1, false)
def Tm.nwalks {σ : Type} (f : σ → List ByteArray → Tm → σ × Bool) (h : Hd) : Nat → List Tm → List ByteArray → σ → σ × Bool
  | _, [], _, s => (s, true)
  | i, t :: l, bd, s => if (t.nwalk f (bound h i bd) s).2 then Tm.nwalks f h (i + 1) l bd (t.nwalk f (bound h i bd) s).1 else ((t.nwalk f (bound h i bd) s).1, false)
end
theorem Tm.nwalks_succ {σ : Type} (f : σ → List ByteArray → Tm → σ × Bool) (h : Hd) (bd : List ByteArray) (l : List Tm) (k i : Nat) (t : Tm) (s s' : σ) (g : l[i]? = some t) (e : Tm.nwalks f h k (l.take i) bd s = (s', true)) :
    Tm.nwalks f h k (l.take (i + 1)) bd s = t.nwalk f (bound h (k + i) bd) s' := by
  induction l generalizing i k s with
  | nil => simp at g
  | cons x l ih =>
    cases i with
    | zero =>
      simp at g
      subst g
      simp [Tm.nwalks] at e ⊢
      subst e
      cases hx : (Tm.nwalk f x (bound h k bd) s).2 <;> simp [Prod.ext_iff, hx]
    | succ i =>
      simp only [List.take_succ_cons, Tm.nwalks] at e ⊢
      by_cases hx : (x.nwalk f (bound h k bd) s).2 = true
      · rw [if_pos hx] at e ⊢
        rw [show k + (i + 1) = (k + 1) + i by omega]
        exact ih (k + 1) i _ (by simpa using g) e
      · rw [if_neg hx] at e
        simp at e
theorem Tm.nwalks_stop {σ : Type} (f : σ → List ByteArray → Tm → σ × Bool) (h : Hd) (bd : List ByteArray) (l : List Tm) (k i : Nat) (s s' : σ) (e : Tm.nwalks f h k (l.take i) bd s = (s', false)) : Tm.nwalks f h k l bd s = (s', false) := by
  induction l generalizing i k s with
  | nil => simpa using e
  | cons x l ih =>
    cases i with
    | zero => simp [Tm.nwalks] at e
    | succ i =>
      simp only [List.take_succ_cons, Tm.nwalks] at e ⊢
      by_cases hx : (x.nwalk f (bound h k bd) s).2 = true
      · rw [if_pos hx] at e ⊢
        exact ih (k + 1) i _ e
      · rw [if_neg hx] at e ⊢
        exact e

mutual
/-- Texts of some nodes, from the left. -/
def Tm.occP (p : List ByteArray → Hd → Bool) (tx : Hd → ByteArray) : Tm → List ByteArray → List ByteArray
  | .mk h l, bd => (if p bd h then [tx h] else []) ++ Tm.occPs p tx h 0 l bd
def Tm.occPs (p : List ByteArray → Hd → Bool) (tx : Hd → ByteArray) (h : Hd) : Nat → List Tm → List ByteArray → List ByteArray
  | _, [], _ => []
  | i, t :: l, bd => t.occP p tx (bound h i bd) ++ Tm.occPs p tx h (i + 1) l bd
end
def gatherF (p : List ByteArray → Hd → Bool) (tx : Hd → ByteArray) (s : List ByteArray) (bd : List ByteArray) (t : Tm) : List ByteArray × Bool := (if p bd t.head then put s (tx t.head) else s, true)
theorem Tm.nwalk_gather (p : List ByteArray → Hd → Bool) (tx : Hd → ByteArray) (t : Tm) : ∀ bd s, t.nwalk (gatherF p tx) bd s = (puts s (t.occP p tx bd), true) := by
  induction t using Tm.ind with
  | h x l ih =>
    intro bd s
    simp only [Tm.nwalk, Tm.occP, puts_append]
    have e : gatherF p tx s bd (.mk x l) = (puts s (if p bd x then [tx x] else []), true) := by
      show (if p bd x = true then put s (tx x) else s, true) = _
      by_cases hp : p bd x = true
      · rw [if_pos hp, if_pos hp]; rfl
      · rw [if_neg hp, if_neg hp]; rfl
    rw [e]
    simp only [if_true]
    clear e
    generalize puts s (if p bd x then [tx x] else []) = s1
    generalize 0 = k
    induction l generalizing k s1 with
    | nil => simp [Tm.nwalks, Tm.occPs, puts_nil]
    | cons t l ihl =>
      simp only [Tm.nwalks, Tm.occPs, puts_append, ih t (by simp), if_true]
      exact ihl (fun t ht => ih t (by simp [ht])) _ _
def isFree (bd : List ByteArray) (h : Hd) : Bool := h.k == 2 && !inB bd h.name
def names_ (_ : List ByteArray) (h : Hd) : Bool := h.k == 15 || h.k == 16
theorem Tm.occ_P (t : Tm) : ∀ bd, t.occ bd = t.occP isFree Hd.name bd := by
  induction t using Tm.ind with
  | h x l ih =>
    intro bd
    simp only [Tm.occ, Tm.occP]
    congr 1
    · unfold isFree
      by_cases h2 : x.k = 2
      · cases inB bd x.name <;> simp [h2]
      · simp [h2]
    · generalize 0 = k
      induction l generalizing k with
      | nil => rfl
      | cons t l ihl => simp only [Tm.occs, Tm.occPs, ih t (by simp), ihl fun t ht => ih t (by simp [ht])]
/-- The exceptions that are named, from the left. -/
def exnsOf (l : List Tm) : List ByteArray := (l.filter fun t => names_ [] t.head).map fun t => t.head.exn
theorem exnsOf_append (a b : List Tm) : exnsOf (a ++ b) = exnsOf a ++ exnsOf b := by simp [exnsOf]
theorem Tm.occ_exns (t : Tm) : ∀ bd, t.occP names_ Hd.exn bd = exnsOf t.all := by
  induction t using Tm.ind with
  | h x l ih =>
    intro bd
    simp only [Tm.occP, Tm.all]
    have e : exnsOf (.mk x l :: Tm.alls l) = (if names_ bd x then [x.exn] else []) ++ exnsOf (Tm.alls l) := by
      unfold exnsOf
      have hx : names_ bd x = names_ [] (Tm.mk x l).head := rfl
      rw [hx, List.filter_cons]
      by_cases h : names_ [] (Tm.mk x l).head = true
      · rw [if_pos h, if_pos h]; rfl
      · rw [if_neg h, if_neg h]; rfl
    rw [e]
    congr 1
    generalize 0 = k
    clear e
    induction l generalizing k with
    | nil => rfl
    | cons t l ihl => simp only [Tm.occPs, Tm.alls, exnsOf_append, ih t (by simp), ihl fun t ht => ih t (by simp [ht])]
/-- The exceptions that are named in terms, each once. -/
def Tm.exns (l : List Tm) : List ByteArray := puts [] (l.flatMap fun t => exnsOf t.all)
theorem Tm.exns_two (a b : Tm) : Tm.exns [a, b] = puts (Tm.exns [a]) (Tm.exns [b]) := by
  unfold Tm.exns
  rw [puts_puts]
  simp [puts_append]
theorem Tm.frees_one (a : Tm) : Tm.frees [a] = a.free := by simp [Tm.frees, Tm.free]

/-- Is a node free, or its exception not declared? -/
def badH (exns bd : List ByteArray) (h : Hd) : Bool := isFree bd h || (names_ bd h && !inB exns h.exn)
mutual
/-- The place of the first one. -/
def Tm.bad (exns : List ByteArray) : Tm → List ByteArray → Option Int
  | .mk h l, bd => if badH exns bd h then some h.pos else Tm.bads exns h 0 l bd
def Tm.bads (exns : List ByteArray) (h : Hd) : Nat → List Tm → List ByteArray → Option Int
  | _, [], _ => none
  | i, t :: l, bd => match t.bad exns (bound h i bd) with
    | some p => some p
    | none => Tm.bads exns h (i + 1) l bd
end
def closedF (exns : List ByteArray) (s : Int × Int) (bd : List ByteArray) (t : Tm) : (Int × Int) × Bool := if badH exns bd t.head then ((t.head.pos, 4), false) else (s, decide (s.2 = 0))
theorem Tm.nwalk_closed (exns : List ByteArray) (t : Tm) : ∀ bd, t.nwalk (closedF exns) bd (0, 0) = match t.bad exns bd with | some p => ((p, 4), false) | none => ((0, 0), true) := by
  induction t using Tm.ind with
  | h x l ih =>
    intro bd
    simp only [Tm.nwalk, Tm.bad]
    cases hb : badH exns bd x
    · have e : closedF exns (0, 0) bd (.mk x l) = ((0, 0), true) := by unfold closedF; simp [Tm.head, hb]
      rw [e]
      simp only [if_true, Bool.false_eq_true, if_false]
      generalize 0 = k
      clear e
      induction l generalizing k with
      | nil => rfl
      | cons t l ihl =>
        simp only [Tm.nwalks, Tm.bads, ih t (by simp)]
        cases ht : t.bad exns (bound x k bd) with
        | some p => simp
        | none => simp only [if_true]; exact ihl (fun t ht => ih t (by simp [ht])) _
    · have e : closedF exns (0, 0) bd (.mk x l) = ((x.pos, 4), false) := by unfold closedF; simp [Tm.head, hb]
      rw [e]
      simp
theorem Tm.bads_at (exns : List ByteArray) (h : Hd) (bd : List ByteArray) (l : List Tm) (k i : Nat) (t : Tm) (g : l[i]? = some t) (e : Tm.bads exns h k (l.take i) bd = none) : Tm.bads exns h k (l.take (i + 1)) bd = t.bad exns (bound h (k + i) bd) := by
  induction l generalizing i k with
  | nil => simp at g
  | cons x l ih =>
    cases i with
    | zero =>
      simp at g
      subst g
      simp [Tm.bads]
      cases Tm.bad exns x (bound h k bd) <;> rfl
    | succ i =>
      simp only [List.take_succ_cons, Tm.bads] at e ⊢
      cases hx : x.bad exns (bound h k bd) with
      | some p => rw [hx] at e; cases e
      | none =>
        rw [hx] at e
        simp only at e ⊢
        rw [show k + (i + 1) = (k + 1) + i by omega]
        exact ih (k + 1) i (by simpa using g) e
theorem Tm.bads_stop (exns : List ByteArray) (h : Hd) (bd : List ByteArray) (l : List Tm) (k i : Nat) (p : Int) (e : Tm.bads exns h k (l.take i) bd = some p) : Tm.bads exns h k l bd = some p := by
  induction l generalizing i k with
  | nil => simp [Tm.bads] at e
  | cons x l ih =>
    cases i with
    | zero => simp [Tm.bads] at e
    | succ i =>
      simp only [List.take_succ_cons, Tm.bads] at e ⊢
      cases hx : x.bad exns (bound h k bd) with
      | some q => rw [hx] at e; exact e
      | none => rw [hx] at e; exact ih (k + 1) i e
/-- Nothing is bad just if nothing is free, and all exceptions are declared. -/
theorem Tm.bad_none (exns : List ByteArray) (t : Tm) : ∀ bd, t.bad exns bd = none ↔ t.occ bd = [] ∧ ∀ x, x ∈ exnsOf t.all → x ∈ exns := by
  have key : ∀ (t : Tm) (bd : List ByteArray), t.bad exns bd = none ↔ t.occP isFree Hd.name bd = [] ∧ ∀ x, x ∈ t.occP names_ Hd.exn bd → x ∈ exns := by
    intro t
    induction t using Tm.ind with
    | h x l ih =>
      intro bd
      simp only [Tm.bad, Tm.occP]
      have hl : ∀ k, Tm.bads exns x k l bd = none ↔ Tm.occPs isFree Hd.name x k l bd = [] ∧ ∀ y, y ∈ Tm.occPs names_ Hd.exn x k l bd → y ∈ exns := by
        induction l with
        | nil => intro k; simp [Tm.bads, Tm.occPs]
        | cons t l ihl =>
          intro k
          have h1 := ih t (by simp) (bound x k bd)
          have h2 := ihl (fun t ht => ih t (by simp [ht])) (k + 1)
          simp only [Tm.bads, Tm.occPs, List.append_eq_nil_iff, List.mem_append]
          cases hb : t.bad exns (bound x k bd) with
          | some p =>
            simp only [hb] at h1
            constructor
            · intro h; cases h
            · rintro ⟨⟨a, _⟩, b⟩
              exact absurd (h1.2 ⟨a, fun y hy => b y (.inl hy)⟩) (by simp)
          | none =>
            simp only [hb, true_iff] at h1
            simp only [h2]
            constructor
            · rintro ⟨a, b⟩
              exact ⟨⟨h1.1, a⟩, fun y hy => hy.elim (h1.2 y) (b y)⟩
            · rintro ⟨⟨_, a⟩, b⟩
              exact ⟨a, fun y hy => b y (.inr hy)⟩
      unfold badH
      cases hf : isFree bd x
      · cases hn : names_ bd x
        · simp only [Bool.false_eq_true, if_false, Bool.or_self, Bool.false_and, List.nil_append]
          exact hl 0
        · cases hi : inB exns x.exn
          · simp
            intro _ h
            have := (inB_iff exns x.exn).2 h
            rw [hi] at this
            cases this
          · have hm := (inB_iff exns x.exn).1 hi
            simp only [Bool.not_true, Bool.and_false, Bool.or_false, Bool.false_eq_true, if_false, List.nil_append, if_true, List.mem_append, List.mem_singleton, hl 0]
            constructor
            · rintro ⟨a, b⟩
              exact ⟨a, fun y hy => hy.elim (fun e => e ▸ hm) (b y)⟩
            · rintro ⟨a, b⟩
              exact ⟨a, fun y hy => b y (.inr hy)⟩
      · simp
  intro bd
  have := key t bd
  rw [← Tm.occ_P, Tm.occ_exns] at this
  exact this
theorem puts_eq_nil (l : List ByteArray) : puts [] l = [] ↔ l = [] := by
  constructor
  · intro h
    cases l with
    | nil => rfl
    | cons x l =>
      have : x ∈ puts [] (x :: l) := (mem_puts [] (x :: l) x).2 (.inr (by simp))
      rw [h] at this
      cases this
  · rintro rfl; rfl
theorem Tm.bad_free (exns : List ByteArray) (t : Tm) : (t.bad exns []).isNone = (t.free.isEmpty && (Tm.exns [t]).all (inB exns)) := by
  rw [Bool.eq_iff_iff, Option.isNone_iff_eq_none, Tm.bad_none, Bool.and_eq_true, List.isEmpty_iff, List.all_eq_true]
  unfold Tm.free Tm.exns
  rw [puts_eq_nil]
  constructor
  · rintro ⟨a, b⟩
    refine ⟨a, fun x hx => (inB_iff _ _).2 (b x ?_)⟩
    have := (mem_puts [] _ x).1 hx
    simpa using this
  · rintro ⟨a, b⟩
    refine ⟨a, fun x hx => (inB_iff _ _).1 (b x ?_)⟩
    rw [mem_puts]
    exact .inr (by simpa using hx)

/-- The first declared exception that was declared already; its place. -/
def firstTwice : List ByteArray → List (ByteArray × Int) → Option Int
  | _, [] => none
  | o, (x, p) :: l => if inB o x then some p else firstTwice (o ++ [x]) l
/-- The place and the error of a program that isn't closed. -/
def closedR (t : Tm) (l : List (ByteArray × Int)) : Int × Int :=
  if t.may = false then (0, 1) else if 64 < l.length then (((l[64]?).map Prod.snd).getD 0, 3) else match firstTwice [] l with
    | some p => (p, 4)
    | none => match t.bad (l.map Prod.fst) [] with
      | some p => (p, 4)
      | none => (0, 0)
end Go.Proofs.YtaioeailgknfjaaGreatDoor
namespace Go.Proofs.YtaioeailgknfjaaGreatDoor
open Go

theorem Tm.occs_succ (h : Hd) (bd : List ByteArray) (l : List Tm) (k i : Nat) (t : Tm) (g : l[i]? = some t) : Tm.occs h k (l.take (i + 1)) bd = Tm.occs h k (l.take i) bd ++ t.occ (bound h (k + i) bd) := by
  induction l generalizing i k with
  | nil => simp at g
  | cons x l ih =>
    cases i with
    | zero =>
      simp at g
      subst g
      simp [Tm.occs]
    | succ i =>
      simp only [List.take_succ_cons, Tm.occs, List.append_assoc]
      rw [ih (k + 1) i (by simpa using g), show k + 1 + i = k + (i + 1) from by omega]
theorem put_length (o : List ByteArray) (x : ByteArray) : (put o x).length ≤ o.length + 1 := by
  unfold put
  split
  · omega
  · simp
theorem puts_length (l : List ByteArray) : ∀ o, (puts o l).length ≤ o.length + l.length := by
  induction l with
  | nil => intro o; simp [puts_nil]
  | cons x l ih =>
    intro o
    have h1 := ih (put o x)
    have h2 := put_length o x
    rw [puts_cons]
    simp only [List.length_cons]
    omega
theorem Tm.occP_length (p : List ByteArray → Hd → Bool) (tx : Hd → ByteArray) (t : Tm) : ∀ bd, (t.occP p tx bd).length ≤ t.size := by
  induction t using Tm.ind with
  | h x l ih =>
    intro bd
    simp only [Tm.occP, Tm.size, List.length_append]
    have h1 : (if p bd x then [tx x] else []).length ≤ 1 := by split <;> simp
    have h2 : ∀ k, (Tm.occPs p tx x k l bd).length ≤ Tm.sizes l := by
      induction l with
      | nil => intro k; simp [Tm.occPs]
      | cons t l ihl =>
        intro k
        have h3 := ih t (by simp) (bound x k bd)
        have h4 := ihl (fun t ht => ih t (by simp [ht])) (k + 1)
        simp only [Tm.occPs, Tm.sizes, List.length_append]
        omega
    have := h2 0
    omega
theorem Tm.occ_length (t : Tm) (bd : List ByteArray) : (t.occ bd).length ≤ t.size := by
  rw [Tm.occ_P]
  exact Tm.occP_length _ _ t bd
theorem Tm.occs_length (x : Hd) (l : List Tm) (bd : List ByteArray) : ∀ k, (Tm.occs x k l bd).length ≤ Tm.sizes l := by
  induction l with
  | nil => intro k; simp [Tm.occs]
  | cons t l ih =>
    intro k
    have h3 := t.occ_length (bound x k bd)
    have h4 := ih (k + 1)
    simp only [Tm.occs, Tm.sizes, List.length_append]
    omega
theorem bound_length (h : Hd) (i : Nat) (bd : List ByteArray) : (bound h i bd).length ≤ bd.length + 2 := by
  unfold bound
  split
  · simp
  · split
    · simp
    · split <;> simp
theorem Tm.nwalk_room {σ : Type} (f : σ → List ByteArray → Tm → σ × Bool) (room : σ → Nat → Prop) (hroom : ∀ s bd t n, room s (n + 1) → room (f s bd t).1 n) (hless : ∀ s n m, m ≤ n → room s n → room s m) (t : Tm) : ∀ (bd : List ByteArray) (s : σ) (n : Nat), room s (t.size + n) → room (t.nwalk f bd s).1 n := by
  induction t using Tm.ind with
  | h x l ih =>
    intro bd s n h
    simp only [Tm.nwalk, Tm.size] at h ⊢
    have h1 : room (f s bd (.mk x l)).1 (Tm.sizes l + n) := hroom _ _ _ _ (by rw [show Tm.sizes l + n + 1 = 1 + Tm.sizes l + n from by omega]; exact h)
    split
    · have key : ∀ (l' : List Tm), (∀ t, t ∈ l' → ∀ (bd : List ByteArray) (s : σ) (n : Nat), room s (t.size + n) → room (t.nwalk f bd s).1 n) → ∀ k s n, room s (Tm.sizes l' + n) → room (Tm.nwalks f x k l' bd s).1 n := by
        intro l'
        induction l' with
        | nil => intro _ k s n h; simpa [Tm.nwalks, Tm.sizes] using h
        | cons t l' ihl =>
          intro ht k s n h
          simp only [Tm.nwalks, Tm.sizes] at h ⊢
          have h2 := ht t (by simp) (bound x k bd) s (Tm.sizes l' + n) (by rw [← Nat.add_assoc]; exact h)
          split
          · exact ihl (fun t h => ht t (by simp [h])) _ _ _ h2
          · exact hless _ _ _ (by omega) h2
      exact key l ih _ _ _ h1
    · exact hless _ _ _ (by omega) h1

theorem flat_succ {α β : Type} (f : α → List β) (l : List α) (i : Nat) (t : α) (g : l[i]? = some t) : (l.take (i + 1)).flatMap f = (l.take i).flatMap f ++ f t := by
  rw [List.take_add_one, g]
  simp
/-- What is gathered of terms. -/
def gathered (p : List ByteArray → Hd → Bool) (tx : Hd → ByteArray) (l : List Tm) : List ByteArray := puts [] (l.flatMap fun t => t.occP p tx [])
theorem frees_gathered (l : List Tm) : Tm.frees l = gathered isFree Hd.name l := by
  unfold Tm.frees gathered
  congr 2
  funext t
  exact t.occ_P []
theorem exns_gathered (l : List Tm) : Tm.exns l = gathered names_ Hd.exn l := by
  unfold Tm.exns gathered
  congr 2
  funext t
  exact (t.occ_exns []).symm
theorem gathered_length (p : List ByteArray → Hd → Bool) (tx : Hd → ByteArray) (l : List Tm) : (gathered p tx l).length ≤ Tm.sizes l := by
  have h := puts_length (l.flatMap fun t => t.occP p tx []) []
  have h2 : (l.flatMap fun t => t.occP p tx []).length ≤ Tm.sizes l := by
    induction l with
    | nil => simp [Tm.sizes]
    | cons t l ih =>
      have := ih (puts_length _ _)
      have := t.occP_length p tx []
      simp only [List.flatMap_cons, List.length_append, Tm.sizes]
      omega
  unfold gathered
  simp only [List.length_nil] at h
  omega
theorem exnsOf_length (l : List Tm) : (exnsOf l).length ≤ l.length := by
  unfold exnsOf
  rw [List.length_map]
  exact List.length_filter_le _ _
/-- Free, or the exceptions, if all terms may be. -/
def freesR (l : List Tm) : List ByteArray := if l.all Tm.may then Tm.frees l else []
def exnsR (l : List Tm) : List ByteArray := if l.all Tm.may then Tm.exns l else []
/-- Two rows of the same texts. -/
def sameB (a b : List ByteArray) : Bool := decide (a = b)
end Go.Proofs.YtaioeailgknfjaaGreatDoor
namespace Go.Proofs.YtaioeailgknfjaaGreatDoor
open Go

def hfn (s : ByteArray) : Hd := ⟨11, 0, 0, 0, ⟨#[]⟩, s, ⟨#[]⟩⟩
def hlt (s : ByteArray) : Hd := ⟨12, 0, 0, 0, s, ⟨#[]⟩, ⟨#[]⟩⟩
def h0n : Hd := ⟨1, 0, 0, 0, ⟨#[]⟩, ⟨#[]⟩, ⟨#[]⟩⟩
theorem fn_name {s : ByteArray} {t : Tm} (h : (Tm.mk (hfn s) [t]).may = true) : isName s = true ∧ t.may = true := by
  unfold Tm.may at h
  rw [Bool.and_eq_true] at h
  have h1 := of_decide_eq_true h.1
  have h4 := h.2
  simp only [Tm.size, Tm.sizes] at h1
  simp only [Tm.all, Tm.alls, List.append_nil, List.all_cons, Bool.and_eq_true] at h4
  obtain ⟨h2, h3⟩ := h4
  refine ⟨?_, ?_⟩
  · simp only [Tm.node, Bool.and_eq_true] at h2
    have := h2.2.2.1
    simpa [fitB, Hd.hasArg, hfn] using this
  · unfold Tm.may
    rw [Bool.and_eq_true]
    exact ⟨decide_eq_true (by omega), h3⟩
theorem let_may {s : ByteArray} {t : Tm} (h : (Tm.mk (hfn s) [t]).may = true) (hs : t.size ≤ 300) : (Tm.mk (hlt s) [.mk h0n [], t]).may = true := by
  obtain ⟨h1, h2⟩ := fn_name h
  unfold Tm.may at h2
  rw [Bool.and_eq_true] at h2
  have n0 : Tm.node (.mk h0n []) = true := by decide +kernel
  unfold Tm.may
  rw [Bool.and_eq_true]
  refine ⟨decide_eq_true (by simp only [Tm.size, Tm.sizes]; omega), ?_⟩
  simp only [Tm.all, Tm.alls, List.append_nil, List.all_cons, List.cons_append, List.nil_append, Bool.and_eq_true]
  refine ⟨?_, n0, h2.2⟩
  have e : ∀ l : List Tm, l.length = 2 → Tm.nums (.mk (hlt s) l) = true := by
    intro l hl
    simp [Tm.nums, hlt, hl, karity]
  simp only [Tm.node]
  rw [e [.mk h0n [], t] rfl, Bool.true_and]
  have e1 : fitB (hlt s).hasName (hlt s).name (isName (hlt s).name) = true := by simp [fitB, Hd.hasName, hlt, h1]
  have e2 : fitB (hlt s).hasArg (hlt s).arg (isName (hlt s).arg) = true := by
    have : (⟨#[]⟩ : ByteArray).toList.isEmpty = true := by decide +kernel
    simp [fitB, Hd.hasArg, hlt, this]
  have e3 : fitB (hlt s).hasExn (hlt s).exn (isExn (hlt s).exn) = true := by
    have : (⟨#[]⟩ : ByteArray).toList.isEmpty = true := by decide +kernel
    simp [fitB, Hd.hasExn, hlt, this]
  rw [e1, e2, e3]
  rfl
/-- The names but one. -/
def less (l : List ByteArray) (s : ByteArray) : List ByteArray := l.filter fun x => !(x.toList == s.toList)
theorem fn_free {s : ByteArray} {t : Tm} (h : (Tm.mk (hfn s) [t]).may = true) : freesR [.mk (hfn s) [t]] = less t.free s := by
  unfold freesR
  simp only [List.all_cons, List.all_nil, h, Bool.and_true, if_true]
  rw [Tm.frees_one]
  unfold less
  rw [← Tm.free_bound]
  unfold Tm.free
  congr 1
  simp [Tm.occ, Tm.occs, hfn, bound]
theorem let_free {s : ByteArray} {t : Tm} (h : (Tm.mk (hlt s) [.mk h0n [], t]).may = true) : freesR [.mk (hlt s) [.mk h0n [], t]] = less t.free s := by
  unfold freesR
  simp only [List.all_cons, List.all_nil, h, Bool.and_true, if_true]
  rw [Tm.frees_one]
  unfold less
  rw [← Tm.free_bound]
  unfold Tm.free
  congr 1
  simp [Tm.occ, Tm.occs, hlt, h0n, bound]
theorem freesR_one {t : Tm} (h : t.may = true) : freesR [t] = t.free := by
  unfold freesR
  simp only [List.all_cons, List.all_nil, h, Bool.and_true, if_true]
  exact Tm.frees_one t
theorem exnsR_one {t : Tm} (h : t.may = true) : exnsR [t] = Tm.exns [t] := by
  unfold exnsR
  simp only [List.all_cons, List.all_nil, h, Bool.and_true, if_true]
theorem freesR_two {a b : Tm} (h : a.may = true) (h' : b.may = true) : freesR [a, b] = puts a.free b.free := by
  unfold freesR
  simp only [List.all_cons, List.all_nil, h, h', Bool.and_true, if_true]
  exact Tm.frees_two a b
theorem exnsR_two {a b : Tm} (h : a.may = true) (h' : b.may = true) : exnsR [a, b] = puts (Tm.exns [a]) (Tm.exns [b]) := by
  unfold exnsR
  simp only [List.all_cons, List.all_nil, h, h', Bool.and_true, if_true]
  exact Tm.exns_two a b
theorem less_succ (l : List ByteArray) (s : ByteArray) (j : Nat) (x : ByteArray) (g : l[j]? = some x) : less (l.take (j + 1)) s = less (l.take j) s ++ (if x.toList == s.toList then [] else [x]) := by
  unfold less
  rw [List.take_add_one, g, List.filter_append]
  congr 1
  simp only [Option.toList_some, List.filter_cons, List.filter_nil]
  cases x.toList == s.toList <;> rfl
theorem puts_at (o l : List ByteArray) (j : Nat) (x : ByteArray) (g : l[j]? = some x) : puts o (l.take (j + 1)) = if inB (puts o (l.take j)) x then puts o (l.take j) else puts o (l.take j) ++ [x] := by
  rw [List.take_add_one, g]
  exact puts_snoc o (l.take j) x
theorem free_len (t : Tm) : t.free.length ≤ t.size := by
  have h := gathered_length isFree Hd.name [t]
  rw [← frees_gathered, Tm.frees_one] at h
  simpa [Tm.sizes] using h
theorem exns1_len (t : Tm) : (Tm.exns [t]).length ≤ t.size := by
  have h := gathered_length names_ Hd.exn [t]
  rw [← exns_gathered] at h
  simpa [Tm.sizes] using h
end Go.Proofs.YtaioeailgknfjaaGreatDoor
