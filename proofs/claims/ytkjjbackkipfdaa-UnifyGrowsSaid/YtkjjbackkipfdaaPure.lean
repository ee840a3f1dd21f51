/- Types as trees, and what the program's functions on types compute, in plain Lean; no program in sight. -/
namespace Go.Proofs.Ytkjjbackkipfdaa

/-- A type: a kind, a variable's number, kids. -/
inductive Ty where
  | mk (kind var : Int) (kids : List Ty)

def Ty.kind : Ty → Int | .mk k _ _ => k
def Ty.var : Ty → Int | .mk _ n _ => n
def Ty.kids : Ty → List Ty | .mk _ _ l => l

mutual
/-- How many nodes. -/
def Ty.size : Ty → Nat
  | .mk _ _ l => 1 + Ty.sizes l
def Ty.sizes : List Ty → Nat
  | [] => 0
  | t :: l => t.size + Ty.sizes l
end

theorem Ty.size_pos (t : Ty) : 0 < t.size := by cases t; simp [Ty.size]; omega
theorem Ty.sizes_take_succ (l : List Ty) (i : Nat) (t : Ty) (h : l[i]? = some t) : Ty.sizes (l.take (i+1)) = Ty.sizes (l.take i) + t.size := by
  induction l generalizing i with
  | nil => simp at h
  | cons x l ih =>
    cases i with
    | zero => simp at h; subst h; simp [Ty.sizes]
    | succ i => simp at h; simp [Ty.sizes, ih i h]; omega
theorem Ty.sizes_take_le (l : List Ty) (i : Nat) : Ty.sizes (l.take i) ≤ Ty.sizes l := by
  induction l generalizing i with
  | nil => simp
  | cons x l ih =>
    cases i with
    | zero => simp [Ty.sizes]
    | succ i => simp [Ty.sizes]; exact ih i
theorem Ty.size_at (l : List Ty) (i : Nat) (t : Ty) (h : l[i]? = some t) : t.size ≤ Ty.sizes l := by
  have h1 := Ty.sizes_take_succ l i t h
  have h2 := Ty.sizes_take_le l (i+1)
  omega
theorem Ty.size_mem (l : List Ty) (t : Ty) (h : t ∈ l) : t.size ≤ Ty.sizes l := by
  obtain ⟨i, hi, rfl⟩ := List.mem_iff_getElem.1 h
  exact Ty.size_at l i _ (List.getElem?_eq_getElem hi)
theorem Ty.sizes_length (l : List Ty) : l.length ≤ Ty.sizes l := by
  induction l with
  | nil => simp
  | cons t l ih => have := t.size_pos; simp [Ty.sizes]; omega

/-- An induction on trees: what holds of all kids. -/
theorem Ty.ind {P : Ty → Prop} (h : ∀ k n l, (∀ t, t ∈ l → P t) → P (.mk k n l)) (t : Ty) : P t := by
  have key : ∀ m t, t.size ≤ m → P t := by
    intro m
    induction m with
    | zero => intro t ht; have := t.size_pos; omega
    | succ m ih =>
      intro t ht
      obtain ⟨k, n, l⟩ := t
      refine h k n l fun t hm => ih t ?_
      have := Ty.size_mem l t hm
      simp [Ty.size] at ht
      omega
  exact key _ t (Nat.le_refl _)

mutual
/-- What is left of n nodes behind a type. -/
def Ty.left : Ty → Int → Int
  | .mk _ _ l, n => Ty.lefts l (n - 1)
def Ty.lefts : List Ty → Int → Int
  | [], n => n
  | t :: l, n => if 0 ≤ n then Ty.lefts l (t.left n) else n
end
theorem Ty.lefts_neg (l : List Ty) (n : Int) (h : n < 0) : Ty.lefts l n = n := by cases l <;> simp [Ty.lefts]; omega
theorem Ty.lefts_spec (l : List Ty) (ih : ∀ t, t ∈ l → ∀ n : Int, 0 ≤ n → -1 ≤ t.left n ∧ t.left n ≤ n ∧ ((t.size : Int) ≤ n → t.left n = n - t.size) ∧ (n < t.size → t.left n < 0)) :
    ∀ n : Int, -1 ≤ n → -1 ≤ Ty.lefts l n ∧ Ty.lefts l n ≤ n ∧ ((Ty.sizes l : Int) ≤ n → Ty.lefts l n = n - Ty.sizes l) ∧ (n < Ty.sizes l → Ty.lefts l n < 0) := by
  induction l with
  | nil => intro n hn; simp [Ty.lefts, Ty.sizes]; omega
  | cons t l ihl =>
    intro n hn
    simp only [Ty.lefts, Ty.sizes]
    by_cases h : 0 ≤ n
    · rw [if_pos h]
      obtain ⟨a, b, c, d⟩ := ih t (by simp) n h
      obtain ⟨a', b', c', d'⟩ := ihl (fun t ht => ih t (by simp [ht])) (t.left n) a
      refine ⟨a', by omega, fun hs => ?_, fun hs => ?_⟩
      · rw [c' (by have := c (by omega); omega), c (by omega)]; omega
      · by_cases hq : (t.size : Int) ≤ n
        · have := c hq; exact d' (by omega)
        · have := d (by omega); rw [Ty.lefts_neg _ _ this]; exact this
    · rw [if_neg h]
      have := t.size_pos
      omega
theorem Ty.left_spec (t : Ty) : ∀ n : Int, 0 ≤ n → -1 ≤ t.left n ∧ t.left n ≤ n ∧ ((t.size : Int) ≤ n → t.left n = n - t.size) ∧ (n < t.size → t.left n < 0) := by
  induction t using Ty.ind with
  | h k v l ih =>
    intro n hn
    obtain ⟨a, b, c, d⟩ := Ty.lefts_spec l ih (n - 1) (by omega)
    simp only [Ty.left, Ty.size]
    exact ⟨a, by omega, fun h => by rw [c (by omega)]; omega, fun h => d (by omega)⟩
theorem Ty.lefts_take (l : List Ty) (n : Int) (i : Nat) (t : Ty) (h : l[i]? = some t) (h0 : 0 ≤ Ty.lefts (l.take i) n) : Ty.lefts (l.take (i+1)) n = t.left (Ty.lefts (l.take i) n) := by
  induction l generalizing i n with
  | nil => simp at h
  | cons x l ih =>
    cases i with
    | zero =>
      simp at h; subst h
      simp [Ty.lefts] at h0 ⊢
      intro hn; omega
    | succ i =>
      simp only [List.take_succ_cons, Ty.lefts] at h0 ⊢
      by_cases hn : 0 ≤ n
      · rw [if_pos hn] at h0 ⊢; rw [if_pos hn]; exact ih _ i (by simpa using h) h0
      · rw [if_neg hn] at h0; omega
theorem Ty.lefts_stop (l : List Ty) (n : Int) (i : Nat) (h0 : Ty.lefts (l.take i) n < 0) : Ty.lefts l n = Ty.lefts (l.take i) n := by
  induction l generalizing i n with
  | nil => simp [Ty.lefts]
  | cons x l ih =>
    cases i with
    | zero => simp [Ty.lefts] at h0 ⊢; intro hn; omega
    | succ i =>
      simp only [List.take_succ_cons, Ty.lefts] at h0 ⊢
      by_cases hn : 0 ≤ n
      · rw [if_pos hn] at h0 ⊢; rw [if_pos hn]; exact ih _ i h0
      · rw [if_neg hn, if_neg hn]

mutual
/-- The same. -/
def Ty.same : Ty → Ty → Bool
  | .mk k n l, .mk k' n' l' => k == k' && (n == n' && Ty.sames l l')
def Ty.sames : List Ty → List Ty → Bool
  | [], [] => true
  | t :: l, t' :: l' => t.same t' && Ty.sames l l'
  | _, _ => false
end
def Ty.samesTo (l l' : List Ty) (i : Nat) : Prop := ∀ j, j < i → ∀ t t', l[j]? = some t → l'[j]? = some t' → t.same t' = true
theorem Ty.sames_len (l l' : List Ty) (h : l.length ≠ l'.length) : Ty.sames l l' = false := by
  induction l generalizing l' with
  | nil => cases l' <;> simp [Ty.sames] at h ⊢
  | cons t l ih =>
    cases l' with
    | nil => simp [Ty.sames]
    | cons t' l' => simp [Ty.sames]; intro _; exact ih l' (by simpa using h)
theorem Ty.sames_no (l l' : List Ty) (i : Nat) (t t' : Ty) (h : l[i]? = some t) (h' : l'[i]? = some t') (hn : t.same t' = false) : Ty.sames l l' = false := by
  induction l generalizing l' i with
  | nil => simp at h
  | cons x l ih =>
    cases l' with
    | nil => simp at h'
    | cons x' l' =>
      cases i with
      | zero => simp at h h'; subst h h'; simp [Ty.sames, hn]
      | succ i => simp at h h'; simp [Ty.sames, ih l' i h h']
theorem Ty.sames_yes (l l' : List Ty) (hl : l.length = l'.length) (h : Ty.samesTo l l' l.length) : Ty.sames l l' = true := by
  induction l generalizing l' with
  | nil => cases l' <;> simp [Ty.sames] at hl ⊢
  | cons t l ih =>
    cases l' with
    | nil => simp at hl
    | cons t' l' =>
      simp [Ty.sames]
      exact ⟨h 0 (by simp) t t' rfl rfl, ih l' (by simpa using hl) fun j hj a b ha hb => h (j+1) (by simpa using hj) a b (by simpa using ha) (by simpa using hb)⟩
theorem Ty.samesTo_succ {l l' : List Ty} {i : Nat} {t t' : Ty} (h : Ty.samesTo l l' i) (g : l[i]? = some t) (g' : l'[i]? = some t') (hs : t.same t' = true) : Ty.samesTo l l' (i+1) := by
  intro j hj a b ha hb
  by_cases hji : j < i
  · exact h j hji a b ha hb
  · obtain rfl : j = i := by omega
    rw [g] at ha; rw [g'] at hb
    cases ha; cases hb
    exact hs
theorem Ty.same_refl (t : Ty) : t.same t = true := by
  induction t using Ty.ind with
  | h k n l ih =>
    simp only [Ty.same, beq_self_eq_true, Bool.true_and]
    exact Ty.sames_yes l l rfl fun j _ a b ha hb => by
      rw [ha] at hb; cases hb
      exact ih a (List.mem_of_getElem? ha)
theorem Ty.same_iff (t : Ty) : ∀ t', t.same t' = true ↔ t = t' := by
  induction t using Ty.ind with
  | h k n l ih =>
    intro t'
    obtain ⟨k', n', l'⟩ := t'
    simp only [Ty.same, Bool.and_eq_true, beq_iff_eq]
    constructor
    · rintro ⟨rfl, rfl, h⟩
      congr 1
      clear k n
      induction l generalizing l' with
      | nil => cases l' <;> simp [Ty.sames] at h ⊢
      | cons t l ihl =>
        cases l' with
        | nil => simp [Ty.sames] at h
        | cons t' l' =>
          simp [Ty.sames] at h
          rw [(ih t (by simp) t').1 h.1, ihl (fun t ht => ih t (by simp [ht])) l' h.2]
    · intro h
      cases h
      refine ⟨rfl, rfl, ?_⟩
      have := Ty.same_refl (.mk k n l)
      simpa [Ty.same] using this
theorem Ty.same_comm (t t' : Ty) : t.same t' = t'.same t := by
  by_cases h : t = t'
  · subst h; rfl
  · have h1 : t.same t' = false := by rw [Bool.eq_false_iff]; exact fun e => h ((Ty.same_iff _ _).1 e)
    have h2 : t'.same t = false := by rw [Bool.eq_false_iff]; exact fun e => h ((Ty.same_iff _ _).1 e).symm
    rw [h1, h2]

/-- How many kids a kind has; -1: no such kind. -/
def arity (k : Int) : Int := if k = 1 then 0 else if k = 5 then 0 else if k = 3 then 1 else if k = 2 then 2 else if k = 4 then 2 else -1
/-- A node alone may be. -/
def Ty.node : Ty → Bool
  | .mk k n l => (decide (arity k = l.length) && decide (0 ≤ n)) && (decide (n = 0) || decide (k = 5))
mutual
def Ty.may : Ty → Bool
  | .mk k n l => Ty.node (.mk k n l) && Ty.mays l
def Ty.mays : List Ty → Bool
  | [] => true
  | t :: l => t.may && Ty.mays l
end
mutual
/-- Something holds of all nodes. -/
def Ty.all (p : Ty → Bool) : Ty → Bool
  | .mk k n l => p (.mk k n l) && Ty.alls p l
def Ty.alls (p : Ty → Bool) : List Ty → Bool
  | [] => true
  | t :: l => t.all p && Ty.alls p l
end
theorem Ty.alls_iff (p : Ty → Bool) (l : List Ty) : Ty.alls p l = true ↔ ∀ t, t ∈ l → t.all p = true := by
  induction l with
  | nil => simp [Ty.alls]
  | cons t l ih => simp [Ty.alls, ih]
theorem Ty.mays_iff (l : List Ty) : Ty.mays l = true ↔ ∀ t, t ∈ l → t.may = true := by
  induction l with
  | nil => simp [Ty.mays]
  | cons t l ih => simp [Ty.mays, ih]
theorem Ty.all_node (t : Ty) : t.all Ty.node = t.may := by
  induction t using Ty.ind with
  | h k n l ih =>
    rw [Bool.eq_iff_iff]
    simp only [Ty.all, Ty.may, Bool.and_eq_true, Ty.alls_iff, Ty.mays_iff]
    constructor
    · rintro ⟨a, b⟩; exact ⟨a, fun t ht => by rw [← ih t ht]; exact b t ht⟩
    · rintro ⟨a, b⟩; exact ⟨a, fun t ht => by rw [ih t ht]; exact b t ht⟩
mutual
def Ty.has (x : Int) : Ty → Bool
  | .mk k _ l => k == x || Ty.hass x l
def Ty.hass (x : Int) : List Ty → Bool
  | [] => false
  | t :: l => t.has x || Ty.hass x l
end
theorem Ty.hass_iff (x : Int) (l : List Ty) : Ty.hass x l = true ↔ ∃ t, t ∈ l ∧ t.has x = true := by
  induction l with
  | nil => simp [Ty.hass]
  | cons t l ih => simp [Ty.hass, ih]
theorem Ty.hass_no (x : Int) (l : List Ty) : Ty.hass x l = false ↔ ∀ t, t ∈ l → t.has x = false := by
  induction l with
  | nil => simp [Ty.hass]
  | cons t l ih => simp [Ty.hass, ih]
theorem Ty.all_has (x : Int) (t : Ty) : t.all (fun t => !(t.kind == x)) = !t.has x := by
  induction t using Ty.ind with
  | h k n l ih =>
    have h2 : Ty.alls (fun t => !(t.kind == x)) l = !Ty.hass x l := by
      clear k n
      induction l with
      | nil => simp [Ty.alls, Ty.hass]
      | cons t l ihl => simp only [Ty.alls, Ty.hass, ih t (by simp), ihl (fun t ht => ih t (by simp [ht])), Bool.not_or]
    show (!(k == x) && Ty.alls (fun t => !(t.kind == x)) l) = !(k == x || Ty.hass x l)
    rw [h2, Bool.not_or]
/-- Closed: may be, and has no variable. -/
theorem Ty.all_and (p q : Ty → Bool) (t : Ty) : t.all (fun t => p t && q t) = (t.all p && t.all q) := by
  induction t using Ty.ind with
  | h k n l ih =>
    have h2 : Ty.alls (fun t => p t && q t) l = (Ty.alls p l && Ty.alls q l) := by
      clear k n
      induction l with
      | nil => simp [Ty.alls]
      | cons t l ihl =>
        simp only [Ty.alls, ih t (by simp), ihl (fun t ht => ih t (by simp [ht]))]
        cases t.all p <;> cases t.all q <;> cases Ty.alls p l <;> simp
    simp only [Ty.all, h2]
    cases p (.mk k n l) <;> cases q (.mk k n l) <;> cases Ty.alls p l <;> simp
end Go.Proofs.Ytkjjbackkipfdaa
