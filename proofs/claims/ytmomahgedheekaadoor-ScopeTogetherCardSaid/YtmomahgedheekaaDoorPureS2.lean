/- Going through nodes with the names that are bound there; closed programs. In plain Lean; no program in sight. -/
import Derived.Test.YtmomahgedheekaaDoorPureS
namespace Go.Proofs.YtmomahgedheekaaDoor
open Go

mutual
/-- What comes of going through all nodes, with the names that are bound there, as long as something holds. -/
def Tm.nwalk {σ : Type} (f : σ → List ByteArray → Tm → σ × Bool) : Tm → List ByteArray → σ → σ × Bool
  | .mk h l, bd, s => if (f s bd (.mk h l)).2 then Tm.nwalks f h 0 l bd (f s bd (.mk h l)).1 else ((f s bd (.mk h l)).1, false)
def Tm.nwalks {σ : Type} (f : σ → List ByteArray → Tm → σ × Bool) (h : Hd) : Nat → List Tm → List ByteArray → σ → σ × Bool
  | _, [], _, s => (s, true)
  | i, t :: l, bd, s => if (t.nwalk f (bound h i bd) s).2 then Tm.nwalks f h (i + 1) l bd (t.nwalk f (bound h i bd) s).1 else ((t.nwalk f (bound h i bd) s).1, false)
end
theorem Tm.nwalks_succ {σ : Type} (f : σ → List ByteArray → Tm → σ × Bool) (h : Hd) (bd : List ByteArray) (l : List Tm) (k i : Nat) (t : Tm) (s s' : σ) (g : l[i]? = some t) (e : Tm.nwalks f h k (l.take i) bd s = (s', true)) :
    Tm.nwalks f h k (l.take (i + 1)) bd s = t.nwalk f (bound h (k + i) bd) s' := by
  induction l generalizing i k s with
  | nil => simp at g
  | cons x l ih =>
    cases i with
    | zero =>
      simp at g
      subst g
      simp [Tm.nwalks] at e ⊢
      subst e
      cases hx : (Tm.nwalk f x (bound h k bd) s).2 <;> simp [Prod.ext_iff, hx]
    | succ i =>
      simp only [List.take_succ_cons, Tm.nwalks] at e ⊢
      by_cases hx : (x.nwalk f (bound h k bd) s).2 = true
      · rw [if_pos hx] at e ⊢
        rw [show k + (i + 1) = (k + 1) + i by omega]
        exact ih (k + 1) i _ (by simpa using g) e
      · rw [if_neg hx] at e
        simp at e
theorem Tm.nwalks_stop {σ : Type} (f : σ → List ByteArray → Tm → σ × Bool) (h : Hd) (bd : List ByteArray) (l : List Tm) (k i : Nat) (s s' : σ) (e : Tm.nwalks f h k (l.take i) bd s = (s', false)) : Tm.nwalks f h k l bd s = (s', false) := by
  induction l generalizing i k s with
  | nil => simpa using e
  | cons x l ih =>
    cases i with
    | zero => simp [Tm.nwalks] at e
    | succ i =>
      simp only [List.take_succ_cons, Tm.nwalks] at e ⊢
      by_cases hx : (x.nwalk f (bound h k bd) s).2 = true
      · rw [if_pos hx] at e ⊢
        exact ih (k + 1) i _ e
      · rw [if_neg hx] at e ⊢
        exact e

mutual
/-- Texts of some nodes, from the left. -/
def Tm.occP (p : List ByteArray → Hd → Bool) (tx : Hd → ByteArray) : Tm → List ByteArray → List ByteArray
  | .mk h l, bd => (if p bd h then [tx h] else []) ++ Tm.occPs p tx h 0 l bd
def Tm.occPs (p : List ByteArray → Hd → Bool) (tx : Hd → ByteArray) (h : Hd) : Nat → List Tm → List ByteArray → List ByteArray
  | _, [], _ => []
  | i, t :: l, bd => t.occP p tx (bound h i bd) ++ Tm.occPs p tx h (i + 1) l bd
end
def gatherF (p : List ByteArray → Hd → Bool) (tx : Hd → ByteArray) (s : List ByteArray) (bd : List ByteArray) (t : Tm) : List ByteArray × Bool := (if p bd t.head then put s (tx t.head) else s, true)
theorem Tm.nwalk_gather (p : List ByteArray → Hd → Bool) (tx : Hd → ByteArray) (t : Tm) : ∀ bd s, t.nwalk (gatherF p tx) bd s = (puts s (t.occP p tx bd), true) := by
  induction t using Tm.ind with
  | h x l ih =>
    intro bd s
    simp only [Tm.nwalk, Tm.occP, puts_append]
    have e : gatherF p tx s bd (.mk x l) = (puts s (if p bd x then [tx x] else []), true) := by
      show (if p bd x = true then put s (tx x) else s, true) = _
      by_cases hp : p bd x = true
      · rw [if_pos hp, if_pos hp]; rfl
      · rw [if_neg hp, if_neg hp]; rfl
    rw [e]
    simp only [if_true]
    clear e
    generalize puts s (if p bd x then [tx x] else []) = s1
    generalize 0 = k
    induction l generalizing k s1 with
    | nil => simp [Tm.nwalks, Tm.occPs, puts_nil]
    | cons t l ihl =>
      simp only [Tm.nwalks, Tm.occPs, puts_append, ih t (by simp), if_true]
      exact ihl (fun t ht => ih t (by simp [ht])) _ _
def isFree (bd : List ByteArray) (h : Hd) : Bool := h.k == 2 && !inB bd h.name
def names_ (_ : List ByteArray) (h : Hd) : Bool := h.k == 15 || h.k == 16
theorem Tm.occ_P (t : Tm) : ∀ bd, t.occ bd = t.occP isFree Hd.name bd := by
  induction t using Tm.ind with
  | h x l ih =>
    intro bd
    simp only [Tm.occ, Tm.occP]
    congr 1
    · unfold isFree
      by_cases h2 : x.k = 2
      · cases inB bd x.name <;> simp [h2]
      · simp [h2]
    · generalize 0 = k
      induction l generalizing k with
      | nil => rfl
      | cons t l ihl => simp only [Tm.occs, Tm.occPs, ih t (by simp), ihl fun t ht => ih t (by simp [ht])]
/-- The exceptions that are named, from the left. -/
def exnsOf (l : List Tm) : List ByteArray := (l.filter fun t => names_ [] t.head).map fun t => t.head.exn
theorem exnsOf_append (a b : List Tm) : exnsOf (a ++ b) = exnsOf a ++ exnsOf b := by simp [exnsOf]
theorem Tm.occ_exns (t : Tm) : ∀ bd, t.occP names_ Hd.exn bd = exnsOf t.all := by
  induction t using Tm.ind with
  | h x l ih =>
    intro bd
    simp only [Tm.occP, Tm.all]
    have e : exnsOf (.mk x l :: Tm.alls l) = (if names_ bd x then [x.exn] else []) ++ exnsOf (Tm.alls l) := by
      unfold exnsOf
      have hx : names_ bd x = names_ [] (Tm.mk x l).head := rfl
      rw [hx, List.filter_cons]
      by_cases h : names_ [] (Tm.mk x l).head = true
      · rw [if_pos h, if_pos h]; rfl
      · rw [if_neg h, if_neg h]; rfl
    rw [e]
    congr 1
    generalize 0 = k
    clear e
    induction l generalizing k with
    | nil => rfl
    | cons t l ihl => simp only [Tm.occPs, Tm.alls, exnsOf_append, ih t (by simp), ihl fun t ht => ih t (by simp [ht])]
/-- The exceptions that are named in terms, each once. -/
def Tm.exns (l : List Tm) : List ByteArray := puts [] (l.flatMap fun t => exnsOf t.all)
theorem Tm.exns_two (a b : Tm) : Tm.exns [a, b] = puts (Tm.exns [a]) (Tm.exns [b]) := by
  unfold Tm.exns
  rw [puts_puts]
  simp [puts_append]
theorem Tm.frees_one (a : Tm) : Tm.frees [a] = a.free := by simp [Tm.frees, Tm.free]

/-- Is a node free, or its exception not declared? -/
def badH (exns bd : List ByteArray) (h : Hd) : Bool := isFree bd h || (names_ bd h && !inB exns h.exn)
mutual
/-- The place of the first one. -/
def Tm.bad (exns : List ByteArray) : Tm → List ByteArray → Option Int
  | .mk h l, bd => if badH exns bd h then some h.pos else Tm.bads exns h 0 l bd
def Tm.bads (exns : List ByteArray) (h : Hd) : Nat → List Tm → List ByteArray → Option Int
  | _, [], _ => none
  | i, t :: l, bd => match t.bad exns (bound h i bd) with
    | some p => some p
    | none => Tm.bads exns h (i + 1) l bd
end
def closedF (exns : List ByteArray) (s : Int × Int) (bd : List ByteArray) (t : Tm) : (Int × Int) × Bool := if badH exns bd t.head then ((t.head.pos, 4), false) else (s, decide (s.2 = 0))
theorem Tm.nwalk_closed (exns : List ByteArray) (t : Tm) : ∀ bd, t.nwalk (closedF exns) bd (0, 0) = match t.bad exns bd with | some p => ((p, 4), false) | none => ((0, 0), true) := by
  induction t using Tm.ind with
  | h x l ih =>
    intro bd
    simp only [Tm.nwalk, Tm.bad]
    cases hb : badH exns bd x
    · have e : closedF exns (0, 0) bd (.mk x l) = ((0, 0), true) := by unfold closedF; simp [Tm.head, hb]
      rw [e]
      simp only [if_true, Bool.false_eq_true, if_false]
      generalize 0 = k
      clear e
      induction l generalizing k with
      | nil => rfl
      | cons t l ihl =>
        simp only [Tm.nwalks, Tm.bads, ih t (by simp)]
        cases ht : t.bad exns (bound x k bd) with
        | some p => simp
        | none => simp only [if_true]; exact ihl (fun t ht => ih t (by simp [ht])) _
    · have e : closedF exns (0, 0) bd (.mk x l) = ((x.pos, 4), false) := by unfold closedF; simp [Tm.head, hb]
      rw [e]
      simp
theorem Tm.bads_at (exns : List ByteArray) (h : Hd) (bd : List ByteArray) (l : List Tm) (k i : Nat) (t : Tm) (g : l[i]? = some t) (e : Tm.bads exns h k (l.take i) bd = none) : Tm.bads exns h k (l.take (i + 1)) bd = t.bad exns (bound h (k + i) bd) := by
  induction l generalizing i k with
  | nil => simp at g
  | cons x l ih =>
    cases i with
    | zero =>
      simp at g
      subst g
      simp [Tm.bads]
      cases Tm.bad exns x (bound h k bd) <;> rfl
    | succ i =>
      simp only [List.take_succ_cons, Tm.bads] at e ⊢
      cases hx : x.bad exns (bound h k bd) with
      | some p => rw [hx] at e; cases e
      | none =>
        rw [hx] at e
        simp only at e ⊢
        rw [show k + (i + 1) = (k + 1) + i by omega]
        exact ih (k + 1) i (by simpa using g) e
theorem Tm.bads_stop (exns : List ByteArray) (h : Hd) (bd : List ByteArray) (l : List Tm) (k i : Nat) (p : Int) (e : Tm.bads exns h k (l.take i) bd = some p) : Tm.bads exns h k l bd = some p := by
  induction l generalizing i k with
  | nil => simp [Tm.bads] at e
  | cons x l ih =>
    cases i with
    | zero => simp [Tm.bads] at e
    | succ i =>
      simp only [List.take_succ_cons, Tm.bads] at e ⊢
      cases hx : x.bad exns (bound h k bd) with
      | some q => rw [hx] at e; exact e
      | none => rw [hx] at e; exact ih (k + 1) i e
/-- Nothing is bad just if nothing is free, and all exceptions are declared. -/
theorem Tm.bad_none (exns : List ByteArray) (t : Tm) : ∀ bd, t.bad exns bd = none ↔ t.occ bd = [] ∧ ∀ x, x ∈ exnsOf t.all → x ∈ exns := by
  have key : ∀ (t : Tm) (bd : List ByteArray), t.bad exns bd = none ↔ t.occP isFree Hd.name bd = [] ∧ ∀ x, x ∈ t.occP names_ Hd.exn bd → x ∈ exns := by
    intro t
    induction t using Tm.ind with
    | h x l ih =>
      intro bd
      simp only [Tm.bad, Tm.occP]
      have hl : ∀ k, Tm.bads exns x k l bd = none ↔ Tm.occPs isFree Hd.name x k l bd = [] ∧ ∀ y, y ∈ Tm.occPs names_ Hd.exn x k l bd → y ∈ exns := by
        induction l with
        | nil => intro k; simp [Tm.bads, Tm.occPs]
        | cons t l ihl =>
          intro k
          have h1 := ih t (by simp) (bound x k bd)
          have h2 := ihl (fun t ht => ih t (by simp [ht])) (k + 1)
          simp only [Tm.bads, Tm.occPs, List.append_eq_nil_iff, List.mem_append]
          cases hb : t.bad exns (bound x k bd) with
          | some p =>
            simp only [hb] at h1
            constructor
            · intro h; cases h
            · rintro ⟨⟨a, _⟩, b⟩
              exact absurd (h1.2 ⟨a, fun y hy => b y (.inl hy)⟩) (by simp)
          | none =>
            simp only [hb, true_iff] at h1
            simp only [h2]
            constructor
            · rintro ⟨a, b⟩
              exact ⟨⟨h1.1, a⟩, fun y hy => hy.elim (h1.2 y) (b y)⟩
            · rintro ⟨⟨_, a⟩, b⟩
              exact ⟨a, fun y hy => b y (.inr hy)⟩
      unfold badH
      cases hf : isFree bd x
      · cases hn : names_ bd x
        · simp only [Bool.false_eq_true, if_false, Bool.or_self, Bool.false_and, List.nil_append]
          exact hl 0
        · cases hi : inB exns x.exn
          · simp
            intro _ h
            have := (inB_iff exns x.exn).2 h
            rw [hi] at this
            cases this
          · have hm := (inB_iff exns x.exn).1 hi
            simp only [Bool.not_true, Bool.and_false, Bool.or_false, Bool.false_eq_true, if_false, List.nil_append, if_true, List.mem_append, List.mem_singleton, hl 0]
            constructor
            · rintro ⟨a, b⟩
              exact ⟨a, fun y hy => hy.elim (fun e => e ▸ hm) (b y)⟩
            · rintro ⟨a, b⟩
              exact ⟨a, fun y hy => b y (.inr hy)⟩
      · simp
  intro bd
  have := key t bd
  rw [← Tm.occ_P, Tm.occ_exns] at this
  exact this
theorem puts_eq_nil (l : List ByteArray) : puts [] l = [] ↔ l = [] := by
  constructor
  · intro h
    cases l with
    | nil => rfl
    | cons x l =>
      have : x ∈ puts [] (x :: l) := (mem_puts [] (x :: l) x).2 (.inr (by simp))
      rw [h] at this
      cases this
  · rintro rfl; rfl
theorem Tm.bad_free (exns : List ByteArray) (t : Tm) : (t.bad exns []).isNone = (t.free.isEmpty && (Tm.exns [t]).all (inB exns)) := by
  rw [Bool.eq_iff_iff, Option.isNone_iff_eq_none, Tm.bad_none, Bool.and_eq_true, List.isEmpty_iff, List.all_eq_true]
  unfold Tm.free Tm.exns
  rw [puts_eq_nil]
  constructor
  · rintro ⟨a, b⟩
    refine ⟨a, fun x hx => (inB_iff _ _).2 (b x ?_)⟩
    have := (mem_puts [] _ x).1 hx
    simpa using this
  · rintro ⟨a, b⟩
    refine ⟨a, fun x hx => (inB_iff _ _).1 (b x ?_)⟩
    rw [mem_puts]
    exact .inr (by simpa using hx)

/-- The first declared exception that was declared already; its place. -/
def firstTwice : List ByteArray → List (ByteArray × Int) → Option Int
  | _, [] => none
  | o, (x, p) :: l => if inB o x then some p else firstTwice (o ++ [x]) l
/-- The place and the error of a program that isn't closed. -/
def closedR (t : Tm) (l : List (ByteArray × Int)) : Int × Int :=
  if t.may = false then (0, 1) else if 64 < l.length then (((l[64]?).map Prod.snd).getD 0, 3) else match firstTwice [] l with
    | some p => (p, 4)
    | none => match t.bad (l.map Prod.fst) [] with
      | some p => (p, 4)
      | none => (0, 0)
end Go.Proofs.YtmomahgedheekaaDoor
