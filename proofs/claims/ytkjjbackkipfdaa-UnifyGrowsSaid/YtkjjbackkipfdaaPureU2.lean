/- How the program makes two types the same, in plain Lean; no program in sight. -/
import Derived.Test.YtkjjbackkipfdaaPureU1
namespace Go.Proofs.Ytkjjbackkipfdaa

/-- The last variable on the way from a variable to what it stands for. -/
inductive Root (S : St) : Ty → Ty → Prop
  | other {t : Ty} : t.kind ≠ 5 → Root S t t
  | free {t : Ty} : t.kind = 5 → S t.var = none → Root S t t
  | head {t x : Ty} : t.kind = 5 → S t.var = some x → x.kind ≠ 5 → Root S t t
  | step {t x r : Ty} : t.kind = 5 → S t.var = some x → x.kind = 5 → Root S x r → Root S t r
theorem Root.det {S : St} {t r r' : Ty} (h : Root S t r) (h' : Root S t r') : r = r' := by
  induction h with
  | other h5 =>
    cases h' with
    | other => rfl
    | free => rfl
    | head => rfl
    | step h => exact absurd h h5
  | free _ e =>
    cases h' with
    | other => rfl
    | free => rfl
    | head => rfl
    | step _ e' => rw [e] at e'; cases e'
  | head _ e h5 =>
    cases h' with
    | other => rfl
    | free => rfl
    | head => rfl
    | step _ e' h5' => rw [e] at e'; cases e'; exact absurd h5' h5
  | step h5 e h5' _ ih =>
    cases h' with
    | other h => exact absurd h5 h
    | free _ e' => rw [e] at e'; cases e'
    | head _ e' h => rw [e] at e'; cases e'; exact absurd h5' h
    | step _ e' _ hr => rw [e] at e'; cases e'; exact ih hr
theorem Ty.eta (t : Ty) : t = .mk t.kind t.var t.kids := by cases t; rfl
theorem Ty.var_mem {t : Ty} (h : t.kind = 5) : t.var ∈ t.vs := by
  obtain ⟨k, n, l⟩ := t
  simp only [Ty.kind] at h
  subst h
  rw [Ty.vs_five]
  simp [Ty.var]
theorem Ty.sub_var {t : Ty} (h : t.kind = 5) (s : Int → Ty) : t.sub s = s t.var := by
  obtain ⟨k, n, l⟩ := t
  simp only [Ty.kind] at h
  subst h
  rw [Ty.sub_five]
  rfl
theorem Ty.sub_node {t : Ty} (h : t.kind ≠ 5) (s : Int → Ty) : t.sub s = .mk t.kind t.var (t.kids.map (Ty.sub s)) := by
  obtain ⟨k, n, l⟩ := t
  exact Ty.sub_other s h
theorem Root.some_ {S : St} (ha : Acy S) (t : Ty) : ∃ r, Root S t r := by
  obtain ⟨rk, hr⟩ := ha
  have key : ∀ m t, t.kind = 5 → rk t.var < m → ∃ r, Root S t r := by
    intro m
    induction m with
    | zero => intro t _ h; omega
    | succ m ih =>
      intro t h5 hm
      cases e : S t.var with
      | none => exact ⟨t, .free h5 e⟩
      | some x =>
        by_cases hx : x.kind = 5
        · have := hr _ _ e _ (Ty.var_mem hx)
          obtain ⟨r, h⟩ := ih x hx (by omega)
          exact ⟨r, .step h5 e hx h⟩
        · exact ⟨t, .head h5 e hx⟩
  by_cases h5 : t.kind = 5
  · exact key _ t h5 (Nat.lt_succ_self _)
  · exact ⟨t, .other h5⟩
open Classical in
/-- A type's root. -/
noncomputable def rootD (S : St) (t : Ty) : Ty := if h : ∃ r, Root S t r then h.choose else t
theorem rootD_eq {S : St} {t r : Ty} (h : Root S t r) : rootD S t = r := by
  unfold rootD
  have hx : ∃ r, Root S t r := ⟨r, h⟩
  rw [dif_pos hx]
  exact hx.choose_spec.det h
theorem rootD_root {S : St} (ha : Acy S) (t : Ty) : Root S t (rootD S t) := by
  obtain ⟨r, h⟩ := Root.some_ ha t
  rw [rootD_eq h]
  exact h
/-- What a root stands for, as far as its head. -/
def hd (S : St) (r : Ty) : Ty := if r.kind = 5 then (S r.var).getD r else r
open Classical in
/-- A variable that stands for nothing stands for a type; not if it stands in it. -/
noncomputable def standW (S : St) (v : Int) (t : Ty) : St × Bool := if In S v t then (S, false) else (S.put v t, true)
open Classical in
/-- Two variables, each the last one on its way. -/
noncomputable def linkW (J : St → Ty → Ty → Option (St × Bool)) (S : St) (x y : Int) : Option (St × Bool) :=
  match S x, S y with
  | some to, some other => if In S x other ∨ In S y to then some (S, false) else J (S.put x (vr y)) to other
  | some _, none => some (standW S y (vr x))
  | none, some _ => some (standW S x (vr y))
  | none, none => some (S.put (max x y) (vr (min x y)), true)
def joinsW (J : St → Ty → Ty → Option (St × Bool)) : St → List Ty → List Ty → Option (St × Bool)
  | S, [], _ => some (S, true)
  | _, _ :: _, [] => none
  | S, x :: l, y :: l' => (J S x y).bind fun r => if r.2 then joinsW J r.1 l l' else some (r.1, false)
/-- Two roots. -/
noncomputable def joinR (J : St → Ty → Ty → Option (St × Bool)) (S : St) (x y : Ty) : Option (St × Bool) :=
  if x.kind = 5 ∧ y.kind = 5 then (if x.var = y.var then some (S, true) else linkW J S x.var y.var)
  else if (hd S x).kind = 5 then some (standW S (hd S x).var (hd S y))
  else if (hd S y).kind = 5 then some (standW S (hd S y).var (hd S x))
  else if (hd S x).kind ≠ (hd S y).kind then some (S, false)
  else joinsW J S (hd S x).kids (hd S y).kids
noncomputable def joinF : Nat → St → Ty → Ty → Option (St × Bool)
  | 0, _, _, _ => none
  | f + 1, S, x, y => joinR (joinF f) S (rootD S x) (rootD S y)

/-- A type of a book's variables. -/
structure Fit (n : Nat) (t : Ty) : Prop where
  may : t.may = true
  lt : ∀ u, u ∈ t.vs → u < n
theorem may_node {k n : Int} {l : List Ty} (h : (Ty.mk k n l).may = true) : arity k = l.length ∧ 0 ≤ n ∧ (n = 0 ∨ k = 5) ∧ ∀ t, t ∈ l → t.may = true := by
  simp only [Ty.may, Ty.node, Bool.and_eq_true, decide_eq_true_eq, Bool.or_eq_true, Ty.mays_iff] at h
  exact ⟨h.1.1.1, h.1.1.2, h.1.2, h.2⟩
theorem may_vs (t : Ty) (h : t.may = true) : ∀ u, u ∈ t.vs → 0 ≤ u := by
  induction t using Ty.ind with
  | h k n l ih =>
    obtain ⟨h1, h2, h3, h4⟩ := may_node h
    intro u hu
    by_cases h5 : k = 5
    · subst h5
      rw [Ty.vs_five] at hu
      simp at hu
      omega
    · rw [Ty.vs_other h5] at hu
      obtain ⟨t, ht, hu⟩ := List.mem_flatMap.1 hu
      exact ih t ht (h4 t ht) u hu
theorem Fit.kid {n : Nat} {t c : Ty} (h : Fit n t) (h5 : t.kind ≠ 5) (hc : c ∈ t.kids) : Fit n c := by
  obtain ⟨k, v, l⟩ := t
  refine ⟨(may_node h.may).2.2.2 c hc, fun u hu => h.lt u ?_⟩
  rw [Ty.vs_other (show k ≠ 5 from h5)]
  exact List.mem_flatMap.2 ⟨c, hc, hu⟩
theorem Fit.kids_eq {n : Nat} {a c : Ty} (h : Fit n a) (h' : Fit n c) (e : a.kind = c.kind) : a.kids.length = c.kids.length := by
  obtain ⟨k, v, l⟩ := a
  obtain ⟨k', v', l'⟩ := c
  have h1 := (may_node h.may).1
  have h2 := (may_node h'.may).1
  simp only [Ty.kind] at e
  subst e
  simp only [Ty.kids]
  omega
theorem Fit.var_eq {n : Nat} {a : Ty} (h : Fit n a) (h5 : a.kind ≠ 5) : a.var = 0 := by
  obtain ⟨k, v, l⟩ := a
  rcases (may_node h.may).2.2.1 with e | e
  · exact e
  · exact absurd e h5
theorem Fit.vr_eq {n : Nat} {a : Ty} (h : Fit n a) (h5 : a.kind = 5) : a = vr a.var := by
  obtain ⟨k, v, l⟩ := a
  simp only [Ty.kind] at h5
  subst h5
  have h1 := (may_node h.may).1
  simp [arity] at h1
  simp only [Ty.var, vr]
  congr 1
  exact List.eq_nil_of_length_eq_zero (by omega)
theorem Fit.vr_ {n : Nat} {v : Int} (h0 : 0 ≤ v) (h1 : v < n) : Fit n (vr v) :=
  ⟨by simp [vr, Ty.may, Ty.mays, Ty.node, arity, h0], fun u hu => by rw [vr_vs] at hu; simp at hu; omega⟩
theorem Fit.range {n : Nat} {a : Ty} (h : Fit n a) (h5 : a.kind = 5) : 0 ≤ a.var ∧ a.var < n := ⟨may_vs a h.may _ (Ty.var_mem h5), h.lt _ (Ty.var_mem h5)⟩

/-- The way from a variable through variables to one that stands for nothing. -/
inductive Ch (S : St) : Int → Int → Prop
  | free {v : Int} : S v = none → Ch S v v
  | step {v u r : Int} {l : List Ty} : S v = some (.mk 5 u l) → Ch S u r → Ch S v r
/-- A state of a book of n variables. -/
structure Good (n : Nat) (S : St) : Prop where
  acy : Acy S
  fit : ∀ v t, S v = some t → 0 ≤ v ∧ v < n ∧ Fit n t
  least : ∀ v r, Ch S v r → r ≤ v
theorem Good.empty (n : Nat) : Good n (fun _ => none) := ⟨Acy.empty, (fun _ _ h => by cases h), fun v r h => by
  cases h with
  | free => exact Int.le_refl _
  | step h => cases h⟩
theorem Sense.ch {S : St} {σ : Int → Ty} (ha : Acy S) (hf : ∀ v t, S v = some t → ∃ n, Fit n t) (h : Sense S σ) {v r : Int} {l : List Ty} (e : σ v = .mk 5 r l) : Ch S v r ∧ l = [] := by
  obtain ⟨rk, hr⟩ := ha
  have key : ∀ m v, rk v < m → σ v = .mk 5 r l → Ch S v r ∧ l = [] := by
    intro m
    induction m with
    | zero => intro v h; omega
    | succ m ih =>
      intro v hv e
      cases g : S v with
      | none =>
        rw [h.free v g] at e
        injection e with _ e1 e2
        subst e1
        exact ⟨.free g, e2.symm⟩
      | some t =>
        rw [h.bound v t g] at e
        by_cases h5 : t.kind = 5
        · obtain ⟨N, hN⟩ := hf v t g
          have e1 := hN.vr_eq h5
          rw [Ty.sub_var h5] at e
          have := hr v t g _ (Ty.var_mem h5)
          obtain ⟨g1, g2⟩ := ih t.var (by omega) e
          refine ⟨.step (l := []) ?_ g1, g2⟩
          rw [g]
          exact congrArg some e1
        · rw [Ty.sub_node h5] at e
          injection e with e1
          exact absurd e1 h5
  exact key _ v (Nat.lt_succ_self _) e
theorem Good.canon {n : Nat} {S : St} (g : Good n S) : ∃ σ, Sense S σ ∧ Canon (Sol S) σ := by
  obtain ⟨σ, h⟩ := g.acy.sense
  refine ⟨σ, h, h.sol, fun θ hs v => h.most g.acy hs v, fun v r l e => ?_⟩
  obtain ⟨h1, h2⟩ := h.ch g.acy (fun v t e => ⟨n, (g.fit v t e).2.2⟩) e
  exact ⟨h2, g.least _ _ h1⟩

theorem Root.fit {n : Nat} {S : St} (g : Good n S) {t r : Ty} (h : Root S t r) (ht : Fit n t) : Fit n r := by
  induction h with
  | other => exact ht
  | free => exact ht
  | head => exact ht
  | step _ e _ _ ih => exact ih (g.fit _ _ e).2.2
theorem Root.sub {S : St} {θ : Int → Ty} (hs : Sol S θ) {t r : Ty} (h : Root S t r) : r.sub θ = t.sub θ := by
  induction h with
  | other => rfl
  | free => rfl
  | head => rfl
  | step h5 e _ _ ih => rw [ih, Ty.sub_var h5, hs _ _ e]
/-- What a root stands for is no variable. -/
theorem Root.last {S : St} {t r : Ty} (h : Root S t r) : r.kind = 5 → ∀ x, S r.var = some x → x.kind ≠ 5 := by
  induction h with
  | other h => intro h'; exact absurd h' h
  | free _ e => intro _ x h; rw [e] at h; cases h
  | head _ e h => intro _ x h'; rw [e] at h'; cases h'; exact h
  | step _ _ _ _ ih => exact ih
theorem hd_sub {S : St} {θ : Int → Ty} (hs : Sol S θ) (r : Ty) : (hd S r).sub θ = r.sub θ := by
  unfold hd
  split
  · rename_i h5
    cases e : S r.var with
    | none => rfl
    | some x => rw [Option.getD_some, Ty.sub_var h5, hs _ _ e]
  · rfl
theorem hd_fit {n : Nat} {S : St} (g : Good n S) {r : Ty} (h : Fit n r) : Fit n (hd S r) := by
  unfold hd
  split
  · cases e : S r.var with
    | none => exact h
    | some x => exact (g.fit _ _ e).2.2
  · exact h
theorem hd_other {S : St} {r : Ty} (h : r.kind ≠ 5) : hd S r = r := if_neg h
/-- A head that is a variable stands for nothing. -/
theorem hd_free {S : St} {r : Ty} (hl : r.kind = 5 → ∀ x, S r.var = some x → x.kind ≠ 5) (h : (hd S r).kind = 5) : hd S r = r ∧ r.kind = 5 ∧ S r.var = none := by
  unfold hd at h ⊢
  by_cases h5 : r.kind = 5
  · rw [if_pos h5] at h ⊢
    cases e : S r.var with
    | none => exact ⟨rfl, h5, rfl⟩
    | some x => rw [e] at h; exact absurd h (hl h5 x e)
  · rw [if_neg h5] at h
    exact absurd h h5

/-- How much can still be said of a book's variables. -/
def wt (o : Option Ty) : Nat := match o with | none => 2 | some t => if t.kind = 5 then 0 else 1
def W (n : Nat) (S : St) : Nat := ((List.range n).map fun i : Nat => wt (S (i : Int))).sum
theorem sum_lt (f g : Nat → Nat) (l : List Nat) (h : ∀ i, i ∈ l → f i ≤ g i) (i : Nat) (hi : i ∈ l) (hlt : f i < g i) : (l.map f).sum < (l.map g).sum := by
  have le : ∀ l : List Nat, (∀ i, i ∈ l → f i ≤ g i) → (l.map f).sum ≤ (l.map g).sum := by
    intro l
    induction l with
    | nil => simp
    | cons a l ih =>
      intro h
      simp only [List.map_cons, List.sum_cons]
      have h1 := h a (by simp)
      have h2 := ih fun i hi => h i (by simp [hi])
      omega
  induction l with
  | nil => cases hi
  | cons a l ih =>
    simp only [List.map_cons, List.sum_cons]
    have h1 := h a (by simp)
    have h2 := le l fun i hi => h i (by simp [hi])
    rcases List.mem_cons.1 hi with rfl | hi
    · omega
    · have := ih (fun i hi => h i (by simp [hi])) hi
      omega
theorem W_put {n : Nat} {S : St} {v : Int} {t : Ty} (h0 : 0 ≤ v) (h1 : v < n) (h : wt (some t) < wt (S v)) : W n (S.put v t) < W n S := by
  unfold W
  refine sum_lt _ _ _ (fun i _ => ?_) v.toNat (by simp; omega) ?_
  · by_cases e : (i : Int) = v
    · subst e
      rw [St.put_at]
      omega
    · rw [St.put_off _ e]
      exact Nat.le_refl _
  · rw [show ((v.toNat : Nat) : Int) = v from by omega, St.put_at]
    exact h

theorem sol_put {S : St} {v : Int} {t : Ty} (h : S v = none) (θ : Int → Ty) : Sol (S.put v t) θ ↔ Sol S θ ∧ θ v = t.sub θ := by
  constructor
  · intro hs
    refine ⟨fun u x e => ?_, hs v t (St.put_at S v t)⟩
    have hne : u ≠ v := by rintro rfl; rw [h] at e; cases e
    exact hs u x (by rw [St.put_off _ hne]; exact e)
  · rintro ⟨hs, ht⟩ u x e
    by_cases hne : u = v
    · subst hne
      rw [St.put_at] at e
      cases e
      exact ht
    · rw [St.put_off _ hne] at e
      exact hs u x e
/-- A new state: nothing that leads on leads to another one. -/
theorem Ch.put {S : St} {v : Int} {t : Ty} (ht : ∀ u l, t = .mk 5 u l → ∃ x, S u = some x ∧ x.kind ≠ 5 ∧ u ≠ v) {u r : Int} (h : Ch (S.put v t) u r) : Ch S u r := by
  induction h with
  | @free u e =>
    by_cases hu : u = v
    · subst hu; rw [St.put_at] at e; cases e
    · rw [St.put_off _ hu] at e; exact .free e
  | @step u w r l e hr ih =>
    by_cases hu : u = v
    · subst hu
      rw [St.put_at] at e
      cases e
      obtain ⟨x, hx, h5, hne⟩ := ht w l rfl
      cases ih with
      | free e => rw [e] at hx; cases hx
      | step e _ => rw [e] at hx; cases hx; exact absurd rfl h5
    · rw [St.put_off _ hu] at e
      exact .step e ih
theorem Good.put {n : Nat} {S : St} (g : Good n S) {v : Int} {t : Ty} (h0 : 0 ≤ v) (h1 : v < n) (hf : Fit n t) (hn : ¬ In S v t) (ht : ∀ u l, t = .mk 5 u l → ∃ x, S u = some x ∧ x.kind ≠ 5 ∧ u ≠ v) : Good n (S.put v t) :=
  ⟨g.acy.put hn, fun u x e => by
    by_cases hu : u = v
    · subst hu; rw [St.put_at] at e; cases e; exact ⟨h0, h1, hf⟩
    · rw [St.put_off _ hu] at e; exact g.fit u x e, fun u r h => g.least u r (h.put ht)⟩
/-- Two variables that stand for nothing: the greater one stands for the smaller one. -/
theorem Good.two {n : Nat} {S : St} (g : Good n S) {x y : Int} (hx : S x = none) (hy : S y = none) (hne : x < y) (h0 : 0 ≤ x) (h1 : y < n) : Good n (S.put y (vr x)) := by
  refine ⟨g.acy.put ?_, fun u t e => ?_, fun u r h => ?_⟩
  · rintro ⟨u, hu, hr⟩
    rw [vr_vs] at hu
    simp at hu
    subst hu
    cases hr with
    | refl => omega
    | step e => rw [hx] at e; cases e
  · by_cases hu : u = y
    · subst hu; rw [St.put_at] at e; cases e; exact ⟨by omega, h1, Fit.vr_ h0 (by omega)⟩
    · rw [St.put_off _ hu] at e; exact g.fit u t e
  · have key : ∃ r0, Ch S u r0 ∧ r ≤ r0 := by
      induction h with
      | @free u e =>
        by_cases hu : u = y
        · subst hu; rw [St.put_at] at e; cases e
        · rw [St.put_off _ hu] at e; exact ⟨u, .free e, Int.le_refl _⟩
      | @step u w r l e hr ih =>
        obtain ⟨r0, h1, h2⟩ := ih
        by_cases hu : u = y
        · subst hu
          rw [St.put_at] at e
          cases e
          refine ⟨u, .free hy, ?_⟩
          cases h1 with
          | free => omega
          | step e => rw [hx] at e; cases e
        · rw [St.put_off _ hu] at e
          exact ⟨r0, .step e h1, h2⟩
    obtain ⟨r0, h1, h2⟩ := key
    have := g.least u r0 h1
    omega

/-- What joining does: to the state, and to the ways to fill the variables. -/
structure Joined (n : Nat) (S : St) (E : (Int → Ty) → Prop) (S' : St) (b : Bool) : Prop where
  good : b = true → Good n S'
  yes : b = true → ∀ θ, Sol S' θ ↔ Sol S θ ∧ E θ
  no : b = false → ∀ θ, Sol S θ → ¬ E θ
  less : b = true → S' = S ∨ W n S' < W n S
theorem Joined.same {n : Nat} {S : St} (g : Good n S) {E : (Int → Ty) → Prop} (h : ∀ θ, Sol S θ → E θ) : Joined n S E S true :=
  ⟨fun _ => g, fun _ θ => ⟨fun hs => ⟨hs, h θ hs⟩, fun hs => hs.1⟩, (fun e => by cases e), fun _ => .inl rfl⟩
theorem Joined.never {n : Nat} {S : St} {E : (Int → Ty) → Prop} (h : ∀ θ, Sol S θ → ¬ E θ) (S' : St) : Joined n S E S' false :=
  ⟨(fun e => by cases e), (fun e => by cases e), fun _ => h, fun e => by cases e⟩
/-- Other equations that are the same in this state. -/
theorem Joined.of {n : Nat} {S : St} {E E' : (Int → Ty) → Prop} (he : ∀ θ, Sol S θ → (E θ ↔ E' θ)) {S' : St} {b : Bool} (h : Joined n S E S' b) : Joined n S E' S' b :=
  ⟨h.good, fun e θ => ⟨fun hs => by have := (h.yes e θ).1 hs; exact ⟨this.1, (he θ this.1).1 this.2⟩, fun hs => (h.yes e θ).2 ⟨hs.1, (he θ hs.1).2 hs.2⟩⟩, fun e θ hs hE => h.no e θ hs ((he θ hs).2 hE), h.less⟩

theorem stand_ok {n : Nat} {S : St} (g : Good n S) {v : Int} {t : Ty} (hv : S v = none) (h0 : 0 ≤ v) (h1 : v < n) (hf : Fit n t) (hk : t.kind ≠ 5 ∨ ∃ u x, t = vr u ∧ S u = some x ∧ x.kind ≠ 5) :
    Joined n S (fun θ => θ v = t.sub θ) (standW S v t).1 (standW S v t).2 := by
  unfold standW
  split
  · rename_i hin
    refine Joined.never (fun θ hs e => ?_) _
    rcases hk with h5 | ⟨u, x, rfl, hu, h5⟩
    · have := hin.size hs h5
      rw [← e] at this
      omega
    · rw [vr_sub, hs u x hu] at e
      rcases In.var.1 hin with e' | ⟨x', hx', hin'⟩
      · subst e'; rw [hv] at hu; cases hu
      · rw [hu] at hx'
        cases hx'
        have := hin'.size hs h5
        rw [← e] at this
        omega
  · rename_i hin
    have hu : ∀ u l, t = .mk 5 u l → ∃ x, S u = some x ∧ x.kind ≠ 5 ∧ u ≠ v := by
      rintro u l rfl
      rcases hk with h5 | ⟨u', x, e, hu, h5⟩
      · exact absurd rfl h5
      · cases e
        exact ⟨x, hu, h5, by rintro rfl; rw [hv] at hu; cases hu⟩
    refine ⟨fun _ => g.put h0 h1 hf hin hu, fun _ θ => sol_put hv θ, (fun e => by cases e), fun _ => .inr (W_put h0 h1 ?_)⟩
    rw [hv]
    unfold wt
    simp only
    split <;> omega
/-- What the calls within may do. -/
def JoinOk (n : Nat) (J : St → Ty → Ty → Option (St × Bool)) : Prop :=
  ∀ S x y S' b, Good n S → Fit n x → Fit n y → J S x y = some (S', b) → Joined n S (fun θ => x.sub θ = y.sub θ) S' b
theorem joins_ok {n : Nat} {J : St → Ty → Ty → Option (St × Bool)} (hJ : JoinOk n J) (l : List Ty) : ∀ (l' : List Ty) (S S' : St) (b : Bool), Good n S → (∀ t, t ∈ l → Fit n t) → (∀ t, t ∈ l' → Fit n t) → l.length = l'.length → joinsW J S l l' = some (S', b) →
    Joined n S (fun θ => l.map (Ty.sub θ) = l'.map (Ty.sub θ)) S' b := by
  induction l with
  | nil =>
    intro l' S S' b g _ _ hl h
    simp only [joinsW, Option.some.injEq, Prod.mk.injEq] at h
    obtain ⟨rfl, rfl⟩ := h
    have : l' = [] := List.eq_nil_of_length_eq_zero hl.symm
    subst this
    exact Joined.same g fun _ _ => rfl
  | cons x l ih =>
    intro l' S S' b g hf hf' hl h
    cases l' with
    | nil => simp at hl
    | cons y l' =>
      simp only [joinsW] at h
      cases hj : J S x y with
      | none => rw [hj] at h; cases h
      | some r =>
        obtain ⟨S1, b1⟩ := r
        rw [hj] at h
        simp only [Option.bind_some] at h
        have k1 := hJ S x y S1 b1 g (hf x (by simp)) (hf' y (by simp)) hj
        cases b1 with
        | false =>
          simp at h
          obtain ⟨rfl, rfl⟩ := h
          refine Joined.never (fun θ hs e => ?_) _
          simp only [List.map_cons, List.cons.injEq] at e
          exact k1.no rfl θ hs e.1
        | true =>
          simp only [if_true] at h
          have k2 := ih l' S1 S' b (k1.good rfl) (fun t ht => hf t (by simp [ht])) (fun t ht => hf' t (by simp [ht])) (by simpa using hl) h
          refine ⟨k2.good, fun e θ => ?_, fun e θ hs he => ?_, fun e => ?_⟩
          · rw [k2.yes e, k1.yes rfl]
            simp only [List.map_cons, List.cons.injEq]
            exact and_assoc
          · simp only [List.map_cons, List.cons.injEq] at he
            exact k2.no e θ ((k1.yes rfl θ).2 ⟨hs, he.1⟩) he.2
          · rcases k1.less rfl with rfl | h1
            · exact k2.less e
            · rcases k2.less e with rfl | h2
              · exact .inr h1
              · exact .inr (by omega)
theorem link_ok {n : Nat} {J : St → Ty → Ty → Option (St × Bool)} (hJ : JoinOk n J) {S : St} (g : Good n S) {x y : Int} (hne : x ≠ y) (hx : 0 ≤ x ∧ x < n) (hy : 0 ≤ y ∧ y < n) (lx : ∀ t, S x = some t → t.kind ≠ 5) (ly : ∀ t, S y = some t → t.kind ≠ 5) {S' : St} {b : Bool}
    (h : linkW J S x y = some (S', b)) : Joined n S (fun θ => θ x = θ y) S' b := by
  unfold linkW at h
  cases ex : S x with
  | none =>
    cases ey : S y with
    | none =>
      rw [ex, ey] at h
      simp only [Option.some.injEq, Prod.mk.injEq] at h
      obtain ⟨rfl, rfl⟩ := h
      have hw : ∀ v : Int, S v = none → 0 ≤ v → v < n → ∀ u, W n (S.put v (vr u)) < W n S := fun v e h0 h1 u => W_put h0 h1 (by rw [e]; simp [wt, vr, Ty.kind])
      rcases Int.lt_or_gt_of_ne hne with hlt | hlt
      · rw [show max x y = y from by omega, show min x y = x from by omega]
        refine ⟨fun _ => g.two ex ey hlt hx.1 hy.2, fun _ θ => ?_, (fun e => by cases e), fun _ => .inr (hw y ey hy.1 hy.2 x)⟩
        rw [sol_put ey, vr_sub]
        exact ⟨fun h => ⟨h.1, h.2.symm⟩, fun h => ⟨h.1, h.2.symm⟩⟩
      · rw [show max x y = x from by omega, show min x y = y from by omega]
        refine ⟨fun _ => g.two ey ex hlt hy.1 hx.2, fun _ θ => ?_, (fun e => by cases e), fun _ => .inr (hw x ex hx.1 hx.2 y)⟩
        rw [sol_put ex, vr_sub]
    | some other =>
      rw [ex, ey] at h
      simp only [Option.some.injEq] at h
      have k := stand_ok g ex hx.1 hx.2 (Fit.vr_ hy.1 hy.2) (.inr ⟨y, other, rfl, ey, ly _ ey⟩)
      rw [h] at k
      exact k.of fun θ _ => by rw [vr_sub]
  | some to =>
    cases ey : S y with
    | none =>
      rw [ex, ey] at h
      simp only [Option.some.injEq] at h
      have k := stand_ok g ey hy.1 hy.2 (Fit.vr_ hx.1 hx.2) (.inr ⟨x, to, rfl, ex, lx _ ex⟩)
      rw [h] at k
      exact k.of fun θ _ => by rw [vr_sub]; exact eq_comm
    | some other =>
      rw [ex, ey] at h
      simp only at h
      split at h
      · rename_i hin
        cases h
        refine Joined.never (fun θ hs e => ?_) _
        rcases hin with hin | hin
        · have := hin.size hs (ly _ ey)
          rw [← hs _ _ ey, e] at this
          omega
        · have := hin.size hs (lx _ ex)
          rw [← hs _ _ ex, e] at this
          omega
      · rename_i hin
        have hn1 : ¬ In S x other := fun h => hin (.inl h)
        have hn2 : ¬ In S x (vr y) := by
          intro h
          rcases In.var.1 h with e | ⟨t, e, h⟩
          · exact hne e.symm
          · rw [ey] at e; cases e; exact hn1 h
        have g1 : Good n (S.put x (vr y)) := g.put hx.1 hx.2 (Fit.vr_ hy.1 hy.2) hn2 fun u l e => by
          cases e
          exact ⟨other, ey, ly _ ey, fun e => hne e.symm⟩
        have k := hJ _ to other S' b g1 (g.fit _ _ ex).2.2 (g.fit _ _ ey).2.2 h
        have hw : W n (S.put x (vr y)) < W n S := W_put hx.1 hx.2 (by rw [ex]; have := lx _ ex; simp [wt, vr, Ty.kind] at this ⊢; simp [this])
        have hs1 : ∀ θ, Sol (S.put x (vr y)) θ ∧ to.sub θ = other.sub θ ↔ Sol S θ ∧ θ x = θ y := by
          intro θ
          constructor
          · rintro ⟨hs, e⟩
            have hxy : θ x = θ y := by have := hs x _ (St.put_at S x (vr y)); rwa [vr_sub] at this
            have hy' : θ y = other.sub θ := hs y _ (by rw [St.put_off _ (fun e => hne e.symm)]; exact ey)
            refine ⟨fun u t hu => ?_, hxy⟩
            by_cases e' : u = x
            · subst e'; rw [ex] at hu; cases hu; rw [hxy, hy', e]
            · exact hs u t (by rw [St.put_off _ e']; exact hu)
          · rintro ⟨hs, e⟩
            refine ⟨fun u t hu => ?_, by rw [← hs _ _ ex, ← hs _ _ ey, e]⟩
            by_cases e' : u = x
            · subst e'; rw [St.put_at] at hu; cases hu; rw [vr_sub, e]
            · rw [St.put_off _ e'] at hu; exact hs u t hu
        refine ⟨k.good, fun e θ => by rw [k.yes e]; exact hs1 θ, fun e θ hs he => ?_, fun e => .inr ?_⟩
        · have := (hs1 θ).2 ⟨hs, he⟩
          exact k.no e θ this.1 this.2
        · rcases k.less e with rfl | h
          · exact hw
          · omega
theorem joinR_ok {n : Nat} {J : St → Ty → Ty → Option (St × Bool)} (hJ : JoinOk n J) {S : St} (g : Good n S) {x y : Ty} (hx : Fit n x) (hy : Fit n y) (lx : x.kind = 5 → ∀ t, S x.var = some t → t.kind ≠ 5) (ly : y.kind = 5 → ∀ t, S y.var = some t → t.kind ≠ 5) {S' : St} {b : Bool}
    (h : joinR J S x y = some (S', b)) : Joined n S (fun θ => x.sub θ = y.sub θ) S' b := by
  unfold joinR at h
  by_cases hv : x.kind = 5 ∧ y.kind = 5
  · rw [if_pos hv] at h
    by_cases he : x.var = y.var
    · rw [if_pos he] at h
      cases h
      exact Joined.same g fun θ _ => by rw [Ty.sub_var hv.1, Ty.sub_var hv.2, he]
    · rw [if_neg he] at h
      exact (link_ok hJ g he (hx.range hv.1) (hy.range hv.2) (lx hv.1) (ly hv.2) h).of fun θ _ => by rw [Ty.sub_var hv.1, Ty.sub_var hv.2]
  rw [if_neg hv] at h
  have eqv : ∀ θ, Sol S θ → ((hd S x).sub θ = (hd S y).sub θ ↔ x.sub θ = y.sub θ) := fun θ hs => by rw [hd_sub hs, hd_sub hs]
  by_cases h1 : (hd S x).kind = 5
  · rw [if_pos h1] at h
    obtain ⟨e1, e2, e3⟩ := hd_free lx h1
    rw [e1] at h
    have h2 : (hd S y).kind ≠ 5 := fun h2 => hv ⟨e2, (hd_free ly h2).2.1⟩
    have k := stand_ok g e3 (hx.range e2).1 (hx.range e2).2 (hd_fit g hy) (.inl h2)
    simp only [Option.some.injEq] at h
    rw [h] at k
    exact k.of fun θ hs => by rw [← eqv θ hs, e1, Ty.sub_var e2]
  rw [if_neg h1] at h
  by_cases h2 : (hd S y).kind = 5
  · rw [if_pos h2] at h
    obtain ⟨e1, e2, e3⟩ := hd_free ly h2
    rw [e1] at h
    have k := stand_ok g e3 (hy.range e2).1 (hy.range e2).2 (hd_fit g hx) (.inl h1)
    simp only [Option.some.injEq] at h
    rw [h] at k
    exact k.of fun θ hs => by rw [← eqv θ hs, e1, Ty.sub_var e2]; exact eq_comm
  rw [if_neg h2] at h
  by_cases h3 : (hd S x).kind = (hd S y).kind
  · rw [if_neg (by simpa using h3)] at h
    have fx := hd_fit g hx
    have fy := hd_fit g hy
    have k := joins_ok hJ _ _ S S' b g (fun t ht => fx.kid h1 ht) (fun t ht => fy.kid h2 ht) (fx.kids_eq fy h3) h
    refine k.of fun θ hs => ?_
    rw [← eqv θ hs, Ty.sub_node h1, Ty.sub_node h2, h3, fx.var_eq h1, fy.var_eq h2]
    simp
  · rw [if_pos h3] at h
    cases h
    refine Joined.never (fun θ hs e => ?_) _
    rw [← eqv θ hs, Ty.sub_node h1, Ty.sub_node h2] at e
    injection e with e
    exact h3 e
theorem joinF_ok (n f : Nat) : JoinOk n (joinF f) := by
  induction f with
  | zero => intro S x y S' b _ _ _ h; cases h
  | succ f ih =>
    intro S x y S' b g hx hy h
    unfold joinF at h
    have rx := rootD_root g.acy x
    have ry := rootD_root g.acy y
    exact (joinR_ok ih g (rx.fit g hx) (ry.fit g hy) rx.last ry.last h).of fun θ hs => by rw [rx.sub hs, ry.sub hs]
end Go.Proofs.Ytkjjbackkipfdaa
