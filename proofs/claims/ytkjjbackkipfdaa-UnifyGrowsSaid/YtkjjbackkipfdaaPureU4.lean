/- The reference's cells: laying types, leading cells to others. In plain Lean; no program in sight. -/
import Derived.Test.YtkjjbackkipfdaaPureU3
namespace Go.Proofs.Ytkjjbackkipfdaa

/-- A cell: to which other one it leads, a kind, the cells of its kids, a variable's number. -/
structure Cel where
  to : Int
  kind : Int
  kids : List Nat
  var : Nat
abbrev Cs := List Cel
/-- Where a cell leads to. -/
inductive Find (L : Cs) : Nat → Nat → Prop
  | here {i : Nat} {c : Cel} : L[i]? = some c → c.to < 0 → Find L i i
  | step {i j r : Nat} {c : Cel} : L[i]? = some c → c.to = (j : Int) → Find L j r → Find L i r
theorem Find.det {L : Cs} {i r r' : Nat} (h : Find L i r) (h' : Find L i r') : r = r' := by
  induction h with
  | here e h =>
    cases h' with
    | here => rfl
    | step e' h' => rw [e] at e'; cases e'; omega
  | step e h _ ih =>
    cases h' with
    | here e' h' => rw [e] at e'; cases e'; omega
    | step e' h' hr =>
      rw [e] at e'
      cases e'
      have : (_ : Int) = _ := h.symm.trans h'
      have := Int.ofNat.inj this
      subst this
      exact ih hr
theorem Find.root {L : Cs} {i r : Nat} (h : Find L i r) : ∃ c, L[r]? = some c ∧ c.to < 0 := by
  induction h with
  | here e h => exact ⟨_, e, h⟩
  | step _ _ _ ih => exact ih
theorem Find.self {L : Cs} {i r : Nat} (h : Find L i r) : Find L r r := by
  obtain ⟨c, e, h⟩ := h.root
  exact .here e h
/-- Cells as they should be. -/
structure Wf (L : Cs) : Prop where
  to : ∀ (i : Nat) (c : Cel), L[i]? = some c → c.to < L.length
  kids : ∀ (i : Nat) (c : Cel), L[i]? = some c → ∀ k, k ∈ c.kids → k < L.length
  kind : ∀ (i : Nat) (c : Cel), L[i]? = some c → c.kind ≠ 0 → arity c.kind = c.kids.length ∧ c.kind ≠ 5
  find : ∀ i, i < L.length → ∃ r, Find L i r
  bare : ∀ (i : Nat) (c : Cel), L[i]? = some c → c.kind = 0 → c.kids = []
/-- Trees that fit a cell. -/
def OkAt (φ : Nat → Ty) (i : Nat) (c : Cel) : Prop := (∀ j : Nat, c.to = j → φ i = φ j) ∧ (c.to < 0 → c.kind ≠ 0 → φ i = .mk c.kind 0 (c.kids.map φ))
def Okc (φ : Nat → Ty) (L : Cs) : Prop := ∀ (i : Nat) (c : Cel), L[i]? = some c → OkAt φ i c
theorem Find.okc {L : Cs} {φ : Nat → Ty} (h : Okc φ L) {i r : Nat} (hr : Find L i r) : φ i = φ r := by
  induction hr with
  | here => rfl
  | step e hj _ ih => rw [(h _ _ e).1 _ hj, ih]
/-- A cell leads to another one. -/
def leadC (L : Cs) (x y : Nat) : Cs := match L[x]? with
  | some c => L.set x ⟨y, c.kind, c.kids, c.var⟩
  | none => L
theorem lead_length (L : Cs) (x y : Nat) : (leadC L x y).length = L.length := by
  unfold leadC
  split <;> simp
theorem lead_at {L : Cs} {x : Nat} {c : Cel} (h : L[x]? = some c) (y : Nat) : (leadC L x y)[x]? = some ⟨y, c.kind, c.kids, c.var⟩ := by
  unfold leadC
  rw [h]
  have : x < L.length := by
    rcases Nat.lt_or_ge x L.length with h' | h'
    · exact h'
    · rw [List.getElem?_eq_none h'] at h; cases h
  simp [this]
theorem lead_off {L : Cs} {x i : Nat} (h : i ≠ x) (y : Nat) : (leadC L x y)[i]? = L[i]? := by
  unfold leadC
  split
  · rw [List.getElem?_set]
    rw [if_neg (fun e => h e.symm)]
  · rfl
/-- What a cell is, whatever leads where. -/
def SameKinds (L L' : Cs) : Prop := L'.length = L.length ∧ ∀ (i : Nat) (c : Cel), L'[i]? = some c → ∃ c0 : Cel, L[i]? = some c0 ∧ c.kind = c0.kind ∧ c.kids = c0.kids ∧ c.var = c0.var
theorem SameKinds.refl (L : Cs) : SameKinds L L := ⟨rfl, fun _ c h => ⟨c, h, rfl, rfl, rfl⟩⟩
theorem SameKinds.trans {A B C : Cs} (h : SameKinds A B) (k : SameKinds B C) : SameKinds A C :=
  ⟨k.1.trans h.1, fun i c e => by
    obtain ⟨c1, e1, a1, a2, a3⟩ := k.2 i c e
    obtain ⟨c0, e0, b1, b2, b3⟩ := h.2 i c1 e1
    exact ⟨c0, e0, a1.trans b1, a2.trans b2, a3.trans b3⟩⟩
theorem lead_kinds {L : Cs} {x : Nat} {c : Cel} (h : L[x]? = some c) (y : Nat) : SameKinds L (leadC L x y) := by
  refine ⟨lead_length L x y, fun i d e => ?_⟩
  by_cases hi : i = x
  · subst hi; rw [lead_at h] at e; cases e; exact ⟨c, h, rfl, rfl, rfl⟩
  · rw [lead_off hi] at e; exact ⟨d, e, rfl, rfl, rfl⟩
theorem lt_of_some {α : Type} {L : List α} {i : Nat} {c : α} (h : L[i]? = some c) : i < L.length := by
  rcases Nat.lt_or_ge i L.length with h' | h'
  · exact h'
  · rw [List.getElem?_eq_none h'] at h; cases h
/-- Where cells lead to, behind that. -/
theorem Find.lead {L : Cs} {x y : Nat} {c d : Cel} (hx : L[x]? = some c) (hcx : c.to < 0) (hy : L[y]? = some d) (hdy : d.to < 0) (hne : x ≠ y) {i r : Nat} (h : Find L i r) : Find (leadC L x y) i (if r = x then y else r) := by
  have fy : Find (leadC L x y) y y := .here (by rw [lead_off (fun e => hne e.symm)]; exact hy) hdy
  induction h with
  | @here i c' e h =>
    by_cases hi : i = x
    · rw [if_pos hi]
      subst hi
      exact .step (lead_at hx y) rfl fy
    · rw [if_neg hi]
      exact .here (by rw [lead_off hi]; exact e) h
  | @step i j r c' e hj _ ih =>
    have hi : i ≠ x := by rintro rfl; rw [hx] at e; cases e; omega
    exact .step (by rw [lead_off hi]; exact e) hj ih
theorem Wf.lead {L : Cs} (w : Wf L) {x y : Nat} {c d : Cel} (hx : L[x]? = some c) (hcx : c.to < 0) (hy : L[y]? = some d) (hdy : d.to < 0) (hne : x ≠ y) : Wf (leadC L x y) := by
  have hyl := lt_of_some hy
  refine ⟨fun i c' e => ?_, fun i c' e k hk => ?_, fun i c' e => ?_, fun i hi => ?_, fun i c' e => ?_⟩
  · rw [lead_length]
    by_cases hi : i = x
    · subst hi; rw [lead_at hx] at e; cases e; simp only; omega
    · rw [lead_off hi] at e; exact w.to i c' e
  · rw [lead_length]
    obtain ⟨c0, e0, _, h2, _⟩ := (lead_kinds hx y).2 i c' e
    exact w.kids i c0 e0 k (h2 ▸ hk)
  · obtain ⟨c0, e0, h1, h2, _⟩ := (lead_kinds hx y).2 i c' e
    rw [h1, h2]
    exact w.kind i c0 e0
  · rw [lead_length] at hi
    obtain ⟨r, h⟩ := w.find i hi
    exact ⟨_, h.lead hx hcx hy hdy hne⟩
  · obtain ⟨c0, e0, h1, h2, _⟩ := (lead_kinds hx y).2 i c' e
    rw [h1, h2]
    exact w.bare i c0 e0
/-- How many cells lead to none. -/
def roots (L : Cs) : Nat := (L.filter fun c => decide (c.to < 0)).length
theorem roots_set (L : Cs) : ∀ (x : Nat) (c c' : Cel), L[x]? = some c → c.to < 0 → 0 ≤ c'.to → roots (L.set x c') < roots L := by
  unfold roots
  induction L with
  | nil => intro x c c' h; simp at h
  | cons a L ih =>
    intro x c c' h h1 h2
    cases x with
    | zero =>
      simp at h
      subst h
      have e1 : decide (a.to < 0) = true := by simpa using h1
      have e2 : decide (c'.to < 0) = false := by simpa using h2
      simp [e1, e2]
    | succ x =>
      have := ih x c c' (by simpa using h) h1 h2
      simp only [List.set_cons_succ, List.filter_cons]
      split <;> simp <;> omega
theorem roots_lead {L : Cs} {x : Nat} {c : Cel} (hx : L[x]? = some c) (hcx : c.to < 0) (y : Nat) : roots (leadC L x y) < roots L := by
  unfold leadC
  rw [hx]
  exact roots_set L x c _ hx hcx (by simp)

/-- Trees that fit, behind a lead. -/
theorem okc_lead {L : Cs} {φ : Nat → Ty} {x y : Nat} {c : Cel} (hx : L[x]? = some c) : Okc φ (leadC L x y) ↔ (∀ (i : Nat) (d : Cel), i ≠ x → L[i]? = some d → OkAt φ i d) ∧ φ x = φ y := by
  constructor
  · intro h
    exact ⟨fun i d hi e => h i d (by rw [lead_off hi]; exact e), (h x _ (lead_at hx y)).1 y rfl⟩
  · rintro ⟨h, he⟩ i d e
    by_cases hi : i = x
    · subst hi
      rw [lead_at hx] at e
      cases e
      refine ⟨fun j hj => ?_, fun h => ?_⟩
      · simp only at hj
        have := Int.ofNat.inj hj
        subst this
        exact he
      · simp only at h; omega
    · rw [lead_off hi] at e
      exact h i d hi e
theorem okc_split {L : Cs} {φ : Nat → Ty} {x : Nat} {c : Cel} (hx : L[x]? = some c) : Okc φ L ↔ (∀ (i : Nat) (d : Cel), i ≠ x → L[i]? = some d → OkAt φ i d) ∧ OkAt φ x c := by
  constructor
  · intro h
    exact ⟨fun i d _ e => h i d e, h x c hx⟩
  · rintro ⟨h, hc⟩ i d e
    by_cases hi : i = x
    · subst hi; rw [hx] at e; cases e; exact hc
    · exact h i d hi e
/-- Of two variables that are the same the least one is told. -/
def Least (vs : List Nat) (L : Cs) : Prop := ∀ (v i r : Nat) (c : Cel), vs[v]? = some i → Find L i r → L[r]? = some c → c.kind = 0 → c.var ≤ v
theorem Least.lead {vs : List Nat} {L : Cs} (w : Wf L) (h : Least vs L) (hv : ∀ (v i : Nat), vs[v]? = some i → i < L.length) {x y : Nat} {c d : Cel} (hx : L[x]? = some c) (hcx : c.to < 0) (hy : L[y]? = some d) (hdy : d.to < 0) (hne : x ≠ y) (hk : d.kind = 0 → c.kind = 0 ∧ d.var ≤ c.var) : Least vs (leadC L x y) := by
  intro v i r e hvi hr he h0
  obtain ⟨r0, hr0⟩ := w.find i (hv v i hvi)
  have := hr.det (hr0.lead hx hcx hy hdy hne)
  subst this
  by_cases h1 : r0 = x
  · rw [if_pos h1] at he
    rw [lead_off (fun e => hne e.symm), hy] at he
    cases he
    subst h1
    have k := hk h0
    exact Nat.le_trans k.2 (h v i r0 c hvi hr0 hx k.1)
  · rw [if_neg h1] at he
    rw [lead_off h1] at he
    exact h v i r0 e hvi hr0 he h0
end Go.Proofs.Ytkjjbackkipfdaa
