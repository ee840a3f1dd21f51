/- The reference's laying of types, and its look for ways that come round. In plain Lean; no program in sight. -/
import Derived.Test.YtkjjbackkipfdaaPureU5
namespace Go.Proofs.Ytkjjbackkipfdaa

theorem Find.append {L : Cs} (e : Cs) {i r : Nat} (h : Find L i r) : Find (L ++ e) i r := by
  induction h with
  | here g h => exact .here (by rw [List.getElem?_append_left (lt_of_some g)]; exact g) h
  | step g h _ ih => exact .step (by rw [List.getElem?_append_left (lt_of_some g)]; exact g) h ih
mutual
/-- The cell of a type. -/
def layT (vs : List Nat) : Cs → Ty → Cs × Nat
  | L, .mk k n l => if k = 5 then (L, vs.getD n.toNat 0) else ((laysT vs L l).1 ++ [⟨-1, k, (laysT vs L l).2, 0⟩], (laysT vs L l).1.length)
def laysT (vs : List Nat) : Cs → List Ty → Cs × List Nat
  | L, [] => (L, [])
  | L, t :: l => ((laysT vs (layT vs L t).1 l).1, (layT vs L t).2 :: (laysT vs (layT vs L t).1 l).2)
end
theorem laysT_succ (vs : List Nat) (l : List Ty) : ∀ (i : Nat) (t : Ty) (L : Cs), l[i]? = some t → laysT vs L (l.take (i + 1)) = ((layT vs (laysT vs L (l.take i)).1 t).1, (laysT vs L (l.take i)).2 ++ [(layT vs (laysT vs L (l.take i)).1 t).2]) := by
  induction l with
  | nil => intro i t L h; simp at h
  | cons x l ih =>
    intro i t L h
    cases i with
    | zero => simp at h; subst h; simp [laysT]
    | succ i => simp only [List.take_succ_cons, laysT]; rw [ih i t _ (by simpa using h)]; simp
/-- The cells of a row of variables, as types' variables ask for them. -/
def at_ (vs : List Nat) (v : Int) : Nat := vs.getD v.toNat 0
/-- Variables' own cells. -/
def Lab (vs : List Nat) (L : Cs) : Prop := ∀ (i : Nat) (c : Cel), L[i]? = some c → c.kind = 0 → vs[c.var]? = some i
/-- What laying does. -/
structure Laid (vs : List Nat) (L L' : Cs) : Prop where
  ext : ∃ e : Cs, L' = L ++ e ∧ ∀ c, c ∈ e → c.kind ≠ 0
  good : GoodC vs L'
  lab : Lab vs L'
  down : ∀ φ, Okc φ L' → Okc φ L
  up : ∀ φ, Okc φ L → ∃ φ', Okc φ' L' ∧ ∀ i, i < L.length → φ' i = φ i
theorem Laid.refl {vs : List Nat} {L : Cs} (g : GoodC vs L) (h : Lab vs L) : Laid vs L L := ⟨⟨[], by simp, by simp⟩, g, h, fun _ h => h, fun φ h => ⟨φ, h, fun _ _ => rfl⟩⟩
theorem Laid.le {vs : List Nat} {L L' : Cs} (h : Laid vs L L') : L.length ≤ L'.length := by
  obtain ⟨e, rfl, _⟩ := h.ext
  simp
theorem Laid.trans {vs : List Nat} {A B C : Cs} (h : Laid vs A B) (k : Laid vs B C) : Laid vs A C := by
  refine ⟨?_, k.good, k.lab, fun φ hφ => h.down φ (k.down φ hφ), fun φ hφ => ?_⟩
  · obtain ⟨e, rfl, h1⟩ := h.ext
    obtain ⟨e', rfl, h2⟩ := k.ext
    exact ⟨e ++ e', by simp, fun c hc => by rcases List.mem_append.1 hc with hc | hc; exact h1 c hc; exact h2 c hc⟩
  · obtain ⟨φ1, a1, a2⟩ := h.up φ hφ
    obtain ⟨φ2, b1, b2⟩ := k.up φ1 a1
    exact ⟨φ2, b1, fun i hi => by rw [b2 i (Nat.lt_of_lt_of_le hi h.le), a2 i hi]⟩
/-- One cell more, that is no variable's. -/
theorem Laid.one {vs : List Nat} {L : Cs} (g : GoodC vs L) (hl : Lab vs L) {k : Int} {kids : List Nat} (hk : k ≠ 0) (h5 : k ≠ 5) (ha : arity k = kids.length) (hin : ∀ j, j ∈ kids → j < L.length) : Laid vs L (L ++ [⟨-1, k, kids, 0⟩]) := by
  have old : ∀ (i : Nat) (c : Cel), (L ++ [⟨-1, k, kids, 0⟩])[i]? = some c → L[i]? = some c ∨ (i = L.length ∧ c = ⟨-1, k, kids, 0⟩) := by
    intro i c e
    rcases Nat.lt_or_ge i L.length with h | h
    · rw [List.getElem?_append_left h] at e; exact .inl e
    · rw [List.getElem?_append_right h] at e
      cases hi : i - L.length with
      | zero => rw [hi] at e; simp at e; exact .inr ⟨by omega, e.symm⟩
      | succ m => rw [hi] at e; simp at e
  have new : (L ++ [(⟨-1, k, kids, 0⟩ : Cel)])[L.length]? = some ⟨-1, k, kids, 0⟩ := by rw [List.getElem?_append_right (Nat.le_refl _)]; simp
  refine ⟨⟨_, rfl, by simpa using hk⟩, ⟨⟨fun i c e => ?_, fun i c e j hj => ?_, fun i c e => ?_, fun i hi => ?_, fun i c e h0 => ?_⟩, fun v i e => ?_, fun v i r c e hr ec h0 => ?_⟩, fun i c e h0 => ?_, fun φ h i c e => ?_, fun φ h => ?_⟩
  · rcases old i c e with e | ⟨rfl, rfl⟩
    · have := g.wf.to i c e; simp; omega
    · simp; omega
  · rcases old i c e with e | ⟨rfl, rfl⟩
    · have := g.wf.kids i c e j hj; simp; omega
    · have := hin j hj; simp; omega
  · rcases old i c e with e | ⟨rfl, rfl⟩
    · exact g.wf.kind i c e
    · exact fun _ => ⟨ha, h5⟩
  · rcases Nat.lt_or_ge i L.length with h | h
    · obtain ⟨r, hr⟩ := g.wf.find i h
      exact ⟨r, hr.append _⟩
    · have : i = L.length := by simp at hi; omega
      subst this
      exact ⟨_, .here new (by simp)⟩
  · rcases old i c e with e | ⟨rfl, rfl⟩
    · exact g.wf.bare i c e h0
    · exact absurd h0 hk
  · have := g.inn v i e; simp; omega
  · obtain ⟨r0, hr0⟩ := g.wf.find i (g.inn v i e)
    have := hr.det (hr0.append _)
    subst this
    rcases old r c ec with ec | ⟨rfl, rfl⟩
    · exact g.least v i r c e hr0 ec h0
    · exact absurd h0 hk
  · rcases old i c e with e | ⟨rfl, rfl⟩
    · exact hl i c e h0
    · exact absurd h0 hk
  · exact h i c (by rw [List.getElem?_append_left (lt_of_some e)]; exact e)
  · have agree : ∀ i, i < L.length → (fun i => if i = L.length then Ty.mk k 0 (kids.map φ) else φ i) i = φ i := fun i hi => by simp only; rw [if_neg (by omega)]
    refine ⟨fun i => if i = L.length then .mk k 0 (kids.map φ) else φ i, fun i c e => ?_, agree⟩
    rcases old i c e with e | ⟨rfl, rfl⟩
    · have hi := lt_of_some e
      refine ⟨fun j hj => ?_, fun h1 h2 => ?_⟩
      · have := g.wf.to i c e
        rw [agree i hi, agree j (by omega)]
        exact (h i c e).1 j hj
      · rw [agree i hi, (h i c e).2 h1 h2]
        congr 1
        exact List.map_congr_left fun j hj => (agree j (g.wf.kids i c e j hj)).symm
    · refine ⟨fun j hj => by simp at hj, fun _ _ => ?_⟩
      simp only [if_true]
      congr 1
      exact List.map_congr_left fun j hj => (agree j (hin j hj)).symm
theorem lay_ok (vs : List Nat) (t : Ty) : ∀ (L : Cs), GoodC vs L → Lab vs L → Fit vs.length t → Laid vs L (layT vs L t).1 ∧ (layT vs L t).2 < (layT vs L t).1.length ∧ ∀ φ, Okc φ (layT vs L t).1 → φ (layT vs L t).2 = t.sub fun v => φ (at_ vs v) := by
  induction t using Ty.ind with
  | h k n l ih =>
    intro L g hl hf
    by_cases h5 : k = 5
    · subst h5
      have hr := hf.range (by rfl)
      simp only [Ty.var] at hr
      unfold layT
      rw [if_pos rfl]
      refine ⟨Laid.refl g hl, ?_, fun φ _ => by rw [Ty.sub_five]; rfl⟩
      have : n.toNat < vs.length := by omega
      refine g.inn n.toNat _ ?_
      rw [List.getD_eq_getElem?_getD, List.getElem?_eq_getElem this]
      rfl
    · have hk := may_node hf.may
      have key : ∀ (l : List Ty), (∀ t, t ∈ l → ∀ (L : Cs), GoodC vs L → Lab vs L → Fit vs.length t → Laid vs L (layT vs L t).1 ∧ (layT vs L t).2 < (layT vs L t).1.length ∧ ∀ φ, Okc φ (layT vs L t).1 → φ (layT vs L t).2 = t.sub fun v => φ (at_ vs v)) → (∀ t, t ∈ l → Fit vs.length t) → ∀ L, GoodC vs L → Lab vs L →
          Laid vs L (laysT vs L l).1 ∧ (∀ j, j ∈ (laysT vs L l).2 → j < (laysT vs L l).1.length) ∧ (laysT vs L l).2.length = l.length ∧ ∀ φ, Okc φ (laysT vs L l).1 → (laysT vs L l).2.map φ = l.map (Ty.sub fun v => φ (at_ vs v)) := by
        intro l
        induction l with
        | nil => intro _ _ L g hl; exact ⟨Laid.refl g hl, by simp [laysT], rfl, fun _ _ => rfl⟩
        | cons t l ihl =>
          intro ih hf L g hl
          obtain ⟨a1, a2, a3⟩ := ih t (by simp) L g hl (hf t (by simp))
          obtain ⟨b1, b2, b3, b4⟩ := ihl (fun t ht => ih t (by simp [ht])) (fun t ht => hf t (by simp [ht])) _ a1.good a1.lab
          simp only [laysT]
          refine ⟨a1.trans b1, fun j hj => ?_, by simp [b3], fun φ hφ => ?_⟩
          · rcases List.mem_cons.1 hj with rfl | hj
            · exact Nat.lt_of_lt_of_le a2 b1.le
            · exact b2 j hj
          · simp only [List.map_cons]
            rw [a3 φ (b1.down φ hφ), b4 φ hφ]
      obtain ⟨b1, b2, b3, b4⟩ := key l ih (fun t ht => hf.kid (by simpa [Ty.kind] using h5) ht) L g hl
      have h0 : k ≠ 0 := by
        rintro rfl
        have := hk.1
        simp [arity] at this
      have one := Laid.one b1.good b1.lab (k := k) (kids := (laysT vs L l).2) h0 h5 (by rw [b3]; exact hk.1) b2
      unfold layT
      rw [if_neg h5]
      refine ⟨b1.trans one, by simp, fun φ hφ => ?_⟩
      have e : (((laysT vs L l).1 ++ [(⟨-1, k, (laysT vs L l).2, 0⟩ : Cel)]))[(laysT vs L l).1.length]? = some ⟨-1, k, (laysT vs L l).2, 0⟩ := by rw [List.getElem?_append_right (Nat.le_refl _)]; simp
      have := (hφ _ _ e).2 (by simp) h0
      have hn : n = 0 := hf.var_eq (by simpa [Ty.kind] using h5)
      simp only at this ⊢
      rw [this, Ty.sub_other _ h5, b4 φ (one.down φ hφ), hn]
/-- From a root to the roots of its kids. -/
def Kid (L : Cs) (r i : Nat) : Prop := ∃ c, L[i]? = some c ∧ c.to < 0 ∧ c.kind ≠ 0 ∧ ∃ k, k ∈ c.kids ∧ Find L k r
theorem Kid.size {L : Cs} {φ : Nat → Ty} (h : Okc φ L) {r i : Nat} (hk : Kid L r i) : (φ r).size < (φ i).size := by
  obtain ⟨c, e, h1, h2, k, hk, hf⟩ := hk
  rw [(h i c e).2 h1 h2, ← hf.okc h]
  have := Ty.size_mem (c.kids.map φ) (φ k) (List.mem_map.2 ⟨k, hk, rfl⟩)
  simp only [Ty.size]
  omega
theorem Kid.never {L : Cs} {j : Nat} (h : Relation.TransGen (Kid L) j j) : ∀ φ, ¬ Okc φ L := by
  intro φ hφ
  have : ∀ a b, Relation.TransGen (Kid L) a b → (φ a).size < (φ b).size := by
    intro a b h
    induction h with
    | single h => exact h.size hφ
    | tail _ h ih => exact Nat.lt_trans ih (h.size hφ)
  exact Nat.lt_irrefl _ (this j j h)
end Go.Proofs.Ytkjjbackkipfdaa
