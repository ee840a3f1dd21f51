/- The reference's joining of cells. In plain Lean; no program in sight. -/
import Derived.Test.YtkjjbackkipfdaaPureU4
namespace Go.Proofs.Ytkjjbackkipfdaa

open Classical in
/-- A cell's root. -/
noncomputable def findD (L : Cs) (i : Nat) : Nat := if h : ∃ r, Find L i r then h.choose else i
theorem findD_eq {L : Cs} {i r : Nat} (h : Find L i r) : findD L i = r := by
  unfold findD
  have hx : ∃ r, Find L i r := ⟨r, h⟩
  rw [dif_pos hx]
  exact hx.choose_spec.det h
theorem findD_find {L : Cs} (w : Wf L) {i : Nat} (h : i < L.length) : Find L i (findD L i) := by
  obtain ⟨r, hr⟩ := w.find i h
  rw [findD_eq hr]
  exact hr
def joinsC (J : Cs → Nat → Nat → Option (Cs × Bool)) : Cs → List Nat → List Nat → Option (Cs × Bool)
  | L, [], _ => some (L, true)
  | _, _ :: _, [] => none
  | L, x :: l, y :: l' => (J L x y).bind fun r => if r.2 then joinsC J r.1 l l' else some (r.1, false)
/-- Two roots. -/
def joinCR (J : Cs → Nat → Nat → Option (Cs × Bool)) (L : Cs) (x y : Nat) (c d : Cel) : Option (Cs × Bool) :=
  if x = y then some (L, true)
  else if c.kind = 0 ∧ d.kind = 0 then (if c.var < d.var then some (leadC L y x, true) else some (leadC L x y, true))
  else if c.kind = 0 then some (leadC L x y, true)
  else if d.kind = 0 then some (leadC L y x, true)
  else if c.kind ≠ d.kind then some (L, false)
  else joinsC J (leadC L x y) c.kids d.kids
noncomputable def joinC : Nat → Cs → Nat → Nat → Option (Cs × Bool)
  | 0, _, _, _ => none
  | f + 1, L, x, y => match L[findD L x]?, L[findD L y]? with
    | some c, some d => joinCR (joinC f) L (findD L x) (findD L y) c d
    | _, _ => none

/-- Cells and variables as they should be. -/
structure GoodC (vs : List Nat) (L : Cs) : Prop where
  wf : Wf L
  inn : ∀ (v i : Nat), vs[v]? = some i → i < L.length
  least : Least vs L
/-- What joining does. -/
structure JoinedC (vs : List Nat) (L : Cs) (E : (Nat → Ty) → Prop) (L' : Cs) (b : Bool) : Prop where
  good : b = true → GoodC vs L'
  yes : b = true → ∀ φ, Okc φ L' ↔ Okc φ L ∧ E φ
  no : b = false → ∀ φ, Okc φ L → ¬ E φ
  kinds : SameKinds L L'
  less : roots L' ≤ roots L
theorem JoinedC.of {vs : List Nat} {L : Cs} {E E' : (Nat → Ty) → Prop} (he : ∀ φ, Okc φ L → (E φ ↔ E' φ)) {L' : Cs} {b : Bool} (h : JoinedC vs L E L' b) : JoinedC vs L E' L' b :=
  ⟨h.good, fun e φ => ⟨fun hs => by have := (h.yes e φ).1 hs; exact ⟨this.1, (he φ this.1).1 this.2⟩, fun hs => (h.yes e φ).2 ⟨hs.1, (he φ hs.1).2 hs.2⟩⟩, fun e φ hs hE => h.no e φ hs ((he φ hs).2 hE), h.kinds, h.less⟩
def JoinOkC (vs : List Nat) (J : Cs → Nat → Nat → Option (Cs × Bool)) : Prop :=
  ∀ L x y L' b, GoodC vs L → x < L.length → y < L.length → J L x y = some (L', b) → JoinedC vs L (fun φ => φ x = φ y) L' b
theorem joinsC_ok {vs : List Nat} {J : Cs → Nat → Nat → Option (Cs × Bool)} (hJ : JoinOkC vs J) (l : List Nat) : ∀ (l' : List Nat) (L L' : Cs) (b : Bool), GoodC vs L → (∀ k, k ∈ l → k < L.length) → (∀ k, k ∈ l' → k < L.length) → l.length = l'.length → joinsC J L l l' = some (L', b) →
    JoinedC vs L (fun φ => l.map φ = l'.map φ) L' b := by
  induction l with
  | nil =>
    intro l' L L' b g _ _ hl h
    simp only [joinsC, Option.some.injEq, Prod.mk.injEq] at h
    obtain ⟨rfl, rfl⟩ := h
    have : l' = [] := List.eq_nil_of_length_eq_zero hl.symm
    subst this
    exact ⟨fun _ => g, fun _ φ => ⟨fun h => ⟨h, rfl⟩, fun h => h.1⟩, (fun e => by cases e), SameKinds.refl L, Nat.le_refl _⟩
  | cons x l ih =>
    intro l' L L' b g hf hf' hl h
    cases l' with
    | nil => simp at hl
    | cons y l' =>
      simp only [joinsC] at h
      cases hj : J L x y with
      | none => rw [hj] at h; cases h
      | some r =>
        obtain ⟨L1, b1⟩ := r
        rw [hj] at h
        simp only [Option.bind_some] at h
        have k1 := hJ L x y L1 b1 g (hf x (by simp)) (hf' y (by simp)) hj
        cases b1 with
        | false =>
          simp at h
          obtain ⟨rfl, rfl⟩ := h
          exact ⟨(fun e => by cases e), (fun e => by cases e), fun _ φ hs e => by
            simp only [List.map_cons, List.cons.injEq] at e
            exact k1.no rfl φ hs e.1, k1.kinds, k1.less⟩
        | true =>
          simp only [if_true] at h
          have hlen := k1.kinds.1
          have k2 := ih l' L1 L' b (k1.good rfl) (fun t ht => by rw [hlen]; exact hf t (by simp [ht])) (fun t ht => by rw [hlen]; exact hf' t (by simp [ht])) (by simpa using hl) h
          refine ⟨k2.good, fun e φ => ?_, fun e φ hs he => ?_, k1.kinds.trans k2.kinds, Nat.le_trans k2.less k1.less⟩
          · rw [k2.yes e, k1.yes rfl]
            simp only [List.map_cons, List.cons.injEq]
            exact and_assoc
          · simp only [List.map_cons, List.cons.injEq] at he
            exact k2.no e φ ((k1.yes rfl φ).2 ⟨hs, he.1⟩) he.2
theorem GoodC.lead {vs : List Nat} {L : Cs} (g : GoodC vs L) {x y : Nat} {c d : Cel} (hx : L[x]? = some c) (hcx : c.to < 0) (hy : L[y]? = some d) (hdy : d.to < 0) (hne : x ≠ y) (hk : d.kind = 0 → c.kind = 0 ∧ d.var ≤ c.var) : GoodC vs (leadC L x y) :=
  ⟨g.wf.lead hx hcx hy hdy hne, fun v i e => by rw [lead_length]; exact g.inn v i e, g.least.lead g.wf g.inn hx hcx hy hdy hne hk⟩
/-- A cell that is open leads to another one. -/
theorem lead_ok {vs : List Nat} {L : Cs} (g : GoodC vs L) {x y : Nat} {c d : Cel} (hx : L[x]? = some c) (hcx : c.to < 0) (hy : L[y]? = some d) (hdy : d.to < 0) (hne : x ≠ y) (hk : d.kind = 0 → c.kind = 0 ∧ d.var ≤ c.var) (h0 : c.kind = 0) :
    JoinedC vs L (fun φ => φ x = φ y) (leadC L x y) true :=
  ⟨fun _ => g.lead hx hcx hy hdy hne hk, fun _ φ => by
    rw [okc_lead hx, okc_split hx]
    have : OkAt φ x c := ⟨fun j hj => by omega, fun _ h => absurd h0 h⟩
    exact ⟨fun h => ⟨⟨h.1, this⟩, h.2⟩, fun h => ⟨h.1.1, h.2⟩⟩, (fun e => by cases e), lead_kinds hx y, Nat.le_of_lt (roots_lead hx hcx y)⟩
theorem joinCR_ok {vs : List Nat} {J : Cs → Nat → Nat → Option (Cs × Bool)} (hJ : JoinOkC vs J) {L : Cs} (g : GoodC vs L) {x y : Nat} {c d : Cel} (hx : L[x]? = some c) (hcx : c.to < 0) (hy : L[y]? = some d) (hdy : d.to < 0) {L' : Cs} {b : Bool} (h : joinCR J L x y c d = some (L', b)) :
    JoinedC vs L (fun φ => φ x = φ y) L' b := by
  unfold joinCR at h
  by_cases hne : x = y
  · rw [if_pos hne] at h
    cases h
    exact ⟨fun _ => g, fun _ φ => ⟨fun h => ⟨h, by rw [hne]⟩, fun h => h.1⟩, (fun e => by cases e), SameKinds.refl L, Nat.le_refl _⟩
  rw [if_neg hne] at h
  have sym : ∀ {L' b}, JoinedC vs L (fun φ => φ y = φ x) L' b → JoinedC vs L (fun φ => φ x = φ y) L' b := fun h => h.of fun φ _ => eq_comm
  by_cases h00 : c.kind = 0 ∧ d.kind = 0
  · rw [if_pos h00] at h
    split at h
    · rename_i hlt
      cases h
      exact sym (lead_ok g hy hdy hx hcx (fun e => hne e.symm) (fun _ => ⟨h00.2, by omega⟩) h00.2)
    · cases h
      exact lead_ok g hx hcx hy hdy hne (fun _ => ⟨h00.1, by omega⟩) h00.1
  rw [if_neg h00] at h
  by_cases hc0 : c.kind = 0
  · rw [if_pos hc0] at h
    cases h
    exact lead_ok g hx hcx hy hdy hne (fun e => absurd ⟨hc0, e⟩ h00) hc0
  rw [if_neg hc0] at h
  by_cases hd0 : d.kind = 0
  · rw [if_pos hd0] at h
    cases h
    exact sym (lead_ok g hy hdy hx hcx (fun e => hne e.symm) (fun e => absurd e hc0) hd0)
  rw [if_neg hd0] at h
  by_cases hk : c.kind = d.kind
  · rw [if_neg (by simpa using hk)] at h
    have g1 := g.lead hx hcx hy hdy hne (fun e => absurd e hd0)
    have hlen : c.kids.length = d.kids.length := by
      have h1 := (g.wf.kind x c hx hc0).1
      have h2 := (g.wf.kind y d hy hd0).1
      rw [hk] at h1
      omega
    have k := joinsC_ok hJ c.kids d.kids _ L' b g1 (fun j hj => by rw [lead_length]; exact g.wf.kids x c hx j hj) (fun j hj => by rw [lead_length]; exact g.wf.kids y d hy j hj) hlen h
    have eqv : ∀ φ, Okc φ (leadC L x y) ∧ c.kids.map φ = d.kids.map φ ↔ Okc φ L ∧ φ x = φ y := by
      intro φ
      rw [okc_lead hx, okc_split hx]
      constructor
      · rintro ⟨⟨h1, h2⟩, h3⟩
        have hy' := (h1 y d (fun e => hne e.symm) hy).2 hdy hd0
        exact ⟨⟨h1, fun j hj => by omega, fun _ _ => by rw [h2, hy', hk, h3]⟩, h2⟩
      · rintro ⟨⟨h1, h2⟩, h3⟩
        have hy' := (h1 y d (fun e => hne e.symm) hy).2 hdy hd0
        have hx' := h2.2 hcx hc0
        rw [hx', hy'] at h3
        injection h3 with _ _ h3'
        exact ⟨⟨h1, by rw [hx', hy', hk, h3']⟩, h3'⟩
    refine ⟨k.good, fun e φ => by rw [k.yes e]; exact eqv φ, fun e φ hs he => ?_, (lead_kinds hx y).trans k.kinds, ?_⟩
    · have := (eqv φ).2 ⟨hs, he⟩
      exact k.no e φ this.1 this.2
    · have := roots_lead hx hcx y
      have := k.less
      omega
  · rw [if_pos hk] at h
    cases h
    refine ⟨(fun e => by cases e), (fun e => by cases e), fun _ φ hs e => ?_, SameKinds.refl L, Nat.le_refl _⟩
    have h1 := (hs x c hx).2 hcx hc0
    have h2 := (hs y d hy).2 hdy hd0
    rw [h1, h2] at e
    injection e with e
    exact hk e
theorem joinC_ok (vs : List Nat) (f : Nat) : JoinOkC vs (joinC f) := by
  induction f with
  | zero => intro L x y L' b _ _ _ h; cases h
  | succ f ih =>
    intro L x y L' b g hx hy h
    have fx := findD_find g.wf hx
    have fy := findD_find g.wf hy
    obtain ⟨c, ec, hc⟩ := fx.root
    obtain ⟨d, ed, hd⟩ := fy.root
    simp only [joinC, ec, ed] at h
    exact (joinCR_ok ih g ec hc ed hd h).of fun φ hs => by rw [fx.okc hs, fy.okc hs]
theorem joinC_total (vs : List Nat) : ∀ (m : Nat) (L : Cs) (x y : Nat), GoodC vs L → x < L.length → y < L.length → roots L ≤ m → ∃ r, joinC (m + 1) L x y = some r := by
  intro m
  induction m with
  | zero =>
    intro L x y g hx hy hm
    obtain ⟨c, ec, hc⟩ := (findD_find g.wf hx).root
    have := roots_lead ec hc (findD L x)
    omega
  | succ m ih =>
    intro L x y g hx hy hm
    have fx := findD_find g.wf hx
    have fy := findD_find g.wf hy
    obtain ⟨c, ec, hc⟩ := fx.root
    obtain ⟨d, ed, hd⟩ := fy.root
    unfold joinC
    rw [ec, ed]
    simp only
    unfold joinCR
    by_cases hne : findD L x = findD L y
    · rw [if_pos hne]; exact ⟨_, rfl⟩
    rw [if_neg hne]
    by_cases h00 : c.kind = 0 ∧ d.kind = 0
    · rw [if_pos h00]; split <;> exact ⟨_, rfl⟩
    rw [if_neg h00]
    by_cases hc0 : c.kind = 0
    · rw [if_pos hc0]; exact ⟨_, rfl⟩
    rw [if_neg hc0]
    by_cases hd0 : d.kind = 0
    · rw [if_pos hd0]; exact ⟨_, rfl⟩
    rw [if_neg hd0]
    by_cases hk : c.kind = d.kind
    · rw [if_neg (by simpa using hk)]
      have g1 := g.lead ec hc ed hd hne (fun e => absurd e hd0)
      have hlen : c.kids.length = d.kids.length := by
        have h1 := (g.wf.kind _ c ec hc0).1
        have h2 := (g.wf.kind _ d ed hd0).1
        rw [hk] at h1
        omega
      have hr := roots_lead ec hc (findD L y)
      have key : ∀ (l l' : List Nat) (L1 : Cs), GoodC vs L1 → roots L1 ≤ m → l.length = l'.length → (∀ k, k ∈ l → k < L1.length) → (∀ k, k ∈ l' → k < L1.length) → ∃ r, joinsC (joinC (m + 1)) L1 l l' = some r := by
        intro l
        induction l with
        | nil => intro l' L1 _ _ _ _ _; exact ⟨_, rfl⟩
        | cons a l ihl =>
          intro l' L1 g1 hr1 hl ha hb
          cases l' with
          | nil => simp at hl
          | cons a' l' =>
            obtain ⟨⟨L2, b⟩, e⟩ := ih L1 a a' g1 (ha a (by simp)) (hb a' (by simp)) hr1
            simp only [joinsC]
            rw [e]
            simp only [Option.bind_some]
            cases b with
            | false => exact ⟨_, rfl⟩
            | true =>
              have k := joinC_ok vs (m + 1) L1 a a' L2 true g1 (ha a (by simp)) (hb a' (by simp)) e
              exact ihl l' L2 (k.good rfl) (Nat.le_trans k.less hr1) (by simpa using hl) (fun j hj => by rw [k.kinds.1]; exact ha j (by simp [hj])) (fun j hj => by rw [k.kinds.1]; exact hb j (by simp [hj]))
      exact key _ _ _ g1 (by omega) hlen (fun j hj => by rw [lead_length]; exact g.wf.kids _ c ec j hj) (fun j hj => by rw [lead_length]; exact g.wf.kids _ d ed j hj)
    · rw [if_pos hk]; exact ⟨_, rfl⟩
end Go.Proofs.Ytkjjbackkipfdaa
