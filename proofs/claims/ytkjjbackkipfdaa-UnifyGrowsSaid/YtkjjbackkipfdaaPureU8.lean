/- The reference's books: rows of types, senses. In plain Lean; no program in sight. -/
import Derived.Test.YtkjjbackkipfdaaPureU7
namespace Go.Proofs.Ytkjjbackkipfdaa

/-- The ways to fill the variables that fit some cells. -/
def URef (vs : List Nat) (L : Cs) (θ : Int → Ty) : Prop := ∃ φ, Okc φ L ∧ ∀ v i : Nat, vs[v]? = some i → φ i = θ v
/-- A book of the reference. -/
structure RefOk (vs : List Nat) (L : Cs) : Prop where
  good : GoodC vs L
  lab : Lab vs L
  trees : ∃ φ, Trees φ L
theorem at_some {vs : List Nat} {v : Int} (h0 : 0 ≤ v) (h : v < vs.length) : vs[v.toNat]? = some (at_ vs v) := by
  unfold at_
  rw [List.getD_eq_getElem?_getD, List.getElem?_eq_getElem (by omega)]
  rfl
theorem sub_at {vs : List Nat} {φ : Nat → Ty} {θ : Int → Ty} (h : ∀ v i : Nat, vs[v]? = some i → φ i = θ v) {t : Ty} (hf : Fit vs.length t) : (t.sub fun v => φ (at_ vs v)) = t.sub θ := by
  refine Ty.sub_congr t fun u hu => ?_
  have h0 := may_vs t hf.may u hu
  have h1 := hf.lt u hu
  have := h u.toNat _ (at_some h0 h1)
  rw [show ((u.toNat : Nat) : Int) = u from by omega] at this
  exact this
theorem Lab.kinds {vs : List Nat} {L L' : Cs} (h : Lab vs L) (k : SameKinds L L') : Lab vs L' := by
  intro i c e h0
  obtain ⟨c0, e0, h1, _, h3⟩ := k.2 i c e
  rw [h3]
  exact h i c0 e0 (h1 ▸ h0)
/-- Two cells are the same. -/
noncomputable def joinCD (L : Cs) (x y : Nat) : Cs × Bool := (joinC (roots L + 1) L x y).getD (L, false)
theorem joinCD_some {vs : List Nat} {L : Cs} {x y : Nat} (g : GoodC vs L) (hx : x < L.length) (hy : y < L.length) : joinC (roots L + 1) L x y = some (joinCD L x y) := by
  obtain ⟨r, h⟩ := joinC_total vs (roots L) L x y g hx hy (Nat.le_refl _)
  unfold joinCD
  rw [h]
  rfl
theorem joinCD_ok {vs : List Nat} {L : Cs} {x y : Nat} (g : GoodC vs L) (hx : x < L.length) (hy : y < L.length) : JoinedC vs L (fun φ => φ x = φ y) (joinCD L x y).1 (joinCD L x y).2 :=
  joinC_ok vs _ L x y _ _ g hx hy (joinCD_some g hx hy)
noncomputable def rowC (vs : List Nat) (first : Nat) : Cs → List Ty → Cs × Bool
  | L, [] => (L, true)
  | L, t :: l => if (joinCD (layT vs L t).1 first (layT vs L t).2).2 then rowC vs first (joinCD (layT vs L t).1 first (layT vs L t).2).1 l else ((joinCD (layT vs L t).1 first (layT vs L t).2).1, false)
/-- What a row does. -/
structure RowC (vs : List Nat) (L : Cs) (E : (Int → Ty) → Prop) (L' : Cs) (b : Bool) : Prop where
  good : b = true → GoodC vs L' ∧ Lab vs L' ∧ L.length ≤ L'.length
  yes : b = true → ∀ φ, Okc φ L' → Okc φ L ∧ E fun v => φ (at_ vs v)
  up : b = true → ∀ φ, Okc φ L → (E fun v => φ (at_ vs v)) → ∃ φ', Okc φ' L' ∧ ∀ i, i < L.length → φ' i = φ i
  no : b = false → ∀ φ, Okc φ L → ¬ E fun v => φ (at_ vs v)
theorem rowC_ok {vs : List Nat} {x : Ty} {first : Nat} (hx : Fit vs.length x) (l : List Ty) : ∀ (L : Cs), GoodC vs L → Lab vs L → (∀ t, t ∈ l → Fit vs.length t) → first < L.length → (∀ φ, Okc φ L → φ first = x.sub fun v => φ (at_ vs v)) → RowC vs L (EqTo x l) (rowC vs first L l).1 (rowC vs first L l).2 := by
  induction l with
  | nil =>
    intro L g hl _ _ _
    exact ⟨fun _ => ⟨g, hl, Nat.le_refl _⟩, fun _ φ h => ⟨h, fun t ht => by cases ht⟩, fun _ φ h _ => ⟨φ, h, fun _ _ => rfl⟩, fun h => by cases h⟩
  | cons t l ih =>
    intro L g hl hf hfl hfirst
    obtain ⟨a1, a2, a3⟩ := lay_ok vs t L g hl (hf t (by simp))
    have hfl' := Nat.lt_of_lt_of_le hfl a1.le
    have k := joinCD_ok a1.good hfl' a2
    unfold rowC
    generalize layT vs L t = La at *
    have agree : ∀ φ φ' : Nat → Ty, (∀ i, i < L.length → φ' i = φ i) → ∀ s, Fit vs.length s → (s.sub fun v => φ' (at_ vs v)) = s.sub fun v => φ (at_ vs v) := fun φ φ' h s hs => Ty.sub_congr s fun u hu => h _ (g.inn _ _ (at_some (may_vs s hs.may u hu) (hs.lt u hu)))
    cases hb : (joinCD La.1 first La.2).2 with
    | false =>
      simp only [Bool.false_eq_true, if_false]
      refine ⟨(fun h => by cases h), (fun h => by cases h), (fun h => by cases h), fun _ φ h hE => ?_⟩
      obtain ⟨φ', h1, h2⟩ := a1.up φ h
      refine k.no hb φ' h1 ?_
      rw [hfirst φ' (a1.down φ' h1), a3 φ' h1, agree φ φ' h2 x hx, agree φ φ' h2 t (hf t (by simp))]
      exact hE t (by simp)
    | true =>
      simp only [if_true]
      have hlen := k.kinds.1
      have r := ih _ (k.good hb) (a1.lab.kinds k.kinds) (fun t ht => hf t (by simp [ht])) (by rw [hlen]; exact hfl') (fun φ h => hfirst φ (a1.down φ ((k.yes hb φ).1 h).1))
      refine ⟨fun e => ⟨(r.good e).1, (r.good e).2.1, ?_⟩, fun e φ h => ?_, fun e φ h hE => ?_, fun e φ h hE => ?_⟩
      · have := (r.good e).2.2
        have := a1.le
        omega
      · obtain ⟨h1, h2⟩ := r.yes e φ h
        obtain ⟨h3, h4⟩ := (k.yes hb φ).1 h1
        have h5 := a1.down φ h3
        refine ⟨h5, fun s hs => ?_⟩
        rcases List.mem_cons.1 hs with rfl | hs
        · rw [← hfirst φ h5, ← a3 φ h3, h4]
        · exact h2 s hs
      · obtain ⟨φ1, h1, h2⟩ := a1.up φ h
        have e1 : φ1 first = φ1 La.2 := by
          rw [hfirst φ1 (a1.down φ1 h1), a3 φ1 h1, agree φ φ1 h2 x hx, agree φ φ1 h2 t (hf t (by simp))]
          exact hE t (by simp)
        obtain ⟨φ2, h3, h4⟩ := r.up e φ1 ((k.yes hb φ1).2 ⟨h1, e1⟩) fun s hs => by
          rw [agree φ φ1 h2 x hx, agree φ φ1 h2 s (hf s (by simp [hs]))]
          exact hE s (by simp [hs])
        exact ⟨φ2, h3, fun i hi => by rw [h4 i (by rw [hlen]; exact Nat.lt_of_lt_of_le hi a1.le), h2 i hi]⟩
      · obtain ⟨φ1, h1, h2⟩ := a1.up φ h
        have e1 : φ1 first = φ1 La.2 := by
          rw [hfirst φ1 (a1.down φ1 h1), a3 φ1 h1, agree φ φ1 h2 x hx, agree φ φ1 h2 t (hf t (by simp))]
          exact hE t (by simp)
        exact r.no e φ1 ((k.yes hb φ1).2 ⟨h1, e1⟩) fun s hs => by
          rw [agree φ φ1 h2 x hx, agree φ φ1 h2 s (hf s (by simp [hs]))]
          exact hE s (by simp [hs])
/-- Join, of types that a book knows. -/
noncomputable def joinRef (vs : List Nat) (L : Cs) : List Ty → Cs × Bool
  | [] => (L, true)
  | x :: l => if (rowC vs (layT vs L x).2 (layT vs L x).1 l).2 && (finC (rowC vs (layT vs L x).2 (layT vs L x).1 l).1).getD false then ((rowC vs (layT vs L x).2 (layT vs L x).1 l).1, true) else (L, false)
theorem urefAt {vs : List Nat} {φ : Nat → Ty} {θ : Int → Ty} (h : ∀ v i : Nat, vs[v]? = some i → φ i = θ v) {x : Ty} {l : List Ty} (hx : Fit vs.length x) (hl : ∀ t, t ∈ l → Fit vs.length t) : (EqTo x l fun v => φ (at_ vs v)) ↔ EqTo x l θ := by
  unfold EqTo
  constructor
  · intro h' t ht
    have := h' t ht
    rwa [sub_at h hx, sub_at h (hl t ht)] at this
  · intro h' t ht
    rw [sub_at h hx, sub_at h (hl t ht)]
    exact h' t ht
theorem joinRef_ok {vs : List Nat} {L : Cs} (g : RefOk vs L) (l : List Ty) (hf : ∀ t, t ∈ l → Fit vs.length t) : RefOk vs (joinRef vs L l).1 ∧ ((joinRef vs L l).2 = true → ∀ θ, URef vs (joinRef vs L l).1 θ ↔ URef vs L θ ∧ Eqs l θ) ∧ ((joinRef vs L l).2 = false → (joinRef vs L l).1 = L ∧ ∀ θ, URef vs L θ → ¬ Eqs l θ) := by
  cases l with
  | nil => exact ⟨g, fun _ θ => ⟨fun h => ⟨h, fun s hs => by cases hs⟩, fun h => h.1⟩, fun h => by cases h⟩
  | cons x l =>
    have hx := hf x (by simp)
    have hl : ∀ t, t ∈ l → Fit vs.length t := fun t ht => hf t (by simp [ht])
    obtain ⟨a1, a2, a3⟩ := lay_ok vs x L g.good g.lab hx
    have r := rowC_ok hx l (layT vs L x).1 a1.good a1.lab hl a2 a3
    have inL : ∀ v i : Nat, vs[v]? = some i → i < L.length := g.good.inn
    obtain ⟨L2, b, hrow⟩ : ∃ L2 b, rowC vs (layT vs L x).2 (layT vs L x).1 l = (L2, b) := ⟨_, _, rfl⟩
    unfold joinRef
    simp only
    rw [hrow] at r ⊢
    simp only at r ⊢
    have up : ∀ θ, URef vs L θ → Eqs (x :: l) θ → ∃ φ, Okc φ (layT vs L x).1 ∧ (∀ v i : Nat, vs[v]? = some i → φ i = θ v) ∧ EqTo x l fun v => φ (at_ vs v) := by
      rintro θ ⟨φ, h1, h2⟩ hE
      obtain ⟨φ', h3, h4⟩ := a1.up φ h1
      have h5 : ∀ v i : Nat, vs[v]? = some i → φ' i = θ v := fun v i e => by rw [h4 i (inL v i e), h2 v i e]
      exact ⟨φ', h3, h5, (urefAt h5 hx hl).2 ((eqs_to x l θ).1 hE)⟩
    cases b with
    | false =>
      simp only [Bool.false_and, Bool.false_eq_true, if_false]
      refine ⟨g, (fun h => by cases h), fun _ => ⟨by trivial, fun θ h hE => ?_⟩⟩
      obtain ⟨φ, h1, h2, h3⟩ := up θ h hE
      exact r.no rfl φ h1 h3
    | true =>
      obtain ⟨g2, l2, le2⟩ := r.good rfl
      obtain ⟨fb, ef, hfin, hinf⟩ := finC_ok g2.wf
      rw [ef]
      simp only [Bool.true_and, Option.getD_some]
      cases fb with
      | false =>
        simp only [Bool.false_eq_true, if_false]
        refine ⟨g, (fun h => by cases h), fun _ => ⟨by trivial, fun θ h hE => ?_⟩⟩
        obtain ⟨φ, h1, h2, h3⟩ := up θ h hE
        obtain ⟨φ', h4, _⟩ := r.up rfl φ h1 h3
        exact hinf rfl φ' h4
      | true =>
        simp only [if_true]
        refine ⟨⟨g2, l2, trees_some g2.wf (hfin rfl)⟩, fun _ θ => ?_, fun h => by cases h⟩
        constructor
        · rintro ⟨φ, h1, h2⟩
          obtain ⟨h3, h4⟩ := r.yes rfl φ h1
          exact ⟨⟨φ, a1.down φ h3, h2⟩, (eqs_to x l θ).2 ((urefAt h2 hx hl).1 h4)⟩
        · rintro ⟨h, hE⟩
          obtain ⟨φ, h1, h2, h3⟩ := up θ h hE
          obtain ⟨φ', h4, h5⟩ := r.up rfl φ h1 h3
          exact ⟨φ', h4, fun v i e => by rw [h5 i (Nat.lt_of_lt_of_le (inL v i e) a1.le), h2 v i e]⟩
/-- The sense that cells' trees tell. -/
def sigC (vs : List Nat) (φ : Nat → Ty) (v : Int) : Ty := if 0 ≤ v ∧ v < vs.length then φ (at_ vs v) else vr v
theorem sigC_at {vs : List Nat} {φ : Nat → Ty} {t : Ty} (h : Fit vs.length t) : t.sub (sigC vs φ) = t.sub fun v => φ (at_ vs v) :=
  Ty.sub_congr t fun u hu => if_pos ⟨may_vs t h.may u hu, h.lt u hu⟩
theorem Trees.canon {vs : List Nat} {L : Cs} (g : GoodC vs L) (hl : Lab vs L) {φ : Nat → Ty} (h : Trees φ L) : Canon (URef vs L) (sigC vs φ) := by
  refine ⟨⟨φ, h.ok, fun v i e => ?_⟩, ?_, ?_⟩
  · have hv : v < vs.length := lt_of_some e
    unfold sigC at_
    rw [if_pos ⟨by omega, by omega⟩, List.getD_eq_getElem?_getD, show ((v : Nat) : Int).toNat = v from by omega, e]
    rfl
  · rintro θ ⟨ψ, h1, h2⟩ v
    have key : ∀ m i, i < L.length → (φ i).size ≤ m → (φ i).sub θ = ψ i := by
      intro m
      induction m with
      | zero => intro i _ hm; have := (φ i).size_pos; omega
      | succ m ih =>
        intro i hi hm
        obtain ⟨r, hr⟩ := g.wf.find i hi
        obtain ⟨c, ec, hc⟩ := hr.root
        rw [hr.okc h.ok] at hm ⊢
        rw [hr.okc h1]
        by_cases h0 : c.kind = 0
        · rw [h.open_ r c ec hc h0, vr_sub]
          exact (h2 _ _ (hl r c ec h0)).symm
        · have e1 := (h.ok r c ec).2 hc h0
          have e2 := (h1 r c ec).2 hc h0
          rw [e1] at hm ⊢
          rw [e2, Ty.sub_other _ (g.wf.kind r c ec h0).2, List.map_map]
          simp only [Ty.size] at hm
          congr 1
          refine List.map_congr_left fun k hk => ih k (g.wf.kids r c ec k hk) ?_
          have := Ty.size_mem (c.kids.map φ) (φ k) (List.mem_map.2 ⟨k, hk, rfl⟩)
          omega
    unfold sigC
    split
    · rename_i hv
      have e := at_some hv.1 hv.2
      rw [key _ _ (g.inn _ _ e) (Nat.le_refl _), h2 _ _ e, show ((v.toNat : Nat) : Int) = v from by omega]
    · rw [vr_sub]
  · intro v r l e
    unfold sigC at e
    split at e
    · rename_i hv
      have ev := at_some hv.1 hv.2
      obtain ⟨q, hq⟩ := g.wf.find _ (g.inn _ _ ev)
      obtain ⟨c, ec, hc⟩ := hq.root
      rw [hq.okc h.ok] at e
      by_cases h0 : c.kind = 0
      · rw [h.open_ q c ec hc h0] at e
        unfold vr at e
        injection e with _ e1 e2
        have := g.least _ _ _ c ev hq ec h0
        exact ⟨e2.symm, by omega⟩
      · rw [(h.ok q c ec).2 hc h0] at e
        injection e with e1
        exact absurd e1 (g.wf.kind q c ec h0).2
    · unfold vr at e
      injection e with _ e1 e2
      exact ⟨e2.symm, by omega⟩
/-- A type's cell has its sense's tree. -/
theorem sense_lay {vs : List Nat} {L : Cs} (g : GoodC vs L) (hl : Lab vs L) {φ : Nat → Ty} (h : Trees φ L) {t : Ty} (hf : Fit vs.length t) : ∃ φ', Trees φ' (layT vs L t).1 ∧ φ' (layT vs L t).2 = t.sub (sigC vs φ) := by
  obtain ⟨a1, a2, a3⟩ := lay_ok vs t L g hl hf
  obtain ⟨φ', h1, h2⟩ := a1.up φ h.ok
  refine ⟨φ', ⟨h1, fun i c e ht h0 => ?_⟩, ?_⟩
  · obtain ⟨ext, he, hk⟩ := a1.ext
    rw [he] at e
    rcases Nat.lt_or_ge i L.length with hi | hi
    · rw [List.getElem?_append_left hi] at e
      rw [h2 i hi]
      exact h.open_ i c e ht h0
    · rw [List.getElem?_append_right hi] at e
      exact absurd h0 (hk c (List.mem_of_getElem? e))
  · rw [a3 φ' h1, sigC_at hf]
    exact Ty.sub_congr t fun u hu => h2 _ (g.inn _ _ (at_some (may_vs t hf.may u hu) (hf.lt u hu)))
/-- So many variables, that stand for nothing. -/
def freshC (n : Nat) : Cs := (List.range n).map fun i => ⟨-1, 0, [], i⟩
theorem freshC_at {n i : Nat} {c : Cel} (h : (freshC n)[i]? = some c) : i < n ∧ c = ⟨-1, 0, [], i⟩ := by
  unfold freshC at h
  have := lt_of_some h
  simp at this
  rw [List.getElem?_map, List.getElem?_range this] at h
  simp at h
  exact ⟨this, h.symm⟩
theorem freshC_ok (n : Nat) : RefOk (List.range n) (freshC n) := by
  have hlen : (freshC n).length = n := by simp [freshC]
  have hat : ∀ i, i < n → (freshC n)[i]? = some ⟨-1, 0, [], i⟩ := fun i hi => by unfold freshC; rw [List.getElem?_map, List.getElem?_range hi]; rfl
  have hvs : ∀ v i : Nat, (List.range n)[v]? = some i → v < n ∧ i = v := by
    intro v i e
    have := lt_of_some e
    simp at this
    rw [List.getElem?_range this] at e
    cases e
    exact ⟨this, rfl⟩
  refine ⟨⟨⟨fun i c e => ?_, fun i c e k hk => ?_, fun i c e h0 => ?_, fun i hi => ⟨i, .here (hat i (by omega)) (by simp)⟩, fun i c e _ => ?_⟩, fun v i e => ?_, fun v i r c e hr ec h0 => ?_⟩, fun i c e _ => ?_, ⟨fun i => vr i, fun i c e => ⟨fun j hj => ?_, fun _ h0 => ?_⟩, fun i c e _ _ => ?_⟩⟩
  · obtain ⟨_, rfl⟩ := freshC_at e; simp only; omega
  · obtain ⟨_, rfl⟩ := freshC_at e; cases hk
  · obtain ⟨_, rfl⟩ := freshC_at e; simp at h0
  · obtain ⟨_, rfl⟩ := freshC_at e; rfl
  · obtain ⟨h1, rfl⟩ := hvs v i e; omega
  · obtain ⟨h1, rfl⟩ := hvs v i e
    have := hr.det (.here (hat i h1) (by simp))
    subst this
    obtain ⟨_, rfl⟩ := freshC_at ec
    exact Nat.le_refl _
  · obtain ⟨h1, rfl⟩ := freshC_at e; exact List.getElem?_range h1
  · obtain ⟨_, rfl⟩ := freshC_at e; simp at hj
  · obtain ⟨_, rfl⟩ := freshC_at e; exact absurd rfl h0
  · obtain ⟨_, rfl⟩ := freshC_at e; rfl
theorem freshC_all (n : Nat) (θ : Int → Ty) : URef (List.range n) (freshC n) θ := by
  refine ⟨fun i => θ i, fun i c e => ⟨fun j hj => ?_, fun _ h0 => ?_⟩, fun v i e => ?_⟩
  · obtain ⟨_, rfl⟩ := freshC_at e; simp at hj
  · obtain ⟨_, rfl⟩ := freshC_at e; exact absurd rfl h0
  · have := lt_of_some e
    simp at this
    rw [List.getElem?_range this] at e
    cases e
    rfl
end Go.Proofs.Ytkjjbackkipfdaa
