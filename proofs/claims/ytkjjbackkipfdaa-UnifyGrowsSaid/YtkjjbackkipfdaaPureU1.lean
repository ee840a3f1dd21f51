/- What variables stand for: substitutions, states without rounds, their senses. In plain Lean; no program in sight. -/
import Derived.Test.YtkjjbackkipfdaaPure
namespace Go.Proofs.Ytkjjbackkipfdaa

mutual
/-- Each variable's tree in its place. -/
def Ty.sub (s : Int → Ty) : Ty → Ty
  | .mk k n l => if k = 5 then s n else .mk k n (Ty.subs s l)
def Ty.subs (s : Int → Ty) : List Ty → List Ty
  | [] => []
  | t :: l => t.sub s :: Ty.subs s l
end
mutual
/-- The variables of a type. -/
def Ty.vs : Ty → List Int
  | .mk k n l => if k = 5 then [n] else Ty.vss l
def Ty.vss : List Ty → List Int
  | [] => []
  | t :: l => t.vs ++ Ty.vss l
end
theorem Ty.subs_map (s : Int → Ty) (l : List Ty) : Ty.subs s l = l.map (Ty.sub s) := by
  induction l with
  | nil => rfl
  | cons t l ih => simp [Ty.subs, ih]
theorem Ty.vss_flat (l : List Ty) : Ty.vss l = l.flatMap Ty.vs := by
  induction l with
  | nil => rfl
  | cons t l ih => simp [Ty.vss, ih]
theorem Ty.sub_five (s : Int → Ty) (n : Int) (l : List Ty) : (Ty.mk 5 n l).sub s = s n := by simp [Ty.sub]
theorem Ty.sub_other (s : Int → Ty) {k n : Int} {l : List Ty} (h : k ≠ 5) : (Ty.mk k n l).sub s = .mk k n (l.map (Ty.sub s)) := by
  simp [Ty.sub, h, Ty.subs_map]
theorem Ty.vs_five (n : Int) (l : List Ty) : (Ty.mk 5 n l).vs = [n] := by simp [Ty.vs]
theorem Ty.vs_other {k n : Int} {l : List Ty} (h : k ≠ 5) : (Ty.mk k n l).vs = l.flatMap Ty.vs := by simp [Ty.vs, h, Ty.vss_flat]
/-- Substitutions that agree on a type's variables. -/
theorem Ty.sub_congr {s s' : Int → Ty} (t : Ty) (h : ∀ u, u ∈ t.vs → s u = s' u) : t.sub s = t.sub s' := by
  induction t using Ty.ind with
  | h k n l ih =>
    by_cases h5 : k = 5
    · subst h5
      rw [Ty.sub_five, Ty.sub_five]
      exact h n (by rw [Ty.vs_five]; simp)
    · rw [Ty.sub_other _ h5, Ty.sub_other _ h5]
      rw [Ty.vs_other h5] at h
      congr 1
      refine List.map_congr_left fun t ht => ih t ht fun u hu => h u ?_
      exact List.mem_flatMap.2 ⟨t, ht, hu⟩
theorem Ty.sub_sub (s s' : Int → Ty) (t : Ty) : (t.sub s).sub s' = t.sub fun u => (s u).sub s' := by
  induction t using Ty.ind with
  | h k n l ih =>
    by_cases h5 : k = 5
    · subst h5
      rw [Ty.sub_five, Ty.sub_five]
    · rw [Ty.sub_other _ h5, Ty.sub_other _ h5, Ty.sub_other _ h5, List.map_map]
      congr 1
      exact List.map_congr_left fun t ht => ih t ht
/-- A variable. -/
def vr (n : Int) : Ty := .mk 5 n []
theorem vr_sub (s : Int → Ty) (n : Int) : (vr n).sub s = s n := Ty.sub_five s n []
theorem vr_vs (n : Int) : (vr n).vs = [n] := Ty.vs_five n []
theorem Ty.sizes_map_ge {l : List Ty} {t : Ty} (h : t ∈ l) : t.size < 1 + Ty.sizes l := by have := Ty.size_mem l t h; omega
/-- A variable's tree stands in the whole. -/
theorem Ty.sub_size {s : Int → Ty} {u : Int} (t : Ty) (h : u ∈ t.vs) : (s u).size ≤ (t.sub s).size ∧ (t.kind ≠ 5 → (s u).size < (t.sub s).size) := by
  induction t using Ty.ind with
  | h k n l ih =>
    by_cases h5 : k = 5
    · subst h5
      rw [Ty.vs_five] at h
      simp at h
      subst h
      rw [Ty.sub_five]
      exact ⟨Nat.le_refl _, fun h => absurd rfl h⟩
    · rw [Ty.vs_other h5] at h
      obtain ⟨t, ht, hu⟩ := List.mem_flatMap.1 h
      have h1 := (ih t ht hu).1
      have h2 := Ty.size_mem (l.map (Ty.sub s)) (t.sub s) (List.mem_map.2 ⟨t, ht, rfl⟩)
      rw [Ty.sub_other _ h5]
      simp only [Ty.size]
      exact ⟨by omega, fun _ => by omega⟩

/-- What variables stand for. -/
abbrev St := Int → Option Ty
/-- A way to fill the variables fits. -/
def Sol (S : St) (θ : Int → Ty) : Prop := ∀ v t, S v = some t → θ v = t.sub θ
/-- One variable more stands for something. -/
def St.put (S : St) (v : Int) (t : Ty) : St := fun u => if u = v then some t else S u
theorem St.put_at (S : St) (v : Int) (t : Ty) : S.put v t v = some t := by simp [St.put]
theorem St.put_off (S : St) {v u : Int} (h : u ≠ v) (t : Ty) : S.put v t u = S u := by simp [St.put, h]
/-- From one variable to another, through what they stand for. -/
inductive Reach (S : St) : Int → Int → Prop
  | refl (u : Int) : Reach S u u
  | step {u w v : Int} {t : Ty} : S u = some t → w ∈ t.vs → Reach S w v → Reach S u v
/-- A variable stands in the sense of a type. -/
def In (S : St) (v : Int) (t : Ty) : Prop := ∃ u, u ∈ t.vs ∧ Reach S u v
theorem In.kid {S : St} {v k n : Int} {l : List Ty} (h5 : k ≠ 5) : In S v (.mk k n l) ↔ ∃ t, t ∈ l ∧ In S v t := by
  unfold In
  rw [Ty.vs_other h5]
  constructor
  · rintro ⟨u, hu, hr⟩
    obtain ⟨t, ht, hu⟩ := List.mem_flatMap.1 hu
    exact ⟨t, ht, u, hu, hr⟩
  · rintro ⟨t, ht, u, hu, hr⟩
    exact ⟨u, List.mem_flatMap.2 ⟨t, ht, hu⟩, hr⟩
theorem In.var {S : St} {v n : Int} {l : List Ty} : In S v (.mk 5 n l) ↔ n = v ∨ ∃ t, S n = some t ∧ In S v t := by
  unfold In
  rw [Ty.vs_five]
  constructor
  · rintro ⟨u, hu, hr⟩
    simp at hu
    subst hu
    cases hr with
    | refl => exact .inl rfl
    | step h hw hr => exact .inr ⟨_, h, _, hw, hr⟩
  · rintro (rfl | ⟨t, h, u, hu, hr⟩)
    · exact ⟨n, by simp, .refl n⟩
    · exact ⟨n, by simp, .step h hu hr⟩
theorem Reach.size {S : St} {θ : Int → Ty} (hs : Sol S θ) {u v : Int} (h : Reach S u v) : (θ v).size ≤ (θ u).size := by
  induction h with
  | refl => exact Nat.le_refl _
  | step h hw _ ih =>
    rw [hs _ _ h]
    exact Nat.le_trans ih (Ty.sub_size _ hw).1
/-- What stands in a sense is smaller, in each way to fill the variables. -/
theorem In.size {S : St} {θ : Int → Ty} (hs : Sol S θ) {v : Int} {t : Ty} (h : In S v t) (h5 : t.kind ≠ 5) : (θ v).size < (t.sub θ).size := by
  obtain ⟨u, hu, hr⟩ := h
  exact Nat.lt_of_le_of_lt (hr.size hs) ((Ty.sub_size t hu).2 h5)

/-- No way comes round. -/
def Acy (S : St) : Prop := ∃ rk : Int → Nat, ∀ v t, S v = some t → ∀ u, u ∈ t.vs → rk u < rk v
theorem Reach.rank {S : St} {rk : Int → Nat} (h : ∀ v t, S v = some t → ∀ u, u ∈ t.vs → rk u < rk v) {u v : Int} (hr : Reach S u v) : rk v ≤ rk u := by
  induction hr with
  | refl => exact Nat.le_refl _
  | step e hw _ ih => have := h _ _ e _ hw; omega
theorem sum_ge (f : Int → Nat) (l : List Int) (u : Int) (h : u ∈ l) : f u ≤ (l.map f).sum := by
  induction l with
  | nil => cases h
  | cons a l ih =>
    simp only [List.map_cons, List.sum_cons]
    rcases List.mem_cons.1 h with rfl | h
    · omega
    · have := ih h; omega
theorem Acy.put {S : St} (h : Acy S) {x : Int} {t : Ty} (hn : ¬ In S x t) : Acy (S.put x t) := by
  obtain ⟨rk, hr⟩ := h
  have dec : ∀ u, Decidable (Reach S u x) := fun u => Classical.propDecidable _
  refine ⟨fun u => rk u + if Reach S u x then 1 + (t.vs.map rk).sum else 0, fun v t' hv u hu => ?_⟩
  unfold St.put at hv
  split at hv
  · rename_i e
    subst e
    cases hv
    have h1 : ¬ Reach S u v := fun h => hn ⟨u, hu, h⟩
    simp only [if_neg h1, if_pos (Reach.refl (S := S) v)]
    have := sum_ge rk _ u hu
    omega
  · have h1 := hr _ _ hv _ hu
    by_cases h2 : Reach S u x
    · have h3 : Reach S v x := .step hv hu h2
      simp only [if_pos h2, if_pos h3]
      omega
    · simp only [if_neg h2]
      omega
theorem Acy.empty : Acy (fun _ => none) := ⟨fun _ => 0, fun _ _ h => by cases h⟩

/-- A state's sense: what stands for nothing is itself. -/
structure Sense (S : St) (σ : Int → Ty) : Prop where
  free : ∀ v, S v = none → σ v = vr v
  bound : ∀ v t, S v = some t → σ v = t.sub σ
def sigF (S : St) : Nat → Int → Ty
  | 0, v => vr v
  | f + 1, v => match S v with
    | none => vr v
    | some t => t.sub (sigF S f)
theorem sigF_fuel {S : St} {rk : Int → Nat} (h : ∀ v t, S v = some t → ∀ u, u ∈ t.vs → rk u < rk v) : ∀ f g v, rk v < f → rk v < g → sigF S f v = sigF S g v := by
  intro f
  induction f with
  | zero => intro g v h; omega
  | succ f ih =>
    intro g v hf hg
    cases g with
    | zero => omega
    | succ g =>
      unfold sigF
      cases hv : S v with
      | none => rfl
      | some t =>
        refine Ty.sub_congr t fun u hu => ?_
        have := h v t hv u hu
        exact ih g u (by omega) (by omega)
theorem Acy.sense {S : St} (h : Acy S) : ∃ σ, Sense S σ := by
  obtain ⟨rk, hr⟩ := h
  refine ⟨fun v => sigF S (rk v + 1) v, fun v hv => ?_, fun v t hv => ?_⟩
  · simp only [sigF, hv]
  · show sigF S (rk v + 1) v = _
    conv => lhs; unfold sigF
    rw [hv]
    refine Ty.sub_congr t fun u hu => ?_
    have := hr v t hv u hu
    exact sigF_fuel hr _ _ u (by omega) (by omega)
theorem Sense.sol {S : St} {σ : Int → Ty} (h : Sense S σ) : Sol S σ := h.bound
/-- All other ways to fill the variables come of the sense. -/
theorem Sense.most {S : St} {σ : Int → Ty} (ha : Acy S) (h : Sense S σ) {θ : Int → Ty} (hs : Sol S θ) (v : Int) : (σ v).sub θ = θ v := by
  obtain ⟨rk, hr⟩ := ha
  have key : ∀ m v, rk v ≤ m → (σ v).sub θ = θ v := by
    intro m
    induction m with
    | zero =>
      intro v hv
      cases e : S v with
      | none => rw [h.free v e, vr_sub]
      | some t =>
        rw [h.bound v t e, Ty.sub_sub, hs v t e]
        refine Ty.sub_congr t fun u hu => ?_
        have := hr v t e u hu
        omega
    | succ m ih =>
      intro v hv
      cases e : S v with
      | none => rw [h.free v e, vr_sub]
      | some t =>
        rw [h.bound v t e, Ty.sub_sub, hs v t e]
        refine Ty.sub_congr t fun u hu => ih u ?_
        have := hr v t e u hu
        omega
  exact key _ v (Nat.le_refl _)
theorem Sense.unique {S : St} {σ σ' : Int → Ty} (ha : Acy S) (h : Sense S σ) (h' : Sense S σ') : σ = σ' := by
  obtain ⟨rk, hr⟩ := ha
  have key : ∀ m v, rk v < m → σ v = σ' v := by
    intro m
    induction m with
    | zero => intro v h; omega
    | succ m ih =>
      intro v hv
      cases e : S v with
      | none => rw [h.free v e, h'.free v e]
      | some t =>
        rw [h.bound v t e, h'.bound v t e]
        refine Ty.sub_congr t fun u hu => ih u ?_
        have := hr v t e u hu
        omega
  funext v
  exact key _ v (Nat.lt_succ_self _)

/-- The sense of some equations, by what it does: it fits, all that fit come of it, and a variable that stands for nothing has the least number of those that are the same. -/
structure Canon (U : (Int → Ty) → Prop) (σ : Int → Ty) : Prop where
  fits : U σ
  most : ∀ θ, U θ → ∀ v, (σ v).sub θ = θ v
  least : ∀ v r l, σ v = .mk 5 r l → l = [] ∧ r ≤ v
theorem sub_fix {σ : Int → Ty} (t : Ty) (hl : ∀ v r l, σ v = .mk 5 r l → l = [] ∧ r ≤ v) (h : t.sub σ = t) : ∀ u, u ∈ t.vs → σ u = vr u := by
  induction t using Ty.ind with
  | h k n l ih =>
    intro u hu
    by_cases h5 : k = 5
    · subst h5
      rw [Ty.sub_five] at h
      rw [Ty.vs_five] at hu
      simp at hu
      subst hu
      rw [h, (hl _ _ _ h).1]
      rfl
    · rw [Ty.sub_other _ h5] at h
      rw [Ty.vs_other h5] at hu
      obtain ⟨t, ht, hu⟩ := List.mem_flatMap.1 hu
      injection h with _ _ h
      refine ih t ht ?_ u hu
      have : ∀ l : List Ty, l.map (Ty.sub σ) = l → ∀ t ∈ l, t.sub σ = t := by
        intro l
        induction l with
        | nil => intro _ t h; cases h
        | cons a l ihl =>
          intro h t ht
          simp only [List.map_cons, List.cons.injEq] at h
          rcases List.mem_cons.1 ht with rfl | ht
          · exact h.1
          · exact ihl h.2 t ht
      exact this l h t ht
/-- Types whose variables have no kids of their own. -/
def Ty.bare (t : Ty) : Prop := ∀ s : Int → Ty, (∀ u, u ∈ t.vs → s u = vr u) → t.sub s = t
theorem Canon.unique {U : (Int → Ty) → Prop} {σ σ' : Int → Ty} (h : Canon U σ) (h' : Canon U σ') : σ = σ' := by
  have open_ : ∀ {σ σ' : Int → Ty}, Canon U σ → Canon U σ' → ∀ r, σ r = vr r → σ' r = vr r := by
    intro σ σ' h h' r hr
    have e := h'.most σ h.fits r
    rw [hr] at e
    obtain ⟨k, n, l, q⟩ : ∃ k n l, σ' r = .mk k n l := by
      cases σ' r with
      | mk k n l => exact ⟨k, n, l, rfl⟩
    rw [q] at e
    by_cases h5 : k = 5
    · subst h5
      rw [Ty.sub_five] at e
      have h1 := h.least n r [] e
      have h2 := h'.least r n l q
      rw [q, h2.1, show n = r from by omega]
      rfl
    · rw [Ty.sub_other _ h5] at e
      unfold vr at e
      injection e with e1
      exact absurd e1 h5
  have idem : ∀ v u, u ∈ (σ v).vs → σ u = vr u := fun v => sub_fix (σ v) h.least (h.most σ h.fits v)
  funext v
  have e1 := h.most σ' h'.fits v
  have e2 := h.most σ h.fits v
  rw [← e1, ← e2, Ty.sub_sub]
  refine Ty.sub_congr _ fun u hu => ?_
  rw [idem v u hu, vr_sub, open_ h h' u (idem v u hu)]
end Go.Proofs.Ytkjjbackkipfdaa
