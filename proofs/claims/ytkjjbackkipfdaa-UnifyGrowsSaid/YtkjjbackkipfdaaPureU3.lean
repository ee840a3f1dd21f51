/- Making types the same comes to an end; rows of types. In plain Lean; no program in sight. -/
import Derived.Test.YtkjjbackkipfdaaPureU2
namespace Go.Proofs.Ytkjjbackkipfdaa

theorem joins_mono {J J' : St → Ty → Ty → Option (St × Bool)} (hJ : ∀ S x y r, J S x y = some r → J' S x y = some r) (l : List Ty) : ∀ (l' : List Ty) (S : St) r, joinsW J S l l' = some r → joinsW J' S l l' = some r := by
  induction l with
  | nil => intro l' S r h; exact h
  | cons x l ih =>
    intro l' S r h
    cases l' with
    | nil => cases h
    | cons y l' =>
      simp only [joinsW] at h ⊢
      cases hj : J S x y with
      | none => rw [hj] at h; cases h
      | some q =>
        rw [hj] at h
        rw [hJ _ _ _ _ hj]
        simp only [Option.bind_some] at h ⊢
        split at h
        · rename_i e
          rw [if_pos e]
          exact ih _ _ _ h
        · rename_i e
          rw [if_neg e]
          exact h
theorem link_mono {J J' : St → Ty → Ty → Option (St × Bool)} (hJ : ∀ S x y r, J S x y = some r → J' S x y = some r) {S : St} {x y : Int} {r} (h : linkW J S x y = some r) : linkW J' S x y = some r := by
  unfold linkW at h ⊢
  cases ex : S x with
  | none => rw [ex] at h; cases ey : S y <;> rw [ey] at h <;> exact h
  | some to =>
    cases ey : S y with
    | none => rw [ex, ey] at h; exact h
    | some other =>
      rw [ex, ey] at h
      simp only at h ⊢
      split at h
      · rename_i e; rw [if_pos e]; exact h
      · rename_i e; rw [if_neg e]; exact hJ _ _ _ _ h
theorem joinR_mono {J J' : St → Ty → Ty → Option (St × Bool)} (hJ : ∀ S x y r, J S x y = some r → J' S x y = some r) {S : St} {x y : Ty} {r} (h : joinR J S x y = some r) : joinR J' S x y = some r := by
  unfold joinR at h ⊢
  split at h
  · rename_i e
    rw [if_pos e]
    split at h
    · rename_i e'; rw [if_pos e']; exact h
    · rename_i e'; rw [if_neg e']; exact link_mono hJ h
  rename_i e
  rw [if_neg e]
  split at h
  · rename_i e; rw [if_pos e]; exact h
  rename_i e
  rw [if_neg e]
  split at h
  · rename_i e; rw [if_pos e]; exact h
  rename_i e
  rw [if_neg e]
  split at h
  · rename_i e; rw [if_pos e]; exact h
  rename_i e
  rw [if_neg e]
  exact joins_mono hJ _ _ _ _ h
theorem joinF_mono1 (f : Nat) : ∀ S x y r, joinF f S x y = some r → joinF (f + 1) S x y = some r := by
  induction f with
  | zero => intro S x y r h; cases h
  | succ f ih =>
    intro S x y r h
    unfold joinF at h
    show joinR (joinF (f + 1)) S (rootD S x) (rootD S y) = some r
    exact joinR_mono ih h
theorem joinF_mono {f g : Nat} (h : f ≤ g) : ∀ S x y r, joinF f S x y = some r → joinF g S x y = some r := by
  induction h with
  | refl => intro S x y r h; exact h
  | step _ ih => intro S x y r h; exact joinF_mono1 _ _ _ _ _ (ih S x y r h)

theorem sizes_map_mem {l : List Ty} {t : Ty} (σ : Int → Ty) (h : t ∈ l) : (t.sub σ).size ≤ Ty.sizes (l.map (Ty.sub σ)) := Ty.size_mem _ _ (List.mem_map.2 ⟨t, h, rfl⟩)
/-- Two types can be gone through. -/
theorem joinF_total (n : Nat) : ∀ (w m : Nat) (S : St) (x y : Ty) (σ : Int → Ty), Good n S → Fit n x → Fit n y → Sense S σ → W n S ≤ w → (x.sub σ).size + (y.sub σ).size ≤ m → ∃ f r, joinF f S x y = some r := by
  intro w
  induction w using Nat.strongRecOn with
  | ind w ihw =>
    intro m
    induction m with
    | zero => intro S x y σ _ _ _ _ _ h; have := (x.sub σ).size_pos; omega
    | succ m ihm =>
      intro S x y σ g hx hy hσ hw hm
      have rx := rootD_root g.acy x
      have ry := rootD_root g.acy y
      have fx := rx.fit g hx
      have fy := ry.fit g hy
      have lx := rx.last
      have ly := ry.last
      have ex : (rootD S x).sub σ = x.sub σ := rx.sub hσ.sol
      have ey : (rootD S y).sub σ = y.sub σ := ry.sub hσ.sol
      rw [← ex, ← ey] at hm
      suffices h : ∃ f r, joinR (joinF f) S (rootD S x) (rootD S y) = some r by
        obtain ⟨f, r, h⟩ := h
        exact ⟨f + 1, r, h⟩
      generalize rootD S x = X at *
      generalize rootD S y = Y at *
      by_cases hv : X.kind = 5 ∧ Y.kind = 5
      · by_cases he : X.var = Y.var
        · exact ⟨0, (S, true), by unfold joinR; rw [if_pos hv, if_pos he]⟩
        · suffices h : ∃ f r, linkW (joinF f) S X.var Y.var = some r by
            obtain ⟨f, r, h⟩ := h
            exact ⟨f, r, by unfold joinR; rw [if_pos hv, if_neg he]; exact h⟩
          have hX := fx.range hv.1
          have hY := fy.range hv.2
          cases sx : S X.var with
          | none => cases sy : S Y.var <;> exact ⟨0, _, by unfold linkW; rw [sx, sy]⟩
          | some to =>
            cases sy : S Y.var with
            | none => exact ⟨0, _, by unfold linkW; rw [sx, sy]⟩
            | some other =>
              by_cases hin : In S X.var other ∨ In S Y.var to
              · exact ⟨0, _, by unfold linkW; rw [sx, sy]; exact if_pos hin⟩
              · have hn2 : ¬ In S X.var (vr Y.var) := by
                  intro h
                  rcases In.var.1 h with e | ⟨t, e, h⟩
                  · exact he e.symm
                  · rw [sy] at e; cases e; exact hin (.inl h)
                have g1 : Good n (S.put X.var (vr Y.var)) := g.put hX.1 hX.2 (Fit.vr_ hY.1 hY.2) hn2 fun u l e => by
                  cases e
                  exact ⟨other, sy, ly hv.2 _ sy, fun e => he e.symm⟩
                have hwp : W n (S.put X.var (vr Y.var)) < W n S := W_put hX.1 hX.2 (by rw [sx]; have := lx hv.1 _ sx; simp [wt, vr, Ty.kind] at this ⊢; simp [this])
                obtain ⟨σ1, h1⟩ := g1.acy.sense
                obtain ⟨f, r, h⟩ := ihw (W n (S.put X.var (vr Y.var))) (by omega) _ _ to other σ1 g1 (g.fit _ _ sx).2.2 (g.fit _ _ sy).2.2 h1 (Nat.le_refl _) (Nat.le_refl _)
                exact ⟨f, r, by unfold linkW; rw [sx, sy]; simp only; rw [if_neg hin]; exact h⟩
      by_cases h1 : (hd S X).kind = 5
      · exact ⟨0, _, by unfold joinR; rw [if_neg hv, if_pos h1]⟩
      by_cases h2 : (hd S Y).kind = 5
      · exact ⟨0, _, by unfold joinR; rw [if_neg hv, if_neg h1, if_pos h2]⟩
      by_cases h3 : (hd S X).kind = (hd S Y).kind
      · suffices h : ∃ f r, joinsW (joinF f) S (hd S X).kids (hd S Y).kids = some r by
          obtain ⟨f, r, h⟩ := h
          exact ⟨f, r, by unfold joinR; rw [if_neg hv, if_neg h1, if_neg h2, if_neg (by simpa using h3)]; exact h⟩
        have fX := hd_fit g fx
        have fY := hd_fit g fy
        have sX : (hd S X).sub σ = X.sub σ := hd_sub hσ.sol X
        have sY : (hd S Y).sub σ = Y.sub σ := hd_sub hσ.sol Y
        rw [← sX, ← sY, Ty.sub_node h1, Ty.sub_node h2] at hm
        simp only [Ty.size] at hm
        have kl := fX.kids_eq fY h3
        have key : ∀ (l l' : List Ty) (S1 : St), Good n S1 → (S1 = S ∨ W n S1 < W n S) → l.length = l'.length → (∀ t, t ∈ l → Fit n t ∧ (t.sub σ).size ≤ Ty.sizes ((hd S X).kids.map (Ty.sub σ))) → (∀ t, t ∈ l' → Fit n t ∧ (t.sub σ).size ≤ Ty.sizes ((hd S Y).kids.map (Ty.sub σ))) → ∃ f r, joinsW (joinF f) S1 l l' = some r := by
          intro l
          induction l with
          | nil => intro l' S1 _ _ _ _ _; exact ⟨0, _, rfl⟩
          | cons a l ihl =>
            intro l' S1 g1 hS hl ha hc
            cases l' with
            | nil => simp at hl
            | cons c l' =>
              obtain ⟨fa, ka⟩ := ha a (by simp)
              obtain ⟨fc, kc⟩ := hc c (by simp)
              have first : ∃ f r, joinF f S1 a c = some r := by
                rcases hS with rfl | hlt
                · exact ihm S1 a c σ g1 fa fc hσ hw (by omega)
                · obtain ⟨σ1, hs1⟩ := g1.acy.sense
                  exact ihw (W n S1) (by omega) _ S1 a c σ1 g1 fa fc hs1 (Nat.le_refl _) (Nat.le_refl _)
              obtain ⟨f, ⟨S2, b⟩, hf⟩ := first
              cases b with
              | false => exact ⟨f, (S2, false), by simp [joinsW, hf]⟩
              | true =>
                have k := joinF_ok n f S1 a c S2 true g1 fa fc hf
                have hS2 : S2 = S ∨ W n S2 < W n S := by
                  rcases k.less rfl with rfl | h
                  · exact hS
                  · rcases hS with rfl | h'
                    · exact .inr h
                    · exact .inr (by omega)
                obtain ⟨f2, r, hf2⟩ := ihl l' S2 (k.good rfl) hS2 (by simpa using hl) (fun t ht => ha t (by simp [ht])) (fun t ht => hc t (by simp [ht]))
                refine ⟨max f f2, r, ?_⟩
                simp only [joinsW]
                rw [joinF_mono (Nat.le_max_left f f2) _ _ _ _ hf]
                simp only [Option.bind_some, if_true]
                exact joins_mono (joinF_mono (Nat.le_max_right f f2)) _ _ _ _ hf2
        exact key _ _ S g (.inl rfl) kl (fun t ht => ⟨fX.kid h1 ht, sizes_map_mem σ ht⟩) (fun t ht => ⟨fY.kid h2 ht, sizes_map_mem σ ht⟩)
      · exact ⟨0, _, by unfold joinR; rw [if_neg hv, if_neg h1, if_neg h2, if_pos h3]⟩
theorem joinF_some {n : Nat} {S : St} {x y : Ty} (g : Good n S) (hx : Fit n x) (hy : Fit n y) : ∃ f r, joinF f S x y = some r := by
  obtain ⟨σ, h⟩ := g.acy.sense
  exact joinF_total n _ _ S x y σ g hx hy h (Nat.le_refl _) (Nat.le_refl _)

/-- A row of types, each with the first one. -/
def joinAll (J : St → Ty → Ty → Option (St × Bool)) (x : Ty) : St → List Ty → Option (St × Bool)
  | S, [] => some (S, true)
  | S, y :: l => (J S x y).bind fun r => if r.2 then joinAll J x r.1 l else some (r.1, false)
theorem joinAll_mono {J J' : St → Ty → Ty → Option (St × Bool)} (hJ : ∀ S x y r, J S x y = some r → J' S x y = some r) (x : Ty) (l : List Ty) : ∀ (S : St) r, joinAll J x S l = some r → joinAll J' x S l = some r := by
  induction l with
  | nil => intro S r h; exact h
  | cons y l ih =>
    intro S r h
    simp only [joinAll] at h ⊢
    cases hj : J S x y with
    | none => rw [hj] at h; cases h
    | some q =>
      rw [hj] at h
      rw [hJ _ _ _ _ hj]
      simp only [Option.bind_some] at h ⊢
      split at h
      · rename_i e; rw [if_pos e]; exact ih _ _ h
      · rename_i e; rw [if_neg e]; exact h
/-- The equations of a row with the first one. -/
def EqTo (x : Ty) (l : List Ty) (θ : Int → Ty) : Prop := ∀ t, t ∈ l → x.sub θ = t.sub θ
theorem joinAll_ok {n : Nat} {J : St → Ty → Ty → Option (St × Bool)} (hJ : JoinOk n J) {x : Ty} (hx : Fit n x) (l : List Ty) : ∀ (S S' : St) (b : Bool), Good n S → (∀ t, t ∈ l → Fit n t) → joinAll J x S l = some (S', b) → Joined n S (EqTo x l) S' b := by
  induction l with
  | nil =>
    intro S S' b g _ h
    simp only [joinAll, Option.some.injEq, Prod.mk.injEq] at h
    obtain ⟨rfl, rfl⟩ := h
    exact Joined.same g fun _ _ t ht => by cases ht
  | cons y l ih =>
    intro S S' b g hf h
    simp only [joinAll] at h
    cases hj : J S x y with
    | none => rw [hj] at h; cases h
    | some r =>
      obtain ⟨S1, b1⟩ := r
      rw [hj] at h
      simp only [Option.bind_some] at h
      have k1 := hJ S x y S1 b1 g hx (hf y (by simp)) hj
      cases b1 with
      | false =>
        simp at h
        obtain ⟨rfl, rfl⟩ := h
        exact Joined.never (fun θ hs e => k1.no rfl θ hs (e y (by simp))) _
      | true =>
        simp only [if_true] at h
        have k2 := ih S1 S' b (k1.good rfl) (fun t ht => hf t (by simp [ht])) h
        refine ⟨k2.good, fun e θ => ?_, fun e θ hs he => ?_, fun e => ?_⟩
        · rw [k2.yes e, k1.yes rfl]
          constructor
          · rintro ⟨⟨a, b⟩, c⟩
            refine ⟨a, fun t ht => ?_⟩
            rcases List.mem_cons.1 ht with rfl | ht
            · exact b
            · exact c t ht
          · rintro ⟨a, b⟩
            exact ⟨⟨a, b y (by simp)⟩, fun t ht => b t (by simp [ht])⟩
        · exact k2.no e θ ((k1.yes rfl θ).2 ⟨hs, he y (by simp)⟩) fun t ht => he t (by simp [ht])
        · rcases k1.less rfl with rfl | h1
          · exact k2.less e
          · rcases k2.less e with rfl | h2
            · exact .inr h1
            · exact .inr (by omega)
theorem joinAll_some {n : Nat} {x : Ty} (hx : Fit n x) (l : List Ty) : ∀ (S : St), Good n S → (∀ t, t ∈ l → Fit n t) → ∃ f r, joinAll (joinF f) x S l = some r := by
  induction l with
  | nil => intro S _ _; exact ⟨0, _, rfl⟩
  | cons y l ih =>
    intro S g hf
    obtain ⟨f, ⟨S1, b⟩, h1⟩ := joinF_some g hx (hf y (by simp))
    cases b with
    | false => exact ⟨f, (S1, false), by simp [joinAll, h1]⟩
    | true =>
      have k := joinF_ok n f S x y S1 true g hx (hf y (by simp)) h1
      obtain ⟨f2, r, h2⟩ := ih S1 (k.good rfl) fun t ht => hf t (by simp [ht])
      refine ⟨max f f2, r, ?_⟩
      simp only [joinAll]
      rw [joinF_mono (Nat.le_max_left f f2) _ _ _ _ h1]
      simp only [Option.bind_some, if_true]
      exact joinAll_mono (joinF_mono (Nat.le_max_right f f2)) _ _ _ _ h2
/-- The equations of a row. -/
def Eqs (l : List Ty) (θ : Int → Ty) : Prop := ∀ s, s ∈ l → ∀ t, t ∈ l → s.sub θ = t.sub θ
theorem eqs_to (x : Ty) (l : List Ty) (θ : Int → Ty) : Eqs (x :: l) θ ↔ EqTo x l θ := by
  constructor
  · intro h t ht
    exact h x (by simp) t (by simp [ht])
  · intro h s hs t ht
    have e : ∀ t, t ∈ x :: l → x.sub θ = t.sub θ := by
      intro t ht
      rcases List.mem_cons.1 ht with rfl | ht
      · rfl
      · exact h t ht
    rw [← e s hs, ← e t ht]
/-- Join of a row, on a state: what the whole call does. -/
structure Joins (n : Nat) (U : (Int → Ty) → Prop) (E : (Int → Ty) → Prop) (U' : (Int → Ty) → Prop) (b : Bool) : Prop where
  yes : b = true → ∀ θ, U' θ ↔ U θ ∧ E θ
  no : b = false → (∀ θ, U θ → ¬ E θ) ∧ ∀ θ, U' θ ↔ U θ
end Go.Proofs.Ytkjjbackkipfdaa
