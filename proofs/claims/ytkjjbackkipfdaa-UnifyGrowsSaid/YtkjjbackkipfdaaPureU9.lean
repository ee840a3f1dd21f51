/- The laws of books, in plain Lean; no program in sight. -/
import Derived.Test.YtkjjbackkipfdaaPureU8
namespace Go.Proofs.Ytkjjbackkipfdaa

mutual
/-- All variables are below a number. -/
def Ty.within (n : Int) : Ty → Bool
  | .mk k v l => !(decide (k = 5) && decide (n ≤ v)) && Ty.withins n l
def Ty.withins (n : Int) : List Ty → Bool
  | [] => true
  | t :: l => t.within n && Ty.withins n l
end
theorem Ty.withins_iff (n : Int) (l : List Ty) : Ty.withins n l = true ↔ ∀ t, t ∈ l → t.within n = true := by
  induction l with
  | nil => simp [Ty.withins]
  | cons t l ih => simp [Ty.withins, ih]
/-- A type that a book knows. -/
def knows1 (n : Nat) (t : Ty) : Bool := t.may && t.within n
theorem knows1_iff (n : Nat) (t : Ty) : knows1 n t = true ↔ Fit n t := by
  unfold knows1
  rw [Bool.and_eq_true]
  have key : t.may = true → (t.within n = true ↔ ∀ u, u ∈ t.vs → u < n) := by
    induction t using Ty.ind with
    | h k v l ih =>
      intro hm
      obtain ⟨h1, _, _, h4⟩ := may_node hm
      simp only [Ty.within, Bool.and_eq_true, Ty.withins_iff]
      by_cases h5 : k = 5
      · subst h5
        have : l = [] := List.eq_nil_of_length_eq_zero (by simp [arity] at h1; omega)
        subst this
        rw [Ty.vs_five]
        simp
      · rw [Ty.vs_other h5]
        constructor
        · rintro ⟨_, h⟩ u hu
          obtain ⟨t, ht, hu⟩ := List.mem_flatMap.1 hu
          exact (ih t ht (h4 t ht)).1 (h t ht) u hu
        · intro h
          exact ⟨by simp [h5], fun t ht => (ih t ht (h4 t ht)).2 fun u hu => h u (List.mem_flatMap.2 ⟨t, ht, hu⟩)⟩
  exact ⟨fun h => ⟨h.1, (key h.1).1 h.2⟩, fun h => ⟨h.may, (key h.may).2 h.lt⟩⟩
def knows (n : Nat) (l : List Ty) : Bool := l.all (knows1 n)
theorem knows_iff (n : Nat) (l : List Ty) : knows n l = true ↔ ∀ t, t ∈ l → Fit n t := by
  unfold knows
  rw [List.all_eq_true]
  exact ⟨fun h t ht => (knows1_iff n t).1 (h t ht), fun h t ht => (knows1_iff n t).2 (h t ht)⟩
/-- What Join does to a book's state. -/
structure JoinP (n : Nat) (S : St) (l : List Ty) (S' : St) (b : Bool) : Prop where
  good : Good n S'
  no : knows n l = false → b = false
  yes : b = true → knows n l = true ∧ ∀ θ, Sol S' θ ↔ Sol S θ ∧ Eqs l θ
  stay : b = false → S' = S ∧ (knows n l = true → ∀ θ, Sol S θ → ¬ Eqs l θ)
theorem JoinP.unknown {n : Nat} {S : St} (g : Good n S) {l : List Ty} (h : knows n l = false) : JoinP n S l S false :=
  ⟨g, fun _ => rfl, (fun e => by cases e), fun _ => ⟨rfl, fun e => by rw [h] at e; cases e⟩⟩
theorem JoinP.nil {n : Nat} {S : St} (g : Good n S) : JoinP n S [] S true :=
  ⟨g, (fun h => by cases h), fun _ => ⟨rfl, fun _ => ⟨fun h => ⟨h, fun s hs => by cases hs⟩, fun h => h.1⟩⟩, fun e => by cases e⟩
theorem JoinP.of {n : Nat} {S S' : St} (g : Good n S) {x : Ty} {l : List Ty} {f : Nat} (hk : knows n (x :: l) = true) (h : joinAll (joinF f) x S l = some (S', true)) : JoinP n S (x :: l) S' true := by
  have hf := (knows_iff n _).1 hk
  have k := joinAll_ok (joinF_ok n f) (hf x (by simp)) l S S' true g (fun t ht => hf t (by simp [ht])) h
  exact ⟨k.good rfl, (fun e => by rw [hk] at e; cases e), fun _ => ⟨hk, fun θ => by rw [k.yes rfl, eqs_to]⟩, fun e => by cases e⟩
theorem JoinP.fails {n : Nat} {S S' : St} (g : Good n S) {x : Ty} {l : List Ty} {f : Nat} (hk : knows n (x :: l) = true) (h : joinAll (joinF f) x S l = some (S', false)) : JoinP n S (x :: l) S false := by
  have hf := (knows_iff n _).1 hk
  have k := joinAll_ok (joinF_ok n f) (hf x (by simp)) l S S' false g (fun t ht => hf t (by simp [ht])) h
  exact ⟨g, fun _ => rfl, (fun e => by cases e), fun _ => ⟨rfl, fun _ θ hs => by rw [eqs_to]; exact k.no rfl θ hs⟩⟩
/-- There is a way: it can be so. -/
theorem JoinP.can {n : Nat} {S S' : St} {l : List Ty} {b : Bool} (h : JoinP n S l S' b) (hk : knows n l = true) {θ : Int → Ty} (hs : Sol S θ) (he : Eqs l θ) : b = true := by
  cases b with
  | true => rfl
  | false => exact absurd he ((h.stay rfl).2 hk θ hs)
theorem Good.some_ {n : Nat} {S : St} (g : Good n S) : ∃ θ, Sol S θ := by
  obtain ⟨σ, h, _⟩ := g.canon
  exact ⟨σ, h.sol⟩
/-- It can be so: there is a way. -/
theorem JoinP.way {n : Nat} {S S' : St} {l : List Ty} (h : JoinP n S l S' true) : ∃ θ, Sol S θ ∧ Eqs l θ := by
  obtain ⟨θ, hs⟩ := h.good.some_
  exact ⟨θ, ((h.yes rfl).2 θ).1 hs⟩
/-- Two states of the same ways to fill the variables have one sense. -/
theorem sense_eq {n n' : Nat} {S S' : St} (g : Good n S) (g' : Good n' S') (h : ∀ θ, Sol S θ ↔ Sol S' θ) {σ σ' : Int → Ty} (hσ : Sense S σ) (hσ' : Sense S' σ') : σ = σ' := by
  obtain ⟨s, h1, h2⟩ := g.canon
  obtain ⟨s', h1', h2'⟩ := g'.canon
  rw [hσ.unique g.acy h1, hσ'.unique g'.acy h1']
  exact Canon.unique h2 ⟨(h _).2 h2'.fits, fun θ hs => h2'.most θ ((h θ).1 hs), h2'.least⟩
/-- Types that are the same have one sense. -/
theorem JoinP.one {n : Nat} {S S' : St} {l : List Ty} (h : JoinP n S l S' true) {σ : Int → Ty} (hσ : Sense S' σ) {s t : Ty} (hs : s ∈ l) (ht : t ∈ l) : s.sub σ = t.sub σ :=
  (((h.yes rfl).2 σ).1 hσ.sol).2 s hs t ht
theorem eqs_perm {l l' : List Ty} (h : ∀ t, t ∈ l ↔ t ∈ l') (θ : Int → Ty) : Eqs l θ ↔ Eqs l' θ := by
  unfold Eqs
  simp only [h]
theorem knows_perm {n : Nat} {l l' : List Ty} (h : ∀ t, t ∈ l ↔ t ∈ l') : knows n l = knows n l' := by
  rw [Bool.eq_iff_iff, knows_iff, knows_iff]
  simp only [h]
/-- In which order types stand plays no part. -/
theorem JoinP.turn {n : Nat} {S A B : St} {l l' : List Ty} {a b : Bool} (hl : ∀ t, t ∈ l ↔ t ∈ l') (ha : JoinP n S l A a) (hb : JoinP n S l' B b) : a = b ∧ ∀ θ, Sol A θ ↔ Sol B θ := by
  cases a with
  | true =>
    obtain ⟨θ, h1, h2⟩ := ha.way
    have : b = true := hb.can (by rw [← knows_perm hl]; exact (ha.yes rfl).1) h1 ((eqs_perm hl θ).1 h2)
    subst this
    refine ⟨rfl, fun θ => ?_⟩
    rw [(ha.yes rfl).2, (hb.yes rfl).2, eqs_perm hl]
  | false =>
    cases b with
    | true =>
      obtain ⟨θ, h1, h2⟩ := hb.way
      have := ha.can (by rw [knows_perm hl]; exact (hb.yes rfl).1) h1 ((eqs_perm hl θ).2 h2)
      cases this
    | false =>
      refine ⟨rfl, fun θ => ?_⟩
      rw [(ha.stay rfl).1, (hb.stay rfl).1]
/-- What was made the same is made the same again, and that turns nothing. -/
theorem JoinP.again {n : Nat} {A B : St} {l : List Ty} {b : Bool} (hk : knows n l = true) (hA : ∀ θ, Sol A θ → Eqs l θ) (g : Good n A) {x y : Ty} (hx : x ∈ l) (hy : y ∈ l) (hb : JoinP n A [x, y] B b) : b = true ∧ ∀ θ, Sol B θ ↔ Sol A θ := by
  have he : ∀ θ, Sol A θ → Eqs [x, y] θ := by
    intro θ hs s h1 t h2
    have mem : ∀ t, t ∈ [x, y] → t ∈ l := by
      intro t ht
      simp at ht
      rcases ht with rfl | rfl
      · exact hx
      · exact hy
    exact hA θ hs s (mem s h1) t (mem t h2)
  obtain ⟨θ, hθ⟩ := g.some_
  have hkn := (knows_iff n l).1 hk
  have : b = true := hb.can ((knows_iff n _).2 fun t ht => by simp at ht; rcases ht with rfl | rfl; exact hkn _ hx; exact hkn _ hy) hθ (he θ hθ)
  subst this
  refine ⟨rfl, fun θ => ?_⟩
  rw [(hb.yes rfl).2]
  exact ⟨fun h => h.1, fun h => ⟨h, he θ h⟩⟩

/-- A sense, or the error: as the program and the reference tell it. -/
def tell (n : Nat) (σ : Int → Ty) (t : Ty) (most : Int) : Ty × Int :=
  if knows1 n t then (if (t.sub σ).left (max most 0) < 0 then (.mk 0 0 [], 3) else (t.sub σ, 0)) else (.mk 0 0 [], 1)
/-- Join, as the reference does it. -/
noncomputable def joinRefK (vs : List Nat) (L : Cs) (l : List Ty) : Cs × Bool := if knows vs.length l then joinRef vs L l else (L, false)
/-- A book of the program, and one of the reference. -/
structure Agree (n : Nat) (S : St) (vs : List Nat) (L : Cs) : Prop where
  good : Good n S
  ref : RefOk vs L
  len : vs.length = n
  same : ∀ θ, Sol S θ ↔ URef vs L θ
theorem Agree.fresh (n : Nat) : Agree n (fun _ => none) (List.range n) (freshC n) :=
  ⟨Good.empty n, freshC_ok n, by simp, fun θ => ⟨fun _ => freshC_all n θ, fun _ v t h => by cases h⟩⟩
theorem Agree.join {n : Nat} {S : St} {vs : List Nat} {L : Cs} (a : Agree n S vs L) {l : List Ty} {S' : St} {b : Bool} (h : JoinP n S l S' b) : b = (joinRefK vs L l).2 ∧ Agree n S' vs (joinRefK vs L l).1 := by
  unfold joinRefK
  have hl := a.len
  subst hl
  cases hk : knows vs.length l with
  | false =>
    have := h.no hk
    subst this
    simp only [Bool.false_eq_true, if_false]
    rw [(h.stay rfl).1]
    exact ⟨by trivial, a⟩
  | true =>
    simp only [if_true]
    obtain ⟨r1, r2, r3⟩ := joinRef_ok a.ref l ((knows_iff _ l).1 hk)
    cases hb : (joinRef vs L l).2 with
    | true =>
      have r2 := r2 hb
      obtain ⟨φ, hφ⟩ := r1.trees
      have c := hφ.canon r1.good r1.lab
      have hc := (r2 _).1 c.fits
      have : b = true := h.can hk ((a.same _).2 hc.1) hc.2
      subst this
      exact ⟨rfl, h.good, r1, rfl, fun θ => by rw [(h.yes rfl).2, r2, a.same]⟩
    | false =>
      obtain ⟨e, hn⟩ := r3 hb
      cases b with
      | true =>
        obtain ⟨θ, h1, h2⟩ := h.way
        exact absurd h2 (hn θ ((a.same θ).1 h1))
      | false =>
        refine ⟨rfl, h.good, r1, rfl, fun θ => ?_⟩
        rw [(h.stay rfl).1, e]
        exact a.same θ
theorem Agree.sense {n : Nat} {S : St} {vs : List Nat} {L : Cs} (a : Agree n S vs L) {σ : Int → Ty} (hσ : Sense S σ) {φ : Nat → Ty} (hφ : Trees φ L) : σ = sigC vs φ := by
  obtain ⟨s, h1, h2⟩ := a.good.canon
  rw [hσ.unique a.good.acy h1]
  have c := hφ.canon a.ref.good a.ref.lab
  exact Canon.unique h2 ⟨(a.same _).2 c.fits, fun θ hs => c.most θ ((a.same θ).1 hs), c.least⟩

/-- Pairs of pairs. -/
def bin (t : Ty) : Nat → Ty
  | 0 => t
  | i + 1 => .mk 2 0 [bin t i, bin t i]
theorem bin_size (t : Ty) (i : Nat) : (bin t i).size + 1 = 2 ^ i * (t.size + 1) := by
  induction i with
  | zero => simp [bin]
  | succ i ih =>
    simp only [bin, Ty.size, Ty.sizes]
    rw [Nat.pow_succ]
    have : 2 ^ i * 2 * (t.size + 1) = 2 * (2 ^ i * (t.size + 1)) := by rw [Nat.mul_comm (2 ^ i) 2, Nat.mul_assoc]
    omega
theorem bin_inj {a b : Ty} (i : Nat) (h : bin a i = bin b i) : a = b := by
  induction i with
  | zero => exact h
  | succ i ih =>
    simp only [bin] at h
    injection h with _ _ h
    injection h with h
    exact ih h
/-- A row of pairs, each of the one ahead twice: what fits. -/
def Grown (i : Nat) (θ : Int → Ty) : Prop := ∀ j : Nat, j < i → θ (2 * j + 2) = .mk 2 0 [θ (2 * j), θ (2 * j)] ∧ θ (2 * j + 3) = .mk 2 0 [θ (2 * j + 1), θ (2 * j + 1)]
theorem Grown.bin {i : Nat} {θ : Int → Ty} (h : Grown i θ) : ∀ j : Nat, j ≤ i → θ (2 * j) = bin (θ 0) j ∧ θ (2 * j + 1) = bin (θ 1) j := by
  intro j
  induction j with
  | zero => intro _; exact ⟨rfl, rfl⟩
  | succ j ih =>
    intro hj
    obtain ⟨h1, h2⟩ := ih (by omega)
    obtain ⟨h3, h4⟩ := h j (by omega)
    simp only [Go.Proofs.Ytkjjbackkipfdaa.bin]
    rw [show (2 * ((j + 1 : Nat) : Int)) = 2 * j + 2 from by omega, show (2 * (j : Int) + 2 + 1) = 2 * j + 3 from by omega, h3, h4, h1, h2]
    exact ⟨rfl, rfl⟩
/-- A way that fits, with any type at the bottom. -/
def binS (t : Ty) (v : Int) : Ty := bin t (v / 2).toNat
theorem binS_grown (t : Ty) (i : Nat) : Grown i (binS t) := by
  intro j _
  unfold binS
  rw [show ((2 * (j : Int) + 2) / 2).toNat = j + 1 from by omega, show ((2 * (j : Int)) / 2).toNat = j from by omega, show ((2 * (j : Int) + 3) / 2).toNat = j + 1 from by omega, show ((2 * (j : Int) + 1) / 2).toNat = j from by omega]
  exact ⟨rfl, rfl⟩
theorem Ty.sub_size_le (θ : Int → Ty) (t : Ty) : t.may = true → t.size ≤ (t.sub θ).size := by
  induction t using Ty.ind with
  | h k v l ih =>
    intro hm
    obtain ⟨h1, _, _, h4⟩ := may_node hm
    by_cases h5 : k = 5
    · subst h5
      have : l = [] := List.eq_nil_of_length_eq_zero (by simp [arity] at h1; omega)
      subst this
      rw [Ty.sub_five]
      have := (θ v).size_pos
      simp only [Ty.size, Ty.sizes]
      omega
    · rw [Ty.sub_other _ h5]
      simp only [Ty.size]
      have : ∀ l : List Ty, (∀ t, t ∈ l → t.size ≤ (t.sub θ).size) → Ty.sizes l ≤ Ty.sizes (l.map (Ty.sub θ)) := by
        intro l
        induction l with
        | nil => intro _; exact Nat.le_refl _
        | cons t l ihl =>
          intro h
          have := h t (by simp)
          have := ihl fun t ht => h t (by simp [ht])
          simp only [List.map_cons, Ty.sizes]
          omega
      have := this l fun t ht => ih t ht (h4 t ht)
      omega
/-- The sense of a variable that may be anything is a variable. -/
theorem open_var {S : St} {σ : Int → Ty} {n : Nat} (g : Good n S) (hσ : Sense S σ) {v : Int} (h : ∀ k : Int, k = 1 ∨ k = 6 → ∃ θ, Sol S θ ∧ θ v = .mk k 0 []) : ∃ r, σ v = vr r ∧ Ch S v r := by
  have hm : ∀ θ, Sol S θ → (σ v).sub θ = θ v := fun θ hs => hσ.most g.acy hs v
  obtain ⟨k, m, l, e⟩ : ∃ k m l, σ v = .mk k m l := by
    cases σ v with
    | mk k m l => exact ⟨k, m, l, rfl⟩
  by_cases h5 : k = 5
  · subst h5
    obtain ⟨h1, h2⟩ := hσ.ch g.acy (fun v t e => ⟨n, (g.fit v t e).2.2⟩) e
    subst h2
    exact ⟨m, e, h1⟩
  · obtain ⟨θ, h1, h2⟩ := h 1 (.inl rfl)
    obtain ⟨θ', h1', h2'⟩ := h 6 (.inr rfl)
    have a := hm θ h1
    have b := hm θ' h1'
    rw [e, h2, Ty.sub_other _ h5] at a
    rw [e, h2', Ty.sub_other _ h5] at b
    injection a with a
    injection b with b
    omega
theorem Ch.nonneg {n : Nat} {S : St} (g : Good n S) {v r : Int} (h : Ch S v r) : 0 ≤ v → 0 ≤ r := by
  induction h with
  | free => exact id
  | step e _ ih => exact fun _ => ih (may_vs _ (g.fit _ _ e).2.2.may _ (by rw [Ty.vs_five]; simp))
/-- How great the last one's sense is. -/
theorem grown_size {i n : Nat} {S : St} (g : Good n S) (hs : ∀ θ, Sol S θ ↔ Grown i θ) {σ : Int → Ty} (hσ : Sense S σ) : (σ (2 * i)).size = 2 ^ (i + 1) - 1 ∧ (σ (2 * i)).kind ≠ 0 := by
  obtain ⟨r, h0, _⟩ := open_var g hσ (v := 0) fun k _ => ⟨binS (.mk k 0 []), (hs _).2 (binS_grown _ _), rfl⟩
  have h := ((hs σ).1 hσ.sol).bin i (Nat.le_refl _)
  have h2 := bin_size (σ 0) i
  refine ⟨?_, ?_⟩
  · rw [h.1]
    rw [h0] at h2 ⊢
    simp only [vr, Ty.size, Ty.sizes] at h2 ⊢
    rw [Nat.pow_succ]
    omega
  · rw [h.1, h0]
    cases i with
    | zero => simp [Go.Proofs.Ytkjjbackkipfdaa.bin, vr, Ty.kind]
    | succ i => simp [Go.Proofs.Ytkjjbackkipfdaa.bin, Ty.kind]
/-- Two such rows can be the same; what stands at the bottom of one is what stands at that of the other. -/
theorem grown_both {i n : Nat} {S S' : St} (hs : ∀ θ, Sol S θ ↔ Grown i θ) {b : Bool} (h : JoinP n S [vr (2 * i), vr (2 * i + 1)] S' b) (hn : 2 * i + 1 < n) : b = true ∧ ∀ σ, Sense S' σ → σ 1 = vr 0 := by
  have hk : knows n [vr (2 * i), vr (2 * i + 1)] = true := (knows_iff n _).2 fun t ht => by
    simp at ht
    rcases ht with rfl | rfl
    · exact Fit.vr_ (by omega) (by omega)
    · exact Fit.vr_ (by omega) (by omega)
  have he : ∀ θ, Eqs [vr (2 * i), vr (2 * i + 1)] θ ↔ θ (2 * i) = θ (2 * i + 1) := by
    intro θ
    rw [eqs_to]
    unfold EqTo
    simp [vr_sub]
  have way : ∀ t, Sol S (binS t) ∧ Eqs [vr (2 * i), vr (2 * i + 1)] (binS t) := by
    intro t
    refine ⟨(hs _).2 (binS_grown t i), (he _).2 ?_⟩
    unfold binS
    rw [show ((2 * (i : Int)) / 2).toNat = i from by omega, show ((2 * (i : Int) + 1) / 2).toNat = i from by omega]
  have hb := h.can hk (way (vr 0)).1 (way (vr 0)).2
  subst hb
  refine ⟨rfl, fun σ hσ => ?_⟩
  have hy := (h.yes rfl).2
  obtain ⟨r, h0, hc⟩ := open_var h.good hσ (v := 0) fun k _ => ⟨binS (.mk k 0 []), (hy _).2 (way _), rfl⟩
  have h1 := (hy σ).1 hσ.sol
  have h2 := ((hs σ).1 h1.1).bin i (Nat.le_refl _)
  have h3 := (he σ).1 h1.2
  rw [h2.1, h2.2] at h3
  have h4 := bin_inj i h3
  rw [← h4, h0]
  have := h.good.least _ _ hc
  have := hc.nonneg h.good (Int.le_refl _)
  rw [show r = 0 from by omega]
/-- One round of growing. -/
theorem grown_step {i : Nat} {S S1 S2 : St} (hs : ∀ θ, Sol S θ ↔ Grown i θ) {b c : Bool} (h1 : JoinP (2 * i + 4) S [vr (2 * i + 2), .mk 2 0 [vr (2 * i), vr (2 * i)]] S1 b) (h2 : JoinP (2 * i + 4) S1 [vr (2 * i + 3), .mk 2 0 [vr (2 * i + 1), vr (2 * i + 1)]] S2 c) : b = true ∧ c = true ∧ ∀ θ, Sol S2 θ ↔ Grown (i + 1) θ := by
  have kn : ∀ u v : Int, 0 ≤ u → u < ((2 * i + 4 : Nat) : Int) → 0 ≤ v → v < ((2 * i + 4 : Nat) : Int) → knows (2 * i + 4) [vr u, .mk 2 0 [vr v, vr v]] = true := by
    intro u v a1 a2 b1 b2
    refine (knows_iff _ _).2 fun t ht => ?_
    simp at ht
    rcases ht with rfl | rfl
    · exact Fit.vr_ a1 a2
    · have f := Fit.vr_ b1 b2
      refine ⟨?_, fun w hw => ?_⟩
      · simp [Ty.may, Ty.mays, Ty.node, arity, vr, b1]
      · rw [Ty.vs_other (by omega)] at hw
        simp [vr_vs] at hw
        omega
  have eq : ∀ (u v : Int) θ, Eqs [vr u, .mk 2 0 [vr v, vr v]] θ ↔ θ u = .mk 2 0 [θ v, θ v] := by
    intro u v θ
    rw [eqs_to]
    unfold EqTo
    simp [vr_sub, Ty.sub_other]
  have gr := binS_grown (vr 0) (i + 1)
  have gi : Grown i (binS (vr 0)) := fun j hj => gr j (by omega)
  have hb := h1.can (kn _ _ (by omega) (by omega) (by omega) (by omega)) ((hs _).2 gi) ((eq _ _ _).2 (gr i (by omega)).1)
  subst hb
  have hc := h2.can (kn _ _ (by omega) (by omega) (by omega) (by omega)) (((h1.yes rfl).2 _).2 ⟨(hs _).2 gi, (eq _ _ _).2 (gr i (by omega)).1⟩) ((eq _ _ _).2 (gr i (by omega)).2)
  subst hc
  refine ⟨rfl, rfl, fun θ => ?_⟩
  rw [(h2.yes rfl).2, (h1.yes rfl).2, hs, eq, eq]
  constructor
  · rintro ⟨⟨h, e1⟩, e2⟩ j hj
    by_cases hji : j < i
    · exact h j hji
    · obtain rfl : j = i := by omega
      exact ⟨e1, e2⟩
  · intro h
    exact ⟨⟨fun j hj => h j (by omega), (h i (by omega)).1⟩, (h i (by omega)).2⟩
end Go.Proofs.Ytkjjbackkipfdaa
