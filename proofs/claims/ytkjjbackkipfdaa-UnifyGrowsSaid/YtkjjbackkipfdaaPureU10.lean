/- Whether a variable stands in a type's sense, by a search that marks what it has met. Plain Lean. -/
import Derived.Test.YtkjjbackkipfdaaPureU9
namespace Go.Proofs.Ytkjjbackkipfdaa

/-- A variable that is not the one looked for, and stands for nothing, or was met. -/
def Past (S : St) (v : Int) (M : List Int) (u : Int) : Prop := u ≠ v ∧ (S u = none ∨ u ∈ M)
theorem Past.mono {S : St} {v : Int} {M M' : List Int} (h : ∀ u, u ∈ M → u ∈ M') {u : Int} (p : Past S v M u) : Past S v M' u := ⟨p.1, p.2.imp id (h u)⟩
/-- What a search hands back: what it was looking for, or what it has met more. -/
structure Searched (S : St) (v : Int) (M : List Int) (l : List Ty) (r : Bool) (M' : List Int) : Prop where
  sub : ∀ u, u ∈ M → u ∈ M'
  yes : r = true → ∃ t, t ∈ l ∧ In S v t
  no : r = false → (∀ t, t ∈ l → ∀ u, u ∈ t.vs → Past S v M' u) ∧ ∀ u, u ∈ M' → u ∉ M → ∀ t, S u = some t → ∀ w, w ∈ t.vs → Past S v M' w
theorem Searched.nil (S : St) (v : Int) (M : List Int) : Searched S v M [] false M := ⟨fun _ h => h, fun h => (by cases h), fun _ => ⟨fun t h => (by cases h), fun u h h' => (h' h).elim⟩⟩
/-- It is the variable itself. -/
theorem Searched.here {S : St} {v : Int} (M : List Int) (l : List Ty) : Searched S v M [.mk 5 v l] true M := ⟨fun _ h => h, fun _ => ⟨.mk 5 v l, List.mem_singleton.2 rfl, In.var.2 (.inl rfl)⟩, fun h => (by cases h)⟩
/-- A variable that stands for nothing, or was met. -/
theorem Searched.stop {S : St} {v n : Int} {M : List Int} (l : List Ty) (hn : n ≠ v) (h : S n = none ∨ n ∈ M) : Searched S v M [.mk 5 n l] false M :=
  ⟨fun _ h => h, fun h => (by cases h), fun _ => ⟨fun t ht u hu => (by
    rw [List.mem_singleton] at ht
    subst ht
    rw [Ty.vs_five, List.mem_singleton] at hu
    subst hu
    exact ⟨hn, h⟩), fun u h h' => (h' h).elim⟩⟩
/-- A variable that is met now. -/
theorem Searched.step {S : St} {v n : Int} {M M' : List Int} {l : List Ty} {t : Ty} {r : Bool} (hn : n ≠ v) (hs : S n = some t) (h : Searched S v (n :: M) [t] r M') : Searched S v M [.mk 5 n l] r M' where
  sub := fun u hu => h.sub u (by simp [hu])
  yes := fun e => by
    obtain ⟨t', ht, hi⟩ := h.yes e
    rw [List.mem_singleton] at ht
    subst ht
    exact ⟨.mk 5 n l, List.mem_singleton.2 rfl, In.var.2 (.inr ⟨_, hs, hi⟩)⟩
  no := fun e => by
    obtain ⟨h1, h2⟩ := h.no e
    have hm : n ∈ M' := h.sub n (by simp)
    refine ⟨fun t' ht u hu => ?_, fun u hu hnu t' ht w hw => ?_⟩
    · rw [List.mem_singleton] at ht
      subst ht
      rw [Ty.vs_five, List.mem_singleton] at hu
      subst hu
      exact ⟨hn, .inr hm⟩
    · by_cases e : u = n
      · subst e
        rw [hs] at ht
        cases ht
        exact h1 t (by simp) w hw
      · exact h2 u hu (by simp [e, hnu]) t' ht w hw
/-- A node's kids. -/
theorem Searched.node {S : St} {v k n : Int} {M M' : List Int} {l : List Ty} {r : Bool} (h5 : k ≠ 5) (h : Searched S v M l r M') : Searched S v M [.mk k n l] r M' where
  sub := h.sub
  yes := fun e => ⟨.mk k n l, List.mem_singleton.2 rfl, (In.kid h5).2 (h.yes e)⟩
  no := fun e => by
    obtain ⟨h1, h2⟩ := h.no e
    refine ⟨fun t ht u hu => ?_, h2⟩
    rw [List.mem_singleton] at ht
    subst ht
    rw [Ty.vs_other h5] at hu
    obtain ⟨t', ht', hu'⟩ := List.mem_flatMap.1 hu
    exact h1 t' ht' u hu'
/-- One kid more. -/
theorem Searched.more {S : St} {v : Int} {M M1 M2 : List Int} {l : List Ty} {t : Ty} {r : Bool} (h : Searched S v M l false M1) (k : Searched S v M1 [t] r M2) : Searched S v M (l ++ [t]) r M2 where
  sub := fun u hu => k.sub u (h.sub u hu)
  yes := fun e => by
    obtain ⟨t', ht, hi⟩ := k.yes e
    rw [List.mem_singleton] at ht
    subst ht
    exact ⟨_, List.mem_append_right _ (List.mem_singleton.2 rfl), hi⟩
  no := fun e => by
    obtain ⟨h1, h2⟩ := h.no rfl
    obtain ⟨k1, k2⟩ := k.no e
    refine ⟨fun t' ht u hu => ?_, fun u hu hnu t' ht w hw => ?_⟩
    · rcases List.mem_append.1 ht with ht | ht
      · exact (h1 t' ht u hu).mono k.sub
      · exact k1 t' ht u hu
    · by_cases hm : u ∈ M1
      · exact (h2 u hm hnu t' ht w hw).mono k.sub
      · exact k2 u hu hm t' ht w hw
/-- Found early: the kids behind it play no part. -/
theorem Searched.early {S : St} {v : Int} {M M' : List Int} {l m : List Ty} (h : Searched S v M l true M') : Searched S v M (l ++ m) true M' :=
  ⟨h.sub, fun e => let ⟨t, ht, hi⟩ := h.yes e; ⟨t, List.mem_append_left _ ht, hi⟩, fun e => (by cases e)⟩
/-- A whole search tells the truth. -/
theorem Searched.tells {S : St} {v : Int} {t : Ty} {r : Bool} {M' : List Int} (h : Searched S v [] [t] r M') : r = true ↔ In S v t := by
  constructor
  · intro e
    obtain ⟨t', ht, hi⟩ := h.yes e
    rw [List.mem_singleton] at ht
    subst ht
    exact hi
  · intro hi
    cases r with
    | true => rfl
    | false =>
      obtain ⟨h1, h2⟩ := h.no rfl
      obtain ⟨u, hu, hr⟩ := hi
      have key : ∀ u v', Reach S u v' → v' = v → ¬ Past S v M' u := by
        intro u v' hr
        induction hr with
        | refl => intro e hp; exact hp.1 e
        | step hs hw _ ih =>
          intro e hp
          rcases hp.2 with h | h
          · rw [h] at hs; cases hs
          · exact ih e (h2 _ h (by simp) _ hs _ hw)
      exact (key u v hr rfl (h1 t (by simp) u hu)).elim
/-- How many variables were not met. -/
def unmet (M : List Int) (n : Nat) : Nat := ((List.range n).filter fun i : Nat => !decide ((i : Int) ∈ M)).length
theorem unmet_le (M : List Int) (n : Nat) : unmet M n ≤ n := Nat.le_trans (List.length_filter_le _ _) (by simp)
theorem unmet_succ (M : List Int) (n : Nat) : unmet M (n + 1) = unmet M n + if (n : Int) ∈ M then 0 else 1 := by
  unfold unmet
  rw [List.range_succ, List.filter_append, List.length_append]
  congr 1
  by_cases h : (n : Int) ∈ M <;> simp [h]
theorem unmet_off {M : List Int} {n : Nat} {v : Int} (h : v < 0 ∨ (n : Int) ≤ v) : unmet (v :: M) n = unmet M n := by
  induction n with
  | zero => rfl
  | succ n ih =>
    rw [unmet_succ, unmet_succ, ih (by omega)]
    have : (n : Int) ≠ v := by omega
    simp [this]
theorem unmet_put {M : List Int} {n : Nat} {v : Int} (h0 : 0 ≤ v) (h1 : v < n) (hm : v ∉ M) : unmet (v :: M) n + 1 = unmet M n := by
  induction n with
  | zero => omega
  | succ n ih =>
    rw [unmet_succ, unmet_succ]
    by_cases e : v = n
    · subst e
      rw [unmet_off (by omega)]
      simp [hm]
    · have e' : (n : Int) ≠ v := fun h => e h.symm
      have := ih (by omega)
      simp only [List.mem_cons, e', false_or]
      omega
end Go.Proofs.Ytkjjbackkipfdaa
