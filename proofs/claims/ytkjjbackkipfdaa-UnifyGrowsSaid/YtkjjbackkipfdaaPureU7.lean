/- The reference's look for ways that come round; cells' trees. In plain Lean; no program in sight. -/
import Derived.Test.YtkjjbackkipfdaaPureU6
namespace Go.Proofs.Ytkjjbackkipfdaa
open Relation

def kidsR (R : List Int → Nat → Option (List Int × Bool)) : List Int → List Nat → Option (List Int × Bool)
  | st, [] => some (st, false)
  | st, k :: l => (R st k).bind fun q => if q.2 then some (q.1, true) else kidsR R q.1 l
/-- A cell's state: 0 not met, 1 on the way, 2 done. -/
noncomputable def roundF (L : Cs) : Nat → List Int → Nat → Option (List Int × Bool)
  | 0, _, _ => none
  | f + 1, st, i => if 0 < st.getD (findD L i) 0 then some (st, decide (st.getD (findD L i) 0 = 1))
    else (kidsR (roundF L f) (st.set (findD L i) 1) ((L[findD L i]?.map Cel.kids).getD [])).map fun q => if q.2 then (q.1, true) else (q.1.set (findD L i) 2, false)
/-- States that tell the truth. -/
structure Tells (L : Cs) (st : List Int) : Prop where
  len : st.length = L.length
  bd : ∀ j, 0 ≤ st.getD j 0 ∧ st.getD j 0 ≤ 2
  done : ∀ j, st.getD j 0 = 2 → Acc (Kid L) j
def zeros (st : List Int) : Nat := (st.filter fun x => decide (x = 0)).length
theorem zeros_set (st : List Int) : ∀ (i : Nat) (x : Int), i < st.length → st.getD i 0 = 0 → x ≠ 0 → zeros (st.set i x) < zeros st := by
  unfold zeros
  induction st with
  | nil => intro i x h; simp at h
  | cons a st ih =>
    intro i x h h1 h2
    cases i with
    | zero =>
      simp at h1
      subst h1
      have e2 : decide (x = 0) = false := by simpa using h2
      simp [e2]
    | succ i =>
      have := ih i x (by simpa using h) (by simpa using h1) h2
      simp only [List.set_cons_succ, List.filter_cons]
      split <;> simp <;> omega
theorem zeros_set_le (st : List Int) : ∀ (i : Nat) (x : Int), x ≠ 0 → zeros (st.set i x) ≤ zeros st := by
  unfold zeros
  induction st with
  | nil => intro _ x h; simp
  | cons a st ih =>
    intro i x h2
    cases i with
    | zero =>
      have e2 : decide (x = 0) = false := by simpa using h2
      simp only [List.set_cons_zero, List.filter_cons, e2, Bool.false_eq_true, if_false]
      split <;> simp
    | succ i =>
      have := ih i x h2
      simp only [List.set_cons_succ, List.filter_cons]
      split <;> simp <;> omega
theorem getD_set (st : List Int) (i j : Nat) (x : Int) (h : i < st.length) : (st.set i x).getD j 0 = if j = i then x else st.getD j 0 := by
  simp only [List.getD_eq_getElem?_getD, List.getElem?_set]
  by_cases e : i = j
  · subst e; simp [h]
  · rw [if_neg e, if_neg (fun h => e h.symm)]
/-- What a look at a cell tells. -/
def RoundOk (L : Cs) (z : Nat) (R : List Int → Nat → Option (List Int × Bool)) : Prop :=
  ∀ st i, Tells L st → i < L.length → zeros st ≤ z → (∀ j, st.getD j 0 = 1 → TransGen (Kid L) (findD L i) j) →
    ∃ st' b, R st i = some (st', b) ∧ (b = true → ∃ j, TransGen (Kid L) j j) ∧ (b = false → Tells L st' ∧ zeros st' ≤ zeros st ∧ Acc (Kid L) (findD L i) ∧ ∀ j, st'.getD j 0 = 1 ↔ st.getD j 0 = 1)
theorem kidsR_ok {L : Cs} {z : Nat} {R : List Int → Nat → Option (List Int × Bool)} (hR : RoundOk L z R) (l : List Nat) : ∀ st, Tells L st → zeros st ≤ z → (∀ k, k ∈ l → k < L.length) → (∀ k, k ∈ l → ∀ j, st.getD j 0 = 1 → TransGen (Kid L) (findD L k) j) →
    ∃ st' b, kidsR R st l = some (st', b) ∧ (b = true → ∃ j, TransGen (Kid L) j j) ∧ (b = false → Tells L st' ∧ zeros st' ≤ zeros st ∧ (∀ k, k ∈ l → Acc (Kid L) (findD L k)) ∧ ∀ j, st'.getD j 0 = 1 ↔ st.getD j 0 = 1) := by
  induction l with
  | nil => intro st t _ _ _; exact ⟨st, false, rfl, (fun h => by cases h), fun _ => ⟨t, Nat.le_refl _, by simp, fun _ => Iff.rfl⟩⟩
  | cons k l ih =>
    intro st t hz hk hg
    obtain ⟨st1, b, e, h1, h2⟩ := hR st k t (hk k (by simp)) hz (hg k (by simp))
    cases b with
    | true => exact ⟨st1, true, by simp [kidsR, e], fun _ => h1 rfl, fun h => by cases h⟩
    | false =>
      obtain ⟨t1, z1, a1, g1⟩ := h2 rfl
      obtain ⟨st2, b2, e2, h3, h4⟩ := ih st1 t1 (by omega) (fun k hk' => hk k (by simp [hk'])) (fun k hk' j hj => hg k (by simp [hk']) j ((g1 j).1 hj))
      refine ⟨st2, b2, by simp [kidsR, e, e2], h3, fun hb => ?_⟩
      obtain ⟨t2, z2, a2, g2⟩ := h4 hb
      refine ⟨t2, by omega, fun k' hk' => ?_, fun j => (g2 j).trans (g1 j)⟩
      rcases List.mem_cons.1 hk' with rfl | hk'
      · exact a1
      · exact a2 k' hk'
theorem roundF_ok {L : Cs} (w : Wf L) : ∀ z, RoundOk L z (roundF L (z + 1)) := by
  intro z
  induction z with
  | zero =>
    intro st i t hi hz hg
    have hf := findD_find w hi
    obtain ⟨c, ec, hc⟩ := hf.root
    unfold roundF
    by_cases h0 : 0 < st.getD (findD L i) 0
    · rw [if_pos h0]
      refine ⟨_, _, rfl, fun hb => ?_, fun hb => ?_⟩
      · exact ⟨_, hg _ (of_decide_eq_true hb)⟩
      · have := t.bd (findD L i)
        exact ⟨t, Nat.le_refl _, t.done _ (by have := of_decide_eq_false hb; omega), fun _ => Iff.rfl⟩
    · have := t.bd (findD L i)
      have := zeros_set st (findD L i) 1 (by rw [t.len]; exact lt_of_some ec) (by omega) (by omega)
      omega
  | succ z ih =>
    intro st i t hi hz hg
    have hf := findD_find w hi
    obtain ⟨c, ec, hc⟩ := hf.root
    unfold roundF
    by_cases h0 : 0 < st.getD (findD L i) 0
    · rw [if_pos h0]
      refine ⟨_, _, rfl, fun hb => ?_, fun hb => ?_⟩
      · exact ⟨_, hg _ (of_decide_eq_true hb)⟩
      · have := t.bd (findD L i)
        exact ⟨t, Nat.le_refl _, t.done _ (by have := of_decide_eq_false hb; omega), fun _ => Iff.rfl⟩
    rw [if_neg h0]
    have hb0 := t.bd (findD L i)
    have hl : findD L i < st.length := by rw [t.len]; exact lt_of_some ec
    have hzs := zeros_set st (findD L i) 1 hl (by omega) (by omega)
    rw [ec]
    simp only [Option.map_some, Option.getD_some]
    generalize findD L i = r at *
    have t1 : Tells L (st.set r 1) := by
      refine ⟨by simpa using t.len, fun j => ?_, fun j hj => ?_⟩
      · rw [getD_set _ _ _ _ hl]; split
        · omega
        · exact t.bd j
      · rw [getD_set _ _ _ _ hl] at hj; split at hj
        · omega
        · exact t.done j hj
    have hkid : ∀ k, k ∈ c.kids → c.kind ≠ 0 → Kid L (findD L k) r := fun k hk h0 => ⟨c, ec, hc, h0, k, hk, findD_find w (w.kids r c ec k hk)⟩
    have hne : ∀ k, k ∈ c.kids → c.kind ≠ 0 := fun k hk h0 => by rw [w.bare r c ec h0] at hk; cases hk
    obtain ⟨st2, b, e, h1, h2⟩ := kidsR_ok ih c.kids (st.set r 1) t1 (by omega) (w.kids r c ec) (fun k hk j hj => by
      rw [getD_set _ _ _ _ hl] at hj
      split at hj
      · rename_i e; subst e; exact .single (hkid k hk (hne k hk))
      · exact (TransGen.single (hkid k hk (hne k hk))).trans (hg j hj))
    rw [e]
    cases b with
    | true => exact ⟨st2, true, rfl, fun _ => h1 rfl, fun h => by cases h⟩
    | false =>
      obtain ⟨t2, z2, a2, g2⟩ := h2 rfl
      have ha : Acc (Kid L) r := ⟨r, fun y hy => by
        obtain ⟨c', e', _, _, k, hk, hf⟩ := hy
        rw [ec] at e'
        cases e'
        rw [← findD_eq hf]
        exact a2 k hk⟩
      have hl2 : r < st2.length := by rw [t2.len]; exact lt_of_some ec
      refine ⟨st2.set r 2, false, rfl, (fun h => by cases h), fun _ => ⟨⟨by simpa using t2.len, fun j => ?_, fun j hj => ?_⟩, ?_, ha, fun j => ?_⟩⟩
      · rw [getD_set _ _ _ _ hl2]; split
        · omega
        · exact t2.bd j
      · rw [getD_set _ _ _ _ hl2] at hj; split at hj
        · rename_i e; subst e; exact ha
        · exact t2.done j hj
      · have := zeros_set_le st2 r 2 (by omega)
        omega
      · rw [getD_set _ _ _ _ hl2]
        split
        · rename_i e
          subst e
          constructor
          · intro h; omega
          · intro h; omega
        · rename_i e
          rw [g2 j, getD_set _ _ _ _ hl, if_neg e]
/-- Does no way come round? -/
noncomputable def finC (L : Cs) : Option Bool := (kidsR (roundF L (L.length + 1)) (List.replicate L.length 0) (List.range L.length)).map fun q => !q.2
theorem getD_zeros (n j : Nat) : (List.replicate n (0 : Int)).getD j 0 = 0 := by
  simp only [List.getD_eq_getElem?_getD, List.getElem?_replicate]
  split <;> rfl
theorem zeros_all (n : Nat) : zeros (List.replicate n 0) = n := by
  unfold zeros
  rw [List.filter_eq_self.2]
  · simp
  · intro x hx
    simpa using (List.mem_replicate.1 hx).2
theorem finC_ok {L : Cs} (w : Wf L) : ∃ b, finC L = some b ∧ (b = true → ∀ i, i < L.length → Acc (Kid L) (findD L i)) ∧ (b = false → ∀ φ, ¬ Okc φ L) := by
  obtain ⟨st, b, e, h1, h2⟩ := kidsR_ok (roundF_ok w L.length) (List.range L.length) (List.replicate L.length 0) ⟨by simp, fun j => by rw [getD_zeros]; omega, fun j h => by rw [getD_zeros] at h; omega⟩ (by rw [zeros_all]; exact Nat.le_refl _) (fun k hk => by simpa using hk) (fun k _ j h => by rw [getD_zeros] at h; omega)
  refine ⟨!b, by unfold finC; rw [e]; rfl, fun hb => ?_, fun hb => ?_⟩
  · intro i hi
    exact (h2 (by simpa using hb)).2.2.1 i (by simpa using hi)
  · obtain ⟨j, hj⟩ := h1 (by simpa using hb)
    exact Kid.never hj
/-- How high a root's tree is at most. -/
def Ht (L : Cs) : Nat → Nat → Prop
  | 0, _ => False
  | m + 1, i => ∀ r, Kid L r i → Ht L m r
theorem Ht.succ {L : Cs} : ∀ {m i : Nat}, Ht L m i → Ht L (m + 1) i
  | 0, _, h => h.elim
  | m + 1, _, h => fun r hr => Ht.succ (m := m) (h r hr)
theorem Ht.le {L : Cs} {m m' i : Nat} (h : m ≤ m') (g : Ht L m i) : Ht L m' i := by
  induction h with
  | refl => exact g
  | step _ ih => exact ih.succ
theorem acc_ht {L : Cs} {i : Nat} (h : Acc (Kid L) i) : ∃ m, Ht L m i := by
  induction h with
  | intro i _ ih =>
    cases e : L[i]? with
    | none => exact ⟨1, fun r hr => by obtain ⟨c, e', _⟩ := hr; rw [e] at e'; cases e'⟩
    | some c =>
      have key : ∀ l : List Nat, (∀ k, k ∈ l → k ∈ c.kids) → ∃ m, ∀ k, k ∈ l → Kid L (findD L k) i → Ht L m (findD L k) := by
        intro l
        induction l with
        | nil => intro _; exact ⟨0, by simp⟩
        | cons k l ihl =>
          intro hk
          obtain ⟨m, hm⟩ := ihl fun k hk' => hk k (by simp [hk'])
          by_cases hkk : Kid L (findD L k) i
          · obtain ⟨m', hm'⟩ := ih _ hkk
            refine ⟨max m m', fun k' hk' hkk' => ?_⟩
            rcases List.mem_cons.1 hk' with rfl | hk'
            · exact hm'.le (Nat.le_max_right _ _)
            · exact (hm k' hk' hkk').le (Nat.le_max_left _ _)
          · refine ⟨m, fun k' hk' hkk' => ?_⟩
            rcases List.mem_cons.1 hk' with rfl | hk'
            · exact absurd hkk' hkk
            · exact hm k' hk' hkk'
      obtain ⟨m, hm⟩ := key c.kids fun _ h => h
      refine ⟨m + 1, fun r hr => ?_⟩
      have hr' := hr
      obtain ⟨c', e', _, _, k, hk, hf⟩ := hr
      rw [e] at e'
      cases e'
      rw [← findD_eq hf] at hr' ⊢
      exact hm k hk hr'
noncomputable def treeF (L : Cs) : Nat → Nat → Ty
  | 0, _ => vr 0
  | f + 1, i => match L[findD L i]? with
    | some c => if c.kind = 0 then vr c.var else .mk c.kind 0 (c.kids.map (treeF L f))
    | none => vr 0
theorem treeF_fuel {L : Cs} (w : Wf L) : ∀ (m f g i : Nat), Ht L m (findD L i) → i < L.length → m ≤ f → m ≤ g → treeF L f i = treeF L g i := by
  intro m
  induction m with
  | zero => intro f g i h; exact h.elim
  | succ m ih =>
    intro f g i h hi hf hg
    obtain ⟨f, rfl⟩ : ∃ f', f = f' + 1 := ⟨f - 1, by omega⟩
    obtain ⟨g, rfl⟩ : ∃ f', g = f' + 1 := ⟨g - 1, by omega⟩
    unfold treeF
    have hfd := findD_find w hi
    obtain ⟨c, ec, hc⟩ := hfd.root
    rw [ec]
    simp only
    split
    · rfl
    · rename_i h0
      congr 1
      exact List.map_congr_left fun k hk => by
        have hkl := w.kids _ c ec k hk
        exact ih f g k (h _ ⟨c, ec, hc, h0, k, hk, findD_find w hkl⟩) hkl (by omega) (by omega)
/-- Trees of cells, open ones as variables. -/
structure Trees (φ : Nat → Ty) (L : Cs) : Prop where
  ok : Okc φ L
  open_ : ∀ (i : Nat) (c : Cel), L[i]? = some c → c.to < 0 → c.kind = 0 → φ i = vr c.var
theorem trees_some {L : Cs} (w : Wf L) (h : ∀ i, i < L.length → Acc (Kid L) (findD L i)) : ∃ φ, Trees φ L := by
  have hm : ∃ m, ∀ i, i < L.length → Ht L m (findD L i) := by
    have key : ∀ n, n ≤ L.length → ∃ m, ∀ i, i < n → Ht L m (findD L i) := by
      intro n
      induction n with
      | zero => intro _; exact ⟨0, fun i h => by omega⟩
      | succ n ih =>
        intro hn
        obtain ⟨m, hm⟩ := ih (by omega)
        obtain ⟨m', hm'⟩ := acc_ht (h n (by omega))
        refine ⟨max m m', fun i hi => ?_⟩
        by_cases e : i = n
        · subst e; exact hm'.le (Nat.le_max_right _ _)
        · exact (hm i (by omega)).le (Nat.le_max_left _ _)
    exact key _ (Nat.le_refl _)
  obtain ⟨m, hm⟩ := hm
  refine ⟨treeF L (m + 1), fun i c e => ⟨fun j hj => ?_, fun h1 h2 => ?_⟩, fun i c e h1 h0 => ?_⟩
  · have hjl : j < L.length := by have := w.to i c e; omega
    have fj := findD_find w hjl
    have fi : findD L i = findD L j := findD_eq (.step e hj fj)
    unfold treeF
    rw [fi]
  · have fi : findD L i = i := findD_eq (.here e h1)
    conv => lhs; unfold treeF
    rw [fi, e]
    simp only
    rw [if_neg h2]
    congr 1
    exact List.map_congr_left fun k hk => by
      have hkl := w.kids i c e k hk
      exact treeF_fuel w m m (m + 1) k (hm k hkl) hkl (Nat.le_refl _) (by omega)
  · have fi : findD L i = i := findD_eq (.here e h1)
    unfold treeF
    rw [fi, e]
    simp only
    rw [if_pos h0]
end Go.Proofs.Ytkjjbackkipfdaa
