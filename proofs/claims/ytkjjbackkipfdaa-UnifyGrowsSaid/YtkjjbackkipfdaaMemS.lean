/- Types laid behind one another in a row of the call's own. No program in sight. -/
import Derived.Test.YtkjjbackkipfdaaMem
import Derived.Test.YtkjjbackkipfdaaHeld
import Derived.Test.YtkjjbackkipfdaaAppend
namespace Go.Proofs.Ytkjjbackkipfdaa
open Go Go.RowKit Go.Sort

/-- The cells of types. -/
def TyRow (A : Nat → Prop) (w : World) : List Ty → List Value → Prop
  | [], xs => xs = []
  | t :: l, xs => ∃ c0 c1 c2 rest, xs = c0 :: c1 :: c2 :: rest ∧ IsTyA A w t (.agg #[c0, c1, c2]) ∧ TyRow A w l rest
theorem TyRow.move {A A' : Nat → Prop} {w w' : World} (hA : ∀ b, b < w.heap.size → A' b → A b) (hc : ∀ p v, ¬ A p.block → w.cell? p = some v → w'.cell? p = some v) {l : List Ty} {xs : List Value} (h : TyRow A w l xs) : TyRow A' w' l xs := by
  induction l generalizing xs with
  | nil => exact h
  | cons t l ih =>
    obtain ⟨c0, c1, c2, rest, e, h1, h2⟩ := h
    exact ⟨c0, c1, c2, rest, e, h1.move hA hc, ih h2⟩
theorem TyRow.extx {A X : Nat → Prop} {w w' : World} (hx : ExtX X w w') (hX : ∀ b, X b → A b) {l : List Ty} {xs : List Value} (h : TyRow A w l xs) : TyRow A w' l xs := h.move (fun _ _ h => h) fun _ _ hA hu => hx.cell (fun g => hA (hX _ g)) hu
theorem TyRow.ext {A : Nat → Prop} {w w' : World} (hx : Ext w w') {l : List Ty} {xs : List Value} (h : TyRow A w l xs) : TyRow A w' l xs := h.move (fun _ _ h => h) fun _ _ _ hu => hx.cell hu
theorem TyRow.length {A : Nat → Prop} {w : World} {l : List Ty} {xs : List Value} (h : TyRow A w l xs) : xs.length = l.length * 3 := by
  induction l generalizing xs with
  | nil => simp only [TyRow] at h; subst h; rfl
  | cons t l ih =>
    obtain ⟨c0, c1, c2, rest, rfl, h1, h2⟩ := h
    have := ih h2
    simp
    omega
theorem ty_one {A : Nat → Prop} {w : World} {t : Ty} {c0 c1 c2 : Value} (h : IsTyA A w t (.agg #[c0, c1, c2])) : c0.oneCell' = true ∧ c1.oneCell' = true ∧ c2.oneCell' = true := by
  obtain ⟨k, n, l⟩ := t
  obtain ⟨a, len, cap, e, -⟩ := h.open_
  simp at e
  obtain ⟨rfl, rfl, rfl⟩ := e
  exact ⟨rfl, rfl, rfl⟩
theorem TyRow.append {A : Nat → Prop} {w : World} {l : List Ty} {xs : List Value} (h : TyRow A w l xs) {t : Ty} {c0 c1 c2 : Value} (k : IsTyA A w t (.agg #[c0, c1, c2])) : TyRow A w (l ++ [t]) (xs ++ [c0, c1, c2]) := by
  induction l generalizing xs with
  | nil => simp only [TyRow] at h; subst h; exact ⟨c0, c1, c2, [], rfl, k, rfl⟩
  | cons t' l ih =>
    obtain ⟨d0, d1, d2, rest, rfl, h1, h2⟩ := h
    exact ⟨d0, d1, d2, _, rfl, h1, ih h2⟩
theorem TyRow.at_ {A : Nat → Prop} {w : World} {l : List Ty} {xs : List Value} (h : TyRow A w l xs) {i : Nat} {t : Ty} (hi : l[i]? = some t) : ∃ c0 c1 c2, xs[i * 3]? = some c0 ∧ xs[i * 3 + 1]? = some c1 ∧ xs[i * 3 + 2]? = some c2 ∧ IsTyA A w t (.agg #[c0, c1, c2]) := by
  induction l generalizing xs i with
  | nil => simp at hi
  | cons t' l ih =>
    obtain ⟨d0, d1, d2, rest, rfl, h1, h2⟩ := h
    cases i with
    | zero => simp at hi; subst hi; exact ⟨d0, d1, d2, rfl, rfl, rfl, h1⟩
    | succ i =>
      obtain ⟨c0, c1, c2, g0, g1, g2, g3⟩ := ih h2 (i := i) (by simpa using hi)
      refine ⟨c0, c1, c2, ?_, ?_, ?_, g3⟩
      · rw [show (i + 1) * 3 = i * 3 + 1 + 1 + 1 by omega]; simpa using g0
      · rw [show (i + 1) * 3 + 1 = (i * 3 + 1) + 1 + 1 + 1 by omega]; simpa using g1
      · rw [show (i + 1) * 3 + 2 = (i * 3 + 2) + 1 + 1 + 1 by omega]; simpa using g2
/-- All blocks below one, and a row's own. -/
def KidT (base : Nat) (v : Value) : Nat → Prop := fun b => b < base ∨ v.ownBlock = some b
/-- The row has grown. -/
theorem TyRow.grown {base : Nat} {v v' : Value} {w w' : World} {l : List Ty} {xs : List Value} (h : TyRow (KidT base v) w l xs) (hg : w.grownBy w' v.ownBlock) (hw : v'.ownBlock = v.ownBlock ∨ ∀ k, v'.ownBlock = some k → w.heap.size ≤ k) : TyRow (KidT base v') w' l xs :=
  h.move (fun b hb hA' => by
    rcases hA' with h | h
    · exact .inl h
    · rcases hw with hw | hw
      · exact .inr (by rw [← hw]; exact h)
      · have := hw b h; omega) fun p u hA hu => hg.cell hu (fun e => hA (.inr e.symm))
theorem IsTyA.grownT {A : Nat → Prop} {base : Nat} {v v' : Value} {w w' : World} {t : Ty} {x : Value} (h : IsTyA A w t x) (hA : ∀ b, KidT base v b → A b) (hg : w.grownBy w' v.ownBlock) (hw : v'.ownBlock = v.ownBlock ∨ ∀ k, v'.ownBlock = some k → w.heap.size ≤ k) : IsTyA (KidT base v') w' t x :=
  h.move (fun b hb hA' => by
    rcases hA' with h | h
    · exact hA b (.inl h)
    · rcases hw with hw | hw
      · exact hA b (.inr (by rw [← hw]; exact h))
      · have := hw b h; omega) fun p u hq hu => hg.cell hu (fun e => hq (hA _ (.inr e.symm)))
/-- The row, told as types in memory. -/
theorem TyRow.tys {base n : Nat} {e : TypeId} {v : Value} {w : World} {l : List Ty} {xs : List Value} (ho : w.ownsRow base e 3 v n xs) (h : TyRow (KidT base v) w l xs) : ∃ a cap, v = .slice a n cap ∧ n ≤ cap ∧ cap ≤ 9223372036854775807 ∧ IsTysA (fun b => b < base) w l a n := by
  have hn : n = l.length := by
    have h1 := ho.1
    have h2 := h.length
    omega
  by_cases h0 : 0 < n
  · obtain ⟨g, cap, rfl, hg, hlt, h1, h2, hc⟩ := owns_open ho h0
    refine ⟨_, cap, rfl, h1, h2, ?_⟩
    rw [hn]
    refine IsTysA.of_cells l g 0 (by omega) fun i t hi => ?_
    obtain ⟨c0, c1, c2, g0, g1, g2, g3⟩ := h.at_ hi
    exact ⟨c0, c1, c2, by have := hc _ _ g0; simpa using this, by have := hc _ _ g1; simpa using this, by have := hc _ _ g2; simpa using this, g3.off fun b _ hb => .inl hb⟩
  · obtain rfl : l = [] := List.eq_nil_of_length_eq_zero (by omega)
    obtain rfl : n = 0 := by omega
    rcases ho.2 with ⟨rfl, _⟩ | ⟨g, cap, cur, rfl, hg, hh, h1, h2, h3, h4⟩
    · exact ⟨none, 0, rfl, Nat.le_refl _, by omega, IsTysA.nil _⟩
    · exact ⟨_, cap, rfl, h1, h2, IsTysA.nil _⟩
theorem list_atT (w : World) (l : List Value) (T : TypeId) : ∀ i u, l[i]? = some u → (w.alloc (.cells l.toArray T)).cell? ((⟨w.heap.size, 0, none⟩ : Addr).add i) = some u := fun i u hu => by
  rw [Addr.add_lit, Nat.zero_add]
  exact (World.cell?_alloc_new w _ _ _).trans (by simpa using hu)
theorem owns_keepT {A : Nat → Prop} {w w' : World} (hx : ExtX A w w') {base : Nat} (hA : ∀ k, A k → k < base) {e : TypeId} {size n : Nat} {v : Value} {xs : List Value} (h : w.ownsRow base e size v n xs) : w'.ownsRow base e size v n xs := by
  refine ⟨h.1, h.2.imp id fun ⟨g, cap, cur, ev, hg, hh, r⟩ => ⟨g, cap, cur, ev, hg, ?_, r⟩⟩
  have hlt : g < w.heap.size := by
    rcases Nat.lt_or_ge g w.heap.size with hl | hl
    · exact hl
    · rw [Array.getElem?_eq_none hl] at hh; cases hh
  exact (hx.block g hlt (fun k => by have := hA g k; omega)).trans hh
end Go.Proofs.Ytkjjbackkipfdaa
