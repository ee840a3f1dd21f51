/- What the rows hand over: arguments that read as data are types in memory. -/
import Derived.Test.YtkjjbackkipfdaaMem
import Derived.Test.YtkjjbackkipfdaaProg
import Derived.ProofKit
import Derived.OpenShut
namespace Go.Proofs.Ytkjjbackkipfdaa
open Go Go.RowKit Go.Sort
open Go.ChangeShapes Go.WideShapes

theorem choose_list {α : Type} {P : Nat → α → Prop} (n : Nat) (h : ∀ i, i < n → ∃ t, P i t) : ∃ l : List α, l.length = n ∧ ∀ i t, l[i]? = some t → P i t := by
  induction n with
  | zero => exact ⟨[], rfl, fun i t h => by simp at h⟩
  | succ n ih =>
    obtain ⟨l, hl, hp⟩ := ih fun i hi => h i (by omega)
    obtain ⟨t, ht⟩ := h n (by omega)
    refine ⟨l ++ [t], by simp [hl], fun i t' hi => ?_⟩
    rcases Nat.lt_or_ge i n with hlt | hge
    · rw [List.getElem?_append_left (by omega)] at hi
      exact hp i t' hi
    · rw [List.getElem?_append_right (by omega)] at hi
      have : i = n := by
        rcases Nat.lt_or_ge (i - l.length) 1 with h1 | h1
        · omega
        · rw [List.getElem?_eq_none (by simpa using h1)] at hi; cases hi
      subst this
      simp [hl] at hi
      subst hi
      exact ht

section
variable {H : Type} {enc : TypeId × Value → H} {w : World} {base : Nat} {spare : Nat → Bool} {held : Bool}
theorem cellsTy : Try.prog.cellsOf 25 = 3 := by kernel_rfl
theorem isTys_of (n : Nat) (ih : ∀ (cs : List Value) (x : DataW H × List MemPlace), DataW.trod enc Try.prog w base spare held n 25 cs = some x → ∃ t, IsTy w t (.agg cs.toArray))
    (v : Value) (x : DataW H × List MemPlace) (h : DataW.trod enc Try.prog w base spare held (n + 1) 23 [v] = some x) : ∃ l a len cap, v = .slice a len cap ∧ len ≤ cap ∧ cap ≤ maxLen ∧ IsTys w l a len := by
  rcases DataW.trod_slice Try.underlying23 h with ⟨h0, _⟩ | ⟨a, len, cap, elems, rest, n', hn, hcs, _, _, hl, hm, hlen, hel, _, _⟩
  · simp at h0
    subst h0
    exact ⟨[], none, 0, 0, rfl, Nat.le_refl _, by omega, IsTysA.nil _⟩
  · obtain rfl : n = n' := by omega
    simp at hcs
    subst hcs
    have hg : ∀ i, i < len → ∃ t, ∃ c0 c1 c2, w.cell? (a.add (i * 3)) = some c0 ∧ w.cell? ((a.add (i * 3)).add 1) = some c1 ∧ w.cell? ((a.add (i * 3)).add 2) = some c2 ∧ IsTy w t (.agg #[c0, c1, c2]) := by
      intro i hi
      have he := hel i hi
      rw [cellsTy, List.getElem?_eq_getElem (by omega)] at he
      obtain ⟨cs, hcs, htr⟩ := Option.bind_eq_some_iff.1 he
      obtain ⟨_, hcl, hat⟩ := World.cells?_some hcs
      obtain ⟨t, ht⟩ := ih cs _ htr
      match cs, hcl with
      | [c0, c1, c2], _ =>
        exact ⟨t, c0, c1, c2, by simpa [Addr.add] using hat 0 (by omega), hat 1 (by omega), hat 2 (by omega), ht⟩
    obtain ⟨l, hll, hp⟩ := choose_list len hg
    refine ⟨l, some a, len, cap, rfl, hl, hm, ?_⟩
    subst hll
    cases l with
    | nil => exact IsTysA.nil _
    | cons t0 l0 =>
      obtain ⟨b, o, sp⟩ := a
      obtain ⟨c0, _, _, g0, _⟩ := hp 0 t0 rfl
      have hsp := cell_spot g0
      simp [Addr.add] at hsp
      subst hsp
      refine IsTysA.of_cells (t0 :: l0) b o id fun i t hi => ?_
      obtain ⟨c0, c1, c2, g0, g1, g2, gt⟩ := hp i t hi
      refine ⟨c0, c1, c2, ?_, ?_, ?_, gt⟩
      · rw [← g0]; simp [go_sem]
      · rw [← g1]; simp [go_sem, Addr.add_lit]
      · rw [← g2]; simp [go_sem, Addr.add_lit]
theorem isTy_trod (fuel : Nat) : ∀ (cs : List Value) (x : DataW H × List MemPlace), DataW.trod enc Try.prog w base spare held fuel 25 cs = some x → ∃ t, IsTy w t (.agg cs.toArray) := by
  induction fuel using Nat.strongRecOn with
  | _ fuel ih =>
    intro cs x h
    obtain ⟨xs, n, hn, hx, hlen, hxl, hf⟩ := DataW.trod_struct Try.underlying25 h
    rw [cellsTy] at hlen
    match cs, hlen with
    | [c0, c1, c2], _ =>
      have f0 := hf 0 _ rfl
      have f1 := hf 1 _ rfl
      have f2 := hf 2 _ rfl
      rw [List.getElem?_eq_getElem (by rw [hxl]; decide)] at f0 f1 f2
      have k0 : Try.prog.cellsOf 5 = 1 := by kernel_rfl
      have k1 : Try.prog.cellsOf 3 = 1 := by kernel_rfl
      have k2 : Try.prog.cellsOf 23 = 1 := by kernel_rfl
      simp [k0, k1, k2] at f0 f1 f2
      obtain ⟨k, e0, _, w0⟩ := DataW.trod_int Try.underlying5 f0
      obtain ⟨m, e1, _, w1⟩ := DataW.trod_int Try.underlying3 f1
      simp at e0 e1
      subst e0 e1
      cases n with
      | zero => simp [DataW.trod] at f2
      | succ n =>
        obtain ⟨l, a, len, cap, rfl, h1, h2, hl⟩ := isTys_of n (fun cs x h => ih n (by omega) cs x h) c2 _ f2
        have b0 := bounds_u8 w0
        have b1 := bounds_i64 w1
        exact ⟨.mk k m l, IsTyA.mk_ hl h1 h2 b0.1 b0.2 b1.1 b1.2⟩
theorem isTys_trod (fuel : Nat) (v : Value) (x : DataW H × List MemPlace) (h : DataW.trod enc Try.prog w base spare held fuel 23 [v] = some x) : ∃ l a len cap, v = .slice a len cap ∧ len ≤ cap ∧ cap ≤ maxLen ∧ IsTys w l a len := by
  cases fuel with
  | zero => simp [DataW.trod] at h
  | succ n => exact isTys_of n (fun cs x h => isTy_trod n cs x h) v x h
end
end Go.Proofs.Ytkjjbackkipfdaa
