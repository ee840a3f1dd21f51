/- What the rows hand over: arguments that read as data are tokens in memory. -/
import Derived.Test.YtmomahgedheekaaDoorArgsW
import Derived.Test.YtmomahgedheekaaDoorMemK
namespace Go.Proofs.YtmomahgedheekaaDoor
open Go Go.RowKit Go.Sort
open Go.ChangeShapes Go.WideShapes

section
variable {H : Type} {enc : TypeId × Value → H} {w : World} {base : Nat} {spare : Nat → Bool} {held : Bool}
theorem cellsTk : Tryd.prog.cellsOf 59 = 3 := by kernel_rfl
set_option maxRecDepth 8000 in
theorem isTkL_trod (fuel : Nat) (cs : List Value) (x : DataW H × List MemPlace) (h : DataW.trod enc Tryd.prog w base spare held fuel 59 cs = some x) :
    ∃ d : Tk, d.Fits ∧ cs = tkcells d := by
  obtain ⟨xs, n, hn, hx, hlen, hxl, hf⟩ := DataW.trod_struct Tryd.underlying59 h
  rw [cellsTk] at hlen
  match cs, hlen with
  | [c0, c1, c2], _ =>
    have f0 := hf 0 _ rfl
    have f1 := hf 1 _ rfl
    have f2 := hf 2 _ rfl
    rw [List.getElem?_eq_getElem (by rw [hxl]; decide)] at f0 f1 f2
    have k0 : Tryd.prog.cellsOf 5 = 1 := by kernel_rfl
    have k1 : Tryd.prog.cellsOf 9 = 1 := by kernel_rfl
    have k2 : Tryd.prog.cellsOf 3 = 1 := by kernel_rfl
    simp [k0, k1, k2] at f0 f1 f2
    obtain ⟨k, e0, _, w0⟩ := DataW.trod_int Tryd.underlying5 f0
    obtain ⟨s, e1, _, w1⟩ := DataW.trod_string Tryd.underlying9 f1
    obtain ⟨m, e2, _, w2⟩ := DataW.trod_int Tryd.underlying3 f2
    simp at e0 e1 e2
    subst e0 e1 e2
    have b0 := bounds_u8 w0
    have b2 := bounds_i64 w2
    exact ⟨⟨k, s, m⟩, ⟨b0.1, b0.2, b2.1, b2.2, w1⟩, rfl⟩
theorem isToks_trod (fuel : Nat) (v : Value) (x : DataW H × List MemPlace) (h : DataW.trod enc Tryd.prog w base spare held fuel 36 [v] = some x) : ∃ l a len cap, v = .slice a len cap ∧ len ≤ cap ∧ cap ≤ maxLen ∧ IsToks w l a len := by
  rcases DataW.trod_slice Tryd.underlying36 h with ⟨h0, _⟩ | ⟨a, len, cap, elems, rest, n', hn, hcs, _, _, hl, hm, hlen, hel, _, _⟩
  · simp at h0
    subst h0
    exact ⟨[], none, 0, 0, rfl, Nat.le_refl _, by omega, IsFlat.nil _ _ _, by simp⟩
  · simp at hcs
    subst hcs
    have hg : ∀ i, i < len → ∃ t : Tk, t.Fits ∧ (∀ (j : Nat) v, (tkcells t)[j]? = some v → w.cell? ((a.add (i * 3)).add j) = some v) := by
      intro i hi
      have he := hel i hi
      rw [cellsTk, List.getElem?_eq_getElem (by omega)] at he
      obtain ⟨cs, hcs, htr⟩ := Option.bind_eq_some_iff.1 he
      obtain ⟨_, hcl, hat⟩ := World.cells?_some hcs
      obtain ⟨t, ht, rfl⟩ := isTkL_trod _ cs _ htr
      refine ⟨t, ht, fun j v hv => ?_⟩
      have hj : j < 3 := by
        rcases Nat.lt_or_ge j 3 with h | h
        · exact h
        · rw [List.getElem?_eq_none (by simpa [tkcells] using h)] at hv; cases hv
      exact (hat j hj).trans hv
    obtain ⟨l, hll, hp⟩ := choose_list len hg
    refine ⟨l, some a, len, cap, rfl, hl, hm, ⟨by simp [hll], ?_, ?_⟩, ?_⟩
    · intro cs h
      obtain ⟨t, _, rfl⟩ := List.mem_map.1 h
      rfl
    · intro i cs hi
      rw [List.getElem?_map, Option.map_eq_some_iff] at hi
      obtain ⟨t, ht, rfl⟩ := hi
      have hpos : 0 < l.length := by
        rcases Nat.eq_zero_or_pos l.length with h | h
        · rw [List.getElem?_eq_none (by omega)] at ht; cases ht
        · exact h
      have g0 := (hp 0 _ (List.getElem?_eq_getElem hpos)).2 0 _ rfl
      obtain ⟨b, o, sp⟩ := a
      have hsp := cell_spot g0
      simp [Addr.add] at hsp
      subst hsp
      refine ⟨b, o, rfl, fun j v hv => ?_⟩
      have := (hp i t ht).2 j v hv
      rw [Addr.add_lit, Addr.add_lit] at this
      exact this
    · intro t ht
      obtain ⟨i, hi, rfl⟩ := List.mem_iff_getElem.1 ht
      exact (hp i _ (List.getElem?_eq_getElem hi)).1
end
end Go.Proofs.YtmomahgedheekaaDoor
