/- What the rows hand over: arguments that read as data are terms in memory. -/
import Derived.Test.YtmomahgedheekaaDoorArgsW
import Derived.Test.YtmomahgedheekaaDoorMemT
namespace Go.Proofs.YtmomahgedheekaaDoor
open Go Go.RowKit Go.Sort
open Go.ChangeShapes Go.WideShapes

section
variable {H : Type} {enc : TypeId × Value → H} {w : World} {base : Nat} {spare : Nat → Bool} {held : Bool}
theorem cellsTm : Tryd.prog.cellsOf 41 = 8 := by kernel_rfl
theorem cellsHd : Tryd.prog.cellsOf 38 = 7 := by kernel_rfl
set_option maxRecDepth 8000 in
theorem isHd_trod (fuel : Nat) (cs : List Value) (x : DataW H × List MemPlace) (h : DataW.trod enc Tryd.prog w base spare held fuel 38 cs = some x) :
    ∃ d : Hd, d.Fits ∧ cs = [.int .u8 d.k, .int .u8 d.op, .int .i64 d.pos, .int .i64 d.n, .string d.name, .string d.arg, .string d.exn] := by
  obtain ⟨xs, n, hn, hx, hlen, hxl, hf⟩ := DataW.trod_struct Tryd.underlying38 h
  rw [cellsHd] at hlen
  match cs, hlen with
  | [c0, c1, c2, c3, c4, c5, c6], _ =>
    have f0 := hf 0 _ rfl
    have f1 := hf 1 _ rfl
    have f2 := hf 2 _ rfl
    have f3 := hf 3 _ rfl
    have f4 := hf 4 _ rfl
    have f5 := hf 5 _ rfl
    have f6 := hf 6 _ rfl
    rw [List.getElem?_eq_getElem (by rw [hxl]; decide)] at f0 f1 f2 f3 f4 f5 f6
    have k0 : Tryd.prog.cellsOf 5 = 1 := by kernel_rfl
    have k1 : Tryd.prog.cellsOf 3 = 1 := by kernel_rfl
    have k2 : Tryd.prog.cellsOf 2 = 1 := by kernel_rfl
    have k3 : Tryd.prog.cellsOf 9 = 1 := by kernel_rfl
    simp [k0, k1, k2, k3] at f0 f1 f2 f3 f4 f5 f6
    obtain ⟨k, e0, _, w0⟩ := DataW.trod_int Tryd.underlying5 f0
    obtain ⟨op, e1, _, w1⟩ := DataW.trod_int Tryd.underlying5 f1
    obtain ⟨pos, e2, _, w2⟩ := DataW.trod_int Tryd.underlying3 f2
    obtain ⟨m, e3, _, w3⟩ := DataW.trod_int Tryd.underlying2 f3
    obtain ⟨s4, e4, _, w4⟩ := DataW.trod_string Tryd.underlying9 f4
    obtain ⟨s5, e5, _, w5⟩ := DataW.trod_string Tryd.underlying9 f5
    obtain ⟨s6, e6, _, w6⟩ := DataW.trod_string Tryd.underlying9 f6
    simp at e0 e1 e2 e3 e4 e5 e6
    subst e0 e1 e2 e3 e4 e5 e6
    have b0 := bounds_u8 w0
    have b1 := bounds_u8 w1
    have b2 := bounds_i64 w2
    have b3 := bounds_i64 w3
    exact ⟨⟨k, op, pos, m, s4, s5, s6⟩, ⟨b0.1, b0.2, b1.1, b1.2, b2.1, b2.2, b3.1, b3.2, w4, w5, w6⟩, rfl⟩
set_option maxRecDepth 8000 in
theorem isTms_of (n : Nat) (ih : ∀ (cs : List Value) (x : DataW H × List MemPlace), DataW.trod enc Tryd.prog w base spare held n 41 cs = some x → ∃ t, IsTm w t (.agg cs.toArray))
    (v : Value) (x : DataW H × List MemPlace) (h : DataW.trod enc Tryd.prog w base spare held (n + 1) 39 [v] = some x) : ∃ l a len cap, v = .slice a len cap ∧ len ≤ cap ∧ cap ≤ maxLen ∧ IsTms w l a len := by
  rcases DataW.trod_slice Tryd.underlying39 h with ⟨h0, _⟩ | ⟨a, len, cap, elems, rest, n', hn, hcs, _, _, hl, hm, hlen, hel, _, _⟩
  · simp at h0
    subst h0
    exact ⟨[], none, 0, 0, rfl, Nat.le_refl _, by omega, IsTmsA.nil _⟩
  · obtain rfl : n = n' := by omega
    simp at hcs
    subst hcs
    have hg : ∀ i, i < len → ∃ t, ∃ cs : List Value, cs.length = 8 ∧ (∀ (j : Nat) (hj : j < cs.length), w.cell? ((a.add (i * 8)).add j) = some cs[j]) ∧ IsTm w t (.agg cs.toArray) := by
      intro i hi
      have he := hel i hi
      rw [cellsTm, List.getElem?_eq_getElem (by omega)] at he
      obtain ⟨cs, hcs, htr⟩ := Option.bind_eq_some_iff.1 he
      obtain ⟨_, hcl, hat⟩ := World.cells?_some hcs
      obtain ⟨t, ht⟩ := ih cs _ htr
      exact ⟨t, cs, hcl, fun j hj => (hat j (by omega)).trans (List.getElem?_eq_getElem hj), ht⟩
    obtain ⟨l, hll, hp⟩ := choose_list len hg
    refine ⟨l, some a, len, cap, rfl, hl, hm, ?_⟩
    subst hll
    cases l with
    | nil => exact IsTmsA.nil _
    | cons t0 l0 =>
      obtain ⟨b, o, sp⟩ := a
      obtain ⟨cs0, hl0, hat0, _⟩ := hp 0 t0 rfl
      have g0 := hat0 0 (by omega)
      have hsp := cell_spot g0
      simp [Addr.add] at hsp
      subst hsp
      refine IsTmsA.of_places (t0 :: l0) b o (fun h => h) fun i t hi => ?_
      obtain ⟨cs, hcl, hat, ht⟩ := hp i t hi
      obtain ⟨d, k⟩ := t
      obtain ⟨ak, lenk, capk, e, f, p1, p2, pl⟩ := ht
      have e : cs.toArray = tcells d ak lenk capk := by
        have e' := e
        unfold tval at e'
        exact Value.agg.inj e'
      have ecs : cs = (tcells d ak lenk capk).toList := by rw [← e]
      have hcell : ∀ (j : Nat) v, (tcells d ak lenk capk)[j]? = some v → w.cell? ⟨b, o + i * 8 + j, none⟩ = some v := by
        intro j v hv
        have hj : j < cs.length := by
          rcases Nat.lt_or_ge j cs.length with h | h
          · exact h
          · rw [← e, List.getElem?_toArray, List.getElem?_eq_none h] at hv; cases hv
        have hq := hat j hj
        rw [← e, List.getElem?_toArray, List.getElem?_eq_getElem hj] at hv
        cases hv
        rw [Addr.add_lit, Addr.add_lit] at hq
        exact hq
      simp only [TmAt]
      exact ⟨⟨hcell 0 _ rfl, hcell 1 _ rfl, hcell 2 _ rfl, hcell 3 _ rfl, hcell 4 _ rfl, hcell 5 _ rfl, hcell 6 _ rfl⟩, f, ak, lenk, capk, hcell 7 _ rfl, p1, p2, pl⟩
set_option maxRecDepth 8000 in
theorem isTm_trod (fuel : Nat) : ∀ (cs : List Value) (x : DataW H × List MemPlace), DataW.trod enc Tryd.prog w base spare held fuel 41 cs = some x → ∃ t, IsTm w t (.agg cs.toArray) := by
  induction fuel using Nat.strongRecOn with
  | _ fuel ih =>
    intro cs x h
    obtain ⟨xs, n, hn, hx, hlen, hxl, hf⟩ := DataW.trod_struct Tryd.underlying41 h
    rw [cellsTm] at hlen
    match cs, hlen with
    | [c0, c1, c2, c3, c4, c5, c6, c7], _ =>
      have f0 := hf 0 _ rfl
      have f1 := hf 1 _ rfl
      rw [List.getElem?_eq_getElem (by rw [hxl]; decide)] at f0 f1
      have k1 : Tryd.prog.cellsOf 39 = 1 := by kernel_rfl
      simp [cellsHd, k1] at f0 f1
      obtain ⟨d, hd, e⟩ := isHd_trod n _ _ f0
      simp at e
      obtain ⟨rfl, rfl, rfl, rfl, rfl, rfl, rfl⟩ := e
      cases n with
      | zero => simp [DataW.trod] at f1
      | succ n =>
        obtain ⟨l, a, len, cap, rfl, h1, h2, hl⟩ := isTms_of n (fun cs x h => ih n (by omega) cs x h) c7 _ f1
        exact ⟨.mk d l, IsTmA.mk_ hl h1 h2 hd⟩
theorem isTms_trod (fuel : Nat) (v : Value) (x : DataW H × List MemPlace) (h : DataW.trod enc Tryd.prog w base spare held fuel 39 [v] = some x) : ∃ l a len cap, v = .slice a len cap ∧ len ≤ cap ∧ cap ≤ maxLen ∧ IsTms w l a len := by
  cases fuel with
  | zero => simp [DataW.trod] at h
  | succ n => exact isTms_of n (fun cs x h => isTm_trod n cs x h) v x h
end
end Go.Proofs.YtmomahgedheekaaDoor
