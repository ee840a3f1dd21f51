/- What the rows hand over: rows of texts. What the rows hand over: rows of bytes. -/
import Derived.Test.YtaioeailgknfjaaGreatDoorRowMem
import Derived.Test.YtaioeailgknfjaaGreatDoorProg
import Derived.ProofKit
import Derived.OpenShut
namespace Go.Proofs.YtaioeailgknfjaaGreatDoor
open Go Go.RowKit Go.Sort
open Go.ChangeShapes Go.WideShapes

theorem choose_list {α : Type} {P : Nat → α → Prop} (n : Nat) (h : ∀ i, i < n → ∃ t, P i t) : ∃ l : List α, l.length = n ∧ ∀ i t, l[i]? = some t → P i t := by
  induction n with
  | zero => exact ⟨[], rfl, fun i t h => by simp at h⟩
  | succ n ih =>
    obtain ⟨l, hl, hp⟩ := ih fun i hi => h i (by omega)
    obtain ⟨t, ht⟩ := h n (by omega)
    refine ⟨l ++ [t], by simp [hl], fun i t' hi => ?_⟩
    rcases Nat.lt_or_ge i n with hlt | hge
    · rw [List.getElem?_append_left (by omega)] at hi
      exact hp i t' hi
    · rw [List.getElem?_append_right (by omega)] at hi
      have : i = n := by
        rcases Nat.lt_or_ge (i - l.length) 1 with h1 | h1
        · omega
        · rw [List.getElem?_eq_none (by simpa using h1)] at hi; cases hi
      subst this
      simp [hl] at hi
      subst hi
      exact ht

def IsStrs (w : World) (l : List ByteArray) (a : Option Addr) (len : Nat) : Prop := IsRow w (vstr l) a len
section
variable {H : Type} {enc : TypeId × Value → H} {w : World} {base : Nat} {spare : Nat → Bool} {held : Bool}
theorem isStrs_trod (fuel : Nat) (v : Value) (x : DataW H × List MemPlace) (h : DataW.trod enc Tryz.prog w base spare held fuel 83 [v] = some x) : ∃ l a len cap, v = .slice a len cap ∧ len ≤ cap ∧ cap ≤ maxLen ∧ IsStrs w l a len := by
  have k0 : Tryz.prog.cellsOf 9 = 1 := by kernel_rfl
  rcases DataW.trod_slice Tryz.underlying83 h with ⟨h0, _⟩ | ⟨a, len, cap, elems, rest, n', hn, hcs, _, _, hl, hm, hlen, hel, _, _⟩
  · simp at h0
    subst h0
    exact ⟨[], none, 0, 0, rfl, Nat.le_refl _, by omega, IsRow.nil _ _⟩
  · simp at hcs
    subst hcs
    have hg : ∀ i, i < len → ∃ s : ByteArray, w.cell? (a.add i) = some (.string s) := by
      intro i hi
      have he := hel i hi
      rw [k0, List.getElem?_eq_getElem (by omega)] at he
      obtain ⟨cs, hcs, htr⟩ := Option.bind_eq_some_iff.1 he
      obtain ⟨_, hcl, hat⟩ := World.cells?_some hcs
      obtain ⟨s, e, _⟩ := DataW.trod_string Tryz.underlying9 htr
      subst e
      exact ⟨s, by simpa [Addr.add] using hat 0 (by omega)⟩
    obtain ⟨l, hll, hp⟩ := choose_list len hg
    refine ⟨l, some a, len, cap, rfl, hl, hm, by simp [vstr, hll], ?_⟩
    intro i v hi
    simp only [vstr, List.getElem?_map, Option.map_eq_some_iff] at hi
    obtain ⟨s, hs, rfl⟩ := hi
    have hq := hp i s hs
    have h0 : 0 < l.length := by
      rcases Nat.eq_zero_or_pos l.length with h | h
      · rw [List.getElem?_eq_none (by omega)] at hs; cases hs
      · exact h
    have hq0 := hp 0 _ (List.getElem?_eq_getElem h0)
    obtain ⟨b, o, sp⟩ := a
    have hsp := cell_spot hq0
    simp [Addr.add] at hsp
    subst hsp
    exact ⟨b, o, rfl, by simpa [go_sem] using hq⟩
end
end Go.Proofs.YtaioeailgknfjaaGreatDoor
namespace Go.Proofs.YtaioeailgknfjaaGreatDoor
open Go Go.RowKit Go.Sort
open Go.ChangeShapes Go.WideShapes

/-- A row of bytes in memory. -/
def IsBytes (w : World) (l : List UInt8) (a : Option Addr) (len : Nat) : Prop := IsRow w (vby (il (bs l))) a len
section
variable {H : Type} {enc : TypeId × Value → H} {w : World} {base : Nat} {spare : Nat → Bool} {held : Bool}
theorem isBytes_trod (fuel : Nat) (v : Value) (x : DataW H × List MemPlace) (h : DataW.trod enc Tryz.prog w base spare held fuel 22 [v] = some x) : ∃ l a len cap, v = .slice a len cap ∧ len ≤ cap ∧ cap ≤ maxLen ∧ IsBytes w l a len := by
  have k0 : Tryz.prog.cellsOf 5 = 1 := by kernel_rfl
  rcases DataW.trod_slice Tryz.underlying22 h with ⟨h0, _⟩ | ⟨a, len, cap, elems, rest, n', hn, hcs, _, _, hl, hm, hlen, hel, _, _⟩
  · simp at h0
    subst h0
    exact ⟨[], none, 0, 0, rfl, Nat.le_refl _, by omega, IsRow.nil _ _⟩
  · simp at hcs
    subst hcs
    have hg : ∀ i, i < len → ∃ c : UInt8, w.cell? (a.add i) = some (.int .u8 (c.toNat : Nat)) := by
      intro i hi
      have he := hel i hi
      rw [k0, List.getElem?_eq_getElem (by omega)] at he
      obtain ⟨cs, hcs, htr⟩ := Option.bind_eq_some_iff.1 he
      obtain ⟨_, hcl, hat⟩ := World.cells?_some hcs
      obtain ⟨k, e, _, wf⟩ := DataW.trod_int Tryz.underlying5 htr
      subst e
      have hb := bounds_u8 wf
      refine ⟨UInt8.ofNat k.toNat, ?_⟩
      have : ((UInt8.ofNat k.toNat).toNat : Int) = k := by
        rw [UInt8.toNat_ofNat_of_lt' (show k.toNat < 256 by omega)]
        omega
      rw [this]
      simpa [Addr.add] using hat 0 (by omega)
    obtain ⟨l, hll, hp⟩ := choose_list len hg
    refine ⟨l, some a, len, cap, rfl, hl, hm, by rw [vby, List.length_map, il_length, bs_size, hll], ?_⟩
    intro i v hi
    unfold vby il at hi
    rw [bs_list, List.map_map, List.getElem?_map, Option.map_eq_some_iff] at hi
    obtain ⟨c, hc, rfl⟩ := hi
    have hq := hp i c hc
    have h0 : 0 < l.length := by
      rcases Nat.eq_zero_or_pos l.length with h | h
      · rw [List.getElem?_eq_none (by omega)] at hc; cases hc
      · exact h
    have hq0 := hp 0 _ (List.getElem?_eq_getElem h0)
    obtain ⟨b, o, sp⟩ := a
    have hsp := cell_spot hq0
    simp [Addr.add] at hsp
    subst hsp
    exact ⟨b, o, rfl, by simpa [go_sem] using hq⟩
end
end Go.Proofs.YtaioeailgknfjaaGreatDoor
