/- A row of texts that grows: what it may touch. No program in sight. -/
import Derived.Test.YtmomahgedheekaaDoorScope7
import Derived.Test.YtmomahgedheekaaDoorAppend
namespace Go.Proofs.YtmomahgedheekaaDoor
open Go Go.RowKit Go.Sort

theorem ExtX.grown {A : Nat → Prop} {a w w' : World} {row : Option Nat} (h : ExtX A a w) (g : w.grownBy w' row) (hA : ∀ k, row = some k → A k ∨ a.heap.size ≤ k) : ExtX A a w' :=
  ⟨g.os.trans h.os, g.tape.trans h.tape, g.output.trans h.output, Nat.le_trans h.size g.size, fun k hk ha => (g.block k (Nat.lt_of_lt_of_le hk h.size) (fun e => by
    rcases hA k e.symm with h' | h'
    · exact ha h'
    · omega)).trans (h.block k hk ha)⟩
theorem owns_extx {A : Nat → Prop} {w w' : World} (hx : ExtX A w w') {base : Nat} {e : TypeId} {size n : Nat} {v : Value} {xs : List Value} (hA : ∀ k, v.ownBlock = some k → ¬ A k) (h : w.ownsRow base e size v n xs) : w'.ownsRow base e size v n xs := by
  refine ⟨h.1, h.2.imp id ?_⟩
  rintro ⟨g, cap, cur, rfl, hg, hh, r⟩
  exact ⟨g, cap, cur, rfl, hg, (hx.block g (h.lt g rfl).2 (hA g rfl)).trans hh, r⟩
theorem row_extx {A : Nat → Prop} {w w' : World} (hx : ExtX A w w') {l : List Value} {a : Option Addr} {len : Nat} (hA : ∀ p, a = some p → ¬ A p.block) (h : IsRow w l a len) : IsRow w' l a len :=
  ⟨h.1, fun i v hi => by
    obtain ⟨b, o, e, q⟩ := h.2 i v hi
    exact ⟨b, o, e, hx.cell (show ¬ A b from hA _ e) q⟩⟩
/-- A row of texts that grows, from a world and a slice on. -/
structure Grow (W1 : World) (v0 : Value) (L : List ByteArray) (s : Value) (wr : World) : Prop where
  own : wr.ownsRow 0 9 1 s L.length (vstr L)
  loc : ∀ k, s.ownBlock = some k → v0.ownBlock = some k ∨ W1.heap.size ≤ k
  ext : ExtX (fun k => v0.ownBlock = some k) W1 wr
theorem Grow.start {W1 : World} {v0 : Value} {L : List ByteArray} {base : Nat} (h : W1.ownsRow base 9 1 v0 L.length (vstr L)) : Grow W1 v0 L v0 W1 :=
  ⟨owns_base (Nat.zero_le _) h, fun _ h => .inl h, ExtX.refl _⟩
theorem Grow.later {W1 wr w' : World} {v0 s : Value} {L : List ByteArray} (h : Grow W1 v0 L s wr) (hx : Ext wr w') : Grow W1 v0 L s w' :=
  ⟨owns_ext hx h.own, h.loc, h.ext.then_ hx⟩
theorem Grow.more {W1 w w' : World} {v0 s v' : Value} {L : List ByteArray} {x : ByteArray} (h : Grow W1 v0 L s w) (ho : w'.ownsRow 0 9 1 v' (L.length + 1) (vstr L ++ [.string x])) (hg : w.grownBy w' s.ownBlock) (hw : v'.ownBlock = s.ownBlock ∨ ∀ k, v'.ownBlock = some k → w.heap.size ≤ k) : Grow W1 v0 (L ++ [x]) v' w' :=
  ⟨by rw [vstr_snoc, List.length_append]; exact ho, fun k hk => by
    rcases hw with hw | hw
    · exact h.loc k (hw ▸ hk)
    · exact .inr (Nat.le_trans h.ext.size (hw k hk)), h.ext.grown hg h.loc⟩
theorem Grow.open_ {W1 wr : World} {v0 s : Value} {L : List ByteArray} (h : Grow W1 v0 L s wr) : ∃ a cap, s = .slice a L.length cap ∧ L.length ≤ cap ∧ cap ≤ 9223372036854775807 ∧ IsRow wr (vstr L) a L.length := owns_row1 h.own
theorem Grow.ext_ {w W1 wr : World} {v0 s : Value} {L : List ByteArray} (h : Grow W1 v0 L s wr) (hx : Ext w W1) (hv : ∀ k, v0.ownBlock = some k → w.heap.size ≤ k) : Ext w wr := ExtX.ext hx h.ext hv
end Go.Proofs.YtmomahgedheekaaDoor
