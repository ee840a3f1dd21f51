/- A region that draws its order, walked by steps that are written out: what yields the same in every later world is taken first; the rest comes in its one order. -/
import Derived.Test.YtkjjbackkipfdaaMem
import Derived.Deep.RegionHeld3
namespace Go.Proofs.Ytkjjbackkipfdaa
open Go Go.RowKit Go.Sort
/-- What was there is as it was, but for the blocks A. -/
structure ExtX (A : Nat → Prop) (w w' : World) : Prop where
  os : w'.os = w.os
  tape : w'.tape = w.tape
  output : w'.output = w.output
  size : w.heap.size ≤ w'.heap.size
  block : ∀ k, k < w.heap.size → ¬ A k → w'.heap[k]? = w.heap[k]?
theorem ExtX.refl {A : Nat → Prop} (w : World) : ExtX A w w := ⟨rfl, rfl, rfl, Nat.le_refl _, fun _ _ _ => rfl⟩
theorem ExtX.of {A : Nat → Prop} {w w' : World} (h : Ext w w') : ExtX A w w' := ⟨Below.os h, Below.tape h, Below.output h, Below.size h, fun k hk _ => Below.block h k hk⟩
theorem ExtX.trans {A : Nat → Prop} {a b c : World} (h : ExtX A a b) (k : ExtX A b c) : ExtX A a c :=
  ⟨k.os.trans h.os, k.tape.trans h.tape, k.output.trans h.output, Nat.le_trans h.size k.size, fun i hi ha => (k.block i (Nat.lt_of_lt_of_le hi h.size) ha).trans (h.block i hi ha)⟩
theorem ExtX.then_ {A : Nat → Prop} {a b c : World} (h : ExtX A a b) (k : Ext b c) : ExtX A a c := h.trans (.of k)
theorem ExtX.alloc {A : Nat → Prop} {a w : World} (h : ExtX A a w) (o : Obj) : ExtX A a (w.alloc o) := h.then_ ((Ext.refl _).alloc o)
theorem ExtX.drew {A : Nat → Prop} {a w : World} (h : ExtX A a w) : ExtX A a w.drew := h.then_ (Ext.refl _).drew
theorem ExtX.setCell {A : Nat → Prop} {a w : World} (h : ExtX A a w) {p : Addr} (hp : A p.block ∨ a.heap.size ≤ p.block) (u : Value) : ExtX A a (w.setCell p u) :=
  ⟨h.os, h.tape, h.output, by simpa [World.setCell] using h.size, fun k hk ha => (Below.heap_setCell _ _ _ _ (by
    rintro rfl
    rcases hp with hp | hp
    · exact ha hp
    · omega)).trans (h.block k hk ha)⟩
theorem xA {A : Nat → Prop} {w : World} : ExtX A w w := ExtX.refl w
theorem xB {A : Nat → Prop} {a w : World} {o : Obj} (h : ExtX A a w) : ExtX A a (w.alloc o) := h.alloc o
theorem xC {A : Nat → Prop} {a w : World} (h : ExtX A a w) : ExtX A a w.drew := h.drew
theorem xD {A : Nat → Prop} {a w : World} {p : Addr} {u : Value} (h : ExtX A a w) (hp : A p.block ∨ a.heap.size ≤ p.block) : ExtX A a (w.setCell p u) := h.setCell hp u
/-- The step that a walk's worlds are shown by. -/
theorem xX {A : Nat → Prop} {a b : World} (h : ExtX A a b := by (repeat first|(with_reducible first|assumption|exact xA|refine xB ?_|refine xC ?_)|((with_reducible refine xD ?_ ?_);rotate_left;(first|(left;rfl)|(left;left;rfl)|(left;right;rfl)|(left;right;exact Nat.le_refl _)|(left;right;assumption)|(right;(focus (simp;done)))|(right;(focus (simp;omega)))|(right;omega)))|(with_reducible refine ExtX.then_ ?_ (by assumption)))) : ExtX A a b := h
theorem ExtX.cell {A : Nat → Prop} {w w' : World} (h : ExtX A w w') {p : Addr} {v : Value} (ha : ¬ A p.block) (hc : w.cell? p = some v) : w'.cell? p = some v :=
  (World.cell?_of_block (w := w) (h.block p.block (block_lt_of_cell hc) ha)).trans hc
theorem ExtX.ext {A : Nat → Prop} {w w0 w' : World} (h0 : Ext w w0) (h : ExtX A w0 w') (ha : ∀ b, A b → w.heap.size ≤ b) : Ext w w' :=
  ⟨h.os.trans (Below.os h0), h.tape.trans (Below.tape h0), h.output.trans (Below.output h0), Nat.le_trans (Below.size h0) h.size, fun k hk =>
    (h.block k (Nat.lt_of_lt_of_le hk (Below.size h0)) (fun hA => by have := ha k hA; omega)).trans (Below.block h0 k hk)⟩
section
variable {P : Program} {l : List Oper} {Q : Exit → Act → World → Prop} {S : World → Prop}
theorem held_take (i : Nat) {oi : Oper} {v : Value} {fuel : Nat} {listed : Array Bool} {a : Act} {w : World} (hi : l[i]? = some oi)
    (hs : Region.noSelect l.toArray = true) (hf : Region.free .any l.toArray listed i = true) (hr : (Region.ready .any l.toArray listed).contains i = true)
    (hQ : ∀ c a w, Q (.panic c) (a.put oi.dst v) w → Q (.panic c) a w) (hS : S w)
    (hw : Region.wanted oi (yielded l.toArray a.tmps) = true) (hy : ∀ w, S w → (execOp a.eval oi).run P w = .ok (.value v) w)
    (h : wpAnyH P .any l.toArray Q S fuel (listed.setIfInBounds i true) (a.put oi.dst v) w) : wpAnyH P .any l.toArray Q S (fuel + 1) listed a w :=
  wpAnyH_take (i := i) (by simpa using hi) hs hf hr hQ (.inl ⟨hw, hy⟩) hS h
theorem tK (i : Nat) {oi : Oper} {v : Value} {fuel : Nat} {listed : Array Bool} {a : Act} {w : World} (hy : ∀ w, S w → (execOp a.eval oi).run P w = .ok (.value v) w) (h : wpAnyH P .any l.toArray Q S fuel (listed.setIfInBounds i true) (a.put oi.dst v) w)
    (hi : l[i]? = some oi := by rfl) (hs : Region.noSelect l.toArray = true := by kernel_rfl) (hf : Region.free .any l.toArray listed i = true := by kernel_rfl) (hr : (Region.ready .any l.toArray listed).contains i = true := by kernel_rfl)
    (hQ : ∀ c a w, Q (.panic c) (a.put oi.dst v) w → Q (.panic c) a w := by exact fun _ _ _ h => h) (hS : S w := by assumption) (hw : Region.wanted oi (yielded l.toArray a.tmps) = true := by rfl) : wpAnyH P .any l.toArray Q S (fuel + 1) listed a w :=
  held_take i hi hs hf hr hQ hS hw hy h
theorem held_skip (i : Nat) {oi : Oper} {fuel : Nat} {listed : Array Bool} {a : Act} {w : World} (hi : l[i]? = some oi)
    (hs : Region.noSelect l.toArray = true) (hf : Region.free .any l.toArray listed i = true) (hr : (Region.ready .any l.toArray listed).contains i = true)
    (hQ : ∀ c a w, Q (.panic c) (a.put oi.dst undef) w → Q (.panic c) a w) (hS : S w)
    (hw : Region.wanted oi (yielded l.toArray a.tmps) = false)
    (h : wpAnyH P .any l.toArray Q S fuel (listed.setIfInBounds i true) (a.put oi.dst undef) w) : wpAnyH P .any l.toArray Q S (fuel + 1) listed a w :=
  wpAnyH_take (i := i) (by simpa using hi) hs hf hr hQ (.inr ⟨hw, rfl⟩) hS h
theorem held_do (i : Nat) {oi : Oper} {fuel : Nat} {listed : Array Bool} {a : Act} {w : World} (hi : l[i]? = some oi)
    (hr : Region.ready .any l.toArray listed = [i]) (hw : Region.wanted oi (yielded l.toArray a.tmps) = true)
    (h : ∀ K' : Act → World → Prop, Shut (∀ a w, S w → (S w → wpAnyH P .any l.toArray Q S fuel (listed.setIfInBounds i true) a w) → K' a w) → Oper.wp P oi a w K' Q) : wpAnyH P .any l.toArray Q S (fuel + 1) listed a w :=
  wpAnyH_ready hr (by simp) (AllReadyH.cons (o := oi) (by simpa using hi) (fun K hK => by rw [if_pos hw]; exact h K hK) AllReadyH.nil)
theorem held_cons (i : Nat) {oi : Oper} {fuel : Nat} {listed : Array Bool} {a : Act} {w : World} {rs : List Nat} (hi : l[i]? = some oi) (hw : Region.wanted oi (yielded l.toArray a.tmps) = true)
    (h : ∀ K' : Act → World → Prop, Shut (∀ a w, S w → (S w → wpAnyH P .any l.toArray Q S fuel (listed.setIfInBounds i true) a w) → K' a w) → Oper.wp P oi a w K' Q)
    (hs : AllReadyH P .any l.toArray Q S fuel listed a w rs) : AllReadyH P .any l.toArray Q S fuel listed a w (i :: rs) :=
  AllReadyH.cons (o := oi) (by simpa using hi) (fun K hK => by rw [if_pos hw]; exact h K hK) hs
end
end Go.Proofs.Ytkjjbackkipfdaa
