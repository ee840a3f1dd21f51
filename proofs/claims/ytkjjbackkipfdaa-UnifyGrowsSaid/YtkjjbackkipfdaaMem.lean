/- Memory: what a later world keeps; trees of types in memory. No program in sight. -/
import Derived.WalkKit
import Derived.WalkLawsBesides
import Derived.WalkSpells
import Derived.Lib.Hide
import Derived.Lib.QuietBelow
import Derived.BigQuiet
import Derived.KernelRfl
import Derived.Test.YtkjjbackkipfdaaPure
namespace Go.Proofs.Ytkjjbackkipfdaa
open Go Go.RowKit Go.Sort

/-- What was there is as it was. -/
def Ext (w w' : World) : Prop := Below w.heap.size w w'
theorem Ext.refl (w : World) : Ext w w := Below.refl _ _
theorem Ext.size {w w' : World} (h : Ext w w') : w.heap.size ≤ w'.heap.size := Below.size h
theorem Ext.trans {a b c : World} (h : Ext a b) (k : Ext b c) : Ext a c := Below.trans h (Below.mono k (Below.size h))
theorem Ext.alloc {a w : World} (h : Ext a w) (o : Obj) : Ext a (w.alloc o) := Below.alloc h (Below.size h) o
theorem Ext.drew {a w : World} (h : Ext a w) : Ext a w.drew := Below.drew h
theorem Ext.setCell {a w : World} (h : Ext a w) {p : Addr} (hp : a.heap.size ≤ p.block) (u : Value) : Ext a (w.setCell p u) := Below.setCell h hp u
theorem eA {w : World} : Ext w w := Ext.refl w
theorem eB {a w : World} {o : Obj} (h : Ext a w) : Ext a (w.alloc o) := h.alloc o
theorem eC {a w : World} (h : Ext a w) : Ext a w.drew := h.drew
theorem eD {a w : World} {p : Addr} {u : Value} (h : Ext a w) (hp : a.heap.size ≤ p.block) : Ext a (w.setCell p u) := h.setCell hp u
/-- The step that a walk's worlds are shown by. -/
theorem eX {a b : World} (h : Ext a b := by (repeat first|(with_reducible first|assumption|exact eA|refine eB ?_|refine eC ?_)|((with_reducible refine eD ?_ ?_);rotate_left;(first|(focus (simp;done))|(focus (simp;omega))|omega))|exact eA|assumption|refine eB ?_|refine eC ?_|refine eD ?_ (by (first|(focus (simp;done))|(focus (simp;omega))|omega))|refine Ext.trans ?_ (by assumption))) : Ext a b := h
theorem pA {α : Type} (l : List α) (i : Nat) (a : α) : l.toArray.setIfInBounds i a = (l.set i a).toArray := by simp
theorem pB {α : Type} (x : α) (l : List α) (a : α) : (x :: l).set 0 a = a :: l := rfl
theorem pC {α : Type} (x : α) (l : List α) (n : Nat) (a : α) : (x :: l).set (n + 1) a = x :: l.set n a := rfl
theorem Ext.cell {w w' : World} (h : Ext w w') {p : Addr} {v : Value} (hc : w.cell? p = some v) : w'.cell? p = some v := (Below.cell h (block_lt_of_cell hc)).trans hc
theorem Ext.frozen {w w' : World} (h : Ext w w') {p : Addr} (hp : p.block < w.heap.size) : w'.frozen? p = w.frozen? p := Below.frozen h hp
theorem Ext.below {w w' : World} (h : Ext w w') : Below w.heap.size w w' := h
theorem ext_of_regrown {w w' : World} (h : ∃ p : Regrown, w' = grow (redrawn w p.d) p.os) : Ext w w' := by
  obtain ⟨p, rfl⟩ := h
  exact below_regrown w p.d p.os
theorem ext_regrown (w : World) (d : Nat) (os : Array Obj) : Ext w (grow (redrawn w d) os) := below_regrown w d os
theorem cells_regrown {w : World} {p : Addr} {v : Value} (h : w.cell? p = some v) : ∀ (d : Nat) (os : Array Obj), (grow (redrawn w d) os).cell? p = some v := fun d os => cell_regrown h d os
/-- The cells of new blocks, in every world behind a region that draws its order. -/
theorem box_regrown (w : World) : ∀ (cs : Array Value) (t : TypeId) (d : Nat) (os : Array Obj) (i : Nat), (grow (redrawn (w.alloc (.cells cs t)) d) os).cell? ⟨w.heap.size, i, none⟩ = cs[i]? := by
  intro cs t d os i
  have h := (below_regrown (w.alloc (.cells cs t)) d os).cell (p := ⟨w.heap.size, i, none⟩) (by simp)
  rw [h, World.cell?_alloc_new]
theorem box_regrown2 (w : World) : ∀ (o : Obj) (cs : Array Value) (t : TypeId) (d : Nat) (os : Array Obj) (i : Nat), (grow (redrawn ((w.alloc o).alloc (.cells cs t)) d) os).cell? ⟨w.heap.size + 1, i, none⟩ = cs[i]? := by
  intro o cs t d os i
  have h := box_regrown (w.alloc o) cs t d os i
  simpa using h
theorem box_regrown1 (w : World) : ∀ (o : Obj) (cs : Array Value) (t : TypeId) (d : Nat) (os : Array Obj) (i : Nat), (grow (redrawn ((w.alloc (.cells cs t)).alloc o) d) os).cell? ⟨w.heap.size, i, none⟩ = cs[i]? := by
  intro o cs t d os i
  have h := (below_regrown ((w.alloc (.cells cs t)).alloc o) d os).cell (p := ⟨w.heap.size, i, none⟩) (by simp; omega)
  rw [h, World.cell?_alloc_lt _ _ _ (by simp), World.cell?_alloc_new]
/-- A contract at a call inside a region that draws its order. -/
theorem quiet_ext {P : Program} {f : FuncId} {args : Array Value} {w : World} {v : Value} (h : ∀ w1, Ext w w1 → Calls P f args w1 fun e w' => e = .returned v ∧ Ext w1 w') :
    ∀ (d : Nat) (os : Array Obj), Calls P f args (grow (redrawn w d) os) fun e w'' => e = .returned v ∧ ∃ p : Regrown, w'' = grow (redrawn w p.d) p.os :=
  fun d os => Calls.regrown_of (h _ (ext_regrown w d os))

theorem cell_spot {w : World} {a : Addr} {v : Value} (h : w.cell? a = some v) : a.spot = none := by
  unfold World.cell? at h
  split at h
  · split at h
    · cases h
    · rename_i hs; simpa using hs
  · cases h

theorem ret_int {k : IntKind} {a b : Int} (h : a = b) : Ending.returned (.int k a) = .returned (.int k b) := by rw [h]
theorem ret_bool {a b : Bool} (h : a = b) : Ending.returned (.bool a) = .returned (.bool b) := by rw [h]

theorem add_block (a : Addr) (i : Nat) : (a.add i).block = a.block := by unfold Addr.add; split <;> rfl
/-- No block. -/
def NoA : Nat → Prop := fun _ => False
mutual
/-- A value is a type, its kids in memory, in none of the blocks A. -/
def IsTyA (A : Nat → Prop) (w : World) : Ty → Value → Prop
  | .mk k n l, v => ∃ a len cap, v = .agg #[.int .u8 k, .int .i64 n, .slice a len cap] ∧ len ≤ cap ∧ cap ≤ maxLen ∧ 0 ≤ k ∧ k ≤ 255 ∧ -9223372036854775808 ≤ n ∧ n ≤ 9223372036854775807 ∧ IsTysA A w l a len
/-- A row of types in memory. -/
def IsTysA (A : Nat → Prop) (w : World) : List Ty → Option Addr → Nat → Prop
  | [], _, len => len = 0
  | t :: l, a, len => 0 < len ∧ ∃ ad c0 c1 c2, a = some ad ∧ ¬ A ad.block ∧ w.cell? ad = some c0 ∧ w.cell? (ad.add 1) = some c1 ∧ w.cell? (ad.add 2) = some c2 ∧ IsTyA A w t (.agg #[c0, c1, c2]) ∧ IsTysA A w l (some (ad.add 3)) (len - 1)
end
abbrev IsTy (w : World) (t : Ty) (v : Value) : Prop := IsTyA NoA w t v
abbrev IsTys (w : World) (l : List Ty) (a : Option Addr) (len : Nat) : Prop := IsTysA NoA w l a len
theorem IsTysA.length {A : Nat → Prop} {w : World} {l : List Ty} {a : Option Addr} {len : Nat} (h : IsTysA A w l a len) : len = l.length := by
  induction l generalizing a len with
  | nil => simpa [IsTysA] using h
  | cons t l ih =>
    simp only [IsTysA] at h
    obtain ⟨h0, ad, c0, c1, c2, rfl, _, _, _, _, _, hl⟩ := h
    have := ih hl
    simp; omega
theorem IsTysA.at_ {A : Nat → Prop} {w : World} {l : List Ty} {a : Option Addr} {len : Nat} (h : IsTysA A w l a len) {i : Nat} {t : Ty} (hi : l[i]? = some t) :
    ∃ b o c0 c1 c2, a = some ⟨b, o, none⟩ ∧ w.cell? ⟨b, o + i * 3, none⟩ = some c0 ∧ w.cell? ⟨b, o + i * 3 + 1, none⟩ = some c1 ∧ w.cell? ⟨b, o + i * 3 + 2, none⟩ = some c2 ∧ IsTyA A w t (.agg #[c0, c1, c2]) ∧ ¬ A b := by
  induction l generalizing a len i with
  | nil => simp at hi
  | cons x l ih =>
    simp only [IsTysA] at h
    obtain ⟨h0, ⟨b, o, sp⟩, c0, c1, c2, rfl, hA, g0, g1, g2, gt, hl⟩ := h
    have hsp := cell_spot g0
    simp at hsp
    subst hsp
    cases i with
    | zero =>
      simp at hi
      subst hi
      exact ⟨b, o, c0, c1, c2, rfl, by simpa [Addr.add] using g0, by simpa [Addr.add] using g1, by simpa [Addr.add] using g2, gt, hA⟩
    | succ i =>
      simp at hi
      obtain ⟨b', o', c0', c1', c2', e, q0, q1, q2, qt, _⟩ := ih hl hi
      simp [Addr.add] at e
      obtain ⟨rfl, rfl⟩ := e
      refine ⟨b, o, c0', c1', c2', rfl, ?_, ?_, ?_, qt, hA⟩
      · rw [← q0]; congr 2; omega
      · rw [← q1]; congr 2; omega
      · rw [← q2]; congr 2; omega
/-- A row out of its cells. -/
theorem IsTysA.of_cells {A : Nat → Prop} {w : World} (l : List Ty) (b o : Nat) (hA : ¬ A b) (h : ∀ i t, l[i]? = some t → ∃ c0 c1 c2, w.cell? ⟨b, o + i * 3, none⟩ = some c0 ∧ w.cell? ⟨b, o + i * 3 + 1, none⟩ = some c1 ∧ w.cell? ⟨b, o + i * 3 + 2, none⟩ = some c2 ∧ IsTyA A w t (.agg #[c0, c1, c2])) :
    IsTysA A w l (some ⟨b, o, none⟩) l.length := by
  induction l generalizing o with
  | nil => simp [IsTysA]
  | cons t l ih =>
    simp only [IsTysA]
    obtain ⟨c0, c1, c2, g0, g1, g2, gt⟩ := h 0 t rfl
    refine ⟨by simp, ⟨b, o, none⟩, c0, c1, c2, rfl, hA, by simpa using g0, by simpa [Addr.add] using g1, by simpa [Addr.add] using g2, gt, ?_⟩
    have := ih (o + 3) fun i t hi => by
      obtain ⟨c0, c1, c2, g0, g1, g2, gt⟩ := h (i+1) t (by simpa using hi)
      refine ⟨c0, c1, c2, ?_, ?_, ?_, gt⟩
      · rw [← g0]; congr 2; omega
      · rw [← g1]; congr 2; omega
      · rw [← g2]; congr 2; omega
    simpa [Addr.add] using this
theorem IsTysA.nil {A : Nat → Prop} {w : World} (a : Option Addr) : IsTysA A w [] a 0 := by simp [IsTysA]

mutual
/-- Another world that holds the same at all blocks but A's, other blocks to avoid. -/
theorem IsTyA.move {A A' : Nat → Prop} {w w' : World} (hA : ∀ b, b < w.heap.size → A' b → A b) (hc : ∀ p v, ¬ A p.block → w.cell? p = some v → w'.cell? p = some v) : ∀ {t : Ty} {v : Value}, IsTyA A w t v → IsTyA A' w' t v
  | .mk k n l, v, h => by
    simp only [IsTyA] at h ⊢
    obtain ⟨a, len, cap, e, h1, h2, h3, h4, h5, h6, hl⟩ := h
    exact ⟨a, len, cap, e, h1, h2, h3, h4, h5, h6, IsTysA.move hA hc hl⟩
theorem IsTysA.move {A A' : Nat → Prop} {w w' : World} (hA : ∀ b, b < w.heap.size → A' b → A b) (hc : ∀ p v, ¬ A p.block → w.cell? p = some v → w'.cell? p = some v) : ∀ {l : List Ty} {a : Option Addr} {len : Nat}, IsTysA A w l a len → IsTysA A' w' l a len
  | [], a, len, h => by simpa only [IsTysA] using h
  | t :: l, a, len, h => by
    simp only [IsTysA] at h ⊢
    obtain ⟨h0, ad, c0, c1, c2, e, ha, g0, g1, g2, gt, hl⟩ := h
    refine ⟨h0, ad, c0, c1, c2, e, fun h => ha (hA _ (block_lt_of_cell g0) h), hc _ _ ha g0, hc _ _ (by rw [add_block]; exact ha) g1, hc _ _ (by rw [add_block]; exact ha) g2, IsTyA.move hA hc gt, IsTysA.move hA hc hl⟩
end
theorem IsTyA.ext {A : Nat → Prop} {w w' : World} (hb : Ext w w') {t : Ty} {v : Value} (h : IsTyA A w t v) : IsTyA A w' t v := h.move (fun _ _ h => h) fun _ _ _ h => hb.cell h
theorem IsTysA.ext {A : Nat → Prop} {w w' : World} (hb : Ext w w') {l : List Ty} {a : Option Addr} {len : Nat} (h : IsTysA A w l a len) : IsTysA A w' l a len := h.move (fun _ _ h => h) fun _ _ _ h => hb.cell h
theorem IsTyA.any {A : Nat → Prop} {w : World} {t : Ty} {v : Value} (h : IsTyA A w t v) : IsTy w t v := h.move (fun _ _ h => h.elim) fun _ _ _ h => h
theorem IsTysA.any {A : Nat → Prop} {w : World} {l : List Ty} {a : Option Addr} {len : Nat} (h : IsTysA A w l a len) : IsTys w l a len := h.move (fun _ _ h => h.elim) fun _ _ _ h => h
/-- Fewer blocks to avoid, or ones that aren't there. -/
theorem IsTyA.off {A A' : Nat → Prop} {w : World} (hA : ∀ b, b < w.heap.size → A' b → A b) {t : Ty} {v : Value} (h : IsTyA A w t v) : IsTyA A' w t v := h.move hA fun _ _ _ h => h
theorem IsTysA.off {A A' : Nat → Prop} {w : World} (hA : ∀ b, b < w.heap.size → A' b → A b) {l : List Ty} {a : Option Addr} {len : Nat} (h : IsTysA A w l a len) : IsTysA A' w l a len := h.move hA fun _ _ _ h => h
/-- A store into a block that is avoided. -/
theorem IsTyA.setCell {A : Nat → Prop} {w : World} {p : Addr} (hp : A p.block) (u : Value) {t : Ty} {v : Value} (h : IsTyA A w t v) : IsTyA A (w.setCell p u) t v :=
  h.move (fun _ _ h => h) fun q _ hq hv => (World.cell?_setCell_other w p q u (fun e => hq (by subst e; exact hp))).trans hv
theorem IsTysA.setCell {A : Nat → Prop} {w : World} {p : Addr} (hp : A p.block) (u : Value) {l : List Ty} {a : Option Addr} {len : Nat} (h : IsTysA A w l a len) : IsTysA A (w.setCell p u) l a len :=
  h.move (fun _ _ h => h) fun q _ hq hv => (World.cell?_setCell_other w p q u (fun e => hq (by subst e; exact hp))).trans hv
/-- What a type is made of. -/
theorem IsTyA.open_ {A : Nat → Prop} {w : World} {k n : Int} {l : List Ty} {v : Value} (h : IsTyA A w (.mk k n l) v) :
    ∃ a len cap, v = .agg #[.int .u8 k, .int .i64 n, .slice a len cap] ∧ len ≤ cap ∧ cap ≤ 9223372036854775807 ∧ 0 ≤ k ∧ k ≤ 255 ∧ -9223372036854775808 ≤ n ∧ n ≤ 9223372036854775807 ∧ IsTysA A w l a len := by
  simp only [IsTyA] at h
  obtain ⟨a, len, cap, e, h1, h2, h3, h4, h5, h6, hl⟩ := h
  exact ⟨a, len, cap, e, h1, h2, h3, h4, h5, h6, hl⟩
theorem IsTyA.mk_ {A : Nat → Prop} {w : World} {k n : Int} {l : List Ty} {a : Option Addr} {len cap : Nat} (h : IsTysA A w l a len) (h1 : len ≤ cap) (h2 : cap ≤ 9223372036854775807) (h3 : 0 ≤ k) (h4 : k ≤ 255) (h5 : -9223372036854775808 ≤ n) (h6 : n ≤ 9223372036854775807) :
    IsTyA A w (.mk k n l) (.agg #[.int .u8 k, .int .i64 n, .slice a len cap]) := by
  simp only [IsTyA]
  exact ⟨a, len, cap, rfl, h1, h2, h3, h4, h5, h6, h⟩
/-- Behind a call inside a loop: one round's row of kids. -/
theorem IsTysA.at3 {A : Nat → Prop} {w w1 : World} (hx : Ext w w1) {l : List Ty} {a : Option Addr} {len : Nat} (h : IsTysA A w l a len) {i : Nat} (hi : i < len) :
    ∃ t b o c0 c1 c2, l[i]? = some t ∧ a = some ⟨b, o, none⟩ ∧ w1.cell? ⟨b, o + i * 3, none⟩ = some c0 ∧ w1.cell? ⟨b, o + i * 3 + 1, none⟩ = some c1 ∧ w1.cell? ⟨b, o + i * 3 + 2, none⟩ = some c2 ∧ IsTyA A w1 t (.agg #[c0, c1, c2]) := by
  have hl := h.length
  obtain ⟨b, o, c0, c1, c2, e, q0, q1, q2, q3, _⟩ := (h.ext hx).at_ (List.getElem?_eq_getElem (hl ▸ hi))
  exact ⟨_, b, o, c0, c1, c2, List.getElem?_eq_getElem (hl ▸ hi), e, q0, q1, q2, q3⟩
/-- A row of one type. -/
theorem IsTysA.one {A : Nat → Prop} {w : World} {t : Ty} {b o : Nat} {c0 c1 c2 : Value} (hA : ¬ A b) (h : IsTyA A w t (.agg #[c0, c1, c2])) (g0 : w.cell? ⟨b, o, none⟩ = some c0) (g1 : w.cell? ⟨b, o + 1, none⟩ = some c1) (g2 : w.cell? ⟨b, o + 2, none⟩ = some c2) :
    IsTysA A w [t] (some ⟨b, o, none⟩) 1 :=
  IsTysA.of_cells [t] b o hA fun i t' hi => by
    cases i with
    | zero => simp at hi; subst hi; exact ⟨c0, c1, c2, by simpa using g0, by simpa using g1, by simpa using g2, h⟩
    | succ i => simp at hi
/-- A row of two. -/
theorem IsTysA.two {A : Nat → Prop} {w : World} {t t' : Ty} {b o : Nat} {c0 c1 c2 c3 c4 c5 : Value} (hA : ¬ A b) (h : IsTyA A w t (.agg #[c0, c1, c2])) (h' : IsTyA A w t' (.agg #[c3, c4, c5])) (g0 : w.cell? ⟨b, o, none⟩ = some c0) (g1 : w.cell? ⟨b, o + 1, none⟩ = some c1) (g2 : w.cell? ⟨b, o + 2, none⟩ = some c2)
    (g3 : w.cell? ⟨b, o + 3, none⟩ = some c3) (g4 : w.cell? ⟨b, o + 4, none⟩ = some c4) (g5 : w.cell? ⟨b, o + 5, none⟩ = some c5) :
    IsTysA A w [t, t'] (some ⟨b, o, none⟩) 2 :=
  IsTysA.of_cells [t, t'] b o hA fun i t2 hi => by
    match i, hi with
    | 0, hi => simp at hi; subst hi; exact ⟨c0, c1, c2, by simpa using g0, by simpa using g1, by simpa using g2, h⟩
    | 1, hi => simp at hi; subst hi; exact ⟨c3, c4, c5, by simpa using g3, by simpa using g4, by simpa using g5, h'⟩
/-- A row behind its first element. -/
theorem IsTysA.tail_ {A : Nat → Prop} {w : World} {t : Ty} {l : List Ty} {b o len : Nat} (h : IsTysA A w (t :: l) (some ⟨b, o, none⟩) len) : IsTysA A w l (some ⟨b, o + 3, none⟩) (len - 1) := by
  simp only [IsTysA] at h
  obtain ⟨_, ad, c0, c1, c2, e, _, _, _, _, _, hl⟩ := h
  simp at e
  subst e
  simpa [Addr.add] using hl
/-- A block of the call's own. -/
def Blk (w : World) (g : Nat) (t : TypeId) (cs : Array Value) : Prop := w.heap[g]? = some (.cells cs t (0, 0))
theorem Blk.lt {w : World} {g : Nat} {t : TypeId} {cs : Array Value} (h : Blk w g t cs) : g < w.heap.size := by
  rcases Nat.lt_or_ge g w.heap.size with hlt | hge
  · exact hlt
  · unfold Blk at h; rw [Array.getElem?_eq_none hge] at h; cases h
theorem Blk.cell {w : World} {g : Nat} {t : TypeId} {cs : Array Value} (h : Blk w g t cs) (i : Nat) : w.cell? ⟨g, i, none⟩ = cs[i]? := cell_of_row w g i cs t (0, 0) h
theorem Blk.frozen {w : World} {g : Nat} {t : TypeId} {cs : Array Value} (h : Blk w g t cs) (i : Nat) : w.frozen? ⟨g, i, none⟩ = false := by
  unfold Blk at h
  simp [World.frozen?, h]
theorem Blk.new (w : World) (t : TypeId) (cs : Array Value) : Blk (w.alloc (.cells cs t)) w.heap.size t cs := heap_alloc_new w _
theorem Blk.alloc {w : World} {g : Nat} {t : TypeId} {cs : Array Value} (h : Blk w g t cs) (o : Obj) : Blk (w.alloc o) g t cs := (Below.heap_alloc w o g h.lt).trans h
theorem Blk.drew {w : World} {g : Nat} {t : TypeId} {cs : Array Value} (h : Blk w g t cs) : Blk w.drew g t cs := h
theorem Blk.ext {w w' : World} {g : Nat} {t : TypeId} {cs : Array Value} (h : Blk w g t cs) (hx : Ext w w') : Blk w' g t cs := (Below.block hx g h.lt).trans h
theorem Blk.set_ {w : World} {g : Nat} {t : TypeId} {cs : Array Value} (h : Blk w g t cs) (i : Nat) (u : Value) : Blk (w.setCell ⟨g, i, none⟩ u) g t (cs.setIfInBounds i u) := by
  unfold Blk at h ⊢
  simp [World.setCell, Array.getElem?_modify, h]
theorem Blk.far {w : World} {g : Nat} {t : TypeId} {cs : Array Value} (h : Blk w g t cs) {p : Addr} (hp : g ≠ p.block) (u : Value) : Blk (w.setCell p u) g t cs := (Below.heap_setCell w p u g hp).trans h
end Go.Proofs.Ytkjjbackkipfdaa
