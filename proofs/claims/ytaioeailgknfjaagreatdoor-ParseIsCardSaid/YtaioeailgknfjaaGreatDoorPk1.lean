/- Part 1 of the proof of RowParseIs: walks of functions, and laws in plain Lean; no condition of ours. -/
import Derived.WalkKit
import Derived.WalkLawsBesides
import Derived.WalkSpells
import Derived.Lib.Hide
import Derived.Lib.QuietBelow
import Derived.BigQuiet
import Derived.KernelRfl
import Derived.Deep.RegionHeld3
import Derived.Lib.Bytealg
import Derived.Test.YtaioeailgknfjaaGreatDoorShelf
import Derived.Deep.DeepCutAuto
import Derived.Deep.CutBlock
import Derived.Deep.LoopGhost
import Derived.Shelf.Abstract
import Derived.Test.YtaioeailgknfjaaGreatDoorProg
import Derived.ProofKit
import Derived.OpenShut
import Derived.Lib.ItoaNum
import Derived.Lib.ItoaLen
import Derived.Lib.Join
import Derived.Lib.LaidTab
import Derived.WalkSmall
import Derived.Test.YtaioeailgknfjaaGreatDoorRows
import Derived.LaidSub
import Derived.Deep.DeepHandedRow
import Derived.Laws.AppendOwn
import Derived.SizedLaws
import Derived.Lib.AppendStr
import Derived.OwnWalk
import Derived.Lib.ParseIntBCases
import Derived.Lib.AtoiErrMem
import Derived.Lib.SmallJoins
import Derived.ArgAppend
import Derived.Laws.BytesString
import Derived.Laws.OwnMore
import Derived.Laws.StructEq
import Derived.Recover
import Derived.Defers
import Derived.Tactics2
import Derived.RegionTactic
import Derived.ChangeAlike
import Derived.Lib.SlBytesConst
/- Memory: what a later world keeps; trees of types in memory. No program in sight. -/
namespace Go.Proofs.YtaioeailgknfjaaGreatDoor
open Go Go.RowKit Go.Sort

/-- What was there is as it was. -/
def Ext (w w' : World) : Prop := Below w.heap.size w w'
theorem Ext.refl (w : World) : Ext w w := Below.refl _ _
theorem Ext.size {w w' : World} (h : Ext w w') : w.heap.size ≤ w'.heap.size := Below.size h
theorem Ext.trans {a b c : World} (h : Ext a b) (k : Ext b c) : Ext a c := Below.trans h (Below.mono k (Below.size h))
theorem Ext.alloc {a w : World} (h : Ext a w) (o : Obj) : Ext a (w.alloc o) := Below.alloc h (Below.size h) o
theorem Ext.drew {a w : World} (h : Ext a w) : Ext a w.drew := Below.drew h
theorem Ext.setCell {a w : World} (h : Ext a w) {p : Addr} (hp : a.heap.size ≤ p.block) (u : Value) : Ext a (w.setCell p u) := Below.setCell h hp u
theorem eA {w : World} : Ext w w := Ext.refl w
theorem eB {a w : World} {o : Obj} (h : Ext a w) : Ext a (w.alloc o) := h.alloc o
theorem eC {a w : World} (h : Ext a w) : Ext a w.drew := h.drew
theorem eD {a w : World} {p : Addr} {u : Value} (h : Ext a w) (hp : a.heap.size ≤ p.block) : Ext a (w.setCell p u) := h.setCell hp u
/-- The step that a walk's worlds are shown by. -/
theorem eX {a b : World} (h : Ext a b := by (repeat first|(with_reducible first|assumption|exact eA|refine eB ?_|refine eC ?_)|((with_reducible refine eD ?_ ?_);rotate_left;(first|(focus (simp;done))|(focus (simp;omega))|omega))|exact eA|assumption|refine eB ?_|refine eC ?_|refine eD ?_ (by (first|(focus (simp;done))|(focus (simp;omega))|omega))|refine Ext.trans ?_ (by assumption))) : Ext a b := h
theorem pA {α : Type} (l : List α) (i : Nat) (a : α) : l.toArray.setIfInBounds i a = (l.set i a).toArray := by simp
theorem pB {α : Type} (x : α) (l : List α) (a : α) : (x :: l).set 0 a = a :: l := rfl
theorem pC {α : Type} (x : α) (l : List α) (n : Nat) (a : α) : (x :: l).set (n + 1) a = x :: l.set n a := rfl
theorem Ext.cell {w w' : World} (h : Ext w w') {p : Addr} {v : Value} (hc : w.cell? p = some v) : w'.cell? p = some v := (Below.cell h (block_lt_of_cell hc)).trans hc
theorem ext_of_regrown {w w' : World} (h : ∃ p : Regrown, w' = grow (redrawn w p.d) p.os) : Ext w w' := by
  obtain ⟨p, rfl⟩ := h
  exact below_regrown w p.d p.os
theorem ext_regrown (w : World) (d : Nat) (os : Array Obj) : Ext w (grow (redrawn w d) os) := below_regrown w d os
theorem cells_regrown {w : World} {p : Addr} {v : Value} (h : w.cell? p = some v) : ∀ (d : Nat) (os : Array Obj), (grow (redrawn w d) os).cell? p = some v := fun d os => cell_regrown h d os
/-- A contract at a call inside a region that draws its order. -/
theorem quiet_ext {P : Program} {f : FuncId} {args : Array Value} {w : World} {v : Value} (h : ∀ w1, Ext w w1 → Calls P f args w1 fun e w' => e = .returned v ∧ Ext w1 w') :
    ∀ (d : Nat) (os : Array Obj), Calls P f args (grow (redrawn w d) os) fun e w'' => e = .returned v ∧ ∃ p : Regrown, w'' = grow (redrawn w p.d) p.os :=
  fun d os => Calls.regrown_of (h _ (ext_regrown w d os))

theorem cell_spot {w : World} {a : Addr} {v : Value} (h : w.cell? a = some v) : a.spot = none := by
  unfold World.cell? at h
  split at h
  · split at h
    · cases h
    · rename_i hs; simpa using hs
  · cases h

theorem ret_int {k : IntKind} {a b : Int} (h : a = b) : Ending.returned (.int k a) = .returned (.int k b) := by rw [h]
theorem ret_bool {a b : Bool} (h : a = b) : Ending.returned (.bool a) = .returned (.bool b) := by rw [h]

/-- No block. -/
def NoA : Nat → Prop := fun _ => False
/-- A block of the call's own. -/
def Blk (w : World) (g : Nat) (t : TypeId) (cs : Array Value) : Prop := w.heap[g]? = some (.cells cs t (0, 0))
theorem Blk.lt {w : World} {g : Nat} {t : TypeId} {cs : Array Value} (h : Blk w g t cs) : g < w.heap.size := by
  rcases Nat.lt_or_ge g w.heap.size with hlt | hge
  · exact hlt
  · unfold Blk at h; rw [Array.getElem?_eq_none hge] at h; cases h
theorem Blk.cell {w : World} {g : Nat} {t : TypeId} {cs : Array Value} (h : Blk w g t cs) (i : Nat) : w.cell? ⟨g, i, none⟩ = cs[i]? := cell_of_row w g i cs t (0, 0) h
theorem Blk.frozen {w : World} {g : Nat} {t : TypeId} {cs : Array Value} (h : Blk w g t cs) (i : Nat) : w.frozen? ⟨g, i, none⟩ = false := by
  unfold Blk at h
  simp [World.frozen?, h]
theorem Blk.new (w : World) (t : TypeId) (cs : Array Value) : Blk (w.alloc (.cells cs t)) w.heap.size t cs := heap_alloc_new w _
theorem Blk.alloc {w : World} {g : Nat} {t : TypeId} {cs : Array Value} (h : Blk w g t cs) (o : Obj) : Blk (w.alloc o) g t cs := (Below.heap_alloc w o g h.lt).trans h
theorem Blk.drew {w : World} {g : Nat} {t : TypeId} {cs : Array Value} (h : Blk w g t cs) : Blk w.drew g t cs := h
theorem Blk.ext {w w' : World} {g : Nat} {t : TypeId} {cs : Array Value} (h : Blk w g t cs) (hx : Ext w w') : Blk w' g t cs := (Below.block hx g h.lt).trans h
theorem Blk.set_ {w : World} {g : Nat} {t : TypeId} {cs : Array Value} (h : Blk w g t cs) (i : Nat) (u : Value) : Blk (w.setCell ⟨g, i, none⟩ u) g t (cs.setIfInBounds i u) := by
  unfold Blk at h ⊢
  simp [World.setCell, Array.getElem?_modify, h]
theorem Blk.far {w : World} {g : Nat} {t : TypeId} {cs : Array Value} (h : Blk w g t cs) {p : Addr} (hp : g ≠ p.block) (u : Value) : Blk (w.setCell p u) g t cs := (Below.heap_setCell w p u g hp).trans h
end Go.Proofs.YtaioeailgknfjaaGreatDoor

/- A region that draws its order, walked by steps that are written out: what yields the same in every later world is taken first; the rest comes in its one order. -/
namespace Go.Proofs.YtaioeailgknfjaaGreatDoor
open Go Go.RowKit Go.Sort
/-- What was there is as it was, but for the blocks A. -/
structure ExtX (A : Nat → Prop) (w w' : World) : Prop where
  os : w'.os = w.os
  tape : w'.tape = w.tape
  output : w'.output = w.output
  size : w.heap.size ≤ w'.heap.size
  block : ∀ k, k < w.heap.size → ¬ A k → w'.heap[k]? = w.heap[k]?
theorem ExtX.refl {A : Nat → Prop} (w : World) : ExtX A w w := ⟨rfl, rfl, rfl, Nat.le_refl _, fun _ _ _ => rfl⟩
theorem ExtX.of {A : Nat → Prop} {w w' : World} (h : Ext w w') : ExtX A w w' := ⟨Below.os h, Below.tape h, Below.output h, Below.size h, fun k hk _ => Below.block h k hk⟩
theorem ExtX.trans {A : Nat → Prop} {a b c : World} (h : ExtX A a b) (k : ExtX A b c) : ExtX A a c :=
  ⟨k.os.trans h.os, k.tape.trans h.tape, k.output.trans h.output, Nat.le_trans h.size k.size, fun i hi ha => (k.block i (Nat.lt_of_lt_of_le hi h.size) ha).trans (h.block i hi ha)⟩
theorem ExtX.then_ {A : Nat → Prop} {a b c : World} (h : ExtX A a b) (k : Ext b c) : ExtX A a c := h.trans (.of k)
theorem ExtX.alloc {A : Nat → Prop} {a w : World} (h : ExtX A a w) (o : Obj) : ExtX A a (w.alloc o) := h.then_ ((Ext.refl _).alloc o)
theorem ExtX.drew {A : Nat → Prop} {a w : World} (h : ExtX A a w) : ExtX A a w.drew := h.then_ (Ext.refl _).drew
theorem ExtX.setCell {A : Nat → Prop} {a w : World} (h : ExtX A a w) {p : Addr} (hp : A p.block ∨ a.heap.size ≤ p.block) (u : Value) : ExtX A a (w.setCell p u) :=
  ⟨h.os, h.tape, h.output, by simpa [World.setCell] using h.size, fun k hk ha => (Below.heap_setCell _ _ _ _ (by
    rintro rfl
    rcases hp with hp | hp
    · exact ha hp
    · omega)).trans (h.block k hk ha)⟩
theorem xA {A : Nat → Prop} {w : World} : ExtX A w w := ExtX.refl w
theorem xB {A : Nat → Prop} {a w : World} {o : Obj} (h : ExtX A a w) : ExtX A a (w.alloc o) := h.alloc o
theorem xC {A : Nat → Prop} {a w : World} (h : ExtX A a w) : ExtX A a w.drew := h.drew
theorem xD {A : Nat → Prop} {a w : World} {p : Addr} {u : Value} (h : ExtX A a w) (hp : A p.block ∨ a.heap.size ≤ p.block) : ExtX A a (w.setCell p u) := h.setCell hp u
/-- The step that a walk's worlds are shown by. -/
theorem xX {A : Nat → Prop} {a b : World} (h : ExtX A a b := by (repeat first|(with_reducible first|assumption|exact xA|refine xB ?_|refine xC ?_)|((with_reducible refine xD ?_ ?_);rotate_left;(first|(left;rfl)|(left;left;rfl)|(left;right;rfl)|(left;right;exact Nat.le_refl _)|(left;right;assumption)|(right;(focus (simp;done)))|(right;(focus (simp;omega)))|(right;omega)))|(with_reducible refine ExtX.then_ ?_ (by assumption)))) : ExtX A a b := h
theorem ExtX.cell {A : Nat → Prop} {w w' : World} (h : ExtX A w w') {p : Addr} {v : Value} (ha : ¬ A p.block) (hc : w.cell? p = some v) : w'.cell? p = some v :=
  (World.cell?_of_block (w := w) (h.block p.block (block_lt_of_cell hc) ha)).trans hc
theorem ExtX.ext {A : Nat → Prop} {w w0 w' : World} (h0 : Ext w w0) (h : ExtX A w0 w') (ha : ∀ b, A b → w.heap.size ≤ b) : Ext w w' :=
  ⟨h.os.trans (Below.os h0), h.tape.trans (Below.tape h0), h.output.trans (Below.output h0), Nat.le_trans (Below.size h0) h.size, fun k hk =>
    (h.block k (Nat.lt_of_lt_of_le hk (Below.size h0)) (fun hA => by have := ha k hA; omega)).trans (Below.block h0 k hk)⟩
section
variable {P : Program} {l : List Oper} {Q : Exit → Act → World → Prop} {S : World → Prop}
theorem held_take (i : Nat) {oi : Oper} {v : Value} {fuel : Nat} {listed : Array Bool} {a : Act} {w : World} (hi : l[i]? = some oi)
    (hs : Region.noSelect l.toArray = true) (hf : Region.free .any l.toArray listed i = true) (hr : (Region.ready .any l.toArray listed).contains i = true)
    (hQ : ∀ c a w, Q (.panic c) (a.put oi.dst v) w → Q (.panic c) a w) (hS : S w)
    (hw : Region.wanted oi (yielded l.toArray a.tmps) = true) (hy : ∀ w, S w → (execOp a.eval oi).run P w = .ok (.value v) w)
    (h : wpAnyH P .any l.toArray Q S fuel (listed.setIfInBounds i true) (a.put oi.dst v) w) : wpAnyH P .any l.toArray Q S (fuel + 1) listed a w :=
  wpAnyH_take (i := i) (by simpa using hi) hs hf hr hQ (.inl ⟨hw, hy⟩) hS h
theorem tK (i : Nat) {oi : Oper} {v : Value} {fuel : Nat} {listed : Array Bool} {a : Act} {w : World} (hy : ∀ w, S w → (execOp a.eval oi).run P w = .ok (.value v) w) (h : wpAnyH P .any l.toArray Q S fuel (listed.setIfInBounds i true) (a.put oi.dst v) w)
    (hi : l[i]? = some oi := by rfl) (hs : Region.noSelect l.toArray = true := by kernel_rfl) (hf : Region.free .any l.toArray listed i = true := by kernel_rfl) (hr : (Region.ready .any l.toArray listed).contains i = true := by kernel_rfl)
    (hQ : ∀ c a w, Q (.panic c) (a.put oi.dst v) w → Q (.panic c) a w := by exact fun _ _ _ h => h) (hS : S w := by assumption) (hw : Region.wanted oi (yielded l.toArray a.tmps) = true := by rfl) : wpAnyH P .any l.toArray Q S (fuel + 1) listed a w :=
  held_take i hi hs hf hr hQ hS hw hy h
theorem held_skip (i : Nat) {oi : Oper} {fuel : Nat} {listed : Array Bool} {a : Act} {w : World} (hi : l[i]? = some oi)
    (hs : Region.noSelect l.toArray = true) (hf : Region.free .any l.toArray listed i = true) (hr : (Region.ready .any l.toArray listed).contains i = true)
    (hQ : ∀ c a w, Q (.panic c) (a.put oi.dst undef) w → Q (.panic c) a w) (hS : S w)
    (hw : Region.wanted oi (yielded l.toArray a.tmps) = false)
    (h : wpAnyH P .any l.toArray Q S fuel (listed.setIfInBounds i true) (a.put oi.dst undef) w) : wpAnyH P .any l.toArray Q S (fuel + 1) listed a w :=
  wpAnyH_take (i := i) (by simpa using hi) hs hf hr hQ (.inr ⟨hw, rfl⟩) hS h
theorem held_do (i : Nat) {oi : Oper} {fuel : Nat} {listed : Array Bool} {a : Act} {w : World} (hi : l[i]? = some oi)
    (hr : Region.ready .any l.toArray listed = [i]) (hw : Region.wanted oi (yielded l.toArray a.tmps) = true)
    (h : ∀ K' : Act → World → Prop, Shut (∀ a w, S w → (S w → wpAnyH P .any l.toArray Q S fuel (listed.setIfInBounds i true) a w) → K' a w) → Oper.wp P oi a w K' Q) : wpAnyH P .any l.toArray Q S (fuel + 1) listed a w :=
  wpAnyH_ready hr (by simp) (AllReadyH.cons (o := oi) (by simpa using hi) (fun K hK => by rw [if_pos hw]; exact h K hK) AllReadyH.nil)
theorem held_cons (i : Nat) {oi : Oper} {fuel : Nat} {listed : Array Bool} {a : Act} {w : World} {rs : List Nat} (hi : l[i]? = some oi) (hw : Region.wanted oi (yielded l.toArray a.tmps) = true)
    (h : ∀ K' : Act → World → Prop, Shut (∀ a w, S w → (S w → wpAnyH P .any l.toArray Q S fuel (listed.setIfInBounds i true) a w) → K' a w) → Oper.wp P oi a w K' Q)
    (hs : AllReadyH P .any l.toArray Q S fuel listed a w rs) : AllReadyH P .any l.toArray Q S fuel listed a w (i :: rs) :=
  AllReadyH.cons (o := oi) (by simpa using hi) (fun K hK => by rw [if_pos hw]; exact h K hK) hs
end
end Go.Proofs.YtaioeailgknfjaaGreatDoor

/- Strings as rows of bytes. No program in sight. -/
namespace Go.Proofs.YtaioeailgknfjaaGreatDoor
open Go

/-- A row of bytes as a string's bytes. -/
def bs (l : List UInt8) : ByteArray := ⟨l.toArray⟩
theorem bs_append (a b : List UInt8) : bs a ++ bs b = bs (a ++ b) := by
  unfold bs
  apply ByteArray.ext
  simp
theorem bs_size (a : List UInt8) : (bs a).size = a.length := by simp [bs, ByteArray.size]
theorem bs_list (a : List UInt8) : (bs a).data.toList = a := by simp [bs]
theorem bs_inj {a b : List UInt8} : bs a = bs b ↔ a = b := by
  constructor
  · intro h; rw [← bs_list a, h, bs_list]
  · rintro rfl; rfl
end Go.Proofs.YtaioeailgknfjaaGreatDoor

/- The first place of something in a row. No program in sight. -/
namespace Go.Proofs.YtaioeailgknfjaaGreatDoor

def fidx {α : Type} (q : α → Bool) (l : List α) : Int := if l.any q then (l.findIdx q : Nat) else -1
theorem fidx_none {α : Type} {q : α → Bool} {l : List α} (h : ∀ t, t ∈ l → q t = false) : fidx q l = -1 := by
  unfold fidx
  rw [if_neg]
  simp only [List.any_eq_true, not_exists, not_and]
  intro t ht
  simp [h t ht]
theorem fidx_at {α : Type} {q : α → Bool} {l : List α} {i : Nat} {t : α} (h : ∀ t, t ∈ l.take i → q t = false) (g : l[i]? = some t) (hq : q t = true) : fidx q l = i := by
  unfold fidx
  rw [if_pos (List.any_eq_true.2 ⟨t, List.mem_of_getElem? g, hq⟩)]
  congr 1
  have hi : i < l.length := by
    rcases Nat.lt_or_ge i l.length with h | h
    · exact h
    · rw [List.getElem?_eq_none h] at g; cases g
  refine (List.findIdx_eq hi).2 ⟨?_, fun j hj => ?_⟩
  · rw [List.getElem?_eq_getElem hi] at g; cases g; exact hq
  · rw [Bool.eq_false_iff, ne_eq, Bool.not_eq_true]
    exact h _ (List.mem_take_iff_getElem.2 ⟨j, by omega, rfl⟩)
theorem fidx_nonneg {α : Type} (q : α → Bool) (l : List α) : decide (0 ≤ fidx q l) = l.any q := by
  unfold fidx
  cases h : l.any q <;> simp
theorem fidx_bd {α : Type} (q : α → Bool) (l : List α) : -1 ≤ fidx q l ∧ fidx q l ≤ l.length := by
  unfold fidx
  split
  · have := List.findIdx_le_length (xs := l) (p := q); omega
  · omega
end Go.Proofs.YtaioeailgknfjaaGreatDoor

/- Words, in plain Lean. -/
namespace Go.Proofs.YtaioeailgknfjaaGreatDoor
open Go

def signs : List Int := [40, 41, 44, 33, 58, 61, 62, 43, 45, 42, 60, 59]
/-- A byte's class. -/
def cls (c : Int) : Int :=
  if c = 32 ∨ c = 9 ∨ c = 10 then 1 else if 48 ≤ c ∧ c ≤ 57 then 2 else if 97 ≤ c ∧ c ≤ 122 then 3 else if 65 ≤ c ∧ c ≤ 90 then 4 else if c ∈ signs then 5 else 0
/-- A string's bytes as numbers. -/
def il (s : ByteArray) : List Int := s.data.toList.map fun b => (b.toNat : Int)
theorem il_length (s : ByteArray) : (il s).length = s.size := by rw [il, List.length_map, Array.length_toList]; rfl
theorem il_bound (s : ByteArray) {c : Int} (h : c ∈ il s) : 0 ≤ c ∧ c ≤ 255 := by
  simp only [il, List.mem_map] at h
  obtain ⟨b, _, rfl⟩ := h
  have := b.toNat_lt
  omega
theorem cls_bound (c : Int) : 0 ≤ cls c ∧ cls c ≤ 5 := by unfold cls; repeat' split <;> try omega
/-- Letters and digits. -/
def inner (c : Int) : Bool := decide (2 ≤ cls c) && decide (cls c ≤ 4)
/-- A text that begins with a byte of a class, and goes on with letters and digits. -/
def shapely (l : List Int) (f : Int) : Bool :=
  match l with
  | [] => false
  | c :: _ => decide (l.length ≤ 16) && (cls c == f) && l.all inner
theorem il_at (s : ByteArray) {i : Nat} (h : i < s.size) : (il s)[i]? = some ((s[i].toNat : Nat) : Int) := by
  have h' : i < s.data.toList.length := by rw [Array.length_toList]; exact h
  rw [il, List.getElem?_map, List.getElem?_eq_getElem h']
  rfl
theorem byte_bound (b : UInt8) : 0 ≤ ((b.toNat : Nat) : Int) ∧ ((b.toNat : Nat) : Int) ≤ 255 := by
  have := b.toNat_lt
  omega
theorem shapely_eq (s : ByteArray) (f : Int) (h : 0 < s.size) : shapely (il s) f = (decide (s.size ≤ 16) && (cls ((s[0].toNat : Nat) : Int) == f) && (il s).all inner) := by
  have h0 := il_at s h
  have hl := il_length s
  cases hc : il s with
  | nil => rw [hc] at hl; simp at hl; omega
  | cons c l =>
    rw [hc] at h0 hl
    simp at h0
    subst h0
    unfold shapely
    rw [hl]
theorem nat_beq_zero (k : Nat) : ((k : Int) == 0) = (k == 0) := by rw [Bool.eq_iff_iff]; simp
def keyw : List (List UInt8) := [[108, 101, 116], [108, 101, 116, 114, 101, 99], [105, 110], [102, 110], [105, 102], [116, 104, 101, 110], [101, 108, 115, 101], [114, 97, 105, 115, 101], [116, 114, 121], [119, 105, 116, 104], [114, 101, 102], [102, 115, 116], [115, 110, 100], [101, 120, 110]]
/-- The place of a text among some, from n on; 0. -/
def placeOf (s : List UInt8) : List (List UInt8) → Nat → Nat
  | [], _ => 0
  | x :: l, n => if x = s then n else placeOf s l (n + 1)
/-- Which keyword a text is; 0. -/
def kwd (s : ByteArray) : Nat := placeOf s.data.toList keyw 1
def isName (s : ByteArray) : Bool := shapely (il s) 3 && kwd s == 0
def isExn (s : ByteArray) : Bool := shapely (il s) 4
theorem placeOf_le (s : List UInt8) (l : List (List UInt8)) (n : Nat) : placeOf s l n ≤ n + l.length := by
  induction l generalizing n with
  | nil => simp [placeOf]
  | cons x l ih =>
    simp only [placeOf]
    split
    · omega
    · have := ih (n + 1); simp; omega
theorem kwd_le (s : ByteArray) : kwd s ≤ 15 := placeOf_le _ _ _
theorem placeOf_none {s : List UInt8} {l : List (List UInt8)} (h : ∀ x, x ∈ l → x ≠ s) (n : Nat) : placeOf s l n = 0 := by
  induction l generalizing n with
  | nil => rfl
  | cons x l ih =>
    simp only [placeOf]
    rw [if_neg (h x (by simp)), ih (fun y hy => h y (by simp [hy]))]
theorem placeOf_at {s : List UInt8} {l : List (List UInt8)} {i : Nat} {x : List UInt8} (hi : l[i]? = some x) (hx : x = s) (hb : ∀ y, y ∈ l.take i → y ≠ s) (n : Nat) : placeOf s l n = n + i := by
  induction l generalizing i n with
  | nil => simp at hi
  | cons a l ih =>
    cases i with
    | zero => simp at hi; subst hi; simp [placeOf, hx]
    | succ i =>
      simp only [List.getElem?_cons_succ] at hi
      simp only [placeOf]
      rw [if_neg (hb a (by simp)), ih hi (fun y hy => hb y (by simp [hy]))]
      omega
theorem index_blank (c : Int) (h0 : 0 ≤ c) (h1 : c ≤ 255) : decide (0 ≤ Lib.indexByte [32, 9, 10] c.toNat.toUInt8) = decide (c = 32 ∨ c = 9 ∨ c = 10) := by
  have h : ∀ n : Fin 256, decide (0 ≤ Lib.indexByte [32, 9, 10] n.val.toUInt8) = decide ((n.val : Int) = 32 ∨ (n.val : Int) = 9 ∨ (n.val : Int) = 10) := by decide +kernel
  have := h ⟨c.toNat, by omega⟩
  rw [show ((c.toNat : Nat) : Int) = c from by omega] at this
  exact this
theorem index_sign (c : Int) (h0 : 0 ≤ c) (h1 : c ≤ 255) : decide (0 ≤ Lib.indexByte [40, 41, 44, 33, 58, 61, 62, 43, 45, 42, 60, 59] c.toNat.toUInt8) = decide (c ∈ signs) := by
  have h : ∀ n : Fin 256, decide (0 ≤ Lib.indexByte [40, 41, 44, 33, 58, 61, 62, 43, 45, 42, 60, 59] n.val.toUInt8) = decide ((n.val : Int) ∈ signs) := by decide +kernel
  have := h ⟨c.toNat, by omega⟩
  rw [show ((c.toNat : Nat) : Int) = c from by omega] at this
  exact this
/-- How many bytes, from the first one on, are of some classes. -/
def spanOf (cl : List Int) (l : List Int) : Nat := (l.takeWhile fun c => cl.contains (cls c)).length
theorem find_while {α : Type} (p : α → Bool) (l : List α) : l.findIdx (fun x => !p x) = (l.takeWhile p).length := by
  induction l with
  | nil => rfl
  | cons c l ih =>
    rw [List.findIdx_cons]
    cases h : p c
    · rw [List.takeWhile_cons_of_neg (by rw [h]; simp)]; rfl
    · rw [List.takeWhile_cons_of_pos h]; simp [ih]
theorem while_all {α : Type} (p : α → Bool) (l : List α) (h : (l.any fun x => !p x) = false) : l.takeWhile p = l := by
  induction l with
  | nil => rfl
  | cons c l ih =>
    rw [List.any_cons, Bool.or_eq_false_iff] at h
    rw [List.takeWhile_cons_of_pos (by simpa using h.1), ih h.2]
theorem span_find (cl l : List Int) : (if fidx (fun c => !cl.contains (cls c)) l < 0 then (l.length : Int) else fidx (fun c => !cl.contains (cls c)) l) = spanOf cl l := by
  unfold spanOf fidx
  rw [find_while (fun c => cl.contains (cls c))]
  cases h : l.any fun c => !cl.contains (cls c)
  · rw [while_all (fun c => cl.contains (cls c)) l h]
    simp
  · simp
    omega
theorem spanOf_all (cl l : List Int) : (spanOf cl l = l.length) ↔ ∀ c, c ∈ l → cl.contains (cls c) = true := by
  unfold spanOf
  induction l with
  | nil => simp
  | cons c l ih =>
    cases hc : cl.contains (cls c)
    · rw [List.takeWhile_cons_of_neg (p := fun c => cl.contains (cls c)) (by rw [hc]; simp)]
      simp only [List.length_nil, List.length_cons]
      constructor
      · intro h; omega
      · intro h; rw [h c (by simp)] at hc; cases hc
    · rw [List.takeWhile_cons_of_pos (p := fun c => cl.contains (cls c)) hc]
      simp only [List.length_cons, Nat.add_right_cancel_iff, ih]
      constructor
      · rintro h d hd
        rcases List.mem_cons.1 hd with rfl | hd
        · exact hc
        · exact h d hd
      · intro h d hd; exact h d (List.mem_cons_of_mem _ hd)
theorem spanOf_le (cl l : List Int) : spanOf cl l ≤ l.length := (List.takeWhile_sublist _).length_le
end Go.Proofs.YtaioeailgknfjaaGreatDoor

/- Rows of one-cell values in memory: bytes, texts. No program in sight. -/
namespace Go.Proofs.YtaioeailgknfjaaGreatDoor
open Go Go.RowKit Go.Sort

/-- A row of values, a cell each. -/
def IsRow (w : World) (l : List Value) (a : Option Addr) (len : Nat) : Prop := len = l.length ∧ ∀ (i : Nat) v, l[i]? = some v → ∃ b o, a = some ⟨b, o, none⟩ ∧ w.cell? ⟨b, o + i, none⟩ = some v
/-- Bytes, as the program holds them. -/
def vby (l : List Int) : List Value := l.map fun c => .int .u8 c
/-- Texts, as the program holds them. -/
def vstr (l : List ByteArray) : List Value := l.map .string
theorem IsRow.ext {w w' : World} (hx : Ext w w') {l : List Value} {a : Option Addr} {len : Nat} (h : IsRow w l a len) : IsRow w' l a len :=
  ⟨h.1, fun i v hi => let ⟨b, o, e, q⟩ := h.2 i v hi; ⟨b, o, e, hx.cell q⟩⟩
theorem IsRow.nil (w : World) (a : Option Addr) : IsRow w [] a 0 := ⟨rfl, fun i v h => by simp at h⟩
theorem IsRow.byte {w : World} {l : List Int} {a : Option Addr} {len : Nat} (h : IsRow w (vby l) a len) {j : Nat} (hj : j < len) : ∃ c b o, l[j]? = some c ∧ a = some ⟨b, o, none⟩ ∧ w.cell? ⟨b, o + j, none⟩ = some (.int .u8 c) := by
  have hl := h.1
  simp [vby] at hl
  have hc : l[j]? = some l[j] := List.getElem?_eq_getElem (by omega)
  obtain ⟨b, o, e, q⟩ := h.2 j (.int .u8 l[j]) (by simp [vby, hc])
  exact ⟨_, b, o, hc, e, q⟩
theorem IsRow.str {w : World} {l : List ByteArray} {a : Option Addr} {len : Nat} (h : IsRow w (vstr l) a len) {j : Nat} (hj : j < len) : ∃ c b o, l[j]? = some c ∧ a = some ⟨b, o, none⟩ ∧ w.cell? ⟨b, o + j, none⟩ = some (.string c) := by
  have hl := h.1
  simp [vstr] at hl
  have hc : l[j]? = some l[j] := List.getElem?_eq_getElem (by omega)
  obtain ⟨b, o, e, q⟩ := h.2 j (.string l[j]) (by simp [vstr, hc])
  exact ⟨_, b, o, hc, e, q⟩
theorem IsRow.of_block {w : World} {l : List Value} {b : Nat} (h : ∀ (i : Nat) v, l[i]? = some v → w.cell? ⟨b, i, none⟩ = some v) : IsRow w l (some ⟨b, 0, none⟩) l.length :=
  ⟨rfl, fun i v hi => ⟨b, 0, rfl, by simpa using h i v hi⟩⟩
theorem IsRow.drop {w : World} {l : List Value} {b o len k : Nat} (h : IsRow w l (some ⟨b, o, none⟩) len) : IsRow w (l.drop k) (some ⟨b, o + k, none⟩) (len - k) :=
  ⟨by simp [h.1], fun i v hi => by
    rw [List.getElem?_drop] at hi
    obtain ⟨b', o', e, q⟩ := h.2 _ v hi
    simp at e
    obtain ⟨rfl, rfl⟩ := e
    exact ⟨_, _, rfl, by rw [← q]; congr 2; omega⟩⟩
/-- A row that is a new block. -/
theorem IsRow.new (w : World) (t : TypeId) (l : List Value) : IsRow (w.alloc (.cells l.toArray t)) l (some ⟨w.heap.size, 0, none⟩) l.length :=
  IsRow.of_block fun i v hi => by rw [World.cell?_alloc_new]; simpa using hi
theorem vby_drop (l : List Int) (k : Nat) : (vby l).drop k = vby (l.drop k) := by simp [vby, List.map_drop]
theorem vby_il_length (s : ByteArray) : (vby (il s)).length = s.size := by rw [vby, List.length_map, il_length]
end Go.Proofs.YtaioeailgknfjaaGreatDoor

/- The walks of package chars: classes, spans. The walks of package words: keywords, names. The walks of package words: rows of names. -/
namespace Go.Proofs.YtaioeailgknfjaaGreatDoor
open Go Go.RowKit Go.Sort

set_option maxHeartbeats 1000000 in
theorem chars_class (c : Int) (w : World) (h0 : 0 ≤ c) (h1 : c ≤ 255) :
    Calls Tryz.prog 110 #[.int .u8 c] w fun e w' => e = .returned (.int .u8 (cls c)) ∧ Ext w w' := by
  have hb1 := index_blank c h0 h1
  have hb2 := index_sign c h0 h1
  have KB := Lib.hid fun W => Tryz.strings_IndexByte ⟨#[32, 9, 10]⟩ c W
  have KS := Lib.hid fun W => Tryz.strings_IndexByte ⟨#[40, 41, 44, 33, 58, 61, 62, 43, 45, 42, 60, 59]⟩ c W
  obtain ⟨nb, hnb⟩ : ∃ nb, nb = Lib.indexByte [32, 9, 10] c.toNat.toUInt8 := ⟨_, rfl⟩
  obtain ⟨ns, hns⟩ : ∃ ns, ns = Lib.indexByte [40, 41, 44, 33, 58, 61, 62, 43, 45, 42, 60, 59] c.toNat.toUInt8 := ⟨_, rfl⟩
  rw [← hnb] at hb1 KB
  rw [← hns] at hb2 KS
  clear hnb hns
  obtain ⟨k, hk⟩ : ∃ k, k = cls c := ⟨_, rfl⟩
  rw [← hk]
  unfold cls at hk
  have cases : (decide (0 ≤ nb) = true ∧ k = 1) ∨ (decide (0 ≤ nb) = false ∧ decide (48 ≤ c) = true ∧ decide (c ≤ 57) = true ∧ k = 2)
      ∨ (decide (0 ≤ nb) = false ∧ decide (48 ≤ c) = true ∧ decide (c ≤ 57) = false ∧ decide (97 ≤ c) = true ∧ decide (c ≤ 122) = true ∧ k = 3)
      ∨ (decide (0 ≤ nb) = false ∧ decide (48 ≤ c) = true ∧ decide (c ≤ 57) = false ∧ decide (97 ≤ c) = false ∧ decide (65 ≤ c) = true ∧ decide (c ≤ 90) = true ∧ k = 4)
      ∨ (decide (0 ≤ nb) = false ∧ ((decide (48 ≤ c) = false) ∨ (decide (48 ≤ c) = true ∧ decide (c ≤ 57) = false)) ∧ ((decide (97 ≤ c) = false) ∨ (decide (97 ≤ c) = true ∧ decide (c ≤ 122) = false)) ∧ ((decide (65 ≤ c) = false) ∨ (decide (65 ≤ c) = true ∧ decide (c ≤ 90) = false)) ∧ ((decide (0 ≤ ns) = true ∧ k = 5) ∨ (decide (0 ≤ ns) = false ∧ k = 0))) := by
    rw [hb1, hb2]
    simp only [decide_eq_true_eq, decide_eq_false_iff_not]
    by_cases A : c = 32 ∨ c = 9 ∨ c = 10
    · rw [if_pos A] at hk; exact .inl ⟨A, hk⟩
    rw [if_neg A] at hk
    by_cases B : 48 ≤ c ∧ c ≤ 57
    · rw [if_pos B] at hk; exact .inr (.inl ⟨A, B.1, B.2, hk⟩)
    rw [if_neg B] at hk
    by_cases C : 97 ≤ c ∧ c ≤ 122
    · rw [if_pos C] at hk; exact .inr (.inr (.inl ⟨A, by omega, by omega, C.1, C.2, hk⟩))
    rw [if_neg C] at hk
    by_cases D : 65 ≤ c ∧ c ≤ 90
    · rw [if_pos D] at hk; exact .inr (.inr (.inr (.inl ⟨A, by omega, by omega, by omega, D.1, D.2, hk⟩)))
    rw [if_neg D] at hk
    refine .inr (.inr (.inr (.inr ⟨A, by omega, by omega, by omega, ?_⟩)))
    by_cases E : c ∈ signs
    · rw [if_pos E] at hk; exact .inl ⟨E, hk⟩
    · rw [if_neg E] at hk; exact .inr ⟨E, hk⟩
  clear hk hb1 hb2
  rcases cases with ⟨A, rfl⟩ | ⟨A, B, C, rfl⟩ | ⟨A, B, C, D, E, rfl⟩ | ⟨A, B, C, D, E, F, rfl⟩ | ⟨A, B | ⟨B, B'⟩, C | ⟨C, C'⟩, D | ⟨D, D'⟩, ⟨E, rfl⟩ | ⟨E, rfl⟩⟩
  all_goals
    go_enter Tryz.func110, Tryz.ntmps110
    go_wp2_with (first | (go_at_call 128; (with_reducible refine (KB.out _).mono ?_); rintro e w' ⟨rfl, rfl⟩) | (go_at_call 128; (with_reducible refine (KS.out _).mono ?_); rintro e w' ⟨rfl, rfl⟩))
    go_ret
    exact ⟨rfl, Ext.refl _⟩

set_option maxHeartbeats 400000 in
theorem bytes_index (x : Int) (l : List Int) (w : World) (a : Option Addr) (len cap : Nat) (h1 : len ≤ cap) (h2 : cap ≤ 9223372036854775807) (hl : IsRow w (vby l) a len) :
    Calls Tryz.prog 129 #[.slice a len cap, .int .u8 x] w fun e w' => e = .returned (.int .i64 (fidx (fun y => x == y) l)) ∧ Ext w w' := by
  have hll := hl.1
  simp only [vby, List.length_map] at hll
  have HL := Lib.hid hll
  have HR := Lib.hid hl
  clear hll hl
  go_enter Tryz.func129, Tryz.ntmps129
  go_wp2_with fail
  go_loopg [8] len (fun g i wr => ∃ j : Nat, g = len - j ∧ j ≤ len ∧ i = .int .i64 j ∧ (∀ t, t ∈ l.take j → (x == t) = false) ∧ wr = w)
  case atStart => exact ⟨0, by omega, by omega, rfl, by simp, rfl⟩
  case round =>
    obtain ⟨j, rfl, hj, rfl, hto, rfl⟩ := hrel
    have HT := Lib.hid hto
    clear hto
    by_cases hlt : j < len
    · obtain ⟨t, b, o, g, rfl, q⟩ := HR.out.byte hlt
      have G := Lib.hid g
      clear g
      cases hr : x == t
      · have HX := Lib.hid hr
        go_wp2_with fail
        go_roundg (len - (j + 1))
        case rel =>
          refine ⟨j + 1, rfl, by omega, by go_num, ?_, rfl⟩
          intro y hy
          rw [List.take_add_one, G.out] at hy
          simp only [List.mem_append, Option.toList_some, List.mem_singleton] at hy
          rcases hy with hy | rfl
          · exact HT.out y hy
          · exact HX.out
        case measure => omega
      · have HX := Lib.hid hr
        go_wp2_with fail
        go_ret
        exact ⟨ret_int (fidx_at HT.out G.out HX.out).symm, Ext.refl _⟩
    · obtain rfl : j = len := by omega
      go_wp2_with fail
      go_ret
      have h0 := HT.out
      rw [List.take_of_length_le (by rw [← HL.out]; omega)] at h0
      exact ⟨ret_int (fidx_none h0).symm, Ext.refl _⟩

set_option maxHeartbeats 400000 in
theorem bytes_contains (x : Int) (l : List Int) (w : World) (a : Option Addr) (len cap : Nat) (h1 : len ≤ cap) (h2 : cap ≤ 9223372036854775807) (hl : IsRow w (vby l) a len) :
    Calls Tryz.prog 113 #[.slice a len cap, .int .u8 x] w fun e w' => e = .returned (.bool (l.contains x)) ∧ Ext w w' := by
  have HF := Lib.hid (fidx_nonneg (fun y => x == y) l)
  have HE : Hid (l.any (fun y => x == y) = l.contains x) := List.contains_eq_any_beq.symm
  go_enter Tryz.func113, Tryz.ntmps113
  go_wp2_with (go_at_call 129; refine (bytes_index x l _ a len cap h1 h2 hl).mono ?_; rintro e w1 ⟨rfl, x1⟩)
  go_ret
  exact ⟨ret_bool (HF.out.trans HE.out), x1⟩

set_option maxHeartbeats 400000 in
theorem chars_span1 (c : Int) (cl : List Int) (w : World) (b : Nat) (a : Option Addr) (len cap : Nat) (h0 : 0 ≤ c) (h255 : c ≤ 255) (h1 : len ≤ cap) (h2 : cap ≤ 9223372036854775807) (hb : w.cell? ⟨b, 0, none⟩ = some (.slice a len cap)) (hl : IsRow w (vby cl) a len) :
    Calls Tryz.prog 112 #[.int .u8 c, .pointer (some ⟨b, 0, none⟩)] w fun e w' => e = .returned (.bool (!cl.contains (cls c))) ∧ Ext w w' := by
  have hbl := block_lt_of_cell hb
  simp at hbl
  have kb := cells_regrown hb
  have cQ := quiet_ext (w := w) fun w1 h1 => chars_class c w1 h0 h255
  have cR := quiet_ext (w := w) fun w1 hx => bytes_contains (cls c) cl w1 a len cap h1 h2 (hl.ext hx)
  generalize cls c = k at *
  go_enter Tryz.func112, Tryz.ntmps112
  go_wp2_with fail
  refine wp_region_quiet_below (by kernel_rfl) (by kernel_rfl) ?_
  repeat (go_big_quiet_step (first | exact cQ _ _ | exact cR _ _))
  refine wpQuiet_nil ?_
  intro w1 hq_w1
  have x1 := ext_of_regrown hq_w1
  clear hq_w1
  go_wp2_with fail
  go_ret
  exact ⟨ret_bool (by simp), x1⟩

set_option maxHeartbeats 400000 in
theorem bytes_indexFunc (cl : List Int) (l : List Int) (w : World) (b : Nat) (a : Option Addr) (len cap : Nat) (a' : Option Addr) (len' cap' : Nat) (h1 : len ≤ cap) (h2 : cap ≤ 9223372036854775807) (h1' : len' ≤ cap') (h2' : cap' ≤ 9223372036854775807) (hl : IsRow w (vby l) a len)
    (hby : ∀ c, c ∈ l → 0 ≤ c ∧ c ≤ 255) (hb : w.cell? ⟨b, 0, none⟩ = some (.slice a' len' cap')) (hcl : IsRow w (vby cl) a' len') :
    Calls Tryz.prog 111 #[.slice a len cap, .func (.func 112) #[] #[.pointer (some ⟨b, 0, none⟩)]] w fun e w' => e = .returned (.int .i64 (fidx (fun c => !cl.contains (cls c)) l)) ∧ Ext w w' := by
  have hll := hl.1
  simp only [vby, List.length_map] at hll
  have HL := Lib.hid hll
  have HR := Lib.hid hl
  have HC := Lib.hid hcl
  have HB := Lib.hid hby
  have HBC := Lib.hid hb
  clear hll hl hcl hby hb
  go_enter Tryz.func111, Tryz.ntmps111
  go_wp2_with fail
  go_loopg [8] len (fun g i wr => ∃ j : Nat, g = len - j ∧ j ≤ len ∧ i = .int .i64 j ∧ (∀ t, t ∈ l.take j → (!cl.contains (cls t)) = false) ∧ Ext w wr)
  case atStart => exact ⟨0, by omega, by omega, rfl, by simp, Ext.refl _⟩
  case round =>
    obtain ⟨j, rfl, hj, rfl, hto, hx⟩ := hrel
    have HT := Lib.hid hto
    clear hto
    by_cases hlt : j < len
    · obtain ⟨t, b, o, g, rfl, q⟩ := (HR.out.ext hx).byte hlt
      have hbd := HB.out t (List.mem_of_getElem? g)
      have KC := Lib.hid (chars_span1 t cl wr _ a' len' cap' hbd.1 hbd.2 h1' h2' (hx.cell HBC.out) (HC.out.ext hx))
      have G := Lib.hid g
      clear g
      cases hr : !cl.contains (cls t)
      · have HX := Lib.hid hr
        rw [hr] at KC
        clear hr
        go_wp2_with (go_at_call 112; refine (KC.out).mono ?_; rintro e w1 ⟨rfl, x1⟩)
        go_roundg (len - (j + 1))
        case rel =>
          refine ⟨j + 1, rfl, by omega, by go_num, ?_, hx.trans x1⟩
          intro y hy
          rw [List.take_add_one, G.out] at hy
          simp only [List.mem_append, Option.toList_some, List.mem_singleton] at hy
          rcases hy with hy | rfl
          · exact HT.out y hy
          · exact HX.out
        case measure => omega
      · have HX := Lib.hid hr
        rw [hr] at KC
        clear hr
        go_wp2_with (go_at_call 112; refine (KC.out).mono ?_; rintro e w1 ⟨rfl, x1⟩)
        go_ret
        exact ⟨ret_int (fidx_at HT.out G.out HX.out).symm, hx.trans x1⟩
    · obtain rfl : j = len := by omega
      go_wp2_with fail
      go_ret
      have h0 := HT.out
      rw [List.take_of_length_le (by rw [← HL.out]; omega)] at h0
      exact ⟨ret_int (fidx_none h0).symm, hx⟩

set_option maxHeartbeats 400000 in
theorem chars_span (cl l : List Int) (k : Nat) (w : World) (b o : Nat) (len cap : Nat) (a' : Option Addr) (len' cap' : Nat) (h1 : len ≤ cap) (h2 : cap ≤ 9223372036854775807) (h1' : len' ≤ cap') (h2' : cap' ≤ 9223372036854775807) (hk : k < len) (hl : IsRow w (vby l) (some ⟨b, o, none⟩) len)
    (hby : ∀ c, c ∈ l → 0 ≤ c ∧ c ≤ 255) (hcl : IsRow w (vby cl) a' len') :
    Calls Tryz.prog 90 #[.slice (some ⟨b, o, none⟩) len cap, .int .i64 k, .slice a' len' cap'] w fun e w' => e = .returned (.int .i64 (spanOf cl (l.drop k) : Nat)) ∧ Ext w w' := by
  have HS := Lib.hid (span_find cl (l.drop k))
  have hdl : ((l.drop k).length : Int) = len - k := by
    have := hl.1
    simp [vby] at this
    simp
    omega
  rw [hdl] at HS
  have K := Lib.hid fun W (h : Ext (w.alloc (.cells #[.slice a' len' cap'] 22)) W) =>
    bytes_indexFunc cl (l.drop k) W w.heap.size (some ⟨b, o + k, none⟩) (len - k) (cap - k) a' len' cap' (by omega) (by omega) h1' h2' (by rw [← vby_drop]; exact hl.drop.ext (((Ext.refl _).alloc _).trans h)) (fun c hc => hby c (List.mem_of_mem_drop hc)) (h.cell (by simp [go_sem])) (hcl.ext (((Ext.refl _).alloc _).trans h))
  clear hdl
  have d0 : decide ((k : Int) < 0) = false := by simp
  have d1 : decide ((len : Int) ≤ (k : Int)) = false := by simp; omega
  have hbd := fidx_bd (fun c => !cl.contains (cls c)) (l.drop k)
  have hbd1 := hbd.1
  obtain ⟨n, hn⟩ : ∃ n, n = fidx (fun c => !cl.contains (cls c)) (l.drop k) := ⟨_, rfl⟩
  rw [← hn] at HS K hbd1
  clear hn hbd
  by_cases hneg : n < 0
  all_goals
    first | rw [if_pos hneg] at HS | rw [if_neg hneg] at HS
    first | have hd : decide (n < 0) = true := by simpa using hneg | have hd : decide (n < 0) = false := by simpa using hneg
    go_enter Tryz.func90, Tryz.ntmps90
    go_wp2_with (go_at_call 111; refine (K.out _ (Ext.refl _)).mono ?_; rintro e w1 ⟨rfl, x1⟩)
    go_ret
    exact ⟨ret_int HS.out, ((Ext.refl _).alloc _).trans x1⟩
end Go.Proofs.YtaioeailgknfjaaGreatDoor
namespace Go.Proofs.YtaioeailgknfjaaGreatDoor
open Go Go.RowKit Go.Sort

/-- The library's bound on what is sought fast: some number. -/
def Knob (w : World) : Prop := ∃ m : Int, w.cell? ⟨0, 0, none⟩ = some (.int .i64 m)
theorem Knob.ext {w w' : World} (h : Knob w) (hx : Ext w w') : Knob w' := let ⟨m, hm⟩ := h; ⟨m, hx.cell hm⟩

/-- What the keywords are cut out of. -/
def kwText : ByteArray := ⟨#[32, 108, 101, 116, 32, 108, 101, 116, 114, 101, 99, 32, 105, 110, 32, 102, 110, 32, 105, 102, 32, 116, 104, 101, 110, 32, 101, 108, 115, 101, 32, 114, 97, 105, 115, 101, 32, 116, 114, 121, 32, 119, 105, 116, 104, 32, 114, 101, 102, 32, 102, 115, 116, 32, 115, 110, 100, 32, 101, 120, 110]⟩
theorem kw_count : Lib.countB kwText ⟨#[32]⟩ = 14 := by decide +kernel
theorem kw_split : Lib.splitB ⟨#[32]⟩ 0 14 kwText = (([] : List UInt8) :: keyw).map bs := by decide +kernel

set_option maxHeartbeats 1000000 in
theorem words_keywords (w : World) (hk : Knob w) :
    Calls Tryz.prog 132 #[] w fun e w' => e = .returned (.slice (some ⟨w.heap.size, 0, none⟩) 15 15) ∧ Ext w w' ∧ IsRow w' (vstr ((([] : List UInt8) :: keyw).map bs)) (some ⟨w.heap.size, 0, none⟩) 15 := by
  obtain ⟨m, hm⟩ := hk
  have K := Lib.hid (Tryz.strings_Split kwText ⟨#[32]⟩ m w (by decide +kernel) hm (by decide +kernel))
  rw [kw_count, kw_split] at K
  go_enter Tryz.func132, Tryz.ntmps132
  go_wp2_with (go_at_call 141; refine (K.out).mono ?_; rintro e w' ⟨rfl, rfl⟩)
  go_ret
  exact ⟨rfl, (Ext.refl _).alloc _, IsRow.new w _ _⟩

set_option maxHeartbeats 400000 in
theorem strs_index (x : ByteArray) (l : List ByteArray) (w : World) (a : Option Addr) (len cap : Nat) (h1 : len ≤ cap) (h2 : cap ≤ 9223372036854775807) (hl : IsRow w (vstr l) a len) :
    Calls Tryz.prog 94 #[.slice a len cap, .string x] w fun e w' => e = .returned (.int .i64 (fidx (fun y => x.toList == y.toList) l)) ∧ Ext w w' := by
  have hll := hl.1
  simp only [vstr, List.length_map] at hll
  have HL := Lib.hid hll
  have HR := Lib.hid hl
  clear hll hl
  go_enter Tryz.func94, Tryz.ntmps94
  go_wp2_with fail
  go_loopg [8] len (fun g i wr => ∃ j : Nat, g = len - j ∧ j ≤ len ∧ i = .int .i64 j ∧ (∀ t, t ∈ l.take j → (x.toList == t.toList) = false) ∧ wr = w)
  case atStart => exact ⟨0, by omega, by omega, rfl, by simp, rfl⟩
  case round =>
    obtain ⟨j, rfl, hj, rfl, hto, rfl⟩ := hrel
    have HT := Lib.hid hto
    clear hto
    by_cases hlt : j < len
    · obtain ⟨t, b, o, g, rfl, q⟩ := HR.out.str hlt
      have G := Lib.hid g
      clear g
      cases hr : x.toList == t.toList
      · have HX := Lib.hid hr
        go_wp2_with fail
        go_roundg (len - (j + 1))
        case rel =>
          refine ⟨j + 1, rfl, by omega, by go_num, ?_, rfl⟩
          intro y hy
          rw [List.take_add_one, G.out] at hy
          simp only [List.mem_append, Option.toList_some, List.mem_singleton] at hy
          rcases hy with hy | rfl
          · exact HT.out y hy
          · exact HX.out
        case measure => omega
      · have HX := Lib.hid hr
        go_wp2_with fail
        go_ret
        exact ⟨ret_int (fidx_at HT.out G.out HX.out).symm, Ext.refl _⟩
    · obtain rfl : j = len := by omega
      go_wp2_with fail
      go_ret
      have h0 := HT.out
      rw [List.take_of_length_le (by rw [← HL.out]; omega)] at h0
      exact ⟨ret_int (fidx_none h0).symm, Ext.refl _⟩

theorem kwd_find (s : ByteArray) (hs : s ≠ ByteArray.empty) : max 0 (fidx (fun y : ByteArray => s.toList == y.toList) ((([] : List UInt8) :: keyw).map bs)) = (kwd s : Nat) := by
  have h0 : s.data.toList ≠ [] := by
    intro h
    apply hs
    apply ByteArray.ext
    exact Array.toList_inj.1 h
  have hf : ∀ (l : List (List UInt8)) (n : Nat), (∀ x, x ∈ l → x ≠ s.data.toList) → (fidx (fun y : ByteArray => s.toList == y.toList) (l.map bs)) = -1 := by
    intro l n hl
    apply fidx_none
    intro t ht
    obtain ⟨x, hx, rfl⟩ := List.mem_map.1 ht
    rw [ByteArray.toList_eq, ByteArray.toList_eq, bs_list]
    exact beq_false_of_ne (fun e => hl x hx e.symm)
  by_cases hex : ∃ x, x ∈ keyw ∧ x = s.data.toList
  · have hI : ∀ (l : List (List UInt8)), (∃ x, x ∈ l ∧ x = s.data.toList) → ∃ i x, l[i]? = some x ∧ x = s.data.toList ∧ ∀ y, y ∈ l.take i → y ≠ s.data.toList := by
      intro l
      induction l with
      | nil => rintro ⟨x, hx, _⟩; simp at hx
      | cons a l ih =>
        intro h
        by_cases ha : a = s.data.toList
        · exact ⟨0, a, rfl, ha, by simp⟩
        · obtain ⟨x, hx, e⟩ := h
          rcases List.mem_cons.1 hx with rfl | hx
          · exact absurd e ha
          · obtain ⟨i, y, h1, h2, h3⟩ := ih ⟨x, hx, e⟩
            refine ⟨i + 1, y, by simpa using h1, h2, ?_⟩
            intro z hz
            rw [List.take_succ_cons] at hz
            rcases List.mem_cons.1 hz with rfl | hz
            · exact ha
            · exact h3 z hz
    obtain ⟨i, x, h1, h2, h3⟩ := hI keyw hex
    unfold kwd
    rw [placeOf_at h1 h2 h3]
    rw [fidx_at (i := i + 1) (t := bs x)]
    · omega
    · intro t ht
      rw [List.map_cons, List.take_succ_cons] at ht
      rw [ByteArray.toList_eq, ByteArray.toList_eq]
      rcases List.mem_cons.1 ht with rfl | ht
      · rw [bs_list]; exact beq_false_of_ne h0
      · rw [← List.map_take] at ht
        obtain ⟨y, hy, rfl⟩ := List.mem_map.1 ht
        rw [bs_list]
        exact beq_false_of_ne (fun e => h3 y hy e.symm)
    · simp [h1]
    · rw [ByteArray.toList_eq, ByteArray.toList_eq, bs_list, h2]; exact beq_self_eq_true _
  · have hn : ∀ x, x ∈ keyw → x ≠ s.data.toList := fun x hx e => hex ⟨x, hx, e⟩
    rw [hf _ 0 (by
      intro x hx
      rcases List.mem_cons.1 hx with rfl | hx
      · exact fun e => h0 e.symm
      · exact hn x hx)]
    unfold kwd
    rw [placeOf_none hn]
    rfl

theorem not_empty {s : ByteArray} (hz : s ≠ ByteArray.empty) : s.toList.isEmpty = false := by
  rw [ByteArray.toList_eq, Bool.eq_false_iff, ne_eq, List.isEmpty_iff]
  exact fun e => hz (ByteArray.ext (Array.toList_inj.1 e))

set_option maxHeartbeats 1000000 in
theorem words_keyword (s : ByteArray) (w : World) (hk : Knob w) :
    Calls Tryz.prog 123 #[.string s] w fun e w' => e = .returned (.int .i64 (kwd s : Nat)) ∧ Ext w w' := by
  by_cases hz : s = ByteArray.empty
  · subst hz
    go_enter Tryz.func123, Tryz.ntmps123
    go_wp2_with fail
    go_ret
    exact ⟨rfl, Ext.refl _⟩
  have HK := Lib.hid (kwd_find s hz)
  have hb := not_empty hz
  have KI := fun W a (hl : IsRow W (vstr ((([] : List UInt8) :: keyw).map bs)) a 15) => strs_index s _ W a 15 15 (by omega) (by omega) hl
  obtain ⟨n, hn⟩ : ∃ n, n = fidx (fun y : ByteArray => s.toList == y.toList) ((([] : List UInt8) :: keyw).map bs) := ⟨_, rfl⟩
  rw [← hn] at HK KI
  have HI := Lib.hid KI
  clear hn KI
  go_enter Tryz.func123, Tryz.ntmps123
  go_wp2_with (first | (go_at_call 132; refine (words_keywords _ hk).mono ?_; rintro e w1 ⟨rfl, x1, hr⟩) | (go_at_call 94; refine (HI.out _ _ hr).mono ?_; rintro e w2 ⟨rfl, x2⟩))
  go_ret
  exact ⟨ret_int HK.out, x1.trans x2⟩

theorem all_inner (l : List Int) : ((spanOf [3, 4, 2] l : Nat) : Int) = l.length ↔ l.all inner = true := by
  rw [show (((spanOf [3, 4, 2] l : Nat) : Int) = l.length) ↔ (spanOf [3, 4, 2] l = l.length) from ⟨fun h => by omega, fun h => by omega⟩, spanOf_all, List.all_eq_true]
  have h : ∀ c : Int, ([3, 4, 2] : List Int).contains (cls c) = true ↔ inner c = true := by
    intro c
    simp [inner]
    omega
  exact ⟨fun hh c hc => (h c).1 (hh c hc), fun hh c hc => (h c).2 (hh c hc)⟩

/-- A string's bytes, laid anew. -/
theorem IsRow.of_string (w : World) (s : ByteArray) (cap : Nat) (t : TypeId) (fz : Nat × Nat) : IsRow (w.alloc (.cells (bytesRow s cap) t fz)) (vby (il s)) (some ⟨w.heap.size, 0, none⟩) s.size := by
  rw [← vby_il_length s]
  refine IsRow.of_block fun i v hi => ?_
  rw [cell_of_row _ _ i _ t fz (heap_alloc_new w _)]
  have hi' : i < s.data.size := by
    rcases Nat.lt_or_ge i (vby (il s)).length with h | h
    · rw [vby_il_length] at h; exact h
    · rw [List.getElem?_eq_none h] at hi; cases hi
  rw [bytesRow_at s cap i hi', ← hi]
  simp [vby, il_at s hi']
  rfl

theorem row_string (w : World) (s : ByteArray) (cap : Nat) (t : TypeId) (fz : Nat × Nat) (o : Obj) : IsRow ((w.alloc (.cells (bytesRow s cap) t fz)).alloc o).drew (vby (il s)) (some ⟨w.heap.size, 0, none⟩) s.size :=
  (IsRow.of_string w s cap t fz).ext (((Ext.refl _).alloc o).drew)
theorem row_342 (w : World) (o : Obj) (t : TypeId) : IsRow ((w.alloc o).alloc (.cells #[.int .u8 3, .int .u8 4, .int .u8 2] t)).drew (vby [3, 4, 2]) (some ⟨w.heap.size + 1, 0, none⟩) 3 := by
  have h := (IsRow.new (w.alloc o) t (vby [3, 4, 2])).ext (Ext.refl _).drew
  simpa [vby] using h

set_option maxHeartbeats 1000000 in
theorem words_shaped (s : ByteArray) (f : Int) (w : World) (h0 : 0 ≤ f) (h1 : f ≤ 255) :
    Calls Tryz.prog 88 #[.string s, .int .u8 f] w fun e w' => e = .returned (.bool (shapely (il s) f)) ∧ Ext w w' := by
  by_cases hz : s = ByteArray.empty
  · subst hz
    go_enter Tryz.func88, Tryz.ntmps88
    go_wp2_with fail
    go_ret
    exact ⟨rfl, Ext.refl _⟩
  have hb := not_empty hz
  have hpos : 0 < s.size := by
    rcases Nat.eq_zero_or_pos s.size with h | h
    · exact absurd (ByteArray.size_eq_zero_iff.1 h) hz
    · exact h
  have HE := Lib.hid (shapely_eq s f hpos)
  by_cases h16 : 16 < s.size
  · have hd : decide ((16 : Int) < (s.size : Int)) = true := by simp; omega
    go_enter Tryz.func88, Tryz.ntmps88
    go_wp2_with fail
    go_ret
    exact ⟨ret_bool (by rw [HE.out]; simp; omega), Ext.refl _⟩
  have hd : decide ((16 : Int) < (s.size : Int)) = false := by simp; omega
  have hbb := byte_bound s[0]
  have HC := Lib.hid fun W => chars_class ((s[0].toNat : Nat) : Int) W hbb.1 hbb.2
  obtain ⟨c0, hc0⟩ : ∃ c0, c0 = cls ((s[0].toNat : Nat) : Int) := ⟨_, rfl⟩
  rw [← hc0] at HE HC
  clear hc0
  by_cases hcf : c0 = f
  case neg =>
    have hb : (f != c0) = true := by simpa using fun e => hcf e.symm
    have hb' : (c0 != f) = true := by simpa using hcf
    have HX := Lib.hid hcf
    clear hcf
    go_enter Tryz.func88, Tryz.ntmps88
    go_wp2_with (go_at_call 110; refine (HC.out _).mono ?_; rintro e w1 ⟨rfl, x1⟩)
    go_ret
    refine ⟨ret_bool ?_, x1⟩
    rw [HE.out]
    simp [HX.out]
  have hb : (f != c0) = false := by simpa using hcf.symm
  have hb' : (c0 != f) = false := by simpa using hcf
  have HX := Lib.hid hcf
  have H16 := Lib.hid h16
  have HS := Lib.hid (all_inner (il s))
  rw [il_length] at HS
  have hmax : s.size ≤ maxLen := by unfold maxLen; omega
  have hcv := fun w => run_bytes_of_string (P := Tryz.prog) w 9 22 5 s Tryz.underlying9 Tryz.underlying22 Tryz.underlying5
  have KP := Lib.hid fun W b o cap a' (h2 : s.size ≤ cap) (h3 : cap ≤ maxLen) (hr : IsRow W (vby (il s)) (some ⟨b, o, none⟩) s.size) (hc : IsRow W (vby [3, 4, 2]) a' 3) =>
    chars_span [3, 4, 2] (il s) 0 W b o s.size cap a' 3 3 h2 h3 (by omega) (by omega) hpos hr (fun c hc => il_bound s hc) hc
  have hgc := fun W => And.intro (grownCap_ge W s.size 0 5) (grownCap_le_maxLen W s.size 0 5 hmax)
  have HG := Lib.hid hgc
  clear hcf hgc hmax
  simp only [List.drop_zero] at KP
  obtain ⟨n, hn⟩ : ∃ n, n = spanOf [3, 4, 2] (il s) := ⟨_, rfl⟩
  rw [← hn] at KP HS
  clear hn
  go_enter Tryz.func88, Tryz.ntmps88
  go_wp2_with (first | (go_at_call 110; refine (HC.out _).mono ?_; rintro e w1 ⟨rfl, x1⟩) | (go_at_call 90; refine (KP.out _ w1.heap.size 0 (grownCap w1 s.size 0 5) _ (HG.out w1).1 (HG.out w1).2 (row_string w1 s _ _ _ _) (row_342 w1 _ _)).mono ?_; rintro e w2 ⟨rfl, x2⟩))
  go_ret
  refine ⟨ret_bool ?_, x1.trans (((((Ext.refl w1).alloc _).alloc _).drew).trans x2)⟩
  have hs := HS.out
  rw [HE.out, HX.out]
  rw [Bool.eq_iff_iff, beq_iff_eq, hs]
  simp
  omega

set_option maxHeartbeats 1000000 in
theorem words_name1 (s : ByteArray) (w : World) (hk : Knob w) : Calls Tryz.prog 122 #[.string s] w fun e w' => e = .returned (.bool (isName s)) ∧ Ext w w' := by
  have K1 := Lib.hid fun W => words_shaped s 3 W (by omega) (by omega)
  have K2 := Lib.hid fun W h => words_keyword s W h
  cases hsh : shapely (il s) 3
  all_goals
    have HS := Lib.hid hsh
    rw [hsh] at K1
    clear hsh
    go_enter Tryz.func122, Tryz.ntmps122
    go_wp2_with (first | (go_at_call 88; refine (K1.out _).mono ?_; rintro e w1 ⟨rfl, x1⟩) | (go_at_call 123; refine (K2.out _ (hk.ext x1)).mono ?_; rintro e w2 ⟨rfl, x2⟩))
    go_ret
    exact ⟨ret_bool (by simp [isName, HS.out, nat_beq_zero]), by (exact eX)⟩

set_option maxHeartbeats 1000000 in
theorem words_exn1 (s : ByteArray) (w : World) (hk : Knob w) : Calls Tryz.prog 87 #[.string s] w fun e w' => e = .returned (.bool (isExn s)) ∧ Ext w w' := by
  go_enter Tryz.func87, Tryz.ntmps87
  go_wp2_with (go_at_call 88; refine (words_shaped s 4 _ (by omega) (by omega)).mono ?_; rintro e w1 ⟨rfl, x1⟩)
  go_ret
  exact ⟨rfl, x1⟩
end Go.Proofs.YtaioeailgknfjaaGreatDoor
namespace Go.Proofs.YtaioeailgknfjaaGreatDoor
open Go Go.RowKit Go.Sort

theorem not_any_not {α : Type} (p : α → Bool) (l : List α) : (!l.any fun s => !p s) = l.all p := by
  induction l with
  | nil => rfl
  | cons a l ih => rw [List.any_cons, List.all_cons, Bool.not_or, ih, Bool.not_not]
/-- What a function on a text tells. -/
def Tells (p : ByteArray → Bool) (K : Nat) : Prop := ∀ w s, Knob w → Calls Tryz.prog K #[.string s] w fun e w' => e = .returned (.bool (p s)) ∧ Ext w w'

set_option maxHeartbeats 400000 in
theorem words_all1 (p : ByteArray → Bool) (K : Nat) (eK : ∀ args w, (callFunc K args).run Tryz.prog w = .ok (.enter K args) w) (hp : Tells p K)
    (s : ByteArray) (w : World) (b : Nat) (hk : Knob w) (hb : w.cell? ⟨b, 0, none⟩ = some (.func (.func K) #[] #[])) :
    Calls Tryz.prog 109 #[.string s, .pointer (some ⟨b, 0, none⟩)] w fun e w' => e = .returned (.bool (!p s)) ∧ Ext w w' := by
  have hbl := block_lt_of_cell hb
  simp at hbl
  have HP := Lib.hid (hp w s hk)
  clear hp
  go_enter Tryz.func109, Tryz.ntmps109
  go_wp2_with fail
  refine (HP.out).mono ?_
  rintro e w1 ⟨rfl, x1⟩
  go_wp2_with fail
  go_ret
  exact ⟨rfl, x1⟩

set_option maxHeartbeats 400000 in
theorem strs_indexFunc (p : ByteArray → Bool) (K : Nat) (eK : ∀ args w, (callFunc K args).run Tryz.prog w = .ok (.enter K args) w) (hp : Tells p K) (l : List ByteArray) (w : World) (b : Nat) (a : Option Addr) (len cap : Nat) (h1 : len ≤ cap) (h2 : cap ≤ 9223372036854775807) (hk : Knob w) (hl : IsRow w (vstr l) a len)
    (hb : w.cell? ⟨b, 0, none⟩ = some (.func (.func K) #[] #[])) :
    Calls Tryz.prog 127 #[.slice a len cap, .func (.func 109) #[] #[.pointer (some ⟨b, 0, none⟩)]] w fun e w' => e = .returned (.int .i64 (fidx (fun s => !p s) l)) ∧ Ext w w' := by
  have hll := hl.1
  simp only [vstr, List.length_map] at hll
  have HL := Lib.hid hll
  have HR := Lib.hid hl
  have HBC := Lib.hid hb
  have KC := Lib.hid fun s W (h : Ext w W) => words_all1 p K eK hp s W b (hk.ext h) (h.cell hb)
  clear hll hl hb eK hp
  go_enter Tryz.func127, Tryz.ntmps127
  go_wp2_with fail
  go_loopg [8] len (fun g i wr => ∃ j : Nat, g = len - j ∧ j ≤ len ∧ i = .int .i64 j ∧ (∀ t, t ∈ l.take j → (!p t) = false) ∧ Ext w wr)
  case atStart => exact ⟨0, by omega, by omega, rfl, by simp, Ext.refl _⟩
  case round =>
    obtain ⟨j, rfl, hj, rfl, hto, hx⟩ := hrel
    have HT := Lib.hid hto
    clear hto
    by_cases hlt : j < len
    · obtain ⟨t, b', o, g, rfl, q⟩ := (HR.out.ext hx).str hlt
      have KD := Lib.hid (KC.out t _ hx)
      have G := Lib.hid g
      clear g
      cases hr : !p t
      · have HX := Lib.hid hr
        rw [hr] at KD
        clear hr
        go_wp2_with (go_at_call 109; refine (KD.out).mono ?_; rintro e w1 ⟨rfl, x1⟩)
        go_roundg (len - (j + 1))
        case rel =>
          refine ⟨j + 1, rfl, by omega, by go_num, ?_, hx.trans x1⟩
          intro y hy
          rw [List.take_add_one, G.out] at hy
          simp only [List.mem_append, Option.toList_some, List.mem_singleton] at hy
          rcases hy with hy | rfl
          · exact HT.out y hy
          · exact HX.out
        case measure => omega
      · have HX := Lib.hid hr
        rw [hr] at KD
        clear hr
        go_wp2_with (go_at_call 109; refine (KD.out).mono ?_; rintro e w1 ⟨rfl, x1⟩)
        go_ret
        exact ⟨ret_int (fidx_at HT.out G.out HX.out).symm, hx.trans x1⟩
    · obtain rfl : j = len := by omega
      go_wp2_with fail
      go_ret
      have h0 := HT.out
      rw [List.take_of_length_le (by rw [← HL.out]; omega)] at h0
      exact ⟨ret_int (fidx_none h0).symm, hx⟩

set_option maxHeartbeats 400000 in
theorem words_all (p : ByteArray → Bool) (K : Nat) (eK : ∀ args w, (callFunc K args).run Tryz.prog w = .ok (.enter K args) w) (hp : Tells p K) (l : List ByteArray) (w : World) (a : Option Addr) (len cap : Nat) (h1 : len ≤ cap) (h2 : cap ≤ 9223372036854775807) (hk : Knob w) (hl : IsRow w (vstr l) a len) :
    Calls Tryz.prog 86 #[.func (.func K) #[] #[], .slice a len cap] w fun e w' => e = .returned (.bool (l.all p)) ∧ Ext w w' := by
  have HF : Hid ((!decide (0 ≤ fidx (fun s => !p s) l)) = l.all p) := by
    show _ = _
    rw [fidx_nonneg, not_any_not]
  have HC : Hid (∀ W, Ext (w.alloc (.cells #[.func (.func K) #[] #[]] 53)) W → Calls Tryz.prog 108 #[.slice a len cap, .func (.func 109) #[] #[.pointer (some ⟨w.heap.size, 0, none⟩)]] W fun e w' => e = .returned (.bool (decide (0 ≤ fidx (fun s => !p s) l))) ∧ Ext W w') := by
    intro W hW
    have KI := Lib.hid (strs_indexFunc p K eK hp l W w.heap.size a len cap h1 h2 (hk.ext (((Ext.refl _).alloc _).trans hW)) (hl.ext (((Ext.refl _).alloc _).trans hW)) (hW.cell (by simp)))
    clear eK hp
    go_enter Tryz.func108, Tryz.ntmps108
    go_wp2_with (go_at_call 127; refine (KI.out).mono ?_; rintro e w1 ⟨rfl, x1⟩)
    go_ret
    exact ⟨rfl, x1⟩
  clear eK hp
  go_enter Tryz.func86, Tryz.ntmps86
  go_wp2_with (go_at_call 108; refine (HC.out _ (Ext.refl _)).mono ?_; rintro e w1 ⟨rfl, x1⟩)
  go_ret
  exact ⟨ret_bool HF.out, ((Ext.refl _).alloc _).trans x1⟩

theorem enters_name1 : ∀ args w, (callFunc 122 args).run Tryz.prog w = .ok (.enter 122 args) w := enters_of Tryz.func122 (by kernel_rfl) rfl
theorem enters_exn1 : ∀ args w, (callFunc 87 args).run Tryz.prog w = .ok (.enter 87 args) w := enters_of Tryz.func87 (by kernel_rfl) rfl

set_option maxHeartbeats 400000 in
theorem words_name (l : List ByteArray) (w : World) (a : Option Addr) (len cap : Nat) (h1 : len ≤ cap) (h2 : cap ≤ 9223372036854775807) (hk : Knob w) (hl : IsRow w (vstr l) a len) :
    Calls Tryz.prog 103 #[.slice a len cap] w fun e w' => e = .returned (.bool (l.all isName)) ∧ Ext w w' := by
  have K := Lib.hid (words_all isName 122 enters_name1 (fun w s h => words_name1 s w h) l w a len cap h1 h2 hk hl)
  go_enter Tryz.func103, Tryz.ntmps103
  go_wp2_with (go_at_call 86; refine (K.out).mono ?_; rintro e w1 ⟨rfl, x1⟩)
  go_ret
  exact ⟨rfl, x1⟩
set_option maxHeartbeats 400000 in
theorem words_exn (l : List ByteArray) (w : World) (a : Option Addr) (len cap : Nat) (h1 : len ≤ cap) (h2 : cap ≤ 9223372036854775807) (hk : Knob w) (hl : IsRow w (vstr l) a len) :
    Calls Tryz.prog 52 #[.slice a len cap] w fun e w' => e = .returned (.bool (l.all isExn)) ∧ Ext w w' := by
  have K := Lib.hid (words_all isExn 87 enters_exn1 (fun w s h => words_exn1 s w h) l w a len cap h1 h2 hk hl)
  go_enter Tryz.func52, Tryz.ntmps52
  go_wp2_with (go_at_call 86; refine (K.out).mono ?_; rintro e w1 ⟨rfl, x1⟩)
  go_ret
  exact ⟨rfl, x1⟩
end Go.Proofs.YtaioeailgknfjaaGreatDoor

/- What the rows hand over: rows of texts. What the rows hand over: rows of bytes. -/
namespace Go.Proofs.YtaioeailgknfjaaGreatDoor
open Go Go.RowKit Go.Sort
open Go.ChangeShapes Go.WideShapes

theorem choose_list {α : Type} {P : Nat → α → Prop} (n : Nat) (h : ∀ i, i < n → ∃ t, P i t) : ∃ l : List α, l.length = n ∧ ∀ i t, l[i]? = some t → P i t := by
  induction n with
  | zero => exact ⟨[], rfl, fun i t h => by simp at h⟩
  | succ n ih =>
    obtain ⟨l, hl, hp⟩ := ih fun i hi => h i (by omega)
    obtain ⟨t, ht⟩ := h n (by omega)
    refine ⟨l ++ [t], by simp [hl], fun i t' hi => ?_⟩
    rcases Nat.lt_or_ge i n with hlt | hge
    · rw [List.getElem?_append_left (by omega)] at hi
      exact hp i t' hi
    · rw [List.getElem?_append_right (by omega)] at hi
      have : i = n := by
        rcases Nat.lt_or_ge (i - l.length) 1 with h1 | h1
        · omega
        · rw [List.getElem?_eq_none (by simpa using h1)] at hi; cases hi
      subst this
      simp [hl] at hi
      subst hi
      exact ht

def IsStrs (w : World) (l : List ByteArray) (a : Option Addr) (len : Nat) : Prop := IsRow w (vstr l) a len
section
variable {H : Type} {enc : TypeId × Value → H} {w : World} {base : Nat} {spare : Nat → Bool} {held : Bool}
theorem isStrs_trod (fuel : Nat) (v : Value) (x : DataW H × List MemPlace) (h : DataW.trod enc Tryz.prog w base spare held fuel 83 [v] = some x) : ∃ l a len cap, v = .slice a len cap ∧ len ≤ cap ∧ cap ≤ maxLen ∧ IsStrs w l a len := by
  have k0 : Tryz.prog.cellsOf 9 = 1 := by kernel_rfl
  rcases DataW.trod_slice Tryz.underlying83 h with ⟨h0, _⟩ | ⟨a, len, cap, elems, rest, n', hn, hcs, _, _, hl, hm, hlen, hel, _, _⟩
  · simp at h0
    subst h0
    exact ⟨[], none, 0, 0, rfl, Nat.le_refl _, by omega, IsRow.nil _ _⟩
  · simp at hcs
    subst hcs
    have hg : ∀ i, i < len → ∃ s : ByteArray, w.cell? (a.add i) = some (.string s) := by
      intro i hi
      have he := hel i hi
      rw [k0, List.getElem?_eq_getElem (by omega)] at he
      obtain ⟨cs, hcs, htr⟩ := Option.bind_eq_some_iff.1 he
      obtain ⟨_, hcl, hat⟩ := World.cells?_some hcs
      obtain ⟨s, e, _⟩ := DataW.trod_string Tryz.underlying9 htr
      subst e
      exact ⟨s, by simpa [Addr.add] using hat 0 (by omega)⟩
    obtain ⟨l, hll, hp⟩ := choose_list len hg
    refine ⟨l, some a, len, cap, rfl, hl, hm, by simp [vstr, hll], ?_⟩
    intro i v hi
    simp only [vstr, List.getElem?_map, Option.map_eq_some_iff] at hi
    obtain ⟨s, hs, rfl⟩ := hi
    have hq := hp i s hs
    have h0 : 0 < l.length := by
      rcases Nat.eq_zero_or_pos l.length with h | h
      · rw [List.getElem?_eq_none (by omega)] at hs; cases hs
      · exact h
    have hq0 := hp 0 _ (List.getElem?_eq_getElem h0)
    obtain ⟨b, o, sp⟩ := a
    have hsp := cell_spot hq0
    simp [Addr.add] at hsp
    subst hsp
    exact ⟨b, o, rfl, by simpa [go_sem] using hq⟩
end
end Go.Proofs.YtaioeailgknfjaaGreatDoor
namespace Go.Proofs.YtaioeailgknfjaaGreatDoor
open Go Go.RowKit Go.Sort
open Go.ChangeShapes Go.WideShapes

/-- A row of bytes in memory. -/
def IsBytes (w : World) (l : List UInt8) (a : Option Addr) (len : Nat) : Prop := IsRow w (vby (il (bs l))) a len
section
variable {H : Type} {enc : TypeId × Value → H} {w : World} {base : Nat} {spare : Nat → Bool} {held : Bool}
theorem isBytes_trod (fuel : Nat) (v : Value) (x : DataW H × List MemPlace) (h : DataW.trod enc Tryz.prog w base spare held fuel 22 [v] = some x) : ∃ l a len cap, v = .slice a len cap ∧ len ≤ cap ∧ cap ≤ maxLen ∧ IsBytes w l a len := by
  have k0 : Tryz.prog.cellsOf 5 = 1 := by kernel_rfl
  rcases DataW.trod_slice Tryz.underlying22 h with ⟨h0, _⟩ | ⟨a, len, cap, elems, rest, n', hn, hcs, _, _, hl, hm, hlen, hel, _, _⟩
  · simp at h0
    subst h0
    exact ⟨[], none, 0, 0, rfl, Nat.le_refl _, by omega, IsRow.nil _ _⟩
  · simp at hcs
    subst hcs
    have hg : ∀ i, i < len → ∃ c : UInt8, w.cell? (a.add i) = some (.int .u8 (c.toNat : Nat)) := by
      intro i hi
      have he := hel i hi
      rw [k0, List.getElem?_eq_getElem (by omega)] at he
      obtain ⟨cs, hcs, htr⟩ := Option.bind_eq_some_iff.1 he
      obtain ⟨_, hcl, hat⟩ := World.cells?_some hcs
      obtain ⟨k, e, _, wf⟩ := DataW.trod_int Tryz.underlying5 htr
      subst e
      have hb := bounds_u8 wf
      refine ⟨UInt8.ofNat k.toNat, ?_⟩
      have : ((UInt8.ofNat k.toNat).toNat : Int) = k := by
        rw [UInt8.toNat_ofNat_of_lt' (show k.toNat < 256 by omega)]
        omega
      rw [this]
      simpa [Addr.add] using hat 0 (by omega)
    obtain ⟨l, hll, hp⟩ := choose_list len hg
    refine ⟨l, some a, len, cap, rfl, hl, hm, by rw [vby, List.length_map, il_length, bs_size, hll], ?_⟩
    intro i v hi
    unfold vby il at hi
    rw [bs_list, List.map_map, List.getElem?_map, Option.map_eq_some_iff] at hi
    obtain ⟨c, hc, rfl⟩ := hi
    have hq := hp i c hc
    have h0 : 0 < l.length := by
      rcases Nat.eq_zero_or_pos l.length with h | h
      · rw [List.getElem?_eq_none (by omega)] at hc; cases hc
      · exact h
    have hq0 := hp 0 _ (List.getElem?_eq_getElem h0)
    obtain ⟨b, o, sp⟩ := a
    have hsp := cell_spot hq0
    simp [Addr.add] at hsp
    subst hsp
    exact ⟨b, o, rfl, by simpa [go_sem] using hq⟩
end
end Go.Proofs.YtaioeailgknfjaaGreatDoor

/- Numbers' digits: the program's by the library, the reference's by its own text. -/
namespace Go.Proofs.YtaioeailgknfjaaGreatDoor
open Go Go.RowKit Go.Sort

/-- The library's table of powers of ten. -/
def Tab (w : World) : Prop := Lib.TabIs Tryz.prog w "internal/strconv.uint64pow10" .u64 Lib.pow10Tab
theorem ext_of_grow (w : World) (k : Nat) (os : Array Obj) : Ext w (grow (w.drewN k) os) := by
  refine ⟨rfl, rfl, rfl, by simp [grow, World.drewN], fun i hi => ?_⟩
  simp [grow, World.drewN, Array.getElem?_append, hi]

set_option maxHeartbeats 400000 in
theorem words_digits (n : Int) (w : World) (h0 : -9223372036854775808 ≤ n) (h1 : n ≤ 9223372036854775807) (ht : Tab w) :
    Calls Tryz.prog 76 #[.int .i64 n] w fun e w' => e = .returned (.string (bs (Lib.itoa n))) ∧ Ext w w' := by
  have HT := Lib.hid ht
  go_enter Tryz.func76, Tryz.ntmps76
  go_wp2_with (go_at_call 104; refine (Tryz.strconv_FormatInt_10 n h0 h1 _ HT.out).mono ?_; rintro e w1 ⟨rfl, hg⟩)
  obtain ⟨k, os, rfl⟩ := hg
  go_ret
  exact ⟨rfl, ext_of_grow w k os⟩
theorem Lib.decDigits_small {n : Nat} (h : n < 10) : Lib.decDigits n = [UInt8.ofNat (48 + n)] := by rw [Lib.decDigits, dif_pos h]
theorem Lib.decDigits_big {n : Nat} (h : ¬ n < 10) : Lib.decDigits n = Lib.decDigits (n / 10) ++ [UInt8.ofNat (48 + n % 10)] := by rw [Lib.decDigits, dif_neg h]


/-- A string of one byte. -/
theorem one_byte (w : World) (x : Nat) (hx : x ≤ 255) : (convert 22 9 (.slice (some ⟨w.heap.size, 0, none⟩) 1 1)).run Tryz.prog (w.alloc (.cells #[.int .u8 x] 5)) = .ok (.string (bs [UInt8.ofNat x])) (w.alloc (.cells #[.int .u8 x] 5)) := by
  have h := run_convert_bytes_arg (P := Tryz.prog) (w := w.alloc (.cells #[.int .u8 x] 5)) 22 5 Tryz.underlying22 Tryz.underlying5 w.heap.size 0 1 1 [(x : Int)] rfl (fun i hi => by
    obtain rfl : i = 0 := by omega
    simp [go_sem]) 9 Tryz.underlying9
  rw [h]
  rfl

set_option maxRecDepth 8000 in
set_option maxHeartbeats 400000 in
theorem ref_digits_nat (m : Nat) : ∀ (n : Nat) (w : World), n < m → n ≤ 9223372036854775807 →
    Calls Tryz.prog 50 #[.int .i64 n] w fun e w' => e = .returned (.string (bs (Lib.decDigits n))) ∧ Ext w w' := by
  induction m with
  | zero => intro n w h; omega
  | succ m ih =>
    intro n w hm hn
    have h1 : (0 : Int) ≤ n := by omega
    have hd : decide ((n : Int) < 0) = false := by simp
    have hb := one_byte w (48 + n % 10) (by omega)
    obtain ⟨c, hc⟩ : ∃ c, c = bs [UInt8.ofNat (48 + n % 10)] := ⟨_, rfl⟩
    rw [← hc] at hb
    have HC := Lib.hid hc
    clear hc
    have e1 : ((48 + n % 10 : Nat) : Int) = 48 + (n : Int) % 10 := by omega
    rw [e1] at hb
    have e2 : (n : Int) / 10 = ((n / 10 : Nat) : Int) := by omega
    have hq := fun W => ih (n / 10) W
    rw [← e2] at hq
    have HQ := Lib.hid hq
    clear e1 e2 hq ih
    by_cases h10 : n < 10
    · have HB := Lib.hid (Lib.decDigits_small h10)
      go_enter Tryz.func50, Tryz.ntmps50
      go_wp2_with fail
      go_ret
      refine ⟨?_, (Ext.refl w).alloc _⟩
      rw [HB.out]
      have : n % 10 = n := by omega
      rw [this] at HC
      exact congrArg (fun x => Ending.returned (Value.string x)) HC.out
    · have HB := Lib.hid (Lib.decDigits_big h10)
      have hlen : (Lib.decDigits (n / 10)).length ≤ 20 := by
        rw [Lib.decDigits_length]
        exact Lib.nDigits_le20 _ (by omega)
      have hcl : c.size = 1 := by rw [HC.out, bs_size]; rfl
      have hs : ¬ 9223372036854775807 < (bs (Lib.decDigits (n / 10))).size + c.size := by rw [bs_size, hcl]; omega
      have hs2 : (bs (Lib.decDigits (n / 10))).size + c.size ≤ 9223372036854775807 := by omega
      generalize hD : bs (Lib.decDigits (n / 10)) = D at *
      have HD := Lib.hid hD
      clear hD hcl hlen
      go_enter Tryz.func50, Tryz.ntmps50
      go_wp2_with (go_at_call 50; refine (HQ.out _ (by omega) (by omega)).mono ?_; rintro e w1 ⟨rfl, x1⟩)
      go_ret
      refine ⟨?_, ((Ext.refl w).alloc _).trans x1⟩
      rw [HB.out, ← bs_append, HD.out, ← HC.out]
      rfl

end Go.Proofs.YtaioeailgknfjaaGreatDoor

/- The row's list of package-level variables: what it gives, and a world that meets it. The library's errors, as they stand in memory. The rows' lists of package-level variables, errors among them: what they give, and a world that meets them. -/
namespace Go.Proofs.YtaioeailgknfjaaGreatDoor
open Go Go.RowKit
open Go.ChangeShapes Go.WideShapes Go.ChangeAt

theorem ownKnob_none : ownKnob Tryz.prog.godebug = none := by kernel_rfl
theorem laidOut_yes : laidOutB Tryz.prog = true := by kernel_rfl
theorem knob_of {W : World} (h : W.ShapedOpen Tryz.prog) : Knob W :=
  Go.Proofs.cell_of_shapedOpen_int (zero := #[.int .i64 0]) (t := 3) h (of_decide_eq_true (by kernel_rfl)) (by kernel_rfl) rfl (by kernel_rfl) (by kernel_rfl) Tryz.underlying3

/-- A datum's cells. -/
def litCell : DataW Unit → Value
  | .lit (.int k n) => .int k n
  | _ => undef
def rowCells : DataW Unit → List Value
  | .agg l => l.map litCell
  | d => [litCell d]
/-- A listed table's cells. -/
def tabCells : DataW Unit → Array Value
  | .agg l => (l.flatMap rowCells).toArray
  | _ => #[]
/-- A block's cells anew. -/
def relay (h : Array Obj) (g : Nat) (cs : Array Value) : Array Obj := h.modify g fun
  | .cells _ t frozen => .cells cs t frozen
  | o => o
end Go.Proofs.YtaioeailgknfjaaGreatDoor
namespace Go.Proofs.YtaioeailgknfjaaGreatDoor
open Go Go.RowKit Go.Sort

end Go.Proofs.YtaioeailgknfjaaGreatDoor
namespace Go.Proofs.YtaioeailgknfjaaGreatDoor
open Go Go.RowKit
open Go.ChangeShapes Go.WideShapes Go.ChangeAt

/-- A world for the witness: the settled one, the listed variables holding what the text lays. -/
noncomputable def laidWorldN (os : Os) (args : Array Value) : World :=
  let h0 := (World.holding Tryz.prog os ⟨#[], #[], []⟩).heap
  let h1 := relay (relay (relay (relay (relay h0 6 (tabCells Rows.laid_unicode_utf8_first)) 7 (tabCells Rows.laid_unicode_utf8_acceptRanges)) 1 (tabCells Rows.laid_internal_strconv_uint64pow10)) 2 (tabCells Rows.laid_math_bits_deBruijn32tab)) 3 (tabCells Rows.laid_math_bits_deBruijn64tab)
  let h2 := relay (relay h1 5 #[.iface 189 (.pointer (some ⟨h0.size, 0, none⟩))]) 4 #[.iface 189 (.pointer (some ⟨h0.size + 1, 0, none⟩))]
  { World.holding Tryz.prog os ⟨#[], #[], []⟩ with heap := (h2.push (.cells #[.string ⟨#[118, 97, 108, 117, 101, 32, 111, 117, 116, 32, 111, 102, 32, 114, 97, 110, 103, 101]⟩] 191)).push (.cells #[.string ⟨#[105, 110, 118, 97, 108, 105, 100, 32, 115, 121, 110, 116, 97, 120]⟩] 191) }
end Go.Proofs.YtaioeailgknfjaaGreatDoor

/- Terms as trees, and what the program's functions on terms compute, in plain Lean; no program in sight. Names that are free, in plain Lean; no program in sight. Going through nodes with the names that are bound there; closed programs. In plain Lean; no program in sight. Free names, one kid after the other; how many there are. In plain Lean; no program in sight. A function and a let that bind a name. In plain Lean; no program in sight. -/
namespace Go.Proofs.YtaioeailgknfjaaGreatDoor
open Go

/-- A term's head. -/
structure Hd where
  k : Int
  op : Int
  pos : Int
  n : Int
  name : ByteArray
  arg : ByteArray
  exn : ByteArray
/-- A head holds what Go's types hold. -/
structure Hd.Fits (h : Hd) : Prop where
  k0 : 0 ≤ h.k
  k1 : h.k ≤ 255
  op0 : 0 ≤ h.op
  op1 : h.op ≤ 255
  pos0 : -9223372036854775808 ≤ h.pos
  pos1 : h.pos ≤ 9223372036854775807
  n0 : -9223372036854775808 ≤ h.n
  n1 : h.n ≤ 9223372036854775807
  name1 : h.name.size ≤ 9223372036854775807
  arg1 : h.arg.size ≤ 9223372036854775807
  exn1 : h.exn.size ≤ 9223372036854775807
/-- A term: a head, and its kids. -/
inductive Tm where
  | mk (h : Hd) (kids : List Tm)
def Tm.head : Tm → Hd | .mk h _ => h
def Tm.kids : Tm → List Tm | .mk _ l => l

mutual
/-- How many nodes. -/
def Tm.size : Tm → Nat
  | .mk _ l => 1 + Tm.sizes l
def Tm.sizes : List Tm → Nat
  | [] => 0
  | t :: l => t.size + Tm.sizes l
end
theorem Tm.size_pos (t : Tm) : 0 < t.size := by cases t; simp [Tm.size]; omega
theorem Tm.sizes_take_succ (l : List Tm) (i : Nat) (t : Tm) (h : l[i]? = some t) : Tm.sizes (l.take (i+1)) = Tm.sizes (l.take i) + t.size := by
  induction l generalizing i with
  | nil => simp at h
  | cons x l ih =>
    cases i with
    | zero => simp at h; subst h; simp [Tm.sizes]
    | succ i => simp at h; simp [Tm.sizes, ih i h]; omega
theorem Tm.sizes_take_le (l : List Tm) (i : Nat) : Tm.sizes (l.take i) ≤ Tm.sizes l := by
  induction l generalizing i with
  | nil => simp
  | cons x l ih =>
    cases i with
    | zero => simp [Tm.sizes]
    | succ i => simp [Tm.sizes]; exact ih i
theorem Tm.size_at (l : List Tm) (i : Nat) (t : Tm) (h : l[i]? = some t) : t.size ≤ Tm.sizes l := by
  have h1 := Tm.sizes_take_succ l i t h
  have h2 := Tm.sizes_take_le l (i+1)
  omega
theorem Tm.size_mem (l : List Tm) (t : Tm) (h : t ∈ l) : t.size ≤ Tm.sizes l := by
  obtain ⟨i, hi, rfl⟩ := List.mem_iff_getElem.1 h
  exact Tm.size_at l i _ (List.getElem?_eq_getElem hi)
/-- An induction on trees: what holds of all kids. -/
theorem Tm.ind {P : Tm → Prop} (h : ∀ x l, (∀ t, t ∈ l → P t) → P (.mk x l)) (t : Tm) : P t := by
  have key : ∀ m t, t.size ≤ m → P t := by
    intro m
    induction m with
    | zero => intro t ht; have := t.size_pos; omega
    | succ m ih =>
      intro t ht
      obtain ⟨x, l⟩ := t
      refine h x l fun t hm => ih t ?_
      have := Tm.size_mem l t hm
      simp [Tm.size] at ht
      omega
  exact key _ t (Nat.le_refl _)

mutual
/-- All nodes, each ahead of its kids. -/
def Tm.all : Tm → List Tm
  | .mk h l => .mk h l :: Tm.alls l
def Tm.alls : List Tm → List Tm
  | [] => []
  | t :: l => t.all ++ Tm.alls l
end
theorem Tm.alls_eq (l : List Tm) : Tm.alls l = l.flatMap Tm.all := by
  induction l with
  | nil => simp [Tm.alls]
  | cons t l ih => simp [Tm.alls, ih]
theorem Tm.all_length (t : Tm) : t.all.length = t.size := by
  induction t using Tm.ind with
  | h x l ih =>
    simp only [Tm.all, Tm.size, List.length_cons]
    have : (Tm.alls l).length = Tm.sizes l := by
      clear x
      induction l with
      | nil => simp [Tm.alls, Tm.sizes]
      | cons t l ihl => simp only [Tm.alls, Tm.sizes, List.length_append, ih t (by simp), ihl (fun t ht => ih t (by simp [ht]))]
    omega
theorem Tm.alls_take_succ (l : List Tm) (i : Nat) (t : Tm) (h : l[i]? = some t) : Tm.alls (l.take (i+1)) = Tm.alls (l.take i) ++ t.all := by
  rw [Tm.alls_eq, Tm.alls_eq, List.take_add_one, h]
  simp

/-- Heads that are the same, but for places. -/
def Hd.same (h h' : Hd) : Bool := h.k == h'.k && (h.op == h'.op && (h.n == h'.n && (h.name.toList == h'.name.toList && (h.arg.toList == h'.arg.toList && h.exn.toList == h'.exn.toList))))
mutual
/-- The same, but for places. -/
def Tm.same : Tm → Tm → Bool
  | .mk h l, .mk h' l' => h.same h' && Tm.sames l l'
def Tm.sames : List Tm → List Tm → Bool
  | [], [] => true
  | t :: l, t' :: l' => t.same t' && Tm.sames l l'
  | _, _ => false
end
def Tm.samesTo (l l' : List Tm) (i : Nat) : Prop := ∀ j, j < i → ∀ t t', l[j]? = some t → l'[j]? = some t' → t.same t' = true
theorem Tm.sames_len (l l' : List Tm) (h : l.length ≠ l'.length) : Tm.sames l l' = false := by
  induction l generalizing l' with
  | nil => cases l' <;> simp [Tm.sames] at h ⊢
  | cons t l ih =>
    cases l' with
    | nil => simp [Tm.sames]
    | cons t' l' => simp [Tm.sames]; intro _; exact ih l' (by simpa using h)
theorem Tm.sames_no (l l' : List Tm) (i : Nat) (t t' : Tm) (h : l[i]? = some t) (h' : l'[i]? = some t') (hs : t.same t' = false) : Tm.sames l l' = false := by
  induction l generalizing l' i with
  | nil => simp at h
  | cons x l ih =>
    cases l' with
    | nil => simp at h'
    | cons x' l' =>
      cases i with
      | zero => simp at h h'; subst h h'; simp [Tm.sames, hs]
      | succ i => simp at h h'; simp [Tm.sames, ih l' i h h']
theorem Tm.sames_yes (l l' : List Tm) (hl : l.length = l'.length) (h : Tm.samesTo l l' l.length) : Tm.sames l l' = true := by
  induction l generalizing l' with
  | nil => cases l' <;> simp [Tm.sames] at hl ⊢
  | cons t l ih =>
    cases l' with
    | nil => simp at hl
    | cons t' l' =>
      simp only [Tm.sames, Bool.and_eq_true]
      refine ⟨h 0 (by simp) t t' rfl rfl, ih l' (by simpa using hl) fun j hj x x' hx hx' => h (j+1) (by simpa using hj) x x' (by simpa using hx) (by simpa using hx')⟩
theorem Tm.samesTo_succ {l l' : List Tm} {i : Nat} {t t' : Tm} (h : Tm.samesTo l l' i) (g : l[i]? = some t) (g' : l'[i]? = some t') (hs : t.same t' = true) : Tm.samesTo l l' (i+1) := by
  intro j hj x x' hx hx'
  rcases Nat.lt_or_ge j i with hlt | hge
  · exact h j hlt x x' hx hx'
  · obtain rfl : j = i := by omega
    rw [g] at hx; rw [g'] at hx'
    cases hx; cases hx'
    exact hs

/-- How many kids a kind has; -1. -/
def karity (k : Int) : Int :=
  if k = 1 ∨ k = 2 then 0 else if k = 4 ∨ k = 5 ∨ k = 6 ∨ k = 7 ∨ k = 11 ∨ k = 15 then 1 else if k = 3 ∨ k = 8 ∨ k = 9 ∨ k = 10 ∨ k = 12 ∨ k = 13 ∨ k = 16 then 2 else if k = 14 then 3 else -1
/-- Is a text there just where it should be? -/
def fitB (there : Bool) (s : ByteArray) (ok : Bool) : Bool := (there && ok) || (!there && s.toList.isEmpty)
def Hd.hasName (h : Hd) : Bool := h.k == 2 || (h.k == 12 || h.k == 13)
def Hd.hasArg (h : Hd) : Bool := h.k == 11 || (h.k == 13 || h.k == 16)
def Hd.hasExn (h : Hd) : Bool := h.k == 15 || h.k == 16
/-- The numbers of a node are right. -/
def Tm.nums : Tm → Bool
  | .mk h l => decide (0 ≤ karity h.k) && (decide ((l.length : Int) = karity h.k) && (decide (0 ≤ h.pos) && ((if h.k = 9 then decide (1 ≤ h.op) && decide (h.op ≤ 5) else decide (h.op = 0)) && ((decide (0 ≤ h.n) && decide (h.n ≤ 2147483647)) && (decide (h.k = 1) || decide (h.n = 0))))))
/-- May a node alone be? -/
def Tm.node : Tm → Bool
  | .mk h l => Tm.nums (.mk h l) && (fitB h.hasName h.name (isName h.name) && (fitB h.hasArg h.arg (isName h.arg) && fitB h.hasExn h.exn (isExn h.exn)))
def Tm.may (t : Tm) : Bool := decide (t.size ≤ 4000) && t.all.all Tm.node
end Go.Proofs.YtaioeailgknfjaaGreatDoor
namespace Go.Proofs.YtaioeailgknfjaaGreatDoor
open Go

/-- Is a text among some? -/
def inB (l : List ByteArray) (x : ByteArray) : Bool := l.any fun y => x.toList == y.toList
theorem toList_inj {s t : ByteArray} (h : s.toList = t.toList) : s = t := by
  rw [ByteArray.toList_eq, ByteArray.toList_eq] at h
  exact ByteArray.ext (Array.toList_inj.1 h)
theorem beq_bytes (s t : ByteArray) : (s.toList == t.toList) = decide (s = t) := by
  rw [Bool.eq_iff_iff, beq_iff_eq, decide_eq_true_eq]
  exact ⟨toList_inj, fun h => by rw [h]⟩
theorem inB_iff (l : List ByteArray) (x : ByteArray) : inB l x = true ↔ x ∈ l := by
  unfold inB
  rw [List.any_eq_true]
  constructor
  · rintro ⟨y, hy, h⟩
    rw [beq_bytes, decide_eq_true_eq] at h
    exact h ▸ hy
  · intro h
    exact ⟨x, h, by simp⟩
theorem inB_append (l l' : List ByteArray) (x : ByteArray) : inB (l ++ l') x = (inB l x || inB l' x) := by simp [inB]
/-- A row with one more, if it isn't there. -/
def put (l : List ByteArray) (x : ByteArray) : List ByteArray := if inB l x then l else l ++ [x]
end Go.Proofs.YtaioeailgknfjaaGreatDoor
namespace Go.Proofs.YtaioeailgknfjaaGreatDoor
open Go

end Go.Proofs.YtaioeailgknfjaaGreatDoor
namespace Go.Proofs.YtaioeailgknfjaaGreatDoor
open Go

end Go.Proofs.YtaioeailgknfjaaGreatDoor
namespace Go.Proofs.YtaioeailgknfjaaGreatDoor
open Go

def hfn (s : ByteArray) : Hd := ⟨11, 0, 0, 0, ⟨#[]⟩, s, ⟨#[]⟩⟩
def hlt (s : ByteArray) : Hd := ⟨12, 0, 0, 0, s, ⟨#[]⟩, ⟨#[]⟩⟩
end Go.Proofs.YtaioeailgknfjaaGreatDoor

/- append on a row of the program's own: where the new row lies. No program in sight. A constant's row of bytes, and a string laid behind it; no program in sight. -/
namespace Go.Proofs.YtaioeailgknfjaaGreatDoor
open Go Go.RowKit Go.Sort

theorem grown_ext {w w' : World} (h : Ext w w') (row : Option Nat) : w.grownBy w' row := ⟨Below.os h, Below.tape h, Below.output h, h.size, fun k hk _ => Below.block h k hk⟩
theorem owns_ext {w w' : World} (hx : Ext w w') {base : Nat} {e : TypeId} {size n : Nat} {v : Value} {xs : List Value} (h : w.ownsRow base e size v n xs) : w'.ownsRow base e size v n xs := by
  cases hv : v.ownBlock with
  | none => exact h.kept (grown_ext hx (some 0)) (.inl hv)
  | some k => exact h.kept (grown_ext hx none) (.inr (by rw [hv]; exact fun e => by cases e))
theorem ext_grown {w w' : World} {row : Option Nat} (h : w.grownBy w' row) {w0 : World} (h0 : Ext w0 w) (hr : ∀ k, row = some k → w0.heap.size ≤ k) : Ext w0 w' :=
  ⟨h.os.trans (Below.os h0), h.tape.trans (Below.tape h0), h.output.trans (Below.output h0), Nat.le_trans h0.size h.size, fun k hk =>
    (h.block k (Nat.lt_of_lt_of_le hk h0.size) (fun e => by have := hr k e.symm; omega)).trans (Below.block h0 k hk)⟩
theorem owns_base {w : World} {base base' : Nat} {e : TypeId} {size n : Nat} {v : Value} {xs : List Value} (hb : base' ≤ base) (h : w.ownsRow base e size v n xs) : w.ownsRow base' e size v n xs :=
  ⟨h.1, h.2.imp id fun ⟨g, cap, cur, e, hg, r⟩ => ⟨g, cap, cur, e, Nat.le_trans hb hg, r⟩⟩
/-- A row that isn't empty. -/
theorem owns_open {w : World} {base : Nat} {e : TypeId} {size n : Nat} {v : Value} {xs : List Value} (h : w.ownsRow base e size v n xs) (hn : 0 < n) : ∃ g cap, v = .slice (some ⟨g, 0, none⟩) n cap ∧ base ≤ g ∧ g < w.heap.size ∧ n ≤ cap ∧ cap ≤ maxLen ∧ ∀ (j : Nat) u, xs[j]? = some u → w.cell? ⟨g, j, none⟩ = some u := by
  rcases h.2 with ⟨_, e0⟩ | ⟨g, cap, cur, rfl, hg, hh, h1, h2, h3, h4⟩
  · omega
  · refine ⟨g, cap, rfl, hg, (h.lt g rfl).2, h1, h2, fun j u hu => ?_⟩
    have := h.cells (g := g) rfl j u hu
    simpa [Addr.add_lit] using this
/-- A block that was just made is a row of the call's own. -/
theorem owns_new (w : World) (base : Nat) (e : TypeId) (size n : Nat) (xs : List Value) (hb : base ≤ w.heap.size) (hn : n ≤ maxLen) (hl : xs.length = n * size) :
    (w.alloc (.cells xs.toArray e)).ownsRow base e size (.slice (some ⟨w.heap.size, 0, none⟩) n n) n xs :=
  ⟨hl, .inr ⟨w.heap.size, n, xs.toArray, rfl, hb, heap_alloc_new w _, Nat.le_refl _, hn, by simpa using hl, by rw [← hl]; simp⟩⟩
section
variable {P : Program}
/-- The new row lies where the old one did, or in a new block. -/
theorem append_where (w : World) (base : Nat) (t ty e : TypeId) (i : TypeInfo) (z : Value) (size bytes : Nat) (ht : P.underlying t = some (.slice e)) (hi : P.info? e = some i) (hz : i.zero = some z)
    (hsize : i.size = size) (hby : i.bytes = bytes) (hzs : z.cells.size = size) (hsz : 0 < size)
    (v : Value) (n : Nat) (xs : List Value) (hown : w.ownsRow base e size v n xs)
    (a : Addr) (m c : Nat) (news : List Value) (hl : news.length = m * size) (hnews : ∀ j u, news[j]? = some u → w.cell? (a.add j) = some u) (h1 : ∀ u ∈ news, u.oneCell' = true)
    (h63 : n + m ≤ maxLen) (hbytes : (n + m) * bytes ≤ 140737488355328) {v' : Value} {w' : World} (hr : (Builtin.append_ #[t, t] ty #[v, .slice (some a) m c]).run P w = .ok v' w') :
    v'.ownBlock = v.ownBlock ∨ ∀ k, v'.ownBlock = some k → w.heap.size ≤ k := by
  have h63' := h63
  simp only [maxLen] at h63'
  rcases hown.2 with ⟨rfl, rfl⟩ | ⟨g, cap, cur, rfl, hbg, hg, hnc, hcm, hcs, htake⟩
  · have hx : xs = [] := List.eq_nil_of_length_eq_zero (by simpa using hown.1)
    subst hx
    obtain ⟨v2, w2, hr2, ho, _⟩ := run_append_own (P := P) w w.heap.size t ty e i z size bytes ht hi hz hsize hby hzs hsz _ 0 [] (World.ownsRow_nil w _ e size) a m c news hl hnews h1 h63 hbytes (Nat.le_refl _)
    rw [hr] at hr2
    cases hr2
    exact .inr fun k hk => (ho.lt k hk).1
  · by_cases hroom : n + m ≤ cap
    · have hfit : n * i.size + news.length ≤ cur.size := by rw [hl, hcs, hsize, ← Nat.add_mul]; exact Nat.mul_le_mul_right _ hroom
      have hr2 := run_append_room (P := P) w t ty e i ht hi g n cap cur hg a m c news (by rw [hl, hsize]) hnews h1 hroom hfit
      rw [hr] at hr2
      cases hr2
      exact .inl rfl
    · have holds : ∀ j u, xs[j]? = some u → w.cell? ((⟨g, 0, none⟩ : Addr).add j) = some u := hown.cells (g := g) rfl
      have hr2 := run_append_grow (P := P) w t ty e i z ht hi hz ⟨g, 0, none⟩ n cap xs (by rw [hown.1, hsize]) holds a m c news (by rw [hl, hsize]) hnews (by omega) (by omega) (growslice_fits (by omega) (by rw [hby]; exact hbytes))
      rw [hr] at hr2
      cases hr2
      exact .inr fun k hk => by simp [Value.ownBlock] at hk; omega
theorem wpList_append_mine {w : World} {ops : Array Oper} {rest : List Oper} {o : Oper} {a : Act} {Q : Exit → Act → World → Prop} (hgd : o.guard = none) (s x : Operand) (t : TypeId)
    (ho : o.op = .call { callee := .builtin .append, args := #[s, x], argTypes := #[t, t] })
    (base : Nat) (e : TypeId) (i : TypeInfo) (z : Value) (size bytes : Nat) (ht : P.underlying t = some (.slice e)) (hi : P.info? e = some i) (hz : i.zero = some z)
    (hsize : i.size = size) (hby : i.bytes = bytes) (hzs : z.cells.size = size) (hsz : 0 < size)
    (v : Value) (n : Nat) (xs : List Value) (hs : a.eval s = v) (hown : w.ownsRow base e size v n xs)
    (ad : Addr) (m c : Nat) (news : List Value) (hx : a.eval x = .slice (some ad) m c) (hl : news.length = m * size) (hnews : ∀ j u, news[j]? = some u → w.cell? (ad.add j) = some u) (h1 : ∀ u ∈ news, u.oneCell' = true)
    (h63 : n + m ≤ maxLen) (hbytes : (n + m) * bytes ≤ 140737488355328) (hbase : base ≤ w.heap.size)
    (h : ∀ v' w', w'.ownsRow base e size v' (n + m) (xs ++ news) → w.grownBy w' v.ownBlock → (v'.ownBlock = v.ownBlock ∨ ∀ k, v'.ownBlock = some k → w.heap.size ≤ k) → wpList P ops Q rest (a.put o.dst v') w') : wpList P ops Q (o :: rest) a w := by
  refine wpList_plain hgd fun K hK => ?_
  obtain ⟨v', w', hr, h2, h3, h4⟩ := run_append_own (P := P) w base t o.type e i z size bytes ht hi hz hsize hby hzs hsz v n xs hown ad m c news hl hnews h1 h63 hbytes hbase
  have h5 := append_where w base t o.type e i z size bytes ht hi hz hsize hby hzs hsz v n xs hown ad m c news hl hnews h1 h63 hbytes hr
  unfold Oper.wp execOp
  simp only [ho, resolve, invoke, builtin, Sem.run_bind, Sem.run_pure, Result.andThen_ok, List.map_toArray, List.map_cons, List.map_nil, hs, hx, hr]
  exact hK _ _ (h v' w' h2 h3 h5)
theorem wp_append_mine {w : World} {o : Oper} {a : Act} {K : Act → World → Prop} {Q : Exit → Act → World → Prop} (s x : Operand) (t : TypeId)
    (ho : o.op = .call { callee := .builtin .append, args := #[s, x], argTypes := #[t, t] })
    (base : Nat) (e : TypeId) (i : TypeInfo) (z : Value) (size bytes : Nat) (ht : P.underlying t = some (.slice e)) (hi : P.info? e = some i) (hz : i.zero = some z)
    (hsize : i.size = size) (hby : i.bytes = bytes) (hzs : z.cells.size = size) (hsz : 0 < size)
    (v : Value) (n : Nat) (xs : List Value) (hs : a.eval s = v) (hown : w.ownsRow base e size v n xs)
    (ad : Addr) (m c : Nat) (news : List Value) (hx : a.eval x = .slice (some ad) m c) (hl : news.length = m * size) (hnews : ∀ j u, news[j]? = some u → w.cell? (ad.add j) = some u) (h1 : ∀ u ∈ news, u.oneCell' = true)
    (h63 : n + m ≤ maxLen) (hbytes : (n + m) * bytes ≤ 140737488355328) (hbase : base ≤ w.heap.size)
    (h : ∀ v' w', w'.ownsRow base e size v' (n + m) (xs ++ news) → w.grownBy w' v.ownBlock → (v'.ownBlock = v.ownBlock ∨ ∀ k, v'.ownBlock = some k → w.heap.size ≤ k) → K (a.put o.dst v') w') : o.wp P a w K Q := by
  obtain ⟨v', w', hr, h2, h3, h4⟩ := run_append_own (P := P) w base t o.type e i z size bytes ht hi hz hsize hby hzs hsz v n xs hown ad m c news hl hnews h1 h63 hbytes hbase
  have h5 := append_where w base t o.type e i z size bytes ht hi hz hsize hby hzs hsz v n xs hown ad m c news hl hnews h1 h63 hbytes hr
  unfold Oper.wp execOp
  simp only [ho, resolve, invoke, builtin, Sem.run_bind, Sem.run_pure, Result.andThen_ok, List.map_toArray, List.map_cons, List.map_nil, hs, hx, hr]
  exact h v' w' h2 h3 h5
end
end Go.Proofs.YtaioeailgknfjaaGreatDoor
namespace Go.Proofs.YtaioeailgknfjaaGreatDoor
open Go Go.RowKit Go.Sort
section
variable {P : Program}
end
end Go.Proofs.YtaioeailgknfjaaGreatDoor

/- Rows of aggregates of one-cell fields in memory: tokens, ends. No program in sight. -/
namespace Go.Proofs.YtaioeailgknfjaaGreatDoor
open Go Go.RowKit Go.Sort

/-- A row of aggregates, k cells each. -/
def IsFlat (w : World) (k : Nat) (l : List (List Value)) (a : Option Addr) (len : Nat) : Prop :=
  len = l.length ∧ (∀ cs ∈ l, cs.length = k) ∧ ∀ (i : Nat) cs, l[i]? = some cs → ∃ b o, a = some ⟨b, o, none⟩ ∧ ∀ (j : Nat) v, cs[j]? = some v → w.cell? ⟨b, o + i * k + j, none⟩ = some v
theorem IsFlat.ext {w w' : World} (hx : Ext w w') {k : Nat} {l : List (List Value)} {a : Option Addr} {len : Nat} (h : IsFlat w k l a len) : IsFlat w' k l a len :=
  ⟨h.1, h.2.1, fun i cs hi => let ⟨b, o, e, q⟩ := h.2.2 i cs hi; ⟨b, o, e, fun j v hj => hx.cell (q j v hj)⟩⟩
theorem IsFlat.nil (w : World) (k : Nat) (a : Option Addr) : IsFlat w k [] a 0 := ⟨rfl, by simp, fun i v h => by simp at h⟩
theorem IsFlat.at_ {w : World} {k : Nat} {l : List (List Value)} {a : Option Addr} {len : Nat} (h : IsFlat w k l a len) {i : Nat} {cs : List Value} (hi : l[i]? = some cs) :
    ∃ b o, a = some ⟨b, o, none⟩ ∧ ∀ (j : Nat) v, cs[j]? = some v → w.cell? ⟨b, o + i * k + j, none⟩ = some v := h.2.2 i cs hi
theorem flatten_at {k : Nat} (l : List (List Value)) (hl : ∀ cs ∈ l, cs.length = k) (i j : Nat) (hj : j < k) : (l.flatten)[i * k + j]? = (l[i]?).bind fun cs => cs[j]? := by
  induction l generalizing i with
  | nil => simp
  | cons c l ih =>
    have hc := hl c (by simp)
    rw [List.flatten_cons]
    cases i with
    | zero =>
      rw [List.getElem?_append_left (by omega)]
      simp
    | succ i =>
      rw [List.getElem?_append_right (by rw [hc, Nat.succ_mul]; omega), hc, show (i + 1) * k + j - k = i * k + j from by rw [Nat.succ_mul]; omega, ih (fun cs h => hl cs (by simp [h]))]
      simp
theorem flatten_length {k : Nat} (l : List (List Value)) (hl : ∀ cs ∈ l, cs.length = k) : l.flatten.length = l.length * k := by
  induction l with
  | nil => simp
  | cons c l ih =>
    rw [List.flatten_cons, List.length_append, hl c (by simp), ih (fun cs h => hl cs (by simp [h])), List.length_cons, Nat.succ_mul]
    omega
/-- A row that a slice owns is one in memory. -/
theorem owns_flat {w : World} {base : Nat} {e : TypeId} {k n : Nat} {v : Value} {l : List (List Value)} (h : w.ownsRow base e k v n l.flatten) (hk : 0 < k) (hl : ∀ cs ∈ l, cs.length = k) :
    ∃ a cap, v = .slice a n cap ∧ n ≤ cap ∧ cap ≤ 9223372036854775807 ∧ IsFlat w k l a n := by
  have hn : n = l.length := by
    have h1 := h.1
    rw [flatten_length l hl] at h1
    exact (Nat.eq_of_mul_eq_mul_right hk h1).symm
  rcases h.2 with ⟨rfl, e0⟩ | ⟨g, cap, cur, rfl, hg, hh, h1, h2, h3, h4⟩
  · subst e0
    have : l = [] := List.eq_nil_of_length_eq_zero hn.symm
    subst this
    exact ⟨none, 0, rfl, Nat.le_refl _, by omega, IsFlat.nil _ _ _⟩
  · refine ⟨_, cap, rfl, h1, h2, hn, hl, fun i cs hi => ⟨g, 0, rfl, fun j u hu => ?_⟩⟩
    have hj : j < k := by
      have := hl cs (List.mem_of_getElem? hi)
      rcases Nat.lt_or_ge j cs.length with hh | hh
      · omega
      · rw [List.getElem?_eq_none hh] at hu; cases hu
    have := h.cells (g := g) rfl (i * k + j) u (by rw [flatten_at l hl i j hj, hi]; exact hu)
    simpa [Addr.add_lit, Nat.add_assoc] using this
end Go.Proofs.YtaioeailgknfjaaGreatDoor

/- Numbers' texts, in plain Lean. Tokens, in plain Lean; no program in sight. -/
namespace Go.Proofs.YtaioeailgknfjaaGreatDoor
open Go

/-- A digit. -/
def isD (c : UInt8) : Bool := decide (48 ≤ c.toNat) && decide (c.toNat ≤ 57)
def stepN (n : Nat) (c : UInt8) : Nat := 10 * n + (c.toNat - 48)
theorem stepN_eq (n : Nat) (c : UInt8) : stepN n c = 10 * n + (c.toNat - 48) := by unfold stepN; rfl
/-- What digits spell, behind n. -/
def valN (n : Nat) (l : List UInt8) : Nat := l.foldl stepN n
theorem valN_nil (n : Nat) : valN n [] = n := rfl
theorem valN_cons (n : Nat) (c : UInt8) (r : List UInt8) : valN n (c :: r) = valN (10 * n + (c.toNat - 48)) r := by
  unfold valN
  rw [List.foldl_cons, stepN_eq]
theorem valN_append (l r : List UInt8) (n : Nat) : valN n (l ++ r) = valN (valN n l) r := by
  induction l generalizing n with
  | nil => rfl
  | cons c l ih => exact ih _
theorem valN_ge (l : List UInt8) (n : Nat) : n * 10 ^ l.length ≤ valN n l := by
  induction l generalizing n with
  | nil => simp [valN_nil]
  | cons c l ih =>
    have h := ih (10 * n + (c.toNat - 48))
    simp only [valN_nil, valN_cons, List.length_cons, Nat.pow_succ]
    refine Nat.le_trans ?_ h
    generalize 10 ^ l.length = p
    have e : n * (p * 10) = (10 * n) * p := by rw [Nat.mul_comm 10 n, Nat.mul_assoc, Nat.mul_comm p 10]
    rw [e]
    exact Nat.mul_le_mul_right _ (by omega)
theorem valN_le (l : List UInt8) (n : Nat) : n ≤ valN n l :=
  Nat.le_trans (Nat.le_mul_of_pos_right n (Nat.pow_pos (by omega))) (valN_ge l n)
/-- A number's text: no more digits than it takes, and it isn't too great. -/
def okN (l : List UInt8) : Bool := !l.isEmpty && (l.all isD && (decide (valN 0 l ≤ 2147483647) && (l.length == 1 || l.head? != some 48)))
theorem isD_iff (c : UInt8) : isD c = true ↔ 48 ≤ c.toNat ∧ c.toNat ≤ 57 := by simp [isD]
theorem ofNat_digit {c : UInt8} (h : isD c = true) : UInt8.ofNat (48 + (c.toNat - 48)) = c := by
  rw [isD_iff] at h
  rw [show 48 + (c.toNat - 48) = c.toNat from by omega]
  exact UInt8.ofNat_toNat
theorem val_head_pos {c : UInt8} {r : List UInt8} (h : isD c = true) (h0 : c ≠ 48) : 1 ≤ valN 0 (c :: r) := by
  rw [isD_iff] at h
  have hc : 49 ≤ c.toNat := by
    rcases Nat.lt_or_ge 48 c.toNat with h1 | h1
    · omega
    · exfalso; apply h0
      have : c.toNat = 48 := by omega
      exact UInt8.toNat_inj.1 (by rw [this]; rfl)
  have := valN_le r (10 * 0 + (c.toNat - 48))
  simp only [valN_nil, valN_cons]
  omega
theorem decDigits_val (l : List UInt8) (h : l.all isD = true) (hne : l ≠ []) (h0 : l.length = 1 ∨ l.head? ≠ some 48) : Lib.decDigits (valN 0 l) = l := by
  generalize hn : l.length = n
  induction n generalizing l with
  | zero => exact absurd (List.eq_nil_of_length_eq_zero hn) hne
  | succ n ih =>
    rcases List.eq_nil_or_concat l with rfl | ⟨l', d, rfl⟩
    · exact absurd rfl hne
    rw [List.concat_eq_append] at *
    rw [List.all_append, Bool.and_eq_true] at h
    have hd : isD d = true := by simpa using h.2
    have hd' := (isD_iff d).1 hd
    rw [valN_append]
    simp only [valN_nil, valN_cons]
    cases l' with
    | nil =>
      simp only [valN_nil, valN_cons, List.nil_append]
      rw [Lib.decDigits_one (by omega), show 10 * 0 + (d.toNat - 48) = d.toNat - 48 from by omega, ofNat_digit hd]
    | cons c r =>
      have hc : isD c = true := by
        have := h.1
        rw [List.all_cons, Bool.and_eq_true] at this
        exact this.1
      have hc0 : c ≠ 48 := by
        rcases h0 with h0 | h0
        · simp at h0
        · simpa using h0
      have hp := val_head_pos (r := r) hc hc0
      have hih := ih (c :: r) h.1 (by simp) (.inr (by simpa using hc0)) (by simpa using hn)
      generalize valN 0 (c :: r) = v at *
      have hbig : ¬ 10 * v + (d.toNat - 48) < 10 := by omega
      rw [Lib.decDigits, dif_neg hbig, show (10 * v + (d.toNat - 48)) / 10 = v from by omega, show (10 * v + (d.toNat - 48)) % 10 = d.toNat - 48 from by omega, hih, ofNat_digit hd]
theorem decDigits_ne (n : Nat) : Lib.decDigits n ≠ [] := by
  intro h
  have := Lib.decDigits_length n
  rw [h] at this
  have := Lib.nDigits_pos n
  simp at *
  omega
theorem decDigits_head (n : Nat) : (Lib.decDigits n).head? = some 48 → n = 0 := by
  induction n using Nat.strongRecOn with
  | _ n ih =>
    intro h
    by_cases h10 : n < 10
    · rw [Lib.decDigits_one h10] at h
      rw [List.head?_cons] at h
      have : ∀ i : Fin 10, UInt8.ofNat (48 + i.val) = 48 → i.val = 0 := by decide +kernel
      exact this ⟨n, h10⟩ (Option.some.inj h)
    · rw [Lib.decDigits, dif_neg h10] at h
      have hne := decDigits_ne (n / 10)
      have h' : (Lib.decDigits (n / 10)).head? = some 48 := by
        cases hd : Lib.decDigits (n / 10) with
        | nil => exact absurd hd hne
        | cons c r => rw [hd] at h; simpa using h
      have := ih (n / 10) (by omega) h'
      omega
/-- No number of so many digits is small enough. -/
theorem okN_long {l : List UInt8} (h : 10 < l.length) : okN l = false := by
  rw [Bool.eq_false_iff]
  intro hk
  unfold okN at hk
  simp only [Bool.and_eq_true, decide_eq_true_eq, Bool.or_eq_true, beq_iff_eq, bne_iff_ne] at hk
  obtain ⟨h1, h2, h3, h4⟩ := hk
  rcases h4 with h4 | h4
  · omega
  cases l with
  | nil => simp at h
  | cons c r =>
    rw [List.all_cons, Bool.and_eq_true] at h2
    have hc := (isD_iff c).1 h2.1
    have hc0 : c ≠ 48 := by simpa using h4
    have hp : 1 ≤ c.toNat - 48 := by
      have := val_head_pos (r := []) h2.1 hc0
      simp only [valN_nil, valN_cons] at this
      omega
    have := valN_ge r (10 * 0 + (c.toNat - 48))
    simp only [valN_nil, valN_cons] at h3
    simp only [List.length_cons] at h
    have h10 : 10 ^ 10 ≤ 10 ^ r.length := Nat.pow_le_pow_right (by omega) (by omega)
    have : 1 * 10 ^ r.length ≤ (10 * 0 + (c.toNat - 48)) * 10 ^ r.length := Nat.mul_le_mul_right _ (by omega)
    have e : (10 : Nat) ^ 10 = 10000000000 := by decide
    omega
theorem parseUintM_digits (M : Nat) (l : List UInt8) (acc : Nat) (h : l.all isD = true) (hv : valN acc l ≤ M) (hM : M ≤ 18446744073709551615) (hb : 10 * valN acc l ≤ 18446744073709551615) : Lib.parseUintM M acc l = .ok (valN acc l) := by
  induction l generalizing acc with
  | nil => rfl
  | cons c r ih =>
    rw [List.all_cons, Bool.and_eq_true] at h
    have hc := (isD_iff c).1 h.1
    have hle := valN_le r (10 * acc + (c.toNat - 48))
    simp only [valN_nil, valN_cons] at hv hb ⊢
    unfold Lib.parseUintM
    rw [if_pos hc, if_neg (by omega), if_neg (by omega), Nat.mul_comm acc 10]
    exact ih _ h.2 hv hb
theorem valN_small (l : List UInt8) (n : Nat) (h : l.all isD = true) : valN n l < (n + 1) * 10 ^ l.length := by
  induction l generalizing n with
  | nil => simp [valN_nil]
  | cons c r ih =>
    rw [List.all_cons, Bool.and_eq_true] at h
    have hc := (isD_iff c).1 h.1
    have := ih (10 * n + (c.toNat - 48)) h.2
    simp only [valN_nil, valN_cons, List.length_cons, Nat.pow_succ]
    refine Nat.lt_of_lt_of_le this ?_
    generalize 10 ^ r.length = p
    have e : (n + 1) * (p * 10) = (10 * (n + 1)) * p := by rw [Nat.mul_comm 10 (n + 1), Nat.mul_assoc, Nat.mul_comm p 10]
    rw [e]
    exact Nat.mul_le_mul_right _ (by omega)
theorem parseInt_digits (l : List UInt8) (h : l.all isD = true) (hne : l ≠ []) (hl : l.length ≤ 10) : Lib.parseIntB 64 l = .ok (valN 0 l : Nat) := by
  have hs := valN_small l 0 h
  have h10 : 10 ^ l.length ≤ 10 ^ 10 := Nat.pow_le_pow_right (by omega) hl
  have e : (10 : Nat) ^ 10 = 10000000000 := by decide
  have hv : valN 0 l < 10000000000 := by omega
  cases l with
  | nil => exact absurd rfl hne
  | cons c r =>
    have hc : 48 ≤ c.toNat ∧ c.toNat ≤ 57 := by
      rw [List.all_cons, Bool.and_eq_true] at h
      exact (isD_iff c).1 h.1
    rw [Lib.parseIntB_plain 64 c r (by omega) (by omega)]
    unfold Lib.parseUintB
    rw [if_neg (by simp), parseUintM_digits _ _ _ h (by have : (2 : Nat) ^ 64 - 1 = 18446744073709551615 := by decide
                                                        omega) (by decide) (by omega)]
    unfold Lib.signlessC
    simp only
    rw [if_neg (by have : (2 : Nat) ^ (64 - 1) = 9223372036854775808 := by decide
                   omega)]
/-- The reference's road: digit by digit, as long as it isn't too great. -/
def roadN : List UInt8 → Nat → Option Nat
  | [], n => some n
  | c :: r, n => if isD c && decide (n ≤ 2147483647) then roadN r (10 * n + (c.toNat - 48)) else none
theorem roadN_some (l : List UInt8) (n v : Nat) (h : roadN l n = some v) : l.all isD = true ∧ v = valN n l := by
  induction l generalizing n with
  | nil => simp [roadN] at h; exact ⟨rfl, h.symm⟩
  | cons c r ih =>
    unfold roadN at h
    split at h
    · rename_i hc
      rw [Bool.and_eq_true] at hc
      obtain ⟨h1, h2⟩ := ih _ h
      exact ⟨by rw [List.all_cons, hc.1, h1]; rfl, h2⟩
    · cases h
theorem roadN_ok (l : List UInt8) (n : Nat) (h : l.all isD = true) (hv : valN n l ≤ 2147483647) : roadN l n = some (valN n l) := by
  induction l generalizing n with
  | nil => rfl
  | cons c r ih =>
    rw [List.all_cons, Bool.and_eq_true] at h
    have h1 := valN_le r (10 * n + (c.toNat - 48))
    simp only [valN_nil, valN_cons] at hv ⊢
    unfold roadN
    rw [if_pos (by rw [h.1]; simp; omega)]
    exact ih _ h.2 hv
theorem road_ok (l : List UInt8) (v : Nat) (h : roadN l 0 = some v) : (!l.isEmpty && (decide (v ≤ 2147483647) && decide (Lib.decDigits v = l))) = okN l := by
  obtain ⟨h1, rfl⟩ := roadN_some l 0 v h
  unfold okN
  rw [h1]
  by_cases hne : l = []
  · subst hne; rfl
  have he : l.isEmpty = false := by simpa using hne
  rw [he]
  simp only [Bool.not_false, Bool.true_and]
  congr 1
  by_cases h4 : l.length = 1 ∨ l.head? ≠ some 48
  · rw [decide_eq_true (decDigits_val l h1 hne h4)]
    rcases h4 with h4 | h4 <;> simp [h4]
  · have : ¬ Lib.decDigits (valN 0 l) = l := by
      intro e
      apply h4
      by_cases hh : l.head? = some 48
      · left
        rw [← e] at hh
        have := decDigits_head _ hh
        rw [← e, this, Lib.decDigits_one (by omega)]
        rfl
      · exact .inr hh
    rw [decide_eq_false this]
    simp only [not_or, Classical.not_not] at h4
    simp [h4.1, h4.2]
theorem road_none (l : List UInt8) (h : roadN l 0 = none) : okN l = false := by
  rw [Bool.eq_false_iff]
  intro hk
  unfold okN at hk
  simp only [Bool.and_eq_true, decide_eq_true_eq] at hk
  rw [roadN_ok l 0 hk.2.1 hk.2.2.1] at h
  cases h
theorem cls_digit (c : UInt8) : ([2] : List Int).contains (cls ((c.toNat : Nat) : Int)) = isD c := by
  have : ∀ i : Fin 256, ([2] : List Int).contains (cls ((i.val : Nat) : Int)) = (decide (48 ≤ i.val) && decide (i.val ≤ 57)) := by decide +kernel
  exact this ⟨c.toNat, by have := c.toNat_lt; omega⟩
theorem span_digits (s : ByteArray) : (spanOf [2] (il s) = s.size) ↔ s.data.toList.all isD = true := by
  rw [← il_length, spanOf_all, List.all_eq_true]
  unfold il
  constructor
  · intro h c hc
    have := h ((c.toNat : Nat) : Int) (List.mem_map_of_mem hc)
    rw [cls_digit] at this
    exact this
  · intro h c hc
    obtain ⟨b, hb, rfl⟩ := List.mem_map.1 hc
    rw [cls_digit]
    exact h b hb
/-- What is told of a text as a number. -/
def numV (s : ByteArray) : Int := if okN s.data.toList then (valN 0 s.data.toList : Nat) else 0
def numB (s : ByteArray) : Bool := okN s.data.toList
end Go.Proofs.YtaioeailgknfjaaGreatDoor
namespace Go.Proofs.YtaioeailgknfjaaGreatDoor
open Go

/-- A token. -/
structure Tok where
  k : Int
  text : ByteArray
  pos : Nat
def clsU (c : UInt8) : Int := cls ((c.toNat : Nat) : Int)
/-- A word's kind. -/
def kindOf (s : ByteArray) : Int := if numB s then 1 else if 0 < kwd s then 4 else if isName s then 2 else if isExn s then 3 else 0
/-- How many bytes of some classes stand at the front. -/
def spanU (cl : List Int) (l : List UInt8) : Nat := (l.takeWhile fun c => cl.contains (clsU c)).length
theorem spanU_le (cl : List Int) (l : List UInt8) : spanU cl l ≤ l.length := (List.takeWhile_sublist _).length_le
theorem spanU_pos {cl : List Int} {c : UInt8} {r : List UInt8} (h : cl.contains (clsU c) = true) : spanU cl (c :: r) = spanU cl r + 1 := by
  unfold spanU
  rw [List.takeWhile_cons_of_pos (by exact h)]
  rfl
theorem spanU_zero {cl : List Int} {c : UInt8} {r : List UInt8} (h : cl.contains (clsU c) = false) : spanU cl (c :: r) = 0 := by
  unfold spanU
  rw [List.takeWhile_cons_of_neg (by rw [h]; simp)]
  rfl
theorem spanU_nil (cl : List Int) : spanU cl [] = 0 := rfl
/-- A sign's length. -/
def signOf (l : List UInt8) : Nat := if l.take 2 = [58, 61] ∨ l.take 2 = [61, 62] then 2 else if l.head? = some 58 ∨ l.head? = some 62 then 0 else 1
/-- How long the token at the front is, and its kind; none. -/
def tokAt (l : List UInt8) : Option (Nat × Int) := match l with
  | [] => none
  | c :: r =>
    if clsU c = 2 then (if numB (bs ((c :: r).take (spanU [2] (c :: r)))) then some (spanU [2] (c :: r), 1) else none)
    else if clsU c = 3 ∨ clsU c = 4 then
      (if 0 < kwd (bs ((c :: r).take (spanU [2, 3, 4] (c :: r)))) then some (spanU [2, 3, 4] (c :: r), 4) else if isName (bs ((c :: r).take (spanU [2, 3, 4] (c :: r)))) then some (spanU [2, 3, 4] (c :: r), 2)
        else if isExn (bs ((c :: r).take (spanU [2, 3, 4] (c :: r)))) then some (spanU [2, 3, 4] (c :: r), 3) else none)
    else if clsU c = 5 then (if signOf (c :: r) = 0 then none else some (signOf (c :: r), 5)) else none
theorem signOf_le {c : UInt8} {r : List UInt8} : signOf (c :: r) ≤ (c :: r).length := by
  unfold signOf
  split
  · rename_i h
    rcases h with h | h
    · have := congrArg List.length h; simp at this ⊢; omega
    · have := congrArg List.length h; simp at this ⊢; omega
  · split <;> simp
theorem tokAt_bd {l : List UInt8} {n : Nat} {k : Int} (h : tokAt l = some (n, k)) : 0 < n ∧ n ≤ l.length ∧ 1 ≤ k ∧ k ≤ 5 := by
  cases l with
  | nil => cases h
  | cons c r =>
    unfold tokAt at h
    simp only at h
    by_cases h2 : clsU c = 2
    · rw [if_pos h2] at h
      split at h
      · cases h
        exact ⟨by rw [spanU_pos (by rw [h2]; rfl)]; omega, spanU_le _ _, by omega, by omega⟩
      · cases h
    rw [if_neg h2] at h
    by_cases h3 : clsU c = 3 ∨ clsU c = 4
    · rw [if_pos h3] at h
      have hp : 0 < spanU [2, 3, 4] (c :: r) := by
        rw [spanU_pos (by rcases h3 with h3 | h3 <;> rw [h3] <;> rfl)]
        omega
      split at h
      · cases h; exact ⟨hp, spanU_le _ _, by omega, by omega⟩
      split at h
      · cases h; exact ⟨hp, spanU_le _ _, by omega, by omega⟩
      split at h
      · cases h; exact ⟨hp, spanU_le _ _, by omega, by omega⟩
      · cases h
    rw [if_neg h3] at h
    by_cases h5 : clsU c = 5
    · rw [if_pos h5] at h
      split at h
      · cases h
      · cases h; exact ⟨by omega, signOf_le, by omega, by omega⟩
    · rw [if_neg h5] at h; cases h
/-- The tokens of a text from a place on; the place where none begins. -/
def lexF : Nat → Nat → List UInt8 → Except Nat (List Tok)
  | 0, p, _ => .ok [⟨6, ByteArray.empty, p⟩]
  | _ + 1, p, [] => .ok [⟨6, ByteArray.empty, p⟩]
  | f + 1, p, c :: r => if clsU c = 1 then lexF f (p + 1) r else match tokAt (c :: r) with
    | none => .error p
    | some (n, k) => (lexF f (p + n) ((c :: r).drop n)).map fun o => ⟨k, bs ((c :: r).take n), p⟩ :: o
theorem lexF_fuel (f : Nat) : ∀ (g p : Nat) (l : List UInt8), l.length ≤ f → l.length ≤ g → lexF f p l = lexF g p l := by
  induction f with
  | zero =>
    intro g p l hf hg
    have : l = [] := List.eq_nil_of_length_eq_zero (by omega)
    subst this
    cases g <;> rfl
  | succ f ih =>
    intro g p l hf hg
    cases l with
    | nil => cases g <;> rfl
    | cons c r =>
      cases g with
      | zero => simp at hg
      | succ g =>
        simp only [List.length_cons] at hf hg
        unfold lexF
        by_cases h1 : clsU c = 1
        · rw [if_pos h1, if_pos h1]
          exact ih g _ r (by omega) (by omega)
        · rw [if_neg h1, if_neg h1]
          cases ht : tokAt (c :: r) with
          | none => rfl
          | some nk =>
            obtain ⟨n, k⟩ := nk
            have hb := tokAt_bd ht
            simp only [List.length_cons] at hb
            simp only
            rw [ih g (p + n) ((c :: r).drop n) (by simp; omega) (by simp; omega)]
def lexL (p : Nat) (l : List UInt8) : Except Nat (List Tok) := lexF l.length p l
theorem lexL_nil (p : Nat) : lexL p [] = .ok [⟨6, ByteArray.empty, p⟩] := rfl
theorem lexL_blank {c : UInt8} (h : clsU c = 1) (p : Nat) (r : List UInt8) : lexL p (c :: r) = lexL (p + 1) r := by
  unfold lexL
  rw [List.length_cons]
  conv => lhs; unfold lexF
  rw [if_pos h]
theorem lexL_none {c : UInt8} (h : clsU c ≠ 1) (p : Nat) {r : List UInt8} (ht : tokAt (c :: r) = none) : lexL p (c :: r) = .error p := by
  unfold lexL
  rw [List.length_cons]
  conv => lhs; unfold lexF
  rw [if_neg h, ht]
theorem lexL_tok {c : UInt8} (h : clsU c ≠ 1) (p : Nat) {r : List UInt8} {n : Nat} {k : Int} (ht : tokAt (c :: r) = some (n, k)) :
    lexL p (c :: r) = (lexL (p + n) ((c :: r).drop n)).map fun o => ⟨k, bs ((c :: r).take n), p⟩ :: o := by
  have hb := tokAt_bd ht
  simp only [List.length_cons] at hb
  unfold lexL
  rw [List.length_cons]
  conv => lhs; unfold lexF
  rw [if_neg h, ht]
  simp only
  rw [lexF_fuel r.length ((c :: r).drop n).length (p + n) ((c :: r).drop n) (by simp; omega) (by simp)]
/-- Tokens put ahead. -/
def ahead (o : List Tok) (r : Except Nat (List Tok)) : Except Nat (List Tok) := r.map fun l => o ++ l
theorem ahead_nil (r : Except Nat (List Tok)) : ahead [] r = r := by cases r <;> rfl
theorem ahead_cons (o : List Tok) (t : Tok) (r : Except Nat (List Tok)) : ahead o (r.map fun l => t :: l) = ahead (o ++ [t]) r := by
  cases r with
  | error e => rfl
  | ok l => simp [ahead, Except.map]
/-- Blanks at the front. -/
theorem lexL_span (p : Nat) (l : List UInt8) : lexL p l = lexL (p + spanU [1] l) (l.drop (spanU [1] l)) := by
  induction l generalizing p with
  | nil => rfl
  | cons c r ih =>
    by_cases h : clsU c = 1
    · rw [spanU_pos (by rw [h]; rfl), lexL_blank h, ih, List.drop_succ_cons]
      congr 1
      omega
    · rw [spanU_zero (by simpa using h)]
      rfl
/-- Behind the blanks stands none. -/
theorem span_stop (cl : List Int) (l : List UInt8) {c : UInt8} {r : List UInt8} (h : l.drop (spanU cl l) = c :: r) : cl.contains (clsU c) = false := by
  induction l with
  | nil => simp [spanU] at h
  | cons a l ih =>
    cases ha : cl.contains (clsU a)
    · rw [spanU_zero ha] at h
      cases h
      exact ha
    · rw [spanU_pos ha, List.drop_succ_cons] at h
      exact ih h

/-- A digit's class is 2, and no other's. -/
theorem isD_cls (c : UInt8) : isD c = (clsU c == 2) := by
  have : ∀ i : Fin 256, (decide (48 ≤ i.val) && decide (i.val ≤ 57)) = (cls ((i.val : Nat) : Int) == 2) := by decide +kernel
  exact this ⟨c.toNat, by have := c.toNat_lt; omega⟩
theorem il_bs (l : List UInt8) : il (bs l) = l.map fun b => (b.toNat : Int) := by unfold il; rw [bs_list]
theorem take_span_all (cl : List Int) (l : List UInt8) : ∀ c, c ∈ l.take (spanU cl l) → cl.contains (clsU c) = true := by
  induction l with
  | nil => simp
  | cons a l ih =>
    intro c hc
    cases ha : cl.contains (clsU a)
    · rw [spanU_zero ha] at hc; simp at hc
    · rw [spanU_pos ha, List.take_succ_cons] at hc
      rcases List.mem_cons.1 hc with rfl | hc
      · exact ha
      · exact ih c hc
/-- A word that begins with a digit is none of the others. -/
theorem kind_digit {c : UInt8} (r : List UInt8) (h : clsU c = 2) : kindOf (bs (c :: r)) = if numB (bs (c :: r)) then 1 else 0 := by
  unfold kindOf
  have h3 : ∀ f, f ≠ 2 → shapely (il (bs (c :: r))) f = false := by
    intro f hf
    rw [il_bs, List.map_cons]
    simp only [shapely]
    have : (cls ((c.toNat : Nat) : Int) == f) = false := beq_false_of_ne (by have := h; unfold clsU at this; omega)
    rw [this]
    simp
  have hk : kwd (bs (c :: r)) = 0 := by
    unfold kwd
    rw [bs_list]
    refine placeOf_none (fun x hx e => ?_) 1
    subst e
    have : ∀ x, x ∈ keyw → ∀ c r, x = c :: r → clsU c ≠ 2 := by
      have hall : keyw.all (fun x => match x with | [] => true | c :: _ => clsU c != 2) = true := by decide +kernel
      intro x hx c r e
      have := List.all_eq_true.1 hall x hx
      rw [e] at this
      simpa using this
    exact this _ hx c r rfl h
  unfold isName isExn
  rw [h3 3 (by omega), h3 4 (by omega), hk]
  simp
/-- A word that begins with a letter is no number. -/
theorem kind_letter {c : UInt8} (r : List UInt8) (h : clsU c = 3 ∨ clsU c = 4) : kindOf (bs (c :: r)) = if 0 < kwd (bs (c :: r)) then 4 else if isName (bs (c :: r)) then 2 else if isExn (bs (c :: r)) then 3 else 0 := by
  unfold kindOf
  have : numB (bs (c :: r)) = false := by
    unfold numB okN
    rw [bs_list, List.all_cons, isD_cls]
    have : (clsU c == 2) = false := beq_false_of_ne (by rcases h with h | h <;> omega)
    rw [this]
    simp
  rw [this]
  simp
theorem kindOf_bd (s : ByteArray) : 0 ≤ kindOf s ∧ kindOf s ≤ 4 := by unfold kindOf; repeat' split <;> try omega
/-- The token at the front, as the program finds it. -/
theorem tokAt_kind {c : UInt8} {r : List UInt8} (cl : List Int) (h : (clsU c = 2 ∧ cl = [2]) ∨ ((clsU c = 3 ∨ clsU c = 4) ∧ cl = [2, 3, 4])) :
    tokAt (c :: r) = (if 0 < kindOf (bs ((c :: r).take (spanU cl (c :: r)))) then some (spanU cl (c :: r), kindOf (bs ((c :: r).take (spanU cl (c :: r))))) else none) := by
  rcases h with ⟨h, rfl⟩ | ⟨h, rfl⟩
  · have e : (c :: r).take (spanU [2] (c :: r)) = c :: r.take (spanU [2] r) := by rw [spanU_pos (by rw [h]; rfl), List.take_succ_cons]
    unfold tokAt
    simp only
    rw [if_pos h, e, kind_digit _ h]
    cases numB (bs (c :: r.take (spanU [2] r))) <;> simp
  · have hc : [2, 3, 4].contains (clsU c) = true := by rcases h with h | h <;> rw [h] <;> rfl
    have e : (c :: r).take (spanU [2, 3, 4] (c :: r)) = c :: r.take (spanU [2, 3, 4] r) := by rw [spanU_pos hc, List.take_succ_cons]
    unfold tokAt
    simp only
    rw [if_neg (by rcases h with h | h <;> omega), if_pos h, e, kind_letter _ h]
    by_cases a1 : 0 < kwd (bs (c :: r.take (spanU [2, 3, 4] r)))
    · simp [a1]
    · rw [if_neg a1, if_neg a1]
      cases isName (bs (c :: r.take (spanU [2, 3, 4] r))) <;> cases isExn (bs (c :: r.take (spanU [2, 3, 4] r))) <;> simp
theorem tokAt_sign {c : UInt8} {r : List UInt8} (h : clsU c = 5) : tokAt (c :: r) = if signOf (c :: r) = 0 then none else some (signOf (c :: r), 5) := by
  unfold tokAt
  simp only
  rw [if_neg (by omega), if_neg (by omega), if_pos h]
theorem tokAt_other {c : UInt8} {r : List UInt8} (h : clsU c = 0 ∨ clsU c = 1) : tokAt (c :: r) = none := by
  unfold tokAt
  simp only
  rw [if_neg (by omega), if_neg (by omega), if_neg (by omega)]
end Go.Proofs.YtaioeailgknfjaaGreatDoor

/- Tokens in memory. No program in sight. -/
namespace Go.Proofs.YtaioeailgknfjaaGreatDoor
open Go Go.RowKit Go.Sort

/-- Tokens as Go holds them: a kind, a text, a place. -/
structure Tk where
  k : Int
  text : ByteArray
  pos : Int
/-- A token's cells. -/
def tkcells (t : Tk) : List Value := [.int .u8 t.k, .string t.text, .int .i64 t.pos]
structure Tk.Fits (t : Tk) : Prop where
  k0 : 0 ≤ t.k
  k1 : t.k ≤ 255
  p0 : -9223372036854775808 ≤ t.pos
  p1 : t.pos ≤ 9223372036854775807
  text1 : t.text.size ≤ 9223372036854775807
/-- A row of tokens in memory. -/
def IsToks (w : World) (l : List Tk) (a : Option Addr) (len : Nat) : Prop := IsFlat w 3 (l.map tkcells) a len ∧ ∀ t ∈ l, t.Fits
theorem IsToks.ext {w w' : World} (hx : Ext w w') {l : List Tk} {a : Option Addr} {len : Nat} (h : IsToks w l a len) : IsToks w' l a len := ⟨h.1.ext hx, h.2⟩
theorem IsToks.length {w : World} {l : List Tk} {a : Option Addr} {len : Nat} (h : IsToks w l a len) : len = l.length := by have := h.1.1; simpa using this
theorem IsToks.at3 {w : World} {l : List Tk} {a : Option Addr} {len : Nat} (h : IsToks w l a len) {i : Nat} (hi : i < len) :
    ∃ t b o, l[i]? = some t ∧ t.Fits ∧ a = some ⟨b, o, none⟩ ∧ w.cell? ⟨b, o + i * 3, none⟩ = some (.int .u8 t.k) ∧ w.cell? ⟨b, o + i * 3 + 1, none⟩ = some (.string t.text) ∧ w.cell? ⟨b, o + i * 3 + 2, none⟩ = some (.int .i64 t.pos) := by
  have hl := h.length
  have hi' : l[i]? = some l[i] := List.getElem?_eq_getElem (hl ▸ hi)
  obtain ⟨b, o, ea, q⟩ := h.1.at_ (i := i) (cs := tkcells l[i]) (by simp [hi'])
  exact ⟨_, b, o, hi', h.2 _ (List.mem_of_getElem? hi'), ea, q 0 _ rfl, q 1 _ rfl, q 2 _ rfl⟩
theorem tkcells_len (l : List Tk) : ∀ cs ∈ l.map tkcells, cs.length = 3 := by
  intro cs h
  obtain ⟨t, _, rfl⟩ := List.mem_map.1 h
  rfl
/-- A token that was cut. -/
def Tok.tk (t : Tok) : Tk := ⟨t.k, t.text, t.pos⟩
end Go.Proofs.YtaioeailgknfjaaGreatDoor

/- From tokens to terms, in plain Lean; no program in sight. -/
namespace Go.Proofs.YtaioeailgknfjaaGreatDoor
open Go

/-- One of some words or signs stands next. -/
def isT (xs : List ByteArray) : List Tk → Bool
  | [] => false
  | t :: _ => (t.k == 4 || t.k == 5) && inB xs t.text
/-- What going through tokens comes to: what was found and the tokens behind it, or the tokens from the one that can't stand. -/
abbrev Res (α : Type) := Except (List Tk) (α × List Tk)
/-- One behind the other; none: not told. -/
def andThen {α β : Type} (r : Option (Res α)) (k : α → List Tk → Option (Res β)) : Option (Res β) :=
  match r with
  | none => none
  | some (.error l) => some (.error l)
  | some (.ok (a, l)) => k a l
theorem andThen_ok {α β : Type} (a : α) (l : List Tk) (k : α → List Tk → Option (Res β)) : andThen (some (.ok (a, l))) k = k a l := rfl
/-- A token of a kind. -/
def getK (k : Int) : List Tk → Res ByteArray
  | [] => .error []
  | t :: l => if t.k = k then .ok (t.text, l) else .error (t :: l)
/-- A word, or a sign. -/
def getW (x : ByteArray) (l : List Tk) : Res Unit := if isT [x] l then .ok ((), l.tail) else .error l
/-- The place of the token that stands next. -/
def posT : List Tk → Int
  | [] => 0
  | t :: _ => t.pos
/-- The text of the token that stands next. -/
def textT : List Tk → ByteArray
  | [] => ByteArray.empty
  | t :: _ => t.text
def kindT : List Tk → Int
  | [] => 0
  | t :: _ => t.k
def w_let : ByteArray := ⟨#[108, 101, 116]⟩
def w_letrec : ByteArray := ⟨#[108, 101, 116, 114, 101, 99]⟩
def w_fn : ByteArray := ⟨#[102, 110]⟩
def w_if : ByteArray := ⟨#[105, 102]⟩
def w_try : ByteArray := ⟨#[116, 114, 121]⟩
def w_in : ByteArray := ⟨#[105, 110]⟩
def w_then : ByteArray := ⟨#[116, 104, 101, 110]⟩
def w_else : ByteArray := ⟨#[101, 108, 115, 101]⟩
def w_with : ByteArray := ⟨#[119, 105, 116, 104]⟩
def w_raise : ByteArray := ⟨#[114, 97, 105, 115, 101]⟩
def w_fst : ByteArray := ⟨#[102, 115, 116]⟩
def w_snd : ByteArray := ⟨#[115, 110, 100]⟩
def w_ref : ByteArray := ⟨#[114, 101, 102]⟩
def w_exn : ByteArray := ⟨#[101, 120, 110]⟩
def s_eq : ByteArray := ⟨#[61]⟩
def s_to : ByteArray := ⟨#[61, 62]⟩
def s_set : ByteArray := ⟨#[58, 61]⟩
def s_plus : ByteArray := ⟨#[43]⟩
def s_minus : ByteArray := ⟨#[45]⟩
def s_star : ByteArray := ⟨#[42]⟩
def s_less : ByteArray := ⟨#[60]⟩
def s_bang : ByteArray := ⟨#[33]⟩
def s_open : ByteArray := ⟨#[40]⟩
def s_shut : ByteArray := ⟨#[41]⟩
def s_comma : ByteArray := ⟨#[44]⟩
def s_semi : ByteArray := ⟨#[59]⟩
/-- A head with a kind and a place alone. -/
def hd0 (k pos : Int) : Hd := ⟨k, 0, pos, 0, ByteArray.empty, ByteArray.empty, ByteArray.empty⟩
/-- The number of an operation's sign; 0: none's. -/
def opOf (x : ByteArray) : Int := if x = s_plus then 1 else if x = s_minus then 2 else if x = s_star then 3 else if x = s_less then 4 else if x = s_eq then 5 else 0
/-- Two terms with a sign between them. -/
def putT (x : ByteArray) (a b : Tm) : Tm := if x = s_set then .mk (hd0 8 a.head.pos) [a, b] else .mk { hd0 9 a.head.pos with op := opOf x } [a, b]
/-- The signs of a level, from the loosest on. -/
def signsL : Nat → List ByteArray
  | 0 => [s_set]
  | 1 => [s_less, s_eq]
  | 2 => [s_plus, s_minus]
  | _ => [s_star]
/-- A prefix' kind. -/
def preK (x : ByteArray) : Int := if x = w_fst then 4 else if x = w_snd then 5 else if x = w_ref then 6 else 7
/-- May a unary begin here? -/
def beginsT (l : List Tk) : Bool := kindT l == 1 || (kindT l == 2 || isT [s_bang, w_ref, w_fst, w_snd, w_raise, s_open] l)
/-- The parts of the grammar; the ones that go on have what stands ahead. -/
inductive NT where
  | expr
  | lvl (k : Nat)
  | more (k : Nat) (a : Tm)
  | args (a : Tm)
  | unary
/-- From tokens to a term, with calls one in the other so many times at most. -/
def parseF : Nat → NT → List Tk → Option (Res Tm)
  | 0, _, _ => none
  | f + 1, .expr, l =>
    if isT [w_let] l then
      andThen (some (getK 2 l.tail)) fun x l1 => andThen (some (getW s_eq l1)) fun _ l2 => andThen (parseF f .expr l2) fun a l3 => andThen (some (getW w_in l3)) fun _ l4 => andThen (parseF f .expr l4) fun b l5 =>
        some (.ok (.mk { hd0 12 (posT l) with name := x } [a, b], l5))
    else if isT [w_letrec] l then
      andThen (some (getK 2 l.tail)) fun x l1 => andThen (some (getK 2 l1)) fun y l2 => andThen (some (getW s_eq l2)) fun _ l3 => andThen (parseF f .expr l3) fun a l4 => andThen (some (getW w_in l4)) fun _ l5 => andThen (parseF f .expr l5) fun b l6 =>
        some (.ok (.mk { hd0 13 (posT l) with name := x, arg := y } [a, b], l6))
    else if isT [w_fn] l then
      andThen (some (getK 2 l.tail)) fun x l1 => andThen (some (getW s_to l1)) fun _ l2 => andThen (parseF f .expr l2) fun a l3 =>
        some (.ok (.mk { hd0 11 (posT l) with arg := x } [a], l3))
    else if isT [w_if] l then
      andThen (parseF f .expr l.tail) fun a l1 => andThen (some (getW w_then l1)) fun _ l2 => andThen (parseF f .expr l2) fun b l3 => andThen (some (getW w_else l3)) fun _ l4 => andThen (parseF f .expr l4) fun c l5 =>
        some (.ok (.mk (hd0 14 (posT l)) [a, b, c], l5))
    else if isT [w_try] l then
      andThen (parseF f .expr l.tail) fun a l1 => andThen (some (getW w_with l1)) fun _ l2 => andThen (some (getK 3 l2)) fun x l3 => andThen (some (getK 2 l3)) fun y l4 => andThen (some (getW s_to l4)) fun _ l5 => andThen (parseF f .expr l5) fun b l6 =>
        some (.ok (.mk { hd0 16 (posT l) with exn := x, arg := y } [a, b], l6))
    else parseF f (.lvl 0) l
  | f + 1, .lvl k, l =>
    if k < 2 then andThen (parseF f (.lvl (k + 1)) l) fun a l1 => if isT (signsL k) l1 then andThen (parseF f (.lvl (k + 1)) l1.tail) fun b l2 => some (.ok (putT (textT l1) a b, l2)) else some (.ok (a, l1))
    else if k < 4 then andThen (parseF f (.lvl (k + 1)) l) fun a l1 => parseF f (.more k a) l1
    else andThen (parseF f .unary l) fun a l1 => parseF f (.args a) l1
  | f + 1, .more k a, l => if isT (signsL k) l then andThen (parseF f (.lvl (k + 1)) l.tail) fun b l1 => parseF f (.more k (putT (textT l) a b)) l1 else some (.ok (a, l))
  | f + 1, .args a, l => if beginsT l then andThen (parseF f .unary l) fun b l1 => parseF f (.args (.mk (hd0 10 a.head.pos) [a, b])) l1 else some (.ok (a, l))
  | f + 1, .unary, l =>
    if isT [s_bang, w_ref, w_fst, w_snd] l then andThen (parseF f .unary l.tail) fun a l1 => some (.ok (.mk (hd0 (preK (textT l)) (posT l)) [a], l1))
    else if isT [w_raise] l then andThen (some (getK 3 l.tail)) fun x l1 => andThen (parseF f .unary l1) fun a l2 => some (.ok (.mk { hd0 15 (posT l) with exn := x } [a], l2))
    else if kindT l = 1 then some (.ok (.mk { hd0 1 (posT l) with n := numV (textT l) } [], l.tail))
    else if kindT l = 2 then some (.ok (.mk { hd0 2 (posT l) with name := textT l } [], l.tail))
    else andThen (some (getW s_open l)) fun _ l1 => andThen (parseF f .expr l1) fun a l2 =>
      if isT [s_comma] l2 then andThen (parseF f .expr l2.tail) fun b l3 => andThen (some (getW s_shut l3)) fun _ l4 => some (.ok (.mk (hd0 3 (posT l)) [a, b], l4))
      else andThen (some (getW s_shut l2)) fun _ l3 => some (.ok (a, l3))
theorem andThen_mono {α β : Type} {r r' : Option (Res α)} {k k' : α → List Tk → Option (Res β)} {x : Res β} (h : andThen r k = some x) (hr : ∀ y, r = some y → r' = some y) (hk : ∀ a l, k a l = some x → k' a l = some x) : andThen r' k' = some x := by
  cases r with
  | none => cases h
  | some y =>
    rw [hr y rfl]
    cases y with
    | error l => exact h
    | ok p => exact hk _ _ h
/-- More calls, the same. -/
theorem parseF_mono1 (f : Nat) : ∀ nt l x, parseF f nt l = some x → parseF (f + 1) nt l = some x := by
  induction f with
  | zero => intro nt l x h; cases h
  | succ f ih =>
    intro nt l x h
    cases nt with
    | expr =>
      unfold parseF at h ⊢
      split
      · rename_i c; rw [if_pos c] at h
        refine andThen_mono h (fun _ h => h) fun _ _ h => andThen_mono h (fun _ h => h) fun _ _ h => andThen_mono h (ih _ _) fun _ _ h => andThen_mono h (fun _ h => h) fun _ _ h => andThen_mono h (ih _ _) fun _ _ h => h
      rename_i c; rw [if_neg c] at h
      split
      · rename_i c; rw [if_pos c] at h
        refine andThen_mono h (fun _ h => h) fun _ _ h => andThen_mono h (fun _ h => h) fun _ _ h => andThen_mono h (fun _ h => h) fun _ _ h => andThen_mono h (ih _ _) fun _ _ h => andThen_mono h (fun _ h => h) fun _ _ h => andThen_mono h (ih _ _) fun _ _ h => h
      rename_i c; rw [if_neg c] at h
      split
      · rename_i c; rw [if_pos c] at h
        refine andThen_mono h (fun _ h => h) fun _ _ h => andThen_mono h (fun _ h => h) fun _ _ h => andThen_mono h (ih _ _) fun _ _ h => h
      rename_i c; rw [if_neg c] at h
      split
      · rename_i c; rw [if_pos c] at h
        refine andThen_mono h (ih _ _) fun _ _ h => andThen_mono h (fun _ h => h) fun _ _ h => andThen_mono h (ih _ _) fun _ _ h => andThen_mono h (fun _ h => h) fun _ _ h => andThen_mono h (ih _ _) fun _ _ h => h
      rename_i c; rw [if_neg c] at h
      split
      · rename_i c; rw [if_pos c] at h
        refine andThen_mono h (ih _ _) fun _ _ h => andThen_mono h (fun _ h => h) fun _ _ h => andThen_mono h (fun _ h => h) fun _ _ h => andThen_mono h (fun _ h => h) fun _ _ h => andThen_mono h (fun _ h => h) fun _ _ h => andThen_mono h (ih _ _) fun _ _ h => h
      rename_i c; rw [if_neg c] at h
      exact ih _ _ _ h
    | lvl k =>
      unfold parseF at h ⊢
      split
      · rename_i c; rw [if_pos c] at h
        refine andThen_mono h (ih _ _) fun a l1 h => ?_
        split
        · rename_i c; rw [if_pos c] at h
          exact andThen_mono h (ih _ _) fun _ _ h => h
        · rename_i c; rw [if_neg c] at h; exact h
      rename_i c; rw [if_neg c] at h
      split
      · rename_i c; rw [if_pos c] at h
        exact andThen_mono h (ih _ _) fun _ _ h => ih _ _ _ h
      · rename_i c; rw [if_neg c] at h
        exact andThen_mono h (ih _ _) fun _ _ h => ih _ _ _ h
    | more k a =>
      unfold parseF at h ⊢
      split
      · rename_i c; rw [if_pos c] at h
        exact andThen_mono h (ih _ _) fun _ _ h => ih _ _ _ h
      · rename_i c; rw [if_neg c] at h; exact h
    | args a =>
      unfold parseF at h ⊢
      split
      · rename_i c; rw [if_pos c] at h
        exact andThen_mono h (ih _ _) fun _ _ h => ih _ _ _ h
      · rename_i c; rw [if_neg c] at h; exact h
    | unary =>
      unfold parseF at h ⊢
      split
      · rename_i c; rw [if_pos c] at h
        exact andThen_mono h (ih _ _) fun _ _ h => h
      rename_i c; rw [if_neg c] at h
      split
      · rename_i c; rw [if_pos c] at h
        exact andThen_mono h (fun _ h => h) fun _ _ h => andThen_mono h (ih _ _) fun _ _ h => h
      rename_i c; rw [if_neg c] at h
      split
      · rename_i c; rw [if_pos c] at h; exact h
      rename_i c; rw [if_neg c] at h
      split
      · rename_i c; rw [if_pos c] at h; exact h
      rename_i c; rw [if_neg c] at h
      refine andThen_mono h (fun _ h => h) fun _ _ h => andThen_mono h (ih _ _) fun _ _ h => ?_
      split
      · rename_i c; rw [if_pos c] at h
        exact andThen_mono h (ih _ _) fun _ _ h => h
      · rename_i c; rw [if_neg c] at h; exact h
theorem parseF_mono {f g : Nat} (h : f ≤ g) {nt l x} (e : parseF f nt l = some x) : parseF g nt l = some x := by
  induction h with
  | refl => exact e
  | step _ ih => exact parseF_mono1 _ _ _ _ ih
/-- Tokens of a text: the last one is its end, and no other. -/
def Ended : List Tk → Prop
  | [] => False
  | [t] => t.k = 6
  | t :: u :: l => t.k ≠ 6 ∧ Ended (u :: l)
theorem Ended.tail {l : List Tk} (h : Ended l) (hk : kindT l ≠ 6) : Ended l.tail ∧ l.tail.length + 1 = l.length := by
  match l, h with
  | [t], h => exact (hk h).elim
  | t :: u :: l, h => exact ⟨h.2, rfl⟩
theorem isT_kind {xs : List ByteArray} {l : List Tk} (h : isT xs l = true) : kindT l ≠ 6 := by
  cases l with
  | nil => cases h
  | cons t l =>
    simp only [isT, Bool.and_eq_true, Bool.or_eq_true, beq_iff_eq] at h
    intro e
    simp only [kindT] at e
    omega
theorem Ended.is_ {xs : List ByteArray} {l : List Tk} (h : Ended l) (hi : isT xs l = true) : Ended l.tail ∧ l.tail.length + 1 = l.length := h.tail (isT_kind hi)
/-- What is behind: tokens of a text, and not more. -/
def Behind {α : Type} (n : Nat) : Res α → Prop
  | .error l => Ended l ∧ l.length ≤ n
  | .ok (_, l) => Ended l ∧ l.length < n
theorem getK_behind {k : Int} {l : List Tk} (h : Ended l) (hk : k ≠ 6) : Behind l.length (getK k l) := by
  cases l with
  | nil => cases h
  | cons t l =>
    simp only [getK]
    split
    · rename_i e
      have := h.tail (by simp only [kindT]; omega)
      exact ⟨this.1, by simp⟩
    · exact ⟨h, Nat.le_refl _⟩
theorem getW_behind {x : ByteArray} {l : List Tk} (h : Ended l) : Behind l.length (getW x l) := by
  unfold getW
  split
  · rename_i e
    have := h.is_ e
    exact ⟨this.1, by omega⟩
  · exact ⟨h, Nat.le_refl _⟩
/-- As many tokens at most. -/
def BehindLe {α : Type} (n : Nat) : Res α → Prop
  | .error l => Ended l ∧ l.length ≤ n
  | .ok (_, l) => Ended l ∧ l.length ≤ n
/-- One behind the other is told, and is behind. -/
theorem andThen_told {α β : Type} {n m : Nat} {r : Option (Res α)} {k : α → List Tk → Option (Res β)} {B : Res β → Prop} (hr : ∃ x, r = some x ∧ Behind m x) (hm : m ≤ n) (hB : ∀ l, Ended l → l.length ≤ n → B (.error l)) (h : ∀ a l, Ended l → l.length < m → ∃ x, k a l = some x ∧ B x) : ∃ x, andThen r k = some x ∧ B x := by
  obtain ⟨x, rfl, hx⟩ := hr
  cases x with
  | error l => exact ⟨_, rfl, hB l hx.1 (Nat.le_trans hx.2 hm)⟩
  | ok p =>
    obtain ⟨a, l⟩ := p
    exact h a l hx.1 hx.2
/-- How many calls a part may ask for, for the same tokens. -/
def NT.rk : NT → Nat
  | .expr => 7
  | .lvl k => (4 - k) + 2
  | .more _ _ => 1
  | .args _ => 2
  | .unary => 1
def NT.Told (n : Nat) : NT → Res Tm → Prop
  | .more _ _ => BehindLe n
  | .args _ => BehindLe n
  | _ => Behind n
theorem behind_err {n : Nat} : ∀ l, Ended l → l.length ≤ n → Behind n (.error l : Res Tm) := fun _ h k => ⟨h, k⟩
theorem behindLe_err {n : Nat} : ∀ l, Ended l → l.length ≤ n → BehindLe n (.error l : Res Tm) := fun _ h k => ⟨h, k⟩
set_option maxHeartbeats 1000000 in
/-- From the tokens of a text a term is told, or where it can't be. -/
theorem parseF_total (f : Nat) : ∀ nt l, Ended l → 8 * l.length + nt.rk ≤ f → ∃ x, parseF f nt l = some x ∧ nt.Told l.length x := by
  induction f with
  | zero =>
    intro nt l hl hf
    cases l with
    | nil => cases hl
    | cons t l => simp at hf
  | succ f ih =>
    intro nt l hl hf
    have E : ∀ l', Ended l' → l'.length < l.length → ∃ x, parseF f .expr l' = some x ∧ Behind l'.length x := fun l' h' hn => ih .expr l' h' (by simp only [NT.rk]; omega)
    have U : ∀ l', Ended l' → l'.length < l.length → ∃ x, parseF f .unary l' = some x ∧ Behind l'.length x := fun l' h' hn => ih .unary l' h' (by simp only [NT.rk]; omega)
    have G : ∀ (k : Int) l', k ≠ 6 → Ended l' → ∃ x, some (getK k l') = some x ∧ Behind l'.length x := fun k l' hk h' => ⟨_, rfl, getK_behind h' hk⟩
    have W : ∀ (x : ByteArray) l', Ended l' → ∃ y, some (getW x l') = some y ∧ Behind l'.length y := fun x l' h' => ⟨_, rfl, getW_behind h'⟩
    cases nt with
    | expr =>
      unfold parseF
      simp only [NT.Told]
      split
      · rename_i c
        obtain ⟨ht, hn⟩ := hl.is_ c
        refine andThen_told (G 2 _ (by omega) ht) (by omega) behind_err fun x l1 h1 n1 => andThen_told (W _ _ h1) (by omega) behind_err fun _ l2 h2 n2 => andThen_told (E _ h2 (by omega)) (by omega) behind_err fun _ l3 h3 n3 => andThen_told (W _ _ h3) (by omega) behind_err fun _ l4 h4 n4 => andThen_told (E _ h4 (by omega)) (by omega) behind_err fun _ l5 h5 n5 => ⟨_, rfl, h5, by omega⟩
      split
      · rename_i c
        obtain ⟨ht, hn⟩ := hl.is_ c
        refine andThen_told (G 2 _ (by omega) ht) (by omega) behind_err fun x l1 h1 n1 => andThen_told (G 2 _ (by omega) h1) (by omega) behind_err fun x l1 h1 n1 => andThen_told (W _ _ h1) (by omega) behind_err fun _ l2 h2 n2 => andThen_told (E _ h2 (by omega)) (by omega) behind_err fun _ l3 h3 n3 => andThen_told (W _ _ h3) (by omega) behind_err fun _ l4 h4 n4 => andThen_told (E _ h4 (by omega)) (by omega) behind_err fun _ l5 h5 n5 => ⟨_, rfl, h5, by omega⟩
      split
      · rename_i c
        obtain ⟨ht, hn⟩ := hl.is_ c
        refine andThen_told (G 2 _ (by omega) ht) (by omega) behind_err fun x l1 h1 n1 => andThen_told (W _ _ h1) (by omega) behind_err fun _ l2 h2 n2 => andThen_told (E _ h2 (by omega)) (by omega) behind_err fun _ l3 h3 n3 => ⟨_, rfl, h3, by omega⟩
      split
      · rename_i c
        obtain ⟨ht, hn⟩ := hl.is_ c
        refine andThen_told (E _ ht (by omega)) (by omega) behind_err fun _ l1 h1 n1 => andThen_told (W _ _ h1) (by omega) behind_err fun _ l2 h2 n2 => andThen_told (E _ h2 (by omega)) (by omega) behind_err fun _ l3 h3 n3 => andThen_told (W _ _ h3) (by omega) behind_err fun _ l4 h4 n4 => andThen_told (E _ h4 (by omega)) (by omega) behind_err fun _ l5 h5 n5 => ⟨_, rfl, h5, by omega⟩
      split
      · rename_i c
        obtain ⟨ht, hn⟩ := hl.is_ c
        refine andThen_told (E _ ht (by omega)) (by omega) behind_err fun _ l1 h1 n1 => andThen_told (W _ _ h1) (by omega) behind_err fun _ l2 h2 n2 => andThen_told (G 3 _ (by omega) h2) (by omega) behind_err fun _ l3 h3 n3 => andThen_told (G 2 _ (by omega) h3) (by omega) behind_err fun _ l3 h3 n3 => andThen_told (W _ _ h3) (by omega) behind_err fun _ l4 h4 n4 => andThen_told (E _ h4 (by omega)) (by omega) behind_err fun _ l5 h5 n5 => ⟨_, rfl, h5, by omega⟩
      exact ih (.lvl 0) l hl (by simp only [NT.rk] at hf ⊢; omega)
    | lvl k =>
      unfold parseF
      simp only [NT.Told]
      split
      · rename_i c
        refine andThen_told (ih (.lvl (k + 1)) l hl (by simp only [NT.rk] at hf ⊢; omega)) (by omega) behind_err fun a l1 h1 n1 => ?_
        split
        · rename_i c
          obtain ⟨ht, hn⟩ := h1.is_ c
          exact andThen_told (ih (.lvl (k + 1)) l1.tail ht (by simp only [NT.rk] at hf ⊢; omega)) (by omega) behind_err fun b l2 h2 n2 => ⟨_, rfl, h2, by omega⟩
        · exact ⟨_, rfl, h1, n1⟩
      split
      · rename_i c
        refine andThen_told (ih (.lvl (k + 1)) l hl (by simp only [NT.rk] at hf ⊢; omega)) (by omega) behind_err fun a l1 h1 n1 => ?_
        obtain ⟨x, e, hx⟩ := ih (.more k a) l1 h1 (by simp only [NT.rk] at hf ⊢; omega)
        refine ⟨x, e, ?_⟩
        cases x with
        | error l2 => exact ⟨hx.1, by have := hx.2; omega⟩
        | ok p => exact ⟨hx.1, by have := hx.2; omega⟩
      · rename_i c
        refine andThen_told (ih .unary l hl (by simp only [NT.rk] at hf ⊢; omega)) (by omega) behind_err fun a l1 h1 n1 => ?_
        obtain ⟨x, e, hx⟩ := ih (.args a) l1 h1 (by simp only [NT.rk] at hf ⊢; omega)
        refine ⟨x, e, ?_⟩
        cases x with
        | error l2 => exact ⟨hx.1, by have := hx.2; omega⟩
        | ok p => exact ⟨hx.1, by have := hx.2; omega⟩
    | more k a =>
      unfold parseF
      simp only [NT.Told]
      split
      · rename_i c
        obtain ⟨ht, hn⟩ := hl.is_ c
        refine andThen_told (ih (.lvl (k + 1)) l.tail ht (by simp only [NT.rk] at hf ⊢; omega)) (by omega) behindLe_err fun b l1 h1 n1 => ?_
        obtain ⟨x, e, hx⟩ := ih (.more k (putT (textT l) a b)) l1 h1 (by simp only [NT.rk] at hf ⊢; omega)
        refine ⟨x, e, ?_⟩
        cases x with
        | error l2 => exact ⟨hx.1, by have := hx.2; omega⟩
        | ok p => exact ⟨hx.1, by have := hx.2; omega⟩
      · exact ⟨_, rfl, hl, Nat.le_refl _⟩
    | args a =>
      unfold parseF
      simp only [NT.Told]
      split
      · rename_i c
        refine andThen_told (ih .unary l hl (by simp only [NT.rk] at hf ⊢; omega)) (by omega) behindLe_err fun b l1 h1 n1 => ?_
        obtain ⟨x, e, hx⟩ := ih (.args (.mk (hd0 10 a.head.pos) [a, b])) l1 h1 (by simp only [NT.rk] at hf ⊢; omega)
        refine ⟨x, e, ?_⟩
        cases x with
        | error l2 => exact ⟨hx.1, by have := hx.2; omega⟩
        | ok p => exact ⟨hx.1, by have := hx.2; omega⟩
      · exact ⟨_, rfl, hl, Nat.le_refl _⟩
    | unary =>
      unfold parseF
      simp only [NT.Told]
      split
      · rename_i c
        obtain ⟨ht, hn⟩ := hl.is_ c
        exact andThen_told (U _ ht (by omega)) (by omega) behind_err fun _ l1 h1 n1 => ⟨_, rfl, h1, by omega⟩
      split
      · rename_i c
        obtain ⟨ht, hn⟩ := hl.is_ c
        exact andThen_told (G 3 _ (by omega) ht) (by omega) behind_err fun _ l1 h1 n1 => andThen_told (U _ h1 (by omega)) (by omega) behind_err fun _ l2 h2 n2 => ⟨_, rfl, h2, by omega⟩
      split
      · rename_i c
        obtain ⟨ht, hn⟩ := hl.tail (by omega)
        exact ⟨_, rfl, ht, by omega⟩
      split
      · rename_i c
        obtain ⟨ht, hn⟩ := hl.tail (by omega)
        exact ⟨_, rfl, ht, by omega⟩
      refine andThen_told (W _ _ hl) (by omega) behind_err fun _ l1 h1 n1 => andThen_told (E _ h1 (by omega)) (by omega) behind_err fun _ l2 h2 n2 => ?_
      split
      · rename_i c
        obtain ⟨ht, hn⟩ := h2.is_ c
        exact andThen_told (E _ ht (by omega)) (by omega) behind_err fun _ l3 h3 n3 => andThen_told (W _ _ h3) (by omega) behind_err fun _ l4 h4 n4 => ⟨_, rfl, h4, by omega⟩
      · exact andThen_told (W _ _ h2) (by omega) behind_err fun _ l3 h3 n3 => ⟨_, rfl, h3, by omega⟩
/-- The term of the front of a text's tokens. -/
def parseL (nt : NT) (l : List Tk) : Res Tm := (parseF (8 * l.length + nt.rk) nt l).getD (.error l)
theorem parseL_eq {nt : NT} {l : List Tk} {f : Nat} {x : Res Tm} (hl : Ended l) (h : parseF f nt l = some x) : parseL nt l = x := by
  obtain ⟨y, e, -⟩ := parseF_total _ nt l hl (Nat.le_refl _)
  have e1 := parseF_mono (Nat.le_max_left f (8 * l.length + nt.rk)) h
  have e2 := parseF_mono (Nat.le_max_right f (8 * l.length + nt.rk)) e
  rw [e1] at e2
  unfold parseL
  rw [e]
  cases e2
  rfl
theorem parseL_some {nt : NT} {l : List Tk} (hl : Ended l) : ∃ f, parseF f nt l = some (parseL nt l) ∧ nt.Told l.length (parseL nt l) := by
  obtain ⟨y, e, h⟩ := parseF_total _ nt l hl (Nat.le_refl _)
  rw [parseL_eq hl e]
  exact ⟨_, e, h⟩
end Go.Proofs.YtaioeailgknfjaaGreatDoor

/- What comes of tokens, in plain Lean: its nodes may be, each begins at a token, and there are not too many. What is left behind a part of the grammar ends what was there, in plain Lean. A part of the grammar goes the same way through tokens that are alike but for places, and that are followed by something that ends it. Brackets, and what stands between signs, in plain Lean. Two operands with a sign between them, or none, in plain Lean. -/
namespace Go.Proofs.YtaioeailgknfjaaGreatDoor
open Go

theorem andThen_inv {α β : Type} {r : Option (Res α)} {k : α → List Tk → Option (Res β)} {y : β} {l : List Tk} (h : andThen r k = some (.ok (y, l))) : ∃ a l1, r = some (.ok (a, l1)) ∧ k a l1 = some (.ok (y, l)) := by
  cases r with
  | none => cases h
  | some x =>
    cases x with
    | error l => cases h
    | ok p => exact ⟨p.1, p.2, rfl, h⟩
theorem getK_inv {k : Int} {l l' : List Tk} {x : ByteArray} (h : some (getK k l) = some (.ok (x, l'))) : ∃ t, l = t :: l' ∧ t.k = k ∧ x = t.text := by
  cases l with
  | nil => simp [getK] at h
  | cons t l =>
    simp only [getK] at h
    split at h
    · simp at h
      exact ⟨t, by rw [h.2], by assumption, h.1.symm⟩
    · simp at h
theorem getW_inv {x : ByteArray} {l l' : List Tk} {u : Unit} (h : some (getW x l) = some (.ok (u, l'))) : isT [x] l = true ∧ l' = l.tail := by
  unfold getW at h
  split at h
  · simp at h
    exact ⟨by assumption, h.symm⟩
  · simp at h
theorem isT_ne {xs : List ByteArray} {l : List Tk} (h : isT xs l = true) : ∃ t r, l = t :: r ∧ t.k ≠ 6 ∧ t.text ∈ xs ∧ (t.k = 4 ∨ t.k = 5) := by
  cases l with
  | nil => cases h
  | cons t r =>
    simp only [isT, Bool.and_eq_true, Bool.or_eq_true, beq_iff_eq] at h
    exact ⟨t, r, rfl, by omega, (inB_iff _ _).1 h.2, h.1⟩
/-- A token as the cut makes it. -/
structure TkOk (t : Tk) : Prop where
  pos : 0 ≤ t.pos
  num : t.k = 1 → numB t.text = true
  name : t.k = 2 → isName t.text = true
  exn : t.k = 3 → isExn t.text = true
/-- All nodes may be, and begin at tokens. -/
def GoodT (L : List Tk) (t : Tm) : Prop := ∀ u, u ∈ t.all → u.node = true ∧ ∃ k, k ∈ L ∧ k.k ≠ 6 ∧ k.pos = u.head.pos
theorem Tm.self_all (t : Tm) : t ∈ t.all := by cases t; simp [Tm.all]
theorem Tm.mem_all {x : Hd} {l : List Tm} {u : Tm} : u ∈ (Tm.mk x l).all ↔ u = .mk x l ∨ ∃ t, t ∈ l ∧ u ∈ t.all := by
  simp only [Tm.all, List.mem_cons]
  refine or_congr Iff.rfl ?_
  induction l with
  | nil => simp [Tm.alls]
  | cons t l ih => simp [Tm.alls, ih]
theorem GoodT.mk_ {L : List Tk} {x : Hd} {l : List Tm} (hn : (Tm.mk x l).node = true) (hp : ∃ k, k ∈ L ∧ k.k ≠ 6 ∧ k.pos = x.pos) (hk : ∀ t, t ∈ l → GoodT L t) : GoodT L (.mk x l) := by
  intro u hu
  rcases Tm.mem_all.1 hu with rfl | ⟨t, ht, hu⟩
  · exact ⟨hn, hp⟩
  · exact hk t ht u hu
theorem GoodT.at_ {L : List Tk} {t : Tm} (h : GoodT L t) : ∃ k, k ∈ L ∧ k.k ≠ 6 ∧ k.pos = t.head.pos := (h t t.self_all).2
theorem numV_bound (s : ByteArray) : 0 ≤ numV s ∧ numV s ≤ 2147483647 := by
  unfold numV
  by_cases h : okN s.data.toList = true
  · rw [if_pos h]
    unfold okN at h
    simp only [Bool.and_eq_true, decide_eq_true_eq] at h
    omega
  · rw [if_neg h]; omega
theorem empty_list0 : ByteArray.empty.toList = [] := by rw [ByteArray.toList_eq]; rfl
theorem node_simple (k pos : Int) (l : List Tm) (hp : 0 ≤ pos) (hk : karity k = (l.length : Int)) (h9 : k ≠ 9) (h1 : (hd0 k pos).hasName = false) (h2 : (hd0 k pos).hasArg = false) (h3 : (hd0 k pos).hasExn = false) : (Tm.mk (hd0 k pos) l).node = true := by
  simp only [Tm.node, Tm.nums, h1, h2, h3]
  simp [hd0, fitB, hk, hp, h9, empty_list0]
/-- What is so of parts that go on. -/
def NT.Pre (L : List Tk) : NT → Prop
  | .more _ a => GoodT L a
  | .args a => GoodT L a
  | _ => True
/-- How many nodes are there already; of the others one is free. -/
def NT.size0 : NT → Nat
  | .more _ a => a.size + 1
  | .args a => a.size + 1
  | _ => 0
structure Sound (L : List Tk) (nt : NT) (l : List Tk) (t : Tm) (l' : List Tk) : Prop where
  sub : ∀ x, x ∈ l' → x ∈ L
  good : GoodT L t
  few : t.size + 1 + 2 * l'.length ≤ 2 * l.length + nt.size0
theorem cons_mem {L l : List Tk} {t : Tk} (h : ∀ x, x ∈ t :: l → x ∈ L) : ∀ x, x ∈ l → x ∈ L := fun x hx => h x (by simp [hx])
theorem opOf_bound (x : ByteArray) : 0 ≤ opOf x ∧ opOf x ≤ 5 := by unfold opOf; repeat' split <;> try omega
theorem opOf_sign {k : Nat} (hk : 1 ≤ k) {x : ByteArray} (h : x ∈ signsL k) : x ≠ s_set ∧ 1 ≤ opOf x := by
  have key : ∀ y, y ∈ [s_less, s_eq, s_plus, s_minus, s_star] → y ≠ s_set ∧ 1 ≤ opOf y := by
    intro y hy
    simp only [List.mem_cons, List.not_mem_nil, or_false] at hy
    rcases hy with rfl | rfl | rfl | rfl | rfl <;> decide +kernel
  refine key x ?_
  match k, hk with
  | 1, _ => simp only [signsL, List.mem_cons, List.not_mem_nil, or_false] at h ⊢; rcases h with h | h <;> simp [h]
  | 2, _ => simp only [signsL, List.mem_cons, List.not_mem_nil, or_false] at h ⊢; rcases h with h | h <;> simp [h]
  | k + 3, _ => simp only [signsL, List.mem_cons, List.not_mem_nil, or_false] at h ⊢; simp [h]
theorem preK_bound (x : ByteArray) : preK x = 4 ∨ preK x = 5 ∨ preK x = 6 ∨ preK x = 7 := by
  unfold preK
  split
  · exact .inl rfl
  split
  · exact .inr (.inl rfl)
  split
  · exact .inr (.inr (.inl rfl))
  · exact .inr (.inr (.inr rfl))
theorem putT_good {L : List Tk} {x : ByteArray} {a b : Tm} (ha : GoodT L a) (hb : GoodT L b) (hp : 0 ≤ a.head.pos) (hx : x = s_set ∨ 1 ≤ opOf x) : GoodT L (putT x a b) := by
  unfold putT
  obtain hbd := opOf_bound x
  split
  · refine GoodT.mk_ (node_simple 8 _ _ hp rfl (by omega) rfl rfl rfl) ha.at_ ?_
    intro t ht
    simp only [List.mem_cons, List.not_mem_nil, or_false] at ht
    rcases ht with rfl | rfl <;> assumption
  · rename_i hn
    have h1 : 1 ≤ opOf x := by rcases hx with hx | hx; exact (hn hx).elim; exact hx
    refine GoodT.mk_ ?_ ha.at_ ?_
    · unfold Tm.node Tm.nums
      simp [hd0, fitB, karity, hp, Hd.hasName, Hd.hasArg, Hd.hasExn, empty_list0]
      omega
    · intro t ht
      simp only [List.mem_cons, List.not_mem_nil, or_false] at ht
      rcases ht with rfl | rfl <;> assumption
theorem putT_size (x : ByteArray) (a b : Tm) : (putT x a b).size = 1 + a.size + b.size := by
  unfold putT
  split <;> simp [Tm.size, Tm.sizes] <;> omega
theorem GoodT.pos {L : List Tk} (hL : ∀ x, x ∈ L → TkOk x) {t : Tm} (h : GoodT L t) : 0 ≤ t.head.pos := by
  obtain ⟨k, hk, _, e⟩ := h.at_
  rw [← e]
  exact (hL k hk).pos
theorem mem1 {P : Tm → Prop} {a : Tm} (ha : P a) : ∀ t, t ∈ [a] → P t := by intro t ht; simp at ht; subst ht; exact ha
theorem mem2 {P : Tm → Prop} {a b : Tm} (ha : P a) (hb : P b) : ∀ t, t ∈ [a, b] → P t := by intro t ht; simp at ht; rcases ht with rfl | rfl <;> assumption
theorem mem3 {P : Tm → Prop} {a b c : Tm} (ha : P a) (hb : P b) (hc : P c) : ∀ t, t ∈ [a, b, c] → P t := by intro t ht; simp at ht; rcases ht with rfl | rfl | rfl <;> assumption
set_option maxHeartbeats 1000000 in
/-- What comes of tokens is sound. -/
theorem parse_sound (L : List Tk) (hL : ∀ x, x ∈ L → TkOk x) (f : Nat) : ∀ nt l t l', (∀ x, x ∈ l → x ∈ L) → nt.Pre L → parseF f nt l = some (.ok (t, l')) → Sound L nt l t l' := by
  induction f with
  | zero => intro nt l t l' _ _ h; cases h
  | succ f ih =>
    intro nt l t l' hl hpre h
    have W : ∀ {xs : List ByteArray} {m : List Tk}, isT xs m = true → (∀ x, x ∈ m → x ∈ L) → 0 ≤ posT m ∧ (∃ k, k ∈ L ∧ k.k ≠ 6 ∧ k.pos = posT m) ∧ textT m ∈ xs ∧ (∀ x, x ∈ m.tail → x ∈ L) ∧ m.tail.length + 1 = m.length := by
      intro xs m hi hm
      obtain ⟨t, r, rfl, hk, hx, -⟩ := isT_ne hi
      exact ⟨(hL t (hm t (by simp))).pos, ⟨t, hm t (by simp), hk, rfl⟩, hx, cons_mem hm, rfl⟩
    have G : ∀ {k : Int} {m m' : List Tk} {x : ByteArray}, some (getK k m) = some (.ok (x, m')) → (∀ x, x ∈ m → x ∈ L) → (∀ x, x ∈ m' → x ∈ L) ∧ m'.length + 1 = m.length ∧ (k = 2 → isName x = true) ∧ (k = 3 → isExn x = true) := by
      intro k m m' x hg hm
      obtain ⟨t, rfl, hk, rfl⟩ := getK_inv hg
      have := hL t (hm t (by simp))
      exact ⟨cons_mem hm, rfl, fun h => this.name (by omega), fun h => this.exn (by omega)⟩
    have V : ∀ {y : ByteArray} {m m' : List Tk} {u : Unit}, some (getW y m) = some (.ok (u, m')) → (∀ x, x ∈ m → x ∈ L) → (∀ x, x ∈ m' → x ∈ L) ∧ m'.length + 1 = m.length := by
      intro y m m' u hg hm
      obtain ⟨hi, rfl⟩ := getW_inv hg
      have := W hi hm
      exact ⟨this.2.2.2.1, this.2.2.2.2⟩
    cases nt with
    | expr =>
      unfold parseF at h
      split at h
      · rename_i c
        obtain ⟨p0, pk, -, m0, n0⟩ := W c hl
        obtain ⟨x, l1, e1, h⟩ := andThen_inv h
        obtain ⟨m1, n1, hx, -⟩ := G e1 m0
        obtain ⟨_, l2, e2, h⟩ := andThen_inv h
        obtain ⟨m2, n2⟩ := V e2 m1
        obtain ⟨a, l3, e3, h⟩ := andThen_inv h
        obtain ⟨m3, ga, n3⟩ := ih _ _ _ _ m2 (by exact True.intro) e3
        obtain ⟨_, l4, e4, h⟩ := andThen_inv h
        obtain ⟨m4, n4⟩ := V e4 m3
        obtain ⟨b, l5, e5, h⟩ := andThen_inv h
        obtain ⟨m5, gb, n5⟩ := ih _ _ _ _ m4 (by exact True.intro) e5
        cases h
        refine ⟨m5, GoodT.mk_ ?_ pk (mem2 ga gb), ?_⟩
        · unfold Tm.node Tm.nums
          simp [hd0, fitB, karity, p0, Hd.hasName, Hd.hasArg, Hd.hasExn, empty_list0, hx rfl]
        · simp only [Tm.size, Tm.sizes, NT.size0] at *
          omega
      split at h
      · rename_i c
        obtain ⟨p0, pk, -, m0, n0⟩ := W c hl
        obtain ⟨x, l1, e1, h⟩ := andThen_inv h
        obtain ⟨m1, n1, hx, -⟩ := G e1 m0
        obtain ⟨y, l1', e1', h⟩ := andThen_inv h
        obtain ⟨m1', n1', hy, -⟩ := G e1' m1
        obtain ⟨_, l2, e2, h⟩ := andThen_inv h
        obtain ⟨m2, n2⟩ := V e2 m1'
        obtain ⟨a, l3, e3, h⟩ := andThen_inv h
        obtain ⟨m3, ga, n3⟩ := ih _ _ _ _ m2 (by exact True.intro) e3
        obtain ⟨_, l4, e4, h⟩ := andThen_inv h
        obtain ⟨m4, n4⟩ := V e4 m3
        obtain ⟨b, l5, e5, h⟩ := andThen_inv h
        obtain ⟨m5, gb, n5⟩ := ih _ _ _ _ m4 (by exact True.intro) e5
        cases h
        refine ⟨m5, GoodT.mk_ ?_ pk (mem2 ga gb), ?_⟩
        · unfold Tm.node Tm.nums
          simp [hd0, fitB, karity, p0, Hd.hasName, Hd.hasArg, Hd.hasExn, empty_list0, hx rfl, hy rfl]
        · simp only [Tm.size, Tm.sizes, NT.size0] at *
          omega
      split at h
      · rename_i c
        obtain ⟨p0, pk, -, m0, n0⟩ := W c hl
        obtain ⟨x, l1, e1, h⟩ := andThen_inv h
        obtain ⟨m1, n1, hx, -⟩ := G e1 m0
        obtain ⟨_, l2, e2, h⟩ := andThen_inv h
        obtain ⟨m2, n2⟩ := V e2 m1
        obtain ⟨a, l3, e3, h⟩ := andThen_inv h
        obtain ⟨m3, ga, n3⟩ := ih _ _ _ _ m2 (by exact True.intro) e3
        cases h
        refine ⟨m3, GoodT.mk_ ?_ pk (mem1 ga), ?_⟩
        · unfold Tm.node Tm.nums
          simp [hd0, fitB, karity, p0, Hd.hasName, Hd.hasArg, Hd.hasExn, empty_list0, hx rfl]
        · simp only [Tm.size, Tm.sizes, NT.size0] at *
          omega
      split at h
      · rename_i c
        obtain ⟨p0, pk, -, m0, n0⟩ := W c hl
        obtain ⟨a, l3, e3, h⟩ := andThen_inv h
        obtain ⟨m3, ga, n3⟩ := ih _ _ _ _ m0 (by exact True.intro) e3
        obtain ⟨_, l4, e4, h⟩ := andThen_inv h
        obtain ⟨m4, n4⟩ := V e4 m3
        obtain ⟨b, l5, e5, h⟩ := andThen_inv h
        obtain ⟨m5, gb, n5⟩ := ih _ _ _ _ m4 (by exact True.intro) e5
        obtain ⟨_, l6, e6, h⟩ := andThen_inv h
        obtain ⟨m6, n6⟩ := V e6 m5
        obtain ⟨c', l7, e7, h⟩ := andThen_inv h
        obtain ⟨m7, gc, n7⟩ := ih _ _ _ _ m6 (by exact True.intro) e7
        cases h
        refine ⟨m7, GoodT.mk_ (node_simple 14 _ _ p0 rfl (by omega) rfl rfl rfl) pk (mem3 ga gb gc), ?_⟩
        simp only [Tm.size, Tm.sizes, NT.size0] at *
        omega
      split at h
      · rename_i c
        obtain ⟨p0, pk, -, m0, n0⟩ := W c hl
        obtain ⟨a, l3, e3, h⟩ := andThen_inv h
        obtain ⟨m3, ga, n3⟩ := ih _ _ _ _ m0 (by exact True.intro) e3
        obtain ⟨_, l4, e4, h⟩ := andThen_inv h
        obtain ⟨m4, n4⟩ := V e4 m3
        obtain ⟨x, l1, e1, h⟩ := andThen_inv h
        obtain ⟨m1, n1, -, hx⟩ := G e1 m4
        obtain ⟨y, l1', e1', h⟩ := andThen_inv h
        obtain ⟨m1', n1', hy, -⟩ := G e1' m1
        obtain ⟨_, l2, e2, h⟩ := andThen_inv h
        obtain ⟨m2, n2⟩ := V e2 m1'
        obtain ⟨b, l5, e5, h⟩ := andThen_inv h
        obtain ⟨m5, gb, n5⟩ := ih _ _ _ _ m2 (by exact True.intro) e5
        cases h
        refine ⟨m5, GoodT.mk_ ?_ pk (mem2 ga gb), ?_⟩
        · unfold Tm.node Tm.nums
          simp [hd0, fitB, karity, p0, Hd.hasName, Hd.hasArg, Hd.hasExn, empty_list0, hx rfl, hy rfl]
        · simp only [Tm.size, Tm.sizes, NT.size0] at *
          omega
      obtain ⟨a1, a2, a3⟩ := ih _ _ _ _ hl (by exact True.intro) h
      exact ⟨a1, a2, by simp only [NT.size0] at *; omega⟩
    | lvl k =>
      unfold parseF at h
      split at h
      · rename_i ck
        obtain ⟨a, l1, e1, h⟩ := andThen_inv h
        obtain ⟨m1, ga, n1⟩ := ih _ _ _ _ hl (by exact True.intro) e1
        split at h
        · rename_i c
          obtain ⟨p0, pk, hx, m0, n0⟩ := W c m1
          obtain ⟨b, l2, e2, h⟩ := andThen_inv h
          obtain ⟨m2, gb, n2⟩ := ih _ _ _ _ m0 (by exact True.intro) e2
          cases h
          refine ⟨m2, putT_good ga gb (ga.pos hL) ?_, ?_⟩
          · rcases Nat.eq_zero_or_pos k with rfl | hk
            · left; simpa [signsL] using hx
            · right; exact (opOf_sign hk hx).2
          · rw [putT_size]
            simp only [NT.size0] at *
            omega
        · cases h
          exact ⟨m1, ga, by simp only [NT.size0] at *; omega⟩
      split at h
      · obtain ⟨a, l1, e1, h⟩ := andThen_inv h
        obtain ⟨m1, ga, n1⟩ := ih _ _ _ _ hl (by exact True.intro) e1
        obtain ⟨m2, gb, n2⟩ := ih _ _ _ _ m1 (by exact ga) h
        exact ⟨m2, gb, by simp only [NT.size0] at *; omega⟩
      · obtain ⟨a, l1, e1, h⟩ := andThen_inv h
        obtain ⟨m1, ga, n1⟩ := ih _ _ _ _ hl (by exact True.intro) e1
        obtain ⟨m2, gb, n2⟩ := ih _ _ _ _ m1 (by exact ga) h
        exact ⟨m2, gb, by simp only [NT.size0] at *; omega⟩
    | more k a =>
      unfold parseF at h
      have ga : GoodT L a := hpre
      split at h
      · rename_i c
        obtain ⟨p0, pk, hx, m0, n0⟩ := W c hl
        obtain ⟨b, l1, e1, h⟩ := andThen_inv h
        obtain ⟨m1, gb, n1⟩ := ih _ _ _ _ m0 (by exact True.intro) e1
        have gp : GoodT L (putT (textT l) a b) := putT_good ga gb (ga.pos hL) (by
          rcases Nat.eq_zero_or_pos k with rfl | hk
          · left; simpa [signsL] using hx
          · right; exact (opOf_sign hk hx).2)
        obtain ⟨m2, gt, n2⟩ := ih _ _ _ _ m1 (by exact gp) h
        refine ⟨m2, gt, ?_⟩
        simp only [NT.size0, putT_size] at *
        omega
      · cases h
        exact ⟨hl, ga, by simp only [NT.size0]; omega⟩
    | args a =>
      unfold parseF at h
      have ga : GoodT L a := hpre
      split at h
      · obtain ⟨b, l1, e1, h⟩ := andThen_inv h
        obtain ⟨m1, gb, n1⟩ := ih _ _ _ _ hl (by exact True.intro) e1
        have gp : GoodT L (.mk (hd0 10 a.head.pos) [a, b]) := GoodT.mk_ (node_simple 10 _ _ (ga.pos hL) rfl (by omega) rfl rfl rfl) ga.at_ (mem2 ga gb)
        obtain ⟨m2, gt, n2⟩ := ih _ _ _ _ m1 (by exact gp) h
        refine ⟨m2, gt, ?_⟩
        simp only [NT.size0, Tm.size, Tm.sizes] at *
        omega
      · cases h
        exact ⟨hl, ga, by simp only [NT.size0]; omega⟩
    | unary =>
      unfold parseF at h
      split at h
      · rename_i c
        obtain ⟨p0, pk, hx, m0, n0⟩ := W c hl
        obtain ⟨a, l1, e1, h⟩ := andThen_inv h
        obtain ⟨m1, ga, n1⟩ := ih _ _ _ _ m0 (by exact True.intro) e1
        cases h
        have hk := preK_bound (textT l)
        refine ⟨m1, GoodT.mk_ (node_simple _ _ _ p0 ?_ (by omega) ?_ ?_ ?_) pk (mem1 ga), ?_⟩
        · rcases hk with hk | hk | hk | hk <;> rw [hk] <;> rfl
        · rcases hk with hk | hk | hk | hk <;> rw [hk] <;> rfl
        · rcases hk with hk | hk | hk | hk <;> rw [hk] <;> rfl
        · rcases hk with hk | hk | hk | hk <;> rw [hk] <;> rfl
        · simp only [Tm.size, Tm.sizes, NT.size0] at *
          omega
      split at h
      · rename_i c
        obtain ⟨p0, pk, -, m0, n0⟩ := W c hl
        obtain ⟨x, l1, e1, h⟩ := andThen_inv h
        obtain ⟨m1, n1, -, hx⟩ := G e1 m0
        obtain ⟨a, l2, e2, h⟩ := andThen_inv h
        obtain ⟨m2, ga, n2⟩ := ih _ _ _ _ m1 (by exact True.intro) e2
        cases h
        refine ⟨m2, GoodT.mk_ ?_ pk (mem1 ga), ?_⟩
        · unfold Tm.node Tm.nums
          simp [hd0, fitB, karity, p0, Hd.hasName, Hd.hasArg, Hd.hasExn, empty_list0, hx rfl]
        · simp only [Tm.size, Tm.sizes, NT.size0] at *
          omega
      split at h
      · rename_i c
        cases l with
        | nil => simp [kindT] at c
        | cons tk r =>
          cases h
          have ok := hL tk (hl tk (by simp))
          have hb := numV_bound tk.text
          refine ⟨cons_mem hl, GoodT.mk_ ?_ ⟨tk, hl tk (by simp), ?_, rfl⟩ (by simp), ?_⟩
          · have := ok.pos
            unfold Tm.node Tm.nums
            simp [hd0, fitB, karity, posT, textT, this, Hd.hasName, Hd.hasArg, Hd.hasExn, empty_list0, hb]
          · simp only [kindT] at c; omega
          · simp only [Tm.size, Tm.sizes, NT.size0, List.tail_cons, List.length_cons]; omega
      split at h
      · rename_i c
        cases l with
        | nil => simp [kindT] at c
        | cons tk r =>
          cases h
          have ok := hL tk (hl tk (by simp))
          refine ⟨cons_mem hl, GoodT.mk_ ?_ ⟨tk, hl tk (by simp), ?_, rfl⟩ (by simp), ?_⟩
          · have := ok.pos
            have hn := ok.name c
            unfold Tm.node Tm.nums
            simp [hd0, fitB, karity, posT, textT, this, Hd.hasName, Hd.hasArg, Hd.hasExn, empty_list0, hn]
          · simp only [kindT] at c; omega
          · simp only [Tm.size, Tm.sizes, NT.size0, List.tail_cons, List.length_cons]; omega
      have hne : l ≠ [] := by
        rintro rfl
        obtain ⟨_, l1, e1, h⟩ := andThen_inv h
        obtain ⟨hi, -⟩ := getW_inv e1
        cases hi
      obtain ⟨_, l1, e1, h⟩ := andThen_inv h
      obtain ⟨hi, rfl⟩ := getW_inv e1
      obtain ⟨p0, pk, -, m0, n0⟩ := W hi hl
      obtain ⟨a, l2, e2, h⟩ := andThen_inv h
      obtain ⟨m2, ga, n2⟩ := ih _ _ _ _ m0 (by exact True.intro) e2
      split at h
      · rename_i c
        obtain ⟨-, -, -, m3, n3⟩ := W c m2
        obtain ⟨b, l3, e3, h⟩ := andThen_inv h
        obtain ⟨m4, gb, n4⟩ := ih _ _ _ _ m3 (by exact True.intro) e3
        obtain ⟨_, l4, e4, h⟩ := andThen_inv h
        obtain ⟨m5, n5⟩ := V e4 m4
        cases h
        refine ⟨m5, GoodT.mk_ (node_simple 3 _ _ p0 rfl (by omega) rfl rfl rfl) pk (mem2 ga gb), ?_⟩
        simp only [Tm.size, Tm.sizes, NT.size0] at *
        omega
      · obtain ⟨_, l4, e4, h⟩ := andThen_inv h
        obtain ⟨m5, n5⟩ := V e4 m2
        cases h
        exact ⟨m5, ga, by simp only [NT.size0] at *; omega⟩
end Go.Proofs.YtaioeailgknfjaaGreatDoor
namespace Go.Proofs.YtaioeailgknfjaaGreatDoor
open Go

theorem getK_suffix {k : Int} {l l' : List Tk} {x : ByteArray} (h : some (getK k l) = some (.ok (x, l'))) : l' <:+ l := by
  obtain ⟨t, rfl, -, -⟩ := getK_inv h
  exact List.suffix_cons _ _
theorem getW_suffix {x : ByteArray} {l l' : List Tk} {u : Unit} (h : some (getW x l) = some (.ok (u, l'))) : l' <:+ l := by
  obtain ⟨-, rfl⟩ := getW_inv h
  exact List.tail_suffix l
theorem done_inv {α : Type} {a b : α} {l l' : List Tk} (h : (some (.ok (a, l)) : Option (Res α)) = some (.ok (b, l'))) : a = b ∧ l = l' := by
  simp at h
  exact h
theorem parseF_suffix (f : Nat) : ∀ nt l t l', parseF f nt l = some (.ok (t, l')) → l' <:+ l := by
  induction f with
  | zero => intro nt l t l' h; cases h
  | succ f ih =>
    intro nt l t l' h
    cases nt with
    | expr =>
      unfold parseF at h
      split at h
      · obtain ⟨_, _, q1, h⟩ := andThen_inv h
        obtain ⟨_, _, q2, h⟩ := andThen_inv h
        obtain ⟨_, _, q3, h⟩ := andThen_inv h
        obtain ⟨_, _, q4, h⟩ := andThen_inv h
        obtain ⟨_, _, q5, h⟩ := andThen_inv h
        obtain ⟨-, rfl⟩ := done_inv h
        exact (ih _ _ _ _ q5).trans ((getW_suffix q4).trans ((ih _ _ _ _ q3).trans ((getW_suffix q2).trans ((getK_suffix q1).trans (List.tail_suffix _)))))
      split at h
      · obtain ⟨_, _, q1, h⟩ := andThen_inv h
        obtain ⟨_, _, q1', h⟩ := andThen_inv h
        obtain ⟨_, _, q2, h⟩ := andThen_inv h
        obtain ⟨_, _, q3, h⟩ := andThen_inv h
        obtain ⟨_, _, q4, h⟩ := andThen_inv h
        obtain ⟨_, _, q5, h⟩ := andThen_inv h
        obtain ⟨-, rfl⟩ := done_inv h
        exact (ih _ _ _ _ q5).trans ((getW_suffix q4).trans ((ih _ _ _ _ q3).trans ((getW_suffix q2).trans ((getK_suffix q1').trans ((getK_suffix q1).trans (List.tail_suffix _))))))
      split at h
      · obtain ⟨_, _, q1, h⟩ := andThen_inv h
        obtain ⟨_, _, q2, h⟩ := andThen_inv h
        obtain ⟨_, _, q3, h⟩ := andThen_inv h
        obtain ⟨-, rfl⟩ := done_inv h
        exact (ih _ _ _ _ q3).trans ((getW_suffix q2).trans ((getK_suffix q1).trans (List.tail_suffix _)))
      split at h
      · obtain ⟨_, _, q1, h⟩ := andThen_inv h
        obtain ⟨_, _, q2, h⟩ := andThen_inv h
        obtain ⟨_, _, q3, h⟩ := andThen_inv h
        obtain ⟨_, _, q4, h⟩ := andThen_inv h
        obtain ⟨_, _, q5, h⟩ := andThen_inv h
        obtain ⟨-, rfl⟩ := done_inv h
        exact (ih _ _ _ _ q5).trans ((getW_suffix q4).trans ((ih _ _ _ _ q3).trans ((getW_suffix q2).trans ((ih _ _ _ _ q1).trans (List.tail_suffix _)))))
      split at h
      · obtain ⟨_, _, q1, h⟩ := andThen_inv h
        obtain ⟨_, _, q2, h⟩ := andThen_inv h
        obtain ⟨_, _, q3, h⟩ := andThen_inv h
        obtain ⟨_, _, q4, h⟩ := andThen_inv h
        obtain ⟨_, _, q5, h⟩ := andThen_inv h
        obtain ⟨_, _, q6, h⟩ := andThen_inv h
        obtain ⟨-, rfl⟩ := done_inv h
        exact (ih _ _ _ _ q6).trans ((getW_suffix q5).trans ((getK_suffix q4).trans ((getK_suffix q3).trans ((getW_suffix q2).trans ((ih _ _ _ _ q1).trans (List.tail_suffix _))))))
      exact ih _ _ _ _ h
    | lvl k =>
      unfold parseF at h
      split at h
      · obtain ⟨_, l1, q1, h⟩ := andThen_inv h
        split at h
        · obtain ⟨_, _, q2, h⟩ := andThen_inv h
          obtain ⟨-, rfl⟩ := done_inv h
          exact (ih _ _ _ _ q2).trans ((List.tail_suffix _).trans (ih _ _ _ _ q1))
        · obtain ⟨-, rfl⟩ := done_inv h
          exact ih _ _ _ _ q1
      split at h
      · obtain ⟨_, l1, q1, h⟩ := andThen_inv h
        exact (ih _ _ _ _ h).trans (ih _ _ _ _ q1)
      · obtain ⟨_, l1, q1, h⟩ := andThen_inv h
        exact (ih _ _ _ _ h).trans (ih _ _ _ _ q1)
    | more k a =>
      unfold parseF at h
      split at h
      · obtain ⟨_, l1, q1, h⟩ := andThen_inv h
        exact (ih _ _ _ _ h).trans ((ih _ _ _ _ q1).trans (List.tail_suffix _))
      · obtain ⟨-, rfl⟩ := done_inv h
        exact List.suffix_refl _
    | args a =>
      unfold parseF at h
      split at h
      · obtain ⟨_, l1, q1, h⟩ := andThen_inv h
        exact (ih _ _ _ _ h).trans (ih _ _ _ _ q1)
      · obtain ⟨-, rfl⟩ := done_inv h
        exact List.suffix_refl _
    | unary =>
      unfold parseF at h
      split at h
      · obtain ⟨_, l1, q1, h⟩ := andThen_inv h
        obtain ⟨-, rfl⟩ := done_inv h
        exact (ih _ _ _ _ q1).trans (List.tail_suffix _)
      split at h
      · obtain ⟨_, l1, q1, h⟩ := andThen_inv h
        obtain ⟨_, l1, q2, h⟩ := andThen_inv h
        obtain ⟨-, rfl⟩ := done_inv h
        exact (ih _ _ _ _ q2).trans ((getK_suffix q1).trans (List.tail_suffix _))
      split at h
      · obtain ⟨-, rfl⟩ := done_inv h
        exact List.tail_suffix _
      split at h
      · obtain ⟨-, rfl⟩ := done_inv h
        exact List.tail_suffix _
      obtain ⟨_, _, q1, h⟩ := andThen_inv h
      obtain ⟨_, _, q2, h⟩ := andThen_inv h
      split at h
      · obtain ⟨_, _, q3, h⟩ := andThen_inv h
        obtain ⟨_, _, q4, h⟩ := andThen_inv h
        obtain ⟨-, rfl⟩ := done_inv h
        exact (getW_suffix q4).trans ((ih _ _ _ _ q3).trans ((List.tail_suffix _).trans ((ih _ _ _ _ q2).trans (getW_suffix q1))))
      · obtain ⟨_, _, q3, h⟩ := andThen_inv h
        obtain ⟨-, rfl⟩ := done_inv h
        exact (getW_suffix q3).trans ((ih _ _ _ _ q2).trans (getW_suffix q1))
end Go.Proofs.YtaioeailgknfjaaGreatDoor
namespace Go.Proofs.YtaioeailgknfjaaGreatDoor
open Go

/-- Nothing goes on here. -/
structure Halts (r : List Tk) : Prop where
  isT : ∀ xs, inB xs s_shut = false → isT xs r = false
  one : kindT r ≠ 1
  two : kindT r ≠ 2
theorem Halts.begins {r : List Tk} (h : Halts r) : beginsT r = false := by
  unfold beginsT
  rw [h.isT _ (by decide +kernel)]
  simp [h.one, h.two]
/-- Alike but for places; with these rests. -/
inductive Al (r r' : List Tk) : List Tk → List Tk → Prop where
  | rest : Al r r' r r'
  | cons {t t' : Tk} {l l' : List Tk} : t.k = t'.k → t.text = t'.text → Al r r' l l' → Al r r' (t :: l) (t' :: l')
inductive AlN : NT → NT → Prop where
  | expr : AlN .expr .expr
  | lvl (k : Nat) : AlN (.lvl k) (.lvl k)
  | more (k : Nat) {a a' : Tm} : a.same a' = true → AlN (.more k a) (.more k a')
  | args {a a' : Tm} : a.same a' = true → AlN (.args a) (.args a')
  | unary : AlN .unary .unary
theorem suffix_short {r l : List Tk} (h : r <:+ l) : r.length ≤ l.length := h.length_le
theorem Al.no {r r' l l' : List Tk} (h : Al r r' l l') (hr' : Halts r') {xs : List ByteArray} (hx : inB xs s_shut = false) (c : ¬ isT xs l = true) : ¬ isT xs l' = true := by
  cases h with
  | rest => rw [hr'.isT xs hx]; simp
  | cons e1 e2 h => simpa [Go.Proofs.YtaioeailgknfjaaGreatDoor.isT, e1, e2] using c
theorem Al.yes {r r' l l' : List Tk} (h : Al r r' l l') (hne : r ≠ []) {xs : List ByteArray} (hs : r <:+ l.tail) (c : isT xs l = true) : isT xs l' = true ∧ textT l = textT l' ∧ Al r r' l.tail l'.tail := by
  cases h with
  | rest =>
    have := suffix_short hs
    cases r with
    | nil => exact absurd rfl hne
    | cons t r => simp only [List.tail_cons, List.length_cons] at this; omega
  | cons e1 e2 h => exact ⟨by simpa [Go.Proofs.YtaioeailgknfjaaGreatDoor.isT, e1, e2] using c, e2, h⟩
theorem Al.getK {r r' l l' m : List Tk} (h : Al r r' l l') (hne : r ≠ []) {k : Int} {x : ByteArray} (hs : r <:+ m) (q : some (getK k l) = some (.ok (x, m))) : ∃ m', some (Go.Proofs.YtaioeailgknfjaaGreatDoor.getK k l') = some (.ok (x, m')) ∧ Al r r' m m' := by
  obtain ⟨t, rfl, hk, rfl⟩ := getK_inv q
  cases h with
  | rest =>
    have := suffix_short hs
    simp only [List.length_cons] at this; omega
  | cons e1 e2 h => exact ⟨_, by simp [Go.Proofs.YtaioeailgknfjaaGreatDoor.getK, ← e1, ← e2, hk], h⟩
theorem Al.getW {r r' l l' m : List Tk} (h : Al r r' l l') (hne : r ≠ []) {x : ByteArray} {u : Unit} (hs : r <:+ m) (q : some (getW x l) = some (.ok (u, m))) : ∃ m', some (Go.Proofs.YtaioeailgknfjaaGreatDoor.getW x l') = some (.ok ((), m')) ∧ Al r r' m m' := by
  obtain ⟨c, rfl⟩ := getW_inv q
  obtain ⟨c', -, h'⟩ := h.yes hne hs c
  exact ⟨_, by unfold Go.Proofs.YtaioeailgknfjaaGreatDoor.getW; rw [if_pos c'], h'⟩
theorem Al.kind_yes {r r' l l' : List Tk} (h : Al r r' l l') (hne : r ≠ []) {k : Int} (hs : r <:+ l.tail) (c : kindT l = k) : kindT l' = k ∧ textT l = textT l' ∧ Al r r' l.tail l'.tail := by
  cases h with
  | rest =>
    have := suffix_short hs
    cases r with
    | nil => exact absurd rfl hne
    | cons t r => simp only [List.tail_cons, List.length_cons] at this; omega
  | cons e1 e2 h => exact ⟨by rw [← c]; exact e1.symm, e2, h⟩
theorem Al.kind_no {r r' l l' : List Tk} (h : Al r r' l l') {k : Int} (hr' : kindT r' ≠ k) (c : ¬ kindT l = k) : ¬ kindT l' = k := by
  cases h with
  | rest => exact hr'
  | cons e1 e2 h => intro e; exact c (by rw [← e]; exact e1)
theorem Al.begins {r r' l l' : List Tk} (h : Al r r' l l') (hr : Halts r) (hr' : Halts r') : beginsT l = beginsT l' := by
  cases h with
  | rest => rw [hr.begins, hr'.begins]
  | cons e1 e2 h => simp [beginsT, kindT, isT, e1, e2]
theorem same_mk (h h' : Hd) (l l' : List Tm) : (Tm.mk h l).same (.mk h' l') = (h.same h' && Tm.sames l l') := by rw [Tm.same]
theorem same1 {h h' : Hd} {a a' : Tm} (e : h.same h' = true) (h1 : a.same a' = true) : (Tm.mk h [a]).same (.mk h' [a']) = true := by
  rw [same_mk]
  simp [e, Tm.sames, h1]
theorem same2 {h h' : Hd} {a a' b b' : Tm} (e : h.same h' = true) (h1 : a.same a' = true) (h2 : b.same b' = true) : (Tm.mk h [a, b]).same (.mk h' [a', b']) = true := by
  rw [same_mk]
  simp [e, Tm.sames, h1, h2]
theorem same3 {h h' : Hd} {a a' b b' c c' : Tm} (e : h.same h' = true) (h1 : a.same a' = true) (h2 : b.same b' = true) (h3 : c.same c' = true) : (Tm.mk h [a, b, c]).same (.mk h' [a', b', c']) = true := by
  rw [same_mk]
  simp [e, Tm.sames, h1, h2, h3]
theorem same0 {h h' : Hd} (e : h.same h' = true) : (Tm.mk h []).same (.mk h' []) = true := by
  rw [same_mk]
  simp [e, Tm.sames]
theorem same_put {x : ByteArray} {a a' b b' : Tm} (h1 : a.same a' = true) (h2 : b.same b' = true) : (putT x a b).same (putT x a' b') = true := by
  unfold putT
  split
  · exact same2 (by simp [Hd.same, hd0]) h1 h2
  · exact same2 (by simp [Hd.same, hd0]) h1 h2
set_option maxHeartbeats 2000000 in
theorem parseF_local (r r' : List Tk) (hr : Halts r) (hr' : Halts r') (hne : r ≠ []) (f : Nat) : ∀ nt nt' l l' t m, AlN nt nt' → Al r r' l l' → parseF f nt l = some (.ok (t, m)) → r <:+ m → ∃ t' m', parseF f nt' l' = some (.ok (t', m')) ∧ t.same t' = true ∧ Al r r' m m' := by
  induction f with
  | zero => intro nt nt' l l' t m _ _ h; cases h
  | succ f ih =>
    intro nt nt' l l' t m hN hA h hs
    cases hN with
    | expr =>
      unfold parseF at h
      split at h
      · rename_i c
        obtain ⟨x, l1, q1, h⟩ := andThen_inv h
        obtain ⟨_, l2, q2, h⟩ := andThen_inv h
        obtain ⟨a, l3, q3, h⟩ := andThen_inv h
        obtain ⟨_, l4, q4, h⟩ := andThen_inv h
        obtain ⟨b, l5, q5, h⟩ := andThen_inv h
        obtain ⟨rfl, rfl⟩ := done_inv h
        have s4 := hs.trans (parseF_suffix _ _ _ _ _ q5)
        have s3 := s4.trans (getW_suffix q4)
        have s2 := s3.trans (parseF_suffix _ _ _ _ _ q3)
        have s1 := s2.trans (getW_suffix q2)
        have s0 := s1.trans (getK_suffix q1)
        obtain ⟨c', -, A0⟩ := hA.yes hne s0 c
        obtain ⟨m1, e1, A1⟩ := A0.getK hne s1 q1
        obtain ⟨m2, e2, A2⟩ := A1.getW hne s2 q2
        obtain ⟨a', m3, e3, g3, A3⟩ := ih _ _ _ _ _ _ .expr A2 q3 s3
        obtain ⟨m4, e4, A4⟩ := A3.getW hne s4 q4
        obtain ⟨b', m5, e5, g5, A5⟩ := ih _ _ _ _ _ _ .expr A4 q5 hs
        refine ⟨.mk { hd0 12 (posT l') with name := x } [a', b'], m5, ?_, same2 (by simp [Hd.same, hd0]) g3 g5, A5⟩
        unfold parseF
        rw [if_pos c', e1, andThen_ok, e2, andThen_ok, e3, andThen_ok, e4, andThen_ok, e5, andThen_ok]
      rename_i c1
      have d1 := hA.no hr' (by decide +kernel) c1
      split at h
      · rename_i c
        obtain ⟨x, l1, q1, h⟩ := andThen_inv h
        obtain ⟨y, k1, p1, h⟩ := andThen_inv h
        obtain ⟨_, l2, q2, h⟩ := andThen_inv h
        obtain ⟨a, l3, q3, h⟩ := andThen_inv h
        obtain ⟨_, l4, q4, h⟩ := andThen_inv h
        obtain ⟨b, l5, q5, h⟩ := andThen_inv h
        obtain ⟨rfl, rfl⟩ := done_inv h
        have s4 := hs.trans (parseF_suffix _ _ _ _ _ q5)
        have s3 := s4.trans (getW_suffix q4)
        have s2 := s3.trans (parseF_suffix _ _ _ _ _ q3)
        have z1 := s2.trans (getW_suffix q2)
        have s1 := z1.trans (getK_suffix p1)
        have s0 := s1.trans (getK_suffix q1)
        obtain ⟨c', -, A0⟩ := hA.yes hne s0 c
        obtain ⟨m1, e1, A1⟩ := A0.getK hne s1 q1
        obtain ⟨n1, i1, B1⟩ := A1.getK hne z1 p1
        obtain ⟨m2, e2, A2⟩ := B1.getW hne s2 q2
        obtain ⟨a', m3, e3, g3, A3⟩ := ih _ _ _ _ _ _ .expr A2 q3 s3
        obtain ⟨m4, e4, A4⟩ := A3.getW hne s4 q4
        obtain ⟨b', m5, e5, g5, A5⟩ := ih _ _ _ _ _ _ .expr A4 q5 hs
        refine ⟨.mk { hd0 13 (posT l') with name := x, arg := y } [a', b'], m5, ?_, same2 (by simp [Hd.same, hd0]) g3 g5, A5⟩
        unfold parseF
        rw [if_neg d1, if_pos c', e1, andThen_ok, i1, andThen_ok, e2, andThen_ok, e3, andThen_ok, e4, andThen_ok, e5, andThen_ok]
      rename_i c2
      have d2 := hA.no hr' (by decide +kernel) c2
      split at h
      · rename_i c
        obtain ⟨x, l1, q1, h⟩ := andThen_inv h
        obtain ⟨_, l2, q2, h⟩ := andThen_inv h
        obtain ⟨a, l3, q3, h⟩ := andThen_inv h
        obtain ⟨rfl, rfl⟩ := done_inv h
        have s2 := hs.trans (parseF_suffix _ _ _ _ _ q3)
        have s1 := s2.trans (getW_suffix q2)
        have s0 := s1.trans (getK_suffix q1)
        obtain ⟨c', -, A0⟩ := hA.yes hne s0 c
        obtain ⟨m1, e1, A1⟩ := A0.getK hne s1 q1
        obtain ⟨m2, e2, A2⟩ := A1.getW hne s2 q2
        obtain ⟨a', m3, e3, g3, A3⟩ := ih _ _ _ _ _ _ .expr A2 q3 hs
        refine ⟨.mk { hd0 11 (posT l') with arg := x } [a'], m3, ?_, same1 (by simp [Hd.same, hd0]) g3, A3⟩
        unfold parseF
        rw [if_neg d1, if_neg d2, if_pos c', e1, andThen_ok, e2, andThen_ok, e3, andThen_ok]
      rename_i c3
      have d3 := hA.no hr' (by decide +kernel) c3
      split at h
      · rename_i c
        obtain ⟨a, l1, q1, h⟩ := andThen_inv h
        obtain ⟨_, l2, q2, h⟩ := andThen_inv h
        obtain ⟨b, l3, q3, h⟩ := andThen_inv h
        obtain ⟨_, l4, q4, h⟩ := andThen_inv h
        obtain ⟨d, l5, q5, h⟩ := andThen_inv h
        obtain ⟨rfl, rfl⟩ := done_inv h
        have s4 := hs.trans (parseF_suffix _ _ _ _ _ q5)
        have s3 := s4.trans (getW_suffix q4)
        have s2 := s3.trans (parseF_suffix _ _ _ _ _ q3)
        have s1 := s2.trans (getW_suffix q2)
        have s0 := s1.trans (parseF_suffix _ _ _ _ _ q1)
        obtain ⟨c', -, A0⟩ := hA.yes hne s0 c
        obtain ⟨a', m1, e1, g1, A1⟩ := ih _ _ _ _ _ _ .expr A0 q1 s1
        obtain ⟨m2, e2, A2⟩ := A1.getW hne s2 q2
        obtain ⟨b', m3, e3, g3, A3⟩ := ih _ _ _ _ _ _ .expr A2 q3 s3
        obtain ⟨m4, e4, A4⟩ := A3.getW hne s4 q4
        obtain ⟨d', m5, e5, g5, A5⟩ := ih _ _ _ _ _ _ .expr A4 q5 hs
        refine ⟨.mk (hd0 14 (posT l')) [a', b', d'], m5, ?_, same3 (by simp [Hd.same, hd0]) g1 g3 g5, A5⟩
        unfold parseF
        rw [if_neg d1, if_neg d2, if_neg d3, if_pos c', e1, andThen_ok, e2, andThen_ok, e3, andThen_ok, e4, andThen_ok, e5, andThen_ok]
      rename_i c4
      have d4 := hA.no hr' (by decide +kernel) c4
      split at h
      · rename_i c
        obtain ⟨a, l1, q1, h⟩ := andThen_inv h
        obtain ⟨_, l2, q2, h⟩ := andThen_inv h
        obtain ⟨x, l3, q3, h⟩ := andThen_inv h
        obtain ⟨y, l4, q4, h⟩ := andThen_inv h
        obtain ⟨_, l5, q5, h⟩ := andThen_inv h
        obtain ⟨b, l6, q6, h⟩ := andThen_inv h
        obtain ⟨rfl, rfl⟩ := done_inv h
        have s5 := hs.trans (parseF_suffix _ _ _ _ _ q6)
        have s4 := s5.trans (getW_suffix q5)
        have s3 := s4.trans (getK_suffix q4)
        have s2 := s3.trans (getK_suffix q3)
        have s1 := s2.trans (getW_suffix q2)
        have s0 := s1.trans (parseF_suffix _ _ _ _ _ q1)
        obtain ⟨c', -, A0⟩ := hA.yes hne s0 c
        obtain ⟨a', m1, e1, g1, A1⟩ := ih _ _ _ _ _ _ .expr A0 q1 s1
        obtain ⟨m2, e2, A2⟩ := A1.getW hne s2 q2
        obtain ⟨m3, e3, A3⟩ := A2.getK hne s3 q3
        obtain ⟨m4, e4, A4⟩ := A3.getK hne s4 q4
        obtain ⟨m5, e5, A5⟩ := A4.getW hne s5 q5
        obtain ⟨b', m6, e6, g6, A6⟩ := ih _ _ _ _ _ _ .expr A5 q6 hs
        refine ⟨.mk { hd0 16 (posT l') with exn := x, arg := y } [a', b'], m6, ?_, same2 (by simp [Hd.same, hd0]) g1 g6, A6⟩
        unfold parseF
        rw [if_neg d1, if_neg d2, if_neg d3, if_neg d4, if_pos c', e1, andThen_ok, e2, andThen_ok, e3, andThen_ok, e4, andThen_ok, e5, andThen_ok, e6, andThen_ok]
      rename_i c5
      have d5 := hA.no hr' (by decide +kernel) c5
      obtain ⟨t', m', e, g, A⟩ := ih _ _ _ _ _ _ (.lvl 0) hA h hs
      refine ⟨t', m', ?_, g, A⟩
      unfold parseF
      rw [if_neg d1, if_neg d2, if_neg d3, if_neg d4, if_neg d5, e]
    | lvl k =>
      unfold parseF at h
      split at h
      · rename_i hk
        obtain ⟨a, l1, q1, h⟩ := andThen_inv h
        have hx : inB (signsL k) s_shut = false := by
          match k, hk with
          | 0, _ => decide +kernel
          | 1, _ => decide +kernel
        split at h
        · rename_i c
          obtain ⟨b, l2, q2, h⟩ := andThen_inv h
          obtain ⟨rfl, rfl⟩ := done_inv h
          have s1 := hs.trans (parseF_suffix _ _ _ _ _ q2)
          obtain ⟨a', m1, e1, g1, A1⟩ := ih _ _ _ _ _ _ (.lvl (k + 1)) hA q1 (s1.trans (List.tail_suffix _))
          obtain ⟨c', ex, A0⟩ := A1.yes hne s1 c
          obtain ⟨b', m2, e2, g2, A2⟩ := ih _ _ _ _ _ _ (.lvl (k + 1)) A0 q2 hs
          refine ⟨putT (textT m1) a' b', m2, ?_, by rw [ex]; exact same_put g1 g2, A2⟩
          unfold parseF
          rw [if_pos hk, e1, andThen_ok, if_pos c', e2, andThen_ok]
        · rename_i c
          obtain ⟨rfl, rfl⟩ := done_inv h
          obtain ⟨a', m1, e1, g1, A1⟩ := ih _ _ _ _ _ _ (.lvl (k + 1)) hA q1 hs
          refine ⟨a', m1, ?_, g1, A1⟩
          unfold parseF
          rw [if_pos hk, e1, andThen_ok, if_neg (A1.no hr' hx c)]
      rename_i hk
      split at h
      · rename_i hk4
        obtain ⟨a, l1, q1, h⟩ := andThen_inv h
        have s1 := hs.trans (parseF_suffix _ _ _ _ _ h)
        obtain ⟨a', m1, e1, g1, A1⟩ := ih _ _ _ _ _ _ (.lvl (k + 1)) hA q1 s1
        obtain ⟨t', m2, e2, g2, A2⟩ := ih _ _ _ _ _ _ (.more k g1) A1 h hs
        refine ⟨t', m2, ?_, g2, A2⟩
        unfold parseF
        rw [if_neg hk, if_pos hk4, e1, andThen_ok, e2]
      · rename_i hk4
        obtain ⟨a, l1, q1, h⟩ := andThen_inv h
        have s1 := hs.trans (parseF_suffix _ _ _ _ _ h)
        obtain ⟨a', m1, e1, g1, A1⟩ := ih _ _ _ _ _ _ .unary hA q1 s1
        obtain ⟨t', m2, e2, g2, A2⟩ := ih _ _ _ _ _ _ (.args g1) A1 h hs
        refine ⟨t', m2, ?_, g2, A2⟩
        unfold parseF
        rw [if_neg hk, if_neg hk4, e1, andThen_ok, e2]
    | more k hg =>
      have hx : inB (signsL k) s_shut = false := by
        match k with
        | 0 => decide +kernel
        | 1 => decide +kernel
        | 2 => decide +kernel
        | k + 3 => exact (show inB [s_star] s_shut = false by decide +kernel)
      unfold parseF at h
      split at h
      · rename_i c
        obtain ⟨b, l1, q1, h⟩ := andThen_inv h
        have s1 := hs.trans (parseF_suffix _ _ _ _ _ h)
        obtain ⟨c', ex, A0⟩ := hA.yes hne (s1.trans (parseF_suffix _ _ _ _ _ q1)) c
        obtain ⟨b', m1, e1, g1, A1⟩ := ih _ _ _ _ _ _ (.lvl (k + 1)) A0 q1 s1
        obtain ⟨t', m2, e2, g2, A2⟩ := ih _ _ _ _ _ _ (.more k (same_put (x := textT l) hg g1)) A1 h hs
        refine ⟨t', m2, ?_, g2, A2⟩
        unfold parseF
        rw [if_pos c', e1, andThen_ok, ← ex, e2]
      · rename_i c
        obtain ⟨rfl, rfl⟩ := done_inv h
        refine ⟨_, _, ?_, hg, hA⟩
        unfold parseF
        rw [if_neg (hA.no hr' hx c)]
    | @args a0 a0' hg =>
      unfold parseF at h
      split at h
      · rename_i c
        obtain ⟨b, l1, q1, h⟩ := andThen_inv h
        have s1 := hs.trans (parseF_suffix _ _ _ _ _ h)
        obtain ⟨b', m1, e1, g1, A1⟩ := ih _ _ _ _ _ _ .unary hA q1 s1
        obtain ⟨t', m2, e2, g2, A2⟩ := ih _ _ _ _ _ _ (.args (same2 (h' := hd0 10 a0'.head.pos) (by simp [Hd.same, hd0]) hg g1)) A1 h hs
        refine ⟨t', m2, ?_, g2, A2⟩
        unfold parseF
        rw [if_pos (by rw [← hA.begins hr hr']; exact c), e1, andThen_ok, e2]
      · rename_i c
        obtain ⟨rfl, rfl⟩ := done_inv h
        refine ⟨_, _, ?_, hg, hA⟩
        unfold parseF
        rw [if_neg (by rw [← hA.begins hr hr']; exact c)]
    | unary =>
      unfold parseF at h
      split at h
      · rename_i c
        obtain ⟨a, l1, q1, h⟩ := andThen_inv h
        obtain ⟨rfl, rfl⟩ := done_inv h
        obtain ⟨c', ex, A0⟩ := hA.yes hne (hs.trans (parseF_suffix _ _ _ _ _ q1)) c
        obtain ⟨a', m1, e1, g1, A1⟩ := ih _ _ _ _ _ _ .unary A0 q1 hs
        refine ⟨.mk (hd0 (preK (textT l')) (posT l')) [a'], m1, ?_, same1 (by simp [Hd.same, hd0, ex]) g1, A1⟩
        unfold parseF
        rw [if_pos c', e1, andThen_ok]
      rename_i c1
      have d1 := hA.no hr' (by decide +kernel) c1
      split at h
      · rename_i c
        obtain ⟨x, l1, q1, h⟩ := andThen_inv h
        obtain ⟨a, l2, q2, h⟩ := andThen_inv h
        obtain ⟨rfl, rfl⟩ := done_inv h
        have s1 := hs.trans (parseF_suffix _ _ _ _ _ q2)
        obtain ⟨c', ex, A0⟩ := hA.yes hne (s1.trans (getK_suffix q1)) c
        obtain ⟨m1, e1, A1⟩ := A0.getK hne s1 q1
        obtain ⟨a', m2, e2, g2, A2⟩ := ih _ _ _ _ _ _ .unary A1 q2 hs
        refine ⟨.mk { hd0 15 (posT l') with exn := x } [a'], m2, ?_, same1 (by simp [Hd.same, hd0]) g2, A2⟩
        unfold parseF
        rw [if_neg d1, if_pos c', e1, andThen_ok, e2, andThen_ok]
      rename_i c2
      have d2 := hA.no hr' (by decide +kernel) c2
      split at h
      · rename_i c
        obtain ⟨rfl, rfl⟩ := done_inv h
        obtain ⟨c', ex, A0⟩ := hA.kind_yes hne hs c
        refine ⟨.mk { hd0 1 (posT l') with n := numV (textT l') } [], l'.tail, ?_, ?_, A0⟩
        · unfold parseF
          rw [if_neg d1, if_neg d2, if_pos c']
        · exact same0 (by simp [Hd.same, hd0, ex])
      rename_i c3
      have d3 := hA.kind_no hr'.one c3
      split at h
      · rename_i c
        obtain ⟨rfl, rfl⟩ := done_inv h
        obtain ⟨c', ex, A0⟩ := hA.kind_yes hne hs c
        refine ⟨.mk { hd0 2 (posT l') with name := textT l' } [], l'.tail, ?_, ?_, A0⟩
        · unfold parseF
          rw [if_neg d1, if_neg d2, if_neg d3, if_pos c']
        · exact same0 (by simp [Hd.same, hd0, ex])
      rename_i c4
      have d4 := hA.kind_no hr'.two c4
      obtain ⟨_, l1, q1, h⟩ := andThen_inv h
      obtain ⟨a, l2, q2, h⟩ := andThen_inv h
      split at h
      · rename_i c
        obtain ⟨b, l3, q3, h⟩ := andThen_inv h
        obtain ⟨_, l4, q4, h⟩ := andThen_inv h
        obtain ⟨rfl, rfl⟩ := done_inv h
        have s3 := hs.trans (getW_suffix q4)
        have s2 := s3.trans (parseF_suffix _ _ _ _ _ q3)
        have s1 := (s2.trans (List.tail_suffix _)).trans (parseF_suffix _ _ _ _ _ q2)
        obtain ⟨m1, e1, A1⟩ := hA.getW hne s1 q1
        obtain ⟨a', m2, e2, g2, A2⟩ := ih _ _ _ _ _ _ .expr A1 q2 (s2.trans (List.tail_suffix _))
        obtain ⟨c', -, A2'⟩ := A2.yes hne s2 c
        obtain ⟨b', m3, e3, g3, A3⟩ := ih _ _ _ _ _ _ .expr A2' q3 s3
        obtain ⟨m4, e4, A4⟩ := A3.getW hne hs q4
        refine ⟨.mk (hd0 3 (posT l')) [a', b'], m4, ?_, same2 (by simp [Hd.same, hd0]) g2 g3, A4⟩
        unfold parseF
        rw [if_neg d1, if_neg d2, if_neg d3, if_neg d4, e1, andThen_ok, e2, andThen_ok, if_pos c', e3, andThen_ok, e4, andThen_ok]
      · rename_i c
        obtain ⟨_, l3, q3, h⟩ := andThen_inv h
        obtain ⟨rfl, rfl⟩ := done_inv h
        have s2 := hs.trans (getW_suffix q3)
        have s1 := s2.trans (parseF_suffix _ _ _ _ _ q2)
        obtain ⟨m1, e1, A1⟩ := hA.getW hne s1 q1
        obtain ⟨a', m2, e2, g2, A2⟩ := ih _ _ _ _ _ _ .expr A1 q2 s2
        obtain ⟨m3, e3, A3⟩ := A2.getW hne hs q3
        refine ⟨a', m3, ?_, g2, A3⟩
        unfold parseF
        rw [if_neg d1, if_neg d2, if_neg d3, if_neg d4, e1, andThen_ok, e2, andThen_ok, if_neg (A2.no hr' (by decide +kernel) c), e3, andThen_ok]
end Go.Proofs.YtaioeailgknfjaaGreatDoor
namespace Go.Proofs.YtaioeailgknfjaaGreatDoor
open Go

theorem Halts.ended {e : Tk} {l : List Tk} (h : e.k = 6) : Halts (e :: l) := ⟨fun xs _ => by simp [Go.Proofs.YtaioeailgknfjaaGreatDoor.isT, h], by simp [kindT, h], by simp [kindT, h]⟩
theorem Halts.shut {e : Tk} {l : List Tk} (h : e.k = 5) (ht : e.text = s_shut) : Halts (e :: l) := ⟨fun xs hx => by simp [Go.Proofs.YtaioeailgknfjaaGreatDoor.isT, ht, hx], by simp [kindT, h], by simp [kindT, h]⟩
/-- What stands in brackets. -/
theorem in_brackets {f : Nat} {tk : Tk} {l m : List Tk} {t : Tm} (h : parseF f .expr l = some (.ok (t, m))) (hk : tk.k = 5) (ht : tk.text = s_open) (hm : isT [s_shut] m = true) : parseF (f + 1) .unary (tk :: l) = some (.ok (t, m.tail)) := by
  have n : ∀ xs, inB xs s_open = false → ¬ isT xs (tk :: l) = true := fun xs hx => by simp [isT, ht, hx]
  have c : ¬ isT [s_comma] m = true := by
    obtain ⟨u, r, rfl, -, hu, hu'⟩ := isT_ne hm
    simp at hu
    simp only [isT, hu]
    simp only [show inB [s_comma] s_shut = false by decide +kernel]
    simp
  unfold parseF
  rw [if_neg (n _ (by decide +kernel)), if_neg (n _ (by decide +kernel)), if_neg (by simp [kindT, hk]), if_neg (by simp [kindT, hk])]
  rw [show getW s_open (tk :: l) = .ok ((), l) by unfold getW; rw [if_pos (by simp only [isT, hk, ht]; decide +kernel)]; rfl, andThen_ok, h, andThen_ok, if_neg c]
  rw [show getW s_shut m = .ok ((), m.tail) by unfold getW; rw [if_pos hm], andThen_ok]
/-- A whole text's tokens, moved into brackets: the same term, but for places. -/
theorem moved {f : Nat} {l l' r' : List Tk} {e op sh : Tk} {t : Tm} (h : parseF f .expr l = some (.ok (t, [e]))) (he : e.k = 6) (hA : Al [e] (sh :: r') l l') (hs : sh.k = 5) (hs' : sh.text = s_shut) (ho : op.k = 5) (ho' : op.text = s_open) :
    ∃ t', parseF (f + 1) .unary (op :: l') = some (.ok (t', r')) ∧ t.same t' = true := by
  obtain ⟨t', m', h', g, hA'⟩ := parseF_local [e] (sh :: r') (.ended he) (.shut hs hs') (by simp) f _ _ _ _ _ _ .expr hA h (List.suffix_refl _)
  have hm' : m' = sh :: r' := by
    cases hA' with
    | rest => rfl
    | cons _ _ h =>
      have : ∀ {a b x y : List Tk}, Al a b x y → a.length ≤ x.length := by
        intro a b x y h
        induction h with
        | rest => exact Nat.le_refl _
        | cons _ _ _ ih => simp only [List.length_cons]; omega
      have := this h
      simp at this
  subst hm'
  exact ⟨t', in_brackets h' ho ho' (by simp only [isT, hs, hs']; decide +kernel), g⟩
end Go.Proofs.YtaioeailgknfjaaGreatDoor
namespace Go.Proofs.YtaioeailgknfjaaGreatDoor
open Go

end Go.Proofs.YtaioeailgknfjaaGreatDoor

/- Trees of terms in memory. No program in sight. -/
namespace Go.Proofs.YtaioeailgknfjaaGreatDoor
open Go Go.RowKit Go.Sort

/-- A head's cells. -/
structure HdAt (w : World) (h : Hd) (b o : Nat) : Prop where
  c0 : w.cell? ⟨b, o, none⟩ = some (.int .u8 h.k)
  c1 : w.cell? ⟨b, o + 1, none⟩ = some (.int .u8 h.op)
  c2 : w.cell? ⟨b, o + 2, none⟩ = some (.int .i64 h.pos)
  c3 : w.cell? ⟨b, o + 3, none⟩ = some (.int .i64 h.n)
  c4 : w.cell? ⟨b, o + 4, none⟩ = some (.string h.name)
  c5 : w.cell? ⟨b, o + 5, none⟩ = some (.string h.arg)
  c6 : w.cell? ⟨b, o + 6, none⟩ = some (.string h.exn)
/-- A term's value, of its head and its kids' slice. -/
def tval (h : Hd) (a : Option Addr) (len cap : Nat) : Value := .agg #[.int .u8 h.k, .int .u8 h.op, .int .i64 h.pos, .int .i64 h.n, .string h.name, .string h.arg, .string h.exn, .slice a len cap]
/-- A term's cells. -/
def tcells (h : Hd) (a : Option Addr) (len cap : Nat) : Array Value := #[.int .u8 h.k, .int .u8 h.op, .int .i64 h.pos, .int .i64 h.n, .string h.name, .string h.arg, .string h.exn, .slice a len cap]
mutual
/-- A term in memory, at a place, its kids in none of the blocks A. -/
def TmAt (A : Nat → Prop) (w : World) : Tm → Nat → Nat → Prop
  | .mk h l, b, o => HdAt w h b o ∧ h.Fits ∧ ∃ a len cap, w.cell? ⟨b, o + 7, none⟩ = some (.slice a len cap) ∧ len ≤ cap ∧ cap ≤ maxLen ∧ IsTmsA A w l a len
/-- A row of terms in memory. -/
def IsTmsA (A : Nat → Prop) (w : World) : List Tm → Option Addr → Nat → Prop
  | [], _, len => len = 0
  | t :: l, a, len => 0 < len ∧ ∃ b o, a = some ⟨b, o, none⟩ ∧ ¬ A b ∧ TmAt A w t b o ∧ IsTmsA A w l (some ⟨b, o + 8, none⟩) (len - 1)
end
/-- A value is a term. -/
def IsTmA (A : Nat → Prop) (w : World) (t : Tm) (v : Value) : Prop := ∃ a len cap, v = tval t.head a len cap ∧ t.head.Fits ∧ len ≤ cap ∧ cap ≤ maxLen ∧ IsTmsA A w t.kids a len
abbrev IsTm (w : World) (t : Tm) (v : Value) : Prop := IsTmA NoA w t v
abbrev IsTms (w : World) (l : List Tm) (a : Option Addr) (len : Nat) : Prop := IsTmsA NoA w l a len
theorem IsTmsA.length {A : Nat → Prop} {w : World} {l : List Tm} {a : Option Addr} {len : Nat} (h : IsTmsA A w l a len) : len = l.length := by
  induction l generalizing a len with
  | nil => simpa [IsTmsA] using h
  | cons t l ih =>
    simp only [IsTmsA] at h
    obtain ⟨h0, b, o, rfl, _, _, hl⟩ := h
    have := ih hl
    simp; omega
theorem IsTmsA.nil {A : Nat → Prop} {w : World} (a : Option Addr) : IsTmsA A w [] a 0 := by simp [IsTmsA]
theorem HdAt.move {w w' : World} {h : Hd} {b o : Nat} (hc : ∀ i v, w.cell? ⟨b, i, none⟩ = some v → w'.cell? ⟨b, i, none⟩ = some v) (g : HdAt w h b o) : HdAt w' h b o :=
  ⟨hc _ _ g.c0, hc _ _ g.c1, hc _ _ g.c2, hc _ _ g.c3, hc _ _ g.c4, hc _ _ g.c5, hc _ _ g.c6⟩
mutual
theorem TmAt.move {A A' : Nat → Prop} {w w' : World} (hA : ∀ b, b < w.heap.size → A' b → A b) (hc : ∀ p v, ¬ A p.block → w.cell? p = some v → w'.cell? p = some v) : ∀ {t : Tm} {b o : Nat}, ¬ A b → TmAt A w t b o → TmAt A' w' t b o
  | .mk h l, b, o, hb, g => by
    simp only [TmAt] at g ⊢
    obtain ⟨g1, g2, a, len, cap, q, e1, e2, gl⟩ := g
    exact ⟨g1.move fun i v => hc ⟨b, i, none⟩ v hb, g2, a, len, cap, hc _ _ hb q, e1, e2, IsTmsA.move hA hc gl⟩
theorem IsTmsA.move {A A' : Nat → Prop} {w w' : World} (hA : ∀ b, b < w.heap.size → A' b → A b) (hc : ∀ p v, ¬ A p.block → w.cell? p = some v → w'.cell? p = some v) : ∀ {l : List Tm} {a : Option Addr} {len : Nat}, IsTmsA A w l a len → IsTmsA A' w' l a len
  | [], a, len, g => by simpa only [IsTmsA] using g
  | t :: l, a, len, g => by
    simp only [IsTmsA] at g ⊢
    obtain ⟨g0, b, o, e, hb, gt, gl⟩ := g
    refine ⟨g0, b, o, e, fun h => hb (hA b ?_ h), TmAt.move hA hc hb gt, IsTmsA.move hA hc gl⟩
    obtain ⟨h, l'⟩ := t
    simp only [TmAt] at gt
    exact block_lt_of_cell gt.1.c0
end
theorem IsTmA.move {A A' : Nat → Prop} {w w' : World} (hA : ∀ b, b < w.heap.size → A' b → A b) (hc : ∀ p v, ¬ A p.block → w.cell? p = some v → w'.cell? p = some v) {t : Tm} {v : Value} (h : IsTmA A w t v) : IsTmA A' w' t v := by
  obtain ⟨a, len, cap, e, f, h1, h2, hl⟩ := h
  exact ⟨a, len, cap, e, f, h1, h2, hl.move hA hc⟩
theorem IsTmA.ext {A : Nat → Prop} {w w' : World} (hb : Ext w w') {t : Tm} {v : Value} (h : IsTmA A w t v) : IsTmA A w' t v := h.move (fun _ _ h => h) fun _ _ _ h => hb.cell h
theorem IsTmsA.ext {A : Nat → Prop} {w w' : World} (hb : Ext w w') {l : List Tm} {a : Option Addr} {len : Nat} (h : IsTmsA A w l a len) : IsTmsA A w' l a len := h.move (fun _ _ h => h) fun _ _ _ h => hb.cell h
theorem IsTmsA.any {A : Nat → Prop} {w : World} {l : List Tm} {a : Option Addr} {len : Nat} (h : IsTmsA A w l a len) : IsTms w l a len := h.move (fun _ _ h => h.elim) fun _ _ _ h => h
theorem IsTmsA.off {A A' : Nat → Prop} {w : World} (hA : ∀ b, b < w.heap.size → A' b → A b) {l : List Tm} {a : Option Addr} {len : Nat} (h : IsTmsA A w l a len) : IsTmsA A' w l a len := h.move hA fun _ _ _ h => h
theorem IsTmsA.setCell {A : Nat → Prop} {w : World} {p : Addr} (hp : A p.block) (u : Value) {l : List Tm} {a : Option Addr} {len : Nat} (h : IsTmsA A w l a len) : IsTmsA A (w.setCell p u) l a len :=
  h.move (fun _ _ h => h) fun q _ hq hv => (World.cell?_setCell_other w p q u (fun e => hq (by subst e; exact hp))).trans hv
theorem IsTmA.mk_ {A : Nat → Prop} {w : World} {h : Hd} {l : List Tm} {a : Option Addr} {len cap : Nat} (hl : IsTmsA A w l a len) (h1 : len ≤ cap) (h2 : cap ≤ 9223372036854775807) (hf : h.Fits) : IsTmA A w (.mk h l) (tval h a len cap) :=
  ⟨a, len, cap, rfl, hf, h1, h2, hl⟩
/-- What a term is made of. -/
theorem IsTmA.open_ {A : Nat → Prop} {w : World} {h : Hd} {l : List Tm} {v : Value} (g : IsTmA A w (.mk h l) v) :
    ∃ a len cap, v = .agg #[.int .u8 h.k, .int .u8 h.op, .int .i64 h.pos, .int .i64 h.n, .string h.name, .string h.arg, .string h.exn, .slice a len cap] ∧ len ≤ cap ∧ cap ≤ 9223372036854775807 ∧ h.Fits ∧ IsTmsA A w l a len := by
  obtain ⟨a, len, cap, e, f, h1, h2, hl⟩ := g
  exact ⟨a, len, cap, e, h1, h2, f, hl⟩
/-- A term at a place is one. -/
theorem TmAt.val {A : Nat → Prop} {w : World} {h : Hd} {l : List Tm} {b o : Nat} (g : TmAt A w (.mk h l) b o) : ∃ a len cap, HdAt w h b o ∧ w.cell? ⟨b, o + 7, none⟩ = some (.slice a len cap) ∧ h.Fits ∧ len ≤ cap ∧ cap ≤ 9223372036854775807 ∧ IsTmsA A w l a len := by
  simp only [TmAt] at g
  obtain ⟨g1, g2, a, len, cap, q, e1, e2, gl⟩ := g
  exact ⟨a, len, cap, g1, q, g2, e1, e2, gl⟩
theorem IsTmsA.place {A : Nat → Prop} {w : World} {l : List Tm} {a : Option Addr} {len : Nat} (h : IsTmsA A w l a len) {i : Nat} {t : Tm} (hi : l[i]? = some t) : ∃ b o, a = some ⟨b, o, none⟩ ∧ ¬ A b ∧ TmAt A w t b (o + i * 8) := by
  induction l generalizing a len i with
  | nil => simp at hi
  | cons x l ih =>
    simp only [IsTmsA] at h
    obtain ⟨h0, b, o, rfl, hb, gt, hl⟩ := h
    cases i with
    | zero =>
      simp at hi
      subst hi
      exact ⟨b, o, rfl, hb, by simpa using gt⟩
    | succ i =>
      simp at hi
      obtain ⟨b', o', e, hb', q⟩ := ih hl hi
      simp at e
      obtain ⟨rfl, rfl⟩ := e
      exact ⟨b, o, rfl, hb, by rw [show o + (i + 1) * 8 = o + 8 + i * 8 from by omega]; exact q⟩
/-- A row out of its terms. -/
theorem IsTmsA.of_places {A : Nat → Prop} {w : World} (l : List Tm) (b o : Nat) (hb : ¬ A b) (h : ∀ i t, l[i]? = some t → TmAt A w t b (o + i * 8)) : IsTmsA A w l (some ⟨b, o, none⟩) l.length := by
  induction l generalizing o with
  | nil => simp [IsTmsA]
  | cons t l ih =>
    simp only [IsTmsA]
    refine ⟨by simp, b, o, rfl, hb, by simpa using h 0 t rfl, ?_⟩
    have := ih (o + 8) fun i t hi => by
      have := h (i + 1) t (by simpa using hi)
      rw [show o + (i + 1) * 8 = o + 8 + i * 8 from by omega] at this
      exact this
    simpa using this
/-- One round's term of a row. -/
theorem IsTmsA.at8 {A : Nat → Prop} {w w1 : World} (hx : Ext w w1) {l : List Tm} {a : Option Addr} {len : Nat} (h : IsTmsA A w l a len) {i : Nat} (hi : i < len) :
    ∃ x k b o ak lenk capk, l[i]? = some (.mk x k) ∧ a = some ⟨b, o, none⟩ ∧ ¬ A b ∧ HdAt w1 x b (o + i * 8) ∧ w1.cell? ⟨b, o + i * 8 + 7, none⟩ = some (.slice ak lenk capk) ∧ x.Fits ∧ lenk ≤ capk ∧ capk ≤ 9223372036854775807 ∧ IsTmsA A w1 k ak lenk := by
  have hl := h.length
  have hi' : l[i]? = some l[i] := List.getElem?_eq_getElem (hl ▸ hi)
  obtain ⟨b, o, e, hb, q⟩ := (h.ext hx).place hi'
  generalize l[i] = t at *
  obtain ⟨x, k⟩ := t
  obtain ⟨ak, lenk, capk, g1, g2, g3, g4, g5, g6⟩ := q.val
  exact ⟨x, k, b, o, ak, lenk, capk, hi', e, hb, g1, g2, g3, g4, g5, g6⟩
/-- A row of one term. -/
theorem IsTmsA.one {A : Nat → Prop} {w : World} {t : Tm} {b : Nat} (hb : ¬ A b) (h : TmAt A w t b 0) : IsTmsA A w [t] (some ⟨b, 0, none⟩) 1 :=
  IsTmsA.of_places [t] b 0 hb fun i t' hi => by
    cases i with
    | zero => simp at hi; subst hi; simpa using h
    | succ i => simp at hi
end Go.Proofs.YtaioeailgknfjaaGreatDoor

/- enclaveref05: its state in memory; the walks of text, want, get. -/
namespace Go.Proofs.YtaioeailgknfjaaGreatDoor
open Go Go.RowKit Go.Sort

/-- Tokens that a state goes through. -/
structure IsL (w : World) (L : List Tk) (a : Option Addr) (n c : Nat) : Prop where
  toks : IsToks w L a n
  le : n ≤ c
  cap : c ≤ 9223372036854775807
theorem IsL.ext {w w' : World} {L : List Tk} {a : Option Addr} {n c : Nat} (h : IsL w L a n c) (hx : Ext w w') : IsL w' L a n c := ⟨h.toks.ext hx, h.le, h.cap⟩
/-- A state at some tokens. -/
def AtS (L : List Tk) (n i : Nat) (l : List Tk) : Prop := L.drop i = l ∧ i < n
/-- What a step hands back. -/
def RetS {α : Type} (L : List Tk) (a : Option Addr) (n c : Nat) (w : World) (V : World → α → Value → Prop) (Z : Value → Prop) (r : Res α) (e : Ending) (w' : World) : Prop :=
  Ext w w' ∧ ∃ (i : Nat) (v : Value), match r with
  | .ok (x, l) => e = .returned (.tuple #[.agg #[.slice a n c, .int .i64 (i : Nat), .bool false], v]) ∧ AtS L n i l ∧ V w' x v
  | .error l => e = .returned (.tuple #[.agg #[.slice a n c, .int .i64 (i : Nat), .bool true], v]) ∧ AtS L n i l ∧ Z v
/-- The text of the word, or sign, that stands next; none. -/
def txS : List Tk → ByteArray
  | [] => ByteArray.empty
  | t :: _ => if t.k = 4 ∨ t.k = 5 then t.text else ByteArray.empty
theorem txS_is {xs : List ByteArray} (hx : inB xs ByteArray.empty = false) (l : List Tk) : inB xs (txS l) = isT xs l := by
  cases l with
  | nil => exact hx
  | cons t l =>
    unfold txS isT
    simp only
    by_cases h : t.k = 4 ∨ t.k = 5
    · rw [if_pos h]
      rcases h with h | h <;> simp [h]
    · rw [if_neg h, hx]
      have h4 : (t.k == 4) = false := by simp; omega
      have h5 : (t.k == 5) = false := by simp; omega
      rw [h4, h5]
      rfl
theorem AtS.tok {w : World} {L : List Tk} {a : Option Addr} {n c i : Nat} {l : List Tk} (hL : IsL w L a n c) (h : AtS L n i l) :
    ∃ t l' b o, l = t :: l' ∧ a = some ⟨b, o, none⟩ ∧ t.Fits ∧ w.cell? ⟨b, o + i * 3, none⟩ = some (.int .u8 t.k) ∧ w.cell? ⟨b, o + i * 3 + 1, none⟩ = some (.string t.text) ∧ w.cell? ⟨b, o + i * 3 + 2, none⟩ = some (.int .i64 t.pos) ∧ (l' ≠ [] → AtS L n (i + 1) l') := by
  obtain ⟨rfl, hi⟩ := h
  obtain ⟨t, b, o, g, hf, e, q0, q1, q2⟩ := hL.toks.at3 hi
  have hl := hL.toks.length
  have e1 : L.drop i = L[i]'(by omega) :: L.drop (i + 1) := List.drop_eq_getElem_cons (by omega)
  rw [List.getElem?_eq_getElem (by omega)] at g
  cases g
  refine ⟨_, _, b, o, e1, e, hf, q0, q1, q2, fun hne => ⟨rfl, ?_⟩⟩
  rcases Nat.lt_or_ge (i + 1) n with h | h
  · exact h
  · exact (hne (List.drop_eq_nil_of_le (by omega))).elim
set_option maxRecDepth 8000 in
set_option maxHeartbeats 2000000 in
theorem ref5_text (L : List Tk) (a : Option Addr) (n c i : Nat) (bad : Bool) (l : List Tk) (w : World) (hL : IsL w L a n c) (h : AtS L n i l) :
    Calls Tryz.prog 41 #[.agg #[.slice a n c, .int .i64 (i : Nat), .bool bad]] w fun e w' => e = .returned (.string (txS l)) ∧ Ext w w' := by
  obtain ⟨t, l', b, o, rfl, rfl, hf, q0, q1, q2, -⟩ := h.tok hL
  have hz : (i : Int) < (n : Int) := by have := h.2; omega
  have HT := Lib.hid (show txS (t :: l') = if t.k = 4 ∨ t.k = 5 then t.text else ByteArray.empty from rfl)
  have hc : t.k = 4 ∨ t.k = 5 ∨ (t.k ≠ 4 ∧ t.k ≠ 5) := by omega
  have lb := World.block_lt_of_cell? _ _ q0
  clear h hL
  generalize txS (t :: l') = r at *
  obtain ⟨k, s, p⟩ := t
  simp only at *
  rcases hc with rfl | rfl | ⟨n4, n5⟩
  · have HR : Hid (r = s) := Lib.hid (by rw [HT.out]; simp)
    go_enter Tryz.func41, Tryz.ntmps41
    go_wp2_with fail
    go_ret
    exact ⟨by rw [HR.out]; rfl, by (exact eX)⟩
  · have HR : Hid (r = s) := Lib.hid (by rw [HT.out]; simp)
    go_enter Tryz.func41, Tryz.ntmps41
    go_wp2_with fail
    go_ret
    exact ⟨by rw [HR.out]; rfl, by (exact eX)⟩
  · have HR : Hid (r = ByteArray.empty) := Lib.hid (by rw [HT.out]; simp [n4, n5])
    have b4 : (k == 4) = false := by simpa using n4
    have b5 : (k == 5) = false := by simpa using n5
    clear n4 n5
    go_enter Tryz.func41, Tryz.ntmps41
    go_wp2_with fail
    go_ret
    exact ⟨by rw [HR.out]; rfl, by (exact eX)⟩
/-- What a step without a value hands back. -/
def RetW (L : List Tk) (a : Option Addr) (n c : Nat) (w : World) (r : Res Unit) (e : Ending) (w' : World) : Prop :=
  Ext w w' ∧ ∃ i : Nat, match r with
  | .ok (_, l) => e = .returned (.agg #[.slice a n c, .int .i64 (i : Nat), .bool false]) ∧ AtS L n i l
  | .error l => e = .returned (.agg #[.slice a n c, .int .i64 (i : Nat), .bool true]) ∧ AtS L n i l
/-- A block that holds a state. -/
def SBlk (w : World) (g : Nat) (a : Option Addr) (n c i : Nat) (bad : Bool) : Prop := Blk w g 71 #[.slice a n c, .int .i64 (i : Nat), .bool bad]
theorem blk_top1 {w w1 : World} {cs : Array Value} {T : TypeId} {o : Obj} (x : Ext ((w.alloc o).alloc (.cells cs T)) w1) : Blk w1 (w.heap.size + 1) T cs := by
  have h := Blk.new (w.alloc o) T cs
  rw [World.size_alloc] at h
  exact h.ext x
theorem blk_under1 {w w1 : World} {cs : Array Value} {T : TypeId} {o : Obj} (x : Ext ((w.alloc (.cells cs T)).alloc o) w1) : Blk w1 w.heap.size T cs := ((Blk.new w T cs).alloc o).ext x
theorem getW_tx {x : ByteArray} (hx : x ≠ ByteArray.empty) (l : List Tk) : getW x l = if txS l = x then .ok ((), l.tail) else .error l := by
  unfold getW
  have h0 : inB [x] ByteArray.empty = false := by
    cases h : inB [x] ByteArray.empty with
    | false => rfl
    | true => exact absurd ((inB_iff _ _).1 h) (by simp; exact fun e => hx e.symm)
  have h := txS_is h0 l
  rw [← h]
  by_cases e : txS l = x
  · rw [if_pos e, if_pos ((inB_iff _ _).2 (by simp [e]))]
  · rw [if_neg e, if_neg (fun h => e (by simpa using (inB_iff _ _).1 h))]
/-- A state's cells. -/
theorem SBlk.open_ {w : World} {g : Nat} {a : Option Addr} {n c i : Nat} {bad : Bool} (h : SBlk w g a n c i bad) : w.cell? ⟨g, 0, none⟩ = some (.slice a n c) ∧ w.cell? ⟨g, 1, none⟩ = some (.int .i64 (i : Nat)) ∧ w.cell? ⟨g, 2, none⟩ = some (.bool bad) ∧ w.frozen? ⟨g, 0, none⟩ = false ∧ w.frozen? ⟨g, 1, none⟩ = false ∧ w.frozen? ⟨g, 2, none⟩ = false ∧ g < w.heap.size :=
  ⟨Blk.cell h 0, Blk.cell h 1, Blk.cell h 2, Blk.frozen h 0, Blk.frozen h 1, Blk.frozen h 2, Blk.lt h⟩
theorem Blk.lay3 {w : World} {g : Nat} {t : TypeId} {c0 c1 c2 u0 u1 u2 : Value} (h : Blk w g t #[c0, c1, c2]) : Blk (((w.setCell ⟨g, 0, none⟩ u0).setCell ⟨g, 1, none⟩ u1).setCell ⟨g, 2, none⟩ u2) g t #[u0, u1, u2] := by
  have h := ((h.set_ 0 u0).set_ 1 u1).set_ 2 u2
  simpa using h
set_option maxRecDepth 8000 in
set_option maxHeartbeats 2000000 in
theorem ref5_want_bad (a : Option Addr) (n c i : Nat) (x : ByteArray) (w : World) :
    Calls Tryz.prog 43 #[.agg #[.slice a n c, .int .i64 (i : Nat), .bool true], .string x] w fun e w' => e = .returned (.agg #[.slice a n c, .int .i64 (i : Nat), .bool true]) ∧ Ext w w' := by
  go_enter Tryz.func43, Tryz.ntmps43
  go_wp2_with fail
  exact bodyPost_ret (v := .agg #[.slice a n c, .int .i64 (i : Nat), .bool true]) (by simp [results, Tryz.results43, go_sem]) rfl ⟨rfl, by (exact eX)⟩
set_option maxRecDepth 8000 in
set_option maxHeartbeats 2000000 in
theorem ref5_want (L : List Tk) (a : Option Addr) (n c i : Nat) (x : ByteArray) (hx : x ≠ ByteArray.empty) (l : List Tk) (w : World) (hL : IsL w L a n c) (h : AtS L n i l) (he : Ended l) :
    Calls Tryz.prog 43 #[.agg #[.slice a n c, .int .i64 (i : Nat), .bool false], .string x] w (RetW L a n c w (getW x l)) := by
  have KX := Lib.hid fun W (x : Ext w W) => ref5_text L a n c i false l W (hL.ext x) h
  have HG := Lib.hid (getW_tx hx l)
  have hi := h.2
  have hn := hL.le
  have hcc := hL.cap
  have HAT := Lib.hid h
  have HNX : Hid (getW x l = .ok ((), l.tail) → AtS L n (i + 1) l.tail) := Lib.hid fun hg => by
    obtain ⟨t, l', b, o, rfl, -, -, -, -, -, hnx⟩ := h.tok hL
    have hk : isT [x] (t :: l') = true := by
      unfold getW at hg
      split at hg
      · assumption
      · cases hg
    have hne : l' ≠ [] := by
      intro e
      subst e
      exact isT_kind hk he
    exact hnx hne
  obtain ⟨tx, htx⟩ : ∃ tx, tx = txS l := ⟨_, rfl⟩
  rw [← htx] at KX HG
  clear h hL he
  by_cases hq : tx = x
  case neg =>
    have hb : (tx.toList == x.toList) = false := by
      simp only [beq_eq_false_iff_ne]
      exact fun e => hq (toList_inj e)
    have HR : Hid (getW x l = .error l) := Lib.hid (by rw [HG.out, if_neg hq])
    generalize getW x l = r at *
    clear hq htx
    go_enter Tryz.func43, Tryz.ntmps43
    go_wp2_with fail
    refine (KX.out _ (by (exact eX))).mono ?_
    rintro e w1 ⟨rfl, x1⟩
    obtain ⟨p0, p1, p2, f0, f1, f2, l0⟩ := SBlk.open_ (blk_under1 x1)
    obtain ⟨q0, q1, q2, g0, g1, g2, l1⟩ := SBlk.open_ (blk_top1 x1)
    have y1 : Ext w w1 := by (exact eX)
    have B9 := Lib.hid (((blk_top1 x1).far (p := ⟨w.heap.size, 2, none⟩) (by show w.heap.size + 1 ≠ w.heap.size; omega) (.bool true)).lay3 (u0 := .slice a n c) (u1 := .int .i64 (i : Nat)) (u2 := .bool true))
    clear x1
    go_wp2_with fail
    rw [HR.out]
    obtain ⟨r0, r1, r2, -⟩ := SBlk.open_ B9.out
    exact bodyPost_ret (v := .agg #[.slice a n c, .int .i64 (i : Nat), .bool true]) (by simp [results, Tryz.results43, go_sem, r0, r1, r2]) rfl ⟨by (exact eX), i, rfl, HAT.out⟩
  case pos =>
    subst hq
    have HR : Hid (getW tx l = .ok ((), l.tail)) := Lib.hid (by rw [HG.out, if_pos rfl])
    have HA2 := Lib.hid (HNX.out HR.out)
    have hw1 : IntKind.i64.wrap ((i : Int) + 1) = (i : Int) + 1 := IntWalk.i64_in _ ⟨by omega, by omega⟩
    generalize getW tx l = r at *
    clear htx
    go_enter Tryz.func43, Tryz.ntmps43
    go_wp2_with fail
    refine (KX.out _ (by (exact eX))).mono ?_
    rintro e w1 ⟨rfl, x1⟩
    obtain ⟨p0, p1, p2, f0, f1, f2, l0⟩ := SBlk.open_ (blk_under1 x1)
    obtain ⟨q0, q1, q2, g0, g1, g2, l1⟩ := SBlk.open_ (blk_top1 x1)
    have y1 : Ext w w1 := by (exact eX)
    have B9 := Lib.hid (((blk_top1 x1).far (p := ⟨w.heap.size, 1, none⟩) (by show w.heap.size + 1 ≠ w.heap.size; omega) (.int .i64 ((i : Int) + 1))).lay3 (u0 := .slice a n c) (u1 := .int .i64 ((i : Int) + 1)) (u2 := .bool false))
    clear x1
    go_wp2_with fail
    rw [HR.out]
    obtain ⟨r0, r1, r2, -⟩ := SBlk.open_ B9.out
    exact bodyPost_ret (v := .agg #[.slice a n c, .int .i64 ((i : Int) + 1), .bool false]) (by simp [results, Tryz.results43, go_sem, r0, r1, r2]) rfl ⟨by (exact eX), i + 1, rfl, HA2.out⟩
end Go.Proofs.YtaioeailgknfjaaGreatDoor

/- The walks of enclaveref05: get, signs, in, term. -/
namespace Go.Proofs.YtaioeailgknfjaaGreatDoor
open Go Go.RowKit Go.Sort

theorem Ended.next {t : Tk} {l : List Tk} (h : Ended (t :: l)) (hk : t.k ≠ 6) : l ≠ [] := by
  intro e
  subst e
  exact hk h
/-- A text's value. -/
def IsStr (_ : World) (x : ByteArray) (v : Value) : Prop := v = .string x
def AnyStr (v : Value) : Prop := ∃ s, v = .string s
set_option maxRecDepth 8000 in
set_option maxHeartbeats 2000000 in
theorem ref5_get_bad (a : Option Addr) (n c i : Nat) (k : Int) (w : World) :
    Calls Tryz.prog 42 #[.agg #[.slice a n c, .int .i64 (i : Nat), .bool true], .int .u8 k] w fun e w' => e = .returned (.tuple #[.agg #[.slice a n c, .int .i64 (i : Nat), .bool true], .string ⟨#[]⟩]) ∧ Ext w w' := by
  go_enter Tryz.func42, Tryz.ntmps42
  go_wp2_with fail
  exact bodyPost_ret (v := .tuple #[.agg #[.slice a n c, .int .i64 (i : Nat), .bool true], .string ⟨#[]⟩]) (by simp [results, Tryz.results42, go_sem]) rfl ⟨rfl, by (exact eX)⟩
set_option maxRecDepth 8000 in
set_option maxHeartbeats 2000000 in
theorem ref5_get (L : List Tk) (a : Option Addr) (n c i : Nat) (k : Int) (hk6 : k ≠ 6) (l : List Tk) (w : World) (hL : IsL w L a n c) (h : AtS L n i l) (he : Ended l) :
    Calls Tryz.prog 42 #[.agg #[.slice a n c, .int .i64 (i : Nat), .bool false], .int .u8 k] w (RetS L a n c w IsStr AnyStr (getK k l)) := by
  have hi := h.2
  have hn := hL.le
  have hcc := hL.cap
  have HAT := Lib.hid h
  obtain ⟨t, l', b, o, rfl, rfl, -, q0, q1, q2, hnx⟩ := h.tok hL
  have hlb := World.block_lt_of_cell? _ _ q0
  have HNX := Lib.hid hnx
  have HE := Lib.hid he
  have hz : (i : Int) < (n : Int) := by omega
  clear h hL he hnx
  by_cases hq : t.k = k
  case neg =>
    have hb : (t.k == k) = false := by simpa using hq
    have HR : Hid (getK k (t :: l') = .error (t :: l')) := Lib.hid (by show (if t.k = k then _ else _) = _; rw [if_neg hq])
    generalize getK k (t :: l') = r at *
    clear hq
    go_enter Tryz.func42, Tryz.ntmps42
    go_wp2_with fail
    rw [HR.out]
    exact bodyPost_ret (v := .tuple #[.agg #[.slice (some ⟨b, o, none⟩) n c, .int .i64 (i : Nat), .bool true], .string ⟨#[]⟩]) (by simp [results, Tryz.results42, go_sem]) rfl ⟨by (exact eX), i, .string ⟨#[]⟩, rfl, HAT.out, _, rfl⟩
  case pos =>
    have HR : Hid (getK k (t :: l') = .ok (t.text, l')) := Lib.hid (by show (if t.k = k then _ else _) = _; rw [if_pos hq])
    have HA2 := Lib.hid (HNX.out (HE.out.next (by omega)))
    have hw1 : IntKind.i64.wrap ((i : Int) + 1) = (i : Int) + 1 := IntWalk.i64_in _ ⟨by omega, by omega⟩
    generalize getK k (t :: l') = r at *
    subst hq
    go_enter Tryz.func42, Tryz.ntmps42
    go_wp2_with fail
    rw [HR.out]
    exact bodyPost_ret (v := .tuple #[.agg #[.slice (some ⟨b, o, none⟩) n c, .int .i64 ((i : Int) + 1), .bool false], .string t.text]) (by simp [results, Tryz.results42, go_sem]) rfl ⟨by (exact eX), i + 1, .string t.text, rfl, HA2.out, rfl⟩
set_option maxRecDepth 8000 in
set_option maxHeartbeats 2000000 in
theorem ref5_in (xs : List ByteArray) (x : ByteArray) (w : World) (a : Option Addr) (len cap : Nat) (h1 : len ≤ cap) (h2 : cap ≤ 9223372036854775807) (hr : IsRow w (vstr xs) a len) :
    Calls Tryz.prog 96 #[.slice a len cap, .string x] w fun e w' => e = .returned (.bool (inB xs x)) ∧ Ext w w' := by
  have HR := Lib.hid hr
  have hlen := hr.1
  simp [vstr] at hlen
  have HLEN := Lib.hid hlen
  clear hr hlen
  go_enter Tryz.func96, Tryz.ntmps96
  go_wp2_with fail
  go_loopg [8] len (fun g i wr => ∃ j : Nat, g = len - j ∧ j ≤ len ∧ i = .int .i64 j ∧ (∀ t, t ∈ xs.take j → (t.toList == x.toList) = false) ∧ Ext w wr)
  case atStart => exact ⟨0, rfl, Nat.zero_le _, rfl, by simp, Ext.refl _⟩
  case round =>
    obtain ⟨j, rfl, hj, rfl, hno, hx⟩ := hrel
    have HNO := Lib.hid hno
    clear hno
    by_cases hlt : j < len
    · obtain ⟨y, b, o, g, rfl, q⟩ := (HR.out.ext hx).str hlt
      have hz : (j : Int) < (len : Int) := by omega
      cases hq : (y.toList == x.toList)
      · have HQ := Lib.hid hq
        go_wp2_with fail
        go_roundg (len - (j + 1))
        case rel =>
          refine ⟨j + 1, rfl, by omega, by go_num, ?_, hx⟩
          intro t ht
          rw [List.take_add_one, g] at ht
          rcases List.mem_append.1 ht with ht | ht
          · exact HNO.out t ht
          · simp at ht
            subst ht
            exact HQ.out
        case measure => omega
      · have HB : Hid (inB xs x = true) := Lib.hid (by
          unfold inB
          have e : y.toList = x.toList := by simpa using hq
          exact List.any_eq_true.2 ⟨y, List.mem_of_getElem? g, by simp [e]⟩)
        have hq2 : (x.toList == y.toList) = true := by have e : y.toList = x.toList := by simpa using hq
                                                       simp [e]
        clear g
        go_wp2_with fail
        go_ret
        exact ⟨by rw [HB.out]; rfl, hx⟩
    · obtain rfl : j = len := by omega
      have HB : Hid (inB xs x = false) := Lib.hid (by
        unfold inB
        rw [List.any_eq_false]
        intro y hy
        have := HNO.out y (by rw [List.take_of_length_le (by rw [← HLEN.out]; omega)]; exact hy)
        intro e
        have e : x.toList = y.toList := by simpa using e
        simp [e] at this)
      go_wp2_with fail
      go_ret
      exact ⟨by rw [HB.out]; rfl, hx⟩
set_option maxRecDepth 8000 in
set_option maxHeartbeats 2000000 in
theorem ref5_term (k pos : Int) (a : Option Addr) (len cap : Nat) (w : World) :
    Calls Tryz.prog 121 #[.int .u8 k, .int .i64 pos, .slice a len cap] w fun e w' => e = .returned (.agg #[.int .u8 k, .int .u8 0, .int .i64 pos, .int .i64 0, .string ⟨#[]⟩, .string ⟨#[]⟩, .string ⟨#[]⟩, .slice a len cap]) ∧ Ext w w' := by
  go_enter Tryz.func121, Tryz.ntmps121
  go_wp2_with fail
  exact bodyPost_ret (v := .agg #[.int .u8 k, .int .u8 0, .int .i64 pos, .int .i64 0, .string ⟨#[]⟩, .string ⟨#[]⟩, .string ⟨#[]⟩, .slice a len cap]) (by simp [results, Tryz.results121, go_sem]) rfl ⟨rfl, by (exact eX)⟩
theorem row_at1 (w : World) (o : Obj) (t : TypeId) (l : List Value) : IsRow ((w.alloc o).alloc (.cells l.toArray t)) l (some ⟨w.heap.size + 1, 0, none⟩) l.length := by
  have h := IsRow.new (w.alloc o) t l
  rw [World.size_alloc] at h
  exact h
/-- A row of texts that was just laid. -/
def RetStrs5 (xs : List ByteArray) (w : World) (e : Ending) (w' : World) : Prop := ∃ a, e = .returned (.slice a xs.length xs.length) ∧ IsRow w' (vstr xs) a xs.length ∧ Ext w w'
set_option maxRecDepth 8000 in
set_option maxHeartbeats 2000000 in
theorem ref5_signs (k : Nat) (hk : k < 4) (w : World) : Calls Tryz.prog 97 #[.int .i64 (k : Nat)] w (RetStrs5 (signsL k) w) := by
  match k, hk with
  | 0, _ =>
    go_enter Tryz.func97, Tryz.ntmps97
    go_wp2_with fail
    go_ret
    exact ⟨_, rfl, IsRow.new w _ (vstr [s_set]), by (exact eX)⟩
  | 1, _ =>
    go_enter Tryz.func97, Tryz.ntmps97
    go_wp2_with fail
    go_ret
    exact ⟨_, rfl, IsRow.new w _ (vstr [s_less, s_eq]), by (exact eX)⟩
  | 2, _ =>
    go_enter Tryz.func97, Tryz.ntmps97
    go_wp2_with fail
    go_ret
    exact ⟨_, rfl, IsRow.new w _ (vstr [s_plus, s_minus]), by (exact eX)⟩
  | 3, _ =>
    go_enter Tryz.func97, Tryz.ntmps97
    go_wp2_with fail
    go_ret
    exact ⟨_, rfl, IsRow.new w _ (vstr [s_star]), by (exact eX)⟩
set_option maxRecDepth 8000 in
set_option maxHeartbeats 4000000 in
theorem ref5_starts (L : List Tk) (a : Option Addr) (n c i : Nat) (l : List Tk) (w : World) (hL : IsL w L a n c) (h : AtS L n i l) :
    Calls Tryz.prog 120 #[.agg #[.slice a n c, .int .i64 (i : Nat), .bool false]] w fun e w' => e = .returned (.bool (beginsT l)) ∧ Ext w w' := by
  have KX := Lib.hid fun W (x : Ext w W) => ref5_text L a n c i false l W (hL.ext x) h
  have KI := Lib.hid fun W (aa : Option Addr) (hr : IsRow W (vstr [s_bang, w_ref, w_fst, w_snd, w_raise, s_open]) aa 6) => ref5_in [s_bang, w_ref, w_fst, w_snd, w_raise, s_open] (txS l) W aa 6 6 (Nat.le_refl _) (by omega) hr
  rw [txS_is (by decide +kernel) l] at KI
  obtain ⟨t, l', b, o, rfl, rfl, hf, q0, q1, q2, -⟩ := h.tok hL
  have hz : (i : Int) < (n : Int) := by have := h.2; omega
  have HT := Lib.hid (show beginsT (t :: l') = (t.k == 1 || (t.k == 2 || isT [s_bang, w_ref, w_fst, w_snd, w_raise, s_open] (t :: l'))) from rfl)
  have lb := World.block_lt_of_cell? _ _ q0
  clear h hL
  generalize beginsT (t :: l') = r at *
  generalize isT [s_bang, w_ref, w_fst, w_snd, w_raise, s_open] (t :: l') = q at *
  generalize txS (t :: l') = tx at *
  cases e1 : (t.k == 1)
  · cases e2 : (t.k == 2)
    · have HR : Hid (r = q) := Lib.hid (by rw [HT.out, e1, e2]; rfl)
      go_enter Tryz.func120, Tryz.ntmps120
      go_wp2_with (first | (go_at_call 41; refine (KX.out _ (by (exact eX))).mono ?_; rintro e w1 ⟨rfl, x1⟩; have hrow := (row_at1 w _ _ (vstr [s_bang, w_ref, w_fst, w_snd, w_raise, s_open])).ext x1) | (go_at_call 96; refine (KI.out _ _ hrow).mono ?_; rintro e w2 ⟨rfl, x2⟩))
      go_ret
      exact ⟨by rw [HR.out]; rfl, by (exact eX)⟩
    · have HR : Hid (r = true) := Lib.hid (by rw [HT.out, e1, e2]; rfl)
      go_enter Tryz.func120, Tryz.ntmps120
      go_wp2_with fail
      go_ret
      exact ⟨by rw [HR.out]; rfl, by (exact eX)⟩
  · have HR : Hid (r = true) := Lib.hid (by rw [HT.out, e1]; rfl)
    go_enter Tryz.func120, Tryz.ntmps120
    go_wp2_with fail
    go_ret
    exact ⟨by rw [HR.out]; rfl, by (exact eX)⟩
end Go.Proofs.YtaioeailgknfjaaGreatDoor

/- The walks of words.Number and enclaveref02.Number. -/
namespace Go.Proofs.YtaioeailgknfjaaGreatDoor
open Go Go.RowKit Go.Sort

theorem row_2 (w : World) (o : Obj) (t : TypeId) : IsRow ((w.alloc o).alloc (.cells #[.int .u8 2] t)).drew (vby [2]) (some ⟨w.heap.size + 1, 0, none⟩) 1 := by
  have h := (IsRow.new (w.alloc o) t (vby [2])).ext (Ext.refl _).drew
  simpa [vby] using h
theorem head_at (s : ByteArray) (h : 0 < s.size) : s.data.toList.head? = some s[0] := by
  have h' : 0 < s.data.toList.length := by rw [Array.length_toList]; exact h
  rw [List.head?_eq_getElem?, List.getElem?_eq_getElem h']
  rfl
theorem list_size (s : ByteArray) : s.data.toList.length = s.size := by rw [Array.length_toList]; rfl
theorem num_no {s : ByteArray} (h : okN s.data.toList = false) : numV s = 0 ∧ numB s = false := by
  unfold numV numB
  rw [h]
  exact ⟨rfl, rfl⟩

/-- What a call that tells a number hands back. -/
def RetN (s : ByteArray) (w : World) (e : Ending) (w' : World) : Prop := e = .returned (.tuple #[.int .i64 (numV s), .bool (numB s)]) ∧ Ext w w'

set_option maxHeartbeats 1000000 in
theorem words_number (s : ByteArray) (w : World) : Calls Tryz.prog 130 #[.string s] w (RetN s w) := by
  by_cases hz : s = ByteArray.empty
  · subst hz
    have HN := Lib.hid (num_no (s := ByteArray.empty) rfl)
    go_enter Tryz.func130, Tryz.ntmps130
    go_wp2_with fail
    go_ret2
    exact ⟨by rw [HN.out.1, HN.out.2]; rfl, Ext.refl _⟩
  have hb := not_empty hz
  have hpos : 0 < s.size := by
    rcases Nat.eq_zero_or_pos s.size with h | h
    · exact absurd (ByteArray.size_eq_zero_iff.1 h) hz
    · exact h
  have hls := list_size s
  by_cases h10 : 10 < s.size
  · have hd : decide ((10 : Int) < (s.size : Int)) = true := by simp; omega
    have HN := Lib.hid (num_no (okN_long (l := s.data.toList) (by omega)))
    clear hls
    go_enter Tryz.func130, Tryz.ntmps130
    go_wp2_with fail
    go_ret2
    exact ⟨by rw [HN.out.1, HN.out.2]; rfl, Ext.refl _⟩
  have hd : decide ((10 : Int) < (s.size : Int)) = false := by simp; omega
  have hhd := head_at s hpos
  by_cases hlead : 1 < s.size ∧ s[0] = 48
  · have hd1 : decide ((1 : Int) < (s.size : Int)) = true := by simp; omega
    have hc : (((s[0].toNat : Nat) : Int) == 48) = true := by rw [hlead.2]; rfl
    have hno : okN s.data.toList = false := by
      unfold okN
      rw [hhd, hlead.2]
      have : (s.data.toList.length == 1) = false := by simp; omega
      rw [this]
      simp
    have HN := Lib.hid (num_no hno)
    clear hls hhd hno hlead
    go_enter Tryz.func130, Tryz.ntmps130
    go_wp2_with fail
    go_ret2
    exact ⟨by rw [HN.out.1, HN.out.2]; rfl, Ext.refl _⟩
  have hmax : s.size ≤ maxLen := by unfold maxLen; omega
  have hcv := fun w => run_bytes_of_string (P := Tryz.prog) w 9 22 5 s Tryz.underlying9 Tryz.underlying22 Tryz.underlying5
  have KP := Lib.hid fun W b o cap a' (h2 : s.size ≤ cap) (h3 : cap ≤ maxLen) (hr : IsRow W (vby (il s)) (some ⟨b, o, none⟩) s.size) (hc : IsRow W (vby [2]) a' 1) =>
    chars_span [2] (il s) 0 W b o s.size cap a' 1 1 h2 h3 (by omega) (by omega) hpos hr (fun c hc => il_bound s hc) hc
  have hgc := fun W => And.intro (grownCap_ge W s.size 0 5) (grownCap_le_maxLen W s.size 0 5 hmax)
  have HG := Lib.hid hgc
  clear hgc hmax
  simp only [List.drop_zero] at KP
  have hsd := span_digits s
  have hle := spanOf_le [2] (il s)
  rw [il_length] at hle
  have lead : decide ((1 : Int) < (s.size : Int)) = false ∨ (decide ((1 : Int) < (s.size : Int)) = true ∧ (((s[0].toNat : Nat) : Int) == 48) = false) := by
    by_cases h1 : 1 < s.size
    · refine .inr ⟨by simp; omega, ?_⟩
      rw [beq_eq_false_iff_ne]
      intro e
      apply hlead
      refine ⟨h1, UInt8.toNat_inj.1 ?_⟩
      have : s[0].toNat = 48 := by omega
      rw [this]
      rfl
    · exact .inl (by simp; omega)
  obtain ⟨n, hn⟩ : ∃ n, n = spanOf [2] (il s) := ⟨_, rfl⟩
  rw [← hn] at KP hsd hle
  clear hn
  by_cases hspan : n = s.size
  case neg =>
    have hd2 : n < s.size := by omega
    have hno : okN s.data.toList = false := by
      unfold okN
      have : s.data.toList.all isD = false := Bool.eq_false_iff.2 fun h => hspan (hsd.2 h)
      rw [this]
      simp
    have HN := Lib.hid (num_no hno)
    clear hls hhd hno hlead hsd hspan
    rcases lead with hl1 | ⟨hl1, hl2⟩
    all_goals
      go_enter Tryz.func130, Tryz.ntmps130
      go_wp2_with (go_at_call 90; refine (KP.out _ w.heap.size 0 (grownCap w s.size 0 5) _ (HG.out w).1 (HG.out w).2 (row_string w s _ _ _ _) (row_2 w _ _)).mono ?_; rintro e w2 ⟨rfl, x2⟩)
      go_ret2
      exact ⟨by rw [HN.out.1, HN.out.2]; rfl, ((((Ext.refl w).alloc _).alloc _).drew).trans x2⟩
  have hall := hsd.1 hspan
  subst hspan
  have hd2 : decide ((s.size : Int) < (s.size : Int)) = false := by simp
  have hne : s.data.toList ≠ [] := by intro e; rw [e] at hls; simp at hls; omega
  have hlast : (s.data.toList.length == 1 || s.data.toList.head? != some 48) = true := by
    by_cases h1 : 1 < s.size
    · have : s[0] ≠ 48 := fun e => hlead ⟨h1, e⟩
      rw [hhd]
      simp [this]
    · have : s.data.toList.length = 1 := by omega
      simp [this]
  have hok : okN s.data.toList = decide (valN 0 s.data.toList ≤ 2147483647) := by
    unfold okN
    rw [hall, hlast]
    have : s.data.toList.isEmpty = false := by simpa using hne
    rw [this]
    simp
  have KI := Lib.hid fun W => Tryz.strconv_ParseInt_10_at64_ok s (by omega) (valN 0 s.data.toList : Nat) (parseInt_digits s.data.toList hall hne (by omega)) W
  have hvv : numV s = if valN 0 s.data.toList ≤ 2147483647 then ((valN 0 s.data.toList : Nat) : Int) else 0 := by
    unfold numV
    rw [hok]
    by_cases h : valN 0 s.data.toList ≤ 2147483647 <;> simp [h]
  have hbb : numB s = decide (valN 0 s.data.toList ≤ 2147483647) := hok
  have HV := Lib.hid hvv
  have HB := Lib.hid hbb
  clear hvv hbb hok hlast hne hhd hlead hsd hle hls hall
  generalize valN 0 s.data.toList = v at *
  by_cases hv : v ≤ 2147483647
  all_goals
    first | rw [if_pos hv] at HV | rw [if_neg hv] at HV
    first | rw [decide_eq_true hv] at HB | rw [decide_eq_false hv] at HB
    first | have hd3 : decide ((2147483647 : Int) < (v : Int)) = false := (by simp; omega) | have hd3 : decide ((2147483647 : Int) < (v : Int)) = true := (by simp; omega)
    rcases lead with hl1 | ⟨hl1, hl2⟩
    all_goals
      go_enter Tryz.func130, Tryz.ntmps130
      go_wp2_with (first | (go_at_call 90; refine (KP.out _ w.heap.size 0 (grownCap w s.size 0 5) _ (HG.out w).1 (HG.out w).2 (row_string w s _ _ _ _) (row_2 w _ _)).mono ?_; rintro e w2 ⟨rfl, x2⟩) | (go_at_call 138; refine (KI.out _).mono ?_; rintro e w3 ⟨rfl, x3⟩))
      have y3 : Ext w2 w3 := by
        rcases x3 with rfl | ⟨t, rfl⟩
        · exact Ext.refl _
        · exact Lib.bytesWorld_below _ _ _
      go_ret2
      exact ⟨by rw [HV.out, HB.out]; rfl, ((((Ext.refl w).alloc _).alloc _).drew).trans (x2.trans y3)⟩

theorem drop_at (s : ByteArray) {j : Nat} (h : j < s.size) : s.data.toList.drop j = s[j] :: s.data.toList.drop (j + 1) := by
  have h' : j < s.data.toList.length := by rw [list_size]; exact h
  rw [List.drop_eq_getElem_cons h']
  rfl

set_option maxHeartbeats 1000000 in
theorem ref_number (s : ByteArray) (w : World) (hmax : s.size ≤ 9223372036854775807) : Calls Tryz.prog 63 #[.string s] w (RetN s w) := by
  have HLS := Lib.hid (list_size s)
  go_enter Tryz.func63, Tryz.ntmps63
  go_wp2_with fail
  go_loopg [4, 5] s.size (fun g n i wr => ∃ j v : Nat, g = s.size - j ∧ j ≤ s.size ∧ i = .int .i64 j ∧ n = .int .i64 v ∧ v ≤ 21474836479 ∧ roadN s.data.toList 0 = roadN (s.data.toList.drop j) v ∧ wr = w)
  case atStart => exact ⟨0, 0, by omega, by omega, rfl, rfl, by omega, by simp, rfl⟩
  case round =>
    obtain ⟨j, v, rfl, hj, rfl, rfl, hv, hr, rfl⟩ := hrel
    have HR := Lib.hid hr
    clear hr
    by_cases hlt : j < s.size
    · have HD := Lib.hid (drop_at s hlt)
      have hbb := byte_bound s[j]
      have hDI := isD_iff s[j]
      obtain ⟨c, hc⟩ : ∃ c : Nat, c = s[j].toNat := ⟨_, rfl⟩
      rw [← hc] at hDI
      have hcb : c ≤ 255 := by have := s[j].toNat_lt; omega
      have HC := Lib.hid hc
      have stop : (¬ (isD s[j] = true ∧ v ≤ 2147483647)) → okN s.data.toList = false := by
        intro hn
        apply road_none
        rw [HR.out, HD.out]
        unfold roadN
        rw [if_neg]
        rw [Bool.and_eq_true, decide_eq_true_eq]
        exact hn
      have go : isD s[j] = true → v ≤ 2147483647 → roadN s.data.toList 0 = roadN (s.data.toList.drop (j + 1)) (10 * v + (c - 48)) := by
        intro h1 h2
        rw [HR.out, HD.out]
        conv => lhs; unfold roadN
        rw [if_pos (by rw [h1, decide_eq_true h2]; rfl), HC.out]
      have cases : (decide ((c : Int) < 48) = true ∧ okN s.data.toList = false) ∨ (decide ((c : Int) < 48) = false ∧ decide ((57 : Int) < (c : Int)) = true ∧ okN s.data.toList = false) ∨ (decide ((c : Int) < 48) = false ∧ decide ((57 : Int) < (c : Int)) = false ∧ decide ((2147483647 : Int) < (v : Int)) = true ∧ okN s.data.toList = false)
          ∨ (decide ((c : Int) < 48) = false ∧ decide ((57 : Int) < (c : Int)) = false ∧ decide ((2147483647 : Int) < (v : Int)) = false ∧ 48 ≤ c ∧ c ≤ 57 ∧ v ≤ 2147483647 ∧ roadN s.data.toList 0 = roadN (s.data.toList.drop (j + 1)) (10 * v + (c - 48))) := by
        by_cases a1 : c < 48
        · exact .inl ⟨by simp; omega, stop fun h => by have := hDI.1 h.1; omega⟩
        by_cases a2 : 57 < c
        · exact .inr (.inl ⟨by simp; omega, by simp; omega, stop fun h => by have := hDI.1 h.1; omega⟩)
        by_cases a3 : 2147483647 < v
        · exact .inr (.inr (.inl ⟨by simp; omega, by simp; omega, by simp; omega, stop fun h => by omega⟩))
        · exact .inr (.inr (.inr ⟨by simp; omega, by simp; omega, by simp; omega, by omega, by omega, by omega, go (hDI.2 ⟨by omega, by omega⟩) (by omega)⟩))
      have ec : ((s[j].toNat : Nat) : Int) = (c : Int) := by rw [hc]
      clear stop go hDI hbb hc
      rcases cases with ⟨A, H⟩ | ⟨A, B, H⟩ | ⟨A, B, C, H⟩ | ⟨A, B, C, c1, c2, c3, H⟩
      case inr.inr.inr =>
        have HN := Lib.hid H
        clear H
        have hsub : (0 : Int) ≤ (c : Int) - 48 := by omega
        go_wp2_with fail
        go_roundg (s.size - (j + 1))
        case rel => exact ⟨j + 1, 10 * v + (c - 48), rfl, by omega, by go_num, congrArg (Value.int .i64) (by omega), by omega, HN.out, rfl⟩
        case measure => omega
      all_goals
        have HN := Lib.hid (num_no H)
        clear H
        go_wp2_with fail
        go_ret2
        exact ⟨by rw [HN.out.1, HN.out.2]; rfl, Ext.refl _⟩
    · obtain rfl : j = s.size := by omega
      have hr := HR.out
      rw [List.drop_of_length_le (by rw [HLS.out]; omega)] at hr
      have hroad : roadN s.data.toList 0 = some v := by rw [hr]; rfl
      have hval := (roadN_some _ _ _ hroad).2
      have hro := road_ok _ _ hroad
      have hVV : numV s = if okN s.data.toList then (v : Int) else 0 := by unfold numV; rw [hval]
      have KD := Lib.hid fun W => ref_digits_nat (v + 1) v W (by omega) (by omega)
      have hcmp : ((bs (Lib.decDigits v)).toList == s.toList) = decide (Lib.decDigits v = s.data.toList) := by
        rw [ByteArray.toList_eq, ByteArray.toList_eq, bs_list]
        rw [Bool.eq_iff_iff]
        simp
      have hemp : s.data.toList.isEmpty = decide ((s.size : Int) = 0) := by
        rw [Bool.eq_iff_iff, List.isEmpty_iff, decide_eq_true_eq]
        have := HLS.out
        constructor
        · intro h; rw [h] at this; simp at this; omega
        · intro h; exact List.eq_nil_of_length_eq_zero (by omega)
      have HV := Lib.hid hVV
      have HB : Hid (numB s = okN s.data.toList) := rfl
      clear hr hroad hval hVV HR
      generalize okN s.data.toList = ok at *
      have d0 : decide ((s.size : Int) = 0) = ((s.size : Int) == 0) := rfl
      rw [d0] at hemp
      rw [hemp, ← hcmp] at hro
      have d1 : decide (v ≤ 2147483647) = !decide ((2147483647 : Int) < (v : Int)) := by
        rw [Bool.eq_iff_iff]; simp; omega
      rw [d1] at hro
      have HRO := Lib.hid hro
      clear hro d0 d1 hemp hcmp
      generalize bs (Lib.decDigits v) = D at *
      cases A : ((s.size : Int) == 0)
      case true =>
        rw [A] at HRO
        have hok := HRO.out
        simp at hok
        subst hok
        go_wp2_with fail
        go_ret2
        exact ⟨by rw [HV.out, HB.out]; rfl, Ext.refl _⟩
      cases B : decide ((2147483647 : Int) < (v : Int))
      case true =>
        rw [A, B] at HRO
        have hok := HRO.out
        simp at hok
        subst hok
        go_wp2_with fail
        go_ret2
        exact ⟨by rw [HV.out, HB.out]; rfl, Ext.refl _⟩
      cases C : (D.toList == s.toList)
      all_goals
        rw [A, B, C] at HRO
        have hok := HRO.out
        simp at hok
        subst hok
        have C1 : (D.toList != s.toList) = !(D.toList == s.toList) := rfl
        rw [C] at C1
        go_wp2_with (go_at_call 50; refine (KD.out _).mono ?_; rintro e w2 ⟨rfl, x2⟩)
        go_ret2
        exact ⟨by rw [HV.out, HB.out]; rfl, x2⟩
end Go.Proofs.YtaioeailgknfjaaGreatDoor

/- Rows of names: the walks of Contains, In, with, on both sides. The names that are bound in a kid: the walks of names.inner and enclaveref07.Bound; names.free, raises. -/
namespace Go.Proofs.YtaioeailgknfjaaGreatDoor
open Go Go.RowKit Go.Sort

set_option maxHeartbeats 400000 in
theorem strs_contains (x : ByteArray) (l : List ByteArray) (w : World) (a : Option Addr) (len cap : Nat) (h1 : len ≤ cap) (h2 : cap ≤ 9223372036854775807) (hl : IsRow w (vstr l) a len) :
    Calls Tryz.prog 70 #[.slice a len cap, .string x] w fun e w' => e = .returned (.bool (inB l x)) ∧ Ext w w' := by
  have HF : Hid (decide (0 ≤ fidx (fun y : ByteArray => x.toList == y.toList) l) = inB l x) := Lib.hid (fidx_nonneg _ l)
  have HI := Lib.hid (strs_index x l w a len cap h1 h2 hl)
  clear hl
  go_enter Tryz.func70, Tryz.ntmps70
  go_wp2_with (go_at_call 94; refine HI.out.mono ?_; rintro e w1 ⟨rfl, x1⟩)
  go_ret
  exact ⟨ret_bool HF.out, x1⟩

end Go.Proofs.YtaioeailgknfjaaGreatDoor

/- The laws of tokens, in plain Lean; no program in sight. -/
namespace Go.Proofs.YtaioeailgknfjaaGreatDoor
open Go

/-- A rest that ends a token: it is empty, or begins with a blank. -/
def Stop (b : List UInt8) : Prop := ∀ c r, b = c :: r → clsU c = 1
theorem Stop.nil : Stop [] := fun c r e => by cases e
theorem span_stop_append {cl : List Int} (hc : cl.contains 1 = false) (l : List UInt8) {b : List UInt8} (hb : Stop b) : spanU cl (l ++ b) = spanU cl l := by
  induction l with
  | nil =>
    cases b with
    | nil => rfl
    | cons c r => rw [List.nil_append, spanU_zero (by rw [hb c r rfl]; exact hc)]; rfl
  | cons a l ih =>
    rw [List.cons_append]
    cases ha : cl.contains (clsU a)
    · rw [spanU_zero ha, spanU_zero ha]
    · rw [spanU_pos ha, spanU_pos ha, ih]
theorem cls_eq : clsU 61 = 5 ∧ clsU 62 = 5 := by decide
theorem signOf_append (c : UInt8) (r : List UInt8) {b : List UInt8} (hb : Stop b) : signOf (c :: r ++ b) = signOf (c :: r) := by
  have e : ((c :: r ++ b).take 2 = [58, 61] ∨ (c :: r ++ b).take 2 = [61, 62]) ↔ ((c :: r).take 2 = [58, 61] ∨ (c :: r).take 2 = [61, 62]) := by
    cases r with
    | cons d r => simp
    | nil =>
      cases b with
      | nil => simp
      | cons d b =>
        have h1 := hb d b rfl
        have n1 : d ≠ 61 := fun e => by rw [e, cls_eq.1] at h1; omega
        have n2 : d ≠ 62 := fun e => by rw [e, cls_eq.2] at h1; omega
        simp [n1, n2]
  unfold signOf
  simp only [e]
  rfl
/-- What stands behind a token's end plays no part. -/
theorem tokAt_append (c : UInt8) (r : List UInt8) {b : List UInt8} (hb : Stop b) : tokAt (c :: r ++ b) = tokAt (c :: r) := by
  have t : ∀ cl : List Int, cl.contains 1 = false → (c :: (r ++ b)).take (spanU cl (c :: r)) = (c :: r).take (spanU cl (c :: r)) := by
    intro cl _
    rw [← List.cons_append, List.take_append_of_le_length (spanU_le _ _)]
  have s2 : spanU [2] (c :: (r ++ b)) = spanU [2] (c :: r) := span_stop_append rfl (c :: r) hb
  have s3 : spanU [2, 3, 4] (c :: (r ++ b)) = spanU [2, 3, 4] (c :: r) := span_stop_append rfl (c :: r) hb
  have s5 : signOf (c :: (r ++ b)) = signOf (c :: r) := signOf_append c r hb
  rw [List.cons_append]
  unfold tokAt
  simp only
  rw [s2, s3, s5, t [2] rfl, t [2, 3, 4] rfl]
/-- A proof on tokens goes through the text from the left. -/
theorem lex_ind {P : Nat → List UInt8 → Prop} (h0 : ∀ p, P p [])
    (h1 : ∀ p c r, clsU c = 1 → P (p + 1) r → P p (c :: r))
    (h2 : ∀ p c r, clsU c ≠ 1 → tokAt (c :: r) = none → P p (c :: r))
    (h3 : ∀ p c r n k, clsU c ≠ 1 → tokAt (c :: r) = some (n, k) → P (p + n) ((c :: r).drop n) → P p (c :: r)) : ∀ (m p : Nat) (l : List UInt8), l.length ≤ m → P p l := by
  intro m
  induction m with
  | zero =>
    intro p l hl
    have : l = [] := List.eq_nil_of_length_eq_zero (by omega)
    subst this
    exact h0 p
  | succ m ih =>
    intro p l hl
    cases l with
    | nil => exact h0 p
    | cons c r =>
      simp only [List.length_cons] at hl
      by_cases hc : clsU c = 1
      · exact h1 p c r hc (ih _ _ (by omega))
      cases ht : tokAt (c :: r) with
      | none => exact h2 p c r hc ht
      | some nk =>
        obtain ⟨n, k⟩ := nk
        have hb := tokAt_bd ht
        simp only [List.length_cons] at hb
        exact h3 p c r n k hc ht (ih _ _ (by simp; omega))
/-- A token that stands elsewhere. -/
def Tok.moved (d e : Nat) (t : Tok) : Tok := ⟨t.k, t.text, t.pos + d + if t.k = 6 then e else 0⟩
def moveR (d e : Nat) (r : Except Nat (List Tok)) : Except Nat (List Tok) := match r with
  | .error q => .error (q + d)
  | .ok o => .ok (o.map (Tok.moved d e))
theorem moveR_cons (d e : Nat) (t : Tok) (r : Except Nat (List Tok)) : moveR d e (r.map fun o => t :: o) = (moveR d e r).map fun o => t.moved d e :: o := by cases r <;> rfl
theorem lexL_moved (d : Nat) (b : List UInt8) (hb : ∀ c, c ∈ b → clsU c = 1) (p : Nat) (l : List UInt8) : lexL (p + d) (l ++ b) = moveR d b.length (lexL p l) := by
  have hs : Stop b := fun c r e => hb c (by rw [e]; simp)
  have hbl : ∀ (b : List UInt8) (q : Nat), (∀ c, c ∈ b → clsU c = 1) → lexL q b = .ok [⟨6, ByteArray.empty, q + b.length⟩] := by
    intro b
    induction b with
    | nil => intro q _; rfl
    | cons c b ih => intro q h; rw [lexL_blank (h c (by simp)), ih _ fun c hc => h c (by simp [hc])]; simp; omega
  refine lex_ind (P := fun p l => lexL (p + d) (l ++ b) = moveR d b.length (lexL p l)) ?_ ?_ ?_ ?_ l.length p l (Nat.le_refl _)
  · intro p
    rw [List.nil_append, hbl b _ hb, lexL_nil]
    rfl
  · intro p c r hc ih
    rw [List.cons_append, lexL_blank hc, lexL_blank hc, ← ih]
    congr 1
    omega
  · intro p c r hc ht
    have := tokAt_append c r hs
    rw [ht] at this
    rw [List.cons_append] at this ⊢
    rw [lexL_none hc _ this, lexL_none hc _ ht]
    rfl
  · intro p c r n k hc ht ih
    have hbd := tokAt_bd ht
    have h2 := tokAt_append c r hs
    rw [ht] at h2
    rw [lexL_tok hc _ ht, moveR_cons, ← ih]
    have hk : k ≠ 6 := by omega
    rw [List.cons_append] at h2 ⊢
    rw [lexL_tok hc _ h2, ← List.cons_append, List.drop_append_of_le_length hbd.2.1, List.take_append_of_le_length hbd.2.1]
    have : p + d + n = p + n + d := by omega
    rw [this]
    simp [Tok.moved, hk]
/-- The end is the last one. -/
theorem lexL_last {p : Nat} {l : List UInt8} {o : List Tok} (h : lexL p l = .ok o) : ∃ o', o = o' ++ [⟨6, ByteArray.empty, p + l.length⟩] ∧ ∀ t, t ∈ o' → t.k ≠ 6 := by
  have := lex_ind (P := fun p l => ∀ o, lexL p l = .ok o → ∃ o', o = o' ++ [⟨6, ByteArray.empty, p + l.length⟩] ∧ ∀ t, t ∈ o' → t.k ≠ 6) ?_ ?_ ?_ ?_ l.length p l (Nat.le_refl _)
  · exact this o h
  · intro p o h; cases h; exact ⟨[], rfl, by simp⟩
  · intro p c r hc ih o h
    rw [lexL_blank hc] at h
    obtain ⟨o', e, hk⟩ := ih o h
    exact ⟨o', by rw [e, List.length_cons]; congr 3; omega, hk⟩
  · intro p c r hc ht o h; rw [lexL_none hc _ ht] at h; cases h
  · intro p c r n k hc ht ih o h
    rw [lexL_tok hc _ ht] at h
    have hbd := tokAt_bd ht
    cases hr : lexL (p + n) ((c :: r).drop n) with
    | error e => rw [hr] at h; cases h
    | ok o2 =>
      rw [hr] at h
      cases h
      obtain ⟨o', e, hk⟩ := ih o2 hr
      refine ⟨⟨k, bs ((c :: r).take n), p⟩ :: o', ?_, ?_⟩
      · rw [e, List.cons_append, List.length_drop]
        congr 4
        omega
      · intro t htm
        rcases List.mem_cons.1 htm with rfl | htm
        · simp only; omega
        · exact hk t htm
end Go.Proofs.YtaioeailgknfjaaGreatDoor

