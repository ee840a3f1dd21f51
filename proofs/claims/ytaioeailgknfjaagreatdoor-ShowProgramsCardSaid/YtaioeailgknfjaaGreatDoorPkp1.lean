/- Part 1 of the proof: Mem, Held, Bytes, Find, PureW, RowMem; no condition of ours. -/
import Derived.WalkKit
import Derived.WalkLawsBesides
import Derived.WalkSpells
import Derived.Lib.Hide
import Derived.Lib.QuietBelow
import Derived.BigQuiet
import Derived.KernelRfl
import Derived.Deep.RegionHeld3
import Derived.Lib.Bytealg
import Derived.Test.YtaioeailgknfjaaGreatDoorShelf
import Derived.Deep.DeepCutAuto
import Derived.Deep.CutBlock
import Derived.Deep.LoopGhost
import Derived.Shelf.Abstract
import Derived.Test.YtaioeailgknfjaaGreatDoorProg
import Derived.ProofKit
import Derived.OpenShut
import Derived.Lib.ItoaNum
import Derived.Lib.ItoaLen
import Derived.Lib.Join
import Derived.Lib.LaidTab
import Derived.WalkSmall
import Derived.Test.YtaioeailgknfjaaGreatDoorRows
import Derived.LaidSub
import Derived.Deep.DeepHandedRow
import Derived.Laws.AppendOwn
import Derived.SizedLaws
import Derived.Lib.AppendStr
import Derived.OwnWalk
import Derived.Lib.ParseIntBCases
import Derived.Lib.AtoiErrMem
import Derived.Lib.SmallJoins
import Derived.ArgAppend
import Derived.Laws.BytesString
import Derived.Laws.OwnMore
import Derived.Recover
import Derived.Defers
import Derived.Tactics2
import Derived.RegionTactic
import Derived.ChangeAlike
import Derived.Laws.AppendOwnNone
import Derived.Lib.ConvBytes
import Derived.Lib.SlBytesConst
import Derived.Laws.StructEq
set_option linter.unusedVariables false
set_option linter.unusedSimpArgs false
namespace Go.Proofs.YtaioeailgknfjaaGreatDoor
open Go Go.RowKit Go.Sort
def Ext (w w' : World) : Prop := Below w.heap.size w w'
theorem Ext.refl (w : World) : Ext w w := Below.refl _ _
theorem Ext.size {w w' : World} (h : Ext w w') : w.heap.size ≤ w'.heap.size := Below.size h
theorem Ext.trans {a b c : World} (h : Ext a b) (k : Ext b c) : Ext a c := Below.trans h (Below.mono k (Below.size h))
theorem Ext.alloc {a w : World} (h : Ext a w) (o : Obj) : Ext a (w.alloc o) := Below.alloc h (Below.size h) o
theorem Ext.drew {a w : World} (h : Ext a w) : Ext a w.drew := Below.drew h
theorem Ext.setCell {a w : World} (h : Ext a w) {p : Addr} (hp : a.heap.size ≤ p.block) (u : Value) : Ext a (w.setCell p u) := Below.setCell h hp u
theorem eA {w : World} : Ext w w := Ext.refl w
theorem eB {a w : World} {o : Obj} (h : Ext a w) : Ext a (w.alloc o) := h.alloc o
theorem eC {a w : World} (h : Ext a w) : Ext a w.drew := h.drew
theorem eD {a w : World} {p : Addr} {u : Value} (h : Ext a w) (hp : a.heap.size ≤ p.block) : Ext a (w.setCell p u) := h.setCell hp u
theorem eX {a b : World} (h : Ext a b := by (repeat first|(with_reducible first|assumption|exact eA|refine eB ?_|refine eC ?_)|((with_reducible refine eD ?_ ?_);rotate_left;(first|(focus (simp;done))|(focus (simp;omega))|omega))|exact eA|assumption|refine eB ?_|refine eC ?_|refine eD ?_ (by (first|(focus (simp;done))|(focus (simp;omega))|omega))|refine Ext.trans ?_ (by assumption))) : Ext a b := h
theorem pA {α : Type} (l : List α) (i : Nat) (a : α) : l.toArray.setIfInBounds i a = (l.set i a).toArray := by simp
theorem pB {α : Type} (x : α) (l : List α) (a : α) : (x :: l).set 0 a = a :: l := rfl
theorem pC {α : Type} (x : α) (l : List α) (n : Nat) (a : α) : (x :: l).set (n + 1) a = x :: l.set n a := rfl
theorem Ext.cell {w w' : World} (h : Ext w w') {p : Addr} {v : Value} (hc : w.cell? p = some v) : w'.cell? p = some v := (Below.cell h (block_lt_of_cell hc)).trans hc
theorem ext_of_regrown {w w' : World} (h : ∃ p : Regrown, w' = grow (redrawn w p.d) p.os) : Ext w w' := by
  obtain ⟨p, rfl⟩ := h
  exact below_regrown w p.d p.os
theorem ext_regrown (w : World) (d : Nat) (os : Array Obj) : Ext w (grow (redrawn w d) os) := below_regrown w d os
theorem cells_regrown {w : World} {p : Addr} {v : Value} (h : w.cell? p = some v) : ∀ (d : Nat) (os : Array Obj), (grow (redrawn w d) os).cell? p = some v := fun d os => cell_regrown h d os
theorem box_regrown (w : World) : ∀ (cs : Array Value) (t : TypeId) (d : Nat) (os : Array Obj) (i : Nat), (grow (redrawn (w.alloc (.cells cs t)) d) os).cell? ⟨w.heap.size, i, none⟩ = cs[i]? := by
  intro cs t d os i
  have h := (below_regrown (w.alloc (.cells cs t)) d os).cell (p := ⟨w.heap.size, i, none⟩) (by simp)
  rw [h, World.cell?_alloc_new]
theorem quiet_ext {P : Program} {f : FuncId} {args : Array Value} {w : World} {v : Value} (h : ∀ w1, Ext w w1 → Calls P f args w1 fun e w' => e = .returned v ∧ Ext w1 w') :
    ∀ (d : Nat) (os : Array Obj), Calls P f args (grow (redrawn w d) os) fun e w'' => e = .returned v ∧ ∃ p : Regrown, w'' = grow (redrawn w p.d) p.os :=
  fun d os => Calls.regrown_of (h _ (ext_regrown w d os))
theorem cell_spot {w : World} {a : Addr} {v : Value} (h : w.cell? a = some v) : a.spot = none := by
  unfold World.cell? at h
  split at h
  · split at h
    · cases h
    · rename_i hs; simpa using hs
  · cases h
theorem ret_int {k : IntKind} {a b : Int} (h : a = b) : Ending.returned (.int k a) = .returned (.int k b) := by rw [h]
theorem ret_bool {a b : Bool} (h : a = b) : Ending.returned (.bool a) = .returned (.bool b) := by rw [h]
def NoA : Nat → Prop := fun _ => False
def Blk (w : World) (g : Nat) (t : TypeId) (cs : Array Value) : Prop := w.heap[g]? = some (.cells cs t (0, 0))
theorem Blk.lt {w : World} {g : Nat} {t : TypeId} {cs : Array Value} (h : Blk w g t cs) : g < w.heap.size := by
  rcases Nat.lt_or_ge g w.heap.size with hlt | hge
  · exact hlt
  · unfold Blk at h; rw [Array.getElem?_eq_none hge] at h; cases h
theorem Blk.cell {w : World} {g : Nat} {t : TypeId} {cs : Array Value} (h : Blk w g t cs) (i : Nat) : w.cell? ⟨g, i, none⟩ = cs[i]? := cell_of_row w g i cs t (0, 0) h
theorem Blk.frozen {w : World} {g : Nat} {t : TypeId} {cs : Array Value} (h : Blk w g t cs) (i : Nat) : w.frozen? ⟨g, i, none⟩ = false := by
  unfold Blk at h
  simp [World.frozen?, h]
theorem Blk.new (w : World) (t : TypeId) (cs : Array Value) : Blk (w.alloc (.cells cs t)) w.heap.size t cs := heap_alloc_new w _
theorem Blk.alloc {w : World} {g : Nat} {t : TypeId} {cs : Array Value} (h : Blk w g t cs) (o : Obj) : Blk (w.alloc o) g t cs := (Below.heap_alloc w o g h.lt).trans h
theorem Blk.drew {w : World} {g : Nat} {t : TypeId} {cs : Array Value} (h : Blk w g t cs) : Blk w.drew g t cs := h
theorem Blk.ext {w w' : World} {g : Nat} {t : TypeId} {cs : Array Value} (h : Blk w g t cs) (hx : Ext w w') : Blk w' g t cs := (Below.block hx g h.lt).trans h
theorem Blk.set_ {w : World} {g : Nat} {t : TypeId} {cs : Array Value} (h : Blk w g t cs) (i : Nat) (u : Value) : Blk (w.setCell ⟨g, i, none⟩ u) g t (cs.setIfInBounds i u) := by
  unfold Blk at h ⊢
  simp [World.setCell, Array.getElem?_modify, h]
theorem Blk.far {w : World} {g : Nat} {t : TypeId} {cs : Array Value} (h : Blk w g t cs) {p : Addr} (hp : g ≠ p.block) (u : Value) : Blk (w.setCell p u) g t cs := (Below.heap_setCell w p u g hp).trans h
structure ExtX (A : Nat → Prop) (w w' : World) : Prop where
  os : w'.os = w.os
  tape : w'.tape = w.tape
  output : w'.output = w.output
  size : w.heap.size ≤ w'.heap.size
  block : ∀ k, k < w.heap.size → ¬ A k → w'.heap[k]? = w.heap[k]?
theorem ExtX.refl {A : Nat → Prop} (w : World) : ExtX A w w := ⟨rfl, rfl, rfl, Nat.le_refl _, fun _ _ _ => rfl⟩
theorem ExtX.of {A : Nat → Prop} {w w' : World} (h : Ext w w') : ExtX A w w' := ⟨Below.os h, Below.tape h, Below.output h, Below.size h, fun k hk _ => Below.block h k hk⟩
theorem ExtX.trans {A : Nat → Prop} {a b c : World} (h : ExtX A a b) (k : ExtX A b c) : ExtX A a c :=
  ⟨k.os.trans h.os, k.tape.trans h.tape, k.output.trans h.output, Nat.le_trans h.size k.size, fun i hi ha => (k.block i (Nat.lt_of_lt_of_le hi h.size) ha).trans (h.block i hi ha)⟩
theorem ExtX.then_ {A : Nat → Prop} {a b c : World} (h : ExtX A a b) (k : Ext b c) : ExtX A a c := h.trans (.of k)
theorem ExtX.alloc {A : Nat → Prop} {a w : World} (h : ExtX A a w) (o : Obj) : ExtX A a (w.alloc o) := h.then_ ((Ext.refl _).alloc o)
theorem ExtX.drew {A : Nat → Prop} {a w : World} (h : ExtX A a w) : ExtX A a w.drew := h.then_ (Ext.refl _).drew
theorem ExtX.setCell {A : Nat → Prop} {a w : World} (h : ExtX A a w) {p : Addr} (hp : A p.block ∨ a.heap.size ≤ p.block) (u : Value) : ExtX A a (w.setCell p u) :=
  ⟨h.os, h.tape, h.output, by simpa [World.setCell] using h.size, fun k hk ha => (Below.heap_setCell _ _ _ _ (by
    rintro rfl
    rcases hp with hp | hp
    · exact ha hp
    · omega)).trans (h.block k hk ha)⟩
theorem xA {A : Nat → Prop} {w : World} : ExtX A w w := ExtX.refl w
theorem xB {A : Nat → Prop} {a w : World} {o : Obj} (h : ExtX A a w) : ExtX A a (w.alloc o) := h.alloc o
theorem xC {A : Nat → Prop} {a w : World} (h : ExtX A a w) : ExtX A a w.drew := h.drew
theorem xD {A : Nat → Prop} {a w : World} {p : Addr} {u : Value} (h : ExtX A a w) (hp : A p.block ∨ a.heap.size ≤ p.block) : ExtX A a (w.setCell p u) := h.setCell hp u
theorem xX {A : Nat → Prop} {a b : World} (h : ExtX A a b := by (repeat first|(with_reducible first|assumption|exact xA|refine xB ?_|refine xC ?_)|((with_reducible refine xD ?_ ?_);rotate_left;(first|(left;rfl)|(left;left;rfl)|(left;right;rfl)|(left;right;exact Nat.le_refl _)|(left;right;assumption)|(right;(focus (simp;done)))|(right;(focus (simp;omega)))|(right;omega)))|(with_reducible refine ExtX.then_ ?_ (by assumption)))) : ExtX A a b := h
theorem ExtX.cell {A : Nat → Prop} {w w' : World} (h : ExtX A w w') {p : Addr} {v : Value} (ha : ¬ A p.block) (hc : w.cell? p = some v) : w'.cell? p = some v :=
  (World.cell?_of_block (w := w) (h.block p.block (block_lt_of_cell hc) ha)).trans hc
theorem ExtX.ext {A : Nat → Prop} {w w0 w' : World} (h0 : Ext w w0) (h : ExtX A w0 w') (ha : ∀ b, A b → w.heap.size ≤ b) : Ext w w' :=
  ⟨h.os.trans (Below.os h0), h.tape.trans (Below.tape h0), h.output.trans (Below.output h0), Nat.le_trans (Below.size h0) h.size, fun k hk =>
    (h.block k (Nat.lt_of_lt_of_le hk (Below.size h0)) (fun hA => by have := ha k hA; omega)).trans (Below.block h0 k hk)⟩
section
variable {P : Program} {l : List Oper} {Q : Exit → Act → World → Prop} {S : World → Prop}
theorem held_take (i : Nat) {oi : Oper} {v : Value} {fuel : Nat} {listed : Array Bool} {a : Act} {w : World} (hi : l[i]? = some oi)
    (hs : Region.noSelect l.toArray = true) (hf : Region.free .any l.toArray listed i = true) (hr : (Region.ready .any l.toArray listed).contains i = true)
    (hQ : ∀ c a w, Q (.panic c) (a.put oi.dst v) w → Q (.panic c) a w) (hS : S w)
    (hw : Region.wanted oi (yielded l.toArray a.tmps) = true) (hy : ∀ w, S w → (execOp a.eval oi).run P w = .ok (.value v) w)
    (h : wpAnyH P .any l.toArray Q S fuel (listed.setIfInBounds i true) (a.put oi.dst v) w) : wpAnyH P .any l.toArray Q S (fuel + 1) listed a w :=
  wpAnyH_take (i := i) (by simpa using hi) hs hf hr hQ (.inl ⟨hw, hy⟩) hS h
theorem held_skip (i : Nat) {oi : Oper} {fuel : Nat} {listed : Array Bool} {a : Act} {w : World} (hi : l[i]? = some oi)
    (hs : Region.noSelect l.toArray = true) (hf : Region.free .any l.toArray listed i = true) (hr : (Region.ready .any l.toArray listed).contains i = true)
    (hQ : ∀ c a w, Q (.panic c) (a.put oi.dst undef) w → Q (.panic c) a w) (hS : S w)
    (hw : Region.wanted oi (yielded l.toArray a.tmps) = false)
    (h : wpAnyH P .any l.toArray Q S fuel (listed.setIfInBounds i true) (a.put oi.dst undef) w) : wpAnyH P .any l.toArray Q S (fuel + 1) listed a w :=
  wpAnyH_take (i := i) (by simpa using hi) hs hf hr hQ (.inr ⟨hw, rfl⟩) hS h
theorem held_do (i : Nat) {oi : Oper} {fuel : Nat} {listed : Array Bool} {a : Act} {w : World} (hi : l[i]? = some oi)
    (hr : Region.ready .any l.toArray listed = [i]) (hw : Region.wanted oi (yielded l.toArray a.tmps) = true)
    (h : ∀ K' : Act → World → Prop, Shut (∀ a w, S w → (S w → wpAnyH P .any l.toArray Q S fuel (listed.setIfInBounds i true) a w) → K' a w) → Oper.wp P oi a w K' Q) : wpAnyH P .any l.toArray Q S (fuel + 1) listed a w :=
  wpAnyH_ready hr (by simp) (AllReadyH.cons (o := oi) (by simpa using hi) (fun K hK => by rw [if_pos hw]; exact h K hK) AllReadyH.nil)
theorem tL (i : Nat) {oi : Oper} {v : Value} {fuel : Nat} {listed : Array Bool} {a : Act} {w : World} (h : wpAnyH P .any l.toArray Q S fuel (listed.setIfInBounds i true) (a.put oi.dst v) w)
    (hi : l[i]? = some oi := by rfl) (hs : Region.noSelect l.toArray = true := by kernel_rfl) (hf : Region.free .any l.toArray listed i = true := by kernel_rfl) (hr : (Region.ready .any l.toArray listed).contains i = true := by kernel_rfl)
    (hS : S w := by assumption) (hw : Region.wanted oi (yielded l.toArray a.tmps) = true := by rfl) (hy : ∀ w, S w → (execOp a.eval oi).run P w = .ok (.value v) w := by intro w hSw;(try dsimp only at hSw);go_simp;(try with_reducible rfl)) (hQ : ∀ c a w, Q (.panic c) (a.put oi.dst v) w → Q (.panic c) a w := by exact fun _ _ _ h => h) : wpAnyH P .any l.toArray Q S (fuel + 1) listed a w :=
  held_take i hi hs hf hr hQ hS hw hy h
theorem dK (i : Nat) {oi : Oper} {fuel : Nat} {listed : Array Bool} {a : Act} {w : World}
    (h : ∀ K' : Act → World → Prop, Shut (∀ a w, S w → (S w → wpAnyH P .any l.toArray Q S fuel (listed.setIfInBounds i true) a w) → K' a w) → Oper.wp P oi a w K' Q)
    (hi : l[i]? = some oi := by rfl) (hr : Region.ready .any l.toArray listed = [i] := by kernel_rfl) (hw : Region.wanted oi (yielded l.toArray a.tmps) = true := by rfl) : wpAnyH P .any l.toArray Q S (fuel + 1) listed a w :=
  held_do i hi hr hw h
theorem held_cons (i : Nat) {oi : Oper} {fuel : Nat} {listed : Array Bool} {a : Act} {w : World} {rs : List Nat} (hi : l[i]? = some oi) (hw : Region.wanted oi (yielded l.toArray a.tmps) = true)
    (h : ∀ K' : Act → World → Prop, Shut (∀ a w, S w → (S w → wpAnyH P .any l.toArray Q S fuel (listed.setIfInBounds i true) a w) → K' a w) → Oper.wp P oi a w K' Q)
    (hs : AllReadyH P .any l.toArray Q S fuel listed a w rs) : AllReadyH P .any l.toArray Q S fuel listed a w (i :: rs) :=
  AllReadyH.cons (o := oi) (by simpa using hi) (fun K hK => by rw [if_pos hw]; exact h K hK) hs
end
end Go.Proofs.YtaioeailgknfjaaGreatDoor
namespace Go.Proofs.YtaioeailgknfjaaGreatDoor
open Go
def bs (l : List UInt8) : ByteArray := ⟨l.toArray⟩
theorem bs_append (a b : List UInt8) : bs a ++ bs b = bs (a ++ b) := by
  unfold bs
  apply ByteArray.ext
  simp
theorem bs_size (a : List UInt8) : (bs a).size = a.length := by simp [bs, ByteArray.size]
theorem bs_list (a : List UInt8) : (bs a).data.toList = a := by simp [bs]
theorem bs_inj {a b : List UInt8} : bs a = bs b ↔ a = b := by
  constructor
  · intro h; rw [← bs_list a, h, bs_list]
  · rintro rfl; rfl
theorem bs_of (s : ByteArray) : s = bs s.data.toList := by
  obtain ⟨⟨l⟩⟩ := s
  rfl
end Go.Proofs.YtaioeailgknfjaaGreatDoor
namespace Go.Proofs.YtaioeailgknfjaaGreatDoor
def fidx {α : Type} (q : α → Bool) (l : List α) : Int := if l.any q then (l.findIdx q : Nat) else -1
theorem fidx_none {α : Type} {q : α → Bool} {l : List α} (h : ∀ t, t ∈ l → q t = false) : fidx q l = -1 := by
  unfold fidx
  rw [if_neg]
  simp only [List.any_eq_true, not_exists, not_and]
  intro t ht
  simp [h t ht]
theorem fidx_at {α : Type} {q : α → Bool} {l : List α} {i : Nat} {t : α} (h : ∀ t, t ∈ l.take i → q t = false) (g : l[i]? = some t) (hq : q t = true) : fidx q l = i := by
  unfold fidx
  rw [if_pos (List.any_eq_true.2 ⟨t, List.mem_of_getElem? g, hq⟩)]
  congr 1
  have hi : i < l.length := by
    rcases Nat.lt_or_ge i l.length with h | h
    · exact h
    · rw [List.getElem?_eq_none h] at g; cases g
  refine (List.findIdx_eq hi).2 ⟨?_, fun j hj => ?_⟩
  · rw [List.getElem?_eq_getElem hi] at g; cases g; exact hq
  · rw [Bool.eq_false_iff, ne_eq, Bool.not_eq_true]
    exact h _ (List.mem_take_iff_getElem.2 ⟨j, by omega, rfl⟩)
theorem fidx_nonneg {α : Type} (q : α → Bool) (l : List α) : decide (0 ≤ fidx q l) = l.any q := by
  unfold fidx
  cases h : l.any q <;> simp
theorem fidx_bd {α : Type} (q : α → Bool) (l : List α) : -1 ≤ fidx q l ∧ fidx q l ≤ l.length := by
  unfold fidx
  split
  · have := List.findIdx_le_length (xs := l) (p := q); omega
  · omega
end Go.Proofs.YtaioeailgknfjaaGreatDoor
namespace Go.Proofs.YtaioeailgknfjaaGreatDoor
open Go
def signs : List Int := [40, 41, 44, 33, 58, 61, 62, 43, 45, 42, 60, 59]
def cls (c : Int) : Int :=
  if c = 32 ∨ c = 9 ∨ c = 10 then 1 else if 48 ≤ c ∧ c ≤ 57 then 2 else if 97 ≤ c ∧ c ≤ 122 then 3 else if 65 ≤ c ∧ c ≤ 90 then 4 else if c ∈ signs then 5 else 0
def il (s : ByteArray) : List Int := s.data.toList.map fun b => (b.toNat : Int)
theorem il_length (s : ByteArray) : (il s).length = s.size := by rw [il, List.length_map, Array.length_toList]; rfl
theorem il_bound (s : ByteArray) {c : Int} (h : c ∈ il s) : 0 ≤ c ∧ c ≤ 255 := by
  simp only [il, List.mem_map] at h
  obtain ⟨b, _, rfl⟩ := h
  have := b.toNat_lt
  omega
theorem cls_bound (c : Int) : 0 ≤ cls c ∧ cls c ≤ 5 := by unfold cls; repeat' split <;> try omega
def inner (c : Int) : Bool := decide (2 ≤ cls c) && decide (cls c ≤ 4)
def shapely (l : List Int) (f : Int) : Bool :=
  match l with
  | [] => false
  | c :: _ => decide (l.length ≤ 16) && (cls c == f) && l.all inner
theorem il_at (s : ByteArray) {i : Nat} (h : i < s.size) : (il s)[i]? = some ((s[i].toNat : Nat) : Int) := by
  have h' : i < s.data.toList.length := by rw [Array.length_toList]; exact h
  rw [il, List.getElem?_map, List.getElem?_eq_getElem h']
  rfl
theorem byte_bound (b : UInt8) : 0 ≤ ((b.toNat : Nat) : Int) ∧ ((b.toNat : Nat) : Int) ≤ 255 := by
  have := b.toNat_lt
  omega
theorem shapely_eq (s : ByteArray) (f : Int) (h : 0 < s.size) : shapely (il s) f = (decide (s.size ≤ 16) && (cls ((s[0].toNat : Nat) : Int) == f) && (il s).all inner) := by
  have h0 := il_at s h
  have hl := il_length s
  cases hc : il s with
  | nil => rw [hc] at hl; simp at hl; omega
  | cons c l =>
    rw [hc] at h0 hl
    simp at h0
    subst h0
    unfold shapely
    rw [hl]
theorem nat_beq_zero (k : Nat) : ((k : Int) == 0) = (k == 0) := by rw [Bool.eq_iff_iff]; simp
def keyw : List (List UInt8) := [[108, 101, 116], [108, 101, 116, 114, 101, 99], [105, 110], [102, 110], [105, 102], [116, 104, 101, 110], [101, 108, 115, 101], [114, 97, 105, 115, 101], [116, 114, 121], [119, 105, 116, 104], [114, 101, 102], [102, 115, 116], [115, 110, 100], [101, 120, 110]]
def placeOf (s : List UInt8) : List (List UInt8) → Nat → Nat
  | [], _ => 0
  | x :: l, n => if x = s then n else placeOf s l (n + 1)
def kwd (s : ByteArray) : Nat := placeOf s.data.toList keyw 1
def isName (s : ByteArray) : Bool := shapely (il s) 3 && kwd s == 0
def isExn (s : ByteArray) : Bool := shapely (il s) 4
theorem placeOf_le (s : List UInt8) (l : List (List UInt8)) (n : Nat) : placeOf s l n ≤ n + l.length := by
  induction l generalizing n with
  | nil => simp [placeOf]
  | cons x l ih =>
    simp only [placeOf]
    split
    · omega
    · have := ih (n + 1); simp; omega
theorem kwd_le (s : ByteArray) : kwd s ≤ 15 := placeOf_le _ _ _
theorem placeOf_none {s : List UInt8} {l : List (List UInt8)} (h : ∀ x, x ∈ l → x ≠ s) (n : Nat) : placeOf s l n = 0 := by
  induction l generalizing n with
  | nil => rfl
  | cons x l ih =>
    simp only [placeOf]
    rw [if_neg (h x (by simp)), ih (fun y hy => h y (by simp [hy]))]
theorem placeOf_at {s : List UInt8} {l : List (List UInt8)} {i : Nat} {x : List UInt8} (hi : l[i]? = some x) (hx : x = s) (hb : ∀ y, y ∈ l.take i → y ≠ s) (n : Nat) : placeOf s l n = n + i := by
  induction l generalizing i n with
  | nil => simp at hi
  | cons a l ih =>
    cases i with
    | zero => simp at hi; subst hi; simp [placeOf, hx]
    | succ i =>
      simp only [List.getElem?_cons_succ] at hi
      simp only [placeOf]
      rw [if_neg (hb a (by simp)), ih hi (fun y hy => hb y (by simp [hy]))]
      omega
theorem index_blank (c : Int) (h0 : 0 ≤ c) (h1 : c ≤ 255) : decide (0 ≤ Lib.indexByte [32, 9, 10] c.toNat.toUInt8) = decide (c = 32 ∨ c = 9 ∨ c = 10) := by
  have h : ∀ n : Fin 256, decide (0 ≤ Lib.indexByte [32, 9, 10] n.val.toUInt8) = decide ((n.val : Int) = 32 ∨ (n.val : Int) = 9 ∨ (n.val : Int) = 10) := by decide +kernel
  have := h ⟨c.toNat, by omega⟩
  rw [show ((c.toNat : Nat) : Int) = c from by omega] at this
  exact this
theorem index_sign (c : Int) (h0 : 0 ≤ c) (h1 : c ≤ 255) : decide (0 ≤ Lib.indexByte [40, 41, 44, 33, 58, 61, 62, 43, 45, 42, 60, 59] c.toNat.toUInt8) = decide (c ∈ signs) := by
  have h : ∀ n : Fin 256, decide (0 ≤ Lib.indexByte [40, 41, 44, 33, 58, 61, 62, 43, 45, 42, 60, 59] n.val.toUInt8) = decide ((n.val : Int) ∈ signs) := by decide +kernel
  have := h ⟨c.toNat, by omega⟩
  rw [show ((c.toNat : Nat) : Int) = c from by omega] at this
  exact this
def spanOf (cl : List Int) (l : List Int) : Nat := (l.takeWhile fun c => cl.contains (cls c)).length
theorem find_while {α : Type} (p : α → Bool) (l : List α) : l.findIdx (fun x => !p x) = (l.takeWhile p).length := by
  induction l with
  | nil => rfl
  | cons c l ih =>
    rw [List.findIdx_cons]
    cases h : p c
    · rw [List.takeWhile_cons_of_neg (by rw [h]; simp)]; rfl
    · rw [List.takeWhile_cons_of_pos h]; simp [ih]
theorem while_all {α : Type} (p : α → Bool) (l : List α) (h : (l.any fun x => !p x) = false) : l.takeWhile p = l := by
  induction l with
  | nil => rfl
  | cons c l ih =>
    rw [List.any_cons, Bool.or_eq_false_iff] at h
    rw [List.takeWhile_cons_of_pos (by simpa using h.1), ih h.2]
theorem span_find (cl l : List Int) : (if fidx (fun c => !cl.contains (cls c)) l < 0 then (l.length : Int) else fidx (fun c => !cl.contains (cls c)) l) = spanOf cl l := by
  unfold spanOf fidx
  rw [find_while (fun c => cl.contains (cls c))]
  cases h : l.any fun c => !cl.contains (cls c)
  · rw [while_all (fun c => cl.contains (cls c)) l h]
    simp
  · simp
    omega
theorem spanOf_all (cl l : List Int) : (spanOf cl l = l.length) ↔ ∀ c, c ∈ l → cl.contains (cls c) = true := by
  unfold spanOf
  induction l with
  | nil => simp
  | cons c l ih =>
    cases hc : cl.contains (cls c)
    · rw [List.takeWhile_cons_of_neg (p := fun c => cl.contains (cls c)) (by rw [hc]; simp)]
      simp only [List.length_nil, List.length_cons]
      constructor
      · intro h; omega
      · intro h; rw [h c (by simp)] at hc; cases hc
    · rw [List.takeWhile_cons_of_pos (p := fun c => cl.contains (cls c)) hc]
      simp only [List.length_cons, Nat.add_right_cancel_iff, ih]
      constructor
      · rintro h d hd
        rcases List.mem_cons.1 hd with rfl | hd
        · exact hc
        · exact h d hd
      · intro h d hd; exact h d (List.mem_cons_of_mem _ hd)
theorem spanOf_le (cl l : List Int) : spanOf cl l ≤ l.length := (List.takeWhile_sublist _).length_le
end Go.Proofs.YtaioeailgknfjaaGreatDoor
namespace Go.Proofs.YtaioeailgknfjaaGreatDoor
open Go Go.RowKit Go.Sort
def IsRow (w : World) (l : List Value) (a : Option Addr) (len : Nat) : Prop := len = l.length ∧ ∀ (i : Nat) v, l[i]? = some v → ∃ b o, a = some ⟨b, o, none⟩ ∧ w.cell? ⟨b, o + i, none⟩ = some v
def vby (l : List Int) : List Value := l.map fun c => .int .u8 c
def vstr (l : List ByteArray) : List Value := l.map .string
theorem IsRow.ext {w w' : World} (hx : Ext w w') {l : List Value} {a : Option Addr} {len : Nat} (h : IsRow w l a len) : IsRow w' l a len :=
  ⟨h.1, fun i v hi => let ⟨b, o, e, q⟩ := h.2 i v hi; ⟨b, o, e, hx.cell q⟩⟩
theorem IsRow.byte {w : World} {l : List Int} {a : Option Addr} {len : Nat} (h : IsRow w (vby l) a len) {j : Nat} (hj : j < len) : ∃ c b o, l[j]? = some c ∧ a = some ⟨b, o, none⟩ ∧ w.cell? ⟨b, o + j, none⟩ = some (.int .u8 c) := by
  have hl := h.1
  simp [vby] at hl
  have hc : l[j]? = some l[j] := List.getElem?_eq_getElem (by omega)
  obtain ⟨b, o, e, q⟩ := h.2 j (.int .u8 l[j]) (by simp [vby, hc])
  exact ⟨_, b, o, hc, e, q⟩
theorem IsRow.str {w : World} {l : List ByteArray} {a : Option Addr} {len : Nat} (h : IsRow w (vstr l) a len) {j : Nat} (hj : j < len) : ∃ c b o, l[j]? = some c ∧ a = some ⟨b, o, none⟩ ∧ w.cell? ⟨b, o + j, none⟩ = some (.string c) := by
  have hl := h.1
  simp [vstr] at hl
  have hc : l[j]? = some l[j] := List.getElem?_eq_getElem (by omega)
  obtain ⟨b, o, e, q⟩ := h.2 j (.string l[j]) (by simp [vstr, hc])
  exact ⟨_, b, o, hc, e, q⟩
theorem IsRow.of_block {w : World} {l : List Value} {b : Nat} (h : ∀ (i : Nat) v, l[i]? = some v → w.cell? ⟨b, i, none⟩ = some v) : IsRow w l (some ⟨b, 0, none⟩) l.length :=
  ⟨rfl, fun i v hi => ⟨b, 0, rfl, by simpa using h i v hi⟩⟩
theorem IsRow.drop {w : World} {l : List Value} {b o len k : Nat} (h : IsRow w l (some ⟨b, o, none⟩) len) : IsRow w (l.drop k) (some ⟨b, o + k, none⟩) (len - k) :=
  ⟨by simp [h.1], fun i v hi => by
    rw [List.getElem?_drop] at hi
    obtain ⟨b', o', e, q⟩ := h.2 _ v hi
    simp at e
    obtain ⟨rfl, rfl⟩ := e
    exact ⟨_, _, rfl, by rw [← q]; congr 2; omega⟩⟩
theorem IsRow.new (w : World) (t : TypeId) (l : List Value) : IsRow (w.alloc (.cells l.toArray t)) l (some ⟨w.heap.size, 0, none⟩) l.length :=
  IsRow.of_block fun i v hi => by rw [World.cell?_alloc_new]; simpa using hi
theorem vby_drop (l : List Int) (k : Nat) : (vby l).drop k = vby (l.drop k) := by simp [vby, List.map_drop]
theorem vby_il_length (s : ByteArray) : (vby (il s)).length = s.size := by rw [vby, List.length_map, il_length]
theorem not_empty_of {s : ByteArray} (hz : s ≠ ByteArray.empty) : s.toList.isEmpty = false := by
  rw [ByteArray.toList_eq, Bool.eq_false_iff, ne_eq, List.isEmpty_iff]
  exact fun e => hz (ByteArray.ext (Array.toList_inj.1 e))
end Go.Proofs.YtaioeailgknfjaaGreatDoor
