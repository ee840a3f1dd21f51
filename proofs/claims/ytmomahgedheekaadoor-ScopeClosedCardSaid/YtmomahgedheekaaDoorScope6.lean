/- Gathering texts of nodes: what scope.gather's closure does at a node. -/
import Derived.Test.YtmomahgedheekaaDoorScope3
import Derived.Test.YtmomahgedheekaaDoorMov
import Derived.OwnWalk
import Derived.Test.YtmomahgedheekaaDoorScope4
namespace Go.Proofs.YtmomahgedheekaaDoor
open Go Go.RowKit Go.Sort

theorem set_grown (w : World) (b i : Nat) (u : Value) : w.grownBy (w.setCell ⟨b, i, none⟩ u) (some b) :=
  ⟨rfl, rfl, rfl, by simp [World.setCell], fun k _ hk => Below.heap_setCell _ _ _ _ (fun e => hk (by simp at e; rw [e]))⟩
/-- What is asked of a node, and its text: the calls' contracts. -/
structure Asks (p : List ByteArray → Hd → Bool) (tx : Hd → ByteArray) (KI KT : Nat) : Prop where
  eI : ∀ args w, (callFunc KI args).run Tryd.prog w = .ok (.enter KI args) w
  eT : ∀ args w, (callFunc KT args).run Tryd.prog w = .ok (.enter KT args) w
  is_ : ∀ (w : World) (bd : List ByteArray) (pp : Option Addr) (n cp : Nat) (x : Hd) (a : Option Addr) (len cap : Nat), Nm NoA w bd pp n cp →
    Calls Tryd.prog KI #[.slice pp n cp, .agg #[.int .u8 x.k, .int .u8 x.op, .int .i64 x.pos, .int .i64 x.n, .string x.name, .string x.arg, .string x.exn, .slice a len cap]] w fun e w' => e = .returned (.bool (p bd x)) ∧ Ext w w'
  text : ∀ (w : World) (x : Hd) (a : Option Addr) (len cap : Nat),
    Calls Tryd.prog KT #[.agg #[.int .u8 x.k, .int .u8 x.op, .int .i64 x.pos, .int .i64 x.n, .string x.name, .string x.arg, .string x.exn, .slice a len cap]] w fun e w' => e = .returned (.string (tx x)) ∧ Ext w w'
/-- A row of texts, its slice in a block of its own, behind two functions in theirs. -/
def gGather (b KI KT : Nat) : Gauge (List ByteArray) where
  R := fun out w => ∃ v, Blk w (b + 2) 51 #[v] ∧ w.ownsRow (b + 3) 9 1 v out.length (vstr out) ∧ Blk w b 88 #[.func (.func KI) #[] #[]] ∧ Blk w (b + 1) 93 #[.func (.func KT) #[] #[]]
  own := fun w k => k = b + 2 ∨ ∃ v, w.cell? ⟨b + 2, 0, none⟩ = some v ∧ v.ownBlock = some k
  keep := fun _ w w' ⟨v, h1, h2, h3, h4⟩ hx => ⟨⟨v, h1.ext hx, owns_ext hx h2, h3.ext hx, h4.ext hx⟩, fun k hk => hk.imp id fun ⟨u, hu, hk⟩ => by
    have e1 := h1.cell 0
    have e2 := (h1.ext hx).cell 0
    rw [e2] at hu
    cases hu
    exact ⟨v, e1, hk⟩⟩
  lt := fun _ w k ⟨v, h1, h2, _, _⟩ hk => by
    rcases hk with rfl | ⟨u, hu, hk⟩
    · exact h1.lt
    · rw [h1.cell 0] at hu
      cases hu
      exact (h2.lt k hk).2
def roomG (ks : List ByteArray) (m : Nat) : Prop := ks.length + m ≤ 1000000
/-- What a text more does to the memory. -/
theorem gather_step {b KI KT : Nat} {out : List ByteArray} {s : ByteArray} {w W2 w3 : World} {v v' : Value} (h1 : Blk w (b + 2) 51 #[v]) (h2 : w.ownsRow (b + 3) 9 1 v out.length (vstr out)) (hI : Blk w b 88 #[.func (.func KI) #[] #[]]) (hT : Blk w (b + 1) 93 #[.func (.func KT) #[] #[]]) (hx : Ext w W2) (hsz : w.heap.size < W2.heap.size)
    (ho : w3.ownsRow (b + 3) 9 1 v' (out.length + 1) (vstr out ++ [.string s])) (hg : W2.grownBy w3 v.ownBlock) (hw : v'.ownBlock = v.ownBlock ∨ ∀ k, v'.ownBlock = some k → W2.heap.size ≤ k) :
    Blk w3 (b + 2) 51 #[v] ∧ (gGather b KI KT).R (out ++ [s]) (w3.setCell ⟨b + 2, 0, none⟩ v') ∧ OExt (gGather b KI KT).own w (w3.setCell ⟨b + 2, 0, none⟩ v') := by
  have hlow : ∀ k, v.ownBlock = some k → b + 3 ≤ k := fun k hk => (h2.lt k hk).1
  have hlow' : ∀ k, v'.ownBlock = some k → b + 3 ≤ k := fun k hk => (ho.lt k hk).1
  have h3 : ∀ i, i < b + 3 → v.ownBlock ≠ some i := fun i hi e => by have := hlow i e; omega
  have hv' : ∀ i, i < b + 3 → v'.ownBlock ≠ some i := fun i hi e => by have := hlow' i e; omega
  have hB2 := h1.ext hx
  have hB3 : Blk w3 (b + 2) 51 #[v] := (hg.block (b + 2) hB2.lt (fun e => h3 _ (by omega) e.symm)).trans hB2
  have hI2 := hI.ext hx
  have hT2 := hT.ext hx
  have hI3 : Blk w3 b 88 #[.func (.func KI) #[] #[]] := (hg.block b hI2.lt (fun e => h3 _ (by omega) e.symm)).trans hI2
  have hT3 : Blk w3 (b + 1) 93 #[.func (.func KT) #[] #[]] := (hg.block (b + 1) hT2.lt (fun e => h3 _ (by omega) e.symm)).trans hT2
  refine ⟨hB3, ⟨v', by simpa using hB3.set_ 0 v', ?_, hI3.far (p := ⟨b + 2, 0, none⟩) (by simp) v', hT3.far (p := ⟨b + 2, 0, none⟩) (by simp) v'⟩, ?_⟩
  · have := ho.kept (set_grown w3 (b + 2) 0 v') (.inr (hv' _ (by omega)))
    rw [vstr_snoc]
    simpa using this
  · refine ⟨hg.os.trans (Below.os hx), hg.tape.trans (Below.tape hx), hg.output.trans (Below.output hx), by simpa [World.setCell] using Nat.le_trans hx.size hg.size, fun i hi hno => ?_⟩
    have hib : i ≠ b + 2 := fun e => hno (.inl e)
    have hiv : v.ownBlock ≠ some i := fun e => hno (.inr ⟨v, h1.cell 0, e⟩)
    refine ⟨?_, ?_⟩
    · rw [Below.heap_setCell _ _ _ _ (fun e => hib e), hg.block i (Nat.lt_of_lt_of_le hi hx.size) (fun e => hiv e.symm), Below.block hx i hi]
    · rintro (e | ⟨u, hu, hk⟩)
      · exact hib e
      · have hc := (hB3.set_ 0 v').cell 0
        simp at hc
        rw [hc] at hu
        cases hu
        rcases hw with hw | hw
        · exact hiv (hw ▸ hk)
        · have := hw i hk; have := hx.size; omega
/-- The blocks that a text more may touch. -/
def Own3 (b : Nat) (v : Value) : Nat → Prop := fun k => k = b + 2 ∨ v.ownBlock = some k
theorem enters_gather1 : ∀ args w, (callFunc 96 args).run Tryd.prog w = .ok (.enter 96 args) w := enters_of Tryd.func96 (by kernel_rfl) rfl
set_option maxRecDepth 8000 in
set_option maxHeartbeats 4000000 in
theorem gather_steps (p : List ByteArray → Hd → Bool) (tx : Hd → ByteArray) (b KI KT : Nat) (hA : Asks p tx KI KT) :
    StepsN (gGather b KI KT) (gatherF p tx) roomG 96 (.pointer (some ⟨b, 0, none⟩)) (.pointer (some ⟨b + 2, 0, none⟩)) (.pointer (some ⟨b + 1, 0, none⟩)) := by
  intro out w bd pp n cp x l a len cap hR hr hf h1 h2 hn hl
  have eI := hA.eI
  have eT := hA.eT
  obtain ⟨v, hB, ho, hI, hT⟩ := hR
  have hlen : out.length + 1 ≤ 1000000 := hr
  obtain ⟨W1, hW1⟩ : ∃ W1, W1 = w.alloc (.cells #[.int .u8 x.k, .int .u8 x.op, .int .i64 x.pos, .int .i64 x.n, .string x.name, .string x.arg, .string x.exn, .slice a len cap] 41) := ⟨_, rfl⟩
  have x0 : Ext w W1 := by rw [hW1]; exact (Ext.refl _).alloc _
  have hs1 : w.heap.size < W1.heap.size := by rw [hW1]; simp
  have T := TBlk.new w x a len cap 41
  rw [← hW1] at T
  obtain ⟨⟨c0, c1, c2, c3, c4, c5, c6⟩, c7⟩ := T
  simp only [Nat.zero_add] at c0 c1 c2 c3 c4 c5 c6
  have hbl := hB.lt
  have hblI := hI.lt
  have hblT := hT.lt
  have hlow : ∀ k, v.ownBlock = some k → b + 3 ≤ k := fun k hk => (ho.lt k hk).1
  have hown : ∀ k, v.ownBlock = some k → k < w.heap.size := fun k hk => (ho.lt k hk).2
  obtain ⟨ar, cr, rfl, g1, g2, g3⟩ := owns_row1 ho
  have kI : W1.cell? ⟨b, 0, none⟩ = some (.func (.func KI) #[] #[]) := (hI.ext x0).cell 0
  have kT : W1.cell? ⟨b + 1, 0, none⟩ = some (.func (.func KT) #[] #[]) := (hT.ext x0).cell 0
  have kO : W1.cell? ⟨b + 2, 0, none⟩ = some (.slice ar out.length cr) := (hB.ext x0).cell 0
  have CI := Lib.hid fun W (h : Ext W1 W) => hA.is_ W bd pp n cp x a len cap ((hn.off_ (fun _ h => h.elim)).ext (x0.trans h))
  have CT := Lib.hid fun W => hA.text W x a len cap
  have CC := Lib.hid fun W (h : Ext W1 W) => strs_contains (tx x) out W ar out.length cr g1 g2 (g3.ext (x0.trans h))
  have HB := Lib.hid hB
  have HO := Lib.hid ho
  have HI := Lib.hid hI
  have HT := Lib.hid hT
  have HW1 := Lib.hid hW1
  have HG : Hid (gatherF p tx out bd (.mk x l) = (if p bd x then put out (tx x) else out, true)) := rfl
  have HPut : Hid (put out (tx x) = if inB out (tx x) then out else out ++ [tx x]) := rfl
  have HR0 : Hid ((gGather b KI KT).R out w) := Lib.hid ⟨_, hB, ho, hI, hT⟩
  obtain ⟨i0, hi, hz0, hz1, hz2⟩ := infoStr1
  have HIN := Lib.hid (And.intro hi (And.intro hz0 (And.intro hz1 hz2)))
  clear hB ho hI hT hW1 hn hl hf hr hA g3 hi hz0 hz1 hz2
  have d0 := fun W (h : Ext W1 W) => h.cell c0
  have d1 := fun W (h : Ext W1 W) => h.cell c1
  have d2 := fun W (h : Ext W1 W) => h.cell c2
  have d3 := fun W (h : Ext W1 W) => h.cell c3
  have d4 := fun W (h : Ext W1 W) => h.cell c4
  have d5 := fun W (h : Ext W1 W) => h.cell c5
  have d6 := fun W (h : Ext W1 W) => h.cell c6
  have d7 := fun W (h : Ext W1 W) => h.cell c7
  have lI := fun W (h : Ext W1 W) => h.cell kI
  have lT := fun W (h : Ext W1 W) => h.cell kT
  have lO := fun W (h : Ext W1 W) => h.cell kO
  generalize p bd x = is at *
  generalize tx x = s at *
  cases is
  · go_enter Tryd.func96, Tryd.ntmps96
    go_wp2_with fail
    rw [← HW1.out]
    refine wp_region_held_drew (S := fun w' => Ext W1 w') (by kernel_rfl) (by (try dsimp only); (repeat (first | exact Ext.refl _ | assumption | refine Ext.alloc ?_ _ | refine Ext.drew ?_ | refine Ext.setCell ?_ (by first | (simp; done) | (simp; omega) | omega) _ | refine Ext.trans ?_ (by assumption)))) (fun hHeld => ?_)
    refine held_take 0 (v := ?_) rfl (by kernel_rfl) (by kernel_rfl) (by kernel_rfl) (fun _ _ _ h => h) (by assumption) (by rfl) ?_ ?_; rotate_left; (focus (intro w hSw; (try dsimp only at hSw); go_simp; (try with_reducible rfl))); try simp only [Act.put, List.setIfInBounds_toArray, List.set_cons_zero, List.set_cons_succ]
    refine held_take 1 (v := ?_) rfl (by kernel_rfl) (by kernel_rfl) (by kernel_rfl) (fun _ _ _ h => h) (by assumption) (by rfl) ?_ ?_; rotate_left; (focus (intro w hSw; (try dsimp only at hSw); go_simp; (try with_reducible rfl))); try simp only [Act.put, List.setIfInBounds_toArray, List.set_cons_zero, List.set_cons_succ]
    refine held_take 2 (v := ?_) rfl (by kernel_rfl) (by kernel_rfl) (by kernel_rfl) (fun _ _ _ h => h) (by assumption) (by rfl) ?_ ?_; rotate_left; (focus (intro w hSw; (try dsimp only at hSw); go_simp; (try with_reducible rfl))); try simp only [Act.put, List.setIfInBounds_toArray, List.set_cons_zero, List.set_cons_succ]
    refine held_do 3 rfl (by kernel_rfl) (by rfl) (fun K hK => ?_); go_simp; (first | (refine (CI.out _ (by (repeat (first | exact Ext.refl _ | assumption | refine Ext.alloc ?_ _ | refine Ext.drew ?_ | refine Ext.setCell ?_ (by first | (simp; done) | (simp; omega) | omega) _ | refine Ext.trans ?_ (by assumption))))).mono ?_; rintro e w2 ⟨rfl, x2⟩; have y2 : Ext W1 w2 := Ext.trans (by (repeat (first | exact Ext.refl _ | assumption | refine Ext.alloc ?_ _ | refine Ext.drew ?_ | refine Ext.setCell ?_ (by first | (simp; done) | (simp; omega) | omega) _ | refine Ext.trans ?_ (by assumption)))) x2)); (try (focus (go_wp2_with fail))); refine hK.out _ _ (by (try dsimp only); (repeat (first | exact Ext.refl _ | assumption | refine Ext.alloc ?_ _ | refine Ext.drew ?_ | refine Ext.setCell ?_ (by first | (simp; done) | (simp; omega) | omega) _ | refine Ext.trans ?_ (by assumption)))) (fun hHeld => ?_); clear hK K; try simp only [Act.put, List.setIfInBounds_toArray, List.set_cons_zero, List.set_cons_succ]
    refine held_take 4 (v := ?_) rfl (by kernel_rfl) (by kernel_rfl) (by kernel_rfl) (fun _ _ _ h => h) (by assumption) (by rfl) ?_ ?_; rotate_left; (focus (intro w hSw; (try dsimp only at hSw); go_simp; (try with_reducible rfl))); try simp only [Act.put, List.setIfInBounds_toArray, List.set_cons_zero, List.set_cons_succ]
    first | (refine held_take 5 (v := ?_) rfl (by kernel_rfl) (by kernel_rfl) (by kernel_rfl) (fun _ _ _ h => h) (by assumption) (by rfl) ?_ ?_; rotate_left; (focus (intro w hSw; (try dsimp only at hSw); go_simp; (try with_reducible rfl))); try simp only [Act.put, List.setIfInBounds_toArray, List.set_cons_zero, List.set_cons_succ]) | (refine held_skip 5 rfl (by kernel_rfl) (by kernel_rfl) (by kernel_rfl) (fun _ _ _ h => h) (by assumption) (by rfl) ?_; try simp only [Act.put, List.setIfInBounds_toArray, List.set_cons_zero, List.set_cons_succ])
    first | (refine held_take 6 (v := ?_) rfl (by kernel_rfl) (by kernel_rfl) (by kernel_rfl) (fun _ _ _ h => h) (by assumption) (by rfl) ?_ ?_; rotate_left; (focus (intro w hSw; (try dsimp only at hSw); go_simp; (try with_reducible rfl))); try simp only [Act.put, List.setIfInBounds_toArray, List.set_cons_zero, List.set_cons_succ]) | (refine held_skip 6 rfl (by kernel_rfl) (by kernel_rfl) (by kernel_rfl) (fun _ _ _ h => h) (by assumption) (by rfl) ?_; try simp only [Act.put, List.setIfInBounds_toArray, List.set_cons_zero, List.set_cons_succ])
    first | (refine held_take 7 (v := ?_) rfl (by kernel_rfl) (by kernel_rfl) (by kernel_rfl) (fun _ _ _ h => h) (by assumption) (by rfl) ?_ ?_; rotate_left; (focus (intro w hSw; (try dsimp only at hSw); go_simp; (try with_reducible rfl))); try simp only [Act.put, List.setIfInBounds_toArray, List.set_cons_zero, List.set_cons_succ]) | (refine held_skip 7 rfl (by kernel_rfl) (by kernel_rfl) (by kernel_rfl) (fun _ _ _ h => h) (by assumption) (by rfl) ?_; try simp only [Act.put, List.setIfInBounds_toArray, List.set_cons_zero, List.set_cons_succ])
    first | (refine held_skip 8 rfl (by kernel_rfl) (by kernel_rfl) (by kernel_rfl) (fun _ _ _ h => h) (by assumption) (by rfl) ?_; try simp only [Act.put, List.setIfInBounds_toArray, List.set_cons_zero, List.set_cons_succ]) | (refine held_do 8 rfl (by kernel_rfl) (by rfl) (fun K hK => ?_); go_simp; (first | (refine (CI.out _ (by (repeat (first | exact Ext.refl _ | assumption | refine Ext.alloc ?_ _ | refine Ext.drew ?_ | refine Ext.setCell ?_ (by first | (simp; done) | (simp; omega) | omega) _ | refine Ext.trans ?_ (by assumption))))).mono ?_; rintro e w2 ⟨rfl, x2⟩; have y2 : Ext W1 w2 := Ext.trans (by (repeat (first | exact Ext.refl _ | assumption | refine Ext.alloc ?_ _ | refine Ext.drew ?_ | refine Ext.setCell ?_ (by first | (simp; done) | (simp; omega) | omega) _ | refine Ext.trans ?_ (by assumption)))) x2)); (try (focus (go_wp2_with fail))); refine hK.out _ _ (by (try dsimp only); (repeat (first | exact Ext.refl _ | assumption | refine Ext.alloc ?_ _ | refine Ext.drew ?_ | refine Ext.setCell ?_ (by first | (simp; done) | (simp; omega) | omega) _ | refine Ext.trans ?_ (by assumption)))) (fun hHeld => ?_); clear hK K; try simp only [Act.put, List.setIfInBounds_toArray, List.set_cons_zero, List.set_cons_succ])
    first | (refine held_skip 9 rfl (by kernel_rfl) (by kernel_rfl) (by kernel_rfl) (fun _ _ _ h => h) (by assumption) (by rfl) ?_; try simp only [Act.put, List.setIfInBounds_toArray, List.set_cons_zero, List.set_cons_succ]) | (refine held_do 9 rfl (by kernel_rfl) (by rfl) (fun K hK => ?_); go_simp; (first | (refine (CI.out _ (by (repeat (first | exact Ext.refl _ | assumption | refine Ext.alloc ?_ _ | refine Ext.drew ?_ | refine Ext.setCell ?_ (by first | (simp; done) | (simp; omega) | omega) _ | refine Ext.trans ?_ (by assumption))))).mono ?_; rintro e w2 ⟨rfl, x2⟩; have y2 : Ext W1 w2 := Ext.trans (by (repeat (first | exact Ext.refl _ | assumption | refine Ext.alloc ?_ _ | refine Ext.drew ?_ | refine Ext.setCell ?_ (by first | (simp; done) | (simp; omega) | omega) _ | refine Ext.trans ?_ (by assumption)))) x2)); (try (focus (go_wp2_with fail))); refine hK.out _ _ (by (try dsimp only); (repeat (first | exact Ext.refl _ | assumption | refine Ext.alloc ?_ _ | refine Ext.drew ?_ | refine Ext.setCell ?_ (by first | (simp; done) | (simp; omega) | omega) _ | refine Ext.trans ?_ (by assumption)))) (fun hHeld => ?_); clear hK K; try simp only [Act.put, List.setIfInBounds_toArray, List.set_cons_zero, List.set_cons_succ])
    first | (refine held_take 10 (v := ?_) rfl (by kernel_rfl) (by kernel_rfl) (by kernel_rfl) (fun _ _ _ h => h) (by assumption) (by rfl) ?_ ?_; rotate_left; (focus (intro w hSw; (try dsimp only at hSw); go_simp; (try with_reducible rfl))); try simp only [Act.put, List.setIfInBounds_toArray, List.set_cons_zero, List.set_cons_succ]) | (refine held_skip 10 rfl (by kernel_rfl) (by kernel_rfl) (by kernel_rfl) (fun _ _ _ h => h) (by assumption) (by rfl) ?_; try simp only [Act.put, List.setIfInBounds_toArray, List.set_cons_zero, List.set_cons_succ])
    refine held_take 11 (v := ?_) rfl (by kernel_rfl) (by kernel_rfl) (by kernel_rfl) (fun _ _ _ h => h) (by assumption) (by rfl) ?_ ?_; rotate_left; (focus (intro w hSw; (try dsimp only at hSw); go_simp; (try with_reducible rfl))); try simp only [Act.put, List.setIfInBounds_toArray, List.set_cons_zero, List.set_cons_succ]
    refine wpAnyH_done (by kernel_rfl) ?_ _
    go_wp2_with fail
    go_ret
    have hfin := hHeld
    have hxf : Ext w _ := x0.trans hfin
    have hg' : gatherF p tx out bd (.mk x l) = (out, true) := by rw [HG.out]; rfl
    rw [hg']
    exact ⟨rfl, ((gGather b KI KT).keep _ _ _ HR0.out hxf).1, (gGather b KI KT).oext HR0.out hxf⟩
  · cases hin : inB out s
    all_goals
      rw [hin] at HPut CC
      clear hin
      go_enter Tryd.func96, Tryd.ntmps96
      go_wp2_with fail
      rw [← HW1.out]
      refine wp_region_held_drew (S := fun w' => Ext W1 w') (by kernel_rfl) (by (try dsimp only); (repeat (first | exact Ext.refl _ | assumption | refine Ext.alloc ?_ _ | refine Ext.drew ?_ | refine Ext.setCell ?_ (by first | (simp; done) | (simp; omega) | omega) _ | refine Ext.trans ?_ (by assumption)))) (fun hHeld => ?_)
      refine held_take 0 (v := ?_) rfl (by kernel_rfl) (by kernel_rfl) (by kernel_rfl) (fun _ _ _ h => h) (by assumption) (by rfl) ?_ ?_; rotate_left; (focus (intro w hSw; (try dsimp only at hSw); go_simp; (try with_reducible rfl))); try simp only [Act.put, List.setIfInBounds_toArray, List.set_cons_zero, List.set_cons_succ]
      refine held_take 1 (v := ?_) rfl (by kernel_rfl) (by kernel_rfl) (by kernel_rfl) (fun _ _ _ h => h) (by assumption) (by rfl) ?_ ?_; rotate_left; (focus (intro w hSw; (try dsimp only at hSw); go_simp; (try with_reducible rfl))); try simp only [Act.put, List.setIfInBounds_toArray, List.set_cons_zero, List.set_cons_succ]
      refine held_take 2 (v := ?_) rfl (by kernel_rfl) (by kernel_rfl) (by kernel_rfl) (fun _ _ _ h => h) (by assumption) (by rfl) ?_ ?_; rotate_left; (focus (intro w hSw; (try dsimp only at hSw); go_simp; (try with_reducible rfl))); try simp only [Act.put, List.setIfInBounds_toArray, List.set_cons_zero, List.set_cons_succ]
      refine held_do 3 rfl (by kernel_rfl) (by rfl) (fun K hK => ?_); go_simp; (first | (refine (CI.out _ (by (repeat (first | exact Ext.refl _ | assumption | refine Ext.alloc ?_ _ | refine Ext.drew ?_ | refine Ext.setCell ?_ (by first | (simp; done) | (simp; omega) | omega) _ | refine Ext.trans ?_ (by assumption))))).mono ?_; rintro e w2 ⟨rfl, x2⟩; have y2 : Ext W1 w2 := Ext.trans (by (repeat (first | exact Ext.refl _ | assumption | refine Ext.alloc ?_ _ | refine Ext.drew ?_ | refine Ext.setCell ?_ (by first | (simp; done) | (simp; omega) | omega) _ | refine Ext.trans ?_ (by assumption)))) x2) | (refine (CT.out _).mono ?_; rintro e w3 ⟨rfl, x3⟩; have y3 : Ext W1 w3 := Ext.trans (by (repeat (first | exact Ext.refl _ | assumption | refine Ext.alloc ?_ _ | refine Ext.drew ?_ | refine Ext.setCell ?_ (by first | (simp; done) | (simp; omega) | omega) _ | refine Ext.trans ?_ (by assumption)))) x3) | (go_at_call 60; refine (CC.out _ (by (repeat (first | exact Ext.refl _ | assumption | refine Ext.alloc ?_ _ | refine Ext.drew ?_ | refine Ext.setCell ?_ (by first | (simp; done) | (simp; omega) | omega) _ | refine Ext.trans ?_ (by assumption))))).mono ?_; rintro e w4 ⟨rfl, x4⟩; have y4 : Ext W1 w4 := Ext.trans (by (repeat (first | exact Ext.refl _ | assumption | refine Ext.alloc ?_ _ | refine Ext.drew ?_ | refine Ext.setCell ?_ (by first | (simp; done) | (simp; omega) | omega) _ | refine Ext.trans ?_ (by assumption)))) x4)); (try (focus (go_wp2_with fail))); refine hK.out _ _ (by (try dsimp only); (repeat (first | exact Ext.refl _ | assumption | refine Ext.alloc ?_ _ | refine Ext.drew ?_ | refine Ext.setCell ?_ (by first | (simp; done) | (simp; omega) | omega) _ | refine Ext.trans ?_ (by assumption)))) (fun hHeld => ?_); clear hK K; try simp only [Act.put, List.setIfInBounds_toArray, List.set_cons_zero, List.set_cons_succ]
      refine held_take 4 (v := ?_) rfl (by kernel_rfl) (by kernel_rfl) (by kernel_rfl) (fun _ _ _ h => h) (by assumption) (by rfl) ?_ ?_; rotate_left; (focus (intro w hSw; (try dsimp only at hSw); go_simp; (try with_reducible rfl))); try simp only [Act.put, List.setIfInBounds_toArray, List.set_cons_zero, List.set_cons_succ]
      first | (refine held_take 5 (v := ?_) rfl (by kernel_rfl) (by kernel_rfl) (by kernel_rfl) (fun _ _ _ h => h) (by assumption) (by rfl) ?_ ?_; rotate_left; (focus (intro w hSw; (try dsimp only at hSw); go_simp; (try with_reducible rfl))); try simp only [Act.put, List.setIfInBounds_toArray, List.set_cons_zero, List.set_cons_succ]) | (refine held_skip 5 rfl (by kernel_rfl) (by kernel_rfl) (by kernel_rfl) (fun _ _ _ h => h) (by assumption) (by rfl) ?_; try simp only [Act.put, List.setIfInBounds_toArray, List.set_cons_zero, List.set_cons_succ])
      first | (refine held_take 6 (v := ?_) rfl (by kernel_rfl) (by kernel_rfl) (by kernel_rfl) (fun _ _ _ h => h) (by assumption) (by rfl) ?_ ?_; rotate_left; (focus (intro w hSw; (try dsimp only at hSw); go_simp; (try with_reducible rfl))); try simp only [Act.put, List.setIfInBounds_toArray, List.set_cons_zero, List.set_cons_succ]) | (refine held_skip 6 rfl (by kernel_rfl) (by kernel_rfl) (by kernel_rfl) (fun _ _ _ h => h) (by assumption) (by rfl) ?_; try simp only [Act.put, List.setIfInBounds_toArray, List.set_cons_zero, List.set_cons_succ])
      first | (refine held_take 7 (v := ?_) rfl (by kernel_rfl) (by kernel_rfl) (by kernel_rfl) (fun _ _ _ h => h) (by assumption) (by rfl) ?_ ?_; rotate_left; (focus (intro w hSw; (try dsimp only at hSw); go_simp; (try with_reducible rfl))); try simp only [Act.put, List.setIfInBounds_toArray, List.set_cons_zero, List.set_cons_succ]) | (refine held_skip 7 rfl (by kernel_rfl) (by kernel_rfl) (by kernel_rfl) (fun _ _ _ h => h) (by assumption) (by rfl) ?_; try simp only [Act.put, List.setIfInBounds_toArray, List.set_cons_zero, List.set_cons_succ])
      first | (refine held_skip 8 rfl (by kernel_rfl) (by kernel_rfl) (by kernel_rfl) (fun _ _ _ h => h) (by assumption) (by rfl) ?_; try simp only [Act.put, List.setIfInBounds_toArray, List.set_cons_zero, List.set_cons_succ]) | (refine held_do 8 rfl (by kernel_rfl) (by rfl) (fun K hK => ?_); go_simp; (first | (refine (CI.out _ (by (repeat (first | exact Ext.refl _ | assumption | refine Ext.alloc ?_ _ | refine Ext.drew ?_ | refine Ext.setCell ?_ (by first | (simp; done) | (simp; omega) | omega) _ | refine Ext.trans ?_ (by assumption))))).mono ?_; rintro e w2 ⟨rfl, x2⟩; have y2 : Ext W1 w2 := Ext.trans (by (repeat (first | exact Ext.refl _ | assumption | refine Ext.alloc ?_ _ | refine Ext.drew ?_ | refine Ext.setCell ?_ (by first | (simp; done) | (simp; omega) | omega) _ | refine Ext.trans ?_ (by assumption)))) x2) | (refine (CT.out _).mono ?_; rintro e w3 ⟨rfl, x3⟩; have y3 : Ext W1 w3 := Ext.trans (by (repeat (first | exact Ext.refl _ | assumption | refine Ext.alloc ?_ _ | refine Ext.drew ?_ | refine Ext.setCell ?_ (by first | (simp; done) | (simp; omega) | omega) _ | refine Ext.trans ?_ (by assumption)))) x3) | (go_at_call 60; refine (CC.out _ (by (repeat (first | exact Ext.refl _ | assumption | refine Ext.alloc ?_ _ | refine Ext.drew ?_ | refine Ext.setCell ?_ (by first | (simp; done) | (simp; omega) | omega) _ | refine Ext.trans ?_ (by assumption))))).mono ?_; rintro e w4 ⟨rfl, x4⟩; have y4 : Ext W1 w4 := Ext.trans (by (repeat (first | exact Ext.refl _ | assumption | refine Ext.alloc ?_ _ | refine Ext.drew ?_ | refine Ext.setCell ?_ (by first | (simp; done) | (simp; omega) | omega) _ | refine Ext.trans ?_ (by assumption)))) x4)); (try (focus (go_wp2_with fail))); refine hK.out _ _ (by (try dsimp only); (repeat (first | exact Ext.refl _ | assumption | refine Ext.alloc ?_ _ | refine Ext.drew ?_ | refine Ext.setCell ?_ (by first | (simp; done) | (simp; omega) | omega) _ | refine Ext.trans ?_ (by assumption)))) (fun hHeld => ?_); clear hK K; try simp only [Act.put, List.setIfInBounds_toArray, List.set_cons_zero, List.set_cons_succ])
      first | (refine held_skip 9 rfl (by kernel_rfl) (by kernel_rfl) (by kernel_rfl) (fun _ _ _ h => h) (by assumption) (by rfl) ?_; try simp only [Act.put, List.setIfInBounds_toArray, List.set_cons_zero, List.set_cons_succ]) | (refine held_do 9 rfl (by kernel_rfl) (by rfl) (fun K hK => ?_); go_simp; (first | (refine (CI.out _ (by (repeat (first | exact Ext.refl _ | assumption | refine Ext.alloc ?_ _ | refine Ext.drew ?_ | refine Ext.setCell ?_ (by first | (simp; done) | (simp; omega) | omega) _ | refine Ext.trans ?_ (by assumption))))).mono ?_; rintro e w2 ⟨rfl, x2⟩; have y2 : Ext W1 w2 := Ext.trans (by (repeat (first | exact Ext.refl _ | assumption | refine Ext.alloc ?_ _ | refine Ext.drew ?_ | refine Ext.setCell ?_ (by first | (simp; done) | (simp; omega) | omega) _ | refine Ext.trans ?_ (by assumption)))) x2) | (refine (CT.out _).mono ?_; rintro e w3 ⟨rfl, x3⟩; have y3 : Ext W1 w3 := Ext.trans (by (repeat (first | exact Ext.refl _ | assumption | refine Ext.alloc ?_ _ | refine Ext.drew ?_ | refine Ext.setCell ?_ (by first | (simp; done) | (simp; omega) | omega) _ | refine Ext.trans ?_ (by assumption)))) x3) | (go_at_call 60; refine (CC.out _ (by (repeat (first | exact Ext.refl _ | assumption | refine Ext.alloc ?_ _ | refine Ext.drew ?_ | refine Ext.setCell ?_ (by first | (simp; done) | (simp; omega) | omega) _ | refine Ext.trans ?_ (by assumption))))).mono ?_; rintro e w4 ⟨rfl, x4⟩; have y4 : Ext W1 w4 := Ext.trans (by (repeat (first | exact Ext.refl _ | assumption | refine Ext.alloc ?_ _ | refine Ext.drew ?_ | refine Ext.setCell ?_ (by first | (simp; done) | (simp; omega) | omega) _ | refine Ext.trans ?_ (by assumption)))) x4)); (try (focus (go_wp2_with fail))); refine hK.out _ _ (by (try dsimp only); (repeat (first | exact Ext.refl _ | assumption | refine Ext.alloc ?_ _ | refine Ext.drew ?_ | refine Ext.setCell ?_ (by first | (simp; done) | (simp; omega) | omega) _ | refine Ext.trans ?_ (by assumption)))) (fun hHeld => ?_); clear hK K; try simp only [Act.put, List.setIfInBounds_toArray, List.set_cons_zero, List.set_cons_succ])
      first | (refine held_take 10 (v := ?_) rfl (by kernel_rfl) (by kernel_rfl) (by kernel_rfl) (fun _ _ _ h => h) (by assumption) (by rfl) ?_ ?_; rotate_left; (focus (intro w hSw; (try dsimp only at hSw); go_simp; (try with_reducible rfl))); try simp only [Act.put, List.setIfInBounds_toArray, List.set_cons_zero, List.set_cons_succ]) | (refine held_skip 10 rfl (by kernel_rfl) (by kernel_rfl) (by kernel_rfl) (fun _ _ _ h => h) (by assumption) (by rfl) ?_; try simp only [Act.put, List.setIfInBounds_toArray, List.set_cons_zero, List.set_cons_succ])
      refine held_take 11 (v := ?_) rfl (by kernel_rfl) (by kernel_rfl) (by kernel_rfl) (fun _ _ _ h => h) (by assumption) (by rfl) ?_ ?_; rotate_left; (focus (intro w hSw; (try dsimp only at hSw); go_simp; (try with_reducible rfl))); try simp only [Act.put, List.setIfInBounds_toArray, List.set_cons_zero, List.set_cons_succ]
      refine wpAnyH_done (by kernel_rfl) ?_ _
    · have hHeld4 := hHeld
      have kO4 := lO _ hHeld4
      have hne : ∀ i, i < b + 2 → ¬ Own3 b (.slice ar out.length cr) i := fun i hi h => by
        rcases h with h | h
        · omega
        · have := hlow i h; omega
      have hnw : ¬ Own3 b (.slice ar out.length cr) w.heap.size := fun h => by
        rcases h with h | h
        · omega
        · have := hown _ h; omega
      have e0 := fun W (h : ExtX (Own3 b (.slice ar out.length cr)) w4 W) => h.cell hnw (d0 _ hHeld4)
      have e1 := fun W (h : ExtX (Own3 b (.slice ar out.length cr)) w4 W) => h.cell hnw (d1 _ hHeld4)
      have e2 := fun W (h : ExtX (Own3 b (.slice ar out.length cr)) w4 W) => h.cell hnw (d2 _ hHeld4)
      have e3 := fun W (h : ExtX (Own3 b (.slice ar out.length cr)) w4 W) => h.cell hnw (d3 _ hHeld4)
      have e4 := fun W (h : ExtX (Own3 b (.slice ar out.length cr)) w4 W) => h.cell hnw (d4 _ hHeld4)
      have e5 := fun W (h : ExtX (Own3 b (.slice ar out.length cr)) w4 W) => h.cell hnw (d5 _ hHeld4)
      have e6 := fun W (h : ExtX (Own3 b (.slice ar out.length cr)) w4 W) => h.cell hnw (d6 _ hHeld4)
      have e7 := fun W (h : ExtX (Own3 b (.slice ar out.length cr)) w4 W) => h.cell hnw (d7 _ hHeld4)
      have eT4 := fun W (h : ExtX (Own3 b (.slice ar out.length cr)) w4 W) => h.cell (hne (b + 1) (by omega)) (lT _ hHeld4)
      have hs4 := hHeld4.size
      clear d0 d1 d2 d3 d4 d5 d6 d7 lI lT lO kI kT kO
      go_wp2_with fail
      refine wp_region_held_drew (S := fun w' => ExtX (Own3 b (.slice ar out.length cr)) w4 w') (by kernel_rfl) (by (try dsimp only); (repeat (first | exact ExtX.refl _ | assumption | refine ExtX.alloc ?_ _ | refine ExtX.drew ?_ | refine ExtX.setCell ?_ (by first | (left; rfl) | (left; left; rfl) | (right; simp; done) | (right; simp; omega) | (right; omega)) _ | refine ExtX.then_ ?_ (by assumption)))) (fun hHeld => ?_)
      refine held_take 1 (v := ?_) rfl (by kernel_rfl) (by kernel_rfl) (by kernel_rfl) (fun _ _ _ h => h) (by assumption) (by rfl) ?_ ?_; rotate_left; (focus (intro w hSw; (try dsimp only at hSw); go_simp; (try with_reducible rfl))); try simp only [Act.put, List.setIfInBounds_toArray, List.set_cons_zero, List.set_cons_succ]
      refine held_take 2 (v := ?_) rfl (by kernel_rfl) (by kernel_rfl) (by kernel_rfl) (fun _ _ _ h => h) (by assumption) (by rfl) ?_ ?_; rotate_left; (focus (intro w hSw; (try dsimp only at hSw); go_simp; (try with_reducible rfl))); try simp only [Act.put, List.setIfInBounds_toArray, List.set_cons_zero, List.set_cons_succ]
      refine wpAnyH_ready (rs := [0, 3]) (by kernel_rfl) (by simp) ?_
      refine held_cons 0 rfl (by rfl) (fun K hK => ?_) (held_cons 3 rfl (by rfl) (fun K hK => ?_) AllReadyH.nil)
      go_simp; refine hK.out _ _ (by (try dsimp only); (repeat (first | exact ExtX.refl _ | assumption | refine ExtX.alloc ?_ _ | refine ExtX.drew ?_ | refine ExtX.setCell ?_ (by first | (left; rfl) | (left; left; rfl) | (right; simp; done) | (right; simp; omega) | (right; omega)) _ | refine ExtX.then_ ?_ (by assumption)))) (fun hHeld => ?_); clear hK K; try simp only [Act.put, List.setIfInBounds_toArray, List.set_cons_zero, List.set_cons_succ]
      refine held_do 3 rfl (by kernel_rfl) (by rfl) (fun K hK => ?_); go_simp; (first | (refine (CT.out _).mono ?_; rintro e w5 ⟨rfl, x5⟩; have y5 : Ext w4 w5 := Ext.trans (by (repeat (first | exact Ext.refl _ | assumption | refine Ext.alloc ?_ _ | refine Ext.drew ?_ | refine Ext.setCell ?_ (by first | (simp; done) | (simp; omega) | omega) _ | refine Ext.trans ?_ (by assumption)))) x5; have e20 := y5.cell kO4; have hs5 := y5.size; have hb5 : b + 2 < w5.heap.size := (by omega))); (try (focus (go_wp2_with fail))); refine hK.out _ _ (by (try dsimp only); (repeat (first | exact ExtX.refl _ | assumption | refine ExtX.alloc ?_ _ | refine ExtX.drew ?_ | refine ExtX.setCell ?_ (by first | (left; rfl) | (left; left; rfl) | (right; simp; done) | (right; simp; omega) | (right; omega)) _ | refine ExtX.then_ ?_ (by assumption)))) (fun hHeld => ?_); clear hK K; try simp only [Act.put, List.setIfInBounds_toArray, List.set_cons_zero, List.set_cons_succ]
      refine held_do 4 rfl (by kernel_rfl) (by rfl) (fun K hK => ?_); go_simp; refine hK.out _ _ (by (try dsimp only); (repeat (first | exact ExtX.refl _ | assumption | refine ExtX.alloc ?_ _ | refine ExtX.drew ?_ | refine ExtX.setCell ?_ (by first | (left; rfl) | (left; left; rfl) | (right; simp; done) | (right; simp; omega) | (right; omega)) _ | refine ExtX.then_ ?_ (by assumption)))) (fun hHeld => ?_); clear hK K; try simp only [Act.put, List.setIfInBounds_toArray, List.set_cons_zero, List.set_cons_succ]
      refine held_do 5 rfl (by kernel_rfl) (by rfl) (fun K hK => ?_); (first | (refine wp_append_mine (.tmp 20) (.tmp 24) 51 rfl (b + 3) 9 i0 (.string ByteArray.empty) 1 16 Tryd.underlying51 HIN.out.1 HIN.out.2.1 HIN.out.2.2.1 HIN.out.2.2.2 rfl (by decide) (Value.slice ar out.length cr) out.length (vstr out) rfl (owns_ext ((x0.trans (hHeld4.trans y5)).trans (by (repeat (first | exact Ext.refl _ | assumption | refine Ext.alloc ?_ _ | refine Ext.drew ?_ | refine Ext.setCell ?_ (by first | (simp; done) | (simp; omega) | omega) _ | refine Ext.trans ?_ (by assumption))))) HO.out) ⟨w5.heap.size, 0, none⟩ 1 1 [.string s] rfl rfl (fun i u hu => by rw [Addr.add_lit, Nat.zero_add]; exact (World.cell?_alloc_new w5 _ _ _).trans (by simpa using hu)) (fun u hu => by simp at hu; subst hu; rfl) (by unfold maxLen; omega) (by omega) (Nat.le_trans (show b + 3 ≤ w5.heap.size by omega) (show Ext w5 _ from by (repeat (first | exact Ext.refl _ | assumption | refine Ext.alloc ?_ _ | refine Ext.drew ?_ | refine Ext.setCell ?_ (by first | (simp; done) | (simp; omega) | omega) _ | refine Ext.trans ?_ (by assumption)))).size) ?_; intro v6 w6 ho6 hg6 hw6; have hX6 : ExtX (Own3 b (.slice ar out.length cr)) w4 w6 := extx_grown (y5.trans (by (repeat (first | exact Ext.refl _ | assumption | refine Ext.alloc ?_ _ | refine Ext.drew ?_ | refine Ext.setCell ?_ (by first | (simp; done) | (simp; omega) | omega) _ | refine Ext.trans ?_ (by assumption))))) hg6 (fun k hk => .inr hk); obtain ⟨hB6, hR6, hO6⟩ := gather_step HB.out HO.out HI.out HT.out ((x0.trans (hHeld4.trans y5)).trans (by (repeat (first | exact Ext.refl _ | assumption | refine Ext.alloc ?_ _ | refine Ext.drew ?_ | refine Ext.setCell ?_ (by first | (simp; done) | (simp; omega) | omega) _ | refine Ext.trans ?_ (by assumption))))) (Nat.lt_of_lt_of_le (show w.heap.size < w5.heap.size by omega) (show Ext w5 _ from by (repeat (first | exact Ext.refl _ | assumption | refine Ext.alloc ?_ _ | refine Ext.drew ?_ | refine Ext.setCell ?_ (by first | (simp; done) | (simp; omega) | omega) _ | refine Ext.trans ?_ (by assumption)))).size) ho6 hg6 hw6; obtain ⟨a6, c6, rfl, _, _, _⟩ := owns_row1 ho6; have f6 := hB6.frozen 0; have e60 := hB6.cell 0; have hl6 := hB6.lt; have HR6 := Lib.hid hR6; have HO6 := Lib.hid hO6; clear hR6 hO6 ho6 hg6 hw6 hB6)); refine hK.out _ _ (by (try dsimp only); (repeat (first | exact ExtX.refl _ | assumption | refine ExtX.alloc ?_ _ | refine ExtX.drew ?_ | refine ExtX.setCell ?_ (by first | (left; rfl) | (left; left; rfl) | (right; simp; done) | (right; simp; omega) | (right; omega)) _ | refine ExtX.then_ ?_ (by assumption)))) (fun hHeld => ?_); clear hK K; try simp only [Act.put, List.setIfInBounds_toArray, List.set_cons_zero, List.set_cons_succ]
      refine held_do 6 rfl (by kernel_rfl) (by rfl) (fun K hK => ?_); go_simp; refine hK.out _ _ (by (try dsimp only); (repeat (first | exact ExtX.refl _ | assumption | refine ExtX.alloc ?_ _ | refine ExtX.drew ?_ | refine ExtX.setCell ?_ (by first | (left; rfl) | (left; left; rfl) | (right; simp; done) | (right; simp; omega) | (right; omega)) _ | refine ExtX.then_ ?_ (by assumption)))) (fun hHeld => ?_); clear hK K; try simp only [Act.put, List.setIfInBounds_toArray, List.set_cons_zero, List.set_cons_succ]
      refine wpAnyH_done (by kernel_rfl) ?_ _
      rotate_left 1
      go_simp; (first | (refine (CT.out _).mono ?_; rintro e w5 ⟨rfl, x5⟩; have y5 : Ext w4 w5 := Ext.trans (by (repeat (first | exact Ext.refl _ | assumption | refine Ext.alloc ?_ _ | refine Ext.drew ?_ | refine Ext.setCell ?_ (by first | (simp; done) | (simp; omega) | omega) _ | refine Ext.trans ?_ (by assumption)))) x5; have e20 := y5.cell kO4; have hs5 := y5.size; have hb5 : b + 2 < w5.heap.size := (by omega))); (try (focus (go_wp2_with fail))); refine hK.out _ _ (by (try dsimp only); (repeat (first | exact ExtX.refl _ | assumption | refine ExtX.alloc ?_ _ | refine ExtX.drew ?_ | refine ExtX.setCell ?_ (by first | (left; rfl) | (left; left; rfl) | (right; simp; done) | (right; simp; omega) | (right; omega)) _ | refine ExtX.then_ ?_ (by assumption)))) (fun hHeld => ?_); clear hK K; try simp only [Act.put, List.setIfInBounds_toArray, List.set_cons_zero, List.set_cons_succ]
      refine wpAnyH_ready (rs := [0, 4]) (by kernel_rfl) (by simp) ?_
      refine held_cons 0 rfl (by rfl) (fun K hK => ?_) (held_cons 4 rfl (by rfl) (fun K hK => ?_) AllReadyH.nil)
      go_simp; refine hK.out _ _ (by (try dsimp only); (repeat (first | exact ExtX.refl _ | assumption | refine ExtX.alloc ?_ _ | refine ExtX.drew ?_ | refine ExtX.setCell ?_ (by first | (left; rfl) | (left; left; rfl) | (right; simp; done) | (right; simp; omega) | (right; omega)) _ | refine ExtX.then_ ?_ (by assumption)))) (fun hHeld => ?_); clear hK K; try simp only [Act.put, List.setIfInBounds_toArray, List.set_cons_zero, List.set_cons_succ]
      refine held_do 4 rfl (by kernel_rfl) (by rfl) (fun K hK => ?_); go_simp; refine hK.out _ _ (by (try dsimp only); (repeat (first | exact ExtX.refl _ | assumption | refine ExtX.alloc ?_ _ | refine ExtX.drew ?_ | refine ExtX.setCell ?_ (by first | (left; rfl) | (left; left; rfl) | (right; simp; done) | (right; simp; omega) | (right; omega)) _ | refine ExtX.then_ ?_ (by assumption)))) (fun hHeld => ?_); clear hK K; try simp only [Act.put, List.setIfInBounds_toArray, List.set_cons_zero, List.set_cons_succ]
      refine held_do 5 rfl (by kernel_rfl) (by rfl) (fun K hK => ?_); (first | (refine wp_append_mine (.tmp 20) (.tmp 24) 51 rfl (b + 3) 9 i0 (.string ByteArray.empty) 1 16 Tryd.underlying51 HIN.out.1 HIN.out.2.1 HIN.out.2.2.1 HIN.out.2.2.2 rfl (by decide) (Value.slice ar out.length cr) out.length (vstr out) rfl (owns_ext ((x0.trans (hHeld4.trans y5)).trans (by (repeat (first | exact Ext.refl _ | assumption | refine Ext.alloc ?_ _ | refine Ext.drew ?_ | refine Ext.setCell ?_ (by first | (simp; done) | (simp; omega) | omega) _ | refine Ext.trans ?_ (by assumption))))) HO.out) ⟨w5.heap.size, 0, none⟩ 1 1 [.string s] rfl rfl (fun i u hu => by rw [Addr.add_lit, Nat.zero_add]; exact (World.cell?_alloc_new w5 _ _ _).trans (by simpa using hu)) (fun u hu => by simp at hu; subst hu; rfl) (by unfold maxLen; omega) (by omega) (Nat.le_trans (show b + 3 ≤ w5.heap.size by omega) (show Ext w5 _ from by (repeat (first | exact Ext.refl _ | assumption | refine Ext.alloc ?_ _ | refine Ext.drew ?_ | refine Ext.setCell ?_ (by first | (simp; done) | (simp; omega) | omega) _ | refine Ext.trans ?_ (by assumption)))).size) ?_; intro v6 w6 ho6 hg6 hw6; have hX6 : ExtX (Own3 b (.slice ar out.length cr)) w4 w6 := extx_grown (y5.trans (by (repeat (first | exact Ext.refl _ | assumption | refine Ext.alloc ?_ _ | refine Ext.drew ?_ | refine Ext.setCell ?_ (by first | (simp; done) | (simp; omega) | omega) _ | refine Ext.trans ?_ (by assumption))))) hg6 (fun k hk => .inr hk); obtain ⟨hB6, hR6, hO6⟩ := gather_step HB.out HO.out HI.out HT.out ((x0.trans (hHeld4.trans y5)).trans (by (repeat (first | exact Ext.refl _ | assumption | refine Ext.alloc ?_ _ | refine Ext.drew ?_ | refine Ext.setCell ?_ (by first | (simp; done) | (simp; omega) | omega) _ | refine Ext.trans ?_ (by assumption))))) (Nat.lt_of_lt_of_le (show w.heap.size < w5.heap.size by omega) (show Ext w5 _ from by (repeat (first | exact Ext.refl _ | assumption | refine Ext.alloc ?_ _ | refine Ext.drew ?_ | refine Ext.setCell ?_ (by first | (simp; done) | (simp; omega) | omega) _ | refine Ext.trans ?_ (by assumption)))).size) ho6 hg6 hw6; obtain ⟨a6, c6, rfl, _, _, _⟩ := owns_row1 ho6; have f6 := hB6.frozen 0; have e60 := hB6.cell 0; have hl6 := hB6.lt; have HR6 := Lib.hid hR6; have HO6 := Lib.hid hO6; clear hR6 hO6 ho6 hg6 hw6 hB6)); refine hK.out _ _ (by (try dsimp only); (repeat (first | exact ExtX.refl _ | assumption | refine ExtX.alloc ?_ _ | refine ExtX.drew ?_ | refine ExtX.setCell ?_ (by first | (left; rfl) | (left; left; rfl) | (right; simp; done) | (right; simp; omega) | (right; omega)) _ | refine ExtX.then_ ?_ (by assumption)))) (fun hHeld => ?_); clear hK K; try simp only [Act.put, List.setIfInBounds_toArray, List.set_cons_zero, List.set_cons_succ]
      refine held_do 6 rfl (by kernel_rfl) (by rfl) (fun K hK => ?_); go_simp; refine hK.out _ _ (by (try dsimp only); (repeat (first | exact ExtX.refl _ | assumption | refine ExtX.alloc ?_ _ | refine ExtX.drew ?_ | refine ExtX.setCell ?_ (by first | (left; rfl) | (left; left; rfl) | (right; simp; done) | (right; simp; omega) | (right; omega)) _ | refine ExtX.then_ ?_ (by assumption)))) (fun hHeld => ?_); clear hK K; try simp only [Act.put, List.setIfInBounds_toArray, List.set_cons_zero, List.set_cons_succ]
      refine wpAnyH_done (by kernel_rfl) ?_ _
      rotate_left 1
      go_simp; refine hK.out _ _ (by (try dsimp only); (repeat (first | exact ExtX.refl _ | assumption | refine ExtX.alloc ?_ _ | refine ExtX.drew ?_ | refine ExtX.setCell ?_ (by first | (left; rfl) | (left; left; rfl) | (right; simp; done) | (right; simp; omega) | (right; omega)) _ | refine ExtX.then_ ?_ (by assumption)))) (fun hHeld => ?_); clear hK K; try simp only [Act.put, List.setIfInBounds_toArray, List.set_cons_zero, List.set_cons_succ]
      refine held_do 0 rfl (by kernel_rfl) (by rfl) (fun K hK => ?_); go_simp; refine hK.out _ _ (by (try dsimp only); (repeat (first | exact ExtX.refl _ | assumption | refine ExtX.alloc ?_ _ | refine ExtX.drew ?_ | refine ExtX.setCell ?_ (by first | (left; rfl) | (left; left; rfl) | (right; simp; done) | (right; simp; omega) | (right; omega)) _ | refine ExtX.then_ ?_ (by assumption)))) (fun hHeld => ?_); clear hK K; try simp only [Act.put, List.setIfInBounds_toArray, List.set_cons_zero, List.set_cons_succ]
      refine held_do 5 rfl (by kernel_rfl) (by rfl) (fun K hK => ?_); (first | (refine wp_append_mine (.tmp 20) (.tmp 24) 51 rfl (b + 3) 9 i0 (.string ByteArray.empty) 1 16 Tryd.underlying51 HIN.out.1 HIN.out.2.1 HIN.out.2.2.1 HIN.out.2.2.2 rfl (by decide) (Value.slice ar out.length cr) out.length (vstr out) rfl (owns_ext ((x0.trans (hHeld4.trans y5)).trans (by (repeat (first | exact Ext.refl _ | assumption | refine Ext.alloc ?_ _ | refine Ext.drew ?_ | refine Ext.setCell ?_ (by first | (simp; done) | (simp; omega) | omega) _ | refine Ext.trans ?_ (by assumption))))) HO.out) ⟨w5.heap.size, 0, none⟩ 1 1 [.string s] rfl rfl (fun i u hu => by rw [Addr.add_lit, Nat.zero_add]; exact (World.cell?_alloc_new w5 _ _ _).trans (by simpa using hu)) (fun u hu => by simp at hu; subst hu; rfl) (by unfold maxLen; omega) (by omega) (Nat.le_trans (show b + 3 ≤ w5.heap.size by omega) (show Ext w5 _ from by (repeat (first | exact Ext.refl _ | assumption | refine Ext.alloc ?_ _ | refine Ext.drew ?_ | refine Ext.setCell ?_ (by first | (simp; done) | (simp; omega) | omega) _ | refine Ext.trans ?_ (by assumption)))).size) ?_; intro v6 w6 ho6 hg6 hw6; have hX6 : ExtX (Own3 b (.slice ar out.length cr)) w4 w6 := extx_grown (y5.trans (by (repeat (first | exact Ext.refl _ | assumption | refine Ext.alloc ?_ _ | refine Ext.drew ?_ | refine Ext.setCell ?_ (by first | (simp; done) | (simp; omega) | omega) _ | refine Ext.trans ?_ (by assumption))))) hg6 (fun k hk => .inr hk); obtain ⟨hB6, hR6, hO6⟩ := gather_step HB.out HO.out HI.out HT.out ((x0.trans (hHeld4.trans y5)).trans (by (repeat (first | exact Ext.refl _ | assumption | refine Ext.alloc ?_ _ | refine Ext.drew ?_ | refine Ext.setCell ?_ (by first | (simp; done) | (simp; omega) | omega) _ | refine Ext.trans ?_ (by assumption))))) (Nat.lt_of_lt_of_le (show w.heap.size < w5.heap.size by omega) (show Ext w5 _ from by (repeat (first | exact Ext.refl _ | assumption | refine Ext.alloc ?_ _ | refine Ext.drew ?_ | refine Ext.setCell ?_ (by first | (simp; done) | (simp; omega) | omega) _ | refine Ext.trans ?_ (by assumption)))).size) ho6 hg6 hw6; obtain ⟨a6, c6, rfl, _, _, _⟩ := owns_row1 ho6; have f6 := hB6.frozen 0; have e60 := hB6.cell 0; have hl6 := hB6.lt; have HR6 := Lib.hid hR6; have HO6 := Lib.hid hO6; clear hR6 hO6 ho6 hg6 hw6 hB6)); refine hK.out _ _ (by (try dsimp only); (repeat (first | exact ExtX.refl _ | assumption | refine ExtX.alloc ?_ _ | refine ExtX.drew ?_ | refine ExtX.setCell ?_ (by first | (left; rfl) | (left; left; rfl) | (right; simp; done) | (right; simp; omega) | (right; omega)) _ | refine ExtX.then_ ?_ (by assumption)))) (fun hHeld => ?_); clear hK K; try simp only [Act.put, List.setIfInBounds_toArray, List.set_cons_zero, List.set_cons_succ]
      refine held_do 6 rfl (by kernel_rfl) (by rfl) (fun K hK => ?_); go_simp; refine hK.out _ _ (by (try dsimp only); (repeat (first | exact ExtX.refl _ | assumption | refine ExtX.alloc ?_ _ | refine ExtX.drew ?_ | refine ExtX.setCell ?_ (by first | (left; rfl) | (left; left; rfl) | (right; simp; done) | (right; simp; omega) | (right; omega)) _ | refine ExtX.then_ ?_ (by assumption)))) (fun hHeld => ?_); clear hK K; try simp only [Act.put, List.setIfInBounds_toArray, List.set_cons_zero, List.set_cons_succ]
      refine wpAnyH_done (by kernel_rfl) ?_ _
      rotate_left 1
      all_goals
        go_wp2_with fail
        go_ret
        have hg' : gatherF p tx out bd (.mk x l) = (out ++ [s], true) := by rw [HG.out, HPut.out]; rfl
        rw [hg']
        exact ⟨rfl, HR6.out, HO6.out⟩
    · go_wp2_with fail
      go_ret
      have hfin := hHeld
      have hxf : Ext w _ := x0.trans hfin
      have hg' : gatherF p tx out bd (.mk x l) = (out, true) := by rw [HG.out, HPut.out]; rfl
      rw [hg']
      exact ⟨rfl, ((gGather b KI KT).keep _ _ _ HR0.out hxf).1, (gGather b KI KT).oext HR0.out hxf⟩
end Go.Proofs.YtmomahgedheekaaDoor
