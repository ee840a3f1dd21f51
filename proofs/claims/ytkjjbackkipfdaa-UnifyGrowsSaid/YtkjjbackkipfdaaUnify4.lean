/- The walks of package unify: New, Fresh, link, join. -/
import Derived.Test.YtkjjbackkipfdaaUnify3
namespace Go.Proofs.Ytkjjbackkipfdaa
open Go Go.RowKit Go.Sort
variable {A : Nat → Prop}

set_option maxRecDepth 8000 in
set_option maxHeartbeats 4000000 in
theorem book_link1 (m : Int) (w : World) : Calls Try.prog 51 #[.int .i64 m] w fun e w' => e = .returned (.agg #[.int .u8 5, .int .i64 m, .slice none 0 0]) ∧ Ext w w' := by
  go_enter Try.func51, Try.ntmps51
  go_wp2_with fail
  exact bodyPost_ret (v := .agg #[.int .u8 5, .int .i64 m, .slice none 0 0]) (by simp [results, Try.results51, go_sem]) rfl ⟨rfl, by (exact eX)⟩
theorem ExtX.monoU {A A' : Nat → Prop} {w w' : World} (h : ExtX A w w') (hA : ∀ b, A b → A' b) : ExtX A' w w' := ⟨h.os, h.tape, h.output, h.size, fun k hk ha => h.block k hk fun g => ha (hA k g)⟩
theorem vr_ty {w : World} {m : Int} (h0 : -9223372036854775808 ≤ m) (h1 : m ≤ 9223372036854775807) : IsTyA A w (vr m) (.agg #[.int .u8 5, .int .i64 m, .slice none 0 0]) := IsTyA.mk_ (IsTysA.nil _) (Nat.le_refl _) (by omega) (by omega) (by omega) h0 h1
set_option maxRecDepth 8000 in
set_option maxHeartbeats 4000000 in
theorem book_fresh {w : World} {bb mb n : Nat} {S : St} (hB : BookAtA A w bb mb n S) (hn : n + 1 ≤ 1000000) :
    Calls Try.prog 14 #[.pointer (some ⟨bb, 0, none⟩)] w fun e w' => e = .returned (.agg #[.int .u8 5, .int .i64 (n : Nat), .slice none 0 0]) ∧ BookAtA A w' bb mb (n + 1) S ∧ ExtX (· = bb) w w' := by
  have hB1 := hB.ext ((Ext.refl w).alloc (.cells #[.int .u8 0, .int .i64 0, .slice none 0 0] 25))
  have hlt := hB.blk.lt
  have hw1 : IntKind.i64.wrap ((n : Int) + 1) = (n : Int) + 1 := IntWalk.i64_in _ ⟨by omega, by omega⟩
  have hw2 : IntKind.i64.wrap ((n : Int) + 1 - 1) = (n : Int) := by rw [show (n : Int) + 1 - 1 = n by omega]; exact IntWalk.i64_in _ ⟨by omega, by omega⟩
  have HB1 := Lib.hid hB1
  have HB0 := Lib.hid hB
  have c0 := hB1.c0
  have f0 := hB1.blk.frozen 0
  have lb := hB1.blk.lt
  have hmb := hB1.map.lt
  have hne := hB1.ne
  clear hB hB1
  have Z1 := Lib.hid (Blk.new w 25 #[.int .u8 0, .int .i64 0, .slice none 0 0])
  have X1 : Hid (Ext w (w.alloc (.cells #[.int .u8 0, .int .i64 0, .slice none 0 0] 25))) := Lib.hid ((Ext.refl _).alloc _)
  go_enter Try.func14, Try.ntmps14
  go_upto_region 1 with fail
  generalize w.alloc (.cells #[.int .u8 0, .int .i64 0, .slice none 0 0] 25) = W1 at *
  have B2 := Lib.hid (show Blk (W1.setCell ⟨bb, 0, none⟩ (.int .i64 ((n : Int) + 1))) bb 58 #[.int .i64 ((n : Int) + 1), .map (some mb)] from by have h := HB1.out.blk.set_ 0 (.int .i64 ((n : Int) + 1)); simpa using h)
  have X2 := Lib.hid ((ExtX.refl (A := (· = bb)) W1).setCell (p := ⟨bb, 0, none⟩) (.inl rfl) (.int .i64 ((n : Int) + 1)))
  have Z2 := Lib.hid (Z1.out.far (p := ⟨bb, 0, none⟩) (show w.heap.size ≠ bb by omega) (.int .i64 ((n : Int) + 1)))
  go_upto_region 4 with fail
  clear c0 f0 lb hmb
  generalize W1.setCell ⟨bb, 0, none⟩ (.int .i64 ((n : Int) + 1)) = W2 at *
  have c0 := B2.out.cell 0
  simp at c0
  have z := Z2.out
  have lz := z.lt
  have fz0 := z.frozen 0
  have fz1 := z.frozen 1
  have fz2 := z.frozen 2
  obtain ⟨z0, z1, z2⟩ := z.three
  have lb := B2.out.lt
  have B3 := Lib.hid (B2.out.far3 (g := w.heap.size) (u0 := .int .u8 5) (u1 := .int .i64 (n : Nat)) (u2 := .slice none 0 0) (by omega))
  have Z3 := Lib.hid (z.lay3 (u0 := .int .u8 5) (u1 := .int .i64 (n : Nat)) (u2 := .slice none 0 0))
  have XF : Hid (ExtX (· = bb) w (((W2.setCell ⟨w.heap.size, 0, none⟩ (.int .u8 5)).setCell ⟨w.heap.size, 1, none⟩ (.int .i64 (n : Nat))).setCell ⟨w.heap.size, 2, none⟩ (.slice none 0 0))) := Lib.hid (((((ExtX.of X1.out).trans X2.out).setCell (p := ⟨w.heap.size, 0, none⟩) (.inr (Nat.le_refl _)) _).setCell (p := ⟨w.heap.size, 1, none⟩) (.inr (Nat.le_refl _)) _).setCell (p := ⟨w.heap.size, 2, none⟩) (.inr (Nat.le_refl _)) _)
  clear z
  go_wp2_with fail
  obtain ⟨r0, r1, r2⟩ := Z3.out.three
  refine bodyPost_ret (v := .agg #[.int .u8 5, .int .i64 (n : Nat), .slice none 0 0]) (by simp [results, Try.results14, go_sem, r0, r1, r2]) rfl ⟨rfl, ⟨?_, ?_, hn⟩, XF.out⟩
  · have e : ((n + 1 : Nat) : Int) = (n : Int) + 1 := by omega
    rw [e]
    exact B3.out
  · exact (HB0.out.map.move (XF.out.block mb HB0.out.map.lt (fun e => HB0.out.ne e.symm)) (fun _ _ h => HB0.out.keep (XF.out.monoU fun b e => .inl e) h)).more (Nat.le_succ n)
set_option maxRecDepth 8000 in
set_option maxHeartbeats 4000000 in
theorem nil_fresh (w : World) : Calls Try.prog 14 #[.pointer none] w fun e w' => e = .returned (.agg #[.int .u8 0, .int .i64 0, .slice none 0 0]) ∧ Ext w w' := by
  go_enter Try.func14, Try.ntmps14
  go_wp2_with fail
  exact bodyPost_ret (v := .agg #[.int .u8 0, .int .i64 0, .slice none 0 0]) (by simp [results, Try.results14, go_sem]) rfl ⟨rfl, by (exact eX)⟩
set_option maxRecDepth 8000 in
set_option maxHeartbeats 4000000 in
theorem book_new (w : World) : Calls Try.prog 11 #[] w fun e w' => ∃ bb mb, e = .returned (.pointer (some ⟨bb, 0, none⟩)) ∧ BookAtA A w' bb mb 0 (fun _ => none) ∧ w.heap.size ≤ bb ∧ w.heap.size ≤ mb ∧ Ext w w' := by
  have hmm := @run_makeMap Try.prog
  have HM := Lib.hid (MapAtA.made (A := A) w Try.prog 3 0)
  go_enter Try.func11, Try.ntmps11
  go_wp2_with fail
  go_ret
  refine ⟨w.heap.size + 1, w.heap.size, rfl, ⟨?_, HM.out.ext ((Ext.refl _).alloc _), by omega⟩, by omega, Nat.le_refl _, by (exact eX)⟩
  have h := Blk.new (w.alloc (.map #[] 0)) 58 #[.int .i64 0, .map (some w.heap.size)]
  rw [World.size_alloc] at h
  exact h
end Go.Proofs.Ytkjjbackkipfdaa
