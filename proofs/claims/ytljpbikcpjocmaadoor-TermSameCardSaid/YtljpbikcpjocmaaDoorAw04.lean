/- The walk of the document's example of layer 4. -/
import Derived.Test.YtljpbikcpjocmaaDoorTerm3
import Derived.Test.YtljpbikcpjocmaaDoorRef04c
namespace Go.Proofs.YtljpbikcpjocmaaDoor
open Go Go.RowKit Go.Sort

/-- A law's answer. -/
def Yes4 (w : World) (e : Ending) (w' : World) : Prop := e = .returned (.bool true) ∧ Ext w w'
def hx4 : Hd := ⟨2, 0, 0, 0, ⟨#[120]⟩, ⟨#[]⟩, ⟨#[]⟩⟩
def hf4 : Hd := ⟨11, 0, 0, 0, ⟨#[]⟩, ⟨#[120]⟩, ⟨#[]⟩⟩
theorem fits_x4 : hx4.Fits := by constructor <;> decide +kernel
theorem fits_f4 : hf4.Fits := by constructor <;> decide +kernel
def tf4 : Tm := .mk hf4 [.mk hx4 []]
theorem size_f4 : tf4.size = 2 := rfl
theorem depth_f4 : tf4.depth = 2 := by decide +kernel
theorem may_f4 : tf4.may = true := by decide +kernel
theorem has_f4 : (tf4.all.any fun t => t.head.k == 2) = true := by decide +kernel

set_option maxRecDepth 8000 in
set_option maxHeartbeats 1000000 in
theorem law04_awake (w : World) (hkn : Knob w) : Calls Tryd.prog 20 #[] w (Yes4 w) := by
  have hX : IsTms ((w.alloc (.cells #[.int .u8 2, .int .u8 0, .int .i64 0, .int .i64 0, .string ⟨#[120]⟩, .string ⟨#[]⟩, .string ⟨#[]⟩, .slice none 0 0] 34)).alloc (.cells #[.int .u8 2, .int .u8 0, .int .i64 0, .int .i64 0, .string ⟨#[120]⟩, .string ⟨#[]⟩, .string ⟨#[]⟩, .slice none 0 0] 34)) [.mk hx4 []] (some ⟨w.heap.size + 1, 0, none⟩) 1 := by
    have h := IsTms.new (w := w.alloc (.cells #[.int .u8 2, .int .u8 0, .int .i64 0, .int .i64 0, .string ⟨#[120]⟩, .string ⟨#[]⟩, .string ⟨#[]⟩, .slice none 0 0] 34)) (h := hx4) (l := []) (a := none) (len := 0) (cap := 0) 34 (IsTmsA.nil _) (Nat.le_refl _) (by omega) fits_x4
    rw [World.size_alloc] at h
    exact h
  obtain ⟨W2, hW2⟩ : ∃ W2, W2 = (w.alloc (.cells #[.int .u8 2, .int .u8 0, .int .i64 0, .int .i64 0, .string ⟨#[120]⟩, .string ⟨#[]⟩, .string ⟨#[]⟩, .slice none 0 0] 34)).alloc (.cells #[.int .u8 2, .int .u8 0, .int .i64 0, .int .i64 0, .string ⟨#[120]⟩, .string ⟨#[]⟩, .string ⟨#[]⟩, .slice none 0 0] 34) := ⟨_, rfl⟩
  have x2 : Ext w W2 := by rw [hW2]; exact ((Ext.refl _).alloc _).alloc _
  have hs2 : W2.heap.size = w.heap.size + 2 := by rw [hW2]; simp
  rw [← hW2] at hX
  have HR : Hid (∀ W n, Ext W2 W → n = W.heap.size → IsTms (W.alloc (.cells #[.int .u8 11, .int .u8 0, .int .i64 0, .int .i64 0, .string ⟨#[]⟩, .string ⟨#[120]⟩, .string ⟨#[]⟩, .slice (some ⟨w.heap.size + 1, 0, none⟩) 1 1] 34)) [tf4] (some ⟨n, 0, none⟩) 1) := by
    intro W n h e
    subst e
    exact IsTms.new (h := hf4) (a := some ⟨w.heap.size + 1, 0, none⟩) 34 (hX.ext h) (Nat.le_refl _) (by omega) fits_f4
  have HT : Hid (∀ W, Ext W2 W → IsTm W tf4 (.agg #[.int .u8 11, .int .u8 0, .int .i64 0, .int .i64 0, .string ⟨#[]⟩, .string ⟨#[120]⟩, .string ⟨#[]⟩, .slice (some ⟨w.heap.size + 1, 0, none⟩) 1 1])) := fun W h => IsTmA.mk_ (h := hf4) (hX.ext h) (Nat.le_refl _) (by omega) fits_f4
  have K1 := Lib.hid fun W b (h : IsTms W [tf4] b 1) => term_size [tf4] W b 1 1 (by decide +kernel) (Nat.le_refl _) (by omega) h
  have K2 := Lib.hid fun W b (h : IsTms W [tf4] b 1) => term_depth 2 [tf4] W b 1 1 (by decide +kernel) (by decide +kernel) (Nat.le_refl _) (by omega) h
  have K3 := Lib.hid fun W (h : IsTm W tf4 (.agg #[.int .u8 11, .int .u8 0, .int .i64 0, .int .i64 0, .string ⟨#[]⟩, .string ⟨#[120]⟩, .string ⟨#[]⟩, .slice (some ⟨w.heap.size + 1, 0, none⟩) 1 1])) (hk : Knob W) => term_may tf4 W _ h hk (by decide +kernel)
  have K4 := Lib.hid fun W b (h : IsTms W [tf4] b 1) => term_has 2 [tf4] W b 1 1 (Nat.le_refl _) (by omega) h
  rw [show Tm.sizes [tf4] = 2 from by decide +kernel] at K1
  rw [show Tm.depths [tf4] = 2 from by decide +kernel] at K2
  rw [may_f4] at K3
  rw [show ((Tm.alls [tf4]).any fun t => t.head.k == 2) = true from by decide +kernel] at K4
  have W3s : (W2.alloc (.cells #[.int .u8 11, .int .u8 0, .int .i64 0, .int .i64 0, .string ⟨#[]⟩, .string ⟨#[120]⟩, .string ⟨#[]⟩, .slice (some ⟨w.heap.size + 1, 0, none⟩) 1 1] 34)).heap.size = w.heap.size + 3 := by rw [World.size_alloc, hs2]
  have d0 : (W2.alloc (.cells #[.int .u8 11, .int .u8 0, .int .i64 0, .int .i64 0, .string ⟨#[]⟩, .string ⟨#[120]⟩, .string ⟨#[]⟩, .slice (some ⟨w.heap.size + 1, 0, none⟩) 1 1] 34)).cell? ⟨w.heap.size + 1 + 1, 0, none⟩ = some (.int .u8 11) := by rw [show w.heap.size + 1 + 1 = W2.heap.size from by rw [hs2]]; simp
  have d1 : (W2.alloc (.cells #[.int .u8 11, .int .u8 0, .int .i64 0, .int .i64 0, .string ⟨#[]⟩, .string ⟨#[120]⟩, .string ⟨#[]⟩, .slice (some ⟨w.heap.size + 1, 0, none⟩) 1 1] 34)).cell? ⟨w.heap.size + 1 + 1, 1, none⟩ = some (.int .u8 0) := by rw [show w.heap.size + 1 + 1 = W2.heap.size from by rw [hs2]]; simp
  have d2 : (W2.alloc (.cells #[.int .u8 11, .int .u8 0, .int .i64 0, .int .i64 0, .string ⟨#[]⟩, .string ⟨#[120]⟩, .string ⟨#[]⟩, .slice (some ⟨w.heap.size + 1, 0, none⟩) 1 1] 34)).cell? ⟨w.heap.size + 1 + 1, 2, none⟩ = some (.int .i64 0) := by rw [show w.heap.size + 1 + 1 = W2.heap.size from by rw [hs2]]; simp
  have d3 : (W2.alloc (.cells #[.int .u8 11, .int .u8 0, .int .i64 0, .int .i64 0, .string ⟨#[]⟩, .string ⟨#[120]⟩, .string ⟨#[]⟩, .slice (some ⟨w.heap.size + 1, 0, none⟩) 1 1] 34)).cell? ⟨w.heap.size + 1 + 1, 3, none⟩ = some (.int .i64 0) := by rw [show w.heap.size + 1 + 1 = W2.heap.size from by rw [hs2]]; simp
  have d4 : (W2.alloc (.cells #[.int .u8 11, .int .u8 0, .int .i64 0, .int .i64 0, .string ⟨#[]⟩, .string ⟨#[120]⟩, .string ⟨#[]⟩, .slice (some ⟨w.heap.size + 1, 0, none⟩) 1 1] 34)).cell? ⟨w.heap.size + 1 + 1, 4, none⟩ = some (.string ⟨#[]⟩) := by rw [show w.heap.size + 1 + 1 = W2.heap.size from by rw [hs2]]; simp
  have d5 : (W2.alloc (.cells #[.int .u8 11, .int .u8 0, .int .i64 0, .int .i64 0, .string ⟨#[]⟩, .string ⟨#[120]⟩, .string ⟨#[]⟩, .slice (some ⟨w.heap.size + 1, 0, none⟩) 1 1] 34)).cell? ⟨w.heap.size + 1 + 1, 5, none⟩ = some (.string ⟨#[120]⟩) := by rw [show w.heap.size + 1 + 1 = W2.heap.size from by rw [hs2]]; simp
  have d6 : (W2.alloc (.cells #[.int .u8 11, .int .u8 0, .int .i64 0, .int .i64 0, .string ⟨#[]⟩, .string ⟨#[120]⟩, .string ⟨#[]⟩, .slice (some ⟨w.heap.size + 1, 0, none⟩) 1 1] 34)).cell? ⟨w.heap.size + 1 + 1, 6, none⟩ = some (.string ⟨#[]⟩) := by rw [show w.heap.size + 1 + 1 = W2.heap.size from by rw [hs2]]; simp
  have d7 : (W2.alloc (.cells #[.int .u8 11, .int .u8 0, .int .i64 0, .int .i64 0, .string ⟨#[]⟩, .string ⟨#[120]⟩, .string ⟨#[]⟩, .slice (some ⟨w.heap.size + 1, 0, none⟩) 1 1] 34)).cell? ⟨w.heap.size + 1 + 1, 7, none⟩ = some (.slice (some ⟨w.heap.size + 1, 0, none⟩) 1 1) := by rw [show w.heap.size + 1 + 1 = W2.heap.size from by rw [hs2]]; simp
  have x3 : Ext W2 (W2.alloc (.cells #[.int .u8 11, .int .u8 0, .int .i64 0, .int .i64 0, .string ⟨#[]⟩, .string ⟨#[120]⟩, .string ⟨#[]⟩, .slice (some ⟨w.heap.size + 1, 0, none⟩) 1 1] 34)) := (Ext.refl _).alloc _
  have HW2 := Lib.hid hW2
  have HS3 := Lib.hid W3s
  have HS2 := Lib.hid hs2
  clear hX hW2 W3s hs2
  go_enter Tryd.func20, Tryd.ntmps20
  go_wp2_with fail
  rw [← HW2.out]
  generalize hW3 : W2.alloc (.cells #[.int .u8 11, .int .u8 0, .int .i64 0, .int .i64 0, .string ⟨#[]⟩, .string ⟨#[120]⟩, .string ⟨#[]⟩, .slice (some ⟨w.heap.size + 1, 0, none⟩) 1 1] 34) = W3 at *
  clear hW3 HW2
  refine (K1.out _ _ (HR.out _ _ x3 HS3.out.symm)).mono ?_
  rintro e w1 ⟨rfl, x1⟩
  have y1 : Ext W3 w1 := ((Ext.refl W3).alloc _).trans x1
  have z1 := x3.trans y1
  have e10 := y1.cell d0
  have e11 := y1.cell d1
  have e12 := y1.cell d2
  have e13 := y1.cell d3
  have e14 := y1.cell d4
  have e15 := y1.cell d5
  have e16 := y1.cell d6
  have e17 := y1.cell d7
  go_wp2_with fail
  refine (K2.out _ _ (HR.out _ _ z1 rfl)).mono ?_
  rintro e w4 ⟨rfl, x4⟩
  have y4 : Ext W3 w4 := y1.trans (((Ext.refl _).alloc _).trans x4)
  have z4 := x3.trans y4
  have e40 := y4.cell d0
  have e41 := y4.cell d1
  have e42 := y4.cell d2
  have e43 := y4.cell d3
  have e44 := y4.cell d4
  have e45 := y4.cell d5
  have e46 := y4.cell d6
  have e47 := y4.cell d7
  go_wp2_with fail
  refine (K3.out _ (HT.out _ z4) (hkn.ext (x2.trans z4))).mono ?_
  rintro e w5 ⟨rfl, x5⟩
  have y5 : Ext W3 w5 := y4.trans x5
  have z5 := x3.trans y5
  have e50 := y5.cell d0
  have e51 := y5.cell d1
  have e52 := y5.cell d2
  have e53 := y5.cell d3
  have e54 := y5.cell d4
  have e55 := y5.cell d5
  have e56 := y5.cell d6
  have e57 := y5.cell d7
  go_wp2_with fail
  refine (K4.out _ _ (HR.out _ _ z5 rfl)).mono ?_
  rintro e w6 ⟨rfl, x6⟩
  go_wp2_with fail
  go_ret
  exact ⟨rfl, (x2.trans z5).trans (((Ext.refl _).alloc _).trans x6)⟩
end Go.Proofs.YtljpbikcpjocmaaDoor
