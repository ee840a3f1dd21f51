/- Part 31 of the proof: Term3; no condition of ours. -/
import Derived.Test.YtaioeailgknfjaaGreatDoorPku26
import Derived.Test.YtaioeailgknfjaaGreatDoorPku30
set_option linter.unusedVariables false
set_option linter.unusedSimpArgs false
namespace Go.Proofs.YtaioeailgknfjaaGreatDoor
open Go Go.RowKit Go.Sort
theorem enters_node4 : ∀ args w, (callFunc 75 args).run Tryz.prog w = .ok (.enter 75 args) w := enters_of Tryz.func75 (by kernel_rfl) rfl
def gKnob : Gauge Unit where
  R := fun _ w => Knob w
  own := noOwn
  keep := fun _ _ _ h hx => ⟨Knob.ext h hx, fun _ h => h⟩
  lt := fun _ _ _ _ hk => hk.elim
theorem node_steps : Steps0 gKnob (fun s t => (s, t.node)) (fun _ _ => True) 75 := by
  intro _ w x l a len cap hR hr hf h1 h2 hl
  refine (term_node (.mk x l) w _ (IsTmA.mk_ hl.any h1 h2 hf) hR).mono ?_
  rintro e w' ⟨rfl, hx⟩
  exact ⟨rfl, Knob.ext hR hx, oext_none hx⟩
set_option maxHeartbeats 400000 in
theorem term_may (t : Tm) (w : World) (v : Value) (ht : IsTm w t v) (hkn : Knob w) (hs : t.size ≤ 1000000) :
    Calls Tryz.prog 47 #[v] w fun e w' => e = .returned (.bool t.may) ∧ Ext w w' := by
  obtain ⟨x, l⟩ := t
  obtain ⟨a, len, cap, rfl, h1, h2, hf, hl⟩ := ht.open_
  have hsz : Tm.sizes [.mk x l] = (Tm.mk x l).size := by simp [Tm.sizes]
  have hall : Tm.alls [.mk x l] = (Tm.mk x l).all := by simp [Tm.alls]
  have KS := Lib.hid fun W b (h : IsTms W [.mk x l] b 1) => term_size [.mk x l] W b 1 1 (by omega) (Nat.le_refl _) (by omega) h
  have KN := Lib.hid fun W b (hk : Knob W) (h : IsTms W [.mk x l] b 1) => term_each0 gKnob (fun s t => (s, t.node)) (fun _ _ => True) (fun _ _ _ _ => trivial) (fun _ _ _ _ _ => trivial) 75 enters_node4 node_steps _ [.mk x l] () W b 1 1 (Nat.le_refl _) hk trivial (Nat.le_refl _) (by omega)
    (h.fresh (A' := noOwn W) (Ext.refl W) fun k hk => hk.elim)
  rw [hsz] at KS
  have hres := Tm.walks_all Tm.node [.mk x l]
  rw [hall] at hres
  rw [hres] at KN
  have HM : Hid ((Tm.mk x l).may = (decide ((Tm.mk x l).size ≤ 4000) && (Tm.mk x l).all.all Tm.node)) := rfl
  have x0 : Ext w (w.alloc (.cells #[.int .u8 x.k, .int .u8 x.op, .int .i64 x.pos, .int .i64 x.n, .string x.name, .string x.arg, .string x.exn, .slice a len cap] 28)) := (Ext.refl _).alloc _
  have HR : Hid (∀ W n, Ext w W → n = W.heap.size → IsTms (W.alloc (.cells #[.int .u8 x.k, .int .u8 x.op, .int .i64 x.pos, .int .i64 x.n, .string x.name, .string x.arg, .string x.exn, .slice a len cap] 28)) [.mk x l] (some ⟨n, 0, none⟩) 1) := by
    intro W n h e
    subst e
    exact IsTms.new 28 (hl.ext h) h1 h2 hf
  generalize (Tm.mk x l).size = sz at *
  generalize (Tm.mk x l).all.all Tm.node = b at *
  clear hres hall hsz ht hf hl
  by_cases h4 : sz ≤ 4000
  · have hd : decide ((sz : Int) ≤ 4000) = true := by simp; omega
    rw [decide_eq_true h4] at HM
    clear h4
    go_enter Tryz.func47, Tryz.ntmps47
    go_wp2_with fail
    refine (KS.out _ _ (HR.out _ (w.heap.size + 1) x0 (by simp))).mono ?_
    rintro e w1 ⟨rfl, x1⟩
    have y1 := x0.trans (((Ext.refl _).alloc _).trans x1)
    have q0 := x1.cell (p := ⟨w.heap.size, 0, none⟩) (v := .int .u8 x.k) (by simp [go_sem])
    have q1 := x1.cell (p := ⟨w.heap.size, 1, none⟩) (v := .int .u8 x.op) (by simp [go_sem])
    have q2 := x1.cell (p := ⟨w.heap.size, 2, none⟩) (v := .int .i64 x.pos) (by simp [go_sem])
    have q3 := x1.cell (p := ⟨w.heap.size, 3, none⟩) (v := .int .i64 x.n) (by simp [go_sem])
    have q4 := x1.cell (p := ⟨w.heap.size, 4, none⟩) (v := .string x.name) (by simp [go_sem])
    have q5 := x1.cell (p := ⟨w.heap.size, 5, none⟩) (v := .string x.arg) (by simp [go_sem])
    have q6 := x1.cell (p := ⟨w.heap.size, 6, none⟩) (v := .string x.exn) (by simp [go_sem])
    have q7 := x1.cell (p := ⟨w.heap.size, 7, none⟩) (v := .slice a len cap) (by simp [go_sem])
    have hlt : w.heap.size < w1.heap.size := by have := y1.size; have := x1.size; simp at this; omega
    go_wp2_with fail
    refine (KN.out _ _ (hkn.ext (y1.alloc _)) (HR.out _ _ y1 rfl)).mono ?_
    rintro e w2 ⟨rfl, r2, x2⟩
    go_wp2_with fail
    go_ret
    exact ⟨ret_bool (by rw [HM.out]; simp), (y1.alloc _).trans (none_oext x2)⟩
  · have hd : decide ((sz : Int) ≤ 4000) = false := by simp; omega
    rw [decide_eq_false h4] at HM
    clear h4
    go_enter Tryz.func47, Tryz.ntmps47
    go_wp2_with fail
    refine (KS.out _ _ (HR.out _ (w.heap.size + 1) x0 (by simp))).mono ?_
    rintro e w1 ⟨rfl, x1⟩
    go_wp2_with fail
    go_ret
    exact ⟨ret_bool (by rw [HM.out]; simp), x0.trans (((Ext.refl _).alloc _).trans x1)⟩
end Go.Proofs.YtaioeailgknfjaaGreatDoor
