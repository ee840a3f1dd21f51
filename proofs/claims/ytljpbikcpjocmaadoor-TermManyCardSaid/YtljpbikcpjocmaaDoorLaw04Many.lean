/- The walk of the law TermMany. -/
import Derived.Test.YtljpbikcpjocmaaDoorAw04
namespace Go.Proofs.YtljpbikcpjocmaaDoor
open Go Go.RowKit Go.Sort

def hn4 : Hd := ⟨1, 0, 0, 0, ⟨#[]⟩, ⟨#[]⟩, ⟨#[]⟩⟩
def hk4 : Hd := ⟨4, 0, 0, 0, ⟨#[]⟩, ⟨#[]⟩, ⟨#[]⟩⟩
theorem fits_n4 : hn4.Fits := by constructor <;> decide +kernel
theorem fits_k4 : hk4.Fits := by constructor <;> decide +kernel
/-- A number behind so many signs. -/
def chain : Nat → Tm
  | 0 => .mk hn4 []
  | j + 1 => .mk hk4 [chain j]
theorem chain_size (j : Nat) : (chain j).size = j + 1 := by
  induction j with
  | zero => rfl
  | succ j ih => simp only [chain, Tm.size, Tm.sizes, ih]; omega
theorem chain_depth (j : Nat) : (chain j).depth = j + 1 := by
  induction j with
  | zero => rfl
  | succ j ih => simp only [chain, Tm.depth, Tm.depths, ih]; omega
theorem node_k4 (t : Tm) : Tm.node (.mk hk4 [t]) = true := by
  have h : Tm.node (.mk hk4 [.mk hn4 []]) = true := by decide +kernel
  simpa [Tm.node, Tm.nums] using h
theorem chain_nodes (j : Nat) : (chain j).all.all Tm.node = true := by
  induction j with
  | zero => decide +kernel
  | succ j ih => simp only [chain, Tm.all, Tm.alls, List.append_nil, List.all_cons, node_k4, ih, Bool.and_self]
theorem chain_may (j : Nat) : (chain j).may = decide (j + 1 ≤ 4000) := by
  unfold Tm.may
  rw [chain_size, chain_nodes, Bool.and_true]
theorem chain_fits (j : Nat) : (chain j).head.Fits := by
  cases j
  · exact fits_n4
  · exact fits_k4
theorem chain_mk (j : Nat) : chain j = .mk (chain j).head (chain j).kids := by cases j <;> rfl

/-- The slot holds the chain. -/
def Slot4 (w : World) (g : Nat) (t : Tm) : Prop := ∃ a len cap, Blk w g 34 (tcells t.head a len cap) ∧ IsTmsA (fun k => k = g) w t.kids a len ∧ len ≤ cap ∧ cap ≤ 9223372036854775807

/-- One round: what was in the slot is the kid of what is there now. -/
theorem slot_step {w wr : World} {g : Nat} {x : Hd} {k : List Tm} {a : Option Addr} {len cap : Nat} (hB : Blk wr g 34 (tcells x a len cap)) (hl : IsTmsA (fun k => k = g) wr k a len) (h1 : len ≤ cap) (h2 : cap ≤ 9223372036854775807) (hf : x.Fits) (hgw : w.heap.size ≤ g) (hx : Ext w wr) :
    Slot4 (((((((((wr.setCell ⟨g, 0, none⟩ (.int .u8 4)).setCell ⟨g, 1, none⟩ (.int .u8 0)).setCell ⟨g, 2, none⟩ (.int .i64 0)).setCell ⟨g, 3, none⟩ (.int .i64 0)).setCell ⟨g, 4, none⟩ (.string ⟨#[]⟩)).setCell ⟨g, 5, none⟩ (.string ⟨#[]⟩)).setCell ⟨g, 6, none⟩ (.string ⟨#[]⟩)).setCell ⟨g, 7, none⟩ (.slice (some ⟨wr.heap.size, 0, none⟩) 1 1)).alloc (.cells (tcells x a len cap) 34)) g (.mk hk4 [.mk x k]) ∧ Ext w (((((((((wr.setCell ⟨g, 0, none⟩ (.int .u8 4)).setCell ⟨g, 1, none⟩ (.int .u8 0)).setCell ⟨g, 2, none⟩ (.int .i64 0)).setCell ⟨g, 3, none⟩ (.int .i64 0)).setCell ⟨g, 4, none⟩ (.string ⟨#[]⟩)).setCell ⟨g, 5, none⟩ (.string ⟨#[]⟩)).setCell ⟨g, 6, none⟩ (.string ⟨#[]⟩)).setCell ⟨g, 7, none⟩ (.slice (some ⟨wr.heap.size, 0, none⟩) 1 1)).alloc (.cells (tcells x a len cap) 34)) := by
  have hlt := hB.lt
  have hsz : ((((((((wr.setCell ⟨g, 0, none⟩ (.int .u8 4)).setCell ⟨g, 1, none⟩ (.int .u8 0)).setCell ⟨g, 2, none⟩ (.int .i64 0)).setCell ⟨g, 3, none⟩ (.int .i64 0)).setCell ⟨g, 4, none⟩ (.string ⟨#[]⟩)).setCell ⟨g, 5, none⟩ (.string ⟨#[]⟩)).setCell ⟨g, 6, none⟩ (.string ⟨#[]⟩)).setCell ⟨g, 7, none⟩ (.slice (some ⟨wr.heap.size, 0, none⟩) 1 1)).heap.size = wr.heap.size := by simp [World.setCell]
  have hB8 := ((((((((hB.set_ 0 (.int .u8 4)).set_ 1 (.int .u8 0)).set_ 2 (.int .i64 0)).set_ 3 (.int .i64 0)).set_ 4 (.string ⟨#[]⟩)).set_ 5 (.string ⟨#[]⟩)).set_ 6 (.string ⟨#[]⟩)).set_ 7 (.slice (some ⟨wr.heap.size, 0, none⟩) 1 1))
  have e8 : (((((((((tcells x a len cap).setIfInBounds 0 (.int .u8 4)).setIfInBounds 1 (.int .u8 0)).setIfInBounds 2 (.int .i64 0)).setIfInBounds 3 (.int .i64 0)).setIfInBounds 4 (.string ⟨#[]⟩)).setIfInBounds 5 (.string ⟨#[]⟩)).setIfInBounds 6 (.string ⟨#[]⟩)).setIfInBounds 7 (.slice (some ⟨wr.heap.size, 0, none⟩) 1 1)) = tcells hk4 (some ⟨wr.heap.size, 0, none⟩) 1 1 := by simp [tcells, hk4]
  rw [e8] at hB8
  clear e8
  have hl8 := (IsTmsA.setCell (A := fun k => k = g) (p := ⟨g, 7, none⟩) rfl (.slice (some ⟨wr.heap.size, 0, none⟩) 1 1) (IsTmsA.setCell (A := fun k => k = g) (p := ⟨g, 6, none⟩) rfl (.string ⟨#[]⟩) (IsTmsA.setCell (A := fun k => k = g) (p := ⟨g, 5, none⟩) rfl (.string ⟨#[]⟩) (IsTmsA.setCell (A := fun k => k = g) (p := ⟨g, 4, none⟩) rfl (.string ⟨#[]⟩) (IsTmsA.setCell (A := fun k => k = g) (p := ⟨g, 3, none⟩) rfl (.int .i64 0) (IsTmsA.setCell (A := fun k => k = g) (p := ⟨g, 2, none⟩) rfl (.int .i64 0) (IsTmsA.setCell (A := fun k => k = g) (p := ⟨g, 1, none⟩) rfl (.int .u8 0) (IsTmsA.setCell (A := fun k => k = g) (p := ⟨g, 0, none⟩) rfl (.int .u8 4) hl))))))))
  have hx8 : Ext w ((((((((wr.setCell ⟨g, 0, none⟩ (.int .u8 4)).setCell ⟨g, 1, none⟩ (.int .u8 0)).setCell ⟨g, 2, none⟩ (.int .i64 0)).setCell ⟨g, 3, none⟩ (.int .i64 0)).setCell ⟨g, 4, none⟩ (.string ⟨#[]⟩)).setCell ⟨g, 5, none⟩ (.string ⟨#[]⟩)).setCell ⟨g, 6, none⟩ (.string ⟨#[]⟩)).setCell ⟨g, 7, none⟩ (.slice (some ⟨wr.heap.size, 0, none⟩) 1 1)) := (Ext.setCell (p := ⟨g, 7, none⟩) (Ext.setCell (p := ⟨g, 6, none⟩) (Ext.setCell (p := ⟨g, 5, none⟩) (Ext.setCell (p := ⟨g, 4, none⟩) (Ext.setCell (p := ⟨g, 3, none⟩) (Ext.setCell (p := ⟨g, 2, none⟩) (Ext.setCell (p := ⟨g, 1, none⟩) (Ext.setCell (p := ⟨g, 0, none⟩) hx hgw (.int .u8 4)) hgw (.int .u8 0)) hgw (.int .i64 0)) hgw (.int .i64 0)) hgw (.string ⟨#[]⟩)) hgw (.string ⟨#[]⟩)) hgw (.string ⟨#[]⟩)) hgw (.slice (some ⟨wr.heap.size, 0, none⟩) 1 1))
  generalize ((((((((wr.setCell ⟨g, 0, none⟩ (.int .u8 4)).setCell ⟨g, 1, none⟩ (.int .u8 0)).setCell ⟨g, 2, none⟩ (.int .i64 0)).setCell ⟨g, 3, none⟩ (.int .i64 0)).setCell ⟨g, 4, none⟩ (.string ⟨#[]⟩)).setCell ⟨g, 5, none⟩ (.string ⟨#[]⟩)).setCell ⟨g, 6, none⟩ (.string ⟨#[]⟩)).setCell ⟨g, 7, none⟩ (.slice (some ⟨wr.heap.size, 0, none⟩) 1 1)) = W8 at *
  refine ⟨⟨some ⟨wr.heap.size, 0, none⟩, 1, 1, hB8.alloc _, ?_, Nat.le_refl _, by omega⟩, hx8.alloc _⟩
  have hx9 : Ext W8 (W8.alloc (.cells (tcells x a len cap) 34)) := (Ext.refl _).alloc _
  refine IsTmsA.one (fun h => by omega) (tmAt_new (fun i => ?_) (hl8.ext hx9) h1 h2 hf)
  rw [← hsz]
  exact World.cell?_alloc_new _ _ _ _

set_option maxRecDepth 8000 in
set_option maxHeartbeats 4000000 in
theorem law_termMany (more : Int) (w : World) (h0 : 0 ≤ more) (h255 : more ≤ 255) (hkn : Knob w) : Calls Tryd.prog 6 #[.int .u8 more] w (Yes4 w) := by
  have KA := Lib.hid fun W (h : Ext w W) => law04_awake W (hkn.ext h)
  obtain ⟨r, hr3, hr⟩ : ∃ r : Nat, r ≤ 3 ∧ more % 4 = r := ⟨(more % 4).toNat, by omega, by omega⟩
  have hr' : more.tmod 4 = r := by rw [Int.tmod_eq_emod_of_nonneg h0]; exact hr
  go_enter Tryd.func6, Tryd.ntmps6
  go_wp2_with fail
  go_loopg [4] (3998 + r) (fun g i wr => ∃ j : Nat, g = 3998 + r - j ∧ j ≤ 3998 + r ∧ i = .int .i64 j ∧ Slot4 wr w.heap.size (chain j) ∧ Ext w wr)
  case atStart =>
    exact ⟨0, by omega, by omega, rfl, ⟨none, 0, 0, Blk.new w _ _, IsTmsA.nil _, Nat.le_refl _, by omega⟩, (Ext.refl _).alloc _⟩
  case round =>
    obtain ⟨j, rfl, hj, rfl, ⟨a, len, cap, hB, hl, h1, h2⟩, hx⟩ := hrel
    have d0 : wr.cell? ⟨w.heap.size, 0, none⟩ = some (.int .u8 (chain j).head.k) := hB.cell 0
    have f0 := hB.frozen 0
    have d1 : wr.cell? ⟨w.heap.size, 1, none⟩ = some (.int .u8 (chain j).head.op) := hB.cell 1
    have f1 := hB.frozen 1
    have d2 : wr.cell? ⟨w.heap.size, 2, none⟩ = some (.int .i64 (chain j).head.pos) := hB.cell 2
    have f2 := hB.frozen 2
    have d3 : wr.cell? ⟨w.heap.size, 3, none⟩ = some (.int .i64 (chain j).head.n) := hB.cell 3
    have f3 := hB.frozen 3
    have d4 : wr.cell? ⟨w.heap.size, 4, none⟩ = some (.string (chain j).head.name) := hB.cell 4
    have f4 := hB.frozen 4
    have d5 : wr.cell? ⟨w.heap.size, 5, none⟩ = some (.string (chain j).head.arg) := hB.cell 5
    have f5 := hB.frozen 5
    have d6 : wr.cell? ⟨w.heap.size, 6, none⟩ = some (.string (chain j).head.exn) := hB.cell 6
    have f6 := hB.frozen 6
    have d7 : wr.cell? ⟨w.heap.size, 7, none⟩ = some (.slice a len cap) := hB.cell 7
    have f7 := hB.frozen 7
    have hgl := hB.lt
    have HB := Lib.hid hB
    have HLL := Lib.hid hl
    clear hB hl
    by_cases hlt : j < 3998 + r
    · have hst := slot_step HB.out HLL.out h1 h2 (chain_fits j) (Nat.le_refl _) hx
      have HST := Lib.hid hst
      have HCH : Hid (chain (j + 1) = .mk hk4 [.mk (chain j).head (chain j).kids]) := by show _ = _; rw [← chain_mk]; rfl
      clear hst
      go_wp2_with fail
      go_roundg (3998 + r - (j + 1))
      case rel => exact ⟨j + 1, rfl, by omega, by go_num, by rw [HCH.out]; exact HST.out.1, HST.out.2⟩
      case measure => omega
    · obtain rfl : j = 3998 + r := by omega
      have HT : Hid (IsTms wr (chain (3998 + r)).kids a len) := HLL.out.any
      have HCM := Lib.hid (chain_mk (3998 + r))
      have HFT := Lib.hid (chain_fits (3998 + r))
      have HSZ := Lib.hid (chain_size (3998 + r))
      have HDP := Lib.hid (chain_depth (3998 + r))
      have HMY := Lib.hid (chain_may (3998 + r))
      have HR : Hid (∀ W n, Ext wr W → n = W.heap.size → IsTms (W.alloc (.cells #[.int .u8 (chain (3998 + r)).head.k, .int .u8 (chain (3998 + r)).head.op, .int .i64 (chain (3998 + r)).head.pos, .int .i64 (chain (3998 + r)).head.n, .string (chain (3998 + r)).head.name, .string (chain (3998 + r)).head.arg, .string (chain (3998 + r)).head.exn, .slice a len cap] 34)) [chain (3998 + r)] (some ⟨n, 0, none⟩) 1) := by
        intro W n h e
        subst e
        rw [HCM.out]
        exact IsTms.new 34 (HT.out.ext h) h1 h2 HFT.out
      have HTM : Hid (∀ W, Ext wr W → IsTm W (chain (3998 + r)) (.agg #[.int .u8 (chain (3998 + r)).head.k, .int .u8 (chain (3998 + r)).head.op, .int .i64 (chain (3998 + r)).head.pos, .int .i64 (chain (3998 + r)).head.n, .string (chain (3998 + r)).head.name, .string (chain (3998 + r)).head.arg, .string (chain (3998 + r)).head.exn, .slice a len cap])) := by
        intro W h
        have := IsTmA.mk_ (h := (chain (3998 + r)).head) (HT.out.ext h) h1 h2 HFT.out
        rw [← HCM.out] at this
        exact this
      have K1 := Lib.hid fun W b (h : IsTms W [chain (3998 + r)] b 1) => term_size [chain (3998 + r)] W b 1 1 (by simp only [Tm.sizes]; rw [HSZ.out]; omega) (Nat.le_refl _) (by omega) h
      have K2 := Lib.hid fun W b (h : IsTms W [chain (3998 + r)] b 1) => term_depth (Tm.sizes [chain (3998 + r)]) [chain (3998 + r)] W b 1 1 (Nat.le_refl _) (by simp only [Tm.sizes]; rw [HSZ.out]; omega) (Nat.le_refl _) (by omega) h
      have K3 := Lib.hid fun W (h : Ext wr W) => term_may (chain (3998 + r)) W _ (HTM.out W h) (hkn.ext (hx.trans h)) (by rw [HSZ.out]; omega)
      rw [show Tm.sizes [chain (3998 + r)] = 3999 + r from by simp only [Tm.sizes]; rw [HSZ.out]; omega] at K1
      rw [show Tm.depths [chain (3998 + r)] = 3999 + r from by simp only [Tm.depths]; rw [HDP.out]; omega] at K2
      rw [HMY.out] at K3
      clear HMY HDP HSZ HB HLL
      generalize chain (3998 + r) = t at *
      have hd : decide (3998 + r + 1 ≤ 4000) = decide ((3999 : Int) + r ≤ 4000) := decide_eq_decide.2 (by omega)
      rw [hd] at K3
      clear hd
      have y0 : Ext wr wr := Ext.refl _
      have hb : ((((3999 + r : Nat) : Int)) == 3999 + (r : Int)) = true := by simp
      have g0 := fun W (h : Ext wr W) => h.cell d0
      have g1 := fun W (h : Ext wr W) => h.cell d1
      have g2 := fun W (h : Ext wr W) => h.cell d2
      have g3 := fun W (h : Ext wr W) => h.cell d3
      have g4 := fun W (h : Ext wr W) => h.cell d4
      have g5 := fun W (h : Ext wr W) => h.cell d5
      have g6 := fun W (h : Ext wr W) => h.cell d6
      have g7 := fun W (h : Ext wr W) => h.cell d7
      have hl' := hgl
      cases hq : decide ((3999 : Int) + r ≤ 4000)
      all_goals
        rw [hq] at K3
        go_wp2_with (first | (go_at_call 23; refine (K1.out _ _ (HR.out _ _ y0 rfl)).mono ?_; rintro e w1 ⟨rfl, x1⟩; have y1 : Ext wr w1 := ((Ext.refl wr).alloc _).trans x1; have e1 := y1.size) | (go_at_call 24; refine (K2.out _ _ (HR.out _ _ y1 rfl)).mono ?_; rintro e w2 ⟨rfl, x2⟩; have y2 : Ext wr w2 := y1.trans (((Ext.refl _).alloc _).trans x2); have e2 := y2.size) | (go_at_call 21; refine (K3.out _ y2).mono ?_; rintro e w3 ⟨rfl, x3⟩; have y3 : Ext wr w3 := y2.trans x3) | (go_at_call 20; refine (KA.out _ (hx.trans y3)).mono ?_; rintro e w4 ⟨rfl, x4⟩))
        go_ret
        exact ⟨rfl, (hx.trans y3).trans x4⟩
end Go.Proofs.YtljpbikcpjocmaaDoor
