/- The walk of the law TermMays. -/
import Derived.Test.YtljpbikcpjocmaaDoorAw04
namespace Go.Proofs.YtljpbikcpjocmaaDoor
open Go Go.RowKit Go.Sort

set_option maxRecDepth 8000 in
set_option maxHeartbeats 4000000 in
theorem law_termMays (t : Tm) (w : World) (v : Value) (ht : IsTm w t v) (hkn : Knob w) : Calls Tryd.prog 5 #[v] w (Yes4 w) := by
  have KG := Lib.hid fun W (h : Ext w W) => ref4_great t W v (ht.ext h)
  have KA := Lib.hid fun W (h : Ext w W) => law04_awake W (hkn.ext h)
  cases hg : t.great
  case true =>
    rw [hg] at KG
    clear hg
    obtain ⟨x, l⟩ := t
    obtain ⟨a, len, cap, rfl, h1, h2, hf, hl⟩ := ht.open_
    clear ht hf hl
    go_enter Tryd.func5, Tryd.ntmps5
    go_wp2_with (first | (go_at_call 19; refine (KG.out _ ((Ext.refl _).alloc _)).mono ?_; rintro e w1 ⟨rfl, x1⟩) | (go_at_call 20; refine (KA.out _ (((Ext.refl _).alloc _).trans x1)).mono ?_; rintro e w2 ⟨rfl, x2⟩))
    go_ret
    exact ⟨rfl, (((Ext.refl _).alloc _).trans x1).trans x2⟩
  obtain ⟨hs, _⟩ := Tm.not_great hg
  rw [hg] at KG
  clear hg
  have K1 := Lib.hid fun W (h : Ext w W) => term_may t W v (ht.ext h) (hkn.ext h) (by omega)
  have K2 := Lib.hid fun W (h : Ext w W) => ref4_may t W v (ht.ext h) (by omega)
  cases hm : t.may
  all_goals
    rw [hm] at K1 K2
    clear hm
    obtain ⟨x, l⟩ := t
    obtain ⟨a, len, cap, rfl, h1, h2, hf, hl⟩ := ht.open_
    clear ht hf hl
    go_enter Tryd.func5, Tryd.ntmps5
    go_wp2_with (go_at_call 19; refine (KG.out _ ((Ext.refl _).alloc _)).mono ?_; rintro e w1 ⟨rfl, x1⟩)
    have y1 := ((Ext.refl w).alloc (.cells #[.int .u8 x.k, .int .u8 x.op, .int .i64 x.pos, .int .i64 x.n, .string x.name, .string x.arg, .string x.exn, .slice a len cap] 34)).trans x1
    have T1 := (TBlk.new w x a len cap 34).ext x1
    obtain ⟨⟨c0, c1, c2, c3, c4, c5, c6⟩, c7⟩ := T1
    simp only [Nat.zero_add] at c0 c1 c2 c3 c4 c5 c6
    have d0 := cells_regrown c0
    have d1 := cells_regrown c1
    have d2 := cells_regrown c2
    have d3 := cells_regrown c3
    have d4 := cells_regrown c4
    have d5 := cells_regrown c5
    have d6 := cells_regrown c6
    have d7 := cells_regrown c7
    have Q1 := quiet_ext (w := w1) fun w2 h2 => K1.out w2 (y1.trans h2)
    have Q2 := quiet_ext (w := w1) fun w2 h2 => K2.out w2 (y1.trans h2)
    have Q3 := quiet_ext (w := w1) fun w2 h2 => KA.out w2 (y1.trans h2)
    refine wp_region_quiet_below (by kernel_rfl) (by kernel_rfl) ?_
    repeat (go_big_quiet_step (first | exact Q1 _ _ | exact Q2 _ _ | exact Q3 _ _))
    refine wpQuiet_nil ?_
    intro w2 hq_w2
    have x2 := ext_of_regrown hq_w2
    clear hq_w2
    go_wp2_with fail
    go_ret
    exact ⟨rfl, y1.trans x2⟩
end Go.Proofs.YtljpbikcpjocmaaDoor
