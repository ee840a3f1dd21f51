/- The walk of the law TokenCuts. -/
import Derived.Test.YtaioeailgknfjaaDoorRef03f
import Derived.Test.YtaioeailgknfjaaDoorAw03
namespace Go.Proofs.YtaioeailgknfjaaDoor
open Go Go.RowKit Go.Sort

set_option maxRecDepth 8000 in
set_option maxHeartbeats 2000000 in
theorem law_tokenCuts (B : List UInt8) (w : World) (a : Option Addr) (len cap : Nat) (h1 : len ≤ cap) (h2 : cap ≤ 9223372036854775807) (hr : IsBytes w B a len) (hk : Knob w) : Calls Tryd.prog 3 #[.slice a len cap] w (Yes3 w) := by
  have KA := Lib.hid fun W (h : Ext w W) => law03_awake W (hk.ext h)
  by_cases hl : 1000 < len
  · have hz : (1000 : Int) < (len : Int) := by omega
    clear hr hk
    go_enter Tryd.func3, Tryd.ntmps3
    go_wp2_with (go_at_call 7; refine (KA.out _ (by (repeat (first | exact Ext.refl _ | assumption | refine Ext.alloc ?_ _ | refine Ext.drew ?_ | refine Ext.setCell ?_ (by first | (simp; done) | (simp; omega) | omega) _ | refine Ext.trans ?_ (by assumption))))).mono ?_; rintro e w7 ⟨rfl, x7⟩)
    go_ret
    exact ⟨rfl, by (repeat (first | exact Ext.refl _ | assumption | refine Ext.alloc ?_ _ | refine Ext.drew ?_ | refine Ext.setCell ?_ (by first | (simp; done) | (simp; omega) | omega) _ | refine Ext.trans ?_ (by assumption)))⟩
  · have hz : ¬ (1000 : Int) < (len : Int) := by omega
    have KL : Hid (∀ W, Ext w W → Calls Tryd.prog 8 #[.slice a len cap] W fun e w' => ∃ a n c, e = .returned (.tuple #[.slice a n c, .int .i64 (lexR B).2.1, .int .i64 (lexR B).2.2]) ∧ n ≤ c ∧ c ≤ 9223372036854775807 ∧ IsToks w' (lexR B).1 a n ∧ Ext W w') := Lib.hid fun W h => token_lex B W a len cap h1 h2 (hr.ext h) (hk.ext h)
    have KR : Hid (∀ W, Ext w W → Calls Tryd.prog 9 #[.slice a len cap] W fun e w' => ∃ a n c, e = .returned (.tuple #[.slice a n c, .int .i64 (lexR B).2.1, .int .i64 (lexR B).2.2]) ∧ n ≤ c ∧ c ≤ 9223372036854775807 ∧ IsToks w' (lexR B).1 a n ∧ Ext W w') := Lib.hid fun W h => ref03_lex B W a len cap h1 h2 (hr.ext h)
    generalize lexR B = R at KL KR
    obtain ⟨l, p, f⟩ := R
    have KS := Lib.hid (ref03_same l)
    clear hr hk
    go_enter Tryd.func3, Tryd.ntmps3
    go_wp2_with (first | (go_at_call 8; refine (KL.out _ (by (repeat (first | exact Ext.refl _ | assumption | refine Ext.alloc ?_ _ | refine Ext.drew ?_ | refine Ext.setCell ?_ (by first | (simp; done) | (simp; omega) | omega) _ | refine Ext.trans ?_ (by assumption))))).mono ?_; rintro e w1 ⟨ra, rn, rc, rfl, hn1, hn2, ht, x1⟩; have HT := Lib.hid ht; clear ht) | (go_at_call 9; refine (KR.out _ (by (repeat (first | exact Ext.refl _ | assumption | refine Ext.alloc ?_ _ | refine Ext.drew ?_ | refine Ext.setCell ?_ (by first | (simp; done) | (simp; omega) | omega) _ | refine Ext.trans ?_ (by assumption))))).mono ?_; rintro e w2 ⟨ra', rn', rc', rfl, hn1', hn2', ht', x2⟩; have HT' := Lib.hid ht'; clear ht') | (go_at_call 10; refine (KS.out _ _ _ _ _ _ _ hn1 hn2 hn1' hn2' (HT.out.ext (by (repeat (first | exact Ext.refl _ | assumption | refine Ext.alloc ?_ _ | refine Ext.drew ?_ | refine Ext.setCell ?_ (by first | (simp; done) | (simp; omega) | omega) _ | refine Ext.trans ?_ (by assumption))))) (HT'.out.ext (by (repeat (first | exact Ext.refl _ | assumption | refine Ext.alloc ?_ _ | refine Ext.drew ?_ | refine Ext.setCell ?_ (by first | (simp; done) | (simp; omega) | omega) _ | refine Ext.trans ?_ (by assumption)))))).mono ?_; rintro e w3 ⟨rfl, x3⟩) | (go_at_call 7; refine (KA.out _ (by (repeat (first | exact Ext.refl _ | assumption | refine Ext.alloc ?_ _ | refine Ext.drew ?_ | refine Ext.setCell ?_ (by first | (simp; done) | (simp; omega) | omega) _ | refine Ext.trans ?_ (by assumption))))).mono ?_; rintro e w7 ⟨rfl, x7⟩))
    go_ret
    exact ⟨rfl, by (repeat (first | exact Ext.refl _ | assumption | refine Ext.alloc ?_ _ | refine Ext.drew ?_ | refine Ext.setCell ?_ (by first | (simp; done) | (simp; omega) | omega) _ | refine Ext.trans ?_ (by assumption)))⟩
end Go.Proofs.YtaioeailgknfjaaDoor
