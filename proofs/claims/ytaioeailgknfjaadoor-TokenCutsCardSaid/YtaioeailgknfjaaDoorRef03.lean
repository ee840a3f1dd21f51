/- The reference's cut of a text into tokens: the walks of enclaveref03.digit and letter. -/
import Derived.Test.YtaioeailgknfjaaDoorToken4
import Derived.Test.YtaioeailgknfjaaDoorRef02
import Derived.Test.YtaioeailgknfjaaDoorRef02b
namespace Go.Proofs.YtaioeailgknfjaaDoor
open Go Go.RowKit Go.Sort

theorem digit_cls (c : Int) (h0 : 0 ≤ c) (h1 : c ≤ 255) : (decide (48 ≤ c) && decide (c ≤ 57)) = decide (cls c = 2) := by
  obtain ⟨n, rfl⟩ : ∃ n : Nat, c = n := ⟨c.toNat, by omega⟩
  have : ∀ n : Fin 256, (decide (48 ≤ ((n.val : Nat) : Int)) && decide (((n.val : Nat) : Int) ≤ 57)) = decide (cls ((n.val : Nat) : Int) = 2) := by decide +kernel
  exact this ⟨n, by omega⟩
theorem ref03_digit (c : Int) (w : World) (h0 : 0 ≤ c) (h1 : c ≤ 255) : Calls Tryd.prog 35 #[.int .u8 c] w fun e w' => e = .returned (.bool (decide (cls c = 2))) ∧ Ext w w' := by
  have hd := digit_cls c h0 h1
  by_cases h48 : 48 ≤ c
  · have HD : Hid (decide (c ≤ 57) = decide (cls c = 2)) := Lib.hid (by rw [← hd]; simp [h48])
    clear hd
    go_enter Tryd.func35, Tryd.ntmps35
    go_wp2_with fail
    go_ret
    exact ⟨by rw [← HD.out]; rfl, by (repeat (first | exact Ext.refl _ | assumption | refine Ext.alloc ?_ _ | refine Ext.drew ?_ | refine Ext.setCell ?_ (by first | (simp; done) | (simp; omega) | omega) _ | refine Ext.trans ?_ (by assumption)))⟩
  · have HD : Hid (false = decide (cls c = 2)) := Lib.hid (by rw [← hd]; simp [h48])
    clear hd
    go_enter Tryd.func35, Tryd.ntmps35
    go_wp2_with fail
    go_ret
    exact ⟨by rw [← HD.out]; rfl, by (repeat (first | exact Ext.refl _ | assumption | refine Ext.alloc ?_ _ | refine Ext.drew ?_ | refine Ext.setCell ?_ (by first | (simp; done) | (simp; omega) | omega) _ | refine Ext.trans ?_ (by assumption)))⟩
theorem ref03_letter (c : Int) (w : World) (h0 : 0 ≤ c) (h1 : c ≤ 255) : Calls Tryd.prog 37 #[.int .u8 c] w fun e w' => e = .returned (.bool (decide (cls c = 3 ∨ cls c = 4))) ∧ Ext w w' := by
  have HC := Lib.hid fun W => ref_class c W h0 h1
  generalize cls c = k at *
  have HE : Hid ((k == 3 || k == 4) = decide (k = 3 ∨ k = 4)) := Lib.hid (by rw [Bool.eq_iff_iff]; simp)
  by_cases h3 : k = 3
  · subst h3
    clear HE
    go_enter Tryd.func37, Tryd.ntmps37
    go_wp2_with (go_at_call 18; refine (HC.out _).mono ?_; rintro e w1 ⟨rfl, x1⟩)
    go_ret
    exact ⟨rfl, by (repeat (first | exact Ext.refl _ | assumption | refine Ext.alloc ?_ _ | refine Ext.drew ?_ | refine Ext.setCell ?_ (by first | (simp; done) | (simp; omega) | omega) _ | refine Ext.trans ?_ (by assumption)))⟩
  · go_enter Tryd.func37, Tryd.ntmps37
    go_wp2_with (go_at_call 18; refine (HC.out _).mono ?_; rintro e w1 ⟨rfl, x1⟩)
    go_ret
    exact ⟨by rw [← HE.out]; rfl, by (repeat (first | exact Ext.refl _ | assumption | refine Ext.alloc ?_ _ | refine Ext.drew ?_ | refine Ext.setCell ?_ (by first | (simp; done) | (simp; omega) | omega) _ | refine Ext.trans ?_ (by assumption)))⟩
end Go.Proofs.YtaioeailgknfjaaDoor
