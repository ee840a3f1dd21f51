/- The walks of package types, second part: May, Closed, Arrows, Size, Same, and what makes types. -/
import Derived.Test.YtkjjbackkipfdaaTypes
namespace Go.Proofs.Ytkjjbackkipfdaa
open Go Go.RowKit Go.Sort

theorem enters_node : ∀ args w, (callFunc 49 args).run Try.prog w = .ok (.enter 49 args) w := enters_of Try.func49 (by kernel_rfl) rfl
theorem Ty.alls_one (p : Ty → Bool) (t : Ty) : Ty.alls p [t] = t.all p := by simp [Ty.alls]
set_option maxHeartbeats 400000 in
theorem types_may (t : Ty) (w : World) (v : Value) (ht : IsTy w t v) :
    Calls Try.prog 40 #[v] w fun e w' => e = .returned (.bool t.may) ∧ Ext w w' := by
  have ht0 := ht
  obtain ⟨k, n, l⟩ := t
  obtain ⟨a, len, cap, rfl, h1, h2, h3, h4, h5, h6, hl⟩ := ht.open_
  have HE := Lib.hid (Ty.all_node (.mk k n l))
  go_enter Try.func40, Try.ntmps40
  go_wp2_with fail
  refine (types_all Ty.node 49 enters_node (fun w t v h => types_node t w v h) _ [.mk k n l] _ _ 1 1 (Nat.le_refl _) (by omega) (by omega) (IsTysA.one id (ht0.ext (((Ext.refl w).alloc _).alloc _)) (by simp) (by simp) (by simp))).mono ?_
  rintro e w1 ⟨rfl, x1⟩
  go_wp2_with fail
  go_ret
  exact ⟨ret_bool (by rw [Ty.alls_one, HE.out]), (((Ext.refl w).alloc _).alloc _).trans x1⟩

end Go.Proofs.Ytkjjbackkipfdaa
