/- The walk of the document's example of layer 8. -/
import Derived.Test.YtopkjocdeolbmaaDoorText2
import Derived.Test.YtopkjocdeolbmaaDoorTypes4
import Derived.Test.YtopkjocdeolbmaaDoorHeld
namespace Go.Proofs.YtopkjocdeolbmaaDoor
open Go Go.RowKit Go.Sort

/-- A law's answer. -/
def Yes (w : World) (e : Ending) (w' : World) : Prop := e = .returned (.bool true) ∧ Ext w w'

theorem text_awake : (Ty.fn [.mk 1 0 [], .mk 1 0 []]).text = [105, 110, 116, 32, 45, 62, 32, 105, 110, 116] := by
  simp [Ty.fn, Ty.text, Ty.texts, txt, tightOf, Ty.kind]
theorem may_awake : (Ty.fn [.mk 1 0 [], .mk 1 0 []]).may = true := by
  simp [Ty.fn, Ty.may, Ty.mays, Ty.node, arity]

set_option maxHeartbeats 1000000 in
theorem law_awake (w : World) (htab : Tab w) : Calls Tryd.prog 8 #[] w (Yes w) := by
  have HT := Lib.hid htab
  have HX := Lib.hid text_awake
  have HM := Lib.hid may_awake
  have HF : Hid (Ty.fn [.mk 1 0 [], .mk 1 0 []] = .mk 4 0 [.mk 1 0 [], .mk 1 0 []]) := rfl
  clear htab
  go_enter Tryd.func8, Tryd.ntmps8
  go_wp2_with fail
  refine (types_int NoA _).mono ?_
  rintro e w1 ⟨v, rfl, hv, x1⟩
  obtain ⟨a, len, cap, rfl, h1, h2, _, _, _, _, hl⟩ := hv.open_
  go_wp2_with fail
  refine (types_int NoA _).mono ?_
  rintro e w2 ⟨v', rfl, hv', x2⟩
  obtain ⟨a', len', cap', rfl, h1', h2', _, _, _, _, hl'⟩ := hv'.open_
  go_wp2_with fail
  refine (types_fn [.mk 1 0 [], .mk 1 0 []] NoA _ _ 2 2 (There.none_ _) (by omega) (by omega) (IsTysA.two id ((hv.ext x2).ext ((Ext.refl _).alloc _)) (hv'.ext ((Ext.refl _).alloc _)) (by simp [go_sem]) (by simp [go_sem]) (by simp [go_sem]) (by simp [go_sem]) (by simp [go_sem]) (by simp [go_sem]))).mono ?_
  rintro e w3 ⟨v3, rfl, hv3, x3⟩
  rw [HF.out] at hv3 HX HM
  obtain ⟨a3, len3, cap3, rfl, _, _, _, _, _, _, hl3⟩ := hv3.open_
  have x13 : Ext w w3 := (x1.trans x2).trans (((Ext.refl _).alloc _).trans x3)
  go_wp2_with fail
  refine (types_Text _ _ _ hv3 (by simp [Ty.size, Ty.sizes]) (HT.out.ext x13)).mono ?_
  rintro e w4 ⟨rfl, x4⟩
  rw [HM.out, HX.out, show bs [105, 110, 116, 32, 45, 62, 32, 105, 110, 116] = ⟨#[105, 110, 116, 32, 45, 62, 32, 105, 110, 116]⟩ from rfl]
  go_wp2_with fail
  go_ret
  exact ⟨rfl, x13.trans x4⟩
end Go.Proofs.YtopkjocdeolbmaaDoor
