/- The walk of the law TypesParts. -/
import Derived.Test.YtopkjocdeolbmaaDoorAw08
namespace Go.Proofs.YtopkjocdeolbmaaDoor
open Go Go.RowKit Go.Sort

theorem may_pair {t t' : Ty} (h : t.may = true) (h' : t'.may = true) : (Ty.mk 2 0 [t, t']).may = true := by
  simp [Ty.may, Ty.mays, Ty.node, arity, h, h']
theorem may_ref {t : Ty} (h : t.may = true) : (Ty.mk 3 0 [t]).may = true := by
  simp [Ty.may, Ty.mays, Ty.node, arity, h]

set_option maxHeartbeats 4000000 in
theorem law_typesParts (t t' : Ty) (w : World) (v v' : Value) (ht : IsTy w t v) (ht' : IsTy w t' v') (htab : Tab w) :
    Calls Tryd.prog 4 #[v, v'] w (Yes w) := by
  have ht0 := ht
  have ht0' := ht'
  have KA := Lib.hid fun W (h : Ext w W) => law_awake W (htab.ext h)
  have KG := Lib.hid fun W (h : Ext w W) => ref_great t W v (ht0.ext h)
  have KG' := Lib.hid fun W (h : Ext w W) => ref_great t' W v' (ht0'.ext h)
  have KM := Lib.hid fun W (h : Ext w W) => ref_may t.size t W v (Nat.le_refl _) (ht0.ext h)
  have KM' := Lib.hid fun W (h : Ext w W) => ref_may t'.size t' W v' (Nat.le_refl _) (ht0'.ext h)
  have KT := Lib.hid fun (hs : t.size ≤ 400) W (h : Ext w W) => types_Text t W v (ht0.ext h) (by omega) (htab.ext h)
  have KT' := Lib.hid fun (hs : t'.size ≤ 400) W (h : Ext w W) => types_Text t' W v' (ht0'.ext h) (by omega) (htab.ext h)
  have KP := Lib.hid fun W (h : Ext w W) => types_pair (A := NoA) t t' W v v' (There.none_ _) (ht0.ext h) (ht0'.ext h)
  have HT := Lib.hid htab
  have hfit := ht0.fit
  have hfit' := ht0'.fit
  obtain ⟨gb, hgb⟩ : ∃ b, decide (400 < t.size) = b := ⟨_, rfl⟩
  obtain ⟨gb', hgb'⟩ : ∃ b, decide (400 < t'.size) = b := ⟨_, rfl⟩
  obtain ⟨mb, hmb⟩ : ∃ b, t.may = b := ⟨_, rfl⟩
  obtain ⟨mb', hmb'⟩ : ∃ b, t'.may = b := ⟨_, rfl⟩
  rw [hgb] at KG
  rw [hgb'] at KG'
  rw [hmb] at KM KT
  rw [hmb'] at KM' KT'
  have hcase : (gb = true) ∨ (gb = false ∧ gb' = true) ∨ (gb = false ∧ gb' = false ∧ mb = false) ∨ (gb = false ∧ gb' = false ∧ mb = true ∧ mb' = false) ∨ (gb = false ∧ gb' = false ∧ mb = true ∧ mb' = true) := by
    cases gb <;> cases gb' <;> cases mb <;> cases mb' <;> simp
  have HC := Lib.hid hcase
  clear hcase htab
  obtain ⟨k, n, l⟩ := t
  obtain ⟨a, len, cap, rfl, h1, h2, h3, h4, h5, h6, hl⟩ := ht.open_
  obtain ⟨k', n', l'⟩ := t'
  obtain ⟨a', len', cap', rfl, h1', h2', h3', h4', h5', h6', hl'⟩ := ht'.open_
  obtain ⟨W0, hW0⟩ : ∃ W0, W0 = (w.alloc (.cells #[.int .u8 k, .int .i64 n, .slice a len cap] 25)).alloc (.cells #[.int .u8 k', .int .i64 n', .slice a' len' cap'] 25) := ⟨_, rfl⟩
  have x0 : Ext w W0 := by rw [hW0]; exact ((Ext.refl _).alloc _).alloc _
  have kb0 := fun W (h : Ext W0 W) => h.cell (p := ⟨w.heap.size, 0, none⟩) (v := .int .u8 k) (by rw [hW0]; simp [go_sem])
  have kb1 := fun W (h : Ext W0 W) => h.cell (p := ⟨w.heap.size, 1, none⟩) (v := .int .i64 n) (by rw [hW0]; simp [go_sem])
  have kb2 := fun W (h : Ext W0 W) => h.cell (p := ⟨w.heap.size, 2, none⟩) (v := .slice a len cap) (by rw [hW0]; simp [go_sem])
  have kb3 := fun W (h : Ext W0 W) => h.cell (p := ⟨w.heap.size + 1, 0, none⟩) (v := .int .u8 k') (by rw [hW0]; simp [go_sem])
  have kb4 := fun W (h : Ext W0 W) => h.cell (p := ⟨w.heap.size + 1, 1, none⟩) (v := .int .i64 n') (by rw [hW0]; simp [go_sem])
  have kb5 := fun W (h : Ext W0 W) => h.cell (p := ⟨w.heap.size + 1, 2, none⟩) (v := .slice a' len' cap') (by rw [hW0]; simp [go_sem])
  have HW := Lib.hid hW0
  clear hW0
  rcases HC.out with rfl | ⟨rfl, rfl⟩ | ⟨rfl, rfl, rfl⟩ | ⟨rfl, rfl, rfl, rfl⟩ | ⟨rfl, rfl, rfl, rfl⟩
  iterate 4
    clear hgb hgb' hmb hmb'
    go_enter Tryd.func4, Tryd.ntmps4
    go_wp2_with fail
    rw [← HW.out]
    clear HW
    go_wp2_with (first | (go_at_call 10; (with_reducible refine (KG.out _ (x0.trans (by (repeat (first | exact Ext.refl _ | assumption | refine Ext.alloc ?_ _ | refine Ext.drew ?_ | refine Ext.setCell ?_ (by first | (simp; done) | (simp; omega) | omega) _ | refine Ext.trans ?_ (by assumption)))))).mono ?_); rintro e w1 ⟨rfl, x1⟩; have z1 : Ext W0 w1 := by (repeat (first | exact Ext.refl _ | assumption | refine Ext.alloc ?_ _ | refine Ext.drew ?_ | refine Ext.setCell ?_ (by first | (simp; done) | (simp; omega) | omega) _ | refine Ext.trans ?_ (by assumption)))) | (go_at_call 10; (with_reducible refine (KG'.out _ (x0.trans (by (repeat (first | exact Ext.refl _ | assumption | refine Ext.alloc ?_ _ | refine Ext.drew ?_ | refine Ext.setCell ?_ (by first | (simp; done) | (simp; omega) | omega) _ | refine Ext.trans ?_ (by assumption)))))).mono ?_); rintro e w2 ⟨rfl, x2⟩; have z2 : Ext W0 w2 := by (repeat (first | exact Ext.refl _ | assumption | refine Ext.alloc ?_ _ | refine Ext.drew ?_ | refine Ext.setCell ?_ (by first | (simp; done) | (simp; omega) | omega) _ | refine Ext.trans ?_ (by assumption)))) | (go_at_call 16; (with_reducible refine (KM.out _ (x0.trans (by (repeat (first | exact Ext.refl _ | assumption | refine Ext.alloc ?_ _ | refine Ext.drew ?_ | refine Ext.setCell ?_ (by first | (simp; done) | (simp; omega) | omega) _ | refine Ext.trans ?_ (by assumption)))))).mono ?_); rintro e w3 ⟨rfl, x3⟩; have z3 : Ext W0 w3 := by (repeat (first | exact Ext.refl _ | assumption | refine Ext.alloc ?_ _ | refine Ext.drew ?_ | refine Ext.setCell ?_ (by first | (simp; done) | (simp; omega) | omega) _ | refine Ext.trans ?_ (by assumption)))) | (go_at_call 16; (with_reducible refine (KM'.out _ (x0.trans (by (repeat (first | exact Ext.refl _ | assumption | refine Ext.alloc ?_ _ | refine Ext.drew ?_ | refine Ext.setCell ?_ (by first | (simp; done) | (simp; omega) | omega) _ | refine Ext.trans ?_ (by assumption)))))).mono ?_); rintro e w4 ⟨rfl, x4⟩; have z4 : Ext W0 w4 := by (repeat (first | exact Ext.refl _ | assumption | refine Ext.alloc ?_ _ | refine Ext.drew ?_ | refine Ext.setCell ?_ (by first | (simp; done) | (simp; omega) | omega) _ | refine Ext.trans ?_ (by assumption)))) | (go_at_call 8; refine (KA.out _ (x0.trans (by (repeat (first | exact Ext.refl _ | assumption | refine Ext.alloc ?_ _ | refine Ext.drew ?_ | refine Ext.setCell ?_ (by first | (simp; done) | (simp; omega) | omega) _ | refine Ext.trans ?_ (by assumption)))))).mono ?_; rintro e w5 ⟨rfl, x5⟩))
    go_ret
    exact ⟨rfl, x0.trans (by (repeat (first | exact Ext.refl _ | assumption | refine Ext.alloc ?_ _ | refine Ext.drew ?_ | refine Ext.setCell ?_ (by first | (simp; done) | (simp; omega) | omega) _ | refine Ext.trans ?_ (by assumption))))⟩
  · have hs : (Ty.mk k n l).size ≤ 400 := by simpa using hgb
    have hs' : (Ty.mk k' n' l').size ≤ 400 := by simpa using hgb'
    have KT := Lib.hid (KT.out hs)
    have KT' := Lib.hid (KT'.out hs')
    have hl1 := Ty.text_length _ hfit
    have hl2 := Ty.text_length _ hfit'
    have mp := may_pair hmb hmb'
    have mr := may_ref mp
    have sp : (Ty.mk 2 0 [.mk k n l, .mk k' n' l']).size ≤ 900 := by simp [Ty.size, Ty.sizes] at hs hs' ⊢; omega
    have sr : (Ty.mk 3 0 [.mk 2 0 [.mk k n l, .mk k' n' l']]).size ≤ 1000 := by simp only [Ty.size, Ty.sizes] at sp ⊢; omega
    simp only [if_true] at KT KT'
    obtain ⟨X, hX⟩ : ∃ X, X = bs (Ty.mk k n l).text := ⟨_, rfl⟩
    obtain ⟨Y, hY⟩ : ∃ Y, Y = bs (Ty.mk k' n' l').text := ⟨_, rfl⟩
    have zX : X.size ≤ 9600 := by rw [hX, bs_size]; omega
    have zY : Y.size ≤ 9600 := by rw [hY, bs_size]; omega
    have eP : bs (Ty.mk 2 0 [.mk k n l, .mk k' n' l']).text = ⟨#[40, 32]⟩ ++ X ++ ⟨#[32, 42, 32]⟩ ++ Y ++ ⟨#[32, 41]⟩ := by
      rw [hX, hY]
      show bs ([40, 32] ++ (Ty.mk k n l).text ++ [32, 42, 32] ++ (Ty.mk k' n' l').text ++ [32, 41]) = _
      rw [← bs_append, ← bs_append, ← bs_append, ← bs_append]
      rfl
    have eR : bs (Ty.mk 3 0 [.mk 2 0 [.mk k n l, .mk k' n' l']]).text = ⟨#[114, 101, 102, 32]⟩ ++ (⟨#[40, 32]⟩ ++ X ++ ⟨#[32, 42, 32]⟩ ++ Y ++ ⟨#[32, 41]⟩) := by
      rw [← eP]
      show bs ([114, 101, 102, 32] ++ (Ty.mk 2 0 [.mk k n l, .mk k' n' l']).text) = _
      rw [← bs_append]
      rfl
    have KTP := Lib.hid fun W v (hx : Ext w W) (hv : IsTy W (.mk 2 0 [.mk k n l, .mk k' n' l']) v) => types_Text _ W v hv (by omega) (HT.out.ext hx)
    have KTR := Lib.hid fun W v (hx : Ext w W) (hv : IsTy W (.mk 3 0 [.mk 2 0 [.mk k n l, .mk k' n' l']]) v) => types_Text _ W v hv (by omega) (HT.out.ext hx)
    simp only [mp, mr, if_true, eP, eR] at KTP KTR
    rw [← hX] at KT
    rw [← hY] at KT'
    have zP : (ByteArray.mk #[40, 32] ++ X ++ ⟨#[32, 42, 32]⟩ ++ Y ++ ⟨#[32, 41]⟩).size = 2 + X.size + 3 + Y.size + 2 := by
      simp only [ByteArray.size_append]
      rfl
    have n1 : ¬ 9223372036854775807 < 2 + X.size := by omega
    have n2 : ¬ 9223372036854775807 < 2 + X.size + 3 := by omega
    have n3 : ¬ 9223372036854775807 < 2 + X.size + 3 + Y.size := by omega
    have n4 : ¬ 9223372036854775807 < 2 + X.size + 3 + Y.size + 2 := by omega
    have n5 : ¬ 9223372036854775807 < 4 + (2 + X.size + 3 + Y.size + 2) := by omega
    clear hgb hgb' hmb hmb' hs hs' hX hY mp mr sp sr eP eR hl1 hl2 zX zY zP hfit hfit'
    go_enter Tryd.func4, Tryd.ntmps4
    go_wp2_with fail
    rw [← HW.out]
    clear HW
    go_wp2_with (first | (go_at_call 10; (with_reducible refine (KG.out _ (x0.trans (by (repeat (first | exact Ext.refl _ | assumption | refine Ext.alloc ?_ _ | refine Ext.drew ?_ | refine Ext.setCell ?_ (by first | (simp; done) | (simp; omega) | omega) _ | refine Ext.trans ?_ (by assumption)))))).mono ?_); rintro e w1 ⟨rfl, x1⟩; have z1 : Ext W0 w1 := by (repeat (first | exact Ext.refl _ | assumption | refine Ext.alloc ?_ _ | refine Ext.drew ?_ | refine Ext.setCell ?_ (by first | (simp; done) | (simp; omega) | omega) _ | refine Ext.trans ?_ (by assumption)))) | (go_at_call 10; (with_reducible refine (KG'.out _ (x0.trans (by (repeat (first | exact Ext.refl _ | assumption | refine Ext.alloc ?_ _ | refine Ext.drew ?_ | refine Ext.setCell ?_ (by first | (simp; done) | (simp; omega) | omega) _ | refine Ext.trans ?_ (by assumption)))))).mono ?_); rintro e w2 ⟨rfl, x2⟩; have z2 : Ext W0 w2 := by (repeat (first | exact Ext.refl _ | assumption | refine Ext.alloc ?_ _ | refine Ext.drew ?_ | refine Ext.setCell ?_ (by first | (simp; done) | (simp; omega) | omega) _ | refine Ext.trans ?_ (by assumption)))) | (go_at_call 16; (with_reducible refine (KM.out _ (x0.trans (by (repeat (first | exact Ext.refl _ | assumption | refine Ext.alloc ?_ _ | refine Ext.drew ?_ | refine Ext.setCell ?_ (by first | (simp; done) | (simp; omega) | omega) _ | refine Ext.trans ?_ (by assumption)))))).mono ?_); rintro e w3 ⟨rfl, x3⟩; have z3 : Ext W0 w3 := by (repeat (first | exact Ext.refl _ | assumption | refine Ext.alloc ?_ _ | refine Ext.drew ?_ | refine Ext.setCell ?_ (by first | (simp; done) | (simp; omega) | omega) _ | refine Ext.trans ?_ (by assumption)))) | (go_at_call 16; (with_reducible refine (KM'.out _ (x0.trans (by (repeat (first | exact Ext.refl _ | assumption | refine Ext.alloc ?_ _ | refine Ext.drew ?_ | refine Ext.setCell ?_ (by first | (simp; done) | (simp; omega) | omega) _ | refine Ext.trans ?_ (by assumption)))))).mono ?_); rintro e w4 ⟨rfl, x4⟩; have z4 : Ext W0 w4 := by (repeat (first | exact Ext.refl _ | assumption | refine Ext.alloc ?_ _ | refine Ext.drew ?_ | refine Ext.setCell ?_ (by first | (simp; done) | (simp; omega) | omega) _ | refine Ext.trans ?_ (by assumption)))) | (go_at_call 17; (with_reducible refine (KT.out _ (x0.trans (by (repeat (first | exact Ext.refl _ | assumption | refine Ext.alloc ?_ _ | refine Ext.drew ?_ | refine Ext.setCell ?_ (by first | (simp; done) | (simp; omega) | omega) _ | refine Ext.trans ?_ (by assumption)))))).mono ?_); rintro e w5 ⟨rfl, x5⟩; have z5 : Ext W0 w5 := by (repeat (first | exact Ext.refl _ | assumption | refine Ext.alloc ?_ _ | refine Ext.drew ?_ | refine Ext.setCell ?_ (by first | (simp; done) | (simp; omega) | omega) _ | refine Ext.trans ?_ (by assumption)))) | (go_at_call 17; (with_reducible refine (KT'.out _ (x0.trans (by (repeat (first | exact Ext.refl _ | assumption | refine Ext.alloc ?_ _ | refine Ext.drew ?_ | refine Ext.setCell ?_ (by first | (simp; done) | (simp; omega) | omega) _ | refine Ext.trans ?_ (by assumption)))))).mono ?_); rintro e w6 ⟨rfl, x6⟩; have z6 : Ext W0 w6 := by (repeat (first | exact Ext.refl _ | assumption | refine Ext.alloc ?_ _ | refine Ext.drew ?_ | refine Ext.setCell ?_ (by first | (simp; done) | (simp; omega) | omega) _ | refine Ext.trans ?_ (by assumption)))))
    refine (KP.out _ (x0.trans (by (repeat (first | exact Ext.refl _ | assumption | refine Ext.alloc ?_ _ | refine Ext.drew ?_ | refine Ext.setCell ?_ (by first | (simp; done) | (simp; omega) | omega) _ | refine Ext.trans ?_ (by assumption)))))).mono ?_
    rintro e w7 ⟨vp, rfl, hp, x7⟩
    have z7 : Ext W0 w7 := by (repeat (first | exact Ext.refl _ | assumption | refine Ext.alloc ?_ _ | refine Ext.drew ?_ | refine Ext.setCell ?_ (by first | (simp; done) | (simp; omega) | omega) _ | refine Ext.trans ?_ (by assumption)))
    obtain ⟨ap, lp, cp, rfl, _, _, _, _, _, _, _⟩ := hp.open_
    go_wp2_with (go_at_call 17; refine (KTP.out _ _ (x0.trans z7) hp).mono ?_; rintro e w8 ⟨rfl, x8⟩; have z8 : Ext W0 w8 := by (repeat (first | exact Ext.refl _ | assumption | refine Ext.alloc ?_ _ | refine Ext.drew ?_ | refine Ext.setCell ?_ (by first | (simp; done) | (simp; omega) | omega) _ | refine Ext.trans ?_ (by assumption))))
    refine (KP.out _ (x0.trans (by (repeat (first | exact Ext.refl _ | assumption | refine Ext.alloc ?_ _ | refine Ext.drew ?_ | refine Ext.setCell ?_ (by first | (simp; done) | (simp; omega) | omega) _ | refine Ext.trans ?_ (by assumption)))))).mono ?_
    rintro e w9 ⟨vp2, rfl, hp2, x9⟩
    have z9 : Ext W0 w9 := by (repeat (first | exact Ext.refl _ | assumption | refine Ext.alloc ?_ _ | refine Ext.drew ?_ | refine Ext.setCell ?_ (by first | (simp; done) | (simp; omega) | omega) _ | refine Ext.trans ?_ (by assumption)))
    obtain ⟨ap2, lp2, cp2, rfl, _, _, _, _, _, _, _⟩ := hp2.open_
    go_wp2_with fail
    refine (types_ref (A := NoA) _ _ _ (There.none_ _) hp2).mono ?_
    rintro e w10 ⟨vr, rfl, hr, x10⟩
    have z10 : Ext W0 w10 := by (repeat (first | exact Ext.refl _ | assumption | refine Ext.alloc ?_ _ | refine Ext.drew ?_ | refine Ext.setCell ?_ (by first | (simp; done) | (simp; omega) | omega) _ | refine Ext.trans ?_ (by assumption)))
    obtain ⟨ar, lr, cr, rfl, _, _, _, _, _, _, _⟩ := hr.open_
    go_wp2_with (go_at_call 17; refine (KTR.out _ _ (x0.trans z10) hr).mono ?_; rintro e w11 ⟨rfl, x11⟩; have z11 : Ext W0 w11 := by (repeat (first | exact Ext.refl _ | assumption | refine Ext.alloc ?_ _ | refine Ext.drew ?_ | refine Ext.setCell ?_ (by first | (simp; done) | (simp; omega) | omega) _ | refine Ext.trans ?_ (by assumption))))
    refine (KA.out _ (x0.trans z11)).mono ?_
    rintro e w12 ⟨rfl, x12⟩
    go_wp2_with fail
    go_ret
    exact ⟨rfl, (x0.trans z11).trans x12⟩
end Go.Proofs.YtopkjocdeolbmaaDoor
