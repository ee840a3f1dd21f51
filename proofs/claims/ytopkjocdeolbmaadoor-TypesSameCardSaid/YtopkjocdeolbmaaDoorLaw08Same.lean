/- The walk of the law TypesSame. -/
import Derived.Test.YtopkjocdeolbmaaDoorAw08
import Derived.Test.YtopkjocdeolbmaaDoorPureInj
namespace Go.Proofs.YtopkjocdeolbmaaDoor
open Go Go.RowKit Go.Sort

set_option maxHeartbeats 4000000 in
theorem law_typesSame (t t' : Ty) (w : World) (v v' : Value) (ht : IsTy w t v) (ht' : IsTy w t' v') (htab : Tab w) :
    Calls Tryd.prog 7 #[v, v'] w (Yes w) := by
  have ht0 := ht
  have ht0' := ht'
  have KA := Lib.hid fun W (h : Ext w W) => law_awake W (htab.ext h)
  have KG := Lib.hid fun W (h : Ext w W) => ref_great t W v (ht0.ext h)
  have KG' := Lib.hid fun W (h : Ext w W) => ref_great t' W v' (ht0'.ext h)
  have KR := Lib.hid fun W (h : Ext w W) => ref_same t.size t t' W v v' (Nat.le_refl _) (ht0.ext h) (ht0'.ext h)
  have KS1 := Lib.hid fun W (h : Ext w W) => types_same t.size t t' W v v' (Nat.le_refl _) (ht0.ext h) (ht0'.ext h)
  have KS2 := Lib.hid fun W (h : Ext w W) => types_same t'.size t' t W v' v (Nat.le_refl _) (ht0'.ext h) (ht0.ext h)
  have KS3 := Lib.hid fun W (h : Ext w W) => types_same t.size t t W v v (Nat.le_refl _) (ht0.ext h) (ht0.ext h)
  have KT := Lib.hid fun (hs : t.size ≤ 400) W (h : Ext w W) => types_Text t W v (ht0.ext h) (by omega) (htab.ext h)
  have KT' := Lib.hid fun (hs : t'.size ≤ 400) W (h : Ext w W) => types_Text t' W v' (ht0'.ext h) (by omega) (htab.ext h)
  have KC := Lib.hid fun W (h : Ext w W) => types_closed t W v (ht0.ext h)
  have KC' := Lib.hid fun W (h : Ext w W) => types_closed t' W v' (ht0'.ext h)
  rw [Ty.same_comm t' t] at KS2
  rw [Ty.same_refl t] at KS3
  rw [show (t.may && !t.has 5) = t.closed from rfl] at KC
  rw [show (t'.may && !t'.has 5) = t'.closed from rfl] at KC'
  have hcl : t.closed = true → t.may = true := fun h => by simp [Ty.closed] at h; exact h.1
  have hcl' : t'.closed = true → t'.may = true := fun h => by simp [Ty.closed] at h; exact h.1
  have hxy : t.closed = true → t'.closed = true → ((bs t.text).toList == (bs t'.text).toList) = t.same t' := by
    intro h h'
    rw [ByteArray.toList_eq, ByteArray.toList_eq, bs_list, bs_list]
    by_cases e : t = t'
    · subst e; simp [Ty.same_refl]
    · rw [show t.same t' = false from by rw [Bool.eq_false_iff]; exact fun q => e ((Ty.same_iff _ _).1 q)]
      simp only [beq_eq_false_iff_ne, ne_eq]
      exact fun q => e (text_inj h h' q)
  obtain ⟨gb, hgb⟩ : ∃ b, decide (400 < t.size) = b := ⟨_, rfl⟩
  obtain ⟨gb', hgb'⟩ : ∃ b, decide (400 < t'.size) = b := ⟨_, rfl⟩
  obtain ⟨mb, hmb⟩ : ∃ b, t.may = b := ⟨_, rfl⟩
  obtain ⟨mb', hmb'⟩ : ∃ b, t'.may = b := ⟨_, rfl⟩
  obtain ⟨cb, hcb⟩ : ∃ b, t.closed = b := ⟨_, rfl⟩
  obtain ⟨cb', hcb'⟩ : ∃ b, t'.closed = b := ⟨_, rfl⟩
  obtain ⟨sb, hsb⟩ : ∃ b, t.same t' = b := ⟨_, rfl⟩
  obtain ⟨X, hX⟩ : ∃ X, X = bs t.text := ⟨_, rfl⟩
  obtain ⟨Y, hY⟩ : ∃ Y, Y = bs t'.text := ⟨_, rfl⟩
  rw [← hX, ← hY] at hxy
  rw [hgb] at KG
  rw [hgb'] at KG'
  rw [hmb, ← hX] at KT
  rw [hmb', ← hY] at KT'
  rw [hcb] at KC hxy hcl
  rw [hcb'] at KC' hxy hcl'
  rw [hmb] at hcl
  rw [hmb'] at hcl'
  rw [hsb] at KR KS1 KS2 hxy
  have HXY := Lib.hid hxy
  have hsz : gb = false → t.size ≤ 400 := fun h => by rw [h] at hgb; simpa using hgb
  have hsz' : gb' = false → t'.size ≤ 400 := fun h => by rw [h] at hgb'; simpa using hgb'
  have hcase : (gb = true) ∨ (gb = false ∧ gb' = true) ∨ (gb = false ∧ gb' = false ∧ mb = false) ∨ (gb = false ∧ gb' = false ∧ mb = true ∧ mb' = false) ∨ (gb = false ∧ gb' = false ∧ mb = true ∧ mb' = true ∧ cb = false) ∨ (gb = false ∧ gb' = false ∧ mb = true ∧ mb' = true ∧ cb = true ∧ cb' = false) ∨ (gb = false ∧ gb' = false ∧ mb = true ∧ mb' = true ∧ cb = true ∧ cb' = true) := by
    cases gb <;> cases gb' <;> cases mb <;> cases mb' <;> cases cb <;> cases cb' <;> simp
  have HC := Lib.hid hcase
  clear hcase htab hX hY hgb hgb' hmb hmb' hcb hcb' hsb hxy hcl hcl'
  obtain ⟨k, n, l⟩ := t
  obtain ⟨a, len, cap, rfl, h1, h2, h3, h4, h5, h6, hl⟩ := ht.open_
  obtain ⟨k', n', l'⟩ := t'
  obtain ⟨a', len', cap', rfl, h1', h2', h3', h4', h5', h6', hl'⟩ := ht'.open_
  obtain ⟨W0, hW0⟩ : ∃ W0, W0 = (w.alloc (.cells #[.int .u8 k, .int .i64 n, .slice a len cap] 25)).alloc (.cells #[.int .u8 k', .int .i64 n', .slice a' len' cap'] 25) := ⟨_, rfl⟩
  have x0 : Ext w W0 := by rw [hW0]; exact ((Ext.refl _).alloc _).alloc _
  have kb0 := fun W (h : Ext W0 W) => h.cell (p := ⟨w.heap.size, 0, none⟩) (v := .int .u8 k) (by rw [hW0]; simp [go_sem])
  have kb1 := fun W (h : Ext W0 W) => h.cell (p := ⟨w.heap.size, 1, none⟩) (v := .int .i64 n) (by rw [hW0]; simp [go_sem])
  have kb2 := fun W (h : Ext W0 W) => h.cell (p := ⟨w.heap.size, 2, none⟩) (v := .slice a len cap) (by rw [hW0]; simp [go_sem])
  have kb3 := fun W (h : Ext W0 W) => h.cell (p := ⟨w.heap.size + 1, 0, none⟩) (v := .int .u8 k') (by rw [hW0]; simp [go_sem])
  have kb4 := fun W (h : Ext W0 W) => h.cell (p := ⟨w.heap.size + 1, 1, none⟩) (v := .int .i64 n') (by rw [hW0]; simp [go_sem])
  have kb5 := fun W (h : Ext W0 W) => h.cell (p := ⟨w.heap.size + 1, 2, none⟩) (v := .slice a' len' cap') (by rw [hW0]; simp [go_sem])
  have HW := Lib.hid hW0
  clear hW0
  rcases HC.out with rfl | ⟨rfl, rfl⟩ | ⟨rfl, rfl, rfl⟩ | ⟨rfl, rfl, rfl, rfl⟩ | ⟨rfl, rfl, rfl, rfl, rfl⟩ | ⟨rfl, rfl, rfl, rfl, rfl, rfl⟩ | ⟨rfl, rfl, rfl, rfl, rfl, rfl⟩
  iterate 2
    clear hsz hsz'
    go_enter Tryd.func7, Tryd.ntmps7
    go_wp2_with fail
    rw [← HW.out]
    clear HW
    go_wp2_with (first | (go_at_call 10; (with_reducible refine (KG.out _ (x0.trans (by (repeat (first | exact Ext.refl _ | assumption | refine Ext.alloc ?_ _ | refine Ext.drew ?_ | refine Ext.setCell ?_ (by first | (simp; done) | (simp; omega) | omega) _ | refine Ext.trans ?_ (by assumption)))))).mono ?_); rintro e w1 ⟨rfl, x1⟩; have z1 : Ext W0 w1 := by (repeat (first | exact Ext.refl _ | assumption | refine Ext.alloc ?_ _ | refine Ext.drew ?_ | refine Ext.setCell ?_ (by first | (simp; done) | (simp; omega) | omega) _ | refine Ext.trans ?_ (by assumption)))) | (go_at_call 10; (with_reducible refine (KG'.out _ (x0.trans (by (repeat (first | exact Ext.refl _ | assumption | refine Ext.alloc ?_ _ | refine Ext.drew ?_ | refine Ext.setCell ?_ (by first | (simp; done) | (simp; omega) | omega) _ | refine Ext.trans ?_ (by assumption)))))).mono ?_); rintro e w2 ⟨rfl, x2⟩; have z2 : Ext W0 w2 := by (repeat (first | exact Ext.refl _ | assumption | refine Ext.alloc ?_ _ | refine Ext.drew ?_ | refine Ext.setCell ?_ (by first | (simp; done) | (simp; omega) | omega) _ | refine Ext.trans ?_ (by assumption)))) | (go_at_call 8; refine (KA.out _ (x0.trans (by (repeat (first | exact Ext.refl _ | assumption | refine Ext.alloc ?_ _ | refine Ext.drew ?_ | refine Ext.setCell ?_ (by first | (simp; done) | (simp; omega) | omega) _ | refine Ext.trans ?_ (by assumption)))))).mono ?_; rintro e w5 ⟨rfl, x5⟩))
    go_ret
    exact ⟨rfl, x0.trans (by (repeat (first | exact Ext.refl _ | assumption | refine Ext.alloc ?_ _ | refine Ext.drew ?_ | refine Ext.setCell ?_ (by first | (simp; done) | (simp; omega) | omega) _ | refine Ext.trans ?_ (by assumption))))⟩
  all_goals cases sb
  all_goals try cases mb'
  all_goals
    have KU := Lib.hid (KT.out (hsz (by trivial)))
    have KU' := Lib.hid (KT'.out (hsz' (by trivial)))
    simp only [if_true, Bool.false_eq_true, if_false] at KU KU'
    clear hsz hsz' KT KT'
    try have hq := HXY.out (by trivial) (by trivial)
    go_enter Tryd.func7, Tryd.ntmps7
    go_wp2_with fail
    rw [← HW.out]
    clear HW
    go_wp2_with (first | (go_at_call 10; (with_reducible refine (KG.out _ (x0.trans (by (repeat (first | exact Ext.refl _ | assumption | refine Ext.alloc ?_ _ | refine Ext.drew ?_ | refine Ext.setCell ?_ (by first | (simp; done) | (simp; omega) | omega) _ | refine Ext.trans ?_ (by assumption)))))).mono ?_); rintro e w1 ⟨rfl, x1⟩; have z1 : Ext W0 w1 := by (repeat (first | exact Ext.refl _ | assumption | refine Ext.alloc ?_ _ | refine Ext.drew ?_ | refine Ext.setCell ?_ (by first | (simp; done) | (simp; omega) | omega) _ | refine Ext.trans ?_ (by assumption)))) | (go_at_call 10; (with_reducible refine (KG'.out _ (x0.trans (by (repeat (first | exact Ext.refl _ | assumption | refine Ext.alloc ?_ _ | refine Ext.drew ?_ | refine Ext.setCell ?_ (by first | (simp; done) | (simp; omega) | omega) _ | refine Ext.trans ?_ (by assumption)))))).mono ?_); rintro e w2 ⟨rfl, x2⟩; have z2 : Ext W0 w2 := by (repeat (first | exact Ext.refl _ | assumption | refine Ext.alloc ?_ _ | refine Ext.drew ?_ | refine Ext.setCell ?_ (by first | (simp; done) | (simp; omega) | omega) _ | refine Ext.trans ?_ (by assumption)))) | (go_at_call 11; (with_reducible refine (KR.out _ (x0.trans (by (repeat (first | exact Ext.refl _ | assumption | refine Ext.alloc ?_ _ | refine Ext.drew ?_ | refine Ext.setCell ?_ (by first | (simp; done) | (simp; omega) | omega) _ | refine Ext.trans ?_ (by assumption)))))).mono ?_); rintro e w3 ⟨rfl, x3⟩; have z3 : Ext W0 w3 := by (repeat (first | exact Ext.refl _ | assumption | refine Ext.alloc ?_ _ | refine Ext.drew ?_ | refine Ext.setCell ?_ (by first | (simp; done) | (simp; omega) | omega) _ | refine Ext.trans ?_ (by assumption)))) | (go_at_call 25; (with_reducible refine (KS1.out _ (x0.trans (by (repeat (first | exact Ext.refl _ | assumption | refine Ext.alloc ?_ _ | refine Ext.drew ?_ | refine Ext.setCell ?_ (by first | (simp; done) | (simp; omega) | omega) _ | refine Ext.trans ?_ (by assumption)))))).mono ?_); rintro e w4 ⟨rfl, x4⟩; have z4 : Ext W0 w4 := by (repeat (first | exact Ext.refl _ | assumption | refine Ext.alloc ?_ _ | refine Ext.drew ?_ | refine Ext.setCell ?_ (by first | (simp; done) | (simp; omega) | omega) _ | refine Ext.trans ?_ (by assumption)))) | (go_at_call 25; (with_reducible refine (KS2.out _ (x0.trans (by (repeat (first | exact Ext.refl _ | assumption | refine Ext.alloc ?_ _ | refine Ext.drew ?_ | refine Ext.setCell ?_ (by first | (simp; done) | (simp; omega) | omega) _ | refine Ext.trans ?_ (by assumption)))))).mono ?_); rintro e w5 ⟨rfl, x5⟩; have z5 : Ext W0 w5 := by (repeat (first | exact Ext.refl _ | assumption | refine Ext.alloc ?_ _ | refine Ext.drew ?_ | refine Ext.setCell ?_ (by first | (simp; done) | (simp; omega) | omega) _ | refine Ext.trans ?_ (by assumption)))) | (go_at_call 25; (with_reducible refine (KS3.out _ (x0.trans (by (repeat (first | exact Ext.refl _ | assumption | refine Ext.alloc ?_ _ | refine Ext.drew ?_ | refine Ext.setCell ?_ (by first | (simp; done) | (simp; omega) | omega) _ | refine Ext.trans ?_ (by assumption)))))).mono ?_); rintro e w6 ⟨rfl, x6⟩; have z6 : Ext W0 w6 := by (repeat (first | exact Ext.refl _ | assumption | refine Ext.alloc ?_ _ | refine Ext.drew ?_ | refine Ext.setCell ?_ (by first | (simp; done) | (simp; omega) | omega) _ | refine Ext.trans ?_ (by assumption)))) | (go_at_call 17; (with_reducible refine (KU.out _ (x0.trans (by (repeat (first | exact Ext.refl _ | assumption | refine Ext.alloc ?_ _ | refine Ext.drew ?_ | refine Ext.setCell ?_ (by first | (simp; done) | (simp; omega) | omega) _ | refine Ext.trans ?_ (by assumption)))))).mono ?_); rintro e w7 ⟨rfl, x7⟩; have z7 : Ext W0 w7 := by (repeat (first | exact Ext.refl _ | assumption | refine Ext.alloc ?_ _ | refine Ext.drew ?_ | refine Ext.setCell ?_ (by first | (simp; done) | (simp; omega) | omega) _ | refine Ext.trans ?_ (by assumption)))) | (go_at_call 17; (with_reducible refine (KU'.out _ (x0.trans (by (repeat (first | exact Ext.refl _ | assumption | refine Ext.alloc ?_ _ | refine Ext.drew ?_ | refine Ext.setCell ?_ (by first | (simp; done) | (simp; omega) | omega) _ | refine Ext.trans ?_ (by assumption)))))).mono ?_); rintro e w8 ⟨rfl, x8⟩; have z8 : Ext W0 w8 := by (repeat (first | exact Ext.refl _ | assumption | refine Ext.alloc ?_ _ | refine Ext.drew ?_ | refine Ext.setCell ?_ (by first | (simp; done) | (simp; omega) | omega) _ | refine Ext.trans ?_ (by assumption)))) | (go_at_call 23; (with_reducible refine (KC.out _ (x0.trans (by (repeat (first | exact Ext.refl _ | assumption | refine Ext.alloc ?_ _ | refine Ext.drew ?_ | refine Ext.setCell ?_ (by first | (simp; done) | (simp; omega) | omega) _ | refine Ext.trans ?_ (by assumption)))))).mono ?_); rintro e w9 ⟨rfl, x9⟩; have z9 : Ext W0 w9 := by (repeat (first | exact Ext.refl _ | assumption | refine Ext.alloc ?_ _ | refine Ext.drew ?_ | refine Ext.setCell ?_ (by first | (simp; done) | (simp; omega) | omega) _ | refine Ext.trans ?_ (by assumption)))) | (go_at_call 23; (with_reducible refine (KC'.out _ (x0.trans (by (repeat (first | exact Ext.refl _ | assumption | refine Ext.alloc ?_ _ | refine Ext.drew ?_ | refine Ext.setCell ?_ (by first | (simp; done) | (simp; omega) | omega) _ | refine Ext.trans ?_ (by assumption)))))).mono ?_); rintro e w10 ⟨rfl, x10⟩; have z10 : Ext W0 w10 := by (repeat (first | exact Ext.refl _ | assumption | refine Ext.alloc ?_ _ | refine Ext.drew ?_ | refine Ext.setCell ?_ (by first | (simp; done) | (simp; omega) | omega) _ | refine Ext.trans ?_ (by assumption)))) | (go_at_call 8; refine (KA.out _ (x0.trans (by (repeat (first | exact Ext.refl _ | assumption | refine Ext.alloc ?_ _ | refine Ext.drew ?_ | refine Ext.setCell ?_ (by first | (simp; done) | (simp; omega) | omega) _ | refine Ext.trans ?_ (by assumption)))))).mono ?_; rintro e w11 ⟨rfl, x11⟩))
    all_goals
      go_ret
      exact ⟨rfl, x0.trans (by (repeat (first | exact Ext.refl _ | assumption | refine Ext.alloc ?_ _ | refine Ext.drew ?_ | refine Ext.setCell ?_ (by first | (simp; done) | (simp; omega) | omega) _ | refine Ext.trans ?_ (by assumption))))⟩
end Go.Proofs.YtopkjocdeolbmaaDoor
