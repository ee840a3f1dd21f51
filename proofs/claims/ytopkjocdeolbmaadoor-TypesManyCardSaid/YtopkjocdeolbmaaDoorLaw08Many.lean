/- The walk of the law TypesMany. -/
import Derived.Test.YtopkjocdeolbmaaDoorAw08
import Derived.Deep.LoopGhost
namespace Go.Proofs.YtopkjocdeolbmaaDoor
open Go Go.RowKit Go.Sort

theorem Ty.hass_take_succ (x : Int) (l : List Ty) (i : Nat) (t : Ty) (h : l[i]? = some t) : Ty.hass x (l.take (i+1)) = (Ty.hass x (l.take i) || t.has x) := by
  induction l generalizing i with
  | nil => simp at h
  | cons a l ih =>
    cases i with
    | zero => simp at h; subst h; simp [Ty.hass]
    | succ i => simp at h; simp [Ty.hass, ih i h, Bool.or_assoc]

set_option maxHeartbeats 4000000 in
theorem law_typesMany (l : List Ty) (w : World) (a : Option Addr) (len cap : Nat) (h1 : len ≤ cap) (h2' : cap ≤ maxLen) (hl : IsTys w l a len) (htab : Tab w) :
    Calls Tryd.prog 5 #[.slice a len cap] w (Yes w) := by
  have h2 : cap ≤ 9223372036854775807 := h2'
  clear h2'
  have HL := Lib.hid hl.length
  have KA := Lib.hid fun W (h : Ext w W) => law_awake W (htab.ext h)
  by_cases h20 : 20 < len
  · have hd : decide ((20 : Int) < (len : Int)) = true := by simp; omega
    go_enter Tryd.func5, Tryd.ntmps5
    go_wp2_with (go_at_call 8; refine (KA.out _ (Ext.refl _)).mono ?_; rintro e w2 ⟨rfl, x2⟩)
    go_ret
    exact ⟨rfl, x2⟩
  have hd : decide ((20 : Int) < (len : Int)) = false := by simp; omega
  have h20' : len ≤ 20 := by omega
  clear h20
  go_enter Tryd.func5, Tryd.ntmps5
  go_wp2_with fail
  go_loopg [3, 4, 5] len (fun g n b i wr => ∃ j : Nat, g = len - j ∧ j ≤ len ∧ i = .int .i64 j ∧ n = .int .i64 (Ty.sizes (l.take j) : Nat) ∧ b = .bool (Ty.hass 4 (l.take j)) ∧ Ty.sizes (l.take j) ≤ 400 * j ∧ Ext w wr)
  case atStart => exact ⟨0, by omega, by omega, rfl, by simp [Ty.sizes], by simp [Ty.hass], by simp [Ty.sizes], Ext.refl _⟩
  case round =>
    obtain ⟨j, rfl, hj, rfl, rfl, rfl, hsz, hx⟩ := hrel
    by_cases hlt : j < len
    · obtain ⟨t, b, o, c0, c1, c2, g, rfl, q0, q1, q2, qt⟩ := hl.at3 hx hlt
      have HSS := Lib.hid (Ty.sizes_take_succ l j t g)
      have HHS := Lib.hid (Ty.hass_take_succ 4 l j t g)
      have KG := Lib.hid fun W (h : Ext wr W) => ref_great t W _ (qt.ext h)
      clear g
      by_cases hg : 400 < t.size
      · rw [show decide (400 < t.size) = true from by simpa using hg] at KG
        clear hg
        go_wp2_with (first | (go_at_call 10; refine (KG.out _ (Ext.refl _)).mono ?_; rintro e w1 ⟨rfl, x1⟩) | (go_at_call 8; refine (KA.out _ (hx.trans (by (repeat (first | exact Ext.refl _ | assumption | refine Ext.alloc ?_ _ | refine Ext.drew ?_ | refine Ext.setCell ?_ (by first | (simp; done) | (simp; omega) | omega) _ | refine Ext.trans ?_ (by assumption)))))).mono ?_; rintro e w2 ⟨rfl, x2⟩))
        go_ret
        exact ⟨rfl, (hx.trans x1).trans x2⟩
      · rw [show decide (400 < t.size) = false from by simpa using hg] at KG
        have hs : t.size ≤ 400 := by omega
        have KS := Lib.hid fun W (h : Ext wr W) => ref_size t.size t W _ (Nat.le_refl _) (by omega) (qt.ext h)
        have KH := Lib.hid fun W (h : Ext wr W) => ref_has t.size t 4 W _ (Nat.le_refl _) (qt.ext h)
        clear hg qt
        have k0 := fun W (h : Ext wr W) => h.cell q0
        have k1 := fun W (h : Ext wr W) => h.cell q1
        have k2 := fun W (h : Ext wr W) => h.cell q2
        have hsum : Ty.sizes (l.take j) + t.size ≤ 400 * (j + 1) := by omega
        cases hb : Ty.hass 4 (l.take j)
        all_goals
          have HB := Lib.hid hb
          clear hb
          go_wp2_with (first | (go_at_call 10; refine (KG.out _ (Ext.refl _)).mono ?_; rintro e w1 ⟨rfl, x1⟩; have p0 := k0 _ x1; have p1 := k1 _ x1; have p2 := k2 _ x1) | (go_at_call 18; refine (KS.out _ (by (repeat (first | exact Ext.refl _ | assumption | refine Ext.alloc ?_ _ | refine Ext.drew ?_ | refine Ext.setCell ?_ (by first | (simp; done) | (simp; omega) | omega) _ | refine Ext.trans ?_ (by assumption))))).mono ?_; rintro e w2 ⟨rfl, x2⟩; have r0 := k0 _ (x1.trans x2); have r1 := k1 _ (x1.trans x2); have r2 := k2 _ (x1.trans x2)) | (go_at_call 19; refine (KH.out _ (x1.trans x2)).mono ?_; rintro e w3 ⟨rfl, x3⟩))
          go_roundg (len - (j + 1))
          case measure => omega
          case rel => exact ⟨j + 1, rfl, by omega, by go_num, by rw [HSS.out]; exact congrArg (Value.int .i64) (by omega), by rw [HHS.out, HB.out]; simp, by rw [HSS.out]; exact hsum, hx.trans (by (repeat (first | exact Ext.refl _ | assumption | refine Ext.alloc ?_ _ | refine Ext.drew ?_ | refine Ext.setCell ?_ (by first | (simp; done) | (simp; omega) | omega) _ | refine Ext.trans ?_ (by assumption))))⟩
    · obtain rfl : j = len := by omega
      have hall : l.take j = l := List.take_of_length_le (by rw [← HL.out]; omega)
      rw [hall] at hsz
      have KS := Lib.hid fun W (h : Ext w W) => types_size (Ty.sizes l) l W a j cap (Nat.le_refl _) (by omega) h1 h2 (hl.ext h)
      have KR := Lib.hid fun W (h : Ext w W) => types_arrows l W a j cap h1 h2 (hl.ext h)
      rw [hall]
      clear hall hsz
      generalize Ty.sizes l = sz at *
      generalize Ty.hass 4 l = hb at *
      go_wp2_with (first | (go_at_call 20; refine (KS.out _ hx).mono ?_; rintro e w1 ⟨rfl, x1⟩) | (go_at_call 21; refine (KR.out _ (hx.trans x1)).mono ?_; rintro e w2 ⟨rfl, x2⟩) | (go_at_call 8; refine (KA.out _ ((hx.trans x1).trans x2)).mono ?_; rintro e w3 ⟨rfl, x3⟩))
      go_ret
      exact ⟨rfl, ((hx.trans x1).trans x2).trans x3⟩
end Go.Proofs.YtopkjocdeolbmaaDoor
