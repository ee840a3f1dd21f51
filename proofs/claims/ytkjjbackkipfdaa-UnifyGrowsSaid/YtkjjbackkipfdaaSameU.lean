/- The walks of package types: Same. -/
import Derived.Test.YtkjjbackkipfdaaTypes2
namespace Go.Proofs.Ytkjjbackkipfdaa
open Go Go.RowKit Go.Sort

set_option maxHeartbeats 1000000 in
theorem types_equalFunc (l l' : List Ty) (w : World) (a a' : Option Addr) (len len' cap cap' : Nat) (h1 : len ≤ cap) (h2 : cap ≤ 9223372036854775807) (h1' : len' ≤ cap') (h2' : cap' ≤ 9223372036854775807) (hl : IsTys w l a len) (hl' : IsTys w l' a' len')
    (hS : ∀ W, Ext w W → ∀ t t' v v', t ∈ l → IsTy W t v → IsTy W t' v' → Calls Try.prog 42 #[v, v'] W fun e w' => e = .returned (.bool (t.same t')) ∧ Ext W w') :
    Calls Try.prog 50 #[.slice a len cap, .slice a' len' cap', .func (.func 42) #[] #[]] w fun e w' => e = .returned (.bool (Ty.sames l l')) ∧ Ext w w' := by
  have HL := Lib.hid hl.length
  have HL' := Lib.hid hl'.length
  have HS := Lib.hid hS
  clear hS
  by_cases hln : len = len'
  case neg =>
    have hb : ((len : Int) != (len' : Int)) = true := by simp; omega
    have hs := Ty.sames_len l l' (by rw [← HL.out, ← HL'.out]; exact hln)
    go_enter Try.func50, Try.ntmps50
    go_wp2_with fail
    go_ret
    exact ⟨ret_bool hs.symm, Ext.refl _⟩
  subst hln
  go_enter Try.func50, Try.ntmps50
  go_wp2_with fail
  go_loopg [17] len (fun g i wr => ∃ j : Nat, g = len - j ∧ j ≤ len ∧ i = .int .i64 j ∧ Ty.samesTo l l' j ∧ Ext w wr)
  case atStart => exact ⟨0, by omega, by omega, rfl, fun j hj => by omega, Ext.refl _⟩
  case round =>
    obtain ⟨j, rfl, hj, rfl, hto, hx⟩ := hrel
    have HT := Lib.hid hto
    clear hto
    by_cases hlt : j < len
    · obtain ⟨t, b, o, c0, c1, c2, g, rfl, q0, q1, q2, qt⟩ := hl.at3 hx hlt
      obtain ⟨t', b', o', c0', c1', c2', g', rfl, q0', q1', q2', qt'⟩ := hl'.at3 hx hlt
      have hm := List.mem_of_getElem? g
      have G := Lib.hid g
      have G' := Lib.hid g'
      clear g g'
      have qt0 := qt
      have qt0' := qt'
      obtain ⟨k, n, lk⟩ := t
      obtain ⟨k', n', lk'⟩ := t'
      obtain ⟨ak, lenk, capk, e, p1, p2, p3, p4, p5, p6, pl⟩ := qt.open_
      obtain ⟨ak', lenk', capk', e', p1', p2', p3', p4', p5', p6', pl'⟩ := qt'.open_
      simp at e e'
      obtain ⟨rfl, rfl, rfl⟩ := e
      obtain ⟨rfl, rfl, rfl⟩ := e'
      have u0 := block_lt_of_cell q0
      have u0' := block_lt_of_cell q0'
      simp at u0 u0'
      have hsame := fun W (hW : Ext wr W) => HS.out W (hx.trans hW) _ _ _ _ hm (qt0.ext hW) (qt0'.ext hW)
      have HM := Lib.hid hsame
      clear hsame
      go_wp2_with (go_at_call 42; refine (HM.out _ (((Ext.refl _).alloc _).alloc _)).mono ?_; rintro e w1 ⟨rfl, x1⟩)
      · rename_i hr
        go_ret
        have hr' : (Ty.mk k n lk).same (Ty.mk k' n' lk') = false := by simpa using hr
        exact ⟨ret_bool (Ty.sames_no l l' j _ _ G.out G'.out hr').symm, hx.trans ((((Ext.refl _).alloc _).alloc _).trans x1)⟩
      · rename_i hr
        have hr' : (Ty.mk k n lk).same (Ty.mk k' n' lk') = true := by simpa using hr
        go_roundg (len - (j + 1))
        case rel => exact ⟨j + 1, rfl, by omega, by go_num, Ty.samesTo_succ HT.out G.out G'.out hr', hx.trans ((((Ext.refl _).alloc _).alloc _).trans x1)⟩
        case measure => omega
    · obtain rfl : j = len := by omega
      go_wp2_with fail
      go_ret
      exact ⟨ret_bool (Ty.sames_yes l l' (by rw [← HL.out, ← HL'.out]) (by rw [← HL.out]; exact HT.out)).symm, hx⟩

set_option maxHeartbeats 1000000 in
theorem types_same (m : Nat) : ∀ (t t' : Ty) (w : World) (v v' : Value), t.size ≤ m → IsTy w t v → IsTy w t' v' →
    Calls Try.prog 42 #[v, v'] w fun e w' => e = .returned (.bool (t.same t')) ∧ Ext w w' := by
  induction m with
  | zero => intro t t' w v v' h; have := t.size_pos; omega
  | succ m ih =>
    intro t t' w v v' hm ht ht'
    obtain ⟨k, n, l⟩ := t
    obtain ⟨k', n', l'⟩ := t'
    obtain ⟨a, len, cap, rfl, h1, h2, h3, h4, h5, h6, hl⟩ := ht.open_
    obtain ⟨a', len', cap', rfl, h1', h2', h3', h4', h5', h6', hl'⟩ := ht'.open_
    simp only [Ty.size] at hm
    by_cases hk : k = k'
    case neg =>
      have hb : (k == k') = false := by simpa using hk
      go_enter Try.func42, Try.ntmps42
      go_wp2_with fail
      go_ret
      exact ⟨ret_bool (by simp [Ty.same, hk]), ((Ext.refl _).alloc _).alloc _⟩
    subst hk
    by_cases hn : n = n'
    case neg =>
      have hb : (n == n') = false := by simpa using hn
      go_enter Try.func42, Try.ntmps42
      go_wp2_with fail
      go_ret
      exact ⟨ret_bool (by simp [Ty.same, hn]), ((Ext.refl _).alloc _).alloc _⟩
    subst hn
    have hE := fun W (hW : Ext w W) => types_equalFunc l l' W a a' len len' cap cap' h1 h2 h1' h2' (hl.ext hW) (hl'.ext hW) fun W' _ t t' v v' hm' g g' => ih t t' W' v v' (by have := Ty.size_mem l t hm'; omega) g g'
    have HE := Lib.hid hE
    clear hE ih
    go_enter Try.func42, Try.ntmps42
    go_wp2_with (go_at_call 50; refine (HE.out _ (((Ext.refl _).alloc _).alloc _)).mono ?_; rintro e w1 ⟨rfl, x1⟩)
    go_ret
    exact ⟨ret_bool (by simp [Ty.same]), (((Ext.refl _).alloc _).alloc _).trans x1⟩
end Go.Proofs.Ytkjjbackkipfdaa
