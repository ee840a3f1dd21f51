/- The walks of package types, second part: May, Closed, Arrows, Size, Same, and what makes types. -/
import Derived.Test.YtopkjocdeolbmaaDoorTypes
namespace Go.Proofs.YtopkjocdeolbmaaDoor
open Go Go.RowKit Go.Sort

theorem enters_node : ∀ args w, (callFunc 30 args).run Tryd.prog w = .ok (.enter 30 args) w := enters_of Tryd.func30 (by kernel_rfl) rfl
theorem Ty.alls_one (p : Ty → Bool) (t : Ty) : Ty.alls p [t] = t.all p := by simp [Ty.alls]
set_option maxHeartbeats 400000 in
theorem types_may (t : Ty) (w : World) (v : Value) (ht : IsTy w t v) :
    Calls Tryd.prog 22 #[v] w fun e w' => e = .returned (.bool t.may) ∧ Ext w w' := by
  have ht0 := ht
  obtain ⟨k, n, l⟩ := t
  obtain ⟨a, len, cap, rfl, h1, h2, h3, h4, h5, h6, hl⟩ := ht.open_
  have HE := Lib.hid (Ty.all_node (.mk k n l))
  go_enter Tryd.func22, Tryd.ntmps22
  go_wp2_with fail
  refine (types_all Ty.node 30 enters_node (fun w t v h => types_node t w v h) _ [.mk k n l] _ _ 1 1 (Nat.le_refl _) (by omega) (by omega) (IsTysA.one id (ht0.ext (((Ext.refl w).alloc _).alloc _)) (by simp) (by simp) (by simp))).mono ?_
  rintro e w1 ⟨rfl, x1⟩
  go_wp2_with fail
  go_ret
  exact ⟨ret_bool (by rw [Ty.alls_one, HE.out]), (((Ext.refl w).alloc _).alloc _).trans x1⟩

set_option maxHeartbeats 400000 in
theorem types_closed1 (t : Ty) (w : World) (v : Value) (ht : IsTy w t v) :
    Calls Tryd.prog 31 #[v] w fun e w' => e = .returned (.bool (t.node && !(t.kind == 5))) ∧ Ext w w' := by
  have ht0 := ht
  obtain ⟨k, n, l⟩ := t
  obtain ⟨a, len, cap, rfl, h1, h2, h3, h4, h5, h6, hl⟩ := ht.open_
  cases hnd : Ty.node (.mk k n l)
  all_goals
    have HN := Lib.hid hnd
    clear hnd
    go_enter Tryd.func31, Tryd.ntmps31
    go_wp2_with fail
    refine (types_node _ _ _ (ht0.ext ((Ext.refl _).alloc _))).mono ?_
    rintro e w1 ⟨rfl, x1⟩
    rw [HN.out]
    have q2 := x1.cell (p := ⟨w.heap.size, 0, none⟩) (v := .int .u8 k) (by simp)
    go_wp2_with fail
    go_ret
    exact ⟨ret_bool (by simp [Ty.kind, bne]), ((Ext.refl w).alloc _).trans x1⟩

theorem enters_closed1 : ∀ args w, (callFunc 31 args).run Tryd.prog w = .ok (.enter 31 args) w := enters_of Tryd.func31 (by kernel_rfl) rfl

set_option maxHeartbeats 400000 in
theorem types_closed (t : Ty) (w : World) (v : Value) (ht : IsTy w t v) :
    Calls Tryd.prog 23 #[v] w fun e w' => e = .returned (.bool (t.may && !t.has 5)) ∧ Ext w w' := by
  have ht0 := ht
  have HE := Lib.hid (Ty.all_and Ty.node (fun t => !(t.kind == 5)) t)
  have HE1 := Lib.hid (Ty.all_node t)
  have HE2 := Lib.hid (Ty.all_has 5 t)
  obtain ⟨k, n, l⟩ := t
  obtain ⟨a, len, cap, rfl, h1, h2, h3, h4, h5, h6, hl⟩ := ht.open_
  go_enter Tryd.func23, Tryd.ntmps23
  go_wp2_with fail
  refine (types_all (fun t => t.node && !(t.kind == 5)) 31 enters_closed1 (fun w t v h => types_closed1 t w v h) _ [.mk k n l] _ _ 1 1 (Nat.le_refl _) (by omega) (by omega) (IsTysA.one id (ht0.ext (((Ext.refl w).alloc _).alloc _)) (by simp) (by simp) (by simp))).mono ?_
  rintro e w1 ⟨rfl, x1⟩
  go_wp2_with fail
  go_ret
  exact ⟨ret_bool (by rw [Ty.alls_one, HE.out, HE1.out, HE2.out]), (((Ext.refl w).alloc _).alloc _).trans x1⟩

set_option maxHeartbeats 400000 in
theorem types_arrows1 (t : Ty) (w : World) (v : Value) (ht : IsTy w t v) :
    Calls Tryd.prog 29 #[v] w fun e w' => e = .returned (.bool (!(t.kind == 4))) ∧ Ext w w' := by
  obtain ⟨k, n, l⟩ := t
  obtain ⟨a, len, cap, rfl, h1, h2, h3, h4, h5, h6, hl⟩ := ht.open_
  go_enter Tryd.func29, Tryd.ntmps29
  go_wp2_with fail
  go_ret
  exact ⟨ret_bool (by simp [Ty.kind, bne]), (Ext.refl w).alloc _⟩

theorem enters_arrows1 : ∀ args w, (callFunc 29 args).run Tryd.prog w = .ok (.enter 29 args) w := enters_of Tryd.func29 (by kernel_rfl) rfl
theorem Ty.alls_has (x : Int) (l : List Ty) : Ty.alls (fun t => !(t.kind == x)) l = !Ty.hass x l := by
  induction l with
  | nil => simp [Ty.alls, Ty.hass]
  | cons t l ih => simp only [Ty.alls, Ty.hass, Ty.all_has, ih, Bool.not_or]

set_option maxHeartbeats 400000 in
theorem types_arrows (l : List Ty) (w : World) (a : Option Addr) (len cap : Nat) (h1 : len ≤ cap) (h2 : cap ≤ 9223372036854775807) (hl : IsTys w l a len) :
    Calls Tryd.prog 21 #[.slice a len cap] w fun e w' => e = .returned (.bool (Ty.hass 4 l)) ∧ Ext w w' := by
  have HE := Lib.hid (Ty.alls_has 4 l)
  go_enter Tryd.func21, Tryd.ntmps21
  go_wp2_with fail
  refine (types_all (fun t => !(t.kind == 4)) 29 enters_arrows1 (fun w t v h => types_arrows1 t w v h) _ l _ _ len cap (Nat.le_refl _) h1 h2 hl).mono ?_
  rintro e w1 ⟨rfl, x1⟩
  go_wp2_with fail
  go_ret
  exact ⟨ret_bool (by rw [HE.out]; simp), x1⟩

set_option maxHeartbeats 400000 in
theorem types_size (m : Nat) : ∀ (l : List Ty) (w : World) (a : Option Addr) (len cap : Nat), Ty.sizes l ≤ m → Ty.sizes l ≤ 1000000 → len ≤ cap → cap ≤ 9223372036854775807 → IsTys w l a len →
    Calls Tryd.prog 20 #[.slice a len cap] w fun e w' => e = .returned (.int .i64 (Ty.sizes l : Nat)) ∧ Ext w w' := by
  induction m with
  | zero =>
    intro l w a len cap hm hs h1 h2 hl
    have h0 := Ty.sizes_length l
    have hl0 := hl.length
    obtain rfl : len = 0 := by omega
    have : Ty.sizes l = 0 := by omega
    have HS := Lib.hid this
    clear this hl0 h0 hm hs
    go_enter Tryd.func20, Tryd.ntmps20
    go_wp2_with fail
    go_loopg [3, 8] 0 (fun g s i wr => s = .int .i64 0 ∧ i = .int .i64 0 ∧ Ext w wr)
    case atStart => exact ⟨rfl, rfl, Ext.refl _⟩
    case round =>
      obtain ⟨rfl, rfl, hx⟩ := hrel
      go_wp2_with fail
      go_ret
      exact ⟨ret_int (by rw [HS.out]; rfl), hx⟩
  | succ m ih =>
    intro l w a len cap hm hs h1 h2 hl
    have HL := Lib.hid hl.length
    go_enter Tryd.func20, Tryd.ntmps20
    go_wp2_with fail
    go_loopg [3, 8] len (fun g s i wr => ∃ j : Nat, g = len - j ∧ j ≤ len ∧ i = .int .i64 j ∧ s = .int .i64 (Ty.sizes (l.take j) : Nat) ∧ Ext w wr)
    case atStart => exact ⟨0, by omega, by omega, rfl, by simp [Ty.sizes], Ext.refl _⟩
    case round =>
      obtain ⟨j, rfl, hj, rfl, rfl, hx⟩ := hrel
      by_cases hlt : j < len
      · obtain ⟨t, b, o, c0, c1, c2, g, rfl, q0, q1, q2, qt⟩ := hl.at3 hx hlt
        have hsz := Ty.size_at l j t g
        have hle := Ty.sizes_take_le l (j+1)
        have hss := Ty.sizes_take_succ l j t g
        have HS := Lib.hid hss
        have hse : Ty.sizes (l.take j) + t.size ≤ Ty.sizes l := by omega
        clear hss g hle
        obtain ⟨k, n, l'⟩ := t
        obtain ⟨a', len', cap', e, g1, g2, _, _, _, _, gl⟩ := qt.open_
        simp at e
        obtain ⟨rfl, rfl, rfl⟩ := e
        simp only [Ty.size] at hse hsz
        go_wp2_with (go_at_call 20; refine (ih l' _ _ _ _ (by omega) (by omega) g1 g2 (gl.ext ((Ext.refl wr).alloc _))).mono ?_; rintro e w1 ⟨rfl, x1⟩)
        go_roundg (len - (j + 1))
        case rel => exact ⟨j + 1, rfl, by omega, by go_num, by rw [HS.out]; exact congrArg (Value.int .i64) (by simp only [Ty.size]; omega), (hx.alloc _).trans x1⟩
        case measure => omega
      · obtain rfl : j = len := by omega
        go_wp2_with fail
        go_ret
        exact ⟨ret_int (by rw [List.take_of_length_le (by rw [← HL.out]; omega)]), hx⟩
end Go.Proofs.YtopkjocdeolbmaaDoor
