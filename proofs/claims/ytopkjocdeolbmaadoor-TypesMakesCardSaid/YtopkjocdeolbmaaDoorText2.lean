/- The walks of Text: the program's and the reference's. -/
import Derived.Test.YtopkjocdeolbmaaDoorText
namespace Go.Proofs.YtopkjocdeolbmaaDoor
open Go Go.RowKit Go.Sort

set_option maxHeartbeats 1000000 in
theorem types_Text (t : Ty) (w : World) (v : Value) (ht : IsTy w t v) (hs : t.size ≤ 100000) (htab : Tab w) :
    Calls Tryd.prog 17 #[v] w fun e w' => e = .returned (.tuple #[.string (if t.may then bs t.text else ⟨#[]⟩), .int .i64 (if t.may then 0 else 1)]) ∧ Ext w w' := by
  have HM := Lib.hid fun W (h : Ext w W) => types_may t W v (ht.ext h)
  have HX := Lib.hid fun W (h : Ext w W) (hm : t.may = true) => types_text t.size t W v (Nat.le_refl _) hs hm (ht.ext h) (htab.ext h)
  obtain ⟨k, n, l⟩ := t
  obtain ⟨a, len, cap, rfl, h1, h2, h3, h4, h5, h6, hl⟩ := ht.open_
  cases hmay : (Ty.mk k n l).may
  · rw [hmay] at HM
    clear HX hmay
    go_enter Tryd.func17, Tryd.ntmps17
    go_wp2_with (go_at_call 22; refine (HM.out _ ((Ext.refl _).alloc _)).mono ?_; rintro e w1 ⟨rfl, x1⟩)
    go_ret2
    exact ⟨rfl, ((Ext.refl _).alloc _).trans x1⟩
  · rw [hmay] at HM
    have HX := Lib.hid fun W h => HX.out W h hmay
    clear hmay
    have x0 : Ext w (w.alloc (.cells #[.int .u8 k, .int .i64 n, .slice a len cap] 25)) := (Ext.refl _).alloc _
    go_enter Tryd.func17, Tryd.ntmps17
    go_wp2_with fail
    refine (HM.out _ x0).mono ?_
    rintro e w1 ⟨rfl, x1⟩
    have g0 := x1.cell (p := ⟨w.heap.size, 0, none⟩) (v := .int .u8 k) (by simp [go_sem])
    have g1 := x1.cell (p := ⟨w.heap.size, 1, none⟩) (v := .int .i64 n) (by simp [go_sem])
    have g2 := x1.cell (p := ⟨w.heap.size, 2, none⟩) (v := .slice a len cap) (by simp [go_sem])
    go_wp2_with (go_at_call 27; refine (HX.out _ (x0.trans x1)).mono ?_; rintro e w2 ⟨rfl, x2⟩)
    go_ret2
    exact ⟨rfl, (x0.trans x1).trans x2⟩

set_option maxHeartbeats 2000000 in
theorem ref_text (m : Nat) : ∀ (t : Ty) (w : World) (v : Value), t.size ≤ m → t.size ≤ 100000 → t.may = true → IsTy w t v →
    Calls Tryd.prog 24 #[v] w fun e w' => e = .returned (.string (bs t.text)) ∧ Ext w w' := by
  induction m with
  | zero => intro t w v h; have := t.size_pos; omega
  | succ m ih =>
    intro t w v hm hs hmay ht
    obtain ⟨k, n, l⟩ := t
    obtain ⟨a, len, cap, rfl, h1, h2, h3, h4, h5, h6, hl⟩ := ht.open_
    have hlen := hl.length
    simp only [Ty.size] at hm hs
    rcases Ty.may_cases hmay with ⟨rfl, rfl⟩ | ⟨x, y, rfl, rfl, hx, hy⟩ | ⟨x, rfl, rfl, hx⟩ | ⟨x, y, rfl, rfl, hx, hy⟩ | ⟨rfl, rfl, hn⟩
    · go_enter Tryd.func24, Tryd.ntmps24
      go_wp2_with fail
      go_ret
      exact ⟨rfl, (Ext.refl _).alloc _⟩
    · simp at hlen
      subst hlen
      obtain ⟨b, o, c0, c1, c2, rfl, q0, q1, q2, qt, _⟩ := hl.at_ (i := 0) (t := x) rfl
      obtain ⟨b', o', d0, d1, d2, e', r0, r1, r2, rt, _⟩ := hl.at_ (i := 1) (t := y) rfl
      simp at e'
      obtain ⟨rfl, rfl⟩ := e'
      simp at q0 q1 q2 r0 r1 r2
      have u0 := block_lt_of_cell q0
      simp at u0
      simp [Ty.sizes] at hm hs
      have hlx := Ty.text_length x qt.fit
      have hly := Ty.text_length y rt.fit
      have hlt := tightOf_length x.kind x.text
      have KX : TextIs 24 x x.text w (.agg #[c0, c1, c2]) := fun W hW => ih x W _ (by omega) (by omega) hx (qt.ext hW)
      have KY : TextIs 24 y y.text w (.agg #[d0, d1, d2]) := fun W hW => ih y W _ (by omega) (by omega) hy (rt.ext hW)
      unfold TextIs at KX KY
      obtain ⟨SX, hSX⟩ : ∃ S, S = bs x.text := ⟨_, rfl⟩
      obtain ⟨SY, hSY⟩ : ∃ S, S = bs y.text := ⟨_, rfl⟩
      have zx : SX.size = x.text.length := by rw [hSX, bs_size]
      have zy : SY.size = y.text.length := by rw [hSY, bs_size]
      rw [← hSX] at KX
      rw [← hSY] at KY
      have KX := Lib.hid KX
      have KY := Lib.hid KY
      have HSX := Lib.hid hSX
      have HSY := Lib.hid hSY
      clear hSX hSY ih
      have x0 : Ext w (w.alloc (.cells #[.int .u8 2, .int .i64 n, .slice (some ⟨b, o, none⟩) 2 cap] 25)) := (Ext.refl _).alloc _
      have n1 : ¬ 9223372036854775807 < 2 + SX.size := by omega
      have n2 : ¬ 9223372036854775807 < 2 + SX.size + 3 := by omega
      have n3 : ¬ 9223372036854775807 < 2 + SX.size + 3 + SY.size := by omega
      have n4 : ¬ 9223372036854775807 < 2 + SX.size + 3 + SY.size + 2 := by omega
      clear zx zy
      go_enter Tryd.func24, Tryd.ntmps24
      go_wp2_with fail
      refine (KX.out _ x0).mono ?_
      rintro e w1 ⟨rfl, x1⟩
      have g0 := x1.cell (p := ⟨w.heap.size, 0, none⟩) (v := .int .u8 2) (by simp [go_sem])
      have g2 := x1.cell (p := ⟨w.heap.size, 2, none⟩) (v := .slice (some ⟨b, o, none⟩) 2 cap) (by simp [go_sem])
      have y0 := (x0.trans x1).cell r0
      have y1 := (x0.trans x1).cell r1
      have y2 := (x0.trans x1).cell r2
      go_wp2_with (go_at_call 24; refine (KY.out _ (x0.trans x1)).mono ?_; rintro e w2 ⟨rfl, x2⟩)
      go_ret
      refine ⟨?_, (x0.trans x1).trans x2⟩
      show _ = Ending.returned (.string (bs ([40, 32] ++ x.text ++ [32, 42, 32] ++ y.text ++ [32, 41])))
      rw [← bs_append, ← bs_append, ← bs_append, ← bs_append, ← HSX.out, ← HSY.out]
      rfl
    · simp at hlen
      subst hlen
      obtain ⟨b, o, c0, c1, c2, rfl, q0, q1, q2, qt, _⟩ := hl.at_ (i := 0) (t := x) rfl
      simp at q0 q1 q2
      have u0 := block_lt_of_cell q0
      simp at u0
      simp [Ty.sizes] at hm hs
      have hlx := Ty.text_length x qt.fit
      have KX : TextIs 24 x x.text w (.agg #[c0, c1, c2]) := fun W hW => ih x W _ (by omega) (by omega) hx (qt.ext hW)
      unfold TextIs at KX
      obtain ⟨SX, hSX⟩ : ∃ S, S = bs x.text := ⟨_, rfl⟩
      have zx : SX.size = x.text.length := by rw [hSX, bs_size]
      rw [← hSX] at KX
      have KX := Lib.hid KX
      have HSX := Lib.hid hSX
      clear hSX ih
      have x0 : Ext w (w.alloc (.cells #[.int .u8 3, .int .i64 n, .slice (some ⟨b, o, none⟩) 1 cap] 25)) := (Ext.refl _).alloc _
      obtain ⟨kx, nx, lx⟩ := x
      obtain ⟨ax, lenx, capx, e, p1, p2, p3, p4, p5, p6, pl⟩ := qt.open_
      simp at e
      obtain ⟨rfl, rfl, rfl⟩ := e
      by_cases hk4 : kx = 4
      · subst hk4
        have n1 : ¬ 9223372036854775807 < 2 + SX.size := by omega
        have n2 : ¬ 9223372036854775807 < 2 + SX.size + 2 := by omega
        have n3 : ¬ 9223372036854775807 < 4 + (2 + SX.size + 2) := by omega
        clear zx
        go_enter Tryd.func24, Tryd.ntmps24
        go_wp2_with fail
        refine (KX.out _ x0).mono ?_
        rintro e w1 ⟨rfl, x1⟩
        have g0 := x1.cell (p := ⟨w.heap.size, 0, none⟩) (v := .int .u8 3) (by simp [go_sem])
        have g2 := x1.cell (p := ⟨w.heap.size, 2, none⟩) (v := .slice (some ⟨b, o, none⟩) 1 cap) (by simp [go_sem])
        have y0 := (x0.trans x1).cell q0
        have y1 := (x0.trans x1).cell q1
        have y2 := (x0.trans x1).cell q2
        go_wp2_with fail
        go_ret
        refine ⟨?_, x0.trans x1⟩
        show _ = Ending.returned (.string (bs ([114, 101, 102, 32] ++ ([40, 32] ++ (Ty.mk 4 nx lx).text ++ [32, 41]))))
        rw [← bs_append, ← bs_append, ← bs_append, ← HSX.out]
        rfl
      · have hb : (kx == 4) = false := by simpa using hk4
        have HK := Lib.hid hk4
        have n3 : ¬ 9223372036854775807 < 4 + SX.size := by omega
        clear zx hk4
        go_enter Tryd.func24, Tryd.ntmps24
        go_wp2_with fail
        refine (KX.out _ x0).mono ?_
        rintro e w1 ⟨rfl, x1⟩
        have g0 := x1.cell (p := ⟨w.heap.size, 0, none⟩) (v := .int .u8 3) (by simp [go_sem])
        have g2 := x1.cell (p := ⟨w.heap.size, 2, none⟩) (v := .slice (some ⟨b, o, none⟩) 1 cap) (by simp [go_sem])
        have y0 := (x0.trans x1).cell q0
        have y1 := (x0.trans x1).cell q1
        have y2 := (x0.trans x1).cell q2
        go_wp2_with fail
        go_ret
        refine ⟨?_, x0.trans x1⟩
        show _ = Ending.returned (.string (bs ([114, 101, 102, 32] ++ tightOf kx (Ty.mk kx nx lx).text)))
        unfold tightOf
        rw [if_neg HK.out, ← bs_append, ← HSX.out]
        rfl
    · simp at hlen
      subst hlen
      obtain ⟨b, o, c0, c1, c2, rfl, q0, q1, q2, qt, _⟩ := hl.at_ (i := 0) (t := x) rfl
      obtain ⟨b', o', d0, d1, d2, e', r0, r1, r2, rt, _⟩ := hl.at_ (i := 1) (t := y) rfl
      simp at e'
      obtain ⟨rfl, rfl⟩ := e'
      simp at q0 q1 q2 r0 r1 r2
      have u0 := block_lt_of_cell q0
      simp at u0
      simp [Ty.sizes] at hm hs
      have hlx := Ty.text_length x qt.fit
      have hly := Ty.text_length y rt.fit
      have hlt := tightOf_length x.kind x.text
      have KX : TextIs 24 x x.text w (.agg #[c0, c1, c2]) := fun W hW => ih x W _ (by omega) (by omega) hx (qt.ext hW)
      have KY : TextIs 24 y y.text w (.agg #[d0, d1, d2]) := fun W hW => ih y W _ (by omega) (by omega) hy (rt.ext hW)
      unfold TextIs at KX KY
      obtain ⟨SX, hSX⟩ : ∃ S, S = bs x.text := ⟨_, rfl⟩
      obtain ⟨SY, hSY⟩ : ∃ S, S = bs y.text := ⟨_, rfl⟩
      have zx : SX.size = x.text.length := by rw [hSX, bs_size]
      have zy : SY.size = y.text.length := by rw [hSY, bs_size]
      rw [← hSX] at KX
      rw [← hSY] at KY
      have KX := Lib.hid KX
      have KY := Lib.hid KY
      have HSX := Lib.hid hSX
      have HSY := Lib.hid hSY
      clear hSX hSY ih
      have x0 : Ext w (w.alloc (.cells #[.int .u8 4, .int .i64 n, .slice (some ⟨b, o, none⟩) 2 cap] 25)) := (Ext.refl _).alloc _
      obtain ⟨kx, nx, lx⟩ := x
      obtain ⟨ax, lenx, capx, e, p1, p2, p3, p4, p5, p6, pl⟩ := qt.open_
      simp at e
      obtain ⟨rfl, rfl, rfl⟩ := e
      by_cases hk4 : kx = 4
      · subst hk4
        have n1 : ¬ 9223372036854775807 < 2 + SX.size := by omega
        have n2 : ¬ 9223372036854775807 < 2 + SX.size + 2 := by omega
        have n3 : ¬ 9223372036854775807 < 2 + SX.size + 2 + 4 := by omega
        have n4 : ¬ 9223372036854775807 < 2 + SX.size + 2 + 4 + SY.size := by omega
        clear zx zy
        go_enter Tryd.func24, Tryd.ntmps24
        go_wp2_with fail
        refine (KX.out _ x0).mono ?_
        rintro e w1 ⟨rfl, x1⟩
        have g0 := x1.cell (p := ⟨w.heap.size, 0, none⟩) (v := .int .u8 4) (by simp [go_sem])
        have g2 := x1.cell (p := ⟨w.heap.size, 2, none⟩) (v := .slice (some ⟨b, o, none⟩) 2 cap) (by simp [go_sem])
        have y0 := (x0.trans x1).cell q0
        have y1 := (x0.trans x1).cell q1
        have y2 := (x0.trans x1).cell q2
        have y3 := (x0.trans x1).cell r0
        have y4 := (x0.trans x1).cell r1
        have y5 := (x0.trans x1).cell r2
        go_wp2_with (go_at_call 24; refine (KY.out _ (x0.trans x1)).mono ?_; rintro e w2 ⟨rfl, x2⟩)
        go_ret
        refine ⟨?_, (x0.trans x1).trans x2⟩
        show _ = Ending.returned (.string (bs (([40, 32] ++ (Ty.mk 4 nx lx).text ++ [32, 41]) ++ [32, 45, 62, 32] ++ y.text)))
        rw [← bs_append, ← bs_append, ← bs_append, ← bs_append, ← HSX.out, ← HSY.out]
        rfl
      · have hb : (kx == 4) = false := by simpa using hk4
        have HK := Lib.hid hk4
        have n3 : ¬ 9223372036854775807 < SX.size + 4 := by omega
        have n4 : ¬ 9223372036854775807 < SX.size + 4 + SY.size := by omega
        clear zx zy hk4
        go_enter Tryd.func24, Tryd.ntmps24
        go_wp2_with fail
        refine (KX.out _ x0).mono ?_
        rintro e w1 ⟨rfl, x1⟩
        have g0 := x1.cell (p := ⟨w.heap.size, 0, none⟩) (v := .int .u8 4) (by simp [go_sem])
        have g2 := x1.cell (p := ⟨w.heap.size, 2, none⟩) (v := .slice (some ⟨b, o, none⟩) 2 cap) (by simp [go_sem])
        have y0 := (x0.trans x1).cell q0
        have y1 := (x0.trans x1).cell q1
        have y2 := (x0.trans x1).cell q2
        have y3 := (x0.trans x1).cell r0
        have y4 := (x0.trans x1).cell r1
        have y5 := (x0.trans x1).cell r2
        go_wp2_with (go_at_call 24; refine (KY.out _ (x0.trans x1)).mono ?_; rintro e w2 ⟨rfl, x2⟩)
        go_ret
        refine ⟨?_, (x0.trans x1).trans x2⟩
        show _ = Ending.returned (.string (bs (tightOf kx (Ty.mk kx nx lx).text ++ [32, 45, 62, 32] ++ y.text)))
        unfold tightOf
        rw [if_neg HK.out, ← bs_append, ← bs_append, ← HSX.out, ← HSY.out]
        rfl
    · have hlx := Lib.itoa_length_le n h5 h6
      have HD := Lib.hid fun W => ref_digits n W h5 h6
      obtain ⟨S, hS⟩ : ∃ S, S = bs (Lib.itoa n) := ⟨_, rfl⟩
      have hn1 : ¬ 9223372036854775807 < 1 + S.size := by rw [hS, bs_size]; omega
      rw [← hS] at HD
      have HS := Lib.hid hS
      clear hS ih
      go_enter Tryd.func24, Tryd.ntmps24
      go_wp2_with (go_at_call 32; refine (HD.out _).mono ?_; rintro e w1 ⟨rfl, x1⟩)
      go_ret
      refine ⟨?_, ((Ext.refl _).alloc _).trans x1⟩
      show _ = Ending.returned (.string (bs ([63] ++ Lib.itoa n)))
      rw [← bs_append, ← HS.out]
      rfl
end Go.Proofs.YtopkjocdeolbmaaDoor
