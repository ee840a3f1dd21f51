/- The walks of the laws ValueIs and ValueReads. -/
import Derived.Test.YtmomahgedheekaaDoorRef18c
import Derived.Test.YtmomahgedheekaaDoorLaw18
namespace Go.Proofs.YtmomahgedheekaaDoor
open Go Go.RowKit Go.Sort

theorem text_size {e : En} (hm : e.may = true) (hf : e.Fits) : (bs e.text).size ≤ 1000000 := by
  have hi := itoa_len hf.n0 hf.n1
  rw [bs_size] at hi ⊢
  rcases En.may_cases hm with ⟨n, rfl⟩ | rfl | ⟨n, x, rfl, hx⟩ | ⟨k, h3, h6, rfl⟩
  · rw [text_num]
    simp only at hi
    simp only [tValue, List.length_append, List.length_cons, List.length_nil]
    omega
  · rw [text_other]
    decide
  · rw [text_unc]
    have := exn_size hx
    have hl := list_size' x
    simp only [tUncaught, List.length_append, List.length_cons, List.length_nil]
    simp only at hi
    omega
  · have hk : k = 3 ∨ k = 4 ∨ k = 5 ∨ k = 6 := by omega
    rcases hk with rfl | rfl | rfl | rfl <;> decide

set_option maxRecDepth 8000 in
set_option maxHeartbeats 16000000 in
theorem law_valueIs (e : En) (w : World) (v : Value) (he : IsEnd w e v) (hk : Knob w) (ht : Tab w) (hr : Errs w) : Calls Tryd.prog 10 #[v] w (Yes w) := by
  obtain ⟨rfl, hf⟩ := he
  have KA := Lib.hid fun W (h : Ext w W) => law18_awake W (hk.ext h) (ht.ext h)
  have hfit : e.fits := ⟨hf.n0, hf.n1⟩
  cases hm : e.may
  case false =>
    obtain ⟨k, i, n, x⟩ := e
    simp only
    have KM := Lib.hid fun W => ref18_may k i n x W hf.k0 hf.k1
    have KV := Lib.hid fun W (h : Ext w W) => value_may k i n x W hf.k0 hf.k1 (hk.ext h)
    have KT := Lib.hid fun W (h : Ext w W) => value_text_no k i n x W hf.k0 hf.k1 (hk.ext h) hm
    rw [hm] at KM KV
    clear hf hk ht hr hfit hm
    obtain ⟨W1, hW1, x1, m0, m1, m2, m3, hlt⟩ := endblk w k i n x
    cases hg : decide ((100 : Int) < x.size)
    · go_enter Tryd.func10, Tryd.ntmps10
      go_upto_region 1 with fail
      rw [← hW1]
      clear hW1
      have c0 := m0 _ (Ext.refl _)
      have c1 := m1 _ (Ext.refl _)
      have c2 := m2 _ (Ext.refl _)
      have c3 := m3 _ (Ext.refl _)
      go_upto_region 4 with (go_at_call 19; refine (KT.out _ x1).mono ?_; rintro e w2 ⟨rfl, x2⟩)
      have y2 := x1.trans x2
      have n0 := fun W (h : Ext w2 W) => m0 _ (x2.trans h)
      have n1 := fun W (h : Ext w2 W) => m1 _ (x2.trans h)
      have n2 := fun W (h : Ext w2 W) => m2 _ (x2.trans h)
      have n3 := fun W (h : Ext w2 W) => m3 _ (x2.trans h)
      clear c0 c1 c2 c3 m0 m1 m2 m3
      refine wp_region_held_drew (S := fun w' => Ext w2 w') (by kernel_rfl) (by (try dsimp only); (repeat (first | exact Ext.refl _ | assumption | refine Ext.alloc ?_ _ | refine Ext.drew ?_ | refine Ext.setCell ?_ (by first | (simp; done) | (simp; omega) | omega) _ | refine Ext.trans ?_ (by assumption)))) (fun hHeld => ?_)
      refine held_take 0 (v := ?_) rfl (by kernel_rfl) (by kernel_rfl) (by kernel_rfl) (fun _ _ _ h => h) (by assumption) (by rfl) ?_ ?_; rotate_left; (focus (intro w hSw; (try dsimp only at hSw); go_simp; (try with_reducible rfl))); try simp only [Act.put, List.setIfInBounds_toArray, List.set_cons_zero, List.set_cons_succ]
      refine held_take 2 (v := ?_) rfl (by kernel_rfl) (by kernel_rfl) (by kernel_rfl) (fun _ _ _ h => h) (by assumption) (by rfl) ?_ ?_; rotate_left; (focus (intro w hSw; (try dsimp only at hSw); go_simp; (try with_reducible rfl))); try simp only [Act.put, List.setIfInBounds_toArray, List.set_cons_zero, List.set_cons_succ]
      refine held_do 1 rfl (by kernel_rfl) (by rfl) (fun K hK => ?_); go_simp; (first | (go_at_call 37; refine (KV.out _ (y2.trans (by (repeat (first | exact Ext.refl _ | assumption | refine Ext.alloc ?_ _ | refine Ext.drew ?_ | refine Ext.setCell ?_ (by first | (simp; done) | (simp; omega) | omega) _ | refine Ext.trans ?_ (by assumption)))))).mono ?_; rintro e w4 ⟨rfl, x4⟩) | (go_at_call 17; refine (KM.out _).mono ?_; rintro e w5 ⟨rfl, x5⟩)); (try (focus (go_wp2_with fail))); refine hK.out _ _ (by (try dsimp only); (repeat (first | exact Ext.refl _ | assumption | refine Ext.alloc ?_ _ | refine Ext.drew ?_ | refine Ext.setCell ?_ (by first | (simp; done) | (simp; omega) | omega) _ | refine Ext.trans ?_ (by assumption)))) (fun hHeld => ?_); clear hK K; try simp only [Act.put, List.setIfInBounds_toArray, List.set_cons_zero, List.set_cons_succ]
      refine held_do 3 rfl (by kernel_rfl) (by rfl) (fun K hK => ?_); go_simp; (first | (go_at_call 37; refine (KV.out _ (y2.trans (by (repeat (first | exact Ext.refl _ | assumption | refine Ext.alloc ?_ _ | refine Ext.drew ?_ | refine Ext.setCell ?_ (by first | (simp; done) | (simp; omega) | omega) _ | refine Ext.trans ?_ (by assumption)))))).mono ?_; rintro e w4 ⟨rfl, x4⟩) | (go_at_call 17; refine (KM.out _).mono ?_; rintro e w5 ⟨rfl, x5⟩)); (try (focus (go_wp2_with fail))); refine hK.out _ _ (by (try dsimp only); (repeat (first | exact Ext.refl _ | assumption | refine Ext.alloc ?_ _ | refine Ext.drew ?_ | refine Ext.setCell ?_ (by first | (simp; done) | (simp; omega) | omega) _ | refine Ext.trans ?_ (by assumption)))) (fun hHeld => ?_); clear hK K; try simp only [Act.put, List.setIfInBounds_toArray, List.set_cons_zero, List.set_cons_succ]
      refine held_take 4 (v := ?_) rfl (by kernel_rfl) (by kernel_rfl) (by kernel_rfl) (fun _ _ _ h => h) (by assumption) (by rfl) ?_ ?_; rotate_left; (focus (intro w hSw; (try dsimp only at hSw); go_simp; (try with_reducible rfl))); try simp only [Act.put, List.setIfInBounds_toArray, List.set_cons_zero, List.set_cons_succ]
      refine wpAnyH_done (by kernel_rfl) ?_ _
      all_goals
        have hfin := hHeld
        have c0 := n0 _ hfin
        have c1 := n1 _ hfin
        have c2 := n2 _ hfin
        have c3 := n3 _ hfin
        go_wp2_with (first | (go_at_call 17; refine (KM.out _).mono ?_; rintro e w6 ⟨rfl, x6⟩) | (go_at_call 18; refine (KA.out _ ((y2.trans hfin).trans (by (repeat (first | exact Ext.refl _ | assumption | refine Ext.alloc ?_ _ | refine Ext.drew ?_ | refine Ext.setCell ?_ (by first | (simp; done) | (simp; omega) | omega) _ | refine Ext.trans ?_ (by assumption)))))).mono ?_; rintro e w7 ⟨rfl, x7⟩))
        go_ret
        exact ⟨rfl, (y2.trans hfin).trans (by (repeat (first | exact Ext.refl _ | assumption | refine Ext.alloc ?_ _ | refine Ext.drew ?_ | refine Ext.setCell ?_ (by first | (simp; done) | (simp; omega) | omega) _ | refine Ext.trans ?_ (by assumption))))⟩
    · go_enter Tryd.func10, Tryd.ntmps10
      go_wp2_with (go_at_call 18; refine (KA.out _ (by (repeat (first | exact Ext.refl _ | assumption | refine Ext.alloc ?_ _ | refine Ext.drew ?_ | refine Ext.setCell ?_ (by first | (simp; done) | (simp; omega) | omega) _ | refine Ext.trans ?_ (by assumption))))).mono ?_; rintro e w7 ⟨rfl, x7⟩)
      go_ret
      exact ⟨rfl, by (repeat (first | exact Ext.refl _ | assumption | refine Ext.alloc ?_ _ | refine Ext.drew ?_ | refine Ext.setCell ?_ (by first | (simp; done) | (simp; omega) | omega) _ | refine Ext.trans ?_ (by assumption)))⟩
  case true =>
    have hsz := text_size hm hf
    have hread : readE e.text = some e := (readE_iff _ _).2 ⟨hm, hfit, rfl⟩
    obtain ⟨k, i, n, x⟩ := e
    simp only
    have KM := Lib.hid fun W => ref18_may k i n x W hf.k0 hf.k1
    have KV := Lib.hid fun W (h : Ext w W) => value_may k i n x W hf.k0 hf.k1 (hk.ext h)
    have KT := Lib.hid fun W (h : Ext w W) => value_text k i n x W hf.n0 hf.n1 (hk.ext h) (ht.ext h) hm
    have KR := Lib.hid fun W (h : Ext w W) => value_read (bs (En.text ⟨k, i, n, x⟩)) W hsz (hk.ext h) (ht.ext h) (hr.ext h)
    rw [bs_list, hread] at KR
    unfold RetR ev at KR
    simp only [Option.getD_some, Option.isSome_some, if_true] at KR
    rw [hm] at KM KV
    have hfk := hf.k0
    have KQ : Hid (x.size ≤ 1000000 → ∀ W, Calls Tryd.prog 39 #[.agg #[.int .u8 k, .bool i, .int .i64 n, .string x]] W fun e w' => e = .returned (.string (bs (En.text ⟨k, i, n, x⟩))) ∧ Ext W w') := Lib.hid fun hx W => ref18_text k i n x W hf.k0 hf.k1 hf.n0 hf.n1 hx
    clear hf hk ht hr hfit hm hread hsz hfk
    obtain ⟨W1, hW1, x1, m0, m1, m2, m3, hlt⟩ := endblk w k i n x
    cases hg : decide ((100 : Int) < x.size)
    · have KX := Lib.hid fun W => KQ.out (by simp at hg; omega) W
      clear KQ
      generalize bs (En.text ⟨k, i, n, x⟩) = tx at *
      go_enter Tryd.func10, Tryd.ntmps10
      go_upto_region 1 with fail
      rw [← hW1]
      clear hW1
      have c0 := m0 _ (Ext.refl _)
      have c1 := m1 _ (Ext.refl _)
      have c2 := m2 _ (Ext.refl _)
      have c3 := m3 _ (Ext.refl _)
      go_upto_region 4 with (go_at_call 19; refine (KT.out _ x1).mono ?_; rintro e w2 ⟨rfl, x2⟩)
      have y2 := x1.trans x2
      have n0 := fun W (h : Ext w2 W) => m0 _ (x2.trans h)
      have n1 := fun W (h : Ext w2 W) => m1 _ (x2.trans h)
      have n2 := fun W (h : Ext w2 W) => m2 _ (x2.trans h)
      have n3 := fun W (h : Ext w2 W) => m3 _ (x2.trans h)
      clear c0 c1 c2 c3 m0 m1 m2 m3
      refine wp_region_held_drew (S := fun w' => Ext w2 w') (by kernel_rfl) (by (try dsimp only); (repeat (first | exact Ext.refl _ | assumption | refine Ext.alloc ?_ _ | refine Ext.drew ?_ | refine Ext.setCell ?_ (by first | (simp; done) | (simp; omega) | omega) _ | refine Ext.trans ?_ (by assumption)))) (fun hHeld => ?_)
      refine held_take 0 (v := ?_) rfl (by kernel_rfl) (by kernel_rfl) (by kernel_rfl) (fun _ _ _ h => h) (by assumption) (by rfl) ?_ ?_; rotate_left; (focus (intro w hSw; (try dsimp only at hSw); go_simp; (try with_reducible rfl))); try simp only [Act.put, List.setIfInBounds_toArray, List.set_cons_zero, List.set_cons_succ]
      refine held_take 2 (v := ?_) rfl (by kernel_rfl) (by kernel_rfl) (by kernel_rfl) (fun _ _ _ h => h) (by assumption) (by rfl) ?_ ?_; rotate_left; (focus (intro w hSw; (try dsimp only at hSw); go_simp; (try with_reducible rfl))); try simp only [Act.put, List.setIfInBounds_toArray, List.set_cons_zero, List.set_cons_succ]
      refine held_do 1 rfl (by kernel_rfl) (by rfl) (fun K hK => ?_); go_simp; (first | (go_at_call 37; refine (KV.out _ (y2.trans (by (repeat (first | exact Ext.refl _ | assumption | refine Ext.alloc ?_ _ | refine Ext.drew ?_ | refine Ext.setCell ?_ (by first | (simp; done) | (simp; omega) | omega) _ | refine Ext.trans ?_ (by assumption)))))).mono ?_; rintro e w4 ⟨rfl, x4⟩) | (go_at_call 17; refine (KM.out _).mono ?_; rintro e w5 ⟨rfl, x5⟩)); (try (focus (go_wp2_with fail))); refine hK.out _ _ (by (try dsimp only); (repeat (first | exact Ext.refl _ | assumption | refine Ext.alloc ?_ _ | refine Ext.drew ?_ | refine Ext.setCell ?_ (by first | (simp; done) | (simp; omega) | omega) _ | refine Ext.trans ?_ (by assumption)))) (fun hHeld => ?_); clear hK K; try simp only [Act.put, List.setIfInBounds_toArray, List.set_cons_zero, List.set_cons_succ]
      refine held_do 3 rfl (by kernel_rfl) (by rfl) (fun K hK => ?_); go_simp; (first | (go_at_call 37; refine (KV.out _ (y2.trans (by (repeat (first | exact Ext.refl _ | assumption | refine Ext.alloc ?_ _ | refine Ext.drew ?_ | refine Ext.setCell ?_ (by first | (simp; done) | (simp; omega) | omega) _ | refine Ext.trans ?_ (by assumption)))))).mono ?_; rintro e w4 ⟨rfl, x4⟩) | (go_at_call 17; refine (KM.out _).mono ?_; rintro e w5 ⟨rfl, x5⟩)); (try (focus (go_wp2_with fail))); refine hK.out _ _ (by (try dsimp only); (repeat (first | exact Ext.refl _ | assumption | refine Ext.alloc ?_ _ | refine Ext.drew ?_ | refine Ext.setCell ?_ (by first | (simp; done) | (simp; omega) | omega) _ | refine Ext.trans ?_ (by assumption)))) (fun hHeld => ?_); clear hK K; try simp only [Act.put, List.setIfInBounds_toArray, List.set_cons_zero, List.set_cons_succ]
      refine held_take 4 (v := ?_) rfl (by kernel_rfl) (by kernel_rfl) (by kernel_rfl) (fun _ _ _ h => h) (by assumption) (by rfl) ?_ ?_; rotate_left; (focus (intro w hSw; (try dsimp only at hSw); go_simp; (try with_reducible rfl))); try simp only [Act.put, List.setIfInBounds_toArray, List.set_cons_zero, List.set_cons_succ]
      refine wpAnyH_done (by kernel_rfl) ?_ _
      all_goals
        have hfin := hHeld
        have hs2 := hfin.size
        have hs1 := y2.size
        have c0 := n0 _ hfin
        have c1 := n1 _ hfin
        have c2 := n2 _ hfin
        have c3 := n3 _ hfin
        go_wp2_with (first | (go_at_call 17; refine (KM.out _).mono ?_; rintro e w6 ⟨rfl, x6⟩; have z6 := hfin.trans x6) | (go_at_call 38; refine (KR.out _ (y2.trans z6)).mono ?_; rintro e w7 ⟨rfl, x7⟩; have z7 := z6.trans x7; have g0 := n0 _ (z7.alloc (.cells #[.int .u8 k, .bool i, .int .i64 n, .string x] 23)); have g1 := n1 _ (z7.alloc (.cells #[.int .u8 k, .bool i, .int .i64 n, .string x] 23)); have g2 := n2 _ (z7.alloc (.cells #[.int .u8 k, .bool i, .int .i64 n, .string x] 23)); have g3 := n3 _ (z7.alloc (.cells #[.int .u8 k, .bool i, .int .i64 n, .string x] 23))) | (go_at_call 39; refine (KX.out _).mono ?_; rintro e w8 ⟨rfl, x8⟩; have z8 := (z7.alloc (.cells #[.int .u8 k, .bool i, .int .i64 n, .string x] 23)).trans x8; have g0 := n0 _ z8; have g1 := n1 _ z8; have g2 := n2 _ z8; have g3 := n3 _ z8; obtain ⟨i0, i1, i2, i3, hgg⟩ := ((Blk.new w7 23 #[.int .u8 k, .bool i, .int .i64 n, .string x]).ext x8).four) | (go_at_call 18; refine (KA.out _ (y2.trans z8)).mono ?_; rintro e w9 ⟨rfl, x9⟩))
        go_ret
        exact ⟨rfl, y2.trans (z8.trans x9)⟩
    · go_enter Tryd.func10, Tryd.ntmps10
      go_wp2_with (go_at_call 18; refine (KA.out _ (by (repeat (first | exact Ext.refl _ | assumption | refine Ext.alloc ?_ _ | refine Ext.drew ?_ | refine Ext.setCell ?_ (by first | (simp; done) | (simp; omega) | omega) _ | refine Ext.trans ?_ (by assumption))))).mono ?_; rintro e w7 ⟨rfl, x7⟩)
      go_ret
      exact ⟨rfl, by (repeat (first | exact Ext.refl _ | assumption | refine Ext.alloc ?_ _ | refine Ext.drew ?_ | refine Ext.setCell ?_ (by first | (simp; done) | (simp; omega) | omega) _ | refine Ext.trans ?_ (by assumption)))⟩

set_option maxRecDepth 8000 in
set_option maxHeartbeats 16000000 in
theorem law_valueReads (s : ByteArray) (w : World) (hs : s.size ≤ 9223372036854775807) (hk : Knob w) (ht : Tab w) (he : Errs w) : Calls Tryd.prog 11 #[.string s] w (Yes w) := by
  have KA := Lib.hid fun W (h : Ext w W) => law18_awake W (hk.ext h) (ht.ext h)
  clear hs
  cases hg : decide ((200 : Int) < s.size)
  case true =>
    go_enter Tryd.func11, Tryd.ntmps11
    go_wp2_with (go_at_call 18; refine (KA.out _ (by (repeat (first | exact Ext.refl _ | assumption | refine Ext.alloc ?_ _ | refine Ext.drew ?_ | refine Ext.setCell ?_ (by first | (simp; done) | (simp; omega) | omega) _ | refine Ext.trans ?_ (by assumption))))).mono ?_; rintro e w7 ⟨rfl, x7⟩)
    go_ret
    exact ⟨rfl, by (repeat (first | exact Ext.refl _ | assumption | refine Ext.alloc ?_ _ | refine Ext.drew ?_ | refine Ext.setCell ?_ (by first | (simp; done) | (simp; omega) | omega) _ | refine Ext.trans ?_ (by assumption)))⟩
  case false =>
    have hsz : s.size ≤ 1000000 := by simp at hg; omega
    have KR := Lib.hid fun W (h : Ext w W) => value_read s W hsz (hk.ext h) (ht.ext h) (he.ext h)
    have KQ := Lib.hid fun W => ref18_read s W hsz
    unfold RetR ev at KR
    unfold RetQ ev at KQ
    cases hr : readE s.data.toList with
    | none =>
      rw [hr] at KR KQ
      simp only [Option.getD_none, Option.isSome_none, Bool.false_eq_true, if_false] at KR KQ
      have KT := Lib.hid fun W (h : Ext w W) => value_text_no 0 false 0 ByteArray.empty W (by decide) (by decide) (hk.ext h) (by decide)
      clear hk ht he hr hsz
      go_enter Tryd.func11, Tryd.ntmps11
      go_wp2_with (first | (go_at_call 38; refine (KR.out _ (by (repeat (first | exact Ext.refl _ | assumption | refine Ext.alloc ?_ _ | refine Ext.drew ?_ | refine Ext.setCell ?_ (by first | (simp; done) | (simp; omega) | omega) _ | refine Ext.trans ?_ (by assumption))))).mono ?_; rintro e w1 ⟨rfl, x1⟩) | (go_at_call 40; refine (KQ.out _).mono ?_; rintro e w2 ⟨rfl, x2⟩; obtain ⟨i0, i1, i2, i3, hgg⟩ := ((Blk.new w1 23 #[.int .u8 0, .bool false, .int .i64 0, .string ByteArray.empty]).ext x2).four; have z2 := (x1.alloc (.cells #[.int .u8 0, .bool false, .int .i64 0, .string ByteArray.empty] 23)).trans x2) | (go_at_call 19; refine (KT.out _ (z2.trans (by (repeat (first | exact Ext.refl _ | assumption | refine Ext.alloc ?_ _ | refine Ext.drew ?_ | refine Ext.setCell ?_ (by first | (simp; done) | (simp; omega) | omega) _ | refine Ext.trans ?_ (by assumption)))))).mono ?_; rintro e w3 ⟨rfl, x3⟩) | (go_at_call 18; refine (KA.out _ ((z2.alloc (.cells #[.int .u8 0, .bool false, .int .i64 0, .string ByteArray.empty] 23)).trans x3)).mono ?_; rintro e w7 ⟨rfl, x7⟩))
      go_ret
      exact ⟨rfl, (z2.alloc (.cells #[.int .u8 0, .bool false, .int .i64 0, .string ByteArray.empty] 23)).trans (x3.trans x7)⟩
    | some e =>
      rw [hr] at KR KQ
      simp only [Option.getD_some, Option.isSome_some, if_true] at KR KQ
      obtain ⟨hm, hf, htx⟩ := (readE_iff _ _).1 hr
      obtain ⟨k, i, n, x⟩ := e
      simp only at KR KQ
      have KT := Lib.hid fun W (h : Ext w W) => value_text k i n x W hf.1 hf.2 (hk.ext h) (ht.ext h) hm
      rw [htx, ← bs_of] at KT
      clear hk ht he hr hsz hm hf htx
      go_enter Tryd.func11, Tryd.ntmps11
      go_wp2_with (first | (go_at_call 38; refine (KR.out _ (by (repeat (first | exact Ext.refl _ | assumption | refine Ext.alloc ?_ _ | refine Ext.drew ?_ | refine Ext.setCell ?_ (by first | (simp; done) | (simp; omega) | omega) _ | refine Ext.trans ?_ (by assumption))))).mono ?_; rintro e w1 ⟨rfl, x1⟩) | (go_at_call 40; refine (KQ.out _).mono ?_; rintro e w2 ⟨rfl, x2⟩; obtain ⟨i0, i1, i2, i3, hgg⟩ := ((Blk.new w1 23 #[.int .u8 k, .bool i, .int .i64 n, .string x]).ext x2).four; have z2 := (x1.alloc (.cells #[.int .u8 k, .bool i, .int .i64 n, .string x] 23)).trans x2) | (go_at_call 19; refine (KT.out _ (z2.trans (by (repeat (first | exact Ext.refl _ | assumption | refine Ext.alloc ?_ _ | refine Ext.drew ?_ | refine Ext.setCell ?_ (by first | (simp; done) | (simp; omega) | omega) _ | refine Ext.trans ?_ (by assumption)))))).mono ?_; rintro e w3 ⟨rfl, x3⟩) | (go_at_call 18; refine (KA.out _ ((z2.alloc (.cells #[.int .u8 k, .bool i, .int .i64 n, .string x] 23)).trans x3)).mono ?_; rintro e w7 ⟨rfl, x7⟩))
      go_ret
      exact ⟨rfl, (z2.alloc (.cells #[.int .u8 k, .bool i, .int .i64 n, .string x] 23)).trans (x3.trans x7)⟩
end Go.Proofs.YtmomahgedheekaaDoor
