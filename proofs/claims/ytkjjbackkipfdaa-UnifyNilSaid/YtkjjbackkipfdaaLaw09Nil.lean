/- The walk of the law UnifyNil. -/
import Derived.Test.YtkjjbackkipfdaaAw09
namespace Go.Proofs.Ytkjjbackkipfdaa
open Go Go.RowKit Go.Sort

theorem closed_knows (t : Ty) : knows1 0 t = (t.may && !t.has 5) := by
  unfold knows1
  cases hm : t.may with
  | false => rfl
  | true =>
    simp only [Bool.true_and]
    induction t using Ty.ind with
    | h k v l ih =>
      obtain ⟨h1, h2, h3, h4⟩ := may_node hm
      rw [within_mk]
      have hk : Ty.withins ((0 : Nat) : Int) l = !Ty.hass 5 l := by
        clear h1 hm
        induction l with
        | nil => simp [Ty.withins, Ty.hass]
        | cons t l ihl =>
          simp only [Ty.withins, Ty.hass]
          rw [ih t (by simp) (h4 t (by simp)), ihl (fun u hu => ih u (by simp [hu])) (fun u hu => h4 u (by simp [hu]))]
          simp
      rw [hk]
      simp only [Ty.has]
      by_cases h5 : k = 5
      · subst h5; simp [h2]
      · have : (k == 5) = false := by simpa using h5
        simp [h5]
theorem nil_knows (t : Ty) : knows 0 [t, t] = (t.may && !t.has 5) := by
  rw [← closed_knows]; simp [knows]
theorem nil_tell {t : Ty} (hs : t.size ≤ 60) : tell 0 vr t 60 = if (t.may && !t.has 5) = true then (t, 0) else (.mk 0 0 [], 1) := by
  unfold tell
  rw [closed_knows]
  cases hm : t.may with
  | false => rfl
  | true =>
    rw [sub_vr_id t hm]
    have := (Ty.left_spec t 60 (by omega)).2.2.1 (by omega)
    cases hh : t.has 5 with
    | true => rfl
    | false =>
      simp only [Bool.true_and, Bool.not_false, if_true]
      rw [if_neg]
      rw [show max (60 : Int) 0 = 60 by omega]
      omega
set_option maxRecDepth 8000 in
set_option maxHeartbeats 8000000 in
theorem law_unifyNil (t : Ty) (w : World) (x : Value) (ht : IsTy w t x) : Calls Try.prog 7 #[x] w (Yes w) := by
  obtain ⟨t0, ht0⟩ : ∃ t0, t0 = t := ⟨_, rfl⟩
  have htt := ht
  obtain ⟨k, v, l⟩ := t
  obtain ⟨a, len, cap, rfl, h1, h2, h3, h4, h5, h6, hl⟩ := ht.open_
  rw [← ht0] at htt
  have HT := Lib.hid htt
  have KG := Lib.hid fun (W : World) (g : Nat) (h : Ext w W) (hg : Blk W g 25 #[.int .u8 k, .int .i64 v, .slice a len cap]) => law_great [t0] W (some ⟨g, 0, none⟩) 1 1 (Nat.le_refl _) (by omega) (IsTysA.one (fun h => h) (htt.ext h) (by simpa using hg.cell 0) (by simpa using hg.cell 1) (by simpa using hg.cell 2))
  have KA := Lib.hid fun W => law_awake9 W
  have B1 := Lib.hid (Blk.new w 25 #[.int .u8 k, .int .i64 v, .slice a len cap])
  have X1 := Lib.hid ((Ext.refl w).alloc (.cells #[.int .u8 k, .int .i64 v, .slice a len cap] 25))
  obtain ⟨W1, hW1⟩ : ∃ W1, W1 = w.alloc (.cells #[.int .u8 k, .int .i64 v, .slice a len cap] 25) := ⟨_, rfl⟩
  obtain ⟨b1, hb1⟩ : ∃ b1, b1 = w.heap.size := ⟨_, rfl⟩
  rw [← hW1, ← hb1] at B1
  rw [← hW1] at X1
  have HW1 := Lib.hid hW1
  have Hb1 := Lib.hid hb1
  obtain ⟨p0, p1, p2⟩ := B1.out.three
  have l1 := B1.out.lt
  clear ht htt hl hW1 hb1
  cases hg : greatB [t0] with
  | true =>
    rw [hg] at KG
    clear hg ht0
    go_enter Try.func7, Try.ntmps7
    go_upto_region 1 with fail
    rw [← HW1.out, ← Hb1.out]
    go_wp2_with (first | (go_at_call 9; (refine (KG.out _ _ (X1.out.alloc _) (Blk.new _ _ _)).mono ?_); rintro e w2 ⟨rfl, x2⟩) | (go_at_call 10; (with_reducible refine (KA.out _).mono ?_); rintro e w3 ⟨rfl, x3⟩))
    go_ret
    exact ⟨rfl, ((X1.out.alloc _).trans x2).trans x3⟩
  | false =>
    rw [hg] at KG
    have hs : t0.size ≤ 60 := (greatB_no hg).2 t0 (by simp)
    have HTE := Lib.hid (nil_tell hs)
    have HK := Lib.hid (nil_knows t0)
    have KM := Lib.hid fun W (h : Ext w W) => ref_may t0.size t0 W (.agg #[.int .u8 k, .int .i64 v, .slice a len cap]) (Nat.le_refl _) (HT.out.ext h)
    have KH := Lib.hid fun W (h : Ext w W) => ref_has t0.size t0 5 W (.agg #[.int .u8 k, .int .i64 v, .slice a len cap]) (Nat.le_refl _) (HT.out.ext h)
    have KS := Lib.hid fun W (h : Ext w W) => nil_Sense (w := W) t0 60 a len cap (by rw [ht0]; have := HT.out.ext h; rw [ht0] at this; exact this) (by omega) (by omega)
    have KJ := Lib.hid fun (W : World) (g : Nat) (h : Ext w W) (hg : Blk W g 25 #[.int .u8 k, .int .i64 v, .slice a len cap, .int .u8 k, .int .i64 v, .slice a len cap]) => nil_Join (w := W) [t0, t0] (some ⟨g, 0, none⟩) 2 2 (Nat.le_refl _) (by omega) (IsTysA.two (fun h => h) (HT.out.ext h) (HT.out.ext h) (by simpa using hg.cell 0) (by simpa using hg.cell 1) (by simpa using hg.cell 2) (by simpa using hg.cell 3) (by simpa using hg.cell 4) (by simpa using hg.cell 5)) (by intro t u ht hu; simp at ht hu; rw [ht, hu])
    rw [HK.out] at KJ
    have KSM := Lib.hid fun (W : World) (t : Ty) (x y : Value) (h : IsTy W t x) (h' : IsTy W t y) => ref_same t.size t t W x y (Nat.le_refl _) h h'
    have KF := Lib.hid fun W => nil_fresh W
    have KV := Lib.hid fun W => nil_vars W
    clear hg hs HK
    have kb0 := fun W (h : Ext W1 W) => h.cell p0
    have kb1 := fun W (h : Ext W1 W) => h.cell p1
    have kb2 := fun W (h : Ext W1 W) => h.cell p2
    have KZ := Lib.hid fun W => KSM.out W (.mk 0 0 []) (.agg #[.int .u8 0, .int .i64 0, .slice none 0 0]) (.agg #[.int .u8 0, .int .i64 0, .slice none 0 0]) (zero_ty _ _) (zero_ty _ _)
    rw [(Ty.same_iff (.mk 0 0 []) (.mk 0 0 [])).2 rfl] at KZ
    have hkv : t0.kind = k ∧ t0.var = v := by rw [ht0]; exact ⟨rfl, rfl⟩
    by_cases hcl : (t0.may && !t0.has 5) = true
    · have hmh : t0.may = true ∧ t0.has 5 = false := by simpa using hcl
      rw [hmh.1] at KM
      rw [hmh.2] at KH
      rw [hcl] at KJ
      have hte := HTE.out
      rw [if_pos hcl] at hte
      have KS : Hid (∀ W, Ext w W → Calls Try.prog 18 #[.pointer none, .agg #[.int .u8 k, .int .i64 v, .slice a len cap], .int .i64 60] W fun e w' => ∃ xa xl xc, e = .returned (.tuple #[.agg #[.int .u8 k, .int .i64 v, .slice xa xl xc], .int .i64 0]) ∧ IsTy w' t0 (.agg #[.int .u8 k, .int .i64 v, .slice xa xl xc]) ∧ Ext W w') := Lib.hid fun W h => by
        have := KS.out W h
        unfold RetTell at this
        rw [hte] at this
        simp only [hkv.1, hkv.2] at this
        exact this.mono fun e w' ⟨xa, xl, xc, g1, g2, g3⟩ => ⟨xa, xl, xc, g1, g2.any, g3⟩
      have KE := Lib.hid fun (W : World) (xa : Option Addr) (xl xc : Nat) (h : IsTy W t0 (.agg #[.int .u8 k, .int .i64 v, .slice xa xl xc])) (h' : Ext w W) => KSM.out W t0 (.agg #[.int .u8 k, .int .i64 v, .slice xa xl xc]) (.agg #[.int .u8 k, .int .i64 v, .slice a len cap]) h (HT.out.ext h')
      rw [(Ty.same_iff t0 t0).2 rfl] at KE
      clear hcl hmh hte hkv ht0 HTE KSM
      go_enter Try.func7, Try.ntmps7
      go_upto_region 1 with fail
      rw [← HW1.out, ← Hb1.out]
      go_upto_region 3 with (go_at_call 9; (refine (KG.out _ _ (X1.out.alloc _) (Blk.new _ _ _)).mono ?_); rintro e w2 ⟨rfl, x2⟩; have z2 : Ext W1 w2 := Ext.trans (by (exact eX)) x2; have q0 := kb0 _ z2; have q1 := kb1 _ z2; have q2 := kb2 _ z2)
      go_upto_region 5 with (first | (go_at_call 21; (with_reducible refine (KM.out _ (X1.out.trans z2)).mono ?_); rintro e w3 ⟨rfl, x3⟩; have z3 := z2.trans x3; have q0 := kb0 _ z3; have q1 := kb1 _ z3; have q2 := kb2 _ z3) | (go_at_call 22; (with_reducible refine (KH.out _ (X1.out.trans z3)).mono ?_); rintro e w4 ⟨rfl, x4⟩; have z4 := z3.trans x4; have q0 := kb0 _ z4; have q1 := kb1 _ z4; have q2 := kb2 _ z4))
      go_upto_region 6 with (go_at_call 18; (with_reducible refine (KS.out _ (X1.out.trans z4)).mono ?_); rintro e w5 ⟨xa, xl, xc, rfl, hxt, x5⟩)
      have B5 := Lib.hid (Blk.new w5 25 #[.int .u8 k, .int .i64 v, .slice xa xl xc])
      have Z6 := Lib.hid ((z4.trans x5).alloc (.cells #[.int .u8 k, .int .i64 v, .slice xa xl xc] 25))
      obtain ⟨b5, hb5⟩ : ∃ b, b = w5.heap.size := ⟨_, rfl⟩
      rw [← hb5] at B5
      rw [← hb5]
      have KE := Lib.hid fun W (h : Ext (w5.alloc (.cells #[.int .u8 k, .int .i64 v, .slice xa xl xc] 25)) W) => KE.out W xa xl xc ((hxt.ext ((Ext.refl _).alloc _)).ext h) (X1.out.trans (Z6.out.trans h))
      clear hxt
      clear hb5 x5 z4 z3 z2 x2 x3 x4 q0 q1 q2
      generalize (w5.alloc (.cells #[.int .u8 k, .int .i64 v, .slice xa xl xc] 25)) = W6 at *
      obtain ⟨r0, r1, r2⟩ := B5.out.three
      have kr0 := fun W (h : Ext W6 W) => h.cell r0
      have kr1 := fun W (h : Ext W6 W) => h.cell r1
      have kr2 := fun W (h : Ext W6 W) => h.cell r2
      go_wp2_with (first | (go_at_call 14; (with_reducible refine (KF.out _).mono ?_); rintro e w7 ⟨rfl, x7⟩) | (go_at_call 13; (with_reducible refine (KZ.out _).mono ?_); rintro e w8 ⟨rfl, x8⟩; have z8 := x7.trans x8) | (go_at_call 20; (with_reducible refine (KV.out _).mono ?_); rintro e w9 ⟨rfl, x9⟩; have z9 := z8.trans x9; have q0 := kb0 _ (Z6.out.trans z9); have q1 := kb1 _ (Z6.out.trans z9); have q2 := kb2 _ (Z6.out.trans z9)) | (go_at_call 17; (refine (KJ.out _ _ ((X1.out.trans (Z6.out.trans z9)).alloc _) (Blk.new _ _ _)).mono ?_); rintro e w10 ⟨rfl, x10⟩; have z10 := (z9.alloc _).trans x10; have q0 := kb0 _ (Z6.out.trans z10); have q1 := kb1 _ (Z6.out.trans z10); have q2 := kb2 _ (Z6.out.trans z10); have r0 := kr0 _ z10; have r1 := kr1 _ z10; have r2 := kr2 _ z10) | (go_at_call 13; (with_reducible refine (KE.out _ z10).mono ?_); rintro e w11 ⟨rfl, x11⟩) | (go_at_call 10; (with_reducible refine (KA.out _).mono ?_); rintro e w12 ⟨rfl, x12⟩))
      go_ret
      exact ⟨rfl, X1.out.trans (Z6.out.trans (z10.trans (x11.trans x12)))⟩
    · have hte := HTE.out
      rw [if_neg hcl] at hte
      have hcf : (t0.may && !t0.has 5) = false := by simpa using hcl
      rw [hcf] at KJ
      have KS : Hid (∀ W, Ext w W → Calls Try.prog 18 #[.pointer none, .agg #[.int .u8 k, .int .i64 v, .slice a len cap], .int .i64 60] W fun e w' => ∃ xa xl xc, e = .returned (.tuple #[.agg #[.int .u8 0, .int .i64 0, .slice xa xl xc], .int .i64 1]) ∧ Ext W w') := Lib.hid fun W h => by
        have := KS.out W h
        unfold RetTell at this
        rw [hte] at this
        simp only [hkv.1, hkv.2] at this
        exact this.mono fun e w' ⟨xa, xl, xc, g1, g2, g3⟩ => ⟨xa, xl, xc, g1, g3⟩
      have hmh : t0.may = false ∨ (t0.may = true ∧ t0.has 5 = true) := by
        cases hm : t0.may with
        | false => exact .inl rfl
        | true => rw [hm] at hcf; exact .inr ⟨rfl, by simpa using hcf⟩
      clear hcl hcf hte hkv ht0 HTE KSM
      rcases hmh with hm | ⟨hm, hh⟩
      · rw [hm] at KM
        clear hm
        go_enter Try.func7, Try.ntmps7
        go_upto_region 1 with fail
        rw [← HW1.out, ← Hb1.out]
        go_upto_region 3 with (go_at_call 9; (refine (KG.out _ _ (X1.out.alloc _) (Blk.new _ _ _)).mono ?_); rintro e w2 ⟨rfl, x2⟩; have z2 : Ext W1 w2 := Ext.trans (by (exact eX)) x2; have q0 := kb0 _ z2; have q1 := kb1 _ z2; have q2 := kb2 _ z2)
        go_upto_region 5 with (go_at_call 21; (with_reducible refine (KM.out _ (X1.out.trans z2)).mono ?_); rintro e w4 ⟨rfl, x4⟩; have z4 := z2.trans x4; have q0 := kb0 _ z4; have q1 := kb1 _ z4; have q2 := kb2 _ z4)
        go_upto_region 6 with (go_at_call 18; (with_reducible refine (KS.out _ (X1.out.trans z4)).mono ?_); rintro e w5 ⟨xa, xl, xc, rfl, x5⟩)
        have B5 := Lib.hid (Blk.new w5 25 #[.int .u8 0, .int .i64 0, .slice xa xl xc])
        have Z6 := Lib.hid ((z4.trans x5).alloc (.cells #[.int .u8 0, .int .i64 0, .slice xa xl xc] 25))
        obtain ⟨b5, hb5⟩ : ∃ b, b = w5.heap.size := ⟨_, rfl⟩
        rw [← hb5] at B5
        rw [← hb5]
        clear hb5 x5 z4 z2 x2 x4 q0 q1 q2
        generalize (w5.alloc (.cells #[.int .u8 0, .int .i64 0, .slice xa xl xc] 25)) = W6 at *
        obtain ⟨r0, r1, r2⟩ := B5.out.three
        have kr0 := fun W (h : Ext W6 W) => h.cell r0
        have kr1 := fun W (h : Ext W6 W) => h.cell r1
        have kr2 := fun W (h : Ext W6 W) => h.cell r2
        go_wp2_with (first | (go_at_call 14; (with_reducible refine (KF.out _).mono ?_); rintro e w7 ⟨rfl, x7⟩) | (go_at_call 13; (with_reducible refine (KZ.out _).mono ?_); rintro e w8 ⟨rfl, x8⟩; have z8 := x7.trans x8) | (go_at_call 20; (with_reducible refine (KV.out _).mono ?_); rintro e w9 ⟨rfl, x9⟩; have z9 := z8.trans x9; have q0 := kb0 _ (Z6.out.trans z9); have q1 := kb1 _ (Z6.out.trans z9); have q2 := kb2 _ (Z6.out.trans z9)) | (go_at_call 17; (refine (KJ.out _ _ ((X1.out.trans (Z6.out.trans z9)).alloc _) (Blk.new _ _ _)).mono ?_); rintro e w10 ⟨rfl, x10⟩; have z10 := (z9.alloc _).trans x10; have q0 := kb0 _ (Z6.out.trans z10); have q1 := kb1 _ (Z6.out.trans z10); have q2 := kb2 _ (Z6.out.trans z10); have r0 := kr0 _ z10; have r1 := kr1 _ z10; have r2 := kr2 _ z10) | (go_at_call 10; (with_reducible refine (KA.out _).mono ?_); rintro e w12 ⟨rfl, x12⟩))
        go_ret
        exact ⟨rfl, X1.out.trans (Z6.out.trans (z10.trans x12))⟩
      · rw [hm] at KM
        rw [hh] at KH
        clear hh
        clear hm
        go_enter Try.func7, Try.ntmps7
        go_upto_region 1 with fail
        rw [← HW1.out, ← Hb1.out]
        go_upto_region 3 with (go_at_call 9; (refine (KG.out _ _ (X1.out.alloc _) (Blk.new _ _ _)).mono ?_); rintro e w2 ⟨rfl, x2⟩; have z2 : Ext W1 w2 := Ext.trans (by (exact eX)) x2; have q0 := kb0 _ z2; have q1 := kb1 _ z2; have q2 := kb2 _ z2)
        go_upto_region 5 with (first | (go_at_call 21; (with_reducible refine (KM.out _ (X1.out.trans z2)).mono ?_); rintro e w3 ⟨rfl, x3⟩; have z3 := z2.trans x3; have q0 := kb0 _ z3; have q1 := kb1 _ z3; have q2 := kb2 _ z3) | (go_at_call 22; (with_reducible refine (KH.out _ (X1.out.trans z3)).mono ?_); rintro e w4 ⟨rfl, x4⟩; have z4 := z3.trans x4; have q0 := kb0 _ z4; have q1 := kb1 _ z4; have q2 := kb2 _ z4))
        go_upto_region 6 with (go_at_call 18; (with_reducible refine (KS.out _ (X1.out.trans z4)).mono ?_); rintro e w5 ⟨xa, xl, xc, rfl, x5⟩)
        have B5 := Lib.hid (Blk.new w5 25 #[.int .u8 0, .int .i64 0, .slice xa xl xc])
        have Z6 := Lib.hid ((z4.trans x5).alloc (.cells #[.int .u8 0, .int .i64 0, .slice xa xl xc] 25))
        obtain ⟨b5, hb5⟩ : ∃ b, b = w5.heap.size := ⟨_, rfl⟩
        rw [← hb5] at B5
        rw [← hb5]
        clear hb5 x5 z4 z3 z2 x2 x3 x4 q0 q1 q2
        generalize (w5.alloc (.cells #[.int .u8 0, .int .i64 0, .slice xa xl xc] 25)) = W6 at *
        obtain ⟨r0, r1, r2⟩ := B5.out.three
        have kr0 := fun W (h : Ext W6 W) => h.cell r0
        have kr1 := fun W (h : Ext W6 W) => h.cell r1
        have kr2 := fun W (h : Ext W6 W) => h.cell r2
        go_wp2_with (first | (go_at_call 14; (with_reducible refine (KF.out _).mono ?_); rintro e w7 ⟨rfl, x7⟩) | (go_at_call 13; (with_reducible refine (KZ.out _).mono ?_); rintro e w8 ⟨rfl, x8⟩; have z8 := x7.trans x8) | (go_at_call 20; (with_reducible refine (KV.out _).mono ?_); rintro e w9 ⟨rfl, x9⟩; have z9 := z8.trans x9; have q0 := kb0 _ (Z6.out.trans z9); have q1 := kb1 _ (Z6.out.trans z9); have q2 := kb2 _ (Z6.out.trans z9)) | (go_at_call 17; (refine (KJ.out _ _ ((X1.out.trans (Z6.out.trans z9)).alloc _) (Blk.new _ _ _)).mono ?_); rintro e w10 ⟨rfl, x10⟩; have z10 := (z9.alloc _).trans x10; have q0 := kb0 _ (Z6.out.trans z10); have q1 := kb1 _ (Z6.out.trans z10); have q2 := kb2 _ (Z6.out.trans z10); have r0 := kr0 _ z10; have r1 := kr1 _ z10; have r2 := kr2 _ z10) | (go_at_call 10; (with_reducible refine (KA.out _).mono ?_); rintro e w12 ⟨rfl, x12⟩))
        go_ret
        exact ⟨rfl, X1.out.trans (Z6.out.trans (z10.trans x12))⟩
end Go.Proofs.Ytkjjbackkipfdaa
