/- Part 48 of the proof: Law06d; no condition of ours. -/
import Derived.Test.YtaioeailgknfjaaGreatDoorPku47
set_option linter.unusedVariables false
set_option linter.unusedSimpArgs false
namespace Go.Proofs.YtaioeailgknfjaaGreatDoor
open Go Go.RowKit Go.Sort
theorem fits_pair : pairH.Fits := by constructor <;> decide +kernel
theorem fits_fn6 (s : ByteArray) (h : s.size ≤ 9223372036854775807) : (fnH s).Fits where
  k0 := by show (0 : Int) ≤ 11; omega
  k1 := by show (11 : Int) ≤ 255; omega
  op0 := by show (0 : Int) ≤ 0; omega
  op1 := by show (0 : Int) ≤ 255; omega
  pos0 := by show (-9223372036854775808 : Int) ≤ 0; omega
  pos1 := by show (0 : Int) ≤ 9223372036854775807; omega
  n0 := by show (-9223372036854775808 : Int) ≤ 0; omega
  n1 := by show (0 : Int) ≤ 9223372036854775807; omega
  name1 := by show (0 : Nat) ≤ 9223372036854775807; omega
  arg1 := h
  exn1 := by show (0 : Nat) ≤ 9223372036854775807; omega
theorem showR_yes {t : Tm} (h : t.may = true) : showR t = (bs (joinW t.wk), 0) := if_pos h
theorem showR_no {t : Tm} (h : t.may = false) : showR t = (ByteArray.empty, 1) := if_neg (by rw [h]; decide)
theorem joins_cases (mt mu mf : Bool) (h : mf = true → mt = true) : (mt = true ∧ mu = true ∧ mf = true) ∨ (mt = true ∧ mu = true ∧ mf = false) ∨ (mt = true ∧ mu = false ∧ mf = true) ∨ (mt = true ∧ mu = false ∧ mf = false) ∨ (mt = false ∧ mu = true ∧ mf = false) ∨ (mt = false ∧ mu = false ∧ mf = false) := by
  cases mt <;> cases mu <;> cases mf <;> simp at h ⊢
set_option maxRecDepth 60000 in
set_option maxHeartbeats 8000000 in
theorem law_showJoins (t u : Tm) (s : ByteArray) (w : World) (v v' : Value) (ht : IsTm w t v) (hu : IsTm w u v') (hs : s.size ≤ maxLen) (hk : Knob w) (htab : Tab w) : Calls Tryz.prog 7 #[v, v', .string s] w (Yes5 w) := by
  have KA := Lib.hid fun (W : World) (h : Ext w W) => law06_awake W (hk.ext h) (htab.ext h)
  have KG1 := Lib.hid fun (W : World) (h : Ext w W) => ref4_great t W v (ht.ext h)
  have KG2 := Lib.hid fun (W : World) (h : Ext w W) => ref4_great u W v' (hu.ext h)
  have KL1 := Lib.hid fun (W : World) (h : Ext w W) (hz : t.size ≤ 400) => ref4_all t.size t w W v (Nat.le_refl _) (by omega) h ht
  have KL2 := Lib.hid fun (W : World) (h : Ext w W) (hz : u.size ≤ 400) => ref4_all u.size u w W v' (Nat.le_refl _) (by omega) h hu
  have hz1 : t.great = false → t.size ≤ 400 := fun h => (Tm.not_great h).1
  have hz2 : u.great = false → u.size ≤ 400 := fun h => (Tm.not_great h).1
  have HAL1 := Lib.hid t.all_length
  have HAL2 := Lib.hid u.all_length
  have hp1 := t.size_pos
  have hp2 := u.size_pos
  have hcases : t.great = true ∨ (t.great = false ∧ u.great = true) ∨ (t.great = false ∧ u.great = false ∧ 400 < t.size + u.size) ∨ (t.great = false ∧ u.great = false ∧ t.size + u.size ≤ 400 ∧ 100 < s.size) ∨ (t.great = false ∧ u.great = false ∧ t.size + u.size ≤ 400 ∧ s.size ≤ 100) := by
    cases t.great <;> cases u.great <;> simp <;> omega
  obtain ⟨x, ks⟩ := t
  obtain ⟨y, ls⟩ := u
  obtain ⟨a, n, c, rfl, g1, g2, gf, gl⟩ := ht.open_
  obtain ⟨a', n', c', rfl, g1', g2', gf', gl'⟩ := hu.open_
  obtain ⟨W0, hW0⟩ : ∃ W0, W0 = (w.alloc (.cells #[.int .u8 x.k, .int .u8 x.op, .int .i64 x.pos, .int .i64 x.n, .string x.name, .string x.arg, .string x.exn, .slice a n c] 28)).alloc (.cells #[.int .u8 y.k, .int .u8 y.op, .int .i64 y.pos, .int .i64 y.n, .string y.name, .string y.arg, .string y.exn, .slice a' n' c'] 28) := ⟨_, rfl⟩
  have y0 : Ext w W0 := by rw [hW0]; exact ((Ext.refl _).alloc _).alloc _
  have TA : TBox W0 w.heap.size x a n c := by rw [hW0]; exact (TBox.new w x a n c 28).ext ((Ext.refl _).alloc _)
  have TB : TBox W0 (w.heap.size + 1) y a' n' c' := by
    rw [hW0]
    have h := TBox.new (w.alloc (.cells #[.int .u8 x.k, .int .u8 x.op, .int .i64 x.pos, .int .i64 x.n, .string x.name, .string x.arg, .string x.exn, .slice a n c] 28)) y a' n' c' 28
    rw [World.size_alloc] at h
    exact h
  have HW0 := Lib.hid hW0
  have HY0 := Lib.hid y0
  have HTA := Lib.hid TA
  have HTB := Lib.hid TB
  have HBL : w.heap.size + 1 < W0.heap.size := TB.lt
  rcases hcases with h1 | ⟨h1, h2⟩ | ⟨h1, h2, h3⟩ | ⟨h1, h2, h3, h4⟩ | ⟨h1, h2, h3, h4⟩
  case inr.inr.inr.inr =>
    have e1 := hz1 h1
    have e2 := hz2 h2
    rw [h1] at KG1
    rw [h2] at KG2
    have hsum : ((Tm.mk x ks).size : Int) + ((Tm.mk y ls).size : Int) ≤ 400 := by omega
    have h4' : ¬ (100 : Int) < (s.size : Int) := by omega
    have hmp := may_pair (.mk x ks) (.mk y ls) h3
    have hmf := may_fn (s := s) (t := .mk x ks)
    have hzp : (Tm.mk pairH [.mk x ks, .mk y ls]).size ≤ 1000000 := by simp only [Tm.size, Tm.sizes] at h3 ⊢; omega
    have hzf : (Tm.mk (fnH s) [.mk x ks]).size ≤ 1000000 := by simp only [Tm.size, Tm.sizes] at h3 ⊢; omega
    have hpt := pair_text (.mk x ks) (.mk y ls)
    have hft := fn_text s (.mk x ks)
    have KS1 := Lib.hid fun (W : World) (h : Ext w W) => show_Term x ks W a n c (ht.ext h) (hk.ext h) (htab.ext h) (by omega)
    have KS2 := Lib.hid fun (W : World) (h : Ext w W) => show_Term y ls W a' n' c' (hu.ext h) (hk.ext h) (htab.ext h) (by omega)
    have KSP := Lib.hid fun (W : World) (h : Ext w W) => show_Term pairH [.mk x ks, .mk y ls] (W.alloc (.cells #[.int .u8 x.k, .int .u8 x.op, .int .i64 x.pos, .int .i64 x.n, .string x.name, .string x.arg, .string x.exn, .slice a n c, .int .u8 y.k, .int .u8 y.op, .int .i64 y.pos, .int .i64 y.n, .string y.name, .string y.arg, .string y.exn, .slice a' n' c'] 28)) (some ⟨W.heap.size, 0, none⟩) 2 2
      (IsTmA.mk_ (IsTms.new2 28 (gl.ext h) g1 g2 gf (gl'.ext h) g1' g2' gf') (Nat.le_refl _) (by omega) fits_pair) (hk.ext (h.alloc _)) (htab.ext (h.alloc _)) hzp
    have KF1 : ∀ W, Ext w W → IsTm ((W.alloc (.cells #[.int .u8 x.k, .int .u8 x.op, .int .i64 x.pos, .int .i64 x.n, .string x.name, .string x.arg, .string x.exn, .slice a n c] 28)).alloc (.cells #[.int .u8 11, .int .u8 0, .int .i64 0, .int .i64 0, .string ⟨#[]⟩, .string s, .string ⟨#[]⟩, .slice (some ⟨W.heap.size, 0, none⟩) 1 1] 28)) (.mk (fnH s) [.mk x ks]) (tval (fnH s) (some ⟨W.heap.size, 0, none⟩) 1 1) := fun W h =>
      IsTmA.mk_ ((IsTms.new 28 (gl.ext h) g1 g2 gf).ext ((Ext.refl _).alloc _)) (Nat.le_refl _) (by omega) (fits_fn6 s hs)
    have KSF := Lib.hid fun (W W' : World) (h : Ext w W) (h' : Ext ((W.alloc (.cells #[.int .u8 x.k, .int .u8 x.op, .int .i64 x.pos, .int .i64 x.n, .string x.name, .string x.arg, .string x.exn, .slice a n c] 28)).alloc (.cells #[.int .u8 11, .int .u8 0, .int .i64 0, .int .i64 0, .string ⟨#[]⟩, .string s, .string ⟨#[]⟩, .slice (some ⟨W.heap.size, 0, none⟩) 1 1] 28)) W') => show_Term (fnH s) [.mk x ks] W' (some ⟨W.heap.size, 0, none⟩) 1 1 ((KF1 W h).ext h') (hk.ext (((h.alloc _).alloc _).trans h')) (htab.ext (((h.alloc _).alloc _).trans h')) hzf
    have KMF := Lib.hid fun (W W' : World) (h : Ext w W) (h' : Ext ((W.alloc (.cells #[.int .u8 x.k, .int .u8 x.op, .int .i64 x.pos, .int .i64 x.n, .string x.name, .string x.arg, .string x.exn, .slice a n c] 28)).alloc (.cells #[.int .u8 11, .int .u8 0, .int .i64 0, .int .i64 0, .string ⟨#[]⟩, .string s, .string ⟨#[]⟩, .slice (some ⟨W.heap.size, 0, none⟩) 1 1] 28)) W') => ref4_may (.mk (fnH s) [.mk x ks]) W' _ ((KF1 W h).ext h') hzf
    have hX : (Tm.mk x ks).may = true → (bs (joinW (Tm.mk x ks).wk)).size ≤ 1000000 := fun h => by rw [bs_size]; exact shown_len _ (may_nodes h).1 (may_nodes h).2
    have hY : (Tm.mk y ls).may = true → (bs (joinW (Tm.mk y ls).wk)).size ≤ 1000000 := fun h => by rw [bs_size]; exact shown_len _ (may_nodes h).1 (may_nodes h).2
    have HK0 : Hid (∀ W, Ext W0 W → TBox W w.heap.size x a n c ∧ TBox W (w.heap.size + 1) y a' n' c') := Lib.hid fun W h => ⟨HTA.out.ext h, HTB.out.ext h⟩
    have HHL := Lib.hid (And.intro e1 e2)
    generalize hsz1 : (Tm.mk x ks).size = sz1 at *
    generalize hsz2 : (Tm.mk y ls).size = sz2 at *
    rcases joins_cases (Tm.mk x ks).may (Tm.mk y ls).may (Tm.mk (fnH s) [.mk x ks]).may hmf with ⟨m1, m2, m3⟩ | ⟨m1, m2, m3⟩ | ⟨m1, m2, m3⟩ | ⟨m1, m2, m3⟩ | ⟨m1, m2, m3⟩ | ⟨m1, m2, m3⟩
    all_goals
      rw [m1, m2] at hmp
      simp only [Bool.and_true, Bool.and_false, Bool.false_and, Bool.true_and] at hmp
      rw [m3] at KMF
      first | rw [showR_yes m1] at KS1 | rw [showR_no m1] at KS1
      first | rw [showR_yes m2] at KS2 | rw [showR_no m2] at KS2
      first | rw [showR_yes hmp, hpt m1 m2] at KSP | rw [showR_no hmp] at KSP
      first | rw [showR_yes m3, hft m1] at KSF | rw [showR_no m3] at KSF
      unfold tval fnH at KMF
      unfold pairH at KSP
      unfold fnH at KSF
      simp only at KS1 KS2 KMF KSP KSF
      try have hX := hX m1
      try have hY := hY m2
      generalize bs (joinW (Tm.mk x ks).wk) = X at *
      generalize bs (joinW (Tm.mk y ls).wk) = Y at *
      try have n1 : ¬ 9223372036854775807 < 2 + X.size := by omega
      try have n2 : ¬ 9223372036854775807 < 2 + X.size + 3 := by omega
      try have n3 : ¬ 9223372036854775807 < 2 + X.size + 3 + Y.size := by omega
      try have n4 : ¬ 9223372036854775807 < 2 + X.size + 3 + Y.size + 2 := by omega
      try have n5 : ¬ 9223372036854775807 < 3 + s.size := by omega
      try have n6 : ¬ 9223372036854775807 < 3 + s.size + 4 := by omega
      try have n7 : ¬ 9223372036854775807 < 3 + s.size + 4 + X.size := by omega
      have hwr : IntKind.i64.wrap ((sz1 : Int) + (sz2 : Int)) = (sz1 : Int) + (sz2 : Int) := IntWalk.i64_in _ ⟨by omega, by omega⟩
      clear hX hY hpt hft hmf hmp KF1 hzp hzf ht hu hk htab gf gf' gl gl' hz1 hz2 h1 h2 h3 h4 hs m1 m2 m3 hW0 y0 TA TB hsz1 hsz2 e1 e2
      go_enter Tryz.func7, Tryz.ntmps7
      go_upto_region 1 with fail
      rw [← HW0.out]
      go_cut [36] (fun s36 wx => s36 = .bool false ∧ Ext W0 wx)
      case first =>
        obtain ⟨a0, a1, a2, a3, a4, a5, a6, a7⟩ := HTA.out
        obtain ⟨b0, b1, b2, b3, b4, b5, b6, b7⟩ := HTB.out
        have d0 := fun W (h : Ext W0 W) => h.cell a0
        have d1 := fun W (h : Ext W0 W) => h.cell a1
        have d2 := fun W (h : Ext W0 W) => h.cell a2
        have d3 := fun W (h : Ext W0 W) => h.cell a3
        have d4 := fun W (h : Ext W0 W) => h.cell a4
        have d5 := fun W (h : Ext W0 W) => h.cell a5
        have d6 := fun W (h : Ext W0 W) => h.cell a6
        have d7 := fun W (h : Ext W0 W) => h.cell a7
        have f0 := fun W (h : Ext W0 W) => h.cell b0
        have f1 := fun W (h : Ext W0 W) => h.cell b1
        have f2 := fun W (h : Ext W0 W) => h.cell b2
        have f3 := fun W (h : Ext W0 W) => h.cell b3
        have f4 := fun W (h : Ext W0 W) => h.cell b4
        have f5 := fun W (h : Ext W0 W) => h.cell b5
        have f6 := fun W (h : Ext W0 W) => h.cell b6
        have f7 := fun W (h : Ext W0 W) => h.cell b7
        clear a0 a1 a2 a3 a4 a5 a6 a7 b0 b1 b2 b3 b4 b5 b6 b7
        have HD9 : Hid (decide ((400 : Int) < (sz1 : Int) + (sz2 : Int)) = false) := Lib.hid (decide_eq_false (by omega))
        have HD8 : Hid (decide ((100 : Int) < (s.size : Int)) = false) := Lib.hid (decide_eq_false (by omega))
        refine wp_region_held_drew (S := fun w' => Ext W0 w') (by kernel_rfl) (by (try dsimp only); (exact eX)) (fun hHeld => ?_)
        refine tK 0 (v := ?_) ?_ ?_;rotate_left;(focus (intro w hSw;(try dsimp only at hSw);go_simp;(try with_reducible rfl)));try simp only [Act.put,pA,pB,pC,HD9.out,HD8.out]
        refine held_do 1 rfl (by kernel_rfl) (by rfl) (fun K hK => ?_); go_simp; (first | (go_at_call 20; (first | (with_reducible refine (KG1.out _ (HY0.out.trans (by (exact eX)))).mono ?_) | (with_reducible refine (KG2.out _ (HY0.out.trans (by (exact eX)))).mono ?_)); rintro e wn ⟨rfl, xn⟩)); (try (focus (go_wp2_with fail))); refine hK.out _ _ (by (try dsimp only); (exact eX)) (fun hHeld => ?_); clear hK K; try simp only [Act.put,pA,pB,pC,HD9.out,HD8.out]
        refine tK 2 (v := ?_) ?_ ?_;rotate_left;(focus (intro w hSw;(try dsimp only at hSw);go_simp;(try with_reducible rfl)));try simp only [Act.put,pA,pB,pC,HD9.out,HD8.out]
        first | (refine tK 3 (v := ?_) ?_ ?_;rotate_left;(focus (intro w hSw;(try dsimp only at hSw);go_simp;(try with_reducible rfl)));try simp only [Act.put,pA,pB,pC,HD9.out,HD8.out]) | (refine held_skip 3 rfl (by kernel_rfl) (by kernel_rfl) (by kernel_rfl) (fun _ _ _ h => h) (by assumption) (by rfl) ?_; try simp only [Act.put,pA,pB,pC,HD9.out,HD8.out])
        first | (refine held_skip 4 rfl (by kernel_rfl) (by kernel_rfl) (by kernel_rfl) (fun _ _ _ h => h) (by assumption) (by rfl) ?_; try simp only [Act.put,pA,pB,pC,HD9.out,HD8.out]) | (refine held_do 4 rfl (by kernel_rfl) (by rfl) (fun K hK => ?_); go_simp; (first | (go_at_call 20; (first | (with_reducible refine (KG1.out _ (HY0.out.trans (by (exact eX)))).mono ?_) | (with_reducible refine (KG2.out _ (HY0.out.trans (by (exact eX)))).mono ?_)); rintro e wn ⟨rfl, xn⟩)); (try (focus (go_wp2_with fail))); refine hK.out _ _ (by (try dsimp only); (exact eX)) (fun hHeld => ?_); clear hK K; try simp only [Act.put,pA,pB,pC,HD9.out,HD8.out])
        refine tK 5 (v := ?_) ?_ ?_;rotate_left;(focus (intro w hSw;(try dsimp only at hSw);go_simp;(try with_reducible rfl)));try simp only [Act.put,pA,pB,pC,HD9.out,HD8.out]
        refine tK 6 (v := ?_) ?_ ?_;rotate_left;(focus (intro w hSw;(try dsimp only at hSw);go_simp;(try with_reducible rfl)));try simp only [Act.put,pA,pB,pC,HD9.out,HD8.out]
        first | (refine tK 7 (v := ?_) ?_ ?_;rotate_left;(focus (intro w hSw;(try dsimp only at hSw);go_simp;(try with_reducible rfl)));try simp only [Act.put,pA,pB,pC,HD9.out,HD8.out]) | (refine held_skip 7 rfl (by kernel_rfl) (by kernel_rfl) (by kernel_rfl) (fun _ _ _ h => h) (by assumption) (by rfl) ?_; try simp only [Act.put,pA,pB,pC,HD9.out,HD8.out])
        first | (refine tK 10 (v := ?_) ?_ ?_;rotate_left;(focus (intro w hSw;(try dsimp only at hSw);go_simp;(try with_reducible rfl)));try simp only [Act.put,pA,pB,pC,HD9.out,HD8.out]) | (refine held_skip 10 rfl (by kernel_rfl) (by kernel_rfl) (by kernel_rfl) (fun _ _ _ h => h) (by assumption) (by rfl) ?_; try simp only [Act.put,pA,pB,pC,HD9.out,HD8.out])
        first | (refine held_skip 8 rfl (by kernel_rfl) (by kernel_rfl) (by kernel_rfl) (fun _ _ _ h => h) (by assumption) (by rfl) ?_; try simp only [Act.put,pA,pB,pC,HD9.out,HD8.out]) | (refine held_do 8 rfl (by kernel_rfl) (by rfl) (fun K hK => ?_); go_simp; (first | (go_at_call 13; (first | (with_reducible refine (KL1.out _ (HY0.out.trans (by (exact eX))) HHL.out.1).mono ?_) | (with_reducible refine (KL2.out _ (HY0.out.trans (by (exact eX))) HHL.out.2).mono ?_)); rintro e wn ⟨vv, ys, rfl, ho2, hf2, xn⟩; (first | rw [HAL1.out] at ho2 | rw [HAL2.out] at ho2); obtain ⟨gg2, cap2, rfl, -, -, -, -, -⟩ := owns_open ho2 (by assumption); clear ho2 hf2)); (try (focus (go_wp2_with fail))); refine hK.out _ _ (by (try dsimp only); (exact eX)) (fun hHeld => ?_); clear hK K; try simp only [Act.put,pA,pB,pC,HD9.out,HD8.out])
        first | (refine tK 9 (v := ?_) ?_ ?_;rotate_left;(focus (intro w hSw;(try dsimp only at hSw);go_simp;(try with_reducible rfl)));try simp only [Act.put,pA,pB,pC,HD9.out,HD8.out]) | (refine held_skip 9 rfl (by kernel_rfl) (by kernel_rfl) (by kernel_rfl) (fun _ _ _ h => h) (by assumption) (by rfl) ?_; try simp only [Act.put,pA,pB,pC,HD9.out,HD8.out])
        first | (refine held_skip 11 rfl (by kernel_rfl) (by kernel_rfl) (by kernel_rfl) (fun _ _ _ h => h) (by assumption) (by rfl) ?_; try simp only [Act.put,pA,pB,pC,HD9.out,HD8.out]) | (refine held_do 11 rfl (by kernel_rfl) (by rfl) (fun K hK => ?_); go_simp; (first | (go_at_call 13; (first | (with_reducible refine (KL1.out _ (HY0.out.trans (by (exact eX))) HHL.out.1).mono ?_) | (with_reducible refine (KL2.out _ (HY0.out.trans (by (exact eX))) HHL.out.2).mono ?_)); rintro e wn ⟨vv, ys, rfl, ho2, hf2, xn⟩; (first | rw [HAL1.out] at ho2 | rw [HAL2.out] at ho2); obtain ⟨gg2, cap2, rfl, -, -, -, -, -⟩ := owns_open ho2 (by assumption); clear ho2 hf2)); (try (focus (go_wp2_with fail))); refine hK.out _ _ (by (try dsimp only); (exact eX)) (fun hHeld => ?_); clear hK K; try simp only [Act.put,pA,pB,pC,HD9.out,HD8.out])
        first | (refine tK 12 (v := ?_) ?_ ?_;rotate_left;(focus (intro w hSw;(try dsimp only at hSw);go_simp;(try with_reducible rfl)));try simp only [Act.put,pA,pB,pC,HD9.out,HD8.out]) | (refine held_skip 12 rfl (by kernel_rfl) (by kernel_rfl) (by kernel_rfl) (fun _ _ _ h => h) (by assumption) (by rfl) ?_; try simp only [Act.put,pA,pB,pC,HD9.out,HD8.out])
        first | (refine tK 13 (v := ?_) ?_ ?_;rotate_left;(focus (intro w hSw;(try dsimp only at hSw);go_simp;(try with_reducible rfl)));try simp only [Act.put,pA,pB,pC,HD9.out,HD8.out]) | (refine held_skip 13 rfl (by kernel_rfl) (by kernel_rfl) (by kernel_rfl) (fun _ _ _ h => h) (by assumption) (by rfl) ?_; try simp only [Act.put,pA,pB,pC,HD9.out,HD8.out])
        first | (refine tK 14 (v := ?_) ?_ ?_;rotate_left;(focus (intro w hSw;(try dsimp only at hSw);go_simp;(try with_reducible rfl)));try simp only [Act.put,pA,pB,pC,HD9.out,HD8.out]) | (refine held_skip 14 rfl (by kernel_rfl) (by kernel_rfl) (by kernel_rfl) (fun _ _ _ h => h) (by assumption) (by rfl) ?_; try simp only [Act.put,pA,pB,pC,HD9.out,HD8.out])
        refine tK 15 (v := ?_) ?_ ?_;rotate_left;(focus (intro w hSw;(try dsimp only at hSw);go_simp;(try with_reducible rfl)));try simp only [Act.put,pA,pB,pC,HD9.out,HD8.out]
        refine tK 16 (v := ?_) ?_ ?_;rotate_left;(focus (intro w hSw;(try dsimp only at hSw);go_simp;(try with_reducible rfl)));try simp only [Act.put,pA,pB,pC,HD9.out,HD8.out]
        first | (refine tK 17 (v := ?_) ?_ ?_;rotate_left;(focus (intro w hSw;(try dsimp only at hSw);go_simp;(try with_reducible rfl)));try simp only [Act.put,pA,pB,pC,HD9.out,HD8.out]) | (refine held_skip 17 rfl (by kernel_rfl) (by kernel_rfl) (by kernel_rfl) (fun _ _ _ h => h) (by assumption) (by rfl) ?_; try simp only [Act.put,pA,pB,pC,HD9.out,HD8.out])
        first | (refine tK 18 (v := ?_) ?_ ?_;rotate_left;(focus (intro w hSw;(try dsimp only at hSw);go_simp;(try with_reducible rfl)));try simp only [Act.put,pA,pB,pC,HD9.out,HD8.out]) | (refine held_skip 18 rfl (by kernel_rfl) (by kernel_rfl) (by kernel_rfl) (fun _ _ _ h => h) (by assumption) (by rfl) ?_; try simp only [Act.put,pA,pB,pC,HD9.out,HD8.out])
        first | (refine tK 19 (v := ?_) ?_ ?_;rotate_left;(focus (intro w hSw;(try dsimp only at hSw);go_simp;(try with_reducible rfl)));try simp only [Act.put,pA,pB,pC,HD9.out,HD8.out]) | (refine held_skip 19 rfl (by kernel_rfl) (by kernel_rfl) (by kernel_rfl) (fun _ _ _ h => h) (by assumption) (by rfl) ?_; try simp only [Act.put,pA,pB,pC,HD9.out,HD8.out])
        refine tK 20 (v := ?_) ?_ ?_;rotate_left;(focus (intro w hSw;(try dsimp only at hSw);go_simp;(try with_reducible rfl)));try simp only [Act.put,pA,pB,pC,HD9.out,HD8.out]
        refine wpAnyH_done (by kernel_rfl) ?_ _
        all_goals
          go_wp2_with fail
          go_meet
          exact ⟨rfl, hHeld⟩
      case rest =>
      obtain ⟨rfl, xc⟩ := hcut
      obtain ⟨W1, rfl⟩ : ∃ W1, W1 = wc := ⟨_, rfl⟩
      have Y1 := Lib.hid (HY0.out.trans xc)
      obtain ⟨TA1, TB1⟩ := HK0.out W1 xc
      have HTA1 := Lib.hid TA1
      have HTB1 := Lib.hid TB1
      clear xc TA1 TB1
      obtain ⟨a0, a1, a2, a3, a4, a5, a6, a7⟩ := HTA1.out
      go_upto_region 4 with (go_at_call 22; (with_reducible refine (KS1.out _ Y1.out).mono ?_); rintro e w2 ⟨rfl, x2⟩)
      have Y2 := Lib.hid (Y1.out.trans x2)
      have HTA2 := Lib.hid (HTA1.out.ext x2)
      have HTB2 := Lib.hid (HTB1.out.ext x2)
      clear x2 a0 a1 a2 a3 a4 a5 a6 a7
      obtain ⟨b0, b1, b2, b3, b4, b5, b6, b7⟩ := HTB2.out
      go_upto_region 5 with (go_at_call 22; (with_reducible refine (KS2.out _ Y2.out).mono ?_); rintro e w3 ⟨rfl, x3⟩)
      have Y3 := Lib.hid (Y2.out.trans x3)
      have HTA3 := Lib.hid (HTA2.out.ext x3)
      have HTB3 := Lib.hid (HTB2.out.ext x3)
      clear x3 b0 b1 b2 b3 b4 b5 b6 b7
      obtain ⟨a0, a1, a2, a3, a4, a5, a6, a7⟩ := HTA3.out
      obtain ⟨b0, b1, b2, b3, b4, b5, b6, b7⟩ := HTB3.out
      go_upto_region 10 with (go_at_call 22; refine (KSP.out _ Y3.out).mono ?_; rintro e w4 ⟨rfl, x4⟩)
      have Y4 := Lib.hid ((Y3.out.alloc _).trans x4)
      have HTA4 := Lib.hid ((HTA3.out.ext ((Ext.refl _).alloc _)).ext x4)
      clear x4 a0 a1 a2 a3 a4 a5 a6 a7 b0 b1 b2 b3 b4 b5 b6 b7
      obtain ⟨a0, a1, a2, a3, a4, a5, a6, a7⟩ := HTA4.out
      go_upto_region 11 with fail
      clear a0 a1 a2 a3 a4 a5 a6 a7
      have KSF := Lib.hid (KSF.out w4 _ Y4.out (Ext.refl _))
      have KMF := Lib.hid (fun W' h => KMF.out w4 W' Y4.out h)
      have Y5 := Lib.hid ((Y4.out.alloc (.cells #[.int .u8 x.k, .int .u8 x.op, .int .i64 x.pos, .int .i64 x.n, .string x.name, .string x.arg, .string x.exn, .slice a n c] 28)).alloc (.cells #[.int .u8 11, .int .u8 0, .int .i64 0, .int .i64 0, .string ⟨#[]⟩, .string s, .string ⟨#[]⟩, .slice (some ⟨w4.heap.size, 0, none⟩) 1 1] 28))
      have BF := Lib.hid (Blk.new (w4.alloc (.cells #[.int .u8 x.k, .int .u8 x.op, .int .i64 x.pos, .int .i64 x.n, .string x.name, .string x.arg, .string x.exn, .slice a n c] 28)) 28 #[.int .u8 11, .int .u8 0, .int .i64 0, .int .i64 0, .string ⟨#[]⟩, .string s, .string ⟨#[]⟩, .slice (some ⟨w4.heap.size, 0, none⟩) 1 1])
      obtain ⟨W5, hW5⟩ : ∃ W5, W5 = (w4.alloc (.cells #[.int .u8 x.k, .int .u8 x.op, .int .i64 x.pos, .int .i64 x.n, .string x.name, .string x.arg, .string x.exn, .slice a n c] 28)).alloc (.cells #[.int .u8 11, .int .u8 0, .int .i64 0, .int .i64 0, .string ⟨#[]⟩, .string s, .string ⟨#[]⟩, .slice (some ⟨w4.heap.size, 0, none⟩) 1 1] 28) := ⟨_, rfl⟩
      rw [← hW5] at KSF KMF Y5 BF ⊢
      rw [World.size_alloc] at BF
      clear hW5
      obtain ⟨c0, c1, c2, c3, c4, c5, c6, c7⟩ := BF.out.eight
      go_upto_region 12 with (go_at_call 22; refine (KSF.out).mono ?_; rintro e w6 ⟨rfl, x6⟩)
      clear c0 c1 c2 c3 c4 c5 c6 c7
      have Y6 := Lib.hid (Y5.out.trans x6)
      have KMF := Lib.hid (KMF.out w6 x6)
      obtain ⟨c0, c1, c2, c3, c4, c5, c6, c7⟩ := (BF.out.ext x6).eight
      clear x6
      go_wp2_with (first | (go_at_call 14; refine (KMF.out).mono ?_; rintro e w7 ⟨rfl, x7⟩) | (go_at_call 21; refine (KA.out _ (Y6.out.trans x7)).mono ?_; rintro e w8 ⟨rfl, x8⟩))
      go_ret
      exact ⟨rfl, Y6.out.trans (x7.trans x8)⟩
  all_goals
    have HHL := Lib.hid (And.intro hz1 hz2)
    have HHG := Lib.hid (And.intro h1 trivial)
    try have hsum : (400 : Int) < ((Tm.mk x ks).size : Int) + ((Tm.mk y ls).size : Int) := by omega
    try have hsum : ((Tm.mk x ks).size : Int) + ((Tm.mk y ls).size : Int) ≤ 400 := by omega
    try have h4' : (100 : Int) < (s.size : Int) := by omega
    have HZ1 := Lib.hid hz1
    have HZ2 := Lib.hid hz2
    rw [h1] at KG1
    try rw [h2] at KG2
    try have HQ1 := Lib.hid (hz1 h1)
    try have HQ2 := Lib.hid (hz2 h2)
    try have hwr : IntKind.i64.wrap (((Tm.mk x ks).size : Int) + ((Tm.mk y ls).size : Int)) = ((Tm.mk x ks).size : Int) + ((Tm.mk y ls).size : Int) := IntWalk.i64_in _ ⟨by have := HQ1.out; have := HQ2.out; omega, by have := HQ1.out; have := HQ2.out; omega⟩
    generalize hsz1 : (Tm.mk x ks).size = sz1 at *
    generalize hsz2 : (Tm.mk y ls).size = sz2 at *
    clear gf gf' gl gl' hz1 hz2 hs hW0 y0 TA TB hsz1 hsz2 ht hu hk htab
    try clear h1
    try clear h2
    try clear h3
    try clear h4
    go_enter Tryz.func7, Tryz.ntmps7
    go_upto_region 1 with fail
    rw [← HW0.out]
    go_cut [36] (fun s36 wx => s36 = .bool true ∧ Ext W0 wx)
    case first =>
      obtain ⟨a0, a1, a2, a3, a4, a5, a6, a7⟩ := HTA.out
      obtain ⟨b0, b1, b2, b3, b4, b5, b6, b7⟩ := HTB.out
      have d0 := fun W (h : Ext W0 W) => h.cell a0
      have d1 := fun W (h : Ext W0 W) => h.cell a1
      have d2 := fun W (h : Ext W0 W) => h.cell a2
      have d3 := fun W (h : Ext W0 W) => h.cell a3
      have d4 := fun W (h : Ext W0 W) => h.cell a4
      have d5 := fun W (h : Ext W0 W) => h.cell a5
      have d6 := fun W (h : Ext W0 W) => h.cell a6
      have d7 := fun W (h : Ext W0 W) => h.cell a7
      have f0 := fun W (h : Ext W0 W) => h.cell b0
      have f1 := fun W (h : Ext W0 W) => h.cell b1
      have f2 := fun W (h : Ext W0 W) => h.cell b2
      have f3 := fun W (h : Ext W0 W) => h.cell b3
      have f4 := fun W (h : Ext W0 W) => h.cell b4
      have f5 := fun W (h : Ext W0 W) => h.cell b5
      have f6 := fun W (h : Ext W0 W) => h.cell b6
      have f7 := fun W (h : Ext W0 W) => h.cell b7
      clear a0 a1 a2 a3 a4 a5 a6 a7 b0 b1 b2 b3 b4 b5 b6 b7
      have HD9 : Hid (decide ((400 : Int) < 0) = false) := Lib.hid (by decide)
      try replace HD9 : Hid (decide ((400 : Int) < (sz1 : Int) + (sz2 : Int)) = false) := Lib.hid (decide_eq_false (by omega))
      try replace HD9 : Hid (decide ((400 : Int) < (sz1 : Int) + (sz2 : Int)) = true) := Lib.hid (decide_eq_true (by omega))
      refine wp_region_held_drew (S := fun w' => Ext W0 w') (by kernel_rfl) (by (try dsimp only); (exact eX)) (fun hHeld => ?_)
      refine tK 0 (v := ?_) ?_ ?_;rotate_left;(focus (intro w hSw;(try dsimp only at hSw);go_simp;(try with_reducible rfl)));try simp only [Act.put,pA,pB,pC,HD9.out]
      refine held_do 1 rfl (by kernel_rfl) (by rfl) (fun K hK => ?_); go_simp; (first | (go_at_call 20; (first | (with_reducible refine (KG1.out _ (HY0.out.trans (by (exact eX)))).mono ?_) | (with_reducible refine (KG2.out _ (HY0.out.trans (by (exact eX)))).mono ?_)); rintro e wn ⟨rfl, xn⟩)); (try (focus (go_wp2_with fail))); refine hK.out _ _ (by (try dsimp only); (exact eX)) (fun hHeld => ?_); clear hK K; try simp only [Act.put,pA,pB,pC,HD9.out]
      refine tK 2 (v := ?_) ?_ ?_;rotate_left;(focus (intro w hSw;(try dsimp only at hSw);go_simp;(try with_reducible rfl)));try simp only [Act.put,pA,pB,pC,HD9.out]
      first | (refine tK 3 (v := ?_) ?_ ?_;rotate_left;(focus (intro w hSw;(try dsimp only at hSw);go_simp;(try with_reducible rfl)));try simp only [Act.put,pA,pB,pC,HD9.out]) | (refine held_skip 3 rfl (by kernel_rfl) (by kernel_rfl) (by kernel_rfl) (fun _ _ _ h => h) (by assumption) (by rfl) ?_; try simp only [Act.put,pA,pB,pC,HD9.out])
      first | (refine held_skip 4 rfl (by kernel_rfl) (by kernel_rfl) (by kernel_rfl) (fun _ _ _ h => h) (by assumption) (by rfl) ?_; try simp only [Act.put,pA,pB,pC,HD9.out]) | (refine held_do 4 rfl (by kernel_rfl) (by rfl) (fun K hK => ?_); go_simp; (first | (go_at_call 20; (first | (with_reducible refine (KG1.out _ (HY0.out.trans (by (exact eX)))).mono ?_) | (with_reducible refine (KG2.out _ (HY0.out.trans (by (exact eX)))).mono ?_)); rintro e wn ⟨rfl, xn⟩)); (try (focus (go_wp2_with fail))); refine hK.out _ _ (by (try dsimp only); (exact eX)) (fun hHeld => ?_); clear hK K; try simp only [Act.put,pA,pB,pC,HD9.out])
      refine tK 5 (v := ?_) ?_ ?_;rotate_left;(focus (intro w hSw;(try dsimp only at hSw);go_simp;(try with_reducible rfl)));try simp only [Act.put,pA,pB,pC,HD9.out]
      refine tK 6 (v := ?_) ?_ ?_;rotate_left;(focus (intro w hSw;(try dsimp only at hSw);go_simp;(try with_reducible rfl)));try simp only [Act.put,pA,pB,pC,HD9.out]
      first | (refine tK 7 (v := ?_) ?_ ?_;rotate_left;(focus (intro w hSw;(try dsimp only at hSw);go_simp;(try with_reducible rfl)));try simp only [Act.put,pA,pB,pC,HD9.out]) | (refine held_skip 7 rfl (by kernel_rfl) (by kernel_rfl) (by kernel_rfl) (fun _ _ _ h => h) (by assumption) (by rfl) ?_; try simp only [Act.put,pA,pB,pC,HD9.out])
      first | (refine tK 10 (v := ?_) ?_ ?_;rotate_left;(focus (intro w hSw;(try dsimp only at hSw);go_simp;(try with_reducible rfl)));try simp only [Act.put,pA,pB,pC,HD9.out]) | (refine held_skip 10 rfl (by kernel_rfl) (by kernel_rfl) (by kernel_rfl) (fun _ _ _ h => h) (by assumption) (by rfl) ?_; try simp only [Act.put,pA,pB,pC,HD9.out])
      first | (refine held_skip 8 rfl (by kernel_rfl) (by kernel_rfl) (by kernel_rfl) (fun _ _ _ h => h) (by assumption) (by rfl) ?_; try simp only [Act.put,pA,pB,pC,HD9.out]) | (refine held_do 8 rfl (by kernel_rfl) (by rfl) (fun K hK => ?_); go_simp; (first | (go_at_call 13; (first | (with_reducible refine (KL1.out _ (HY0.out.trans (by (exact eX))) HQ1.out).mono ?_) | (with_reducible refine (KL2.out _ (HY0.out.trans (by (exact eX))) HQ2.out).mono ?_)); rintro e wn ⟨vv, ys, rfl, ho2, hf2, xn⟩; (first | rw [HAL1.out] at ho2 | rw [HAL2.out] at ho2); obtain ⟨gg2, cap2, rfl, -, -, -, -, -⟩ := owns_open ho2 (by assumption); clear ho2 hf2)); (try (focus (go_wp2_with fail))); refine hK.out _ _ (by (try dsimp only); (exact eX)) (fun hHeld => ?_); clear hK K; try simp only [Act.put,pA,pB,pC,HD9.out])
      first | (refine tK 9 (v := ?_) ?_ ?_;rotate_left;(focus (intro w hSw;(try dsimp only at hSw);go_simp;(try with_reducible rfl)));try simp only [Act.put,pA,pB,pC,HD9.out]) | (refine held_skip 9 rfl (by kernel_rfl) (by kernel_rfl) (by kernel_rfl) (fun _ _ _ h => h) (by assumption) (by rfl) ?_; try simp only [Act.put,pA,pB,pC,HD9.out])
      first | (refine held_skip 11 rfl (by kernel_rfl) (by kernel_rfl) (by kernel_rfl) (fun _ _ _ h => h) (by assumption) (by rfl) ?_; try simp only [Act.put,pA,pB,pC,HD9.out]) | (refine held_do 11 rfl (by kernel_rfl) (by rfl) (fun K hK => ?_); go_simp; (first | (go_at_call 13; (first | (with_reducible refine (KL1.out _ (HY0.out.trans (by (exact eX))) HQ1.out).mono ?_) | (with_reducible refine (KL2.out _ (HY0.out.trans (by (exact eX))) HQ2.out).mono ?_)); rintro e wn ⟨vv, ys, rfl, ho2, hf2, xn⟩; (first | rw [HAL1.out] at ho2 | rw [HAL2.out] at ho2); obtain ⟨gg2, cap2, rfl, -, -, -, -, -⟩ := owns_open ho2 (by assumption); clear ho2 hf2)); (try (focus (go_wp2_with fail))); refine hK.out _ _ (by (try dsimp only); (exact eX)) (fun hHeld => ?_); clear hK K; try simp only [Act.put,pA,pB,pC,HD9.out])
      first | (refine tK 12 (v := ?_) ?_ ?_;rotate_left;(focus (intro w hSw;(try dsimp only at hSw);go_simp;(try with_reducible rfl)));try simp only [Act.put,pA,pB,pC,HD9.out]) | (refine held_skip 12 rfl (by kernel_rfl) (by kernel_rfl) (by kernel_rfl) (fun _ _ _ h => h) (by assumption) (by rfl) ?_; try simp only [Act.put,pA,pB,pC,HD9.out])
      first | (refine tK 13 (v := ?_) ?_ ?_;rotate_left;(focus (intro w hSw;(try dsimp only at hSw);go_simp;(try with_reducible rfl)));try simp only [Act.put,pA,pB,pC,HD9.out]) | (refine held_skip 13 rfl (by kernel_rfl) (by kernel_rfl) (by kernel_rfl) (fun _ _ _ h => h) (by assumption) (by rfl) ?_; try simp only [Act.put,pA,pB,pC,HD9.out])
      first | (refine tK 14 (v := ?_) ?_ ?_;rotate_left;(focus (intro w hSw;(try dsimp only at hSw);go_simp;(try with_reducible rfl)));try simp only [Act.put,pA,pB,pC,HD9.out]) | (refine held_skip 14 rfl (by kernel_rfl) (by kernel_rfl) (by kernel_rfl) (fun _ _ _ h => h) (by assumption) (by rfl) ?_; try simp only [Act.put,pA,pB,pC,HD9.out])
      refine tK 15 (v := ?_) ?_ ?_;rotate_left;(focus (intro w hSw;(try dsimp only at hSw);go_simp;(try with_reducible rfl)));try simp only [Act.put,pA,pB,pC,HD9.out]
      refine tK 16 (v := ?_) ?_ ?_;rotate_left;(focus (intro w hSw;(try dsimp only at hSw);go_simp;(try with_reducible rfl)));try simp only [Act.put,pA,pB,pC,HD9.out]
      first | (refine tK 17 (v := ?_) ?_ ?_;rotate_left;(focus (intro w hSw;(try dsimp only at hSw);go_simp;(try with_reducible rfl)));try simp only [Act.put,pA,pB,pC,HD9.out]) | (refine held_skip 17 rfl (by kernel_rfl) (by kernel_rfl) (by kernel_rfl) (fun _ _ _ h => h) (by assumption) (by rfl) ?_; try simp only [Act.put,pA,pB,pC,HD9.out])
      first | (refine tK 18 (v := ?_) ?_ ?_;rotate_left;(focus (intro w hSw;(try dsimp only at hSw);go_simp;(try with_reducible rfl)));try simp only [Act.put,pA,pB,pC,HD9.out]) | (refine held_skip 18 rfl (by kernel_rfl) (by kernel_rfl) (by kernel_rfl) (fun _ _ _ h => h) (by assumption) (by rfl) ?_; try simp only [Act.put,pA,pB,pC,HD9.out])
      first | (refine tK 19 (v := ?_) ?_ ?_;rotate_left;(focus (intro w hSw;(try dsimp only at hSw);go_simp;(try with_reducible rfl)));try simp only [Act.put,pA,pB,pC,HD9.out]) | (refine held_skip 19 rfl (by kernel_rfl) (by kernel_rfl) (by kernel_rfl) (fun _ _ _ h => h) (by assumption) (by rfl) ?_; try simp only [Act.put,pA,pB,pC,HD9.out])
      refine tK 20 (v := ?_) ?_ ?_;rotate_left;(focus (intro w hSw;(try dsimp only at hSw);go_simp;(try with_reducible rfl)));try simp only [Act.put,pA,pB,pC,HD9.out]
      refine wpAnyH_done (by kernel_rfl) ?_ _
      all_goals
        go_wp2_with fail
        go_meet
        exact ⟨rfl, hHeld⟩
    case rest =>
    obtain ⟨rfl, xc⟩ := hcut
    have Y1 := Lib.hid (HY0.out.trans xc)
    clear xc
    go_wp2_with (go_at_call 21; refine (KA.out _ Y1.out).mono ?_; rintro e w8 ⟨rfl, x8⟩)
    go_ret
    exact ⟨rfl, Y1.out.trans x8⟩
end Go.Proofs.YtaioeailgknfjaaGreatDoor
