/- Part 43 of the proof: Ref06b; no condition of ours. -/
import Derived.Test.YtaioeailgknfjaaGreatDoorPkp42
set_option linter.unusedVariables false
set_option linter.unusedSimpArgs false
namespace Go.Proofs.YtaioeailgknfjaaGreatDoor
open Go.Lib (hid)
open Go Go.RowKit Go.Sort
theorem kw_ne {t : Tm} (h : t.wk ≠ []) {p : Nat} : t.kw p ≠ [] := by
  unfold Tm.kw
  split
  · simp
  · exact h
theorem kw_ok {t : Tm} (hn : ∀ u, u ∈ t.all → u.node = true) (p : Nat) : ∀ w, w ∈ t.kw p → WkOk w := fun w hw => by
  unfold Tm.kw at hw
  split at hw
  · simp only [List.mem_cons, List.mem_append, List.not_mem_nil, or_false] at hw
    rcases hw with rfl | hw | rfl
    · exact ok_const _ (by simp [constW])
    · exact words_ok t hn w hw
    · exact ok_const _ (by simp [constW])
  · exact words_ok t hn w hw
theorem text_size {t : Tm} (hn : ∀ u, u ∈ t.all → u.node = true) (hs : t.size ≤ 1000000) (p : Nat) : (bs (joinW (t.kw p))).size ≤ 200000000 := by
  rw [bs_size]
  have h1 := joinW_len _ (kw_ok hn p)
  have h2 := kw_size (wk_size t hn) p
  omega
theorem name_size {s : ByteArray} (h : isName s = true) : s.size ≤ 16 := by
  obtain ⟨c, r, hx, -, h16⟩ := ok_name h
  have := congrArg List.length hx
  rw [Array.length_toList] at this
  have h2 : s.size = s.data.size := rfl
  simp only at this
  omega
theorem exn_size {s : ByteArray} (h : isExn s = true) : s.size ≤ 16 := by
  obtain ⟨c, r, hx, -, h16⟩ := ok_exn h
  have := congrArg List.length hx
  rw [Array.length_toList] at this
  have h2 : s.size = s.data.size := rfl
  simp only at this
  omega
structure KidIn (w : World) (b o : Nat) (y : Hd) (ky : List Tm) (a : Option Addr) (n c : Nat) : Prop where
  c0 : w.cell? ⟨b, o, none⟩ = some (.int .u8 y.k)
  c1 : w.cell? ⟨b, o + 1, none⟩ = some (.int .u8 y.op)
  c2 : w.cell? ⟨b, o + 2, none⟩ = some (.int .i64 y.pos)
  c3 : w.cell? ⟨b, o + 3, none⟩ = some (.int .i64 y.n)
  c4 : w.cell? ⟨b, o + 4, none⟩ = some (.string y.name)
  c5 : w.cell? ⟨b, o + 5, none⟩ = some (.string y.arg)
  c6 : w.cell? ⟨b, o + 6, none⟩ = some (.string y.exn)
  c7 : w.cell? ⟨b, o + 7, none⟩ = some (.slice a n c)
  tm : IsTm w (.mk y ky) (.agg #[.int .u8 y.k, .int .u8 y.op, .int .i64 y.pos, .int .i64 y.n, .string y.name, .string y.arg, .string y.exn, .slice a n c])
theorem kid_any {w : World} {ks : List Tm} {aa : Option Addr} {n : Nat} (h : IsTmsA NoA w ks aa n) {i : Nat} {y : Hd} {ky : List Tm} (hi : ks[i]? = some (.mk y ky)) : ∃ b o a n' c, aa = some ⟨b, o, none⟩ ∧ KidIn w b (o + i * 8) y ky a n' c := by
  obtain ⟨b, o, e, hA, hT⟩ := h.place hi
  obtain ⟨a, n', c, hd, c7, hf, h1, h2, hk⟩ := hT.val
  exact ⟨b, o, a, n', c, e, hd.c0, hd.c1, hd.c2, hd.c3, hd.c4, hd.c5, hd.c6, c7, IsTmA.mk_ hk h1 h2 hf⟩
theorem KidIn.ext {w w' : World} {b o : Nat} {y : Hd} {ky : List Tm} {a : Option Addr} {n c : Nat} (h : KidIn w b o y ky a n c) (hx : Ext w w') : KidIn w' b o y ky a n c :=
  ⟨hx.cell h.c0, hx.cell h.c1, hx.cell h.c2, hx.cell h.c3, hx.cell h.c4, hx.cell h.c5, hx.cell h.c6, hx.cell h.c7, h.tm.ext hx⟩
set_option maxRecDepth 60000 in
set_option maxHeartbeats 4000000 in
theorem text_var (N : Nat) (hT : TextT N) (x : Hd) (w : World) (a : Option Addr) (c : Nat) (hk : x.k = 2) (ok : NodeOk x []) (ht : IsTmsA NoA w [] a 0) :
    Calls Tryz.prog 23 #[.agg #[.int .u8 x.k, .int .u8 x.op, .int .i64 x.pos, .int .i64 x.n, .string x.name, .string x.arg, .string x.exn, .slice a 0 c]] w fun e w' => e = .returned (.string (bs (joinW (Tm.mk x []).wk))) ∧ Ext w w' := by
  have HE : bs (joinW (Tm.mk x []).wk) = x.name := by
    rw [wk_2 hk]
    refine bs_ext2 ?_
    simp [ByteArray.data_append, bs_list, joinW_cons, joinW_append, joinW, w_fst, w_snd, w_ref, w_raise, w_fn, w_let, w_letrec, w_if, w_try, w_in, w_then, w_else, w_with, s_eq, s_to, s_set, s_plus, s_minus, s_star, s_less, s_bang, s_open, s_shut, s_comma]
  have s_name : x.name.size ≤ 16 := name_size (ok.name1 (by simp [Hd.hasName, hk]))
  rw [HE, hk]
  have HE9 : True := trivial
  clear HE9
  clear hT ht HE hk ok
  go_enter Tryz.func23, Tryz.ntmps23
  go_upto_region 3 with fail
  have B1 := (Blk.new w 28 #[.int .u8 2, .int .u8 x.op, .int .i64 x.pos, .int .i64 x.n, .string x.name, .string x.arg, .string x.exn, .slice a 0 c]).alloc (.cells #[.string ⟨#[43]⟩, .string ⟨#[45]⟩, .string ⟨#[42]⟩, .string ⟨#[60]⟩, .string ⟨#[61]⟩] 9)
  have Y1 : Ext w ((w.alloc (.cells #[.int .u8 2, .int .u8 x.op, .int .i64 x.pos, .int .i64 x.n, .string x.name, .string x.arg, .string x.exn, .slice a 0 c] 28)).alloc (.cells #[.string ⟨#[43]⟩, .string ⟨#[45]⟩, .string ⟨#[42]⟩, .string ⟨#[60]⟩, .string ⟨#[61]⟩] 9)) := by (exact eX)
  generalize (w.alloc (.cells #[.int .u8 2, .int .u8 x.op, .int .i64 x.pos, .int .i64 x.n, .string x.name, .string x.arg, .string x.exn, .slice a 0 c] 28)).alloc (.cells #[.string ⟨#[43]⟩, .string ⟨#[45]⟩, .string ⟨#[42]⟩, .string ⟨#[60]⟩, .string ⟨#[61]⟩] 9) = W1 at *
  obtain ⟨d0, d1, d2, d3, d4, d5, d6, d7⟩ := B1.eight
  have HY := hid Y1
  clear Y1 B1
  go_wp2_with fail
  go_ret
  exact ⟨rfl, HY.out⟩
set_option maxRecDepth 60000 in
set_option maxHeartbeats 4000000 in
theorem text_pair (N : Nat) (hT : TextT N) (x : Hd) (y0 : Hd) (k0 : List Tm) (y1 : Hd) (k1 : List Tm) (w : World) (a : Option Addr) (c : Nat) (hk : x.k = 3) (ok : NodeOk x [.mk y0 k0, .mk y1 k1]) (hs0 : (Tm.mk y0 k0).size ≤ N) (hz0 : (Tm.mk y0 k0).size ≤ 1000000) (hn0 : ∀ u, u ∈ (Tm.mk y0 k0).all → u.node = true) (hs1 : (Tm.mk y1 k1).size ≤ N) (hz1 : (Tm.mk y1 k1).size ≤ 1000000) (hn1 : ∀ u, u ∈ (Tm.mk y1 k1).all → u.node = true) (ht : IsTmsA NoA w [.mk y0 k0, .mk y1 k1] a 2) :
    Calls Tryz.prog 23 #[.agg #[.int .u8 x.k, .int .u8 x.op, .int .i64 x.pos, .int .i64 x.n, .string x.name, .string x.arg, .string x.exn, .slice a 2 c]] w fun e w' => e = .returned (.string (bs (joinW (Tm.mk x [.mk y0 k0, .mk y1 k1]).wk))) ∧ Ext w w' := by
  have ne0 := wk_pos _ hn0
  have nk0 := fun p => kw_ne (p := p) ne0
  have ne1 := wk_pos _ hn1
  have nk1 := fun p => kw_ne (p := p) ne1
  have HE : bs (joinW (Tm.mk x [.mk y0 k0, .mk y1 k1]).wk) = ((((⟨#[40, 32]⟩ ++ bs (joinW ((Tm.mk y0 k0).kw 0))) ++ ⟨#[32, 44, 32]⟩) ++ bs (joinW ((Tm.mk y1 k1).kw 0))) ++ ⟨#[32, 41]⟩) := by
    rw [wk_3 hk]
    refine bs_ext2 ?_
    simp [ByteArray.data_append, bs_list, joinW_cons, joinW_append, joinW, w_fst, w_snd, w_ref, w_raise, w_fn, w_let, w_letrec, w_if, w_try, w_in, w_then, w_else, w_with, s_eq, s_to, s_set, s_plus, s_minus, s_star, s_less, s_bang, s_open, s_shut, s_comma, ne0, nk0, ne1, nk1, Tm.kw0,]
  have sz0 : (bs (joinW ((Tm.mk y0 k0).kw 0))).size ≤ 200000000 := text_size hn0 hz0 _
  have KK0 : Hid (∀ W a1 n1 c1, IsTm W (.mk y0 k0) (.agg #[.int .u8 y0.k, .int .u8 y0.op, .int .i64 y0.pos, .int .i64 y0.n, .string y0.name, .string y0.arg, .string y0.exn, .slice a1 n1 c1]) → Calls Tryz.prog 51 #[.agg #[.int .u8 y0.k, .int .u8 y0.op, .int .i64 y0.pos, .int .i64 y0.n, .string y0.name, .string y0.arg, .string y0.exn, .slice a1 n1 c1], .int .i64 0] W fun e w' => e = .returned (.string (bs (joinW ((Tm.mk y0 k0).kw 0)))) ∧ Ext W w') := hid fun W a1 n1 c1 t1 => ref6_as N hT y0 k0 0 W a1 n1 c1 hs0 hz0 hn0 t1
  have sz1 : (bs (joinW ((Tm.mk y1 k1).kw 0))).size ≤ 200000000 := text_size hn1 hz1 _
  have KK1 : Hid (∀ W a1 n1 c1, IsTm W (.mk y1 k1) (.agg #[.int .u8 y1.k, .int .u8 y1.op, .int .i64 y1.pos, .int .i64 y1.n, .string y1.name, .string y1.arg, .string y1.exn, .slice a1 n1 c1]) → Calls Tryz.prog 51 #[.agg #[.int .u8 y1.k, .int .u8 y1.op, .int .i64 y1.pos, .int .i64 y1.n, .string y1.name, .string y1.arg, .string y1.exn, .slice a1 n1 c1], .int .i64 0] W fun e w' => e = .returned (.string (bs (joinW ((Tm.mk y1 k1).kw 0)))) ∧ Ext W w') := hid fun W a1 n1 c1 t1 => ref6_as N hT y1 k1 0 W a1 n1 c1 hs1 hz1 hn1 t1
  rw [HE, hk]
  have HE9 : True := trivial
  clear HE9
  generalize bs (joinW ((Tm.mk y0 k0).kw 0)) = X0 at *
  generalize bs (joinW ((Tm.mk y1 k1).kw 0)) = X1 at *
  obtain ⟨b, o, a0, n0, c0, rfl, q0⟩ := kid_any (i := 0) ht rfl
  obtain ⟨b', o', a1, n1, c1, e9, q1⟩ := kid_any (i := 1) ht rfl
  cases e9
  have n0_ : ¬ 9223372036854775807 < 2 + X0.size := by omega
  have n1_ : ¬ 9223372036854775807 < 2 + X0.size + 3 := by omega
  have n2_ : ¬ 9223372036854775807 < 2 + X0.size + 3 + X1.size := by omega
  have n3_ : ¬ 9223372036854775807 < 2 + X0.size + 3 + X1.size + 2 := by omega
  clear hT ht HE hk ok hs0 hn0 hz0 ne0 nk0 hs1 hn1 hz1 ne1 nk1
  go_enter Tryz.func23, Tryz.ntmps23
  go_upto_region 3 with fail
  have B1 := (Blk.new w 28 #[.int .u8 3, .int .u8 x.op, .int .i64 x.pos, .int .i64 x.n, .string x.name, .string x.arg, .string x.exn, .slice (some ⟨b, o, none⟩) 2 c]).alloc (.cells #[.string ⟨#[43]⟩, .string ⟨#[45]⟩, .string ⟨#[42]⟩, .string ⟨#[60]⟩, .string ⟨#[61]⟩] 9)
  have Y1 : Ext w ((w.alloc (.cells #[.int .u8 3, .int .u8 x.op, .int .i64 x.pos, .int .i64 x.n, .string x.name, .string x.arg, .string x.exn, .slice (some ⟨b, o, none⟩) 2 c] 28)).alloc (.cells #[.string ⟨#[43]⟩, .string ⟨#[45]⟩, .string ⟨#[42]⟩, .string ⟨#[60]⟩, .string ⟨#[61]⟩] 9)) := by (exact eX)
  have q0 := q0.ext Y1
  have q1 := q1.ext Y1
  generalize (w.alloc (.cells #[.int .u8 3, .int .u8 x.op, .int .i64 x.pos, .int .i64 x.n, .string x.name, .string x.arg, .string x.exn, .slice (some ⟨b, o, none⟩) 2 c] 28)).alloc (.cells #[.string ⟨#[43]⟩, .string ⟨#[45]⟩, .string ⟨#[42]⟩, .string ⟨#[60]⟩, .string ⟨#[61]⟩] 9) = W1 at *
  obtain ⟨d0, d1, d2, d3, d4, d5, d6, d7⟩ := B1.eight
  have m00 := q0.c0
  have m01 := q0.c1
  have m02 := q0.c2
  have m03 := q0.c3
  have m04 := q0.c4
  have m05 := q0.c5
  have m06 := q0.c6
  have m07 := q0.c7
  simp only [Nat.zero_mul, Nat.add_zero, Nat.one_mul, Nat.reduceMul] at m00 m01 m02 m03 m04 m05 m06 m07
  have m10 := q1.c0
  have m11 := q1.c1
  have m12 := q1.c2
  have m13 := q1.c3
  have m14 := q1.c4
  have m15 := q1.c5
  have m16 := q1.c6
  have m17 := q1.c7
  simp only [Nat.zero_mul, Nat.add_zero, Nat.one_mul, Nat.reduceMul] at m10 m11 m12 m13 m14 m15 m16 m17
  have HY := hid Y1
  have T0 := hid q0.tm
  clear q0
  have T1 := hid q1.tm
  clear q1
  clear Y1 B1
  go_upto_region 9 with fail
  have Rd0 := cells_regrown d0
  have Rd1 := cells_regrown d1
  have Rd2 := cells_regrown d2
  have Rd3 := cells_regrown d3
  have Rd4 := cells_regrown d4
  have Rd5 := cells_regrown d5
  have Rd6 := cells_regrown d6
  have Rd7 := cells_regrown d7
  have Rm00 := cells_regrown m00
  have Rm01 := cells_regrown m01
  have Rm02 := cells_regrown m02
  have Rm03 := cells_regrown m03
  have Rm04 := cells_regrown m04
  have Rm05 := cells_regrown m05
  have Rm06 := cells_regrown m06
  have Rm07 := cells_regrown m07
  have Rm10 := cells_regrown m10
  have Rm11 := cells_regrown m11
  have Rm12 := cells_regrown m12
  have Rm13 := cells_regrown m13
  have Rm14 := cells_regrown m14
  have Rm15 := cells_regrown m15
  have Rm16 := cells_regrown m16
  have Rm17 := cells_regrown m17
  have Q0 := quiet_ext (w := W1) fun w1 h1 => KK0.out w1 a0 n0 c0 (T0.out.ext h1)
  have Q1 := quiet_ext (w := W1) fun w1 h1 => KK1.out w1 a1 n1 c1 (T1.out.ext h1)
  clear d0 d1 d2 d3 d4 d5 d6 d7 m00 m01 m02 m03 m04 m05 m06 m07 m10 m11 m12 m13 m14 m15 m16 m17
  refine wp_region_quiet_below (by kernel_rfl) (by kernel_rfl) ?_
  repeat (go_big_quiet_step ((first | with_reducible exact Q0 _ _ | with_reducible exact Q1 _ _)))
  refine wpQuiet_nil ?_
  intro w5 hq_w5
  have x5 := ext_of_regrown hq_w5
  clear hq_w5
  go_wp2_with fail
  go_ret
  exact ⟨rfl, HY.out.trans x5⟩
set_option maxRecDepth 60000 in
set_option maxHeartbeats 4000000 in
theorem text_pre4 (N : Nat) (hT : TextT N) (x : Hd) (y0 : Hd) (k0 : List Tm) (w : World) (a : Option Addr) (c : Nat) (hk : x.k = 4) (ok : NodeOk x [.mk y0 k0]) (hs0 : (Tm.mk y0 k0).size ≤ N) (hz0 : (Tm.mk y0 k0).size ≤ 1000000) (hn0 : ∀ u, u ∈ (Tm.mk y0 k0).all → u.node = true) (ht : IsTmsA NoA w [.mk y0 k0] a 1) :
    Calls Tryz.prog 23 #[.agg #[.int .u8 x.k, .int .u8 x.op, .int .i64 x.pos, .int .i64 x.n, .string x.name, .string x.arg, .string x.exn, .slice a 1 c]] w fun e w' => e = .returned (.string (bs (joinW (Tm.mk x [.mk y0 k0]).wk))) ∧ Ext w w' := by
  have ne0 := wk_pos _ hn0
  have nk0 := fun p => kw_ne (p := p) ne0
  have HE : bs (joinW (Tm.mk x [.mk y0 k0]).wk) = (⟨#[102, 115, 116, 32]⟩ ++ bs (joinW ((Tm.mk y0 k0).kw 6))) := by
    rw [wk_pre (by omega)]
    refine bs_ext2 ?_
    simp [ByteArray.data_append, bs_list, joinW_cons, joinW_append, joinW, w_fst, w_snd, w_ref, w_raise, w_fn, w_let, w_letrec, w_if, w_try, w_in, w_then, w_else, w_with, s_eq, s_to, s_set, s_plus, s_minus, s_star, s_less, s_bang, s_open, s_shut, s_comma, ne0, nk0, hk, preW]
  have sz0 : (bs (joinW ((Tm.mk y0 k0).kw 6))).size ≤ 200000000 := text_size hn0 hz0 _
  have KK0 : Hid (∀ W a1 n1 c1, IsTm W (.mk y0 k0) (.agg #[.int .u8 y0.k, .int .u8 y0.op, .int .i64 y0.pos, .int .i64 y0.n, .string y0.name, .string y0.arg, .string y0.exn, .slice a1 n1 c1]) → Calls Tryz.prog 51 #[.agg #[.int .u8 y0.k, .int .u8 y0.op, .int .i64 y0.pos, .int .i64 y0.n, .string y0.name, .string y0.arg, .string y0.exn, .slice a1 n1 c1], .int .i64 6] W fun e w' => e = .returned (.string (bs (joinW ((Tm.mk y0 k0).kw 6)))) ∧ Ext W w') := hid fun W a1 n1 c1 t1 => ref6_as N hT y0 k0 6 W a1 n1 c1 hs0 hz0 hn0 t1
  rw [HE, hk]
  have HE9 : True := trivial
  clear HE9
  generalize bs (joinW ((Tm.mk y0 k0).kw 6)) = X0 at *
  obtain ⟨b, o, a0, n0, c0, rfl, q0⟩ := kid_any (i := 0) ht rfl
  have n0_ : ¬ 9223372036854775807 < 4 + X0.size := by omega
  clear hT ht HE hk ok hs0 hn0 hz0 ne0 nk0
  go_enter Tryz.func23, Tryz.ntmps23
  go_upto_region 3 with fail
  have B1 := (Blk.new w 28 #[.int .u8 4, .int .u8 x.op, .int .i64 x.pos, .int .i64 x.n, .string x.name, .string x.arg, .string x.exn, .slice (some ⟨b, o, none⟩) 1 c]).alloc (.cells #[.string ⟨#[43]⟩, .string ⟨#[45]⟩, .string ⟨#[42]⟩, .string ⟨#[60]⟩, .string ⟨#[61]⟩] 9)
  have Y1 : Ext w ((w.alloc (.cells #[.int .u8 4, .int .u8 x.op, .int .i64 x.pos, .int .i64 x.n, .string x.name, .string x.arg, .string x.exn, .slice (some ⟨b, o, none⟩) 1 c] 28)).alloc (.cells #[.string ⟨#[43]⟩, .string ⟨#[45]⟩, .string ⟨#[42]⟩, .string ⟨#[60]⟩, .string ⟨#[61]⟩] 9)) := by (exact eX)
  have q0 := q0.ext Y1
  generalize (w.alloc (.cells #[.int .u8 4, .int .u8 x.op, .int .i64 x.pos, .int .i64 x.n, .string x.name, .string x.arg, .string x.exn, .slice (some ⟨b, o, none⟩) 1 c] 28)).alloc (.cells #[.string ⟨#[43]⟩, .string ⟨#[45]⟩, .string ⟨#[42]⟩, .string ⟨#[60]⟩, .string ⟨#[61]⟩] 9) = W1 at *
  obtain ⟨d0, d1, d2, d3, d4, d5, d6, d7⟩ := B1.eight
  have m00 := q0.c0
  have m01 := q0.c1
  have m02 := q0.c2
  have m03 := q0.c3
  have m04 := q0.c4
  have m05 := q0.c5
  have m06 := q0.c6
  have m07 := q0.c7
  simp only [Nat.zero_mul, Nat.add_zero, Nat.one_mul, Nat.reduceMul] at m00 m01 m02 m03 m04 m05 m06 m07
  have HY := hid Y1
  have T0 := hid q0.tm
  clear q0
  clear Y1 B1
  go_wp2_with (go_at_call 51; refine (KK0.out _ _ _ _ T0.out).mono ?_; rintro e w5 ⟨rfl, x5⟩)
  go_ret
  exact ⟨rfl, HY.out.trans x5⟩
set_option maxRecDepth 60000 in
set_option maxHeartbeats 4000000 in
theorem text_pre5 (N : Nat) (hT : TextT N) (x : Hd) (y0 : Hd) (k0 : List Tm) (w : World) (a : Option Addr) (c : Nat) (hk : x.k = 5) (ok : NodeOk x [.mk y0 k0]) (hs0 : (Tm.mk y0 k0).size ≤ N) (hz0 : (Tm.mk y0 k0).size ≤ 1000000) (hn0 : ∀ u, u ∈ (Tm.mk y0 k0).all → u.node = true) (ht : IsTmsA NoA w [.mk y0 k0] a 1) :
    Calls Tryz.prog 23 #[.agg #[.int .u8 x.k, .int .u8 x.op, .int .i64 x.pos, .int .i64 x.n, .string x.name, .string x.arg, .string x.exn, .slice a 1 c]] w fun e w' => e = .returned (.string (bs (joinW (Tm.mk x [.mk y0 k0]).wk))) ∧ Ext w w' := by
  have ne0 := wk_pos _ hn0
  have nk0 := fun p => kw_ne (p := p) ne0
  have HE : bs (joinW (Tm.mk x [.mk y0 k0]).wk) = (⟨#[115, 110, 100, 32]⟩ ++ bs (joinW ((Tm.mk y0 k0).kw 6))) := by
    rw [wk_pre (by omega)]
    refine bs_ext2 ?_
    simp [ByteArray.data_append, bs_list, joinW_cons, joinW_append, joinW, w_fst, w_snd, w_ref, w_raise, w_fn, w_let, w_letrec, w_if, w_try, w_in, w_then, w_else, w_with, s_eq, s_to, s_set, s_plus, s_minus, s_star, s_less, s_bang, s_open, s_shut, s_comma, ne0, nk0, hk, preW]
  have sz0 : (bs (joinW ((Tm.mk y0 k0).kw 6))).size ≤ 200000000 := text_size hn0 hz0 _
  have KK0 : Hid (∀ W a1 n1 c1, IsTm W (.mk y0 k0) (.agg #[.int .u8 y0.k, .int .u8 y0.op, .int .i64 y0.pos, .int .i64 y0.n, .string y0.name, .string y0.arg, .string y0.exn, .slice a1 n1 c1]) → Calls Tryz.prog 51 #[.agg #[.int .u8 y0.k, .int .u8 y0.op, .int .i64 y0.pos, .int .i64 y0.n, .string y0.name, .string y0.arg, .string y0.exn, .slice a1 n1 c1], .int .i64 6] W fun e w' => e = .returned (.string (bs (joinW ((Tm.mk y0 k0).kw 6)))) ∧ Ext W w') := hid fun W a1 n1 c1 t1 => ref6_as N hT y0 k0 6 W a1 n1 c1 hs0 hz0 hn0 t1
  rw [HE, hk]
  have HE9 : True := trivial
  clear HE9
  generalize bs (joinW ((Tm.mk y0 k0).kw 6)) = X0 at *
  obtain ⟨b, o, a0, n0, c0, rfl, q0⟩ := kid_any (i := 0) ht rfl
  have n0_ : ¬ 9223372036854775807 < 4 + X0.size := by omega
  clear hT ht HE hk ok hs0 hn0 hz0 ne0 nk0
  go_enter Tryz.func23, Tryz.ntmps23
  go_upto_region 3 with fail
  have B1 := (Blk.new w 28 #[.int .u8 5, .int .u8 x.op, .int .i64 x.pos, .int .i64 x.n, .string x.name, .string x.arg, .string x.exn, .slice (some ⟨b, o, none⟩) 1 c]).alloc (.cells #[.string ⟨#[43]⟩, .string ⟨#[45]⟩, .string ⟨#[42]⟩, .string ⟨#[60]⟩, .string ⟨#[61]⟩] 9)
  have Y1 : Ext w ((w.alloc (.cells #[.int .u8 5, .int .u8 x.op, .int .i64 x.pos, .int .i64 x.n, .string x.name, .string x.arg, .string x.exn, .slice (some ⟨b, o, none⟩) 1 c] 28)).alloc (.cells #[.string ⟨#[43]⟩, .string ⟨#[45]⟩, .string ⟨#[42]⟩, .string ⟨#[60]⟩, .string ⟨#[61]⟩] 9)) := by (exact eX)
  have q0 := q0.ext Y1
  generalize (w.alloc (.cells #[.int .u8 5, .int .u8 x.op, .int .i64 x.pos, .int .i64 x.n, .string x.name, .string x.arg, .string x.exn, .slice (some ⟨b, o, none⟩) 1 c] 28)).alloc (.cells #[.string ⟨#[43]⟩, .string ⟨#[45]⟩, .string ⟨#[42]⟩, .string ⟨#[60]⟩, .string ⟨#[61]⟩] 9) = W1 at *
  obtain ⟨d0, d1, d2, d3, d4, d5, d6, d7⟩ := B1.eight
  have m00 := q0.c0
  have m01 := q0.c1
  have m02 := q0.c2
  have m03 := q0.c3
  have m04 := q0.c4
  have m05 := q0.c5
  have m06 := q0.c6
  have m07 := q0.c7
  simp only [Nat.zero_mul, Nat.add_zero, Nat.one_mul, Nat.reduceMul] at m00 m01 m02 m03 m04 m05 m06 m07
  have HY := hid Y1
  have T0 := hid q0.tm
  clear q0
  clear Y1 B1
  go_wp2_with (go_at_call 51; refine (KK0.out _ _ _ _ T0.out).mono ?_; rintro e w5 ⟨rfl, x5⟩)
  go_ret
  exact ⟨rfl, HY.out.trans x5⟩
set_option maxRecDepth 60000 in
set_option maxHeartbeats 4000000 in
theorem text_pre6 (N : Nat) (hT : TextT N) (x : Hd) (y0 : Hd) (k0 : List Tm) (w : World) (a : Option Addr) (c : Nat) (hk : x.k = 6) (ok : NodeOk x [.mk y0 k0]) (hs0 : (Tm.mk y0 k0).size ≤ N) (hz0 : (Tm.mk y0 k0).size ≤ 1000000) (hn0 : ∀ u, u ∈ (Tm.mk y0 k0).all → u.node = true) (ht : IsTmsA NoA w [.mk y0 k0] a 1) :
    Calls Tryz.prog 23 #[.agg #[.int .u8 x.k, .int .u8 x.op, .int .i64 x.pos, .int .i64 x.n, .string x.name, .string x.arg, .string x.exn, .slice a 1 c]] w fun e w' => e = .returned (.string (bs (joinW (Tm.mk x [.mk y0 k0]).wk))) ∧ Ext w w' := by
  have ne0 := wk_pos _ hn0
  have nk0 := fun p => kw_ne (p := p) ne0
  have HE : bs (joinW (Tm.mk x [.mk y0 k0]).wk) = (⟨#[114, 101, 102, 32]⟩ ++ bs (joinW ((Tm.mk y0 k0).kw 6))) := by
    rw [wk_pre (by omega)]
    refine bs_ext2 ?_
    simp [ByteArray.data_append, bs_list, joinW_cons, joinW_append, joinW, w_fst, w_snd, w_ref, w_raise, w_fn, w_let, w_letrec, w_if, w_try, w_in, w_then, w_else, w_with, s_eq, s_to, s_set, s_plus, s_minus, s_star, s_less, s_bang, s_open, s_shut, s_comma, ne0, nk0, hk, preW]
  have sz0 : (bs (joinW ((Tm.mk y0 k0).kw 6))).size ≤ 200000000 := text_size hn0 hz0 _
  have KK0 : Hid (∀ W a1 n1 c1, IsTm W (.mk y0 k0) (.agg #[.int .u8 y0.k, .int .u8 y0.op, .int .i64 y0.pos, .int .i64 y0.n, .string y0.name, .string y0.arg, .string y0.exn, .slice a1 n1 c1]) → Calls Tryz.prog 51 #[.agg #[.int .u8 y0.k, .int .u8 y0.op, .int .i64 y0.pos, .int .i64 y0.n, .string y0.name, .string y0.arg, .string y0.exn, .slice a1 n1 c1], .int .i64 6] W fun e w' => e = .returned (.string (bs (joinW ((Tm.mk y0 k0).kw 6)))) ∧ Ext W w') := hid fun W a1 n1 c1 t1 => ref6_as N hT y0 k0 6 W a1 n1 c1 hs0 hz0 hn0 t1
  rw [HE, hk]
  have HE9 : True := trivial
  clear HE9
  generalize bs (joinW ((Tm.mk y0 k0).kw 6)) = X0 at *
  obtain ⟨b, o, a0, n0, c0, rfl, q0⟩ := kid_any (i := 0) ht rfl
  have n0_ : ¬ 9223372036854775807 < 4 + X0.size := by omega
  clear hT ht HE hk ok hs0 hn0 hz0 ne0 nk0
  go_enter Tryz.func23, Tryz.ntmps23
  go_upto_region 3 with fail
  have B1 := (Blk.new w 28 #[.int .u8 6, .int .u8 x.op, .int .i64 x.pos, .int .i64 x.n, .string x.name, .string x.arg, .string x.exn, .slice (some ⟨b, o, none⟩) 1 c]).alloc (.cells #[.string ⟨#[43]⟩, .string ⟨#[45]⟩, .string ⟨#[42]⟩, .string ⟨#[60]⟩, .string ⟨#[61]⟩] 9)
  have Y1 : Ext w ((w.alloc (.cells #[.int .u8 6, .int .u8 x.op, .int .i64 x.pos, .int .i64 x.n, .string x.name, .string x.arg, .string x.exn, .slice (some ⟨b, o, none⟩) 1 c] 28)).alloc (.cells #[.string ⟨#[43]⟩, .string ⟨#[45]⟩, .string ⟨#[42]⟩, .string ⟨#[60]⟩, .string ⟨#[61]⟩] 9)) := by (exact eX)
  have q0 := q0.ext Y1
  generalize (w.alloc (.cells #[.int .u8 6, .int .u8 x.op, .int .i64 x.pos, .int .i64 x.n, .string x.name, .string x.arg, .string x.exn, .slice (some ⟨b, o, none⟩) 1 c] 28)).alloc (.cells #[.string ⟨#[43]⟩, .string ⟨#[45]⟩, .string ⟨#[42]⟩, .string ⟨#[60]⟩, .string ⟨#[61]⟩] 9) = W1 at *
  obtain ⟨d0, d1, d2, d3, d4, d5, d6, d7⟩ := B1.eight
  have m00 := q0.c0
  have m01 := q0.c1
  have m02 := q0.c2
  have m03 := q0.c3
  have m04 := q0.c4
  have m05 := q0.c5
  have m06 := q0.c6
  have m07 := q0.c7
  simp only [Nat.zero_mul, Nat.add_zero, Nat.one_mul, Nat.reduceMul] at m00 m01 m02 m03 m04 m05 m06 m07
  have HY := hid Y1
  have T0 := hid q0.tm
  clear q0
  clear Y1 B1
  go_wp2_with (go_at_call 51; refine (KK0.out _ _ _ _ T0.out).mono ?_; rintro e w5 ⟨rfl, x5⟩)
  go_ret
  exact ⟨rfl, HY.out.trans x5⟩
set_option maxRecDepth 60000 in
set_option maxHeartbeats 4000000 in
theorem text_pre7 (N : Nat) (hT : TextT N) (x : Hd) (y0 : Hd) (k0 : List Tm) (w : World) (a : Option Addr) (c : Nat) (hk : x.k = 7) (ok : NodeOk x [.mk y0 k0]) (hs0 : (Tm.mk y0 k0).size ≤ N) (hz0 : (Tm.mk y0 k0).size ≤ 1000000) (hn0 : ∀ u, u ∈ (Tm.mk y0 k0).all → u.node = true) (ht : IsTmsA NoA w [.mk y0 k0] a 1) :
    Calls Tryz.prog 23 #[.agg #[.int .u8 x.k, .int .u8 x.op, .int .i64 x.pos, .int .i64 x.n, .string x.name, .string x.arg, .string x.exn, .slice a 1 c]] w fun e w' => e = .returned (.string (bs (joinW (Tm.mk x [.mk y0 k0]).wk))) ∧ Ext w w' := by
  have ne0 := wk_pos _ hn0
  have nk0 := fun p => kw_ne (p := p) ne0
  have HE : bs (joinW (Tm.mk x [.mk y0 k0]).wk) = (⟨#[33, 32]⟩ ++ bs (joinW ((Tm.mk y0 k0).kw 6))) := by
    rw [wk_pre (by omega)]
    refine bs_ext2 ?_
    simp [ByteArray.data_append, bs_list, joinW_cons, joinW_append, joinW, w_fst, w_snd, w_ref, w_raise, w_fn, w_let, w_letrec, w_if, w_try, w_in, w_then, w_else, w_with, s_eq, s_to, s_set, s_plus, s_minus, s_star, s_less, s_bang, s_open, s_shut, s_comma, ne0, nk0, hk, preW]
  have sz0 : (bs (joinW ((Tm.mk y0 k0).kw 6))).size ≤ 200000000 := text_size hn0 hz0 _
  have KK0 : Hid (∀ W a1 n1 c1, IsTm W (.mk y0 k0) (.agg #[.int .u8 y0.k, .int .u8 y0.op, .int .i64 y0.pos, .int .i64 y0.n, .string y0.name, .string y0.arg, .string y0.exn, .slice a1 n1 c1]) → Calls Tryz.prog 51 #[.agg #[.int .u8 y0.k, .int .u8 y0.op, .int .i64 y0.pos, .int .i64 y0.n, .string y0.name, .string y0.arg, .string y0.exn, .slice a1 n1 c1], .int .i64 6] W fun e w' => e = .returned (.string (bs (joinW ((Tm.mk y0 k0).kw 6)))) ∧ Ext W w') := hid fun W a1 n1 c1 t1 => ref6_as N hT y0 k0 6 W a1 n1 c1 hs0 hz0 hn0 t1
  rw [HE, hk]
  have HE9 : True := trivial
  clear HE9
  generalize bs (joinW ((Tm.mk y0 k0).kw 6)) = X0 at *
  obtain ⟨b, o, a0, n0, c0, rfl, q0⟩ := kid_any (i := 0) ht rfl
  have n0_ : ¬ 9223372036854775807 < 2 + X0.size := by omega
  clear hT ht HE hk ok hs0 hn0 hz0 ne0 nk0
  go_enter Tryz.func23, Tryz.ntmps23
  go_upto_region 3 with fail
  have B1 := (Blk.new w 28 #[.int .u8 7, .int .u8 x.op, .int .i64 x.pos, .int .i64 x.n, .string x.name, .string x.arg, .string x.exn, .slice (some ⟨b, o, none⟩) 1 c]).alloc (.cells #[.string ⟨#[43]⟩, .string ⟨#[45]⟩, .string ⟨#[42]⟩, .string ⟨#[60]⟩, .string ⟨#[61]⟩] 9)
  have Y1 : Ext w ((w.alloc (.cells #[.int .u8 7, .int .u8 x.op, .int .i64 x.pos, .int .i64 x.n, .string x.name, .string x.arg, .string x.exn, .slice (some ⟨b, o, none⟩) 1 c] 28)).alloc (.cells #[.string ⟨#[43]⟩, .string ⟨#[45]⟩, .string ⟨#[42]⟩, .string ⟨#[60]⟩, .string ⟨#[61]⟩] 9)) := by (exact eX)
  have q0 := q0.ext Y1
  generalize (w.alloc (.cells #[.int .u8 7, .int .u8 x.op, .int .i64 x.pos, .int .i64 x.n, .string x.name, .string x.arg, .string x.exn, .slice (some ⟨b, o, none⟩) 1 c] 28)).alloc (.cells #[.string ⟨#[43]⟩, .string ⟨#[45]⟩, .string ⟨#[42]⟩, .string ⟨#[60]⟩, .string ⟨#[61]⟩] 9) = W1 at *
  obtain ⟨d0, d1, d2, d3, d4, d5, d6, d7⟩ := B1.eight
  have m00 := q0.c0
  have m01 := q0.c1
  have m02 := q0.c2
  have m03 := q0.c3
  have m04 := q0.c4
  have m05 := q0.c5
  have m06 := q0.c6
  have m07 := q0.c7
  simp only [Nat.zero_mul, Nat.add_zero, Nat.one_mul, Nat.reduceMul] at m00 m01 m02 m03 m04 m05 m06 m07
  have HY := hid Y1
  have T0 := hid q0.tm
  clear q0
  clear Y1 B1
  go_wp2_with (go_at_call 51; refine (KK0.out _ _ _ _ T0.out).mono ?_; rintro e w5 ⟨rfl, x5⟩)
  go_ret
  exact ⟨rfl, HY.out.trans x5⟩
set_option maxRecDepth 60000 in
set_option maxHeartbeats 4000000 in
theorem text_set (N : Nat) (hT : TextT N) (x : Hd) (y0 : Hd) (k0 : List Tm) (y1 : Hd) (k1 : List Tm) (w : World) (a : Option Addr) (c : Nat) (hk : x.k = 8) (ok : NodeOk x [.mk y0 k0, .mk y1 k1]) (hs0 : (Tm.mk y0 k0).size ≤ N) (hz0 : (Tm.mk y0 k0).size ≤ 1000000) (hn0 : ∀ u, u ∈ (Tm.mk y0 k0).all → u.node = true) (hs1 : (Tm.mk y1 k1).size ≤ N) (hz1 : (Tm.mk y1 k1).size ≤ 1000000) (hn1 : ∀ u, u ∈ (Tm.mk y1 k1).all → u.node = true) (ht : IsTmsA NoA w [.mk y0 k0, .mk y1 k1] a 2) :
    Calls Tryz.prog 23 #[.agg #[.int .u8 x.k, .int .u8 x.op, .int .i64 x.pos, .int .i64 x.n, .string x.name, .string x.arg, .string x.exn, .slice a 2 c]] w fun e w' => e = .returned (.string (bs (joinW (Tm.mk x [.mk y0 k0, .mk y1 k1]).wk))) ∧ Ext w w' := by
  have ne0 := wk_pos _ hn0
  have nk0 := fun p => kw_ne (p := p) ne0
  have ne1 := wk_pos _ hn1
  have nk1 := fun p => kw_ne (p := p) ne1
  have HE : bs (joinW (Tm.mk x [.mk y0 k0, .mk y1 k1]).wk) = ((bs (joinW ((Tm.mk y0 k0).kw 2)) ++ ⟨#[32, 58, 61, 32]⟩) ++ bs (joinW ((Tm.mk y1 k1).kw 2))) := by
    rw [wk_8 hk]
    refine bs_ext2 ?_
    simp [ByteArray.data_append, bs_list, joinW_cons, joinW_append, joinW, w_fst, w_snd, w_ref, w_raise, w_fn, w_let, w_letrec, w_if, w_try, w_in, w_then, w_else, w_with, s_eq, s_to, s_set, s_plus, s_minus, s_star, s_less, s_bang, s_open, s_shut, s_comma, ne0, nk0, ne1, nk1]
  have sz0 : (bs (joinW ((Tm.mk y0 k0).kw 2))).size ≤ 200000000 := text_size hn0 hz0 _
  have KK0 : Hid (∀ W a1 n1 c1, IsTm W (.mk y0 k0) (.agg #[.int .u8 y0.k, .int .u8 y0.op, .int .i64 y0.pos, .int .i64 y0.n, .string y0.name, .string y0.arg, .string y0.exn, .slice a1 n1 c1]) → Calls Tryz.prog 51 #[.agg #[.int .u8 y0.k, .int .u8 y0.op, .int .i64 y0.pos, .int .i64 y0.n, .string y0.name, .string y0.arg, .string y0.exn, .slice a1 n1 c1], .int .i64 2] W fun e w' => e = .returned (.string (bs (joinW ((Tm.mk y0 k0).kw 2)))) ∧ Ext W w') := hid fun W a1 n1 c1 t1 => ref6_as N hT y0 k0 2 W a1 n1 c1 hs0 hz0 hn0 t1
  have sz1 : (bs (joinW ((Tm.mk y1 k1).kw 2))).size ≤ 200000000 := text_size hn1 hz1 _
  have KK1 : Hid (∀ W a1 n1 c1, IsTm W (.mk y1 k1) (.agg #[.int .u8 y1.k, .int .u8 y1.op, .int .i64 y1.pos, .int .i64 y1.n, .string y1.name, .string y1.arg, .string y1.exn, .slice a1 n1 c1]) → Calls Tryz.prog 51 #[.agg #[.int .u8 y1.k, .int .u8 y1.op, .int .i64 y1.pos, .int .i64 y1.n, .string y1.name, .string y1.arg, .string y1.exn, .slice a1 n1 c1], .int .i64 2] W fun e w' => e = .returned (.string (bs (joinW ((Tm.mk y1 k1).kw 2)))) ∧ Ext W w') := hid fun W a1 n1 c1 t1 => ref6_as N hT y1 k1 2 W a1 n1 c1 hs1 hz1 hn1 t1
  rw [HE, hk]
  have HE9 : True := trivial
  clear HE9
  generalize bs (joinW ((Tm.mk y0 k0).kw 2)) = X0 at *
  generalize bs (joinW ((Tm.mk y1 k1).kw 2)) = X1 at *
  obtain ⟨b, o, a0, n0, c0, rfl, q0⟩ := kid_any (i := 0) ht rfl
  obtain ⟨b', o', a1, n1, c1, e9, q1⟩ := kid_any (i := 1) ht rfl
  cases e9
  have n0_ : ¬ 9223372036854775807 < X0.size + 4 := by omega
  have n1_ : ¬ 9223372036854775807 < X0.size + 4 + X1.size := by omega
  clear hT ht HE hk ok hs0 hn0 hz0 ne0 nk0 hs1 hn1 hz1 ne1 nk1
  go_enter Tryz.func23, Tryz.ntmps23
  go_upto_region 3 with fail
  have B1 := (Blk.new w 28 #[.int .u8 8, .int .u8 x.op, .int .i64 x.pos, .int .i64 x.n, .string x.name, .string x.arg, .string x.exn, .slice (some ⟨b, o, none⟩) 2 c]).alloc (.cells #[.string ⟨#[43]⟩, .string ⟨#[45]⟩, .string ⟨#[42]⟩, .string ⟨#[60]⟩, .string ⟨#[61]⟩] 9)
  have Y1 : Ext w ((w.alloc (.cells #[.int .u8 8, .int .u8 x.op, .int .i64 x.pos, .int .i64 x.n, .string x.name, .string x.arg, .string x.exn, .slice (some ⟨b, o, none⟩) 2 c] 28)).alloc (.cells #[.string ⟨#[43]⟩, .string ⟨#[45]⟩, .string ⟨#[42]⟩, .string ⟨#[60]⟩, .string ⟨#[61]⟩] 9)) := by (exact eX)
  have q0 := q0.ext Y1
  have q1 := q1.ext Y1
  generalize (w.alloc (.cells #[.int .u8 8, .int .u8 x.op, .int .i64 x.pos, .int .i64 x.n, .string x.name, .string x.arg, .string x.exn, .slice (some ⟨b, o, none⟩) 2 c] 28)).alloc (.cells #[.string ⟨#[43]⟩, .string ⟨#[45]⟩, .string ⟨#[42]⟩, .string ⟨#[60]⟩, .string ⟨#[61]⟩] 9) = W1 at *
  obtain ⟨d0, d1, d2, d3, d4, d5, d6, d7⟩ := B1.eight
  have m00 := q0.c0
  have m01 := q0.c1
  have m02 := q0.c2
  have m03 := q0.c3
  have m04 := q0.c4
  have m05 := q0.c5
  have m06 := q0.c6
  have m07 := q0.c7
  simp only [Nat.zero_mul, Nat.add_zero, Nat.one_mul, Nat.reduceMul] at m00 m01 m02 m03 m04 m05 m06 m07
  have m10 := q1.c0
  have m11 := q1.c1
  have m12 := q1.c2
  have m13 := q1.c3
  have m14 := q1.c4
  have m15 := q1.c5
  have m16 := q1.c6
  have m17 := q1.c7
  simp only [Nat.zero_mul, Nat.add_zero, Nat.one_mul, Nat.reduceMul] at m10 m11 m12 m13 m14 m15 m16 m17
  have HY := hid Y1
  have T0 := hid q0.tm
  clear q0
  have T1 := hid q1.tm
  clear q1
  clear Y1 B1
  go_upto_region 19 with fail
  have Rd0 := cells_regrown d0
  have Rd1 := cells_regrown d1
  have Rd2 := cells_regrown d2
  have Rd3 := cells_regrown d3
  have Rd4 := cells_regrown d4
  have Rd5 := cells_regrown d5
  have Rd6 := cells_regrown d6
  have Rd7 := cells_regrown d7
  have Rm00 := cells_regrown m00
  have Rm01 := cells_regrown m01
  have Rm02 := cells_regrown m02
  have Rm03 := cells_regrown m03
  have Rm04 := cells_regrown m04
  have Rm05 := cells_regrown m05
  have Rm06 := cells_regrown m06
  have Rm07 := cells_regrown m07
  have Rm10 := cells_regrown m10
  have Rm11 := cells_regrown m11
  have Rm12 := cells_regrown m12
  have Rm13 := cells_regrown m13
  have Rm14 := cells_regrown m14
  have Rm15 := cells_regrown m15
  have Rm16 := cells_regrown m16
  have Rm17 := cells_regrown m17
  have Q0 := quiet_ext (w := W1) fun w1 h1 => KK0.out w1 a0 n0 c0 (T0.out.ext h1)
  have Q1 := quiet_ext (w := W1) fun w1 h1 => KK1.out w1 a1 n1 c1 (T1.out.ext h1)
  clear d0 d1 d2 d3 d4 d5 d6 d7 m00 m01 m02 m03 m04 m05 m06 m07 m10 m11 m12 m13 m14 m15 m16 m17
  refine wp_region_quiet_below (by kernel_rfl) (by kernel_rfl) ?_
  repeat (go_big_quiet_step ((first | with_reducible exact Q0 _ _ | with_reducible exact Q1 _ _)))
  refine wpQuiet_nil ?_
  intro w5 hq_w5
  have x5 := ext_of_regrown hq_w5
  clear hq_w5
  go_wp2_with fail
  go_ret
  exact ⟨rfl, HY.out.trans x5⟩
set_option maxRecDepth 60000 in
set_option maxHeartbeats 4000000 in
theorem text_op1 (N : Nat) (hT : TextT N) (x : Hd) (y0 : Hd) (k0 : List Tm) (y1 : Hd) (k1 : List Tm) (w : World) (a : Option Addr) (c : Nat) (hk : x.k = 9) (hop : x.op = 1) (ok : NodeOk x [.mk y0 k0, .mk y1 k1]) (hs0 : (Tm.mk y0 k0).size ≤ N) (hz0 : (Tm.mk y0 k0).size ≤ 1000000) (hn0 : ∀ u, u ∈ (Tm.mk y0 k0).all → u.node = true) (hs1 : (Tm.mk y1 k1).size ≤ N) (hz1 : (Tm.mk y1 k1).size ≤ 1000000) (hn1 : ∀ u, u ∈ (Tm.mk y1 k1).all → u.node = true) (ht : IsTmsA NoA w [.mk y0 k0, .mk y1 k1] a 2) :
    Calls Tryz.prog 23 #[.agg #[.int .u8 x.k, .int .u8 x.op, .int .i64 x.pos, .int .i64 x.n, .string x.name, .string x.arg, .string x.exn, .slice a 2 c]] w fun e w' => e = .returned (.string (bs (joinW (Tm.mk x [.mk y0 k0, .mk y1 k1]).wk))) ∧ Ext w w' := by
  have ne0 := wk_pos _ hn0
  have nk0 := fun p => kw_ne (p := p) ne0
  have ne1 := wk_pos _ hn1
  have nk1 := fun p => kw_ne (p := p) ne1
  have HE : bs (joinW (Tm.mk x [.mk y0 k0, .mk y1 k1]).wk) = ((((bs (joinW ((Tm.mk y0 k0).kw 3)) ++ ⟨#[32]⟩) ++ ⟨#[43]⟩) ++ ⟨#[32]⟩) ++ bs (joinW ((Tm.mk y1 k1).kw 4))) := by
    rw [wk_9 hk]
    refine bs_ext2 ?_
    simp [ByteArray.data_append, bs_list, joinW_cons, joinW_append, joinW, w_fst, w_snd, w_ref, w_raise, w_fn, w_let, w_letrec, w_if, w_try, w_in, w_then, w_else, w_with, s_eq, s_to, s_set, s_plus, s_minus, s_star, s_less, s_bang, s_open, s_shut, s_comma, ne0, nk0, ne1, nk1, hop, opS, looseT]
  have sz0 : (bs (joinW ((Tm.mk y0 k0).kw 3))).size ≤ 200000000 := text_size hn0 hz0 _
  have KK0 : Hid (∀ W a1 n1 c1, IsTm W (.mk y0 k0) (.agg #[.int .u8 y0.k, .int .u8 y0.op, .int .i64 y0.pos, .int .i64 y0.n, .string y0.name, .string y0.arg, .string y0.exn, .slice a1 n1 c1]) → Calls Tryz.prog 51 #[.agg #[.int .u8 y0.k, .int .u8 y0.op, .int .i64 y0.pos, .int .i64 y0.n, .string y0.name, .string y0.arg, .string y0.exn, .slice a1 n1 c1], .int .i64 3] W fun e w' => e = .returned (.string (bs (joinW ((Tm.mk y0 k0).kw 3)))) ∧ Ext W w') := hid fun W a1 n1 c1 t1 => ref6_as N hT y0 k0 3 W a1 n1 c1 hs0 hz0 hn0 t1
  have sz1 : (bs (joinW ((Tm.mk y1 k1).kw 4))).size ≤ 200000000 := text_size hn1 hz1 _
  have KK1 : Hid (∀ W a1 n1 c1, IsTm W (.mk y1 k1) (.agg #[.int .u8 y1.k, .int .u8 y1.op, .int .i64 y1.pos, .int .i64 y1.n, .string y1.name, .string y1.arg, .string y1.exn, .slice a1 n1 c1]) → Calls Tryz.prog 51 #[.agg #[.int .u8 y1.k, .int .u8 y1.op, .int .i64 y1.pos, .int .i64 y1.n, .string y1.name, .string y1.arg, .string y1.exn, .slice a1 n1 c1], .int .i64 4] W fun e w' => e = .returned (.string (bs (joinW ((Tm.mk y1 k1).kw 4)))) ∧ Ext W w') := hid fun W a1 n1 c1 t1 => ref6_as N hT y1 k1 4 W a1 n1 c1 hs1 hz1 hn1 t1
  rw [HE, hk, hop]
  have HE9 : True := trivial
  clear HE9
  generalize bs (joinW ((Tm.mk y0 k0).kw 3)) = X0 at *
  generalize bs (joinW ((Tm.mk y1 k1).kw 4)) = X1 at *
  obtain ⟨b, o, a0, n0, c0, rfl, q0⟩ := kid_any (i := 0) ht rfl
  obtain ⟨b', o', a1, n1, c1, e9, q1⟩ := kid_any (i := 1) ht rfl
  cases e9
  have n0_ : ¬ 9223372036854775807 < X0.size + 1 := by omega
  have n1_ : ¬ 9223372036854775807 < X0.size + 1 + 1 := by omega
  have n2_ : ¬ 9223372036854775807 < X0.size + 1 + 1 + 1 := by omega
  have n3_ : ¬ 9223372036854775807 < X0.size + 1 + 1 + 1 + X1.size := by omega
  clear hT ht HE hk ok hop hs0 hn0 hz0 ne0 nk0 hs1 hn1 hz1 ne1 nk1
  go_enter Tryz.func23, Tryz.ntmps23
  go_upto_region 3 with fail
  have B1 := (Blk.new w 28 #[.int .u8 9, .int .u8 1, .int .i64 x.pos, .int .i64 x.n, .string x.name, .string x.arg, .string x.exn, .slice (some ⟨b, o, none⟩) 2 c]).alloc (.cells #[.string ⟨#[43]⟩, .string ⟨#[45]⟩, .string ⟨#[42]⟩, .string ⟨#[60]⟩, .string ⟨#[61]⟩] 9)
  have Y1 : Ext w ((w.alloc (.cells #[.int .u8 9, .int .u8 1, .int .i64 x.pos, .int .i64 x.n, .string x.name, .string x.arg, .string x.exn, .slice (some ⟨b, o, none⟩) 2 c] 28)).alloc (.cells #[.string ⟨#[43]⟩, .string ⟨#[45]⟩, .string ⟨#[42]⟩, .string ⟨#[60]⟩, .string ⟨#[61]⟩] 9)) := by (exact eX)
  have q0 := q0.ext Y1
  have q1 := q1.ext Y1
  have b5 := Blk.new (w.alloc (.cells #[.int .u8 9, .int .u8 1, .int .i64 x.pos, .int .i64 x.n, .string x.name, .string x.arg, .string x.exn, .slice (some ⟨b, o, none⟩) 2 c] 28)) 9 #[.string ⟨#[43]⟩, .string ⟨#[45]⟩, .string ⟨#[42]⟩, .string ⟨#[60]⟩, .string ⟨#[61]⟩]
  rw [World.size_alloc] at b5
  generalize (w.alloc (.cells #[.int .u8 9, .int .u8 1, .int .i64 x.pos, .int .i64 x.n, .string x.name, .string x.arg, .string x.exn, .slice (some ⟨b, o, none⟩) 2 c] 28)).alloc (.cells #[.string ⟨#[43]⟩, .string ⟨#[45]⟩, .string ⟨#[42]⟩, .string ⟨#[60]⟩, .string ⟨#[61]⟩] 9) = W1 at *
  obtain ⟨d0, d1, d2, d3, d4, d5, d6, d7⟩ := B1.eight
  have m00 := q0.c0
  have m01 := q0.c1
  have m02 := q0.c2
  have m03 := q0.c3
  have m04 := q0.c4
  have m05 := q0.c5
  have m06 := q0.c6
  have m07 := q0.c7
  simp only [Nat.zero_mul, Nat.add_zero, Nat.one_mul, Nat.reduceMul] at m00 m01 m02 m03 m04 m05 m06 m07
  have m10 := q1.c0
  have m11 := q1.c1
  have m12 := q1.c2
  have m13 := q1.c3
  have m14 := q1.c4
  have m15 := q1.c5
  have m16 := q1.c6
  have m17 := q1.c7
  simp only [Nat.zero_mul, Nat.add_zero, Nat.one_mul, Nat.reduceMul] at m10 m11 m12 m13 m14 m15 m16 m17
  have f5 := b5.cell 0
  simp at f5
  have HY := hid Y1
  have T0 := hid q0.tm
  clear q0
  have T1 := hid q1.tm
  clear q1
  clear Y1 B1 b5
  go_upto_region 26 with fail
  have Rd0 := cells_regrown d0
  have Rd1 := cells_regrown d1
  have Rd2 := cells_regrown d2
  have Rd3 := cells_regrown d3
  have Rd4 := cells_regrown d4
  have Rd5 := cells_regrown d5
  have Rd6 := cells_regrown d6
  have Rd7 := cells_regrown d7
  have Rm00 := cells_regrown m00
  have Rm01 := cells_regrown m01
  have Rm02 := cells_regrown m02
  have Rm03 := cells_regrown m03
  have Rm04 := cells_regrown m04
  have Rm05 := cells_regrown m05
  have Rm06 := cells_regrown m06
  have Rm07 := cells_regrown m07
  have Rm10 := cells_regrown m10
  have Rm11 := cells_regrown m11
  have Rm12 := cells_regrown m12
  have Rm13 := cells_regrown m13
  have Rm14 := cells_regrown m14
  have Rm15 := cells_regrown m15
  have Rm16 := cells_regrown m16
  have Rm17 := cells_regrown m17
  have Rf := cells_regrown f5
  have Q0 := quiet_ext (w := W1) fun w1 h1 => KK0.out w1 a0 n0 c0 (T0.out.ext h1)
  have Q1 := quiet_ext (w := W1) fun w1 h1 => KK1.out w1 a1 n1 c1 (T1.out.ext h1)
  clear d0 d1 d2 d3 d4 d5 d6 d7 m00 m01 m02 m03 m04 m05 m06 m07 m10 m11 m12 m13 m14 m15 m16 m17 f5
  refine wp_region_quiet_below (by kernel_rfl) (by kernel_rfl) ?_
  repeat (go_big_quiet_step ((first | with_reducible exact Q0 _ _ | with_reducible exact Q1 _ _)))
  refine wpQuiet_nil ?_
  intro w5 hq_w5
  have x5 := ext_of_regrown hq_w5
  clear hq_w5
  go_wp2_with fail
  go_ret
  exact ⟨rfl, HY.out.trans x5⟩
set_option maxRecDepth 60000 in
set_option maxHeartbeats 4000000 in
theorem text_op2 (N : Nat) (hT : TextT N) (x : Hd) (y0 : Hd) (k0 : List Tm) (y1 : Hd) (k1 : List Tm) (w : World) (a : Option Addr) (c : Nat) (hk : x.k = 9) (hop : x.op = 2) (ok : NodeOk x [.mk y0 k0, .mk y1 k1]) (hs0 : (Tm.mk y0 k0).size ≤ N) (hz0 : (Tm.mk y0 k0).size ≤ 1000000) (hn0 : ∀ u, u ∈ (Tm.mk y0 k0).all → u.node = true) (hs1 : (Tm.mk y1 k1).size ≤ N) (hz1 : (Tm.mk y1 k1).size ≤ 1000000) (hn1 : ∀ u, u ∈ (Tm.mk y1 k1).all → u.node = true) (ht : IsTmsA NoA w [.mk y0 k0, .mk y1 k1] a 2) :
    Calls Tryz.prog 23 #[.agg #[.int .u8 x.k, .int .u8 x.op, .int .i64 x.pos, .int .i64 x.n, .string x.name, .string x.arg, .string x.exn, .slice a 2 c]] w fun e w' => e = .returned (.string (bs (joinW (Tm.mk x [.mk y0 k0, .mk y1 k1]).wk))) ∧ Ext w w' := by
  have ne0 := wk_pos _ hn0
  have nk0 := fun p => kw_ne (p := p) ne0
  have ne1 := wk_pos _ hn1
  have nk1 := fun p => kw_ne (p := p) ne1
  have HE : bs (joinW (Tm.mk x [.mk y0 k0, .mk y1 k1]).wk) = ((((bs (joinW ((Tm.mk y0 k0).kw 3)) ++ ⟨#[32]⟩) ++ ⟨#[45]⟩) ++ ⟨#[32]⟩) ++ bs (joinW ((Tm.mk y1 k1).kw 4))) := by
    rw [wk_9 hk]
    refine bs_ext2 ?_
    simp [ByteArray.data_append, bs_list, joinW_cons, joinW_append, joinW, w_fst, w_snd, w_ref, w_raise, w_fn, w_let, w_letrec, w_if, w_try, w_in, w_then, w_else, w_with, s_eq, s_to, s_set, s_plus, s_minus, s_star, s_less, s_bang, s_open, s_shut, s_comma, ne0, nk0, ne1, nk1, hop, opS, looseT]
  have sz0 : (bs (joinW ((Tm.mk y0 k0).kw 3))).size ≤ 200000000 := text_size hn0 hz0 _
  have KK0 : Hid (∀ W a1 n1 c1, IsTm W (.mk y0 k0) (.agg #[.int .u8 y0.k, .int .u8 y0.op, .int .i64 y0.pos, .int .i64 y0.n, .string y0.name, .string y0.arg, .string y0.exn, .slice a1 n1 c1]) → Calls Tryz.prog 51 #[.agg #[.int .u8 y0.k, .int .u8 y0.op, .int .i64 y0.pos, .int .i64 y0.n, .string y0.name, .string y0.arg, .string y0.exn, .slice a1 n1 c1], .int .i64 3] W fun e w' => e = .returned (.string (bs (joinW ((Tm.mk y0 k0).kw 3)))) ∧ Ext W w') := hid fun W a1 n1 c1 t1 => ref6_as N hT y0 k0 3 W a1 n1 c1 hs0 hz0 hn0 t1
  have sz1 : (bs (joinW ((Tm.mk y1 k1).kw 4))).size ≤ 200000000 := text_size hn1 hz1 _
  have KK1 : Hid (∀ W a1 n1 c1, IsTm W (.mk y1 k1) (.agg #[.int .u8 y1.k, .int .u8 y1.op, .int .i64 y1.pos, .int .i64 y1.n, .string y1.name, .string y1.arg, .string y1.exn, .slice a1 n1 c1]) → Calls Tryz.prog 51 #[.agg #[.int .u8 y1.k, .int .u8 y1.op, .int .i64 y1.pos, .int .i64 y1.n, .string y1.name, .string y1.arg, .string y1.exn, .slice a1 n1 c1], .int .i64 4] W fun e w' => e = .returned (.string (bs (joinW ((Tm.mk y1 k1).kw 4)))) ∧ Ext W w') := hid fun W a1 n1 c1 t1 => ref6_as N hT y1 k1 4 W a1 n1 c1 hs1 hz1 hn1 t1
  rw [HE, hk, hop]
  have HE9 : True := trivial
  clear HE9
  generalize bs (joinW ((Tm.mk y0 k0).kw 3)) = X0 at *
  generalize bs (joinW ((Tm.mk y1 k1).kw 4)) = X1 at *
  obtain ⟨b, o, a0, n0, c0, rfl, q0⟩ := kid_any (i := 0) ht rfl
  obtain ⟨b', o', a1, n1, c1, e9, q1⟩ := kid_any (i := 1) ht rfl
  cases e9
  have n0_ : ¬ 9223372036854775807 < X0.size + 1 := by omega
  have n1_ : ¬ 9223372036854775807 < X0.size + 1 + 1 := by omega
  have n2_ : ¬ 9223372036854775807 < X0.size + 1 + 1 + 1 := by omega
  have n3_ : ¬ 9223372036854775807 < X0.size + 1 + 1 + 1 + X1.size := by omega
  clear hT ht HE hk ok hop hs0 hn0 hz0 ne0 nk0 hs1 hn1 hz1 ne1 nk1
  go_enter Tryz.func23, Tryz.ntmps23
  go_upto_region 3 with fail
  have B1 := (Blk.new w 28 #[.int .u8 9, .int .u8 2, .int .i64 x.pos, .int .i64 x.n, .string x.name, .string x.arg, .string x.exn, .slice (some ⟨b, o, none⟩) 2 c]).alloc (.cells #[.string ⟨#[43]⟩, .string ⟨#[45]⟩, .string ⟨#[42]⟩, .string ⟨#[60]⟩, .string ⟨#[61]⟩] 9)
  have Y1 : Ext w ((w.alloc (.cells #[.int .u8 9, .int .u8 2, .int .i64 x.pos, .int .i64 x.n, .string x.name, .string x.arg, .string x.exn, .slice (some ⟨b, o, none⟩) 2 c] 28)).alloc (.cells #[.string ⟨#[43]⟩, .string ⟨#[45]⟩, .string ⟨#[42]⟩, .string ⟨#[60]⟩, .string ⟨#[61]⟩] 9)) := by (exact eX)
  have q0 := q0.ext Y1
  have q1 := q1.ext Y1
  have b5 := Blk.new (w.alloc (.cells #[.int .u8 9, .int .u8 2, .int .i64 x.pos, .int .i64 x.n, .string x.name, .string x.arg, .string x.exn, .slice (some ⟨b, o, none⟩) 2 c] 28)) 9 #[.string ⟨#[43]⟩, .string ⟨#[45]⟩, .string ⟨#[42]⟩, .string ⟨#[60]⟩, .string ⟨#[61]⟩]
  rw [World.size_alloc] at b5
  generalize (w.alloc (.cells #[.int .u8 9, .int .u8 2, .int .i64 x.pos, .int .i64 x.n, .string x.name, .string x.arg, .string x.exn, .slice (some ⟨b, o, none⟩) 2 c] 28)).alloc (.cells #[.string ⟨#[43]⟩, .string ⟨#[45]⟩, .string ⟨#[42]⟩, .string ⟨#[60]⟩, .string ⟨#[61]⟩] 9) = W1 at *
  obtain ⟨d0, d1, d2, d3, d4, d5, d6, d7⟩ := B1.eight
  have m00 := q0.c0
  have m01 := q0.c1
  have m02 := q0.c2
  have m03 := q0.c3
  have m04 := q0.c4
  have m05 := q0.c5
  have m06 := q0.c6
  have m07 := q0.c7
  simp only [Nat.zero_mul, Nat.add_zero, Nat.one_mul, Nat.reduceMul] at m00 m01 m02 m03 m04 m05 m06 m07
  have m10 := q1.c0
  have m11 := q1.c1
  have m12 := q1.c2
  have m13 := q1.c3
  have m14 := q1.c4
  have m15 := q1.c5
  have m16 := q1.c6
  have m17 := q1.c7
  simp only [Nat.zero_mul, Nat.add_zero, Nat.one_mul, Nat.reduceMul] at m10 m11 m12 m13 m14 m15 m16 m17
  have f5 := b5.cell 1
  simp at f5
  have HY := hid Y1
  have T0 := hid q0.tm
  clear q0
  have T1 := hid q1.tm
  clear q1
  clear Y1 B1 b5
  go_upto_region 26 with fail
  have Rd0 := cells_regrown d0
  have Rd1 := cells_regrown d1
  have Rd2 := cells_regrown d2
  have Rd3 := cells_regrown d3
  have Rd4 := cells_regrown d4
  have Rd5 := cells_regrown d5
  have Rd6 := cells_regrown d6
  have Rd7 := cells_regrown d7
  have Rm00 := cells_regrown m00
  have Rm01 := cells_regrown m01
  have Rm02 := cells_regrown m02
  have Rm03 := cells_regrown m03
  have Rm04 := cells_regrown m04
  have Rm05 := cells_regrown m05
  have Rm06 := cells_regrown m06
  have Rm07 := cells_regrown m07
  have Rm10 := cells_regrown m10
  have Rm11 := cells_regrown m11
  have Rm12 := cells_regrown m12
  have Rm13 := cells_regrown m13
  have Rm14 := cells_regrown m14
  have Rm15 := cells_regrown m15
  have Rm16 := cells_regrown m16
  have Rm17 := cells_regrown m17
  have Rf := cells_regrown f5
  have Q0 := quiet_ext (w := W1) fun w1 h1 => KK0.out w1 a0 n0 c0 (T0.out.ext h1)
  have Q1 := quiet_ext (w := W1) fun w1 h1 => KK1.out w1 a1 n1 c1 (T1.out.ext h1)
  clear d0 d1 d2 d3 d4 d5 d6 d7 m00 m01 m02 m03 m04 m05 m06 m07 m10 m11 m12 m13 m14 m15 m16 m17 f5
  refine wp_region_quiet_below (by kernel_rfl) (by kernel_rfl) ?_
  repeat (go_big_quiet_step ((first | with_reducible exact Q0 _ _ | with_reducible exact Q1 _ _)))
  refine wpQuiet_nil ?_
  intro w5 hq_w5
  have x5 := ext_of_regrown hq_w5
  clear hq_w5
  go_wp2_with fail
  go_ret
  exact ⟨rfl, HY.out.trans x5⟩
set_option maxRecDepth 60000 in
set_option maxHeartbeats 4000000 in
theorem text_op3 (N : Nat) (hT : TextT N) (x : Hd) (y0 : Hd) (k0 : List Tm) (y1 : Hd) (k1 : List Tm) (w : World) (a : Option Addr) (c : Nat) (hk : x.k = 9) (hop : x.op = 3) (ok : NodeOk x [.mk y0 k0, .mk y1 k1]) (hs0 : (Tm.mk y0 k0).size ≤ N) (hz0 : (Tm.mk y0 k0).size ≤ 1000000) (hn0 : ∀ u, u ∈ (Tm.mk y0 k0).all → u.node = true) (hs1 : (Tm.mk y1 k1).size ≤ N) (hz1 : (Tm.mk y1 k1).size ≤ 1000000) (hn1 : ∀ u, u ∈ (Tm.mk y1 k1).all → u.node = true) (ht : IsTmsA NoA w [.mk y0 k0, .mk y1 k1] a 2) :
    Calls Tryz.prog 23 #[.agg #[.int .u8 x.k, .int .u8 x.op, .int .i64 x.pos, .int .i64 x.n, .string x.name, .string x.arg, .string x.exn, .slice a 2 c]] w fun e w' => e = .returned (.string (bs (joinW (Tm.mk x [.mk y0 k0, .mk y1 k1]).wk))) ∧ Ext w w' := by
  have ne0 := wk_pos _ hn0
  have nk0 := fun p => kw_ne (p := p) ne0
  have ne1 := wk_pos _ hn1
  have nk1 := fun p => kw_ne (p := p) ne1
  have HE : bs (joinW (Tm.mk x [.mk y0 k0, .mk y1 k1]).wk) = ((((bs (joinW ((Tm.mk y0 k0).kw 4)) ++ ⟨#[32]⟩) ++ ⟨#[42]⟩) ++ ⟨#[32]⟩) ++ bs (joinW ((Tm.mk y1 k1).kw 5))) := by
    rw [wk_9 hk]
    refine bs_ext2 ?_
    simp [ByteArray.data_append, bs_list, joinW_cons, joinW_append, joinW, w_fst, w_snd, w_ref, w_raise, w_fn, w_let, w_letrec, w_if, w_try, w_in, w_then, w_else, w_with, s_eq, s_to, s_set, s_plus, s_minus, s_star, s_less, s_bang, s_open, s_shut, s_comma, ne0, nk0, ne1, nk1, hop, opS, looseT]
  have sz0 : (bs (joinW ((Tm.mk y0 k0).kw 4))).size ≤ 200000000 := text_size hn0 hz0 _
  have KK0 : Hid (∀ W a1 n1 c1, IsTm W (.mk y0 k0) (.agg #[.int .u8 y0.k, .int .u8 y0.op, .int .i64 y0.pos, .int .i64 y0.n, .string y0.name, .string y0.arg, .string y0.exn, .slice a1 n1 c1]) → Calls Tryz.prog 51 #[.agg #[.int .u8 y0.k, .int .u8 y0.op, .int .i64 y0.pos, .int .i64 y0.n, .string y0.name, .string y0.arg, .string y0.exn, .slice a1 n1 c1], .int .i64 4] W fun e w' => e = .returned (.string (bs (joinW ((Tm.mk y0 k0).kw 4)))) ∧ Ext W w') := hid fun W a1 n1 c1 t1 => ref6_as N hT y0 k0 4 W a1 n1 c1 hs0 hz0 hn0 t1
  have sz1 : (bs (joinW ((Tm.mk y1 k1).kw 5))).size ≤ 200000000 := text_size hn1 hz1 _
  have KK1 : Hid (∀ W a1 n1 c1, IsTm W (.mk y1 k1) (.agg #[.int .u8 y1.k, .int .u8 y1.op, .int .i64 y1.pos, .int .i64 y1.n, .string y1.name, .string y1.arg, .string y1.exn, .slice a1 n1 c1]) → Calls Tryz.prog 51 #[.agg #[.int .u8 y1.k, .int .u8 y1.op, .int .i64 y1.pos, .int .i64 y1.n, .string y1.name, .string y1.arg, .string y1.exn, .slice a1 n1 c1], .int .i64 5] W fun e w' => e = .returned (.string (bs (joinW ((Tm.mk y1 k1).kw 5)))) ∧ Ext W w') := hid fun W a1 n1 c1 t1 => ref6_as N hT y1 k1 5 W a1 n1 c1 hs1 hz1 hn1 t1
  rw [HE, hk, hop]
  have HE9 : True := trivial
  clear HE9
  generalize bs (joinW ((Tm.mk y0 k0).kw 4)) = X0 at *
  generalize bs (joinW ((Tm.mk y1 k1).kw 5)) = X1 at *
  obtain ⟨b, o, a0, n0, c0, rfl, q0⟩ := kid_any (i := 0) ht rfl
  obtain ⟨b', o', a1, n1, c1, e9, q1⟩ := kid_any (i := 1) ht rfl
  cases e9
  have n0_ : ¬ 9223372036854775807 < X0.size + 1 := by omega
  have n1_ : ¬ 9223372036854775807 < X0.size + 1 + 1 := by omega
  have n2_ : ¬ 9223372036854775807 < X0.size + 1 + 1 + 1 := by omega
  have n3_ : ¬ 9223372036854775807 < X0.size + 1 + 1 + 1 + X1.size := by omega
  clear hT ht HE hk ok hop hs0 hn0 hz0 ne0 nk0 hs1 hn1 hz1 ne1 nk1
  go_enter Tryz.func23, Tryz.ntmps23
  go_upto_region 3 with fail
  have B1 := (Blk.new w 28 #[.int .u8 9, .int .u8 3, .int .i64 x.pos, .int .i64 x.n, .string x.name, .string x.arg, .string x.exn, .slice (some ⟨b, o, none⟩) 2 c]).alloc (.cells #[.string ⟨#[43]⟩, .string ⟨#[45]⟩, .string ⟨#[42]⟩, .string ⟨#[60]⟩, .string ⟨#[61]⟩] 9)
  have Y1 : Ext w ((w.alloc (.cells #[.int .u8 9, .int .u8 3, .int .i64 x.pos, .int .i64 x.n, .string x.name, .string x.arg, .string x.exn, .slice (some ⟨b, o, none⟩) 2 c] 28)).alloc (.cells #[.string ⟨#[43]⟩, .string ⟨#[45]⟩, .string ⟨#[42]⟩, .string ⟨#[60]⟩, .string ⟨#[61]⟩] 9)) := by (exact eX)
  have q0 := q0.ext Y1
  have q1 := q1.ext Y1
  have b5 := Blk.new (w.alloc (.cells #[.int .u8 9, .int .u8 3, .int .i64 x.pos, .int .i64 x.n, .string x.name, .string x.arg, .string x.exn, .slice (some ⟨b, o, none⟩) 2 c] 28)) 9 #[.string ⟨#[43]⟩, .string ⟨#[45]⟩, .string ⟨#[42]⟩, .string ⟨#[60]⟩, .string ⟨#[61]⟩]
  rw [World.size_alloc] at b5
  generalize (w.alloc (.cells #[.int .u8 9, .int .u8 3, .int .i64 x.pos, .int .i64 x.n, .string x.name, .string x.arg, .string x.exn, .slice (some ⟨b, o, none⟩) 2 c] 28)).alloc (.cells #[.string ⟨#[43]⟩, .string ⟨#[45]⟩, .string ⟨#[42]⟩, .string ⟨#[60]⟩, .string ⟨#[61]⟩] 9) = W1 at *
  obtain ⟨d0, d1, d2, d3, d4, d5, d6, d7⟩ := B1.eight
  have m00 := q0.c0
  have m01 := q0.c1
  have m02 := q0.c2
  have m03 := q0.c3
  have m04 := q0.c4
  have m05 := q0.c5
  have m06 := q0.c6
  have m07 := q0.c7
  simp only [Nat.zero_mul, Nat.add_zero, Nat.one_mul, Nat.reduceMul] at m00 m01 m02 m03 m04 m05 m06 m07
  have m10 := q1.c0
  have m11 := q1.c1
  have m12 := q1.c2
  have m13 := q1.c3
  have m14 := q1.c4
  have m15 := q1.c5
  have m16 := q1.c6
  have m17 := q1.c7
  simp only [Nat.zero_mul, Nat.add_zero, Nat.one_mul, Nat.reduceMul] at m10 m11 m12 m13 m14 m15 m16 m17
  have f5 := b5.cell 2
  simp at f5
  have HY := hid Y1
  have T0 := hid q0.tm
  clear q0
  have T1 := hid q1.tm
  clear q1
  clear Y1 B1 b5
  go_upto_region 26 with fail
  have Rd0 := cells_regrown d0
  have Rd1 := cells_regrown d1
  have Rd2 := cells_regrown d2
  have Rd3 := cells_regrown d3
  have Rd4 := cells_regrown d4
  have Rd5 := cells_regrown d5
  have Rd6 := cells_regrown d6
  have Rd7 := cells_regrown d7
  have Rm00 := cells_regrown m00
  have Rm01 := cells_regrown m01
  have Rm02 := cells_regrown m02
  have Rm03 := cells_regrown m03
  have Rm04 := cells_regrown m04
  have Rm05 := cells_regrown m05
  have Rm06 := cells_regrown m06
  have Rm07 := cells_regrown m07
  have Rm10 := cells_regrown m10
  have Rm11 := cells_regrown m11
  have Rm12 := cells_regrown m12
  have Rm13 := cells_regrown m13
  have Rm14 := cells_regrown m14
  have Rm15 := cells_regrown m15
  have Rm16 := cells_regrown m16
  have Rm17 := cells_regrown m17
  have Rf := cells_regrown f5
  have Q0 := quiet_ext (w := W1) fun w1 h1 => KK0.out w1 a0 n0 c0 (T0.out.ext h1)
  have Q1 := quiet_ext (w := W1) fun w1 h1 => KK1.out w1 a1 n1 c1 (T1.out.ext h1)
  clear d0 d1 d2 d3 d4 d5 d6 d7 m00 m01 m02 m03 m04 m05 m06 m07 m10 m11 m12 m13 m14 m15 m16 m17 f5
  refine wp_region_quiet_below (by kernel_rfl) (by kernel_rfl) ?_
  repeat (go_big_quiet_step ((first | with_reducible exact Q0 _ _ | with_reducible exact Q1 _ _)))
  refine wpQuiet_nil ?_
  intro w5 hq_w5
  have x5 := ext_of_regrown hq_w5
  clear hq_w5
  go_wp2_with fail
  go_ret
  exact ⟨rfl, HY.out.trans x5⟩
set_option maxRecDepth 60000 in
set_option maxHeartbeats 4000000 in
theorem text_op4 (N : Nat) (hT : TextT N) (x : Hd) (y0 : Hd) (k0 : List Tm) (y1 : Hd) (k1 : List Tm) (w : World) (a : Option Addr) (c : Nat) (hk : x.k = 9) (hop : x.op = 4) (ok : NodeOk x [.mk y0 k0, .mk y1 k1]) (hs0 : (Tm.mk y0 k0).size ≤ N) (hz0 : (Tm.mk y0 k0).size ≤ 1000000) (hn0 : ∀ u, u ∈ (Tm.mk y0 k0).all → u.node = true) (hs1 : (Tm.mk y1 k1).size ≤ N) (hz1 : (Tm.mk y1 k1).size ≤ 1000000) (hn1 : ∀ u, u ∈ (Tm.mk y1 k1).all → u.node = true) (ht : IsTmsA NoA w [.mk y0 k0, .mk y1 k1] a 2) :
    Calls Tryz.prog 23 #[.agg #[.int .u8 x.k, .int .u8 x.op, .int .i64 x.pos, .int .i64 x.n, .string x.name, .string x.arg, .string x.exn, .slice a 2 c]] w fun e w' => e = .returned (.string (bs (joinW (Tm.mk x [.mk y0 k0, .mk y1 k1]).wk))) ∧ Ext w w' := by
  have ne0 := wk_pos _ hn0
  have nk0 := fun p => kw_ne (p := p) ne0
  have ne1 := wk_pos _ hn1
  have nk1 := fun p => kw_ne (p := p) ne1
  have HE : bs (joinW (Tm.mk x [.mk y0 k0, .mk y1 k1]).wk) = ((((bs (joinW ((Tm.mk y0 k0).kw 3)) ++ ⟨#[32]⟩) ++ ⟨#[60]⟩) ++ ⟨#[32]⟩) ++ bs (joinW ((Tm.mk y1 k1).kw 3))) := by
    rw [wk_9 hk]
    refine bs_ext2 ?_
    simp [ByteArray.data_append, bs_list, joinW_cons, joinW_append, joinW, w_fst, w_snd, w_ref, w_raise, w_fn, w_let, w_letrec, w_if, w_try, w_in, w_then, w_else, w_with, s_eq, s_to, s_set, s_plus, s_minus, s_star, s_less, s_bang, s_open, s_shut, s_comma, ne0, nk0, ne1, nk1, hop, opS, looseT]
  have sz0 : (bs (joinW ((Tm.mk y0 k0).kw 3))).size ≤ 200000000 := text_size hn0 hz0 _
  have KK0 : Hid (∀ W a1 n1 c1, IsTm W (.mk y0 k0) (.agg #[.int .u8 y0.k, .int .u8 y0.op, .int .i64 y0.pos, .int .i64 y0.n, .string y0.name, .string y0.arg, .string y0.exn, .slice a1 n1 c1]) → Calls Tryz.prog 51 #[.agg #[.int .u8 y0.k, .int .u8 y0.op, .int .i64 y0.pos, .int .i64 y0.n, .string y0.name, .string y0.arg, .string y0.exn, .slice a1 n1 c1], .int .i64 3] W fun e w' => e = .returned (.string (bs (joinW ((Tm.mk y0 k0).kw 3)))) ∧ Ext W w') := hid fun W a1 n1 c1 t1 => ref6_as N hT y0 k0 3 W a1 n1 c1 hs0 hz0 hn0 t1
  have sz1 : (bs (joinW ((Tm.mk y1 k1).kw 3))).size ≤ 200000000 := text_size hn1 hz1 _
  have KK1 : Hid (∀ W a1 n1 c1, IsTm W (.mk y1 k1) (.agg #[.int .u8 y1.k, .int .u8 y1.op, .int .i64 y1.pos, .int .i64 y1.n, .string y1.name, .string y1.arg, .string y1.exn, .slice a1 n1 c1]) → Calls Tryz.prog 51 #[.agg #[.int .u8 y1.k, .int .u8 y1.op, .int .i64 y1.pos, .int .i64 y1.n, .string y1.name, .string y1.arg, .string y1.exn, .slice a1 n1 c1], .int .i64 3] W fun e w' => e = .returned (.string (bs (joinW ((Tm.mk y1 k1).kw 3)))) ∧ Ext W w') := hid fun W a1 n1 c1 t1 => ref6_as N hT y1 k1 3 W a1 n1 c1 hs1 hz1 hn1 t1
  rw [HE, hk, hop]
  have HE9 : True := trivial
  clear HE9
  generalize bs (joinW ((Tm.mk y0 k0).kw 3)) = X0 at *
  generalize bs (joinW ((Tm.mk y1 k1).kw 3)) = X1 at *
  obtain ⟨b, o, a0, n0, c0, rfl, q0⟩ := kid_any (i := 0) ht rfl
  obtain ⟨b', o', a1, n1, c1, e9, q1⟩ := kid_any (i := 1) ht rfl
  cases e9
  have n0_ : ¬ 9223372036854775807 < X0.size + 1 := by omega
  have n1_ : ¬ 9223372036854775807 < X0.size + 1 + 1 := by omega
  have n2_ : ¬ 9223372036854775807 < X0.size + 1 + 1 + 1 := by omega
  have n3_ : ¬ 9223372036854775807 < X0.size + 1 + 1 + 1 + X1.size := by omega
  clear hT ht HE hk ok hop hs0 hn0 hz0 ne0 nk0 hs1 hn1 hz1 ne1 nk1
  go_enter Tryz.func23, Tryz.ntmps23
  go_upto_region 3 with fail
  have B1 := (Blk.new w 28 #[.int .u8 9, .int .u8 4, .int .i64 x.pos, .int .i64 x.n, .string x.name, .string x.arg, .string x.exn, .slice (some ⟨b, o, none⟩) 2 c]).alloc (.cells #[.string ⟨#[43]⟩, .string ⟨#[45]⟩, .string ⟨#[42]⟩, .string ⟨#[60]⟩, .string ⟨#[61]⟩] 9)
  have Y1 : Ext w ((w.alloc (.cells #[.int .u8 9, .int .u8 4, .int .i64 x.pos, .int .i64 x.n, .string x.name, .string x.arg, .string x.exn, .slice (some ⟨b, o, none⟩) 2 c] 28)).alloc (.cells #[.string ⟨#[43]⟩, .string ⟨#[45]⟩, .string ⟨#[42]⟩, .string ⟨#[60]⟩, .string ⟨#[61]⟩] 9)) := by (exact eX)
  have q0 := q0.ext Y1
  have q1 := q1.ext Y1
  have b5 := Blk.new (w.alloc (.cells #[.int .u8 9, .int .u8 4, .int .i64 x.pos, .int .i64 x.n, .string x.name, .string x.arg, .string x.exn, .slice (some ⟨b, o, none⟩) 2 c] 28)) 9 #[.string ⟨#[43]⟩, .string ⟨#[45]⟩, .string ⟨#[42]⟩, .string ⟨#[60]⟩, .string ⟨#[61]⟩]
  rw [World.size_alloc] at b5
  generalize (w.alloc (.cells #[.int .u8 9, .int .u8 4, .int .i64 x.pos, .int .i64 x.n, .string x.name, .string x.arg, .string x.exn, .slice (some ⟨b, o, none⟩) 2 c] 28)).alloc (.cells #[.string ⟨#[43]⟩, .string ⟨#[45]⟩, .string ⟨#[42]⟩, .string ⟨#[60]⟩, .string ⟨#[61]⟩] 9) = W1 at *
  obtain ⟨d0, d1, d2, d3, d4, d5, d6, d7⟩ := B1.eight
  have m00 := q0.c0
  have m01 := q0.c1
  have m02 := q0.c2
  have m03 := q0.c3
  have m04 := q0.c4
  have m05 := q0.c5
  have m06 := q0.c6
  have m07 := q0.c7
  simp only [Nat.zero_mul, Nat.add_zero, Nat.one_mul, Nat.reduceMul] at m00 m01 m02 m03 m04 m05 m06 m07
  have m10 := q1.c0
  have m11 := q1.c1
  have m12 := q1.c2
  have m13 := q1.c3
  have m14 := q1.c4
  have m15 := q1.c5
  have m16 := q1.c6
  have m17 := q1.c7
  simp only [Nat.zero_mul, Nat.add_zero, Nat.one_mul, Nat.reduceMul] at m10 m11 m12 m13 m14 m15 m16 m17
  have f5 := b5.cell 3
  simp at f5
  have HY := hid Y1
  have T0 := hid q0.tm
  clear q0
  have T1 := hid q1.tm
  clear q1
  clear Y1 B1 b5
  go_upto_region 26 with fail
  have Rd0 := cells_regrown d0
  have Rd1 := cells_regrown d1
  have Rd2 := cells_regrown d2
  have Rd3 := cells_regrown d3
  have Rd4 := cells_regrown d4
  have Rd5 := cells_regrown d5
  have Rd6 := cells_regrown d6
  have Rd7 := cells_regrown d7
  have Rm00 := cells_regrown m00
  have Rm01 := cells_regrown m01
  have Rm02 := cells_regrown m02
  have Rm03 := cells_regrown m03
  have Rm04 := cells_regrown m04
  have Rm05 := cells_regrown m05
  have Rm06 := cells_regrown m06
  have Rm07 := cells_regrown m07
  have Rm10 := cells_regrown m10
  have Rm11 := cells_regrown m11
  have Rm12 := cells_regrown m12
  have Rm13 := cells_regrown m13
  have Rm14 := cells_regrown m14
  have Rm15 := cells_regrown m15
  have Rm16 := cells_regrown m16
  have Rm17 := cells_regrown m17
  have Rf := cells_regrown f5
  have Q0 := quiet_ext (w := W1) fun w1 h1 => KK0.out w1 a0 n0 c0 (T0.out.ext h1)
  have Q1 := quiet_ext (w := W1) fun w1 h1 => KK1.out w1 a1 n1 c1 (T1.out.ext h1)
  clear d0 d1 d2 d3 d4 d5 d6 d7 m00 m01 m02 m03 m04 m05 m06 m07 m10 m11 m12 m13 m14 m15 m16 m17 f5
  refine wp_region_quiet_below (by kernel_rfl) (by kernel_rfl) ?_
  repeat (go_big_quiet_step ((first | with_reducible exact Q0 _ _ | with_reducible exact Q1 _ _)))
  refine wpQuiet_nil ?_
  intro w5 hq_w5
  have x5 := ext_of_regrown hq_w5
  clear hq_w5
  go_wp2_with fail
  go_ret
  exact ⟨rfl, HY.out.trans x5⟩
set_option maxRecDepth 60000 in
set_option maxHeartbeats 4000000 in
theorem text_op5 (N : Nat) (hT : TextT N) (x : Hd) (y0 : Hd) (k0 : List Tm) (y1 : Hd) (k1 : List Tm) (w : World) (a : Option Addr) (c : Nat) (hk : x.k = 9) (hop : x.op = 5) (ok : NodeOk x [.mk y0 k0, .mk y1 k1]) (hs0 : (Tm.mk y0 k0).size ≤ N) (hz0 : (Tm.mk y0 k0).size ≤ 1000000) (hn0 : ∀ u, u ∈ (Tm.mk y0 k0).all → u.node = true) (hs1 : (Tm.mk y1 k1).size ≤ N) (hz1 : (Tm.mk y1 k1).size ≤ 1000000) (hn1 : ∀ u, u ∈ (Tm.mk y1 k1).all → u.node = true) (ht : IsTmsA NoA w [.mk y0 k0, .mk y1 k1] a 2) :
    Calls Tryz.prog 23 #[.agg #[.int .u8 x.k, .int .u8 x.op, .int .i64 x.pos, .int .i64 x.n, .string x.name, .string x.arg, .string x.exn, .slice a 2 c]] w fun e w' => e = .returned (.string (bs (joinW (Tm.mk x [.mk y0 k0, .mk y1 k1]).wk))) ∧ Ext w w' := by
  have ne0 := wk_pos _ hn0
  have nk0 := fun p => kw_ne (p := p) ne0
  have ne1 := wk_pos _ hn1
  have nk1 := fun p => kw_ne (p := p) ne1
  have HE : bs (joinW (Tm.mk x [.mk y0 k0, .mk y1 k1]).wk) = ((((bs (joinW ((Tm.mk y0 k0).kw 3)) ++ ⟨#[32]⟩) ++ ⟨#[61]⟩) ++ ⟨#[32]⟩) ++ bs (joinW ((Tm.mk y1 k1).kw 3))) := by
    rw [wk_9 hk]
    refine bs_ext2 ?_
    simp [ByteArray.data_append, bs_list, joinW_cons, joinW_append, joinW, w_fst, w_snd, w_ref, w_raise, w_fn, w_let, w_letrec, w_if, w_try, w_in, w_then, w_else, w_with, s_eq, s_to, s_set, s_plus, s_minus, s_star, s_less, s_bang, s_open, s_shut, s_comma, ne0, nk0, ne1, nk1, hop, opS, looseT]
  have sz0 : (bs (joinW ((Tm.mk y0 k0).kw 3))).size ≤ 200000000 := text_size hn0 hz0 _
  have KK0 : Hid (∀ W a1 n1 c1, IsTm W (.mk y0 k0) (.agg #[.int .u8 y0.k, .int .u8 y0.op, .int .i64 y0.pos, .int .i64 y0.n, .string y0.name, .string y0.arg, .string y0.exn, .slice a1 n1 c1]) → Calls Tryz.prog 51 #[.agg #[.int .u8 y0.k, .int .u8 y0.op, .int .i64 y0.pos, .int .i64 y0.n, .string y0.name, .string y0.arg, .string y0.exn, .slice a1 n1 c1], .int .i64 3] W fun e w' => e = .returned (.string (bs (joinW ((Tm.mk y0 k0).kw 3)))) ∧ Ext W w') := hid fun W a1 n1 c1 t1 => ref6_as N hT y0 k0 3 W a1 n1 c1 hs0 hz0 hn0 t1
  have sz1 : (bs (joinW ((Tm.mk y1 k1).kw 3))).size ≤ 200000000 := text_size hn1 hz1 _
  have KK1 : Hid (∀ W a1 n1 c1, IsTm W (.mk y1 k1) (.agg #[.int .u8 y1.k, .int .u8 y1.op, .int .i64 y1.pos, .int .i64 y1.n, .string y1.name, .string y1.arg, .string y1.exn, .slice a1 n1 c1]) → Calls Tryz.prog 51 #[.agg #[.int .u8 y1.k, .int .u8 y1.op, .int .i64 y1.pos, .int .i64 y1.n, .string y1.name, .string y1.arg, .string y1.exn, .slice a1 n1 c1], .int .i64 3] W fun e w' => e = .returned (.string (bs (joinW ((Tm.mk y1 k1).kw 3)))) ∧ Ext W w') := hid fun W a1 n1 c1 t1 => ref6_as N hT y1 k1 3 W a1 n1 c1 hs1 hz1 hn1 t1
  rw [HE, hk, hop]
  have HE9 : True := trivial
  clear HE9
  generalize bs (joinW ((Tm.mk y0 k0).kw 3)) = X0 at *
  generalize bs (joinW ((Tm.mk y1 k1).kw 3)) = X1 at *
  obtain ⟨b, o, a0, n0, c0, rfl, q0⟩ := kid_any (i := 0) ht rfl
  obtain ⟨b', o', a1, n1, c1, e9, q1⟩ := kid_any (i := 1) ht rfl
  cases e9
  have n0_ : ¬ 9223372036854775807 < X0.size + 1 := by omega
  have n1_ : ¬ 9223372036854775807 < X0.size + 1 + 1 := by omega
  have n2_ : ¬ 9223372036854775807 < X0.size + 1 + 1 + 1 := by omega
  have n3_ : ¬ 9223372036854775807 < X0.size + 1 + 1 + 1 + X1.size := by omega
  clear hT ht HE hk ok hop hs0 hn0 hz0 ne0 nk0 hs1 hn1 hz1 ne1 nk1
  go_enter Tryz.func23, Tryz.ntmps23
  go_upto_region 3 with fail
  have B1 := (Blk.new w 28 #[.int .u8 9, .int .u8 5, .int .i64 x.pos, .int .i64 x.n, .string x.name, .string x.arg, .string x.exn, .slice (some ⟨b, o, none⟩) 2 c]).alloc (.cells #[.string ⟨#[43]⟩, .string ⟨#[45]⟩, .string ⟨#[42]⟩, .string ⟨#[60]⟩, .string ⟨#[61]⟩] 9)
  have Y1 : Ext w ((w.alloc (.cells #[.int .u8 9, .int .u8 5, .int .i64 x.pos, .int .i64 x.n, .string x.name, .string x.arg, .string x.exn, .slice (some ⟨b, o, none⟩) 2 c] 28)).alloc (.cells #[.string ⟨#[43]⟩, .string ⟨#[45]⟩, .string ⟨#[42]⟩, .string ⟨#[60]⟩, .string ⟨#[61]⟩] 9)) := by (exact eX)
  have q0 := q0.ext Y1
  have q1 := q1.ext Y1
  have b5 := Blk.new (w.alloc (.cells #[.int .u8 9, .int .u8 5, .int .i64 x.pos, .int .i64 x.n, .string x.name, .string x.arg, .string x.exn, .slice (some ⟨b, o, none⟩) 2 c] 28)) 9 #[.string ⟨#[43]⟩, .string ⟨#[45]⟩, .string ⟨#[42]⟩, .string ⟨#[60]⟩, .string ⟨#[61]⟩]
  rw [World.size_alloc] at b5
  generalize (w.alloc (.cells #[.int .u8 9, .int .u8 5, .int .i64 x.pos, .int .i64 x.n, .string x.name, .string x.arg, .string x.exn, .slice (some ⟨b, o, none⟩) 2 c] 28)).alloc (.cells #[.string ⟨#[43]⟩, .string ⟨#[45]⟩, .string ⟨#[42]⟩, .string ⟨#[60]⟩, .string ⟨#[61]⟩] 9) = W1 at *
  obtain ⟨d0, d1, d2, d3, d4, d5, d6, d7⟩ := B1.eight
  have m00 := q0.c0
  have m01 := q0.c1
  have m02 := q0.c2
  have m03 := q0.c3
  have m04 := q0.c4
  have m05 := q0.c5
  have m06 := q0.c6
  have m07 := q0.c7
  simp only [Nat.zero_mul, Nat.add_zero, Nat.one_mul, Nat.reduceMul] at m00 m01 m02 m03 m04 m05 m06 m07
  have m10 := q1.c0
  have m11 := q1.c1
  have m12 := q1.c2
  have m13 := q1.c3
  have m14 := q1.c4
  have m15 := q1.c5
  have m16 := q1.c6
  have m17 := q1.c7
  simp only [Nat.zero_mul, Nat.add_zero, Nat.one_mul, Nat.reduceMul] at m10 m11 m12 m13 m14 m15 m16 m17
  have f5 := b5.cell 4
  simp at f5
  have HY := hid Y1
  have T0 := hid q0.tm
  clear q0
  have T1 := hid q1.tm
  clear q1
  clear Y1 B1 b5
  go_upto_region 26 with fail
  have Rd0 := cells_regrown d0
  have Rd1 := cells_regrown d1
  have Rd2 := cells_regrown d2
  have Rd3 := cells_regrown d3
  have Rd4 := cells_regrown d4
  have Rd5 := cells_regrown d5
  have Rd6 := cells_regrown d6
  have Rd7 := cells_regrown d7
  have Rm00 := cells_regrown m00
  have Rm01 := cells_regrown m01
  have Rm02 := cells_regrown m02
  have Rm03 := cells_regrown m03
  have Rm04 := cells_regrown m04
  have Rm05 := cells_regrown m05
  have Rm06 := cells_regrown m06
  have Rm07 := cells_regrown m07
  have Rm10 := cells_regrown m10
  have Rm11 := cells_regrown m11
  have Rm12 := cells_regrown m12
  have Rm13 := cells_regrown m13
  have Rm14 := cells_regrown m14
  have Rm15 := cells_regrown m15
  have Rm16 := cells_regrown m16
  have Rm17 := cells_regrown m17
  have Rf := cells_regrown f5
  have Q0 := quiet_ext (w := W1) fun w1 h1 => KK0.out w1 a0 n0 c0 (T0.out.ext h1)
  have Q1 := quiet_ext (w := W1) fun w1 h1 => KK1.out w1 a1 n1 c1 (T1.out.ext h1)
  clear d0 d1 d2 d3 d4 d5 d6 d7 m00 m01 m02 m03 m04 m05 m06 m07 m10 m11 m12 m13 m14 m15 m16 m17 f5
  refine wp_region_quiet_below (by kernel_rfl) (by kernel_rfl) ?_
  repeat (go_big_quiet_step ((first | with_reducible exact Q0 _ _ | with_reducible exact Q1 _ _)))
  refine wpQuiet_nil ?_
  intro w5 hq_w5
  have x5 := ext_of_regrown hq_w5
  clear hq_w5
  go_wp2_with fail
  go_ret
  exact ⟨rfl, HY.out.trans x5⟩
set_option maxRecDepth 60000 in
set_option maxHeartbeats 4000000 in
theorem text_app (N : Nat) (hT : TextT N) (x : Hd) (y0 : Hd) (k0 : List Tm) (y1 : Hd) (k1 : List Tm) (w : World) (a : Option Addr) (c : Nat) (hk : x.k = 10) (ok : NodeOk x [.mk y0 k0, .mk y1 k1]) (hs0 : (Tm.mk y0 k0).size ≤ N) (hz0 : (Tm.mk y0 k0).size ≤ 1000000) (hn0 : ∀ u, u ∈ (Tm.mk y0 k0).all → u.node = true) (hs1 : (Tm.mk y1 k1).size ≤ N) (hz1 : (Tm.mk y1 k1).size ≤ 1000000) (hn1 : ∀ u, u ∈ (Tm.mk y1 k1).all → u.node = true) (ht : IsTmsA NoA w [.mk y0 k0, .mk y1 k1] a 2) :
    Calls Tryz.prog 23 #[.agg #[.int .u8 x.k, .int .u8 x.op, .int .i64 x.pos, .int .i64 x.n, .string x.name, .string x.arg, .string x.exn, .slice a 2 c]] w fun e w' => e = .returned (.string (bs (joinW (Tm.mk x [.mk y0 k0, .mk y1 k1]).wk))) ∧ Ext w w' := by
  have ne0 := wk_pos _ hn0
  have nk0 := fun p => kw_ne (p := p) ne0
  have ne1 := wk_pos _ hn1
  have nk1 := fun p => kw_ne (p := p) ne1
  have HE : bs (joinW (Tm.mk x [.mk y0 k0, .mk y1 k1]).wk) = ((bs (joinW ((Tm.mk y0 k0).kw 5)) ++ ⟨#[32]⟩) ++ bs (joinW ((Tm.mk y1 k1).kw 6))) := by
    rw [wk_10 hk]
    refine bs_ext2 ?_
    simp [ByteArray.data_append, bs_list, joinW_cons, joinW_append, joinW, w_fst, w_snd, w_ref, w_raise, w_fn, w_let, w_letrec, w_if, w_try, w_in, w_then, w_else, w_with, s_eq, s_to, s_set, s_plus, s_minus, s_star, s_less, s_bang, s_open, s_shut, s_comma, ne0, nk0, ne1, nk1]
  have sz0 : (bs (joinW ((Tm.mk y0 k0).kw 5))).size ≤ 200000000 := text_size hn0 hz0 _
  have KK0 : Hid (∀ W a1 n1 c1, IsTm W (.mk y0 k0) (.agg #[.int .u8 y0.k, .int .u8 y0.op, .int .i64 y0.pos, .int .i64 y0.n, .string y0.name, .string y0.arg, .string y0.exn, .slice a1 n1 c1]) → Calls Tryz.prog 51 #[.agg #[.int .u8 y0.k, .int .u8 y0.op, .int .i64 y0.pos, .int .i64 y0.n, .string y0.name, .string y0.arg, .string y0.exn, .slice a1 n1 c1], .int .i64 5] W fun e w' => e = .returned (.string (bs (joinW ((Tm.mk y0 k0).kw 5)))) ∧ Ext W w') := hid fun W a1 n1 c1 t1 => ref6_as N hT y0 k0 5 W a1 n1 c1 hs0 hz0 hn0 t1
  have sz1 : (bs (joinW ((Tm.mk y1 k1).kw 6))).size ≤ 200000000 := text_size hn1 hz1 _
  have KK1 : Hid (∀ W a1 n1 c1, IsTm W (.mk y1 k1) (.agg #[.int .u8 y1.k, .int .u8 y1.op, .int .i64 y1.pos, .int .i64 y1.n, .string y1.name, .string y1.arg, .string y1.exn, .slice a1 n1 c1]) → Calls Tryz.prog 51 #[.agg #[.int .u8 y1.k, .int .u8 y1.op, .int .i64 y1.pos, .int .i64 y1.n, .string y1.name, .string y1.arg, .string y1.exn, .slice a1 n1 c1], .int .i64 6] W fun e w' => e = .returned (.string (bs (joinW ((Tm.mk y1 k1).kw 6)))) ∧ Ext W w') := hid fun W a1 n1 c1 t1 => ref6_as N hT y1 k1 6 W a1 n1 c1 hs1 hz1 hn1 t1
  rw [HE, hk]
  have HE9 : True := trivial
  clear HE9
  generalize bs (joinW ((Tm.mk y0 k0).kw 5)) = X0 at *
  generalize bs (joinW ((Tm.mk y1 k1).kw 6)) = X1 at *
  obtain ⟨b, o, a0, n0, c0, rfl, q0⟩ := kid_any (i := 0) ht rfl
  obtain ⟨b', o', a1, n1, c1, e9, q1⟩ := kid_any (i := 1) ht rfl
  cases e9
  have n0_ : ¬ 9223372036854775807 < X0.size + 1 := by omega
  have n1_ : ¬ 9223372036854775807 < X0.size + 1 + X1.size := by omega
  clear hT ht HE hk ok hs0 hn0 hz0 ne0 nk0 hs1 hn1 hz1 ne1 nk1
  go_enter Tryz.func23, Tryz.ntmps23
  go_upto_region 3 with fail
  have B1 := (Blk.new w 28 #[.int .u8 10, .int .u8 x.op, .int .i64 x.pos, .int .i64 x.n, .string x.name, .string x.arg, .string x.exn, .slice (some ⟨b, o, none⟩) 2 c]).alloc (.cells #[.string ⟨#[43]⟩, .string ⟨#[45]⟩, .string ⟨#[42]⟩, .string ⟨#[60]⟩, .string ⟨#[61]⟩] 9)
  have Y1 : Ext w ((w.alloc (.cells #[.int .u8 10, .int .u8 x.op, .int .i64 x.pos, .int .i64 x.n, .string x.name, .string x.arg, .string x.exn, .slice (some ⟨b, o, none⟩) 2 c] 28)).alloc (.cells #[.string ⟨#[43]⟩, .string ⟨#[45]⟩, .string ⟨#[42]⟩, .string ⟨#[60]⟩, .string ⟨#[61]⟩] 9)) := by (exact eX)
  have q0 := q0.ext Y1
  have q1 := q1.ext Y1
  generalize (w.alloc (.cells #[.int .u8 10, .int .u8 x.op, .int .i64 x.pos, .int .i64 x.n, .string x.name, .string x.arg, .string x.exn, .slice (some ⟨b, o, none⟩) 2 c] 28)).alloc (.cells #[.string ⟨#[43]⟩, .string ⟨#[45]⟩, .string ⟨#[42]⟩, .string ⟨#[60]⟩, .string ⟨#[61]⟩] 9) = W1 at *
  obtain ⟨d0, d1, d2, d3, d4, d5, d6, d7⟩ := B1.eight
  have m00 := q0.c0
  have m01 := q0.c1
  have m02 := q0.c2
  have m03 := q0.c3
  have m04 := q0.c4
  have m05 := q0.c5
  have m06 := q0.c6
  have m07 := q0.c7
  simp only [Nat.zero_mul, Nat.add_zero, Nat.one_mul, Nat.reduceMul] at m00 m01 m02 m03 m04 m05 m06 m07
  have m10 := q1.c0
  have m11 := q1.c1
  have m12 := q1.c2
  have m13 := q1.c3
  have m14 := q1.c4
  have m15 := q1.c5
  have m16 := q1.c6
  have m17 := q1.c7
  simp only [Nat.zero_mul, Nat.add_zero, Nat.one_mul, Nat.reduceMul] at m10 m11 m12 m13 m14 m15 m16 m17
  have HY := hid Y1
  have T0 := hid q0.tm
  clear q0
  have T1 := hid q1.tm
  clear q1
  clear Y1 B1
  go_upto_region 28 with fail
  have Rd0 := cells_regrown d0
  have Rd1 := cells_regrown d1
  have Rd2 := cells_regrown d2
  have Rd3 := cells_regrown d3
  have Rd4 := cells_regrown d4
  have Rd5 := cells_regrown d5
  have Rd6 := cells_regrown d6
  have Rd7 := cells_regrown d7
  have Rm00 := cells_regrown m00
  have Rm01 := cells_regrown m01
  have Rm02 := cells_regrown m02
  have Rm03 := cells_regrown m03
  have Rm04 := cells_regrown m04
  have Rm05 := cells_regrown m05
  have Rm06 := cells_regrown m06
  have Rm07 := cells_regrown m07
  have Rm10 := cells_regrown m10
  have Rm11 := cells_regrown m11
  have Rm12 := cells_regrown m12
  have Rm13 := cells_regrown m13
  have Rm14 := cells_regrown m14
  have Rm15 := cells_regrown m15
  have Rm16 := cells_regrown m16
  have Rm17 := cells_regrown m17
  have Q0 := quiet_ext (w := W1) fun w1 h1 => KK0.out w1 a0 n0 c0 (T0.out.ext h1)
  have Q1 := quiet_ext (w := W1) fun w1 h1 => KK1.out w1 a1 n1 c1 (T1.out.ext h1)
  clear d0 d1 d2 d3 d4 d5 d6 d7 m00 m01 m02 m03 m04 m05 m06 m07 m10 m11 m12 m13 m14 m15 m16 m17
  refine wp_region_quiet_below (by kernel_rfl) (by kernel_rfl) ?_
  repeat (go_big_quiet_step ((first | with_reducible exact Q0 _ _ | with_reducible exact Q1 _ _)))
  refine wpQuiet_nil ?_
  intro w5 hq_w5
  have x5 := ext_of_regrown hq_w5
  clear hq_w5
  go_wp2_with fail
  go_ret
  exact ⟨rfl, HY.out.trans x5⟩
set_option maxRecDepth 60000 in
set_option maxHeartbeats 4000000 in
theorem text_fn (N : Nat) (hT : TextT N) (x : Hd) (y0 : Hd) (k0 : List Tm) (w : World) (a : Option Addr) (c : Nat) (hk : x.k = 11) (ok : NodeOk x [.mk y0 k0]) (hs0 : (Tm.mk y0 k0).size ≤ N) (hz0 : (Tm.mk y0 k0).size ≤ 1000000) (hn0 : ∀ u, u ∈ (Tm.mk y0 k0).all → u.node = true) (ht : IsTmsA NoA w [.mk y0 k0] a 1) :
    Calls Tryz.prog 23 #[.agg #[.int .u8 x.k, .int .u8 x.op, .int .i64 x.pos, .int .i64 x.n, .string x.name, .string x.arg, .string x.exn, .slice a 1 c]] w fun e w' => e = .returned (.string (bs (joinW (Tm.mk x [.mk y0 k0]).wk))) ∧ Ext w w' := by
  have ne0 := wk_pos _ hn0
  have nk0 := fun p => kw_ne (p := p) ne0
  have HE : bs (joinW (Tm.mk x [.mk y0 k0]).wk) = (((⟨#[102, 110, 32]⟩ ++ x.arg) ++ ⟨#[32, 61, 62, 32]⟩) ++ bs (joinW (Tm.mk y0 k0).wk)) := by
    rw [wk_11 hk]
    refine bs_ext2 ?_
    simp [ByteArray.data_append, bs_list, joinW_cons, joinW_append, joinW, w_fst, w_snd, w_ref, w_raise, w_fn, w_let, w_letrec, w_if, w_try, w_in, w_then, w_else, w_with, s_eq, s_to, s_set, s_plus, s_minus, s_star, s_less, s_bang, s_open, s_shut, s_comma, ne0, nk0]
  have sz0 : (bs (joinW (Tm.mk y0 k0).wk)).size ≤ 200000000 := by have h := text_size hn0 hz0 0; rwa [Tm.kw0] at h
  have KK0 := hid fun W a1 n1 c1 t1 => hT y0 k0 W a1 n1 c1 hs0 hz0 hn0 t1
  have s_arg : x.arg.size ≤ 16 := name_size (ok.arg1 (by simp [Hd.hasArg, hk]))
  rw [HE, hk]
  have HE9 : True := trivial
  clear HE9
  generalize bs (joinW (Tm.mk y0 k0).wk) = X0 at *
  obtain ⟨b, o, a0, n0, c0, rfl, q0⟩ := kid_any (i := 0) ht rfl
  have n0_ : ¬ 9223372036854775807 < 3 + x.arg.size := by omega
  have n1_ : ¬ 9223372036854775807 < 3 + x.arg.size + 4 := by omega
  have n2_ : ¬ 9223372036854775807 < 3 + x.arg.size + 4 + X0.size := by omega
  clear hT ht HE hk ok hs0 hn0 hz0 ne0 nk0
  go_enter Tryz.func23, Tryz.ntmps23
  go_upto_region 3 with fail
  have B1 := (Blk.new w 28 #[.int .u8 11, .int .u8 x.op, .int .i64 x.pos, .int .i64 x.n, .string x.name, .string x.arg, .string x.exn, .slice (some ⟨b, o, none⟩) 1 c]).alloc (.cells #[.string ⟨#[43]⟩, .string ⟨#[45]⟩, .string ⟨#[42]⟩, .string ⟨#[60]⟩, .string ⟨#[61]⟩] 9)
  have Y1 : Ext w ((w.alloc (.cells #[.int .u8 11, .int .u8 x.op, .int .i64 x.pos, .int .i64 x.n, .string x.name, .string x.arg, .string x.exn, .slice (some ⟨b, o, none⟩) 1 c] 28)).alloc (.cells #[.string ⟨#[43]⟩, .string ⟨#[45]⟩, .string ⟨#[42]⟩, .string ⟨#[60]⟩, .string ⟨#[61]⟩] 9)) := by (exact eX)
  have q0 := q0.ext Y1
  generalize (w.alloc (.cells #[.int .u8 11, .int .u8 x.op, .int .i64 x.pos, .int .i64 x.n, .string x.name, .string x.arg, .string x.exn, .slice (some ⟨b, o, none⟩) 1 c] 28)).alloc (.cells #[.string ⟨#[43]⟩, .string ⟨#[45]⟩, .string ⟨#[42]⟩, .string ⟨#[60]⟩, .string ⟨#[61]⟩] 9) = W1 at *
  obtain ⟨d0, d1, d2, d3, d4, d5, d6, d7⟩ := B1.eight
  have m00 := q0.c0
  have m01 := q0.c1
  have m02 := q0.c2
  have m03 := q0.c3
  have m04 := q0.c4
  have m05 := q0.c5
  have m06 := q0.c6
  have m07 := q0.c7
  simp only [Nat.zero_mul, Nat.add_zero, Nat.one_mul, Nat.reduceMul] at m00 m01 m02 m03 m04 m05 m06 m07
  have HY := hid Y1
  have T0 := hid q0.tm
  clear q0
  clear Y1 B1
  go_upto_region 30 with fail
  have Rd0 := cells_regrown d0
  have Rd1 := cells_regrown d1
  have Rd2 := cells_regrown d2
  have Rd3 := cells_regrown d3
  have Rd4 := cells_regrown d4
  have Rd5 := cells_regrown d5
  have Rd6 := cells_regrown d6
  have Rd7 := cells_regrown d7
  have Rm00 := cells_regrown m00
  have Rm01 := cells_regrown m01
  have Rm02 := cells_regrown m02
  have Rm03 := cells_regrown m03
  have Rm04 := cells_regrown m04
  have Rm05 := cells_regrown m05
  have Rm06 := cells_regrown m06
  have Rm07 := cells_regrown m07
  have Q0 := quiet_ext (w := W1) fun w1 h1 => KK0.out w1 a0 n0 c0 (T0.out.ext h1)
  clear d0 d1 d2 d3 d4 d5 d6 d7 m00 m01 m02 m03 m04 m05 m06 m07
  refine wp_region_quiet_below (by kernel_rfl) (by kernel_rfl) ?_
  repeat (go_big_quiet_step ((first | with_reducible exact Q0 _ _)))
  refine wpQuiet_nil ?_
  intro w5 hq_w5
  have x5 := ext_of_regrown hq_w5
  clear hq_w5
  go_wp2_with fail
  go_ret
  exact ⟨rfl, HY.out.trans x5⟩
set_option maxRecDepth 60000 in
set_option maxHeartbeats 4000000 in
theorem text_let (N : Nat) (hT : TextT N) (x : Hd) (y0 : Hd) (k0 : List Tm) (y1 : Hd) (k1 : List Tm) (w : World) (a : Option Addr) (c : Nat) (hk : x.k = 12) (ok : NodeOk x [.mk y0 k0, .mk y1 k1]) (hs0 : (Tm.mk y0 k0).size ≤ N) (hz0 : (Tm.mk y0 k0).size ≤ 1000000) (hn0 : ∀ u, u ∈ (Tm.mk y0 k0).all → u.node = true) (hs1 : (Tm.mk y1 k1).size ≤ N) (hz1 : (Tm.mk y1 k1).size ≤ 1000000) (hn1 : ∀ u, u ∈ (Tm.mk y1 k1).all → u.node = true) (ht : IsTmsA NoA w [.mk y0 k0, .mk y1 k1] a 2) :
    Calls Tryz.prog 23 #[.agg #[.int .u8 x.k, .int .u8 x.op, .int .i64 x.pos, .int .i64 x.n, .string x.name, .string x.arg, .string x.exn, .slice a 2 c]] w fun e w' => e = .returned (.string (bs (joinW (Tm.mk x [.mk y0 k0, .mk y1 k1]).wk))) ∧ Ext w w' := by
  have ne0 := wk_pos _ hn0
  have nk0 := fun p => kw_ne (p := p) ne0
  have ne1 := wk_pos _ hn1
  have nk1 := fun p => kw_ne (p := p) ne1
  have HE : bs (joinW (Tm.mk x [.mk y0 k0, .mk y1 k1]).wk) = (((((⟨#[108, 101, 116, 32]⟩ ++ x.name) ++ ⟨#[32, 61, 32]⟩) ++ bs (joinW (Tm.mk y0 k0).wk)) ++ ⟨#[32, 105, 110, 32]⟩) ++ bs (joinW (Tm.mk y1 k1).wk)) := by
    rw [wk_12 hk]
    refine bs_ext2 ?_
    simp [ByteArray.data_append, bs_list, joinW_cons, joinW_append, joinW, w_fst, w_snd, w_ref, w_raise, w_fn, w_let, w_letrec, w_if, w_try, w_in, w_then, w_else, w_with, s_eq, s_to, s_set, s_plus, s_minus, s_star, s_less, s_bang, s_open, s_shut, s_comma, ne0, nk0, ne1, nk1]
  have sz0 : (bs (joinW (Tm.mk y0 k0).wk)).size ≤ 200000000 := by have h := text_size hn0 hz0 0; rwa [Tm.kw0] at h
  have KK0 := hid fun W a1 n1 c1 t1 => hT y0 k0 W a1 n1 c1 hs0 hz0 hn0 t1
  have sz1 : (bs (joinW (Tm.mk y1 k1).wk)).size ≤ 200000000 := by have h := text_size hn1 hz1 0; rwa [Tm.kw0] at h
  have KK1 := hid fun W a1 n1 c1 t1 => hT y1 k1 W a1 n1 c1 hs1 hz1 hn1 t1
  have s_name : x.name.size ≤ 16 := name_size (ok.name1 (by simp [Hd.hasName, hk]))
  rw [HE, hk]
  have HE9 : True := trivial
  clear HE9
  generalize bs (joinW (Tm.mk y0 k0).wk) = X0 at *
  generalize bs (joinW (Tm.mk y1 k1).wk) = X1 at *
  obtain ⟨b, o, a0, n0, c0, rfl, q0⟩ := kid_any (i := 0) ht rfl
  obtain ⟨b', o', a1, n1, c1, e9, q1⟩ := kid_any (i := 1) ht rfl
  cases e9
  have n0_ : ¬ 9223372036854775807 < 4 + x.name.size := by omega
  have n1_ : ¬ 9223372036854775807 < 4 + x.name.size + 3 := by omega
  have n2_ : ¬ 9223372036854775807 < 4 + x.name.size + 3 + X0.size := by omega
  have n3_ : ¬ 9223372036854775807 < 4 + x.name.size + 3 + X0.size + 4 := by omega
  have n4_ : ¬ 9223372036854775807 < 4 + x.name.size + 3 + X0.size + 4 + X1.size := by omega
  clear hT ht HE hk ok hs0 hn0 hz0 ne0 nk0 hs1 hn1 hz1 ne1 nk1
  go_enter Tryz.func23, Tryz.ntmps23
  go_upto_region 3 with fail
  have B1 := (Blk.new w 28 #[.int .u8 12, .int .u8 x.op, .int .i64 x.pos, .int .i64 x.n, .string x.name, .string x.arg, .string x.exn, .slice (some ⟨b, o, none⟩) 2 c]).alloc (.cells #[.string ⟨#[43]⟩, .string ⟨#[45]⟩, .string ⟨#[42]⟩, .string ⟨#[60]⟩, .string ⟨#[61]⟩] 9)
  have Y1 : Ext w ((w.alloc (.cells #[.int .u8 12, .int .u8 x.op, .int .i64 x.pos, .int .i64 x.n, .string x.name, .string x.arg, .string x.exn, .slice (some ⟨b, o, none⟩) 2 c] 28)).alloc (.cells #[.string ⟨#[43]⟩, .string ⟨#[45]⟩, .string ⟨#[42]⟩, .string ⟨#[60]⟩, .string ⟨#[61]⟩] 9)) := by (exact eX)
  have q0 := q0.ext Y1
  have q1 := q1.ext Y1
  generalize (w.alloc (.cells #[.int .u8 12, .int .u8 x.op, .int .i64 x.pos, .int .i64 x.n, .string x.name, .string x.arg, .string x.exn, .slice (some ⟨b, o, none⟩) 2 c] 28)).alloc (.cells #[.string ⟨#[43]⟩, .string ⟨#[45]⟩, .string ⟨#[42]⟩, .string ⟨#[60]⟩, .string ⟨#[61]⟩] 9) = W1 at *
  obtain ⟨d0, d1, d2, d3, d4, d5, d6, d7⟩ := B1.eight
  have m00 := q0.c0
  have m01 := q0.c1
  have m02 := q0.c2
  have m03 := q0.c3
  have m04 := q0.c4
  have m05 := q0.c5
  have m06 := q0.c6
  have m07 := q0.c7
  simp only [Nat.zero_mul, Nat.add_zero, Nat.one_mul, Nat.reduceMul] at m00 m01 m02 m03 m04 m05 m06 m07
  have m10 := q1.c0
  have m11 := q1.c1
  have m12 := q1.c2
  have m13 := q1.c3
  have m14 := q1.c4
  have m15 := q1.c5
  have m16 := q1.c6
  have m17 := q1.c7
  simp only [Nat.zero_mul, Nat.add_zero, Nat.one_mul, Nat.reduceMul] at m10 m11 m12 m13 m14 m15 m16 m17
  have HY := hid Y1
  have T0 := hid q0.tm
  clear q0
  have T1 := hid q1.tm
  clear q1
  clear Y1 B1
  go_upto_region 32 with fail
  have Rd0 := cells_regrown d0
  have Rd1 := cells_regrown d1
  have Rd2 := cells_regrown d2
  have Rd3 := cells_regrown d3
  have Rd4 := cells_regrown d4
  have Rd5 := cells_regrown d5
  have Rd6 := cells_regrown d6
  have Rd7 := cells_regrown d7
  have Rm00 := cells_regrown m00
  have Rm01 := cells_regrown m01
  have Rm02 := cells_regrown m02
  have Rm03 := cells_regrown m03
  have Rm04 := cells_regrown m04
  have Rm05 := cells_regrown m05
  have Rm06 := cells_regrown m06
  have Rm07 := cells_regrown m07
  have Rm10 := cells_regrown m10
  have Rm11 := cells_regrown m11
  have Rm12 := cells_regrown m12
  have Rm13 := cells_regrown m13
  have Rm14 := cells_regrown m14
  have Rm15 := cells_regrown m15
  have Rm16 := cells_regrown m16
  have Rm17 := cells_regrown m17
  have Q0 := quiet_ext (w := W1) fun w1 h1 => KK0.out w1 a0 n0 c0 (T0.out.ext h1)
  have Q1 := quiet_ext (w := W1) fun w1 h1 => KK1.out w1 a1 n1 c1 (T1.out.ext h1)
  clear d0 d1 d2 d3 d4 d5 d6 d7 m00 m01 m02 m03 m04 m05 m06 m07 m10 m11 m12 m13 m14 m15 m16 m17
  refine wp_region_quiet_below (by kernel_rfl) (by kernel_rfl) ?_
  repeat (go_big_quiet_step ((first | with_reducible exact Q0 _ _ | with_reducible exact Q1 _ _)))
  refine wpQuiet_nil ?_
  intro w5 hq_w5
  have x5 := ext_of_regrown hq_w5
  clear hq_w5
  go_wp2_with fail
  go_ret
  exact ⟨rfl, HY.out.trans x5⟩
set_option maxRecDepth 60000 in
set_option maxHeartbeats 4000000 in
theorem text_letrec (N : Nat) (hT : TextT N) (x : Hd) (y0 : Hd) (k0 : List Tm) (y1 : Hd) (k1 : List Tm) (w : World) (a : Option Addr) (c : Nat) (hk : x.k = 13) (ok : NodeOk x [.mk y0 k0, .mk y1 k1]) (hs0 : (Tm.mk y0 k0).size ≤ N) (hz0 : (Tm.mk y0 k0).size ≤ 1000000) (hn0 : ∀ u, u ∈ (Tm.mk y0 k0).all → u.node = true) (hs1 : (Tm.mk y1 k1).size ≤ N) (hz1 : (Tm.mk y1 k1).size ≤ 1000000) (hn1 : ∀ u, u ∈ (Tm.mk y1 k1).all → u.node = true) (ht : IsTmsA NoA w [.mk y0 k0, .mk y1 k1] a 2) :
    Calls Tryz.prog 23 #[.agg #[.int .u8 x.k, .int .u8 x.op, .int .i64 x.pos, .int .i64 x.n, .string x.name, .string x.arg, .string x.exn, .slice a 2 c]] w fun e w' => e = .returned (.string (bs (joinW (Tm.mk x [.mk y0 k0, .mk y1 k1]).wk))) ∧ Ext w w' := by
  have ne0 := wk_pos _ hn0
  have nk0 := fun p => kw_ne (p := p) ne0
  have ne1 := wk_pos _ hn1
  have nk1 := fun p => kw_ne (p := p) ne1
  have HE : bs (joinW (Tm.mk x [.mk y0 k0, .mk y1 k1]).wk) = (((((((⟨#[108, 101, 116, 114, 101, 99, 32]⟩ ++ x.name) ++ ⟨#[32]⟩) ++ x.arg) ++ ⟨#[32, 61, 32]⟩) ++ bs (joinW (Tm.mk y0 k0).wk)) ++ ⟨#[32, 105, 110, 32]⟩) ++ bs (joinW (Tm.mk y1 k1).wk)) := by
    rw [wk_13 hk]
    refine bs_ext2 ?_
    simp [ByteArray.data_append, bs_list, joinW_cons, joinW_append, joinW, w_fst, w_snd, w_ref, w_raise, w_fn, w_let, w_letrec, w_if, w_try, w_in, w_then, w_else, w_with, s_eq, s_to, s_set, s_plus, s_minus, s_star, s_less, s_bang, s_open, s_shut, s_comma, ne0, nk0, ne1, nk1]
  have sz0 : (bs (joinW (Tm.mk y0 k0).wk)).size ≤ 200000000 := by have h := text_size hn0 hz0 0; rwa [Tm.kw0] at h
  have KK0 := hid fun W a1 n1 c1 t1 => hT y0 k0 W a1 n1 c1 hs0 hz0 hn0 t1
  have sz1 : (bs (joinW (Tm.mk y1 k1).wk)).size ≤ 200000000 := by have h := text_size hn1 hz1 0; rwa [Tm.kw0] at h
  have KK1 := hid fun W a1 n1 c1 t1 => hT y1 k1 W a1 n1 c1 hs1 hz1 hn1 t1
  have s_name : x.name.size ≤ 16 := name_size (ok.name1 (by simp [Hd.hasName, hk]))
  have s_arg : x.arg.size ≤ 16 := name_size (ok.arg1 (by simp [Hd.hasArg, hk]))
  rw [HE, hk]
  have HE9 : True := trivial
  clear HE9
  generalize bs (joinW (Tm.mk y0 k0).wk) = X0 at *
  generalize bs (joinW (Tm.mk y1 k1).wk) = X1 at *
  obtain ⟨b, o, a0, n0, c0, rfl, q0⟩ := kid_any (i := 0) ht rfl
  obtain ⟨b', o', a1, n1, c1, e9, q1⟩ := kid_any (i := 1) ht rfl
  cases e9
  have n0_ : ¬ 9223372036854775807 < 7 + x.name.size := by omega
  have n1_ : ¬ 9223372036854775807 < 7 + x.name.size + 1 := by omega
  have n2_ : ¬ 9223372036854775807 < 7 + x.name.size + 1 + x.arg.size := by omega
  have n3_ : ¬ 9223372036854775807 < 7 + x.name.size + 1 + x.arg.size + 3 := by omega
  have n4_ : ¬ 9223372036854775807 < 7 + x.name.size + 1 + x.arg.size + 3 + X0.size := by omega
  have n5_ : ¬ 9223372036854775807 < 7 + x.name.size + 1 + x.arg.size + 3 + X0.size + 4 := by omega
  have n6_ : ¬ 9223372036854775807 < 7 + x.name.size + 1 + x.arg.size + 3 + X0.size + 4 + X1.size := by omega
  clear hT ht HE hk ok hs0 hn0 hz0 ne0 nk0 hs1 hn1 hz1 ne1 nk1
  go_enter Tryz.func23, Tryz.ntmps23
  go_upto_region 3 with fail
  have B1 := (Blk.new w 28 #[.int .u8 13, .int .u8 x.op, .int .i64 x.pos, .int .i64 x.n, .string x.name, .string x.arg, .string x.exn, .slice (some ⟨b, o, none⟩) 2 c]).alloc (.cells #[.string ⟨#[43]⟩, .string ⟨#[45]⟩, .string ⟨#[42]⟩, .string ⟨#[60]⟩, .string ⟨#[61]⟩] 9)
  have Y1 : Ext w ((w.alloc (.cells #[.int .u8 13, .int .u8 x.op, .int .i64 x.pos, .int .i64 x.n, .string x.name, .string x.arg, .string x.exn, .slice (some ⟨b, o, none⟩) 2 c] 28)).alloc (.cells #[.string ⟨#[43]⟩, .string ⟨#[45]⟩, .string ⟨#[42]⟩, .string ⟨#[60]⟩, .string ⟨#[61]⟩] 9)) := by (exact eX)
  have q0 := q0.ext Y1
  have q1 := q1.ext Y1
  generalize (w.alloc (.cells #[.int .u8 13, .int .u8 x.op, .int .i64 x.pos, .int .i64 x.n, .string x.name, .string x.arg, .string x.exn, .slice (some ⟨b, o, none⟩) 2 c] 28)).alloc (.cells #[.string ⟨#[43]⟩, .string ⟨#[45]⟩, .string ⟨#[42]⟩, .string ⟨#[60]⟩, .string ⟨#[61]⟩] 9) = W1 at *
  obtain ⟨d0, d1, d2, d3, d4, d5, d6, d7⟩ := B1.eight
  have m00 := q0.c0
  have m01 := q0.c1
  have m02 := q0.c2
  have m03 := q0.c3
  have m04 := q0.c4
  have m05 := q0.c5
  have m06 := q0.c6
  have m07 := q0.c7
  simp only [Nat.zero_mul, Nat.add_zero, Nat.one_mul, Nat.reduceMul] at m00 m01 m02 m03 m04 m05 m06 m07
  have m10 := q1.c0
  have m11 := q1.c1
  have m12 := q1.c2
  have m13 := q1.c3
  have m14 := q1.c4
  have m15 := q1.c5
  have m16 := q1.c6
  have m17 := q1.c7
  simp only [Nat.zero_mul, Nat.add_zero, Nat.one_mul, Nat.reduceMul] at m10 m11 m12 m13 m14 m15 m16 m17
  have HY := hid Y1
  have T0 := hid q0.tm
  clear q0
  have T1 := hid q1.tm
  clear q1
  clear Y1 B1
  go_upto_region 34 with fail
  have Rd0 := cells_regrown d0
  have Rd1 := cells_regrown d1
  have Rd2 := cells_regrown d2
  have Rd3 := cells_regrown d3
  have Rd4 := cells_regrown d4
  have Rd5 := cells_regrown d5
  have Rd6 := cells_regrown d6
  have Rd7 := cells_regrown d7
  have Rm00 := cells_regrown m00
  have Rm01 := cells_regrown m01
  have Rm02 := cells_regrown m02
  have Rm03 := cells_regrown m03
  have Rm04 := cells_regrown m04
  have Rm05 := cells_regrown m05
  have Rm06 := cells_regrown m06
  have Rm07 := cells_regrown m07
  have Rm10 := cells_regrown m10
  have Rm11 := cells_regrown m11
  have Rm12 := cells_regrown m12
  have Rm13 := cells_regrown m13
  have Rm14 := cells_regrown m14
  have Rm15 := cells_regrown m15
  have Rm16 := cells_regrown m16
  have Rm17 := cells_regrown m17
  have Q0 := quiet_ext (w := W1) fun w1 h1 => KK0.out w1 a0 n0 c0 (T0.out.ext h1)
  have Q1 := quiet_ext (w := W1) fun w1 h1 => KK1.out w1 a1 n1 c1 (T1.out.ext h1)
  clear d0 d1 d2 d3 d4 d5 d6 d7 m00 m01 m02 m03 m04 m05 m06 m07 m10 m11 m12 m13 m14 m15 m16 m17
  refine wp_region_quiet_below (by kernel_rfl) (by kernel_rfl) ?_
  repeat (go_big_quiet_step ((first | with_reducible exact Q0 _ _ | with_reducible exact Q1 _ _)))
  refine wpQuiet_nil ?_
  intro w5 hq_w5
  have x5 := ext_of_regrown hq_w5
  clear hq_w5
  go_wp2_with fail
  go_ret
  exact ⟨rfl, HY.out.trans x5⟩
set_option maxRecDepth 60000 in
set_option maxHeartbeats 4000000 in
theorem text_if (N : Nat) (hT : TextT N) (x : Hd) (y0 : Hd) (k0 : List Tm) (y1 : Hd) (k1 : List Tm) (y2 : Hd) (k2 : List Tm) (w : World) (a : Option Addr) (c : Nat) (hk : x.k = 14) (ok : NodeOk x [.mk y0 k0, .mk y1 k1, .mk y2 k2]) (hs0 : (Tm.mk y0 k0).size ≤ N) (hz0 : (Tm.mk y0 k0).size ≤ 1000000) (hn0 : ∀ u, u ∈ (Tm.mk y0 k0).all → u.node = true) (hs1 : (Tm.mk y1 k1).size ≤ N) (hz1 : (Tm.mk y1 k1).size ≤ 1000000) (hn1 : ∀ u, u ∈ (Tm.mk y1 k1).all → u.node = true) (hs2 : (Tm.mk y2 k2).size ≤ N) (hz2 : (Tm.mk y2 k2).size ≤ 1000000) (hn2 : ∀ u, u ∈ (Tm.mk y2 k2).all → u.node = true) (ht : IsTmsA NoA w [.mk y0 k0, .mk y1 k1, .mk y2 k2] a 3) :
    Calls Tryz.prog 23 #[.agg #[.int .u8 x.k, .int .u8 x.op, .int .i64 x.pos, .int .i64 x.n, .string x.name, .string x.arg, .string x.exn, .slice a 3 c]] w fun e w' => e = .returned (.string (bs (joinW (Tm.mk x [.mk y0 k0, .mk y1 k1, .mk y2 k2]).wk))) ∧ Ext w w' := by
  have ne0 := wk_pos _ hn0
  have nk0 := fun p => kw_ne (p := p) ne0
  have ne1 := wk_pos _ hn1
  have nk1 := fun p => kw_ne (p := p) ne1
  have ne2 := wk_pos _ hn2
  have nk2 := fun p => kw_ne (p := p) ne2
  have HE : bs (joinW (Tm.mk x [.mk y0 k0, .mk y1 k1, .mk y2 k2]).wk) = (((((⟨#[105, 102, 32]⟩ ++ bs (joinW (Tm.mk y0 k0).wk)) ++ ⟨#[32, 116, 104, 101, 110, 32]⟩) ++ bs (joinW (Tm.mk y1 k1).wk)) ++ ⟨#[32, 101, 108, 115, 101, 32]⟩) ++ bs (joinW (Tm.mk y2 k2).wk)) := by
    rw [wk_14 hk]
    refine bs_ext2 ?_
    simp [ByteArray.data_append, bs_list, joinW_cons, joinW_append, joinW, w_fst, w_snd, w_ref, w_raise, w_fn, w_let, w_letrec, w_if, w_try, w_in, w_then, w_else, w_with, s_eq, s_to, s_set, s_plus, s_minus, s_star, s_less, s_bang, s_open, s_shut, s_comma, ne0, nk0, ne1, nk1, ne2, nk2]
  have sz0 : (bs (joinW (Tm.mk y0 k0).wk)).size ≤ 200000000 := by have h := text_size hn0 hz0 0; rwa [Tm.kw0] at h
  have KK0 := hid fun W a1 n1 c1 t1 => hT y0 k0 W a1 n1 c1 hs0 hz0 hn0 t1
  have sz1 : (bs (joinW (Tm.mk y1 k1).wk)).size ≤ 200000000 := by have h := text_size hn1 hz1 0; rwa [Tm.kw0] at h
  have KK1 := hid fun W a1 n1 c1 t1 => hT y1 k1 W a1 n1 c1 hs1 hz1 hn1 t1
  have sz2 : (bs (joinW (Tm.mk y2 k2).wk)).size ≤ 200000000 := by have h := text_size hn2 hz2 0; rwa [Tm.kw0] at h
  have KK2 := hid fun W a1 n1 c1 t1 => hT y2 k2 W a1 n1 c1 hs2 hz2 hn2 t1
  rw [HE, hk]
  have HE9 : True := trivial
  clear HE9
  generalize bs (joinW (Tm.mk y0 k0).wk) = X0 at *
  generalize bs (joinW (Tm.mk y1 k1).wk) = X1 at *
  generalize bs (joinW (Tm.mk y2 k2).wk) = X2 at *
  obtain ⟨b, o, a0, n0, c0, rfl, q0⟩ := kid_any (i := 0) ht rfl
  obtain ⟨b', o', a1, n1, c1, e9, q1⟩ := kid_any (i := 1) ht rfl
  cases e9
  obtain ⟨b', o', a2, n2, c2, e9, q2⟩ := kid_any (i := 2) ht rfl
  cases e9
  have n0_ : ¬ 9223372036854775807 < 3 + X0.size := by omega
  have n1_ : ¬ 9223372036854775807 < 3 + X0.size + 6 := by omega
  have n2_ : ¬ 9223372036854775807 < 3 + X0.size + 6 + X1.size := by omega
  have n3_ : ¬ 9223372036854775807 < 3 + X0.size + 6 + X1.size + 6 := by omega
  have n4_ : ¬ 9223372036854775807 < 3 + X0.size + 6 + X1.size + 6 + X2.size := by omega
  clear hT ht HE hk ok hs0 hn0 hz0 ne0 nk0 hs1 hn1 hz1 ne1 nk1 hs2 hn2 hz2 ne2 nk2
  go_enter Tryz.func23, Tryz.ntmps23
  go_upto_region 3 with fail
  have B1 := (Blk.new w 28 #[.int .u8 14, .int .u8 x.op, .int .i64 x.pos, .int .i64 x.n, .string x.name, .string x.arg, .string x.exn, .slice (some ⟨b, o, none⟩) 3 c]).alloc (.cells #[.string ⟨#[43]⟩, .string ⟨#[45]⟩, .string ⟨#[42]⟩, .string ⟨#[60]⟩, .string ⟨#[61]⟩] 9)
  have Y1 : Ext w ((w.alloc (.cells #[.int .u8 14, .int .u8 x.op, .int .i64 x.pos, .int .i64 x.n, .string x.name, .string x.arg, .string x.exn, .slice (some ⟨b, o, none⟩) 3 c] 28)).alloc (.cells #[.string ⟨#[43]⟩, .string ⟨#[45]⟩, .string ⟨#[42]⟩, .string ⟨#[60]⟩, .string ⟨#[61]⟩] 9)) := by (exact eX)
  have q0 := q0.ext Y1
  have q1 := q1.ext Y1
  have q2 := q2.ext Y1
  generalize (w.alloc (.cells #[.int .u8 14, .int .u8 x.op, .int .i64 x.pos, .int .i64 x.n, .string x.name, .string x.arg, .string x.exn, .slice (some ⟨b, o, none⟩) 3 c] 28)).alloc (.cells #[.string ⟨#[43]⟩, .string ⟨#[45]⟩, .string ⟨#[42]⟩, .string ⟨#[60]⟩, .string ⟨#[61]⟩] 9) = W1 at *
  obtain ⟨d0, d1, d2, d3, d4, d5, d6, d7⟩ := B1.eight
  have m00 := q0.c0
  have m01 := q0.c1
  have m02 := q0.c2
  have m03 := q0.c3
  have m04 := q0.c4
  have m05 := q0.c5
  have m06 := q0.c6
  have m07 := q0.c7
  simp only [Nat.zero_mul, Nat.add_zero, Nat.one_mul, Nat.reduceMul] at m00 m01 m02 m03 m04 m05 m06 m07
  have m10 := q1.c0
  have m11 := q1.c1
  have m12 := q1.c2
  have m13 := q1.c3
  have m14 := q1.c4
  have m15 := q1.c5
  have m16 := q1.c6
  have m17 := q1.c7
  simp only [Nat.zero_mul, Nat.add_zero, Nat.one_mul, Nat.reduceMul] at m10 m11 m12 m13 m14 m15 m16 m17
  have m20 := q2.c0
  have m21 := q2.c1
  have m22 := q2.c2
  have m23 := q2.c3
  have m24 := q2.c4
  have m25 := q2.c5
  have m26 := q2.c6
  have m27 := q2.c7
  simp only [Nat.zero_mul, Nat.add_zero, Nat.one_mul, Nat.reduceMul] at m20 m21 m22 m23 m24 m25 m26 m27
  have HY := hid Y1
  have T0 := hid q0.tm
  clear q0
  have T1 := hid q1.tm
  clear q1
  have T2 := hid q2.tm
  clear q2
  clear Y1 B1
  go_upto_region 36 with fail
  have Rd0 := cells_regrown d0
  have Rd1 := cells_regrown d1
  have Rd2 := cells_regrown d2
  have Rd3 := cells_regrown d3
  have Rd4 := cells_regrown d4
  have Rd5 := cells_regrown d5
  have Rd6 := cells_regrown d6
  have Rd7 := cells_regrown d7
  have Rm00 := cells_regrown m00
  have Rm01 := cells_regrown m01
  have Rm02 := cells_regrown m02
  have Rm03 := cells_regrown m03
  have Rm04 := cells_regrown m04
  have Rm05 := cells_regrown m05
  have Rm06 := cells_regrown m06
  have Rm07 := cells_regrown m07
  have Rm10 := cells_regrown m10
  have Rm11 := cells_regrown m11
  have Rm12 := cells_regrown m12
  have Rm13 := cells_regrown m13
  have Rm14 := cells_regrown m14
  have Rm15 := cells_regrown m15
  have Rm16 := cells_regrown m16
  have Rm17 := cells_regrown m17
  have Rm20 := cells_regrown m20
  have Rm21 := cells_regrown m21
  have Rm22 := cells_regrown m22
  have Rm23 := cells_regrown m23
  have Rm24 := cells_regrown m24
  have Rm25 := cells_regrown m25
  have Rm26 := cells_regrown m26
  have Rm27 := cells_regrown m27
  have Q0 := quiet_ext (w := W1) fun w1 h1 => KK0.out w1 a0 n0 c0 (T0.out.ext h1)
  have Q1 := quiet_ext (w := W1) fun w1 h1 => KK1.out w1 a1 n1 c1 (T1.out.ext h1)
  have Q2 := quiet_ext (w := W1) fun w1 h1 => KK2.out w1 a2 n2 c2 (T2.out.ext h1)
  clear d0 d1 d2 d3 d4 d5 d6 d7 m00 m01 m02 m03 m04 m05 m06 m07 m10 m11 m12 m13 m14 m15 m16 m17 m20 m21 m22 m23 m24 m25 m26 m27
  refine wp_region_quiet_below (by kernel_rfl) (by kernel_rfl) ?_
  repeat (go_big_quiet_step ((first | with_reducible exact Q0 _ _ | with_reducible exact Q1 _ _ | with_reducible exact Q2 _ _)))
  refine wpQuiet_nil ?_
  intro w5 hq_w5
  have x5 := ext_of_regrown hq_w5
  clear hq_w5
  go_wp2_with fail
  go_ret
  exact ⟨rfl, HY.out.trans x5⟩
set_option maxRecDepth 60000 in
set_option maxHeartbeats 4000000 in
theorem text_raise (N : Nat) (hT : TextT N) (x : Hd) (y0 : Hd) (k0 : List Tm) (w : World) (a : Option Addr) (c : Nat) (hk : x.k = 15) (ok : NodeOk x [.mk y0 k0]) (hs0 : (Tm.mk y0 k0).size ≤ N) (hz0 : (Tm.mk y0 k0).size ≤ 1000000) (hn0 : ∀ u, u ∈ (Tm.mk y0 k0).all → u.node = true) (ht : IsTmsA NoA w [.mk y0 k0] a 1) :
    Calls Tryz.prog 23 #[.agg #[.int .u8 x.k, .int .u8 x.op, .int .i64 x.pos, .int .i64 x.n, .string x.name, .string x.arg, .string x.exn, .slice a 1 c]] w fun e w' => e = .returned (.string (bs (joinW (Tm.mk x [.mk y0 k0]).wk))) ∧ Ext w w' := by
  have ne0 := wk_pos _ hn0
  have nk0 := fun p => kw_ne (p := p) ne0
  have HE : bs (joinW (Tm.mk x [.mk y0 k0]).wk) = (((⟨#[114, 97, 105, 115, 101, 32]⟩ ++ x.exn) ++ ⟨#[32]⟩) ++ bs (joinW ((Tm.mk y0 k0).kw 6))) := by
    rw [wk_15 hk]
    refine bs_ext2 ?_
    simp [ByteArray.data_append, bs_list, joinW_cons, joinW_append, joinW, w_fst, w_snd, w_ref, w_raise, w_fn, w_let, w_letrec, w_if, w_try, w_in, w_then, w_else, w_with, s_eq, s_to, s_set, s_plus, s_minus, s_star, s_less, s_bang, s_open, s_shut, s_comma, ne0, nk0]
  have sz0 : (bs (joinW ((Tm.mk y0 k0).kw 6))).size ≤ 200000000 := text_size hn0 hz0 _
  have KK0 : Hid (∀ W a1 n1 c1, IsTm W (.mk y0 k0) (.agg #[.int .u8 y0.k, .int .u8 y0.op, .int .i64 y0.pos, .int .i64 y0.n, .string y0.name, .string y0.arg, .string y0.exn, .slice a1 n1 c1]) → Calls Tryz.prog 51 #[.agg #[.int .u8 y0.k, .int .u8 y0.op, .int .i64 y0.pos, .int .i64 y0.n, .string y0.name, .string y0.arg, .string y0.exn, .slice a1 n1 c1], .int .i64 6] W fun e w' => e = .returned (.string (bs (joinW ((Tm.mk y0 k0).kw 6)))) ∧ Ext W w') := hid fun W a1 n1 c1 t1 => ref6_as N hT y0 k0 6 W a1 n1 c1 hs0 hz0 hn0 t1
  have s_exn : x.exn.size ≤ 16 := exn_size (ok.exn1 (by simp [Hd.hasExn, hk]))
  rw [HE, hk]
  have HE9 : True := trivial
  clear HE9
  generalize bs (joinW ((Tm.mk y0 k0).kw 6)) = X0 at *
  obtain ⟨b, o, a0, n0, c0, rfl, q0⟩ := kid_any (i := 0) ht rfl
  have n0_ : ¬ 9223372036854775807 < 6 + x.exn.size := by omega
  have n1_ : ¬ 9223372036854775807 < 6 + x.exn.size + 1 := by omega
  have n2_ : ¬ 9223372036854775807 < 6 + x.exn.size + 1 + X0.size := by omega
  clear hT ht HE hk ok hs0 hn0 hz0 ne0 nk0
  go_enter Tryz.func23, Tryz.ntmps23
  go_upto_region 3 with fail
  have B1 := (Blk.new w 28 #[.int .u8 15, .int .u8 x.op, .int .i64 x.pos, .int .i64 x.n, .string x.name, .string x.arg, .string x.exn, .slice (some ⟨b, o, none⟩) 1 c]).alloc (.cells #[.string ⟨#[43]⟩, .string ⟨#[45]⟩, .string ⟨#[42]⟩, .string ⟨#[60]⟩, .string ⟨#[61]⟩] 9)
  have Y1 : Ext w ((w.alloc (.cells #[.int .u8 15, .int .u8 x.op, .int .i64 x.pos, .int .i64 x.n, .string x.name, .string x.arg, .string x.exn, .slice (some ⟨b, o, none⟩) 1 c] 28)).alloc (.cells #[.string ⟨#[43]⟩, .string ⟨#[45]⟩, .string ⟨#[42]⟩, .string ⟨#[60]⟩, .string ⟨#[61]⟩] 9)) := by (exact eX)
  have q0 := q0.ext Y1
  generalize (w.alloc (.cells #[.int .u8 15, .int .u8 x.op, .int .i64 x.pos, .int .i64 x.n, .string x.name, .string x.arg, .string x.exn, .slice (some ⟨b, o, none⟩) 1 c] 28)).alloc (.cells #[.string ⟨#[43]⟩, .string ⟨#[45]⟩, .string ⟨#[42]⟩, .string ⟨#[60]⟩, .string ⟨#[61]⟩] 9) = W1 at *
  obtain ⟨d0, d1, d2, d3, d4, d5, d6, d7⟩ := B1.eight
  have m00 := q0.c0
  have m01 := q0.c1
  have m02 := q0.c2
  have m03 := q0.c3
  have m04 := q0.c4
  have m05 := q0.c5
  have m06 := q0.c6
  have m07 := q0.c7
  simp only [Nat.zero_mul, Nat.add_zero, Nat.one_mul, Nat.reduceMul] at m00 m01 m02 m03 m04 m05 m06 m07
  have HY := hid Y1
  have T0 := hid q0.tm
  clear q0
  clear Y1 B1
  go_upto_region 38 with fail
  have Rd0 := cells_regrown d0
  have Rd1 := cells_regrown d1
  have Rd2 := cells_regrown d2
  have Rd3 := cells_regrown d3
  have Rd4 := cells_regrown d4
  have Rd5 := cells_regrown d5
  have Rd6 := cells_regrown d6
  have Rd7 := cells_regrown d7
  have Rm00 := cells_regrown m00
  have Rm01 := cells_regrown m01
  have Rm02 := cells_regrown m02
  have Rm03 := cells_regrown m03
  have Rm04 := cells_regrown m04
  have Rm05 := cells_regrown m05
  have Rm06 := cells_regrown m06
  have Rm07 := cells_regrown m07
  have Q0 := quiet_ext (w := W1) fun w1 h1 => KK0.out w1 a0 n0 c0 (T0.out.ext h1)
  clear d0 d1 d2 d3 d4 d5 d6 d7 m00 m01 m02 m03 m04 m05 m06 m07
  refine wp_region_quiet_below (by kernel_rfl) (by kernel_rfl) ?_
  repeat (go_big_quiet_step ((first | with_reducible exact Q0 _ _)))
  refine wpQuiet_nil ?_
  intro w5 hq_w5
  have x5 := ext_of_regrown hq_w5
  clear hq_w5
  go_wp2_with fail
  go_ret
  exact ⟨rfl, HY.out.trans x5⟩
set_option maxRecDepth 60000 in
set_option maxHeartbeats 4000000 in
theorem text_try (N : Nat) (hT : TextT N) (x : Hd) (y0 : Hd) (k0 : List Tm) (y1 : Hd) (k1 : List Tm) (w : World) (a : Option Addr) (c : Nat) (hk : x.k = 16) (ok : NodeOk x [.mk y0 k0, .mk y1 k1]) (hs0 : (Tm.mk y0 k0).size ≤ N) (hz0 : (Tm.mk y0 k0).size ≤ 1000000) (hn0 : ∀ u, u ∈ (Tm.mk y0 k0).all → u.node = true) (hs1 : (Tm.mk y1 k1).size ≤ N) (hz1 : (Tm.mk y1 k1).size ≤ 1000000) (hn1 : ∀ u, u ∈ (Tm.mk y1 k1).all → u.node = true) (ht : IsTmsA NoA w [.mk y0 k0, .mk y1 k1] a 2) :
    Calls Tryz.prog 23 #[.agg #[.int .u8 x.k, .int .u8 x.op, .int .i64 x.pos, .int .i64 x.n, .string x.name, .string x.arg, .string x.exn, .slice a 2 c]] w fun e w' => e = .returned (.string (bs (joinW (Tm.mk x [.mk y0 k0, .mk y1 k1]).wk))) ∧ Ext w w' := by
  have ne0 := wk_pos _ hn0
  have nk0 := fun p => kw_ne (p := p) ne0
  have ne1 := wk_pos _ hn1
  have nk1 := fun p => kw_ne (p := p) ne1
  have HE : bs (joinW (Tm.mk x [.mk y0 k0, .mk y1 k1]).wk) = (((((((⟨#[116, 114, 121, 32]⟩ ++ bs (joinW (Tm.mk y0 k0).wk)) ++ ⟨#[32, 119, 105, 116, 104, 32]⟩) ++ x.exn) ++ ⟨#[32]⟩) ++ x.arg) ++ ⟨#[32, 61, 62, 32]⟩) ++ bs (joinW (Tm.mk y1 k1).wk)) := by
    rw [wk_16 hk]
    refine bs_ext2 ?_
    simp [ByteArray.data_append, bs_list, joinW_cons, joinW_append, joinW, w_fst, w_snd, w_ref, w_raise, w_fn, w_let, w_letrec, w_if, w_try, w_in, w_then, w_else, w_with, s_eq, s_to, s_set, s_plus, s_minus, s_star, s_less, s_bang, s_open, s_shut, s_comma, ne0, nk0, ne1, nk1]
  have sz0 : (bs (joinW (Tm.mk y0 k0).wk)).size ≤ 200000000 := by have h := text_size hn0 hz0 0; rwa [Tm.kw0] at h
  have KK0 := hid fun W a1 n1 c1 t1 => hT y0 k0 W a1 n1 c1 hs0 hz0 hn0 t1
  have sz1 : (bs (joinW (Tm.mk y1 k1).wk)).size ≤ 200000000 := by have h := text_size hn1 hz1 0; rwa [Tm.kw0] at h
  have KK1 := hid fun W a1 n1 c1 t1 => hT y1 k1 W a1 n1 c1 hs1 hz1 hn1 t1
  have s_exn : x.exn.size ≤ 16 := exn_size (ok.exn1 (by simp [Hd.hasExn, hk]))
  have s_arg : x.arg.size ≤ 16 := name_size (ok.arg1 (by simp [Hd.hasArg, hk]))
  rw [HE, hk]
  have HE9 : True := trivial
  clear HE9
  generalize bs (joinW (Tm.mk y0 k0).wk) = X0 at *
  generalize bs (joinW (Tm.mk y1 k1).wk) = X1 at *
  obtain ⟨b, o, a0, n0, c0, rfl, q0⟩ := kid_any (i := 0) ht rfl
  obtain ⟨b', o', a1, n1, c1, e9, q1⟩ := kid_any (i := 1) ht rfl
  cases e9
  have n0_ : ¬ 9223372036854775807 < 4 + X0.size := by omega
  have n1_ : ¬ 9223372036854775807 < 4 + X0.size + 6 := by omega
  have n2_ : ¬ 9223372036854775807 < 4 + X0.size + 6 + x.exn.size := by omega
  have n3_ : ¬ 9223372036854775807 < 4 + X0.size + 6 + x.exn.size + 1 := by omega
  have n4_ : ¬ 9223372036854775807 < 4 + X0.size + 6 + x.exn.size + 1 + x.arg.size := by omega
  have n5_ : ¬ 9223372036854775807 < 4 + X0.size + 6 + x.exn.size + 1 + x.arg.size + 4 := by omega
  have n6_ : ¬ 9223372036854775807 < 4 + X0.size + 6 + x.exn.size + 1 + x.arg.size + 4 + X1.size := by omega
  clear hT ht HE hk ok hs0 hn0 hz0 ne0 nk0 hs1 hn1 hz1 ne1 nk1
  go_enter Tryz.func23, Tryz.ntmps23
  go_upto_region 3 with fail
  have B1 := (Blk.new w 28 #[.int .u8 16, .int .u8 x.op, .int .i64 x.pos, .int .i64 x.n, .string x.name, .string x.arg, .string x.exn, .slice (some ⟨b, o, none⟩) 2 c]).alloc (.cells #[.string ⟨#[43]⟩, .string ⟨#[45]⟩, .string ⟨#[42]⟩, .string ⟨#[60]⟩, .string ⟨#[61]⟩] 9)
  have Y1 : Ext w ((w.alloc (.cells #[.int .u8 16, .int .u8 x.op, .int .i64 x.pos, .int .i64 x.n, .string x.name, .string x.arg, .string x.exn, .slice (some ⟨b, o, none⟩) 2 c] 28)).alloc (.cells #[.string ⟨#[43]⟩, .string ⟨#[45]⟩, .string ⟨#[42]⟩, .string ⟨#[60]⟩, .string ⟨#[61]⟩] 9)) := by (exact eX)
  have q0 := q0.ext Y1
  have q1 := q1.ext Y1
  generalize (w.alloc (.cells #[.int .u8 16, .int .u8 x.op, .int .i64 x.pos, .int .i64 x.n, .string x.name, .string x.arg, .string x.exn, .slice (some ⟨b, o, none⟩) 2 c] 28)).alloc (.cells #[.string ⟨#[43]⟩, .string ⟨#[45]⟩, .string ⟨#[42]⟩, .string ⟨#[60]⟩, .string ⟨#[61]⟩] 9) = W1 at *
  obtain ⟨d0, d1, d2, d3, d4, d5, d6, d7⟩ := B1.eight
  have m00 := q0.c0
  have m01 := q0.c1
  have m02 := q0.c2
  have m03 := q0.c3
  have m04 := q0.c4
  have m05 := q0.c5
  have m06 := q0.c6
  have m07 := q0.c7
  simp only [Nat.zero_mul, Nat.add_zero, Nat.one_mul, Nat.reduceMul] at m00 m01 m02 m03 m04 m05 m06 m07
  have m10 := q1.c0
  have m11 := q1.c1
  have m12 := q1.c2
  have m13 := q1.c3
  have m14 := q1.c4
  have m15 := q1.c5
  have m16 := q1.c6
  have m17 := q1.c7
  simp only [Nat.zero_mul, Nat.add_zero, Nat.one_mul, Nat.reduceMul] at m10 m11 m12 m13 m14 m15 m16 m17
  have HY := hid Y1
  have T0 := hid q0.tm
  clear q0
  have T1 := hid q1.tm
  clear q1
  clear Y1 B1
  go_upto_region 39 with fail
  have Rd0 := cells_regrown d0
  have Rd1 := cells_regrown d1
  have Rd2 := cells_regrown d2
  have Rd3 := cells_regrown d3
  have Rd4 := cells_regrown d4
  have Rd5 := cells_regrown d5
  have Rd6 := cells_regrown d6
  have Rd7 := cells_regrown d7
  have Rm00 := cells_regrown m00
  have Rm01 := cells_regrown m01
  have Rm02 := cells_regrown m02
  have Rm03 := cells_regrown m03
  have Rm04 := cells_regrown m04
  have Rm05 := cells_regrown m05
  have Rm06 := cells_regrown m06
  have Rm07 := cells_regrown m07
  have Rm10 := cells_regrown m10
  have Rm11 := cells_regrown m11
  have Rm12 := cells_regrown m12
  have Rm13 := cells_regrown m13
  have Rm14 := cells_regrown m14
  have Rm15 := cells_regrown m15
  have Rm16 := cells_regrown m16
  have Rm17 := cells_regrown m17
  have Q0 := quiet_ext (w := W1) fun w1 h1 => KK0.out w1 a0 n0 c0 (T0.out.ext h1)
  have Q1 := quiet_ext (w := W1) fun w1 h1 => KK1.out w1 a1 n1 c1 (T1.out.ext h1)
  clear d0 d1 d2 d3 d4 d5 d6 d7 m00 m01 m02 m03 m04 m05 m06 m07 m10 m11 m12 m13 m14 m15 m16 m17
  refine wp_region_quiet_below (by kernel_rfl) (by kernel_rfl) ?_
  repeat (go_big_quiet_step ((first | with_reducible exact Q0 _ _ | with_reducible exact Q1 _ _)))
  refine wpQuiet_nil ?_
  intro w5 hq_w5
  have x5 := ext_of_regrown hq_w5
  clear hq_w5
  go_wp2_with fail
  go_ret
  exact ⟨rfl, HY.out.trans x5⟩
end Go.Proofs.YtaioeailgknfjaaGreatDoor
