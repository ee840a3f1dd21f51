/- Part 30 of the proof: Show4; no condition of ours. -/
import Derived.Test.YtaioeailgknfjaaGreatDoorPkp3
import Derived.Test.YtaioeailgknfjaaGreatDoorPkp29
set_option linter.unusedVariables false
set_option linter.unusedSimpArgs false
namespace Go.Proofs.YtaioeailgknfjaaGreatDoor
open Go.Lib (hid)
open Go Go.RowKit Go.Sort
theorem itoa_pos {n : Int} (h : 0 ≤ n) : Lib.itoa n = Lib.decDigits n.toNat := by unfold Lib.itoa; rw [if_neg (by omega)]
theorem show_loose1 (W : World) : Calls Tryz.prog 79 #[.int .u8 1] W fun e w' => e = .returned (.int .i64 3) ∧ Ext W w' := show_loose 1 W
theorem show_op1 (W : World) : Calls Tryz.prog 80 #[.int .u8 1] W fun e w' => e = .returned (.string s_plus) ∧ Ext W w' := show_op 1 W (by omega)
theorem show_loose2 (W : World) : Calls Tryz.prog 79 #[.int .u8 2] W fun e w' => e = .returned (.int .i64 3) ∧ Ext W w' := show_loose 2 W
theorem show_op2 (W : World) : Calls Tryz.prog 80 #[.int .u8 2] W fun e w' => e = .returned (.string s_minus) ∧ Ext W w' := show_op 2 W (by omega)
theorem show_loose3 (W : World) : Calls Tryz.prog 79 #[.int .u8 3] W fun e w' => e = .returned (.int .i64 4) ∧ Ext W w' := show_loose 3 W
theorem show_op3 (W : World) : Calls Tryz.prog 80 #[.int .u8 3] W fun e w' => e = .returned (.string s_star) ∧ Ext W w' := show_op 3 W (by omega)
theorem show_loose4 (W : World) : Calls Tryz.prog 79 #[.int .u8 4] W fun e w' => e = .returned (.int .i64 2) ∧ Ext W w' := show_loose 4 W
theorem show_op4 (W : World) : Calls Tryz.prog 80 #[.int .u8 4] W fun e w' => e = .returned (.string s_less) ∧ Ext W w' := show_op 4 W (by omega)
theorem show_loose5 (W : World) : Calls Tryz.prog 79 #[.int .u8 5] W fun e w' => e = .returned (.int .i64 2) ∧ Ext W w' := show_loose 5 W
theorem show_op5 (W : World) : Calls Tryz.prog 80 #[.int .u8 5] W fun e w' => e = .returned (.string s_eq) ∧ Ext W w' := show_op 5 W (by omega)
set_option maxRecDepth 60000 in
set_option maxHeartbeats 4000000 in
theorem term_num (N : Nat) (hT : ShowT N) (x : Hd) (g : Nat) (v : Value) (ws : List ByteArray) (w : World) (a : Option Addr) (c : Nat) (hk : x.k = 1) (hn0 : 0 ≤ x.n) (hn1 : x.n ≤ 2147483647) (hW : WrAt w g v ws) (ht : IsTmsA (fun b => g ≤ b) w [] a 0) (hlen : ws.length + (Tm.mk x []).wk.length ≤ 1000000) :
    Calls Tryz.prog 48 #[.pointer (some ⟨g, 0, none⟩), .agg #[.int .u8 x.k, .int .u8 x.op, .int .i64 x.pos, .int .i64 x.n, .string x.name, .string x.arg, .string x.exn, .slice a 0 c]] w (RetWr w g v (ws ++ (Tm.mk x []).wx)) := by
  have e1 : (Tm.mk x []).wx = [bs (Lib.decDigits x.n.toNat)] := by unfold Tm.wx; rw [wk_1 hk]; simp
  have e2 : (Tm.mk x []).wk.length = (Tm.mk x []).wx.length := by simp [Tm.wx]
  have hl : ws.length + (1) ≤ 1000000 := by rw [e2, e1] at hlen; simp at hlen; omega
  rw [e1, hk]
  have KD := hid fun W (h : Tab W) => (words_digits x.n W (by omega) (by omega) h).mono (fun e w' h => (show e = .returned (.string (bs (Lib.decDigits x.n.toNat))) ∧ Ext W w' from ⟨by rw [h.1, itoa_pos hn0], h.2⟩))
  clear hn0 hn1
  have HW := hid hW
  clear hT ht hlen e1 e2 hW hk
  go_enter Tryz.func48, Tryz.ntmps48
  go_upto_region 1 with fail
  have B1 := hid (Blk.new w 28 #[.int .u8 1, .int .u8 x.op, .int .i64 x.pos, .int .i64 x.n, .string x.name, .string x.arg, .string x.exn, .slice a 0 c])
  have Y1 : Ext w (w.alloc (.cells #[.int .u8 1, .int .u8 x.op, .int .i64 x.pos, .int .i64 x.n, .string x.name, .string x.arg, .string x.exn, .slice a 0 c] 28)) := by (exact eX)
  have H1 := hid (WrTo.start HW.out |>.ext Y1)
  have N1 := hid (HW.out.keeps (Nat.le_refl _))
  clear Y1
  generalize w.alloc (.cells #[.int .u8 1, .int .u8 x.op, .int .i64 x.pos, .int .i64 x.n, .string x.name, .string x.arg, .string x.exn, .slice a 0 c] 28) = W1 at *
  have M0 := hid (WrTo.start H1.out.at_)
  have G1 := hid H1.out.at_.ge
  obtain ⟨d0, d1, d2, d3, d4, d5, d6, d7⟩ := B1.out.eight
  have lb := B1.out.lt
  go_wp2_with ((first | (go_at_call 76; refine (KD.out _ M0.out.at_.tab.tab).mono ?_; rintro e w1d ⟨rfl, x1d⟩; obtain ⟨d0, d1, d2, d3, d4, d5, d6, d7⟩ := (B1.out.ext x1d).eight) | (go_at_call 53; refine (show_put g v (ws) [bs (Lib.decDigits x.n.toNat)] _ ⟨_, 0, none⟩ 1 (M0.out.ext (x1d.alloc _)).at_ (row_text _ [bs (Lib.decDigits x.n.toNat)]) (by simp only [List.length_append, List.length_cons, List.length_nil]; omega)).mono ?_; intro e w2 hh; obtain ⟨rfl, v2, M, -⟩ := (M0.out.ext (x1d.alloc _)).more hh)))
  have M1 := hid M
  clear hh M d0 d1 d2 d3 d4 d5 d6 d7
  exact bodyPost_end (v := .tuple #[]) (results_none rfl _ _ _) rfl (by have h := (H1.out.trans M1.out).ret; simpa using h)
set_option maxRecDepth 60000 in
set_option maxHeartbeats 4000000 in
theorem term_var (N : Nat) (hT : ShowT N) (x : Hd) (g : Nat) (v : Value) (ws : List ByteArray) (w : World) (a : Option Addr) (c : Nat) (hk : x.k = 2) (hW : WrAt w g v ws) (ht : IsTmsA (fun b => g ≤ b) w [] a 0) (hlen : ws.length + (Tm.mk x []).wk.length ≤ 1000000) :
    Calls Tryz.prog 48 #[.pointer (some ⟨g, 0, none⟩), .agg #[.int .u8 x.k, .int .u8 x.op, .int .i64 x.pos, .int .i64 x.n, .string x.name, .string x.arg, .string x.exn, .slice a 0 c]] w (RetWr w g v (ws ++ (Tm.mk x []).wx)) := by
  have e1 : (Tm.mk x []).wx = [x.name] := by unfold Tm.wx; rw [wk_2 hk]; simp
  have e2 : (Tm.mk x []).wk.length = (Tm.mk x []).wx.length := by simp [Tm.wx]
  have hl : ws.length + (1) ≤ 1000000 := by rw [e2, e1] at hlen; simp at hlen; omega
  rw [e1, hk]
  have HW := hid hW
  clear hT ht hlen e1 e2 hW hk
  go_enter Tryz.func48, Tryz.ntmps48
  go_upto_region 1 with fail
  have B1 := hid (Blk.new w 28 #[.int .u8 2, .int .u8 x.op, .int .i64 x.pos, .int .i64 x.n, .string x.name, .string x.arg, .string x.exn, .slice a 0 c])
  have Y1 : Ext w (w.alloc (.cells #[.int .u8 2, .int .u8 x.op, .int .i64 x.pos, .int .i64 x.n, .string x.name, .string x.arg, .string x.exn, .slice a 0 c] 28)) := by (exact eX)
  have H1 := hid (WrTo.start HW.out |>.ext Y1)
  have N1 := hid (HW.out.keeps (Nat.le_refl _))
  clear Y1
  generalize w.alloc (.cells #[.int .u8 2, .int .u8 x.op, .int .i64 x.pos, .int .i64 x.n, .string x.name, .string x.arg, .string x.exn, .slice a 0 c] 28) = W1 at *
  have M0 := hid (WrTo.start H1.out.at_)
  have G1 := hid H1.out.at_.ge
  obtain ⟨d0, d1, d2, d3, d4, d5, d6, d7⟩ := B1.out.eight
  have lb := B1.out.lt
  go_wp2_with (go_at_call 53; refine (show_put g v (ws) [x.name] _ ⟨W1.heap.size, 0, none⟩ 1 (M0.out.ext ((Ext.refl W1).alloc _)).at_ (row_text W1 [x.name]) (by simp only [List.length_append, List.length_cons, List.length_nil]; omega)).mono ?_; intro e w2 hh; obtain ⟨rfl, v2, M, -⟩ := (M0.out.ext ((Ext.refl W1).alloc _)).more hh)
  have M1 := hid M
  clear hh M d0 d1 d2 d3 d4 d5 d6 d7
  exact bodyPost_end (v := .tuple #[]) (results_none rfl _ _ _) rfl (by have h := (H1.out.trans M1.out).ret; simpa using h)
set_option maxRecDepth 60000 in
set_option maxHeartbeats 4000000 in
theorem term_pair (N : Nat) (hT : ShowT N) (x : Hd) (y0 : Hd) (k0 : List Tm) (y1 : Hd) (k1 : List Tm) (g : Nat) (v : Value) (ws : List ByteArray) (w : World) (a : Option Addr) (c : Nat) (hk : x.k = 3) (hs0 : (Tm.mk y0 k0).size ≤ N) (hn0 : ∀ u, u ∈ (Tm.mk y0 k0).all → u.node = true) (hs1 : (Tm.mk y1 k1).size ≤ N) (hn1 : ∀ u, u ∈ (Tm.mk y1 k1).all → u.node = true) (hW : WrAt w g v ws) (ht : IsTmsA (fun b => g ≤ b) w [.mk y0 k0, .mk y1 k1] a 2) (hlen : ws.length + (Tm.mk x [.mk y0 k0, .mk y1 k1]).wk.length ≤ 1000000) :
    Calls Tryz.prog 48 #[.pointer (some ⟨g, 0, none⟩), .agg #[.int .u8 x.k, .int .u8 x.op, .int .i64 x.pos, .int .i64 x.n, .string x.name, .string x.arg, .string x.exn, .slice a 2 c]] w (RetWr w g v (ws ++ (Tm.mk x [.mk y0 k0, .mk y1 k1]).wx)) := by
  have e1 : (Tm.mk x [.mk y0 k0, .mk y1 k1]).wx = [s_open] ++ (Tm.mk y0 k0).kx 0 ++ [s_comma] ++ (Tm.mk y1 k1).kx 0 ++ [s_shut] := by unfold Tm.wx Tm.kx; rw [wk_3 hk, Tm.kw0, Tm.kw0]; simp
  have e2 : (Tm.mk x [.mk y0 k0, .mk y1 k1]).wk.length = (Tm.mk x [.mk y0 k0, .mk y1 k1]).wx.length := by simp [Tm.wx]
  have hl : ws.length + (1 + ((Tm.mk y0 k0).kx 0).length + 1 + ((Tm.mk y1 k1).kx 0).length + 1) ≤ 1000000 := by rw [e2, e1] at hlen; simp at hlen; omega
  rw [e1, hk]
  have hl0 : ((Tm.mk y0 k0).kx 0).length = ((Tm.mk y0 k0).kw 0).length := by simp [Tm.kx]
  have hl1 : ((Tm.mk y1 k1).kx 0).length = ((Tm.mk y1 k1).kw 0).length := by simp [Tm.kx]
  have KK1 := hid fun v1 w1 a1 n1 c1 a2 n2 c2 la lc (h1 : WrAt w1 g v1 (ws ++ [s_open])) t1 t2 h3 => show_between N hT y0 y1 k0 k1 0 0 [s_comma] g v1 (ws ++ [s_open]) w1 a1 a2 n1 c1 n2 c2 la lc hs0 hs1 hn0 hn1 h1 t1 t2 h3 (by simp only [List.length_append, List.length_cons, List.length_nil]; omega)
  obtain ⟨b, o, a0, n0, c0, rfl, q0⟩ := kid_at (i := 0) ht rfl
  obtain ⟨b', o', a1, n1, c1, e9, q1⟩ := kid_at (i := 1) ht rfl
  cases e9
  have Q0 := hid q0
  have Q1 := hid q1
  have HW := hid hW
  generalize (Tm.mk y0 k0).kx 0 = t0 at *
  generalize (Tm.mk y1 k1).kx 0 = t1 at *
  clear hT ht hlen e1 e2 hW hk hs0 hn0 hl0 q0 hs1 hn1 hl1 q1
  go_enter Tryz.func48, Tryz.ntmps48
  go_upto_region 1 with fail
  have B1 := hid (Blk.new w 28 #[.int .u8 3, .int .u8 x.op, .int .i64 x.pos, .int .i64 x.n, .string x.name, .string x.arg, .string x.exn, .slice (some ⟨b, o, none⟩) 2 c])
  have Y1 : Ext w (w.alloc (.cells #[.int .u8 3, .int .u8 x.op, .int .i64 x.pos, .int .i64 x.n, .string x.name, .string x.arg, .string x.exn, .slice (some ⟨b, o, none⟩) 2 c] 28)) := by (exact eX)
  have H1 := hid (WrTo.start HW.out |>.ext Y1)
  have Q0 := hid (Q0.out.ext (ExtX.of (A := WrX g v) Y1) HW.out.ge)
  have Q1 := hid (Q1.out.ext (ExtX.of (A := WrX g v) Y1) HW.out.ge)
  have N1 := hid (HW.out.keeps (Nat.le_refl _))
  clear Y1
  generalize w.alloc (.cells #[.int .u8 3, .int .u8 x.op, .int .i64 x.pos, .int .i64 x.n, .string x.name, .string x.arg, .string x.exn, .slice (some ⟨b, o, none⟩) 2 c] 28) = W1 at *
  have M0 := hid (WrTo.start H1.out.at_)
  have G1 := hid H1.out.at_.ge
  obtain ⟨d0, d1, d2, d3, d4, d5, d6, d7⟩ := B1.out.eight
  have lb := B1.out.lt
  go_upto_region 10 with (go_at_call 53; refine (show_put g v (ws) [s_open] _ ⟨W1.heap.size, 0, none⟩ 1 (M0.out.ext ((Ext.refl W1).alloc _)).at_ (row_text W1 [s_open]) (by simp only [List.length_append, List.length_cons, List.length_nil]; omega)).mono ?_; intro e w2 hh; obtain ⟨rfl, v2, M, -⟩ := (M0.out.ext ((Ext.refl W1).alloc _)).more hh)
  have M1 := hid M
  clear hh M d0 d1 d2 d3 d4 d5 d6 d7
  obtain ⟨d0, d1, d2, d3, d4, d5, d6, d7⟩ := (Blk.extx B1.out M1.out.x N1.out).eight
  have q0 := Q0.out.ext M1.out.x G1.out
  have q1 := Q1.out.ext M1.out.x G1.out
  have ge := M1.out.at_.ge
  have T0 := hid q0.tm
  have T1 := hid q1.tm
  have kb : ¬ WrX g v2 b := fun e => by have := ge b e; have := q0.lt; omega
  have m0 := fun W (h : ExtX (WrX g v2) w2 W) => h.cell kb q0.c0
  have m1 := fun W (h : ExtX (WrX g v2) w2 W) => h.cell kb q0.c1
  have m2 := fun W (h : ExtX (WrX g v2) w2 W) => h.cell kb q0.c2
  have m3 := fun W (h : ExtX (WrX g v2) w2 W) => h.cell kb q0.c3
  have m4 := fun W (h : ExtX (WrX g v2) w2 W) => h.cell kb q0.c4
  have m5 := fun W (h : ExtX (WrX g v2) w2 W) => h.cell kb q0.c5
  have m6 := fun W (h : ExtX (WrX g v2) w2 W) => h.cell kb q0.c6
  have m7 := fun W (h : ExtX (WrX g v2) w2 W) => h.cell kb q0.c7
  have p0 := fun W (h : ExtX (WrX g v2) w2 W) => h.cell kb q1.c0
  have p1 := fun W (h : ExtX (WrX g v2) w2 W) => h.cell kb q1.c1
  have p2 := fun W (h : ExtX (WrX g v2) w2 W) => h.cell kb q1.c2
  have p3 := fun W (h : ExtX (WrX g v2) w2 W) => h.cell kb q1.c3
  have p4 := fun W (h : ExtX (WrX g v2) w2 W) => h.cell kb q1.c4
  have p5 := fun W (h : ExtX (WrX g v2) w2 W) => h.cell kb q1.c5
  have p6 := fun W (h : ExtX (WrX g v2) w2 W) => h.cell kb q1.c6
  have p7 := fun W (h : ExtX (WrX g v2) w2 W) => h.cell kb q1.c7
  simp only [Nat.zero_mul, Nat.add_zero, Nat.one_mul] at m0 m1 m2 m3 m4 m5 m6 m7 p0 p1 p2 p3 p4 p5 p6 p7
  clear q0 q1 ge
  have NB := hid (M1.out.at_.keeps (Nat.le_refl _))
  clear d0 d1 d2 d3 d4 d5 d6 d7
  refine wp_region_held_drew (S := fun w' => ExtX (WrX g v2) w2 w') (by kernel_rfl) (by (try dsimp only); (exact xX)) (fun hHeld => ?_)
  refine tL 0 ?_;try simp only [Act.put,pA,pB,pC]
  refine tL 1 ?_;try simp only [Act.put,pA,pB,pC]
  refine tL 2 ?_;try simp only [Act.put,pA,pB,pC]
  refine tL 3 ?_;try simp only [Act.put,pA,pB,pC]
  refine tL 4 ?_;try simp only [Act.put,pA,pB,pC]
  refine tL 5 ?_;try simp only [Act.put,pA,pB,pC]
  refine tL 6 ?_;try simp only [Act.put,pA,pB,pC]
  refine dK 7 fun K hK => ?_; go_simp; refine hK.out _ _ (by (try dsimp only); (exact xX)) (fun hHeld => ?_); clear hK K; try simp only [Act.put,pA,pB,pC]
  refine dK 8 fun K hK => ?_; go_simp; (first | (go_at_call 77; refine (KK1.out v2 _ a0 n0 c0 a1 n1 c1 _ 1 (M1.out.ext (by (exact eX))).at_ (T0.out.ext (by (exact eX))) (T1.out.ext (by (exact eX))) (.inr ⟨_, rfl, (by simp), NB.out, fun j u hu => (by first | exact (Ext.refl (w2.alloc _)).drew.cell (row_text w2 [s_comma] j u hu) | exact row_text _ [s_comma] j u hu | exact (Ext.refl _).drew.cell (row_text _ [s_comma] j u hu))⟩)).mono ?_; intro e w3 hh; obtain ⟨rfl, v3, M, hx⟩ := (M1.out.ext (by (exact eX))).more hh; have HM := hid M; have z : ExtX (WrX g v2) w2 w3 := (by (exact xX) : ExtX (WrX g v2) w2 _).trans hx; clear hh M hx)); (try (focus (go_wp2_with fail))); refine hK.out _ _ (by (try dsimp only); (exact xX)) (fun hHeld => ?_); clear hK K; try simp only [Act.put,pA,pB,pC]
  refine wpAnyH_done (by kernel_rfl) ?_ _
  have M2 := hid HM.out
  clear HM z hHeld NB m0 m1 m2 m3 m4 m5 m6 m7 p0 p1 p2 p3 p4 p5 p6 p7 kb
  go_upto_region 11 with fail
  obtain ⟨d0, d1, d2, d3, d4, d5, d6, d7⟩ := (Blk.extx B1.out M2.out.x N1.out).eight
  go_wp2_with (go_at_call 53; refine (show_put g v3 (ws ++ [s_open] ++ t0 ++ [s_comma] ++ t1) [s_shut] _ ⟨w3.heap.size, 0, none⟩ 1 (M2.out.ext ((Ext.refl w3).alloc _)).at_ (row_text w3 [s_shut]) (by simp only [List.length_append, List.length_cons, List.length_nil]; omega)).mono ?_; intro e w4 hh; obtain ⟨rfl, v4, M, -⟩ := (M2.out.ext ((Ext.refl w3).alloc _)).more hh)
  have M3 := hid M
  clear hh M d0 d1 d2 d3 d4 d5 d6 d7
  exact bodyPost_end (v := .tuple #[]) (results_none rfl _ _ _) rfl (by have h := (H1.out.trans M3.out).ret; simpa using h)
set_option maxRecDepth 60000 in
set_option maxHeartbeats 4000000 in
theorem term_pre4 (N : Nat) (hT : ShowT N) (x : Hd) (y0 : Hd) (k0 : List Tm) (g : Nat) (v : Value) (ws : List ByteArray) (w : World) (a : Option Addr) (c : Nat) (hk : x.k = 4) (hs0 : (Tm.mk y0 k0).size ≤ N) (hn0 : ∀ u, u ∈ (Tm.mk y0 k0).all → u.node = true) (hW : WrAt w g v ws) (ht : IsTmsA (fun b => g ≤ b) w [.mk y0 k0] a 1) (hlen : ws.length + (Tm.mk x [.mk y0 k0]).wk.length ≤ 1000000) :
    Calls Tryz.prog 48 #[.pointer (some ⟨g, 0, none⟩), .agg #[.int .u8 x.k, .int .u8 x.op, .int .i64 x.pos, .int .i64 x.n, .string x.name, .string x.arg, .string x.exn, .slice a 1 c]] w (RetWr w g v (ws ++ (Tm.mk x [.mk y0 k0]).wx)) := by
  have e1 : (Tm.mk x [.mk y0 k0]).wx = [w_fst] ++ (Tm.mk y0 k0).kx 6 := by unfold Tm.wx Tm.kx; rw [wk_pre (by omega)]; simp [hk, preW]
  have e2 : (Tm.mk x [.mk y0 k0]).wk.length = (Tm.mk x [.mk y0 k0]).wx.length := by simp [Tm.wx]
  have hl : ws.length + (1 + ((Tm.mk y0 k0).kx 6).length) ≤ 1000000 := by rw [e2, e1] at hlen; simp at hlen; omega
  rw [e1, hk]
  have hl0 : ((Tm.mk y0 k0).kx 6).length = ((Tm.mk y0 k0).kw 6).length := by simp [Tm.kx]
  have KK1 := hid fun v1 w1 a1 n1 c1 (h1 : WrAt w1 g v1 (ws ++ [w_fst])) t1 => show_kid N hT y0 k0 6 g v1 (ws ++ [w_fst]) w1 a1 n1 c1 hs0 hn0 h1 t1 (by simp only [List.length_append, List.length_cons, List.length_nil]; omega)
  obtain ⟨b, o, a0, n0, c0, rfl, q0⟩ := kid_at (i := 0) ht rfl
  have Q0 := hid q0
  have HW := hid hW
  generalize (Tm.mk y0 k0).kx 6 = t0 at *
  clear hT ht hlen e1 e2 hW hk hs0 hn0 hl0 q0
  go_enter Tryz.func48, Tryz.ntmps48
  go_upto_region 1 with fail
  have B1 := hid (Blk.new w 28 #[.int .u8 4, .int .u8 x.op, .int .i64 x.pos, .int .i64 x.n, .string x.name, .string x.arg, .string x.exn, .slice (some ⟨b, o, none⟩) 1 c])
  have Y1 : Ext w (w.alloc (.cells #[.int .u8 4, .int .u8 x.op, .int .i64 x.pos, .int .i64 x.n, .string x.name, .string x.arg, .string x.exn, .slice (some ⟨b, o, none⟩) 1 c] 28)) := by (exact eX)
  have H1 := hid (WrTo.start HW.out |>.ext Y1)
  have Q0 := hid (Q0.out.ext (ExtX.of (A := WrX g v) Y1) HW.out.ge)
  have N1 := hid (HW.out.keeps (Nat.le_refl _))
  clear Y1
  generalize w.alloc (.cells #[.int .u8 4, .int .u8 x.op, .int .i64 x.pos, .int .i64 x.n, .string x.name, .string x.arg, .string x.exn, .slice (some ⟨b, o, none⟩) 1 c] 28) = W1 at *
  have M0 := hid (WrTo.start H1.out.at_)
  have G1 := hid H1.out.at_.ge
  obtain ⟨d0, d1, d2, d3, d4, d5, d6, d7⟩ := B1.out.eight
  have lb := B1.out.lt
  go_upto_region 17 with (go_at_call 53; refine (show_put g v (ws) [w_fst] _ ⟨W1.heap.size + 1, 0, none⟩ 1 (M0.out.ext (by (exact eX))).at_ (fun j u hu => by have h := row_text (W1.alloc (.cells #[.string ⟨#[102, 115, 116]⟩, .string ⟨#[115, 110, 100]⟩, .string ⟨#[114, 101, 102]⟩, .string ⟨#[33]⟩] 9)) [w_fst] j u hu; rw [World.size_alloc] at h; exact h) (by simp only [List.length_append, List.length_cons, List.length_nil]; omega)).mono ?_; intro e w2 hh; obtain ⟨rfl, v2, M, -⟩ := (M0.out.ext (by (exact eX))).more hh)
  have M1 := hid M
  clear hh M d0 d1 d2 d3 d4 d5 d6 d7
  obtain ⟨d0, d1, d2, d3, d4, d5, d6, d7⟩ := (Blk.extx B1.out M1.out.x N1.out).eight
  have q0 := Q0.out.ext M1.out.x G1.out
  have m0 := q0.c0
  have m1 := q0.c1
  have m2 := q0.c2
  have m3 := q0.c3
  have m4 := q0.c4
  have m5 := q0.c5
  have m6 := q0.c6
  have m7 := q0.c7
  simp only [Nat.zero_mul, Nat.add_zero, Nat.one_mul, Nat.reduceMul] at m0 m1 m2 m3 m4 m5 m6 m7
  have T0 := hid q0.tm
  clear q0
  go_wp2_with (go_at_call 78; refine (KK1.out v2 w2 _ _ _ M1.out.at_ T0.out).mono ?_; intro e w3 hh; obtain ⟨rfl, v3, M, -⟩ := M1.out.more hh)
  have M2 := hid M
  clear hh M d0 d1 d2 d3 d4 d5 d6 d7
  clear m0 m1 m2 m3 m4 m5 m6 m7
  exact bodyPost_end (v := .tuple #[]) (results_none rfl _ _ _) rfl (by have h := (H1.out.trans M2.out).ret; simpa using h)
set_option maxRecDepth 60000 in
set_option maxHeartbeats 4000000 in
theorem term_pre5 (N : Nat) (hT : ShowT N) (x : Hd) (y0 : Hd) (k0 : List Tm) (g : Nat) (v : Value) (ws : List ByteArray) (w : World) (a : Option Addr) (c : Nat) (hk : x.k = 5) (hs0 : (Tm.mk y0 k0).size ≤ N) (hn0 : ∀ u, u ∈ (Tm.mk y0 k0).all → u.node = true) (hW : WrAt w g v ws) (ht : IsTmsA (fun b => g ≤ b) w [.mk y0 k0] a 1) (hlen : ws.length + (Tm.mk x [.mk y0 k0]).wk.length ≤ 1000000) :
    Calls Tryz.prog 48 #[.pointer (some ⟨g, 0, none⟩), .agg #[.int .u8 x.k, .int .u8 x.op, .int .i64 x.pos, .int .i64 x.n, .string x.name, .string x.arg, .string x.exn, .slice a 1 c]] w (RetWr w g v (ws ++ (Tm.mk x [.mk y0 k0]).wx)) := by
  have e1 : (Tm.mk x [.mk y0 k0]).wx = [w_snd] ++ (Tm.mk y0 k0).kx 6 := by unfold Tm.wx Tm.kx; rw [wk_pre (by omega)]; simp [hk, preW]
  have e2 : (Tm.mk x [.mk y0 k0]).wk.length = (Tm.mk x [.mk y0 k0]).wx.length := by simp [Tm.wx]
  have hl : ws.length + (1 + ((Tm.mk y0 k0).kx 6).length) ≤ 1000000 := by rw [e2, e1] at hlen; simp at hlen; omega
  rw [e1, hk]
  have hl0 : ((Tm.mk y0 k0).kx 6).length = ((Tm.mk y0 k0).kw 6).length := by simp [Tm.kx]
  have KK1 := hid fun v1 w1 a1 n1 c1 (h1 : WrAt w1 g v1 (ws ++ [w_snd])) t1 => show_kid N hT y0 k0 6 g v1 (ws ++ [w_snd]) w1 a1 n1 c1 hs0 hn0 h1 t1 (by simp only [List.length_append, List.length_cons, List.length_nil]; omega)
  obtain ⟨b, o, a0, n0, c0, rfl, q0⟩ := kid_at (i := 0) ht rfl
  have Q0 := hid q0
  have HW := hid hW
  generalize (Tm.mk y0 k0).kx 6 = t0 at *
  clear hT ht hlen e1 e2 hW hk hs0 hn0 hl0 q0
  go_enter Tryz.func48, Tryz.ntmps48
  go_upto_region 1 with fail
  have B1 := hid (Blk.new w 28 #[.int .u8 5, .int .u8 x.op, .int .i64 x.pos, .int .i64 x.n, .string x.name, .string x.arg, .string x.exn, .slice (some ⟨b, o, none⟩) 1 c])
  have Y1 : Ext w (w.alloc (.cells #[.int .u8 5, .int .u8 x.op, .int .i64 x.pos, .int .i64 x.n, .string x.name, .string x.arg, .string x.exn, .slice (some ⟨b, o, none⟩) 1 c] 28)) := by (exact eX)
  have H1 := hid (WrTo.start HW.out |>.ext Y1)
  have Q0 := hid (Q0.out.ext (ExtX.of (A := WrX g v) Y1) HW.out.ge)
  have N1 := hid (HW.out.keeps (Nat.le_refl _))
  clear Y1
  generalize w.alloc (.cells #[.int .u8 5, .int .u8 x.op, .int .i64 x.pos, .int .i64 x.n, .string x.name, .string x.arg, .string x.exn, .slice (some ⟨b, o, none⟩) 1 c] 28) = W1 at *
  have M0 := hid (WrTo.start H1.out.at_)
  have G1 := hid H1.out.at_.ge
  obtain ⟨d0, d1, d2, d3, d4, d5, d6, d7⟩ := B1.out.eight
  have lb := B1.out.lt
  go_upto_region 17 with (go_at_call 53; refine (show_put g v (ws) [w_snd] _ ⟨W1.heap.size + 1, 0, none⟩ 1 (M0.out.ext (by (exact eX))).at_ (fun j u hu => by have h := row_text (W1.alloc (.cells #[.string ⟨#[102, 115, 116]⟩, .string ⟨#[115, 110, 100]⟩, .string ⟨#[114, 101, 102]⟩, .string ⟨#[33]⟩] 9)) [w_snd] j u hu; rw [World.size_alloc] at h; exact h) (by simp only [List.length_append, List.length_cons, List.length_nil]; omega)).mono ?_; intro e w2 hh; obtain ⟨rfl, v2, M, -⟩ := (M0.out.ext (by (exact eX))).more hh)
  have M1 := hid M
  clear hh M d0 d1 d2 d3 d4 d5 d6 d7
  obtain ⟨d0, d1, d2, d3, d4, d5, d6, d7⟩ := (Blk.extx B1.out M1.out.x N1.out).eight
  have q0 := Q0.out.ext M1.out.x G1.out
  have m0 := q0.c0
  have m1 := q0.c1
  have m2 := q0.c2
  have m3 := q0.c3
  have m4 := q0.c4
  have m5 := q0.c5
  have m6 := q0.c6
  have m7 := q0.c7
  simp only [Nat.zero_mul, Nat.add_zero, Nat.one_mul, Nat.reduceMul] at m0 m1 m2 m3 m4 m5 m6 m7
  have T0 := hid q0.tm
  clear q0
  go_wp2_with (go_at_call 78; refine (KK1.out v2 w2 _ _ _ M1.out.at_ T0.out).mono ?_; intro e w3 hh; obtain ⟨rfl, v3, M, -⟩ := M1.out.more hh)
  have M2 := hid M
  clear hh M d0 d1 d2 d3 d4 d5 d6 d7
  clear m0 m1 m2 m3 m4 m5 m6 m7
  exact bodyPost_end (v := .tuple #[]) (results_none rfl _ _ _) rfl (by have h := (H1.out.trans M2.out).ret; simpa using h)
set_option maxRecDepth 60000 in
set_option maxHeartbeats 4000000 in
theorem term_pre6 (N : Nat) (hT : ShowT N) (x : Hd) (y0 : Hd) (k0 : List Tm) (g : Nat) (v : Value) (ws : List ByteArray) (w : World) (a : Option Addr) (c : Nat) (hk : x.k = 6) (hs0 : (Tm.mk y0 k0).size ≤ N) (hn0 : ∀ u, u ∈ (Tm.mk y0 k0).all → u.node = true) (hW : WrAt w g v ws) (ht : IsTmsA (fun b => g ≤ b) w [.mk y0 k0] a 1) (hlen : ws.length + (Tm.mk x [.mk y0 k0]).wk.length ≤ 1000000) :
    Calls Tryz.prog 48 #[.pointer (some ⟨g, 0, none⟩), .agg #[.int .u8 x.k, .int .u8 x.op, .int .i64 x.pos, .int .i64 x.n, .string x.name, .string x.arg, .string x.exn, .slice a 1 c]] w (RetWr w g v (ws ++ (Tm.mk x [.mk y0 k0]).wx)) := by
  have e1 : (Tm.mk x [.mk y0 k0]).wx = [w_ref] ++ (Tm.mk y0 k0).kx 6 := by unfold Tm.wx Tm.kx; rw [wk_pre (by omega)]; simp [hk, preW]
  have e2 : (Tm.mk x [.mk y0 k0]).wk.length = (Tm.mk x [.mk y0 k0]).wx.length := by simp [Tm.wx]
  have hl : ws.length + (1 + ((Tm.mk y0 k0).kx 6).length) ≤ 1000000 := by rw [e2, e1] at hlen; simp at hlen; omega
  rw [e1, hk]
  have hl0 : ((Tm.mk y0 k0).kx 6).length = ((Tm.mk y0 k0).kw 6).length := by simp [Tm.kx]
  have KK1 := hid fun v1 w1 a1 n1 c1 (h1 : WrAt w1 g v1 (ws ++ [w_ref])) t1 => show_kid N hT y0 k0 6 g v1 (ws ++ [w_ref]) w1 a1 n1 c1 hs0 hn0 h1 t1 (by simp only [List.length_append, List.length_cons, List.length_nil]; omega)
  obtain ⟨b, o, a0, n0, c0, rfl, q0⟩ := kid_at (i := 0) ht rfl
  have Q0 := hid q0
  have HW := hid hW
  generalize (Tm.mk y0 k0).kx 6 = t0 at *
  clear hT ht hlen e1 e2 hW hk hs0 hn0 hl0 q0
  go_enter Tryz.func48, Tryz.ntmps48
  go_upto_region 1 with fail
  have B1 := hid (Blk.new w 28 #[.int .u8 6, .int .u8 x.op, .int .i64 x.pos, .int .i64 x.n, .string x.name, .string x.arg, .string x.exn, .slice (some ⟨b, o, none⟩) 1 c])
  have Y1 : Ext w (w.alloc (.cells #[.int .u8 6, .int .u8 x.op, .int .i64 x.pos, .int .i64 x.n, .string x.name, .string x.arg, .string x.exn, .slice (some ⟨b, o, none⟩) 1 c] 28)) := by (exact eX)
  have H1 := hid (WrTo.start HW.out |>.ext Y1)
  have Q0 := hid (Q0.out.ext (ExtX.of (A := WrX g v) Y1) HW.out.ge)
  have N1 := hid (HW.out.keeps (Nat.le_refl _))
  clear Y1
  generalize w.alloc (.cells #[.int .u8 6, .int .u8 x.op, .int .i64 x.pos, .int .i64 x.n, .string x.name, .string x.arg, .string x.exn, .slice (some ⟨b, o, none⟩) 1 c] 28) = W1 at *
  have M0 := hid (WrTo.start H1.out.at_)
  have G1 := hid H1.out.at_.ge
  obtain ⟨d0, d1, d2, d3, d4, d5, d6, d7⟩ := B1.out.eight
  have lb := B1.out.lt
  go_upto_region 17 with (go_at_call 53; refine (show_put g v (ws) [w_ref] _ ⟨W1.heap.size + 1, 0, none⟩ 1 (M0.out.ext (by (exact eX))).at_ (fun j u hu => by have h := row_text (W1.alloc (.cells #[.string ⟨#[102, 115, 116]⟩, .string ⟨#[115, 110, 100]⟩, .string ⟨#[114, 101, 102]⟩, .string ⟨#[33]⟩] 9)) [w_ref] j u hu; rw [World.size_alloc] at h; exact h) (by simp only [List.length_append, List.length_cons, List.length_nil]; omega)).mono ?_; intro e w2 hh; obtain ⟨rfl, v2, M, -⟩ := (M0.out.ext (by (exact eX))).more hh)
  have M1 := hid M
  clear hh M d0 d1 d2 d3 d4 d5 d6 d7
  obtain ⟨d0, d1, d2, d3, d4, d5, d6, d7⟩ := (Blk.extx B1.out M1.out.x N1.out).eight
  have q0 := Q0.out.ext M1.out.x G1.out
  have m0 := q0.c0
  have m1 := q0.c1
  have m2 := q0.c2
  have m3 := q0.c3
  have m4 := q0.c4
  have m5 := q0.c5
  have m6 := q0.c6
  have m7 := q0.c7
  simp only [Nat.zero_mul, Nat.add_zero, Nat.one_mul, Nat.reduceMul] at m0 m1 m2 m3 m4 m5 m6 m7
  have T0 := hid q0.tm
  clear q0
  go_wp2_with (go_at_call 78; refine (KK1.out v2 w2 _ _ _ M1.out.at_ T0.out).mono ?_; intro e w3 hh; obtain ⟨rfl, v3, M, -⟩ := M1.out.more hh)
  have M2 := hid M
  clear hh M d0 d1 d2 d3 d4 d5 d6 d7
  clear m0 m1 m2 m3 m4 m5 m6 m7
  exact bodyPost_end (v := .tuple #[]) (results_none rfl _ _ _) rfl (by have h := (H1.out.trans M2.out).ret; simpa using h)
set_option maxRecDepth 60000 in
set_option maxHeartbeats 4000000 in
theorem term_pre7 (N : Nat) (hT : ShowT N) (x : Hd) (y0 : Hd) (k0 : List Tm) (g : Nat) (v : Value) (ws : List ByteArray) (w : World) (a : Option Addr) (c : Nat) (hk : x.k = 7) (hs0 : (Tm.mk y0 k0).size ≤ N) (hn0 : ∀ u, u ∈ (Tm.mk y0 k0).all → u.node = true) (hW : WrAt w g v ws) (ht : IsTmsA (fun b => g ≤ b) w [.mk y0 k0] a 1) (hlen : ws.length + (Tm.mk x [.mk y0 k0]).wk.length ≤ 1000000) :
    Calls Tryz.prog 48 #[.pointer (some ⟨g, 0, none⟩), .agg #[.int .u8 x.k, .int .u8 x.op, .int .i64 x.pos, .int .i64 x.n, .string x.name, .string x.arg, .string x.exn, .slice a 1 c]] w (RetWr w g v (ws ++ (Tm.mk x [.mk y0 k0]).wx)) := by
  have e1 : (Tm.mk x [.mk y0 k0]).wx = [s_bang] ++ (Tm.mk y0 k0).kx 6 := by unfold Tm.wx Tm.kx; rw [wk_pre (by omega)]; simp [hk, preW]
  have e2 : (Tm.mk x [.mk y0 k0]).wk.length = (Tm.mk x [.mk y0 k0]).wx.length := by simp [Tm.wx]
  have hl : ws.length + (1 + ((Tm.mk y0 k0).kx 6).length) ≤ 1000000 := by rw [e2, e1] at hlen; simp at hlen; omega
  rw [e1, hk]
  have hl0 : ((Tm.mk y0 k0).kx 6).length = ((Tm.mk y0 k0).kw 6).length := by simp [Tm.kx]
  have KK1 := hid fun v1 w1 a1 n1 c1 (h1 : WrAt w1 g v1 (ws ++ [s_bang])) t1 => show_kid N hT y0 k0 6 g v1 (ws ++ [s_bang]) w1 a1 n1 c1 hs0 hn0 h1 t1 (by simp only [List.length_append, List.length_cons, List.length_nil]; omega)
  obtain ⟨b, o, a0, n0, c0, rfl, q0⟩ := kid_at (i := 0) ht rfl
  have Q0 := hid q0
  have HW := hid hW
  generalize (Tm.mk y0 k0).kx 6 = t0 at *
  clear hT ht hlen e1 e2 hW hk hs0 hn0 hl0 q0
  go_enter Tryz.func48, Tryz.ntmps48
  go_upto_region 1 with fail
  have B1 := hid (Blk.new w 28 #[.int .u8 7, .int .u8 x.op, .int .i64 x.pos, .int .i64 x.n, .string x.name, .string x.arg, .string x.exn, .slice (some ⟨b, o, none⟩) 1 c])
  have Y1 : Ext w (w.alloc (.cells #[.int .u8 7, .int .u8 x.op, .int .i64 x.pos, .int .i64 x.n, .string x.name, .string x.arg, .string x.exn, .slice (some ⟨b, o, none⟩) 1 c] 28)) := by (exact eX)
  have H1 := hid (WrTo.start HW.out |>.ext Y1)
  have Q0 := hid (Q0.out.ext (ExtX.of (A := WrX g v) Y1) HW.out.ge)
  have N1 := hid (HW.out.keeps (Nat.le_refl _))
  clear Y1
  generalize w.alloc (.cells #[.int .u8 7, .int .u8 x.op, .int .i64 x.pos, .int .i64 x.n, .string x.name, .string x.arg, .string x.exn, .slice (some ⟨b, o, none⟩) 1 c] 28) = W1 at *
  have M0 := hid (WrTo.start H1.out.at_)
  have G1 := hid H1.out.at_.ge
  obtain ⟨d0, d1, d2, d3, d4, d5, d6, d7⟩ := B1.out.eight
  have lb := B1.out.lt
  go_upto_region 17 with (go_at_call 53; refine (show_put g v (ws) [s_bang] _ ⟨W1.heap.size + 1, 0, none⟩ 1 (M0.out.ext (by (exact eX))).at_ (fun j u hu => by have h := row_text (W1.alloc (.cells #[.string ⟨#[102, 115, 116]⟩, .string ⟨#[115, 110, 100]⟩, .string ⟨#[114, 101, 102]⟩, .string ⟨#[33]⟩] 9)) [s_bang] j u hu; rw [World.size_alloc] at h; exact h) (by simp only [List.length_append, List.length_cons, List.length_nil]; omega)).mono ?_; intro e w2 hh; obtain ⟨rfl, v2, M, -⟩ := (M0.out.ext (by (exact eX))).more hh)
  have M1 := hid M
  clear hh M d0 d1 d2 d3 d4 d5 d6 d7
  obtain ⟨d0, d1, d2, d3, d4, d5, d6, d7⟩ := (Blk.extx B1.out M1.out.x N1.out).eight
  have q0 := Q0.out.ext M1.out.x G1.out
  have m0 := q0.c0
  have m1 := q0.c1
  have m2 := q0.c2
  have m3 := q0.c3
  have m4 := q0.c4
  have m5 := q0.c5
  have m6 := q0.c6
  have m7 := q0.c7
  simp only [Nat.zero_mul, Nat.add_zero, Nat.one_mul, Nat.reduceMul] at m0 m1 m2 m3 m4 m5 m6 m7
  have T0 := hid q0.tm
  clear q0
  go_wp2_with (go_at_call 78; refine (KK1.out v2 w2 _ _ _ M1.out.at_ T0.out).mono ?_; intro e w3 hh; obtain ⟨rfl, v3, M, -⟩ := M1.out.more hh)
  have M2 := hid M
  clear hh M d0 d1 d2 d3 d4 d5 d6 d7
  clear m0 m1 m2 m3 m4 m5 m6 m7
  exact bodyPost_end (v := .tuple #[]) (results_none rfl _ _ _) rfl (by have h := (H1.out.trans M2.out).ret; simpa using h)
set_option maxRecDepth 60000 in
set_option maxHeartbeats 4000000 in
theorem term_raise (N : Nat) (hT : ShowT N) (x : Hd) (y0 : Hd) (k0 : List Tm) (g : Nat) (v : Value) (ws : List ByteArray) (w : World) (a : Option Addr) (c : Nat) (hk : x.k = 15) (hs0 : (Tm.mk y0 k0).size ≤ N) (hn0 : ∀ u, u ∈ (Tm.mk y0 k0).all → u.node = true) (hW : WrAt w g v ws) (ht : IsTmsA (fun b => g ≤ b) w [.mk y0 k0] a 1) (hlen : ws.length + (Tm.mk x [.mk y0 k0]).wk.length ≤ 1000000) :
    Calls Tryz.prog 48 #[.pointer (some ⟨g, 0, none⟩), .agg #[.int .u8 x.k, .int .u8 x.op, .int .i64 x.pos, .int .i64 x.n, .string x.name, .string x.arg, .string x.exn, .slice a 1 c]] w (RetWr w g v (ws ++ (Tm.mk x [.mk y0 k0]).wx)) := by
  have e1 : (Tm.mk x [.mk y0 k0]).wx = [w_raise, x.exn] ++ (Tm.mk y0 k0).kx 6 := by unfold Tm.wx Tm.kx; rw [wk_15 hk]; simp
  have e2 : (Tm.mk x [.mk y0 k0]).wk.length = (Tm.mk x [.mk y0 k0]).wx.length := by simp [Tm.wx]
  have hl : ws.length + (2 + ((Tm.mk y0 k0).kx 6).length) ≤ 1000000 := by rw [e2, e1] at hlen; simp at hlen; omega
  rw [e1, hk]
  have hl0 : ((Tm.mk y0 k0).kx 6).length = ((Tm.mk y0 k0).kw 6).length := by simp [Tm.kx]
  have KK1 := hid fun v1 w1 a1 n1 c1 (h1 : WrAt w1 g v1 (ws ++ [w_raise, x.exn])) t1 => show_kid N hT y0 k0 6 g v1 (ws ++ [w_raise, x.exn]) w1 a1 n1 c1 hs0 hn0 h1 t1 (by simp only [List.length_append, List.length_cons, List.length_nil]; omega)
  obtain ⟨b, o, a0, n0, c0, rfl, q0⟩ := kid_at (i := 0) ht rfl
  have Q0 := hid q0
  have HW := hid hW
  generalize (Tm.mk y0 k0).kx 6 = t0 at *
  clear hT ht hlen e1 e2 hW hk hs0 hn0 hl0 q0
  go_enter Tryz.func48, Tryz.ntmps48
  go_upto_region 1 with fail
  have B1 := hid (Blk.new w 28 #[.int .u8 15, .int .u8 x.op, .int .i64 x.pos, .int .i64 x.n, .string x.name, .string x.arg, .string x.exn, .slice (some ⟨b, o, none⟩) 1 c])
  have Y1 : Ext w (w.alloc (.cells #[.int .u8 15, .int .u8 x.op, .int .i64 x.pos, .int .i64 x.n, .string x.name, .string x.arg, .string x.exn, .slice (some ⟨b, o, none⟩) 1 c] 28)) := by (exact eX)
  have H1 := hid (WrTo.start HW.out |>.ext Y1)
  have Q0 := hid (Q0.out.ext (ExtX.of (A := WrX g v) Y1) HW.out.ge)
  have N1 := hid (HW.out.keeps (Nat.le_refl _))
  clear Y1
  generalize w.alloc (.cells #[.int .u8 15, .int .u8 x.op, .int .i64 x.pos, .int .i64 x.n, .string x.name, .string x.arg, .string x.exn, .slice (some ⟨b, o, none⟩) 1 c] 28) = W1 at *
  have M0 := hid (WrTo.start H1.out.at_)
  have G1 := hid H1.out.at_.ge
  obtain ⟨d0, d1, d2, d3, d4, d5, d6, d7⟩ := B1.out.eight
  have lb := B1.out.lt
  go_upto_region 20 with (go_at_call 53; refine (show_put g v (ws) [w_raise, x.exn] _ ⟨W1.heap.size, 0, none⟩ 2 (M0.out.ext ((Ext.refl W1).alloc _)).at_ (row_text W1 [w_raise, x.exn]) (by simp only [List.length_append, List.length_cons, List.length_nil]; omega)).mono ?_; intro e w2 hh; obtain ⟨rfl, v2, M, -⟩ := (M0.out.ext ((Ext.refl W1).alloc _)).more hh)
  have M1 := hid M
  clear hh M d0 d1 d2 d3 d4 d5 d6 d7
  obtain ⟨d0, d1, d2, d3, d4, d5, d6, d7⟩ := (Blk.extx B1.out M1.out.x N1.out).eight
  have q0 := Q0.out.ext M1.out.x G1.out
  have m0 := q0.c0
  have m1 := q0.c1
  have m2 := q0.c2
  have m3 := q0.c3
  have m4 := q0.c4
  have m5 := q0.c5
  have m6 := q0.c6
  have m7 := q0.c7
  simp only [Nat.zero_mul, Nat.add_zero, Nat.one_mul, Nat.reduceMul] at m0 m1 m2 m3 m4 m5 m6 m7
  have T0 := hid q0.tm
  clear q0
  go_wp2_with (go_at_call 78; refine (KK1.out v2 w2 _ _ _ M1.out.at_ T0.out).mono ?_; intro e w3 hh; obtain ⟨rfl, v3, M, -⟩ := M1.out.more hh)
  have M2 := hid M
  clear hh M d0 d1 d2 d3 d4 d5 d6 d7
  clear m0 m1 m2 m3 m4 m5 m6 m7
  exact bodyPost_end (v := .tuple #[]) (results_none rfl _ _ _) rfl (by have h := (H1.out.trans M2.out).ret; simpa using h)
set_option maxRecDepth 60000 in
set_option maxHeartbeats 4000000 in
theorem term_set (N : Nat) (hT : ShowT N) (x : Hd) (y0 : Hd) (k0 : List Tm) (y1 : Hd) (k1 : List Tm) (g : Nat) (v : Value) (ws : List ByteArray) (w : World) (a : Option Addr) (c : Nat) (hk : x.k = 8) (hs0 : (Tm.mk y0 k0).size ≤ N) (hn0 : ∀ u, u ∈ (Tm.mk y0 k0).all → u.node = true) (hs1 : (Tm.mk y1 k1).size ≤ N) (hn1 : ∀ u, u ∈ (Tm.mk y1 k1).all → u.node = true) (hW : WrAt w g v ws) (ht : IsTmsA (fun b => g ≤ b) w [.mk y0 k0, .mk y1 k1] a 2) (hlen : ws.length + (Tm.mk x [.mk y0 k0, .mk y1 k1]).wk.length ≤ 1000000) :
    Calls Tryz.prog 48 #[.pointer (some ⟨g, 0, none⟩), .agg #[.int .u8 x.k, .int .u8 x.op, .int .i64 x.pos, .int .i64 x.n, .string x.name, .string x.arg, .string x.exn, .slice a 2 c]] w (RetWr w g v (ws ++ (Tm.mk x [.mk y0 k0, .mk y1 k1]).wx)) := by
  have e1 : (Tm.mk x [.mk y0 k0, .mk y1 k1]).wx = (Tm.mk y0 k0).kx 2 ++ [s_set] ++ (Tm.mk y1 k1).kx 2 := by unfold Tm.wx Tm.kx; rw [wk_8 hk]; simp
  have e2 : (Tm.mk x [.mk y0 k0, .mk y1 k1]).wk.length = (Tm.mk x [.mk y0 k0, .mk y1 k1]).wx.length := by simp [Tm.wx]
  have hl : ws.length + (((Tm.mk y0 k0).kx 2).length + 1 + ((Tm.mk y1 k1).kx 2).length) ≤ 1000000 := by rw [e2, e1] at hlen; simp at hlen; omega
  rw [e1, hk]
  have hl0 : ((Tm.mk y0 k0).kx 2).length = ((Tm.mk y0 k0).kw 2).length := by simp [Tm.kx]
  have hl1 : ((Tm.mk y1 k1).kx 2).length = ((Tm.mk y1 k1).kw 2).length := by simp [Tm.kx]
  have KK0 := hid fun v1 w1 a1 n1 c1 a2 n2 c2 la lc (h1 : WrAt w1 g v1 (ws)) t1 t2 h3 => show_between N hT y0 y1 k0 k1 2 2 [s_set] g v1 (ws) w1 a1 a2 n1 c1 n2 c2 la lc hs0 hs1 hn0 hn1 h1 t1 t2 h3 (by simp only [List.length_append, List.length_cons, List.length_nil]; omega)
  obtain ⟨b, o, a0, n0, c0, rfl, q0⟩ := kid_at (i := 0) ht rfl
  obtain ⟨b', o', a1, n1, c1, e9, q1⟩ := kid_at (i := 1) ht rfl
  cases e9
  have Q0 := hid q0
  have Q1 := hid q1
  have HW := hid hW
  generalize (Tm.mk y0 k0).kx 2 = t0 at *
  generalize (Tm.mk y1 k1).kx 2 = t1 at *
  clear hT ht hlen e1 e2 hW hk hs0 hn0 hl0 q0 hs1 hn1 hl1 q1
  go_enter Tryz.func48, Tryz.ntmps48
  go_upto_region 1 with fail
  have B1 := hid (Blk.new w 28 #[.int .u8 8, .int .u8 x.op, .int .i64 x.pos, .int .i64 x.n, .string x.name, .string x.arg, .string x.exn, .slice (some ⟨b, o, none⟩) 2 c])
  have Y1 : Ext w (w.alloc (.cells #[.int .u8 8, .int .u8 x.op, .int .i64 x.pos, .int .i64 x.n, .string x.name, .string x.arg, .string x.exn, .slice (some ⟨b, o, none⟩) 2 c] 28)) := by (exact eX)
  have H1 := hid (WrTo.start HW.out |>.ext Y1)
  have Q0 := hid (Q0.out.ext (ExtX.of (A := WrX g v) Y1) HW.out.ge)
  have Q1 := hid (Q1.out.ext (ExtX.of (A := WrX g v) Y1) HW.out.ge)
  have N1 := hid (HW.out.keeps (Nat.le_refl _))
  clear Y1
  generalize w.alloc (.cells #[.int .u8 8, .int .u8 x.op, .int .i64 x.pos, .int .i64 x.n, .string x.name, .string x.arg, .string x.exn, .slice (some ⟨b, o, none⟩) 2 c] 28) = W1 at *
  have M0 := hid (WrTo.start H1.out.at_)
  have G1 := hid H1.out.at_.ge
  obtain ⟨d0, d1, d2, d3, d4, d5, d6, d7⟩ := B1.out.eight
  have lb := B1.out.lt
  go_upto_region 22 with fail
  have q0 := Q0.out.ext M0.out.x G1.out
  have q1 := Q1.out.ext M0.out.x G1.out
  have ge := M0.out.at_.ge
  have T0 := hid q0.tm
  have T1 := hid q1.tm
  have kb : ¬ WrX g v b := fun e => by have := ge b e; have := q0.lt; omega
  have m0 := fun W (h : ExtX (WrX g v) W1 W) => h.cell kb q0.c0
  have m1 := fun W (h : ExtX (WrX g v) W1 W) => h.cell kb q0.c1
  have m2 := fun W (h : ExtX (WrX g v) W1 W) => h.cell kb q0.c2
  have m3 := fun W (h : ExtX (WrX g v) W1 W) => h.cell kb q0.c3
  have m4 := fun W (h : ExtX (WrX g v) W1 W) => h.cell kb q0.c4
  have m5 := fun W (h : ExtX (WrX g v) W1 W) => h.cell kb q0.c5
  have m6 := fun W (h : ExtX (WrX g v) W1 W) => h.cell kb q0.c6
  have m7 := fun W (h : ExtX (WrX g v) W1 W) => h.cell kb q0.c7
  have p0 := fun W (h : ExtX (WrX g v) W1 W) => h.cell kb q1.c0
  have p1 := fun W (h : ExtX (WrX g v) W1 W) => h.cell kb q1.c1
  have p2 := fun W (h : ExtX (WrX g v) W1 W) => h.cell kb q1.c2
  have p3 := fun W (h : ExtX (WrX g v) W1 W) => h.cell kb q1.c3
  have p4 := fun W (h : ExtX (WrX g v) W1 W) => h.cell kb q1.c4
  have p5 := fun W (h : ExtX (WrX g v) W1 W) => h.cell kb q1.c5
  have p6 := fun W (h : ExtX (WrX g v) W1 W) => h.cell kb q1.c6
  have p7 := fun W (h : ExtX (WrX g v) W1 W) => h.cell kb q1.c7
  simp only [Nat.zero_mul, Nat.add_zero, Nat.one_mul] at m0 m1 m2 m3 m4 m5 m6 m7 p0 p1 p2 p3 p4 p5 p6 p7
  clear q0 q1 ge
  have NB := hid (M0.out.at_.keeps (Nat.le_refl _))
  clear d0 d1 d2 d3 d4 d5 d6 d7
  refine wp_region_held_drew (S := fun w' => ExtX (WrX g v) W1 w') (by kernel_rfl) (by (try dsimp only); (exact xX)) (fun hHeld => ?_)
  refine tL 0 ?_;try simp only [Act.put,pA,pB,pC]
  refine tL 1 ?_;try simp only [Act.put,pA,pB,pC]
  refine tL 2 ?_;try simp only [Act.put,pA,pB,pC]
  refine tL 3 ?_;try simp only [Act.put,pA,pB,pC]
  refine tL 4 ?_;try simp only [Act.put,pA,pB,pC]
  refine tL 5 ?_;try simp only [Act.put,pA,pB,pC]
  refine tL 6 ?_;try simp only [Act.put,pA,pB,pC]
  refine dK 7 fun K hK => ?_; go_simp; refine hK.out _ _ (by (try dsimp only); (exact xX)) (fun hHeld => ?_); clear hK K; try simp only [Act.put,pA,pB,pC]
  refine dK 8 fun K hK => ?_; go_simp; (first | (go_at_call 77; refine (KK0.out v _ a0 n0 c0 a1 n1 c1 _ 1 (M0.out.ext (by (exact eX))).at_ (T0.out.ext (by (exact eX))) (T1.out.ext (by (exact eX))) (.inr ⟨_, rfl, (by simp), NB.out, fun j u hu => (by first | exact (Ext.refl (W1.alloc _)).drew.cell (row_text W1 [s_set] j u hu) | exact row_text _ [s_set] j u hu | exact (Ext.refl _).drew.cell (row_text _ [s_set] j u hu))⟩)).mono ?_; intro e w2 hh; obtain ⟨rfl, v2, M, hx⟩ := (M0.out.ext (by (exact eX))).more hh; have HM := hid M; have z : ExtX (WrX g v) W1 w2 := (by (exact xX) : ExtX (WrX g v) W1 _).trans hx; clear hh M hx)); (try (focus (go_wp2_with fail))); refine hK.out _ _ (by (try dsimp only); (exact xX)) (fun hHeld => ?_); clear hK K; try simp only [Act.put,pA,pB,pC]
  refine wpAnyH_done (by kernel_rfl) ?_ _
  have M1 := hid HM.out
  clear HM z hHeld NB m0 m1 m2 m3 m4 m5 m6 m7 p0 p1 p2 p3 p4 p5 p6 p7 kb
  go_wp2_with fail
  exact bodyPost_end (v := .tuple #[]) (results_none rfl _ _ _) rfl (by have h := (H1.out.trans M1.out).ret; simpa using h)
set_option maxRecDepth 60000 in
set_option maxHeartbeats 4000000 in
theorem term_app (N : Nat) (hT : ShowT N) (x : Hd) (y0 : Hd) (k0 : List Tm) (y1 : Hd) (k1 : List Tm) (g : Nat) (v : Value) (ws : List ByteArray) (w : World) (a : Option Addr) (c : Nat) (hk : x.k = 10) (hs0 : (Tm.mk y0 k0).size ≤ N) (hn0 : ∀ u, u ∈ (Tm.mk y0 k0).all → u.node = true) (hs1 : (Tm.mk y1 k1).size ≤ N) (hn1 : ∀ u, u ∈ (Tm.mk y1 k1).all → u.node = true) (hW : WrAt w g v ws) (ht : IsTmsA (fun b => g ≤ b) w [.mk y0 k0, .mk y1 k1] a 2) (hlen : ws.length + (Tm.mk x [.mk y0 k0, .mk y1 k1]).wk.length ≤ 1000000) :
    Calls Tryz.prog 48 #[.pointer (some ⟨g, 0, none⟩), .agg #[.int .u8 x.k, .int .u8 x.op, .int .i64 x.pos, .int .i64 x.n, .string x.name, .string x.arg, .string x.exn, .slice a 2 c]] w (RetWr w g v (ws ++ (Tm.mk x [.mk y0 k0, .mk y1 k1]).wx)) := by
  have e1 : (Tm.mk x [.mk y0 k0, .mk y1 k1]).wx = (Tm.mk y0 k0).kx 5 ++ (Tm.mk y1 k1).kx 6 := by unfold Tm.wx Tm.kx; rw [wk_10 hk]; simp
  have e2 : (Tm.mk x [.mk y0 k0, .mk y1 k1]).wk.length = (Tm.mk x [.mk y0 k0, .mk y1 k1]).wx.length := by simp [Tm.wx]
  have hl : ws.length + (((Tm.mk y0 k0).kx 5).length + 0 + ((Tm.mk y1 k1).kx 6).length) ≤ 1000000 := by rw [e2, e1] at hlen; simp at hlen; omega
  rw [e1, hk]
  have hl0 : ((Tm.mk y0 k0).kx 5).length = ((Tm.mk y0 k0).kw 5).length := by simp [Tm.kx]
  have hl1 : ((Tm.mk y1 k1).kx 6).length = ((Tm.mk y1 k1).kw 6).length := by simp [Tm.kx]
  have KK0 := hid fun v1 w1 a1 n1 c1 a2 n2 c2 la lc (h1 : WrAt w1 g v1 (ws)) t1 t2 h3 => show_between N hT y0 y1 k0 k1 5 6 [] g v1 (ws) w1 a1 a2 n1 c1 n2 c2 la lc hs0 hs1 hn0 hn1 h1 t1 t2 h3 (by simp only [List.length_append, List.length_cons, List.length_nil]; omega)
  obtain ⟨b, o, a0, n0, c0, rfl, q0⟩ := kid_at (i := 0) ht rfl
  obtain ⟨b', o', a1, n1, c1, e9, q1⟩ := kid_at (i := 1) ht rfl
  cases e9
  have Q0 := hid q0
  have Q1 := hid q1
  have HW := hid hW
  generalize (Tm.mk y0 k0).kx 5 = t0 at *
  generalize (Tm.mk y1 k1).kx 6 = t1 at *
  clear hT ht hlen e1 e2 hW hk hs0 hn0 hl0 q0 hs1 hn1 hl1 q1
  go_enter Tryz.func48, Tryz.ntmps48
  go_upto_region 1 with fail
  have B1 := hid (Blk.new w 28 #[.int .u8 10, .int .u8 x.op, .int .i64 x.pos, .int .i64 x.n, .string x.name, .string x.arg, .string x.exn, .slice (some ⟨b, o, none⟩) 2 c])
  have Y1 : Ext w (w.alloc (.cells #[.int .u8 10, .int .u8 x.op, .int .i64 x.pos, .int .i64 x.n, .string x.name, .string x.arg, .string x.exn, .slice (some ⟨b, o, none⟩) 2 c] 28)) := by (exact eX)
  have H1 := hid (WrTo.start HW.out |>.ext Y1)
  have Q0 := hid (Q0.out.ext (ExtX.of (A := WrX g v) Y1) HW.out.ge)
  have Q1 := hid (Q1.out.ext (ExtX.of (A := WrX g v) Y1) HW.out.ge)
  have N1 := hid (HW.out.keeps (Nat.le_refl _))
  clear Y1
  generalize w.alloc (.cells #[.int .u8 10, .int .u8 x.op, .int .i64 x.pos, .int .i64 x.n, .string x.name, .string x.arg, .string x.exn, .slice (some ⟨b, o, none⟩) 2 c] 28) = W1 at *
  have M0 := hid (WrTo.start H1.out.at_)
  have G1 := hid H1.out.at_.ge
  obtain ⟨d0, d1, d2, d3, d4, d5, d6, d7⟩ := B1.out.eight
  have lb := B1.out.lt
  go_upto_region 29 with fail
  have q0 := Q0.out.ext M0.out.x G1.out
  have q1 := Q1.out.ext M0.out.x G1.out
  have ge := M0.out.at_.ge
  have T0 := hid q0.tm
  have T1 := hid q1.tm
  have kb : ¬ WrX g v b := fun e => by have := ge b e; have := q0.lt; omega
  have m0 := fun W (h : ExtX (WrX g v) W1 W) => h.cell kb q0.c0
  have m1 := fun W (h : ExtX (WrX g v) W1 W) => h.cell kb q0.c1
  have m2 := fun W (h : ExtX (WrX g v) W1 W) => h.cell kb q0.c2
  have m3 := fun W (h : ExtX (WrX g v) W1 W) => h.cell kb q0.c3
  have m4 := fun W (h : ExtX (WrX g v) W1 W) => h.cell kb q0.c4
  have m5 := fun W (h : ExtX (WrX g v) W1 W) => h.cell kb q0.c5
  have m6 := fun W (h : ExtX (WrX g v) W1 W) => h.cell kb q0.c6
  have m7 := fun W (h : ExtX (WrX g v) W1 W) => h.cell kb q0.c7
  have p0 := fun W (h : ExtX (WrX g v) W1 W) => h.cell kb q1.c0
  have p1 := fun W (h : ExtX (WrX g v) W1 W) => h.cell kb q1.c1
  have p2 := fun W (h : ExtX (WrX g v) W1 W) => h.cell kb q1.c2
  have p3 := fun W (h : ExtX (WrX g v) W1 W) => h.cell kb q1.c3
  have p4 := fun W (h : ExtX (WrX g v) W1 W) => h.cell kb q1.c4
  have p5 := fun W (h : ExtX (WrX g v) W1 W) => h.cell kb q1.c5
  have p6 := fun W (h : ExtX (WrX g v) W1 W) => h.cell kb q1.c6
  have p7 := fun W (h : ExtX (WrX g v) W1 W) => h.cell kb q1.c7
  simp only [Nat.zero_mul, Nat.add_zero, Nat.one_mul] at m0 m1 m2 m3 m4 m5 m6 m7 p0 p1 p2 p3 p4 p5 p6 p7
  clear q0 q1 ge
  have NB := hid (M0.out.at_.keeps (Nat.le_refl _))
  clear d0 d1 d2 d3 d4 d5 d6 d7
  refine wp_region_held_drew (S := fun w' => ExtX (WrX g v) W1 w') (by kernel_rfl) (by (try dsimp only); (exact xX)) (fun hHeld => ?_)
  refine tL 0 ?_;try simp only [Act.put,pA,pB,pC]
  refine tL 1 ?_;try simp only [Act.put,pA,pB,pC]
  refine tL 2 ?_;try simp only [Act.put,pA,pB,pC]
  refine tL 3 ?_;try simp only [Act.put,pA,pB,pC]
  refine tL 4 ?_;try simp only [Act.put,pA,pB,pC]
  refine tL 5 ?_;try simp only [Act.put,pA,pB,pC]
  refine tL 6 ?_;try simp only [Act.put,pA,pB,pC]
  refine dK 7 fun K hK => ?_; go_simp; (first | (go_at_call 77; refine (KK0.out v _ a0 n0 c0 a1 n1 c1 _ 0 (M0.out.ext (by (exact eX))).at_ (T0.out.ext (by (exact eX))) (T1.out.ext (by (exact eX))) (.inl ⟨rfl, rfl, rfl⟩)).mono ?_; intro e w2 hh; obtain ⟨rfl, v2, M, hx⟩ := (M0.out.ext (by (exact eX))).more hh; have HM := hid M; have z : ExtX (WrX g v) W1 w2 := (by (exact xX) : ExtX (WrX g v) W1 _).trans hx; clear hh M hx)); (try (focus (go_wp2_with fail))); refine hK.out _ _ (by (try dsimp only); (exact xX)) (fun hHeld => ?_); clear hK K; try simp only [Act.put,pA,pB,pC]
  refine wpAnyH_done (by kernel_rfl) ?_ _
  have M1 := hid HM.out
  clear HM z hHeld NB m0 m1 m2 m3 m4 m5 m6 m7 p0 p1 p2 p3 p4 p5 p6 p7 kb
  go_wp2_with fail
  exact bodyPost_end (v := .tuple #[]) (results_none rfl _ _ _) rfl (by have h := (H1.out.trans M1.out).ret; simpa using h)
set_option maxRecDepth 60000 in
set_option maxHeartbeats 4000000 in
theorem term_op1 (N : Nat) (hT : ShowT N) (x : Hd) (y0 : Hd) (k0 : List Tm) (y1 : Hd) (k1 : List Tm) (g : Nat) (v : Value) (ws : List ByteArray) (w : World) (a : Option Addr) (c : Nat) (hk : x.k = 9) (hop : x.op = 1) (hs0 : (Tm.mk y0 k0).size ≤ N) (hn0 : ∀ u, u ∈ (Tm.mk y0 k0).all → u.node = true) (hs1 : (Tm.mk y1 k1).size ≤ N) (hn1 : ∀ u, u ∈ (Tm.mk y1 k1).all → u.node = true) (hW : WrAt w g v ws) (ht : IsTmsA (fun b => g ≤ b) w [.mk y0 k0, .mk y1 k1] a 2) (hlen : ws.length + (Tm.mk x [.mk y0 k0, .mk y1 k1]).wk.length ≤ 1000000) :
    Calls Tryz.prog 48 #[.pointer (some ⟨g, 0, none⟩), .agg #[.int .u8 x.k, .int .u8 x.op, .int .i64 x.pos, .int .i64 x.n, .string x.name, .string x.arg, .string x.exn, .slice a 2 c]] w (RetWr w g v (ws ++ (Tm.mk x [.mk y0 k0, .mk y1 k1]).wx)) := by
  have e1 : (Tm.mk x [.mk y0 k0, .mk y1 k1]).wx = (Tm.mk y0 k0).kx 3 ++ [s_plus] ++ (Tm.mk y1 k1).kx 4 := by unfold Tm.wx Tm.kx; rw [wk_9 hk]; simp [hop, opS, looseT]
  have e2 : (Tm.mk x [.mk y0 k0, .mk y1 k1]).wk.length = (Tm.mk x [.mk y0 k0, .mk y1 k1]).wx.length := by simp [Tm.wx]
  have hl : ws.length + (((Tm.mk y0 k0).kx 3).length + 1 + ((Tm.mk y1 k1).kx 4).length) ≤ 1000000 := by rw [e2, e1] at hlen; simp at hlen; omega
  rw [e1, hk, hop]
  have hl0 : ((Tm.mk y0 k0).kx 3).length = ((Tm.mk y0 k0).kw 3).length := by simp [Tm.kx]
  have hl1 : ((Tm.mk y1 k1).kx 4).length = ((Tm.mk y1 k1).kw 4).length := by simp [Tm.kx]
  have KK0 := hid fun v1 w1 a1 n1 c1 a2 n2 c2 la lc (h1 : WrAt w1 g v1 (ws)) t1 t2 h3 => show_between N hT y0 y1 k0 k1 3 4 [s_plus] g v1 (ws) w1 a1 a2 n1 c1 n2 c2 la lc hs0 hs1 hn0 hn1 h1 t1 t2 h3 (by simp only [List.length_append, List.length_cons, List.length_nil]; omega)
  obtain ⟨b, o, a0, n0, c0, rfl, q0⟩ := kid_at (i := 0) ht rfl
  obtain ⟨b', o', a1, n1, c1, e9, q1⟩ := kid_at (i := 1) ht rfl
  cases e9
  have Q0 := hid q0
  have Q1 := hid q1
  have HW := hid hW
  generalize (Tm.mk y0 k0).kx 3 = t0 at *
  generalize (Tm.mk y1 k1).kx 4 = t1 at *
  clear hT ht hlen e1 e2 hW hk hop hs0 hn0 hl0 q0 hs1 hn1 hl1 q1
  go_enter Tryz.func48, Tryz.ntmps48
  go_upto_region 1 with fail
  have B1 := hid (Blk.new w 28 #[.int .u8 9, .int .u8 1, .int .i64 x.pos, .int .i64 x.n, .string x.name, .string x.arg, .string x.exn, .slice (some ⟨b, o, none⟩) 2 c])
  have Y1 : Ext w (w.alloc (.cells #[.int .u8 9, .int .u8 1, .int .i64 x.pos, .int .i64 x.n, .string x.name, .string x.arg, .string x.exn, .slice (some ⟨b, o, none⟩) 2 c] 28)) := by (exact eX)
  have H1 := hid (WrTo.start HW.out |>.ext Y1)
  have Q0 := hid (Q0.out.ext (ExtX.of (A := WrX g v) Y1) HW.out.ge)
  have Q1 := hid (Q1.out.ext (ExtX.of (A := WrX g v) Y1) HW.out.ge)
  have N1 := hid (HW.out.keeps (Nat.le_refl _))
  clear Y1
  generalize w.alloc (.cells #[.int .u8 9, .int .u8 1, .int .i64 x.pos, .int .i64 x.n, .string x.name, .string x.arg, .string x.exn, .slice (some ⟨b, o, none⟩) 2 c] 28) = W1 at *
  have M0 := hid (WrTo.start H1.out.at_)
  have G1 := hid H1.out.at_.ge
  obtain ⟨d0, d1, d2, d3, d4, d5, d6, d7⟩ := B1.out.eight
  have lb := B1.out.lt
  go_upto_region 27 with (go_at_call 79; refine (show_loose1 _).mono ?_; rintro e w1l ⟨rfl, x1l⟩; obtain ⟨d0, d1, d2, d3, d4, d5, d6, d7⟩ := (B1.out.ext x1l).eight)
  have M0 := hid (M0.out.ext x1l)
  clear x1l d0 d1 d2 d3 d4 d5 d6 d7
  obtain ⟨d0, d1, d2, d3, d4, d5, d6, d7⟩ := (Blk.extx B1.out M0.out.x N1.out).eight
  have q0 := Q0.out.ext M0.out.x G1.out
  have q1 := Q1.out.ext M0.out.x G1.out
  have ge := M0.out.at_.ge
  have T0 := hid q0.tm
  have T1 := hid q1.tm
  have kb : ¬ WrX g v b := fun e => by have := ge b e; have := q0.lt; omega
  have m0 := fun W (h : ExtX (WrX g v) w1l W) => h.cell kb q0.c0
  have m1 := fun W (h : ExtX (WrX g v) w1l W) => h.cell kb q0.c1
  have m2 := fun W (h : ExtX (WrX g v) w1l W) => h.cell kb q0.c2
  have m3 := fun W (h : ExtX (WrX g v) w1l W) => h.cell kb q0.c3
  have m4 := fun W (h : ExtX (WrX g v) w1l W) => h.cell kb q0.c4
  have m5 := fun W (h : ExtX (WrX g v) w1l W) => h.cell kb q0.c5
  have m6 := fun W (h : ExtX (WrX g v) w1l W) => h.cell kb q0.c6
  have m7 := fun W (h : ExtX (WrX g v) w1l W) => h.cell kb q0.c7
  have p0 := fun W (h : ExtX (WrX g v) w1l W) => h.cell kb q1.c0
  have p1 := fun W (h : ExtX (WrX g v) w1l W) => h.cell kb q1.c1
  have p2 := fun W (h : ExtX (WrX g v) w1l W) => h.cell kb q1.c2
  have p3 := fun W (h : ExtX (WrX g v) w1l W) => h.cell kb q1.c3
  have p4 := fun W (h : ExtX (WrX g v) w1l W) => h.cell kb q1.c4
  have p5 := fun W (h : ExtX (WrX g v) w1l W) => h.cell kb q1.c5
  have p6 := fun W (h : ExtX (WrX g v) w1l W) => h.cell kb q1.c6
  have p7 := fun W (h : ExtX (WrX g v) w1l W) => h.cell kb q1.c7
  simp only [Nat.zero_mul, Nat.add_zero, Nat.one_mul] at m0 m1 m2 m3 m4 m5 m6 m7 p0 p1 p2 p3 p4 p5 p6 p7
  clear q0 q1 ge
  have bb := (Blk.extx B1.out M0.out.x N1.out)
  have nbb : ¬ WrX g v w.heap.size := by
    rintro (e | e)
    · exact N1.out (.inl e)
    · rcases M0.out.own with h | h
      · exact N1.out (.inr (h ▸ e))
      · have := h _ e; have := B1.out.lt; omega
  have r0 := fun W (h : ExtX (WrX g v) w1l W) => h.cell (p := ⟨w.heap.size, 0, none⟩) nbb (bb.cell 0)
  have r1 := fun W (h : ExtX (WrX g v) w1l W) => h.cell (p := ⟨w.heap.size, 1, none⟩) nbb (bb.cell 1)
  have r2 := fun W (h : ExtX (WrX g v) w1l W) => h.cell (p := ⟨w.heap.size, 2, none⟩) nbb (bb.cell 2)
  have r3 := fun W (h : ExtX (WrX g v) w1l W) => h.cell (p := ⟨w.heap.size, 3, none⟩) nbb (bb.cell 3)
  have r4 := fun W (h : ExtX (WrX g v) w1l W) => h.cell (p := ⟨w.heap.size, 4, none⟩) nbb (bb.cell 4)
  have r5 := fun W (h : ExtX (WrX g v) w1l W) => h.cell (p := ⟨w.heap.size, 5, none⟩) nbb (bb.cell 5)
  have r6 := fun W (h : ExtX (WrX g v) w1l W) => h.cell (p := ⟨w.heap.size, 6, none⟩) nbb (bb.cell 6)
  have r7 := fun W (h : ExtX (WrX g v) w1l W) => h.cell (p := ⟨w.heap.size, 7, none⟩) nbb (bb.cell 7)
  simp at r0 r1 r2 r3 r4 r5 r6 r7
  clear bb
  have NB := hid (M0.out.at_.keeps (Nat.le_refl _))
  clear d0 d1 d2 d3 d4 d5 d6 d7
  refine wp_region_held_drew (S := fun w' => ExtX (WrX g v) w1l w') (by kernel_rfl) (by (try dsimp only); (exact xX)) (fun hHeld => ?_)
  refine tL 0 ?_;try simp only [Act.put,pA,pB,pC]
  refine tL 1 ?_;try simp only [Act.put,pA,pB,pC]
  refine tL 2 ?_;try simp only [Act.put,pA,pB,pC]
  refine tL 3 ?_;try simp only [Act.put,pA,pB,pC]
  refine tL 4 ?_;try simp only [Act.put,pA,pB,pC]
  refine tL 5 ?_;try simp only [Act.put,pA,pB,pC]
  refine tL 6 ?_;try simp only [Act.put,pA,pB,pC]
  refine tL 7 ?_;try simp only [Act.put,pA,pB,pC]
  refine tL 8 ?_;try simp only [Act.put,pA,pB,pC]
  refine tL 9 ?_;try simp only [Act.put,pA,pB,pC]
  refine tL 10 ?_;try simp only [Act.put,pA,pB,pC]
  refine tL 13 ?_;try simp only [Act.put,pA,pB,pC]
  refine tL 14 ?_;try simp only [Act.put,pA,pB,pC]
  refine tL 15 ?_;try simp only [Act.put,pA,pB,pC]
  refine dK 11 fun K hK => ?_; go_simp; (first | (go_at_call 79; refine (show_loose1 _).mono ?_; rintro e wl ⟨rfl, xl⟩; have zl : ExtX (WrX g v) w1l wl := (by (exact xX) : ExtX (WrX g v) w1l _).then_ xl; have sl := zl.size)); (try (focus (go_wp2_with fail))); refine hK.out _ _ (by (try dsimp only); (exact xX)) (fun hHeld => ?_); clear hK K; try simp only [Act.put,pA,pB,pC]
  refine tL 12 ?_;try simp only [Act.put,pA,pB,pC]
  refine dK 16 fun K hK => ?_; go_simp; (first | (go_at_call 80; refine (show_op1 _).mono ?_; rintro e wo ⟨rfl, xo⟩; have zo : ExtX (WrX g v) w1l wo := (by (exact xX) : ExtX (WrX g v) w1l _).then_ xo; have so := zo.size)); (try (focus (go_wp2_with fail))); refine hK.out _ _ (by (try dsimp only); (exact xX)) (fun hHeld => ?_); clear hK K; try simp only [Act.put,pA,pB,pC]
  refine dK 17 fun K hK => ?_; go_simp; refine hK.out _ _ (by (try dsimp only); (exact xX)) (fun hHeld => ?_); clear hK K; try simp only [Act.put,pA,pB,pC]
  refine dK 18 fun K hK => ?_; go_simp; (first | (go_at_call 77; refine (KK0.out v _ a0 n0 c0 a1 n1 c1 _ 1 (M0.out.ext (by (exact eX))).at_ (T0.out.ext (by (exact eX))) (T1.out.ext (by (exact eX))) (.inr ⟨_, rfl, (by simp), (fun e => by have h1 := M0.out.at_.x e; (try simp at h1); omega), fun j u hu => (by first | exact (Ext.refl (w1l.alloc _)).drew.cell (row_text w1l [s_plus] j u hu) | exact row_text _ [s_plus] j u hu | exact (Ext.refl _).drew.cell (row_text _ [s_plus] j u hu))⟩)).mono ?_; intro e w2 hh; obtain ⟨rfl, v2, M, hx⟩ := (M0.out.ext (by (exact eX))).more hh; have HM := hid M; have z : ExtX (WrX g v) w1l w2 := (by (exact xX) : ExtX (WrX g v) w1l _).trans hx; clear hh M hx)); (try (focus (go_wp2_with fail))); refine hK.out _ _ (by (try dsimp only); (exact xX)) (fun hHeld => ?_); clear hK K; try simp only [Act.put,pA,pB,pC]
  refine wpAnyH_done (by kernel_rfl) ?_ _
  all_goals
    have M1 := hid HM.out
    clear HM
    go_wp2_with fail
    exact bodyPost_end (v := .tuple #[]) (results_none rfl _ _ _) rfl (by have h := (H1.out.trans M1.out).ret; simpa using h)
set_option maxRecDepth 60000 in
set_option maxHeartbeats 4000000 in
theorem term_op2 (N : Nat) (hT : ShowT N) (x : Hd) (y0 : Hd) (k0 : List Tm) (y1 : Hd) (k1 : List Tm) (g : Nat) (v : Value) (ws : List ByteArray) (w : World) (a : Option Addr) (c : Nat) (hk : x.k = 9) (hop : x.op = 2) (hs0 : (Tm.mk y0 k0).size ≤ N) (hn0 : ∀ u, u ∈ (Tm.mk y0 k0).all → u.node = true) (hs1 : (Tm.mk y1 k1).size ≤ N) (hn1 : ∀ u, u ∈ (Tm.mk y1 k1).all → u.node = true) (hW : WrAt w g v ws) (ht : IsTmsA (fun b => g ≤ b) w [.mk y0 k0, .mk y1 k1] a 2) (hlen : ws.length + (Tm.mk x [.mk y0 k0, .mk y1 k1]).wk.length ≤ 1000000) :
    Calls Tryz.prog 48 #[.pointer (some ⟨g, 0, none⟩), .agg #[.int .u8 x.k, .int .u8 x.op, .int .i64 x.pos, .int .i64 x.n, .string x.name, .string x.arg, .string x.exn, .slice a 2 c]] w (RetWr w g v (ws ++ (Tm.mk x [.mk y0 k0, .mk y1 k1]).wx)) := by
  have e1 : (Tm.mk x [.mk y0 k0, .mk y1 k1]).wx = (Tm.mk y0 k0).kx 3 ++ [s_minus] ++ (Tm.mk y1 k1).kx 4 := by unfold Tm.wx Tm.kx; rw [wk_9 hk]; simp [hop, opS, looseT]
  have e2 : (Tm.mk x [.mk y0 k0, .mk y1 k1]).wk.length = (Tm.mk x [.mk y0 k0, .mk y1 k1]).wx.length := by simp [Tm.wx]
  have hl : ws.length + (((Tm.mk y0 k0).kx 3).length + 1 + ((Tm.mk y1 k1).kx 4).length) ≤ 1000000 := by rw [e2, e1] at hlen; simp at hlen; omega
  rw [e1, hk, hop]
  have hl0 : ((Tm.mk y0 k0).kx 3).length = ((Tm.mk y0 k0).kw 3).length := by simp [Tm.kx]
  have hl1 : ((Tm.mk y1 k1).kx 4).length = ((Tm.mk y1 k1).kw 4).length := by simp [Tm.kx]
  have KK0 := hid fun v1 w1 a1 n1 c1 a2 n2 c2 la lc (h1 : WrAt w1 g v1 (ws)) t1 t2 h3 => show_between N hT y0 y1 k0 k1 3 4 [s_minus] g v1 (ws) w1 a1 a2 n1 c1 n2 c2 la lc hs0 hs1 hn0 hn1 h1 t1 t2 h3 (by simp only [List.length_append, List.length_cons, List.length_nil]; omega)
  obtain ⟨b, o, a0, n0, c0, rfl, q0⟩ := kid_at (i := 0) ht rfl
  obtain ⟨b', o', a1, n1, c1, e9, q1⟩ := kid_at (i := 1) ht rfl
  cases e9
  have Q0 := hid q0
  have Q1 := hid q1
  have HW := hid hW
  generalize (Tm.mk y0 k0).kx 3 = t0 at *
  generalize (Tm.mk y1 k1).kx 4 = t1 at *
  clear hT ht hlen e1 e2 hW hk hop hs0 hn0 hl0 q0 hs1 hn1 hl1 q1
  go_enter Tryz.func48, Tryz.ntmps48
  go_upto_region 1 with fail
  have B1 := hid (Blk.new w 28 #[.int .u8 9, .int .u8 2, .int .i64 x.pos, .int .i64 x.n, .string x.name, .string x.arg, .string x.exn, .slice (some ⟨b, o, none⟩) 2 c])
  have Y1 : Ext w (w.alloc (.cells #[.int .u8 9, .int .u8 2, .int .i64 x.pos, .int .i64 x.n, .string x.name, .string x.arg, .string x.exn, .slice (some ⟨b, o, none⟩) 2 c] 28)) := by (exact eX)
  have H1 := hid (WrTo.start HW.out |>.ext Y1)
  have Q0 := hid (Q0.out.ext (ExtX.of (A := WrX g v) Y1) HW.out.ge)
  have Q1 := hid (Q1.out.ext (ExtX.of (A := WrX g v) Y1) HW.out.ge)
  have N1 := hid (HW.out.keeps (Nat.le_refl _))
  clear Y1
  generalize w.alloc (.cells #[.int .u8 9, .int .u8 2, .int .i64 x.pos, .int .i64 x.n, .string x.name, .string x.arg, .string x.exn, .slice (some ⟨b, o, none⟩) 2 c] 28) = W1 at *
  have M0 := hid (WrTo.start H1.out.at_)
  have G1 := hid H1.out.at_.ge
  obtain ⟨d0, d1, d2, d3, d4, d5, d6, d7⟩ := B1.out.eight
  have lb := B1.out.lt
  go_upto_region 27 with (go_at_call 79; refine (show_loose2 _).mono ?_; rintro e w1l ⟨rfl, x1l⟩; obtain ⟨d0, d1, d2, d3, d4, d5, d6, d7⟩ := (B1.out.ext x1l).eight)
  have M0 := hid (M0.out.ext x1l)
  clear x1l d0 d1 d2 d3 d4 d5 d6 d7
  obtain ⟨d0, d1, d2, d3, d4, d5, d6, d7⟩ := (Blk.extx B1.out M0.out.x N1.out).eight
  have q0 := Q0.out.ext M0.out.x G1.out
  have q1 := Q1.out.ext M0.out.x G1.out
  have ge := M0.out.at_.ge
  have T0 := hid q0.tm
  have T1 := hid q1.tm
  have kb : ¬ WrX g v b := fun e => by have := ge b e; have := q0.lt; omega
  have m0 := fun W (h : ExtX (WrX g v) w1l W) => h.cell kb q0.c0
  have m1 := fun W (h : ExtX (WrX g v) w1l W) => h.cell kb q0.c1
  have m2 := fun W (h : ExtX (WrX g v) w1l W) => h.cell kb q0.c2
  have m3 := fun W (h : ExtX (WrX g v) w1l W) => h.cell kb q0.c3
  have m4 := fun W (h : ExtX (WrX g v) w1l W) => h.cell kb q0.c4
  have m5 := fun W (h : ExtX (WrX g v) w1l W) => h.cell kb q0.c5
  have m6 := fun W (h : ExtX (WrX g v) w1l W) => h.cell kb q0.c6
  have m7 := fun W (h : ExtX (WrX g v) w1l W) => h.cell kb q0.c7
  have p0 := fun W (h : ExtX (WrX g v) w1l W) => h.cell kb q1.c0
  have p1 := fun W (h : ExtX (WrX g v) w1l W) => h.cell kb q1.c1
  have p2 := fun W (h : ExtX (WrX g v) w1l W) => h.cell kb q1.c2
  have p3 := fun W (h : ExtX (WrX g v) w1l W) => h.cell kb q1.c3
  have p4 := fun W (h : ExtX (WrX g v) w1l W) => h.cell kb q1.c4
  have p5 := fun W (h : ExtX (WrX g v) w1l W) => h.cell kb q1.c5
  have p6 := fun W (h : ExtX (WrX g v) w1l W) => h.cell kb q1.c6
  have p7 := fun W (h : ExtX (WrX g v) w1l W) => h.cell kb q1.c7
  simp only [Nat.zero_mul, Nat.add_zero, Nat.one_mul] at m0 m1 m2 m3 m4 m5 m6 m7 p0 p1 p2 p3 p4 p5 p6 p7
  clear q0 q1 ge
  have bb := (Blk.extx B1.out M0.out.x N1.out)
  have nbb : ¬ WrX g v w.heap.size := by
    rintro (e | e)
    · exact N1.out (.inl e)
    · rcases M0.out.own with h | h
      · exact N1.out (.inr (h ▸ e))
      · have := h _ e; have := B1.out.lt; omega
  have r0 := fun W (h : ExtX (WrX g v) w1l W) => h.cell (p := ⟨w.heap.size, 0, none⟩) nbb (bb.cell 0)
  have r1 := fun W (h : ExtX (WrX g v) w1l W) => h.cell (p := ⟨w.heap.size, 1, none⟩) nbb (bb.cell 1)
  have r2 := fun W (h : ExtX (WrX g v) w1l W) => h.cell (p := ⟨w.heap.size, 2, none⟩) nbb (bb.cell 2)
  have r3 := fun W (h : ExtX (WrX g v) w1l W) => h.cell (p := ⟨w.heap.size, 3, none⟩) nbb (bb.cell 3)
  have r4 := fun W (h : ExtX (WrX g v) w1l W) => h.cell (p := ⟨w.heap.size, 4, none⟩) nbb (bb.cell 4)
  have r5 := fun W (h : ExtX (WrX g v) w1l W) => h.cell (p := ⟨w.heap.size, 5, none⟩) nbb (bb.cell 5)
  have r6 := fun W (h : ExtX (WrX g v) w1l W) => h.cell (p := ⟨w.heap.size, 6, none⟩) nbb (bb.cell 6)
  have r7 := fun W (h : ExtX (WrX g v) w1l W) => h.cell (p := ⟨w.heap.size, 7, none⟩) nbb (bb.cell 7)
  simp at r0 r1 r2 r3 r4 r5 r6 r7
  clear bb
  have NB := hid (M0.out.at_.keeps (Nat.le_refl _))
  clear d0 d1 d2 d3 d4 d5 d6 d7
  refine wp_region_held_drew (S := fun w' => ExtX (WrX g v) w1l w') (by kernel_rfl) (by (try dsimp only); (exact xX)) (fun hHeld => ?_)
  refine tL 0 ?_;try simp only [Act.put,pA,pB,pC]
  refine tL 1 ?_;try simp only [Act.put,pA,pB,pC]
  refine tL 2 ?_;try simp only [Act.put,pA,pB,pC]
  refine tL 3 ?_;try simp only [Act.put,pA,pB,pC]
  refine tL 4 ?_;try simp only [Act.put,pA,pB,pC]
  refine tL 5 ?_;try simp only [Act.put,pA,pB,pC]
  refine tL 6 ?_;try simp only [Act.put,pA,pB,pC]
  refine tL 7 ?_;try simp only [Act.put,pA,pB,pC]
  refine tL 8 ?_;try simp only [Act.put,pA,pB,pC]
  refine tL 9 ?_;try simp only [Act.put,pA,pB,pC]
  refine tL 10 ?_;try simp only [Act.put,pA,pB,pC]
  refine tL 13 ?_;try simp only [Act.put,pA,pB,pC]
  refine tL 14 ?_;try simp only [Act.put,pA,pB,pC]
  refine tL 15 ?_;try simp only [Act.put,pA,pB,pC]
  refine dK 11 fun K hK => ?_; go_simp; (first | (go_at_call 79; refine (show_loose2 _).mono ?_; rintro e wl ⟨rfl, xl⟩; have zl : ExtX (WrX g v) w1l wl := (by (exact xX) : ExtX (WrX g v) w1l _).then_ xl; have sl := zl.size)); (try (focus (go_wp2_with fail))); refine hK.out _ _ (by (try dsimp only); (exact xX)) (fun hHeld => ?_); clear hK K; try simp only [Act.put,pA,pB,pC]
  refine tL 12 ?_;try simp only [Act.put,pA,pB,pC]
  refine dK 16 fun K hK => ?_; go_simp; (first | (go_at_call 80; refine (show_op2 _).mono ?_; rintro e wo ⟨rfl, xo⟩; have zo : ExtX (WrX g v) w1l wo := (by (exact xX) : ExtX (WrX g v) w1l _).then_ xo; have so := zo.size)); (try (focus (go_wp2_with fail))); refine hK.out _ _ (by (try dsimp only); (exact xX)) (fun hHeld => ?_); clear hK K; try simp only [Act.put,pA,pB,pC]
  refine dK 17 fun K hK => ?_; go_simp; refine hK.out _ _ (by (try dsimp only); (exact xX)) (fun hHeld => ?_); clear hK K; try simp only [Act.put,pA,pB,pC]
  refine dK 18 fun K hK => ?_; go_simp; (first | (go_at_call 77; refine (KK0.out v _ a0 n0 c0 a1 n1 c1 _ 1 (M0.out.ext (by (exact eX))).at_ (T0.out.ext (by (exact eX))) (T1.out.ext (by (exact eX))) (.inr ⟨_, rfl, (by simp), (fun e => by have h1 := M0.out.at_.x e; (try simp at h1); omega), fun j u hu => (by first | exact (Ext.refl (w1l.alloc _)).drew.cell (row_text w1l [s_minus] j u hu) | exact row_text _ [s_minus] j u hu | exact (Ext.refl _).drew.cell (row_text _ [s_minus] j u hu))⟩)).mono ?_; intro e w2 hh; obtain ⟨rfl, v2, M, hx⟩ := (M0.out.ext (by (exact eX))).more hh; have HM := hid M; have z : ExtX (WrX g v) w1l w2 := (by (exact xX) : ExtX (WrX g v) w1l _).trans hx; clear hh M hx)); (try (focus (go_wp2_with fail))); refine hK.out _ _ (by (try dsimp only); (exact xX)) (fun hHeld => ?_); clear hK K; try simp only [Act.put,pA,pB,pC]
  refine wpAnyH_done (by kernel_rfl) ?_ _
  all_goals
    have M1 := hid HM.out
    clear HM
    go_wp2_with fail
    exact bodyPost_end (v := .tuple #[]) (results_none rfl _ _ _) rfl (by have h := (H1.out.trans M1.out).ret; simpa using h)
set_option maxRecDepth 60000 in
set_option maxHeartbeats 4000000 in
theorem term_op3 (N : Nat) (hT : ShowT N) (x : Hd) (y0 : Hd) (k0 : List Tm) (y1 : Hd) (k1 : List Tm) (g : Nat) (v : Value) (ws : List ByteArray) (w : World) (a : Option Addr) (c : Nat) (hk : x.k = 9) (hop : x.op = 3) (hs0 : (Tm.mk y0 k0).size ≤ N) (hn0 : ∀ u, u ∈ (Tm.mk y0 k0).all → u.node = true) (hs1 : (Tm.mk y1 k1).size ≤ N) (hn1 : ∀ u, u ∈ (Tm.mk y1 k1).all → u.node = true) (hW : WrAt w g v ws) (ht : IsTmsA (fun b => g ≤ b) w [.mk y0 k0, .mk y1 k1] a 2) (hlen : ws.length + (Tm.mk x [.mk y0 k0, .mk y1 k1]).wk.length ≤ 1000000) :
    Calls Tryz.prog 48 #[.pointer (some ⟨g, 0, none⟩), .agg #[.int .u8 x.k, .int .u8 x.op, .int .i64 x.pos, .int .i64 x.n, .string x.name, .string x.arg, .string x.exn, .slice a 2 c]] w (RetWr w g v (ws ++ (Tm.mk x [.mk y0 k0, .mk y1 k1]).wx)) := by
  have e1 : (Tm.mk x [.mk y0 k0, .mk y1 k1]).wx = (Tm.mk y0 k0).kx 4 ++ [s_star] ++ (Tm.mk y1 k1).kx 5 := by unfold Tm.wx Tm.kx; rw [wk_9 hk]; simp [hop, opS, looseT]
  have e2 : (Tm.mk x [.mk y0 k0, .mk y1 k1]).wk.length = (Tm.mk x [.mk y0 k0, .mk y1 k1]).wx.length := by simp [Tm.wx]
  have hl : ws.length + (((Tm.mk y0 k0).kx 4).length + 1 + ((Tm.mk y1 k1).kx 5).length) ≤ 1000000 := by rw [e2, e1] at hlen; simp at hlen; omega
  rw [e1, hk, hop]
  have hl0 : ((Tm.mk y0 k0).kx 4).length = ((Tm.mk y0 k0).kw 4).length := by simp [Tm.kx]
  have hl1 : ((Tm.mk y1 k1).kx 5).length = ((Tm.mk y1 k1).kw 5).length := by simp [Tm.kx]
  have KK0 := hid fun v1 w1 a1 n1 c1 a2 n2 c2 la lc (h1 : WrAt w1 g v1 (ws)) t1 t2 h3 => show_between N hT y0 y1 k0 k1 4 5 [s_star] g v1 (ws) w1 a1 a2 n1 c1 n2 c2 la lc hs0 hs1 hn0 hn1 h1 t1 t2 h3 (by simp only [List.length_append, List.length_cons, List.length_nil]; omega)
  obtain ⟨b, o, a0, n0, c0, rfl, q0⟩ := kid_at (i := 0) ht rfl
  obtain ⟨b', o', a1, n1, c1, e9, q1⟩ := kid_at (i := 1) ht rfl
  cases e9
  have Q0 := hid q0
  have Q1 := hid q1
  have HW := hid hW
  generalize (Tm.mk y0 k0).kx 4 = t0 at *
  generalize (Tm.mk y1 k1).kx 5 = t1 at *
  clear hT ht hlen e1 e2 hW hk hop hs0 hn0 hl0 q0 hs1 hn1 hl1 q1
  go_enter Tryz.func48, Tryz.ntmps48
  go_upto_region 1 with fail
  have B1 := hid (Blk.new w 28 #[.int .u8 9, .int .u8 3, .int .i64 x.pos, .int .i64 x.n, .string x.name, .string x.arg, .string x.exn, .slice (some ⟨b, o, none⟩) 2 c])
  have Y1 : Ext w (w.alloc (.cells #[.int .u8 9, .int .u8 3, .int .i64 x.pos, .int .i64 x.n, .string x.name, .string x.arg, .string x.exn, .slice (some ⟨b, o, none⟩) 2 c] 28)) := by (exact eX)
  have H1 := hid (WrTo.start HW.out |>.ext Y1)
  have Q0 := hid (Q0.out.ext (ExtX.of (A := WrX g v) Y1) HW.out.ge)
  have Q1 := hid (Q1.out.ext (ExtX.of (A := WrX g v) Y1) HW.out.ge)
  have N1 := hid (HW.out.keeps (Nat.le_refl _))
  clear Y1
  generalize w.alloc (.cells #[.int .u8 9, .int .u8 3, .int .i64 x.pos, .int .i64 x.n, .string x.name, .string x.arg, .string x.exn, .slice (some ⟨b, o, none⟩) 2 c] 28) = W1 at *
  have M0 := hid (WrTo.start H1.out.at_)
  have G1 := hid H1.out.at_.ge
  obtain ⟨d0, d1, d2, d3, d4, d5, d6, d7⟩ := B1.out.eight
  have lb := B1.out.lt
  go_upto_region 27 with (go_at_call 79; refine (show_loose3 _).mono ?_; rintro e w1l ⟨rfl, x1l⟩; obtain ⟨d0, d1, d2, d3, d4, d5, d6, d7⟩ := (B1.out.ext x1l).eight)
  have M0 := hid (M0.out.ext x1l)
  clear x1l d0 d1 d2 d3 d4 d5 d6 d7
  obtain ⟨d0, d1, d2, d3, d4, d5, d6, d7⟩ := (Blk.extx B1.out M0.out.x N1.out).eight
  have q0 := Q0.out.ext M0.out.x G1.out
  have q1 := Q1.out.ext M0.out.x G1.out
  have ge := M0.out.at_.ge
  have T0 := hid q0.tm
  have T1 := hid q1.tm
  have kb : ¬ WrX g v b := fun e => by have := ge b e; have := q0.lt; omega
  have m0 := fun W (h : ExtX (WrX g v) w1l W) => h.cell kb q0.c0
  have m1 := fun W (h : ExtX (WrX g v) w1l W) => h.cell kb q0.c1
  have m2 := fun W (h : ExtX (WrX g v) w1l W) => h.cell kb q0.c2
  have m3 := fun W (h : ExtX (WrX g v) w1l W) => h.cell kb q0.c3
  have m4 := fun W (h : ExtX (WrX g v) w1l W) => h.cell kb q0.c4
  have m5 := fun W (h : ExtX (WrX g v) w1l W) => h.cell kb q0.c5
  have m6 := fun W (h : ExtX (WrX g v) w1l W) => h.cell kb q0.c6
  have m7 := fun W (h : ExtX (WrX g v) w1l W) => h.cell kb q0.c7
  have p0 := fun W (h : ExtX (WrX g v) w1l W) => h.cell kb q1.c0
  have p1 := fun W (h : ExtX (WrX g v) w1l W) => h.cell kb q1.c1
  have p2 := fun W (h : ExtX (WrX g v) w1l W) => h.cell kb q1.c2
  have p3 := fun W (h : ExtX (WrX g v) w1l W) => h.cell kb q1.c3
  have p4 := fun W (h : ExtX (WrX g v) w1l W) => h.cell kb q1.c4
  have p5 := fun W (h : ExtX (WrX g v) w1l W) => h.cell kb q1.c5
  have p6 := fun W (h : ExtX (WrX g v) w1l W) => h.cell kb q1.c6
  have p7 := fun W (h : ExtX (WrX g v) w1l W) => h.cell kb q1.c7
  simp only [Nat.zero_mul, Nat.add_zero, Nat.one_mul] at m0 m1 m2 m3 m4 m5 m6 m7 p0 p1 p2 p3 p4 p5 p6 p7
  clear q0 q1 ge
  have bb := (Blk.extx B1.out M0.out.x N1.out)
  have nbb : ¬ WrX g v w.heap.size := by
    rintro (e | e)
    · exact N1.out (.inl e)
    · rcases M0.out.own with h | h
      · exact N1.out (.inr (h ▸ e))
      · have := h _ e; have := B1.out.lt; omega
  have r0 := fun W (h : ExtX (WrX g v) w1l W) => h.cell (p := ⟨w.heap.size, 0, none⟩) nbb (bb.cell 0)
  have r1 := fun W (h : ExtX (WrX g v) w1l W) => h.cell (p := ⟨w.heap.size, 1, none⟩) nbb (bb.cell 1)
  have r2 := fun W (h : ExtX (WrX g v) w1l W) => h.cell (p := ⟨w.heap.size, 2, none⟩) nbb (bb.cell 2)
  have r3 := fun W (h : ExtX (WrX g v) w1l W) => h.cell (p := ⟨w.heap.size, 3, none⟩) nbb (bb.cell 3)
  have r4 := fun W (h : ExtX (WrX g v) w1l W) => h.cell (p := ⟨w.heap.size, 4, none⟩) nbb (bb.cell 4)
  have r5 := fun W (h : ExtX (WrX g v) w1l W) => h.cell (p := ⟨w.heap.size, 5, none⟩) nbb (bb.cell 5)
  have r6 := fun W (h : ExtX (WrX g v) w1l W) => h.cell (p := ⟨w.heap.size, 6, none⟩) nbb (bb.cell 6)
  have r7 := fun W (h : ExtX (WrX g v) w1l W) => h.cell (p := ⟨w.heap.size, 7, none⟩) nbb (bb.cell 7)
  simp at r0 r1 r2 r3 r4 r5 r6 r7
  clear bb
  have NB := hid (M0.out.at_.keeps (Nat.le_refl _))
  clear d0 d1 d2 d3 d4 d5 d6 d7
  refine wp_region_held_drew (S := fun w' => ExtX (WrX g v) w1l w') (by kernel_rfl) (by (try dsimp only); (exact xX)) (fun hHeld => ?_)
  refine tL 0 ?_;try simp only [Act.put,pA,pB,pC]
  refine tL 1 ?_;try simp only [Act.put,pA,pB,pC]
  refine tL 2 ?_;try simp only [Act.put,pA,pB,pC]
  refine tL 3 ?_;try simp only [Act.put,pA,pB,pC]
  refine tL 4 ?_;try simp only [Act.put,pA,pB,pC]
  refine tL 5 ?_;try simp only [Act.put,pA,pB,pC]
  refine tL 6 ?_;try simp only [Act.put,pA,pB,pC]
  refine tL 7 ?_;try simp only [Act.put,pA,pB,pC]
  refine tL 8 ?_;try simp only [Act.put,pA,pB,pC]
  refine tL 9 ?_;try simp only [Act.put,pA,pB,pC]
  refine tL 10 ?_;try simp only [Act.put,pA,pB,pC]
  refine tL 13 ?_;try simp only [Act.put,pA,pB,pC]
  refine tL 14 ?_;try simp only [Act.put,pA,pB,pC]
  refine tL 15 ?_;try simp only [Act.put,pA,pB,pC]
  refine dK 11 fun K hK => ?_; go_simp; (first | (go_at_call 79; refine (show_loose3 _).mono ?_; rintro e wl ⟨rfl, xl⟩; have zl : ExtX (WrX g v) w1l wl := (by (exact xX) : ExtX (WrX g v) w1l _).then_ xl; have sl := zl.size)); (try (focus (go_wp2_with fail))); refine hK.out _ _ (by (try dsimp only); (exact xX)) (fun hHeld => ?_); clear hK K; try simp only [Act.put,pA,pB,pC]
  refine tL 12 ?_;try simp only [Act.put,pA,pB,pC]
  refine dK 16 fun K hK => ?_; go_simp; (first | (go_at_call 80; refine (show_op3 _).mono ?_; rintro e wo ⟨rfl, xo⟩; have zo : ExtX (WrX g v) w1l wo := (by (exact xX) : ExtX (WrX g v) w1l _).then_ xo; have so := zo.size)); (try (focus (go_wp2_with fail))); refine hK.out _ _ (by (try dsimp only); (exact xX)) (fun hHeld => ?_); clear hK K; try simp only [Act.put,pA,pB,pC]
  refine dK 17 fun K hK => ?_; go_simp; refine hK.out _ _ (by (try dsimp only); (exact xX)) (fun hHeld => ?_); clear hK K; try simp only [Act.put,pA,pB,pC]
  refine dK 18 fun K hK => ?_; go_simp; (first | (go_at_call 77; refine (KK0.out v _ a0 n0 c0 a1 n1 c1 _ 1 (M0.out.ext (by (exact eX))).at_ (T0.out.ext (by (exact eX))) (T1.out.ext (by (exact eX))) (.inr ⟨_, rfl, (by simp), (fun e => by have h1 := M0.out.at_.x e; (try simp at h1); omega), fun j u hu => (by first | exact (Ext.refl (w1l.alloc _)).drew.cell (row_text w1l [s_star] j u hu) | exact row_text _ [s_star] j u hu | exact (Ext.refl _).drew.cell (row_text _ [s_star] j u hu))⟩)).mono ?_; intro e w2 hh; obtain ⟨rfl, v2, M, hx⟩ := (M0.out.ext (by (exact eX))).more hh; have HM := hid M; have z : ExtX (WrX g v) w1l w2 := (by (exact xX) : ExtX (WrX g v) w1l _).trans hx; clear hh M hx)); (try (focus (go_wp2_with fail))); refine hK.out _ _ (by (try dsimp only); (exact xX)) (fun hHeld => ?_); clear hK K; try simp only [Act.put,pA,pB,pC]
  refine wpAnyH_done (by kernel_rfl) ?_ _
  all_goals
    have M1 := hid HM.out
    clear HM
    go_wp2_with fail
    exact bodyPost_end (v := .tuple #[]) (results_none rfl _ _ _) rfl (by have h := (H1.out.trans M1.out).ret; simpa using h)
set_option maxRecDepth 60000 in
set_option maxHeartbeats 4000000 in
theorem term_op4 (N : Nat) (hT : ShowT N) (x : Hd) (y0 : Hd) (k0 : List Tm) (y1 : Hd) (k1 : List Tm) (g : Nat) (v : Value) (ws : List ByteArray) (w : World) (a : Option Addr) (c : Nat) (hk : x.k = 9) (hop : x.op = 4) (hs0 : (Tm.mk y0 k0).size ≤ N) (hn0 : ∀ u, u ∈ (Tm.mk y0 k0).all → u.node = true) (hs1 : (Tm.mk y1 k1).size ≤ N) (hn1 : ∀ u, u ∈ (Tm.mk y1 k1).all → u.node = true) (hW : WrAt w g v ws) (ht : IsTmsA (fun b => g ≤ b) w [.mk y0 k0, .mk y1 k1] a 2) (hlen : ws.length + (Tm.mk x [.mk y0 k0, .mk y1 k1]).wk.length ≤ 1000000) :
    Calls Tryz.prog 48 #[.pointer (some ⟨g, 0, none⟩), .agg #[.int .u8 x.k, .int .u8 x.op, .int .i64 x.pos, .int .i64 x.n, .string x.name, .string x.arg, .string x.exn, .slice a 2 c]] w (RetWr w g v (ws ++ (Tm.mk x [.mk y0 k0, .mk y1 k1]).wx)) := by
  have e1 : (Tm.mk x [.mk y0 k0, .mk y1 k1]).wx = (Tm.mk y0 k0).kx 3 ++ [s_less] ++ (Tm.mk y1 k1).kx 3 := by unfold Tm.wx Tm.kx; rw [wk_9 hk]; simp [hop, opS, looseT]
  have e2 : (Tm.mk x [.mk y0 k0, .mk y1 k1]).wk.length = (Tm.mk x [.mk y0 k0, .mk y1 k1]).wx.length := by simp [Tm.wx]
  have hl : ws.length + (((Tm.mk y0 k0).kx 3).length + 1 + ((Tm.mk y1 k1).kx 3).length) ≤ 1000000 := by rw [e2, e1] at hlen; simp at hlen; omega
  rw [e1, hk, hop]
  have hl0 : ((Tm.mk y0 k0).kx 3).length = ((Tm.mk y0 k0).kw 3).length := by simp [Tm.kx]
  have hl1 : ((Tm.mk y1 k1).kx 3).length = ((Tm.mk y1 k1).kw 3).length := by simp [Tm.kx]
  have KK0 := hid fun v1 w1 a1 n1 c1 a2 n2 c2 la lc (h1 : WrAt w1 g v1 (ws)) t1 t2 h3 => show_between N hT y0 y1 k0 k1 3 3 [s_less] g v1 (ws) w1 a1 a2 n1 c1 n2 c2 la lc hs0 hs1 hn0 hn1 h1 t1 t2 h3 (by simp only [List.length_append, List.length_cons, List.length_nil]; omega)
  obtain ⟨b, o, a0, n0, c0, rfl, q0⟩ := kid_at (i := 0) ht rfl
  obtain ⟨b', o', a1, n1, c1, e9, q1⟩ := kid_at (i := 1) ht rfl
  cases e9
  have Q0 := hid q0
  have Q1 := hid q1
  have HW := hid hW
  generalize (Tm.mk y0 k0).kx 3 = t0 at *
  generalize (Tm.mk y1 k1).kx 3 = t1 at *
  clear hT ht hlen e1 e2 hW hk hop hs0 hn0 hl0 q0 hs1 hn1 hl1 q1
  go_enter Tryz.func48, Tryz.ntmps48
  go_upto_region 1 with fail
  have B1 := hid (Blk.new w 28 #[.int .u8 9, .int .u8 4, .int .i64 x.pos, .int .i64 x.n, .string x.name, .string x.arg, .string x.exn, .slice (some ⟨b, o, none⟩) 2 c])
  have Y1 : Ext w (w.alloc (.cells #[.int .u8 9, .int .u8 4, .int .i64 x.pos, .int .i64 x.n, .string x.name, .string x.arg, .string x.exn, .slice (some ⟨b, o, none⟩) 2 c] 28)) := by (exact eX)
  have H1 := hid (WrTo.start HW.out |>.ext Y1)
  have Q0 := hid (Q0.out.ext (ExtX.of (A := WrX g v) Y1) HW.out.ge)
  have Q1 := hid (Q1.out.ext (ExtX.of (A := WrX g v) Y1) HW.out.ge)
  have N1 := hid (HW.out.keeps (Nat.le_refl _))
  clear Y1
  generalize w.alloc (.cells #[.int .u8 9, .int .u8 4, .int .i64 x.pos, .int .i64 x.n, .string x.name, .string x.arg, .string x.exn, .slice (some ⟨b, o, none⟩) 2 c] 28) = W1 at *
  have M0 := hid (WrTo.start H1.out.at_)
  have G1 := hid H1.out.at_.ge
  obtain ⟨d0, d1, d2, d3, d4, d5, d6, d7⟩ := B1.out.eight
  have lb := B1.out.lt
  go_upto_region 27 with (go_at_call 79; refine (show_loose4 _).mono ?_; rintro e w1l ⟨rfl, x1l⟩; obtain ⟨d0, d1, d2, d3, d4, d5, d6, d7⟩ := (B1.out.ext x1l).eight)
  have M0 := hid (M0.out.ext x1l)
  clear x1l d0 d1 d2 d3 d4 d5 d6 d7
  obtain ⟨d0, d1, d2, d3, d4, d5, d6, d7⟩ := (Blk.extx B1.out M0.out.x N1.out).eight
  have q0 := Q0.out.ext M0.out.x G1.out
  have q1 := Q1.out.ext M0.out.x G1.out
  have ge := M0.out.at_.ge
  have T0 := hid q0.tm
  have T1 := hid q1.tm
  have kb : ¬ WrX g v b := fun e => by have := ge b e; have := q0.lt; omega
  have m0 := fun W (h : ExtX (WrX g v) w1l W) => h.cell kb q0.c0
  have m1 := fun W (h : ExtX (WrX g v) w1l W) => h.cell kb q0.c1
  have m2 := fun W (h : ExtX (WrX g v) w1l W) => h.cell kb q0.c2
  have m3 := fun W (h : ExtX (WrX g v) w1l W) => h.cell kb q0.c3
  have m4 := fun W (h : ExtX (WrX g v) w1l W) => h.cell kb q0.c4
  have m5 := fun W (h : ExtX (WrX g v) w1l W) => h.cell kb q0.c5
  have m6 := fun W (h : ExtX (WrX g v) w1l W) => h.cell kb q0.c6
  have m7 := fun W (h : ExtX (WrX g v) w1l W) => h.cell kb q0.c7
  have p0 := fun W (h : ExtX (WrX g v) w1l W) => h.cell kb q1.c0
  have p1 := fun W (h : ExtX (WrX g v) w1l W) => h.cell kb q1.c1
  have p2 := fun W (h : ExtX (WrX g v) w1l W) => h.cell kb q1.c2
  have p3 := fun W (h : ExtX (WrX g v) w1l W) => h.cell kb q1.c3
  have p4 := fun W (h : ExtX (WrX g v) w1l W) => h.cell kb q1.c4
  have p5 := fun W (h : ExtX (WrX g v) w1l W) => h.cell kb q1.c5
  have p6 := fun W (h : ExtX (WrX g v) w1l W) => h.cell kb q1.c6
  have p7 := fun W (h : ExtX (WrX g v) w1l W) => h.cell kb q1.c7
  simp only [Nat.zero_mul, Nat.add_zero, Nat.one_mul] at m0 m1 m2 m3 m4 m5 m6 m7 p0 p1 p2 p3 p4 p5 p6 p7
  clear q0 q1 ge
  have bb := (Blk.extx B1.out M0.out.x N1.out)
  have nbb : ¬ WrX g v w.heap.size := by
    rintro (e | e)
    · exact N1.out (.inl e)
    · rcases M0.out.own with h | h
      · exact N1.out (.inr (h ▸ e))
      · have := h _ e; have := B1.out.lt; omega
  have r0 := fun W (h : ExtX (WrX g v) w1l W) => h.cell (p := ⟨w.heap.size, 0, none⟩) nbb (bb.cell 0)
  have r1 := fun W (h : ExtX (WrX g v) w1l W) => h.cell (p := ⟨w.heap.size, 1, none⟩) nbb (bb.cell 1)
  have r2 := fun W (h : ExtX (WrX g v) w1l W) => h.cell (p := ⟨w.heap.size, 2, none⟩) nbb (bb.cell 2)
  have r3 := fun W (h : ExtX (WrX g v) w1l W) => h.cell (p := ⟨w.heap.size, 3, none⟩) nbb (bb.cell 3)
  have r4 := fun W (h : ExtX (WrX g v) w1l W) => h.cell (p := ⟨w.heap.size, 4, none⟩) nbb (bb.cell 4)
  have r5 := fun W (h : ExtX (WrX g v) w1l W) => h.cell (p := ⟨w.heap.size, 5, none⟩) nbb (bb.cell 5)
  have r6 := fun W (h : ExtX (WrX g v) w1l W) => h.cell (p := ⟨w.heap.size, 6, none⟩) nbb (bb.cell 6)
  have r7 := fun W (h : ExtX (WrX g v) w1l W) => h.cell (p := ⟨w.heap.size, 7, none⟩) nbb (bb.cell 7)
  simp at r0 r1 r2 r3 r4 r5 r6 r7
  clear bb
  have NB := hid (M0.out.at_.keeps (Nat.le_refl _))
  clear d0 d1 d2 d3 d4 d5 d6 d7
  refine wp_region_held_drew (S := fun w' => ExtX (WrX g v) w1l w') (by kernel_rfl) (by (try dsimp only); (exact xX)) (fun hHeld => ?_)
  refine tL 0 ?_;try simp only [Act.put,pA,pB,pC]
  refine tL 1 ?_;try simp only [Act.put,pA,pB,pC]
  refine tL 2 ?_;try simp only [Act.put,pA,pB,pC]
  refine tL 3 ?_;try simp only [Act.put,pA,pB,pC]
  refine tL 4 ?_;try simp only [Act.put,pA,pB,pC]
  refine tL 5 ?_;try simp only [Act.put,pA,pB,pC]
  refine tL 6 ?_;try simp only [Act.put,pA,pB,pC]
  refine tL 7 ?_;try simp only [Act.put,pA,pB,pC]
  refine tL 8 ?_;try simp only [Act.put,pA,pB,pC]
  refine tL 9 ?_;try simp only [Act.put,pA,pB,pC]
  refine tL 10 ?_;try simp only [Act.put,pA,pB,pC]
  refine tL 13 ?_;try simp only [Act.put,pA,pB,pC]
  refine tL 14 ?_;try simp only [Act.put,pA,pB,pC]
  refine tL 15 ?_;try simp only [Act.put,pA,pB,pC]
  refine dK 11 fun K hK => ?_; go_simp; (first | (go_at_call 79; refine (show_loose4 _).mono ?_; rintro e wl ⟨rfl, xl⟩; have zl : ExtX (WrX g v) w1l wl := (by (exact xX) : ExtX (WrX g v) w1l _).then_ xl; have sl := zl.size)); (try (focus (go_wp2_with fail))); refine hK.out _ _ (by (try dsimp only); (exact xX)) (fun hHeld => ?_); clear hK K; try simp only [Act.put,pA,pB,pC]
  refine tL 12 ?_;try simp only [Act.put,pA,pB,pC]
  refine dK 16 fun K hK => ?_; go_simp; (first | (go_at_call 80; refine (show_op4 _).mono ?_; rintro e wo ⟨rfl, xo⟩; have zo : ExtX (WrX g v) w1l wo := (by (exact xX) : ExtX (WrX g v) w1l _).then_ xo; have so := zo.size)); (try (focus (go_wp2_with fail))); refine hK.out _ _ (by (try dsimp only); (exact xX)) (fun hHeld => ?_); clear hK K; try simp only [Act.put,pA,pB,pC]
  refine dK 17 fun K hK => ?_; go_simp; refine hK.out _ _ (by (try dsimp only); (exact xX)) (fun hHeld => ?_); clear hK K; try simp only [Act.put,pA,pB,pC]
  refine dK 18 fun K hK => ?_; go_simp; (first | (go_at_call 77; refine (KK0.out v _ a0 n0 c0 a1 n1 c1 _ 1 (M0.out.ext (by (exact eX))).at_ (T0.out.ext (by (exact eX))) (T1.out.ext (by (exact eX))) (.inr ⟨_, rfl, (by simp), (fun e => by have h1 := M0.out.at_.x e; (try simp at h1); omega), fun j u hu => (by first | exact (Ext.refl (w1l.alloc _)).drew.cell (row_text w1l [s_less] j u hu) | exact row_text _ [s_less] j u hu | exact (Ext.refl _).drew.cell (row_text _ [s_less] j u hu))⟩)).mono ?_; intro e w2 hh; obtain ⟨rfl, v2, M, hx⟩ := (M0.out.ext (by (exact eX))).more hh; have HM := hid M; have z : ExtX (WrX g v) w1l w2 := (by (exact xX) : ExtX (WrX g v) w1l _).trans hx; clear hh M hx)); (try (focus (go_wp2_with fail))); refine hK.out _ _ (by (try dsimp only); (exact xX)) (fun hHeld => ?_); clear hK K; try simp only [Act.put,pA,pB,pC]
  refine wpAnyH_done (by kernel_rfl) ?_ _
  all_goals
    have M1 := hid HM.out
    clear HM
    go_wp2_with fail
    exact bodyPost_end (v := .tuple #[]) (results_none rfl _ _ _) rfl (by have h := (H1.out.trans M1.out).ret; simpa using h)
set_option maxRecDepth 60000 in
set_option maxHeartbeats 4000000 in
theorem term_op5 (N : Nat) (hT : ShowT N) (x : Hd) (y0 : Hd) (k0 : List Tm) (y1 : Hd) (k1 : List Tm) (g : Nat) (v : Value) (ws : List ByteArray) (w : World) (a : Option Addr) (c : Nat) (hk : x.k = 9) (hop : x.op = 5) (hs0 : (Tm.mk y0 k0).size ≤ N) (hn0 : ∀ u, u ∈ (Tm.mk y0 k0).all → u.node = true) (hs1 : (Tm.mk y1 k1).size ≤ N) (hn1 : ∀ u, u ∈ (Tm.mk y1 k1).all → u.node = true) (hW : WrAt w g v ws) (ht : IsTmsA (fun b => g ≤ b) w [.mk y0 k0, .mk y1 k1] a 2) (hlen : ws.length + (Tm.mk x [.mk y0 k0, .mk y1 k1]).wk.length ≤ 1000000) :
    Calls Tryz.prog 48 #[.pointer (some ⟨g, 0, none⟩), .agg #[.int .u8 x.k, .int .u8 x.op, .int .i64 x.pos, .int .i64 x.n, .string x.name, .string x.arg, .string x.exn, .slice a 2 c]] w (RetWr w g v (ws ++ (Tm.mk x [.mk y0 k0, .mk y1 k1]).wx)) := by
  have e1 : (Tm.mk x [.mk y0 k0, .mk y1 k1]).wx = (Tm.mk y0 k0).kx 3 ++ [s_eq] ++ (Tm.mk y1 k1).kx 3 := by unfold Tm.wx Tm.kx; rw [wk_9 hk]; simp [hop, opS, looseT]
  have e2 : (Tm.mk x [.mk y0 k0, .mk y1 k1]).wk.length = (Tm.mk x [.mk y0 k0, .mk y1 k1]).wx.length := by simp [Tm.wx]
  have hl : ws.length + (((Tm.mk y0 k0).kx 3).length + 1 + ((Tm.mk y1 k1).kx 3).length) ≤ 1000000 := by rw [e2, e1] at hlen; simp at hlen; omega
  rw [e1, hk, hop]
  have hl0 : ((Tm.mk y0 k0).kx 3).length = ((Tm.mk y0 k0).kw 3).length := by simp [Tm.kx]
  have hl1 : ((Tm.mk y1 k1).kx 3).length = ((Tm.mk y1 k1).kw 3).length := by simp [Tm.kx]
  have KK0 := hid fun v1 w1 a1 n1 c1 a2 n2 c2 la lc (h1 : WrAt w1 g v1 (ws)) t1 t2 h3 => show_between N hT y0 y1 k0 k1 3 3 [s_eq] g v1 (ws) w1 a1 a2 n1 c1 n2 c2 la lc hs0 hs1 hn0 hn1 h1 t1 t2 h3 (by simp only [List.length_append, List.length_cons, List.length_nil]; omega)
  obtain ⟨b, o, a0, n0, c0, rfl, q0⟩ := kid_at (i := 0) ht rfl
  obtain ⟨b', o', a1, n1, c1, e9, q1⟩ := kid_at (i := 1) ht rfl
  cases e9
  have Q0 := hid q0
  have Q1 := hid q1
  have HW := hid hW
  generalize (Tm.mk y0 k0).kx 3 = t0 at *
  generalize (Tm.mk y1 k1).kx 3 = t1 at *
  clear hT ht hlen e1 e2 hW hk hop hs0 hn0 hl0 q0 hs1 hn1 hl1 q1
  go_enter Tryz.func48, Tryz.ntmps48
  go_upto_region 1 with fail
  have B1 := hid (Blk.new w 28 #[.int .u8 9, .int .u8 5, .int .i64 x.pos, .int .i64 x.n, .string x.name, .string x.arg, .string x.exn, .slice (some ⟨b, o, none⟩) 2 c])
  have Y1 : Ext w (w.alloc (.cells #[.int .u8 9, .int .u8 5, .int .i64 x.pos, .int .i64 x.n, .string x.name, .string x.arg, .string x.exn, .slice (some ⟨b, o, none⟩) 2 c] 28)) := by (exact eX)
  have H1 := hid (WrTo.start HW.out |>.ext Y1)
  have Q0 := hid (Q0.out.ext (ExtX.of (A := WrX g v) Y1) HW.out.ge)
  have Q1 := hid (Q1.out.ext (ExtX.of (A := WrX g v) Y1) HW.out.ge)
  have N1 := hid (HW.out.keeps (Nat.le_refl _))
  clear Y1
  generalize w.alloc (.cells #[.int .u8 9, .int .u8 5, .int .i64 x.pos, .int .i64 x.n, .string x.name, .string x.arg, .string x.exn, .slice (some ⟨b, o, none⟩) 2 c] 28) = W1 at *
  have M0 := hid (WrTo.start H1.out.at_)
  have G1 := hid H1.out.at_.ge
  obtain ⟨d0, d1, d2, d3, d4, d5, d6, d7⟩ := B1.out.eight
  have lb := B1.out.lt
  go_upto_region 27 with (go_at_call 79; refine (show_loose5 _).mono ?_; rintro e w1l ⟨rfl, x1l⟩; obtain ⟨d0, d1, d2, d3, d4, d5, d6, d7⟩ := (B1.out.ext x1l).eight)
  have M0 := hid (M0.out.ext x1l)
  clear x1l d0 d1 d2 d3 d4 d5 d6 d7
  obtain ⟨d0, d1, d2, d3, d4, d5, d6, d7⟩ := (Blk.extx B1.out M0.out.x N1.out).eight
  have q0 := Q0.out.ext M0.out.x G1.out
  have q1 := Q1.out.ext M0.out.x G1.out
  have ge := M0.out.at_.ge
  have T0 := hid q0.tm
  have T1 := hid q1.tm
  have kb : ¬ WrX g v b := fun e => by have := ge b e; have := q0.lt; omega
  have m0 := fun W (h : ExtX (WrX g v) w1l W) => h.cell kb q0.c0
  have m1 := fun W (h : ExtX (WrX g v) w1l W) => h.cell kb q0.c1
  have m2 := fun W (h : ExtX (WrX g v) w1l W) => h.cell kb q0.c2
  have m3 := fun W (h : ExtX (WrX g v) w1l W) => h.cell kb q0.c3
  have m4 := fun W (h : ExtX (WrX g v) w1l W) => h.cell kb q0.c4
  have m5 := fun W (h : ExtX (WrX g v) w1l W) => h.cell kb q0.c5
  have m6 := fun W (h : ExtX (WrX g v) w1l W) => h.cell kb q0.c6
  have m7 := fun W (h : ExtX (WrX g v) w1l W) => h.cell kb q0.c7
  have p0 := fun W (h : ExtX (WrX g v) w1l W) => h.cell kb q1.c0
  have p1 := fun W (h : ExtX (WrX g v) w1l W) => h.cell kb q1.c1
  have p2 := fun W (h : ExtX (WrX g v) w1l W) => h.cell kb q1.c2
  have p3 := fun W (h : ExtX (WrX g v) w1l W) => h.cell kb q1.c3
  have p4 := fun W (h : ExtX (WrX g v) w1l W) => h.cell kb q1.c4
  have p5 := fun W (h : ExtX (WrX g v) w1l W) => h.cell kb q1.c5
  have p6 := fun W (h : ExtX (WrX g v) w1l W) => h.cell kb q1.c6
  have p7 := fun W (h : ExtX (WrX g v) w1l W) => h.cell kb q1.c7
  simp only [Nat.zero_mul, Nat.add_zero, Nat.one_mul] at m0 m1 m2 m3 m4 m5 m6 m7 p0 p1 p2 p3 p4 p5 p6 p7
  clear q0 q1 ge
  have bb := (Blk.extx B1.out M0.out.x N1.out)
  have nbb : ¬ WrX g v w.heap.size := by
    rintro (e | e)
    · exact N1.out (.inl e)
    · rcases M0.out.own with h | h
      · exact N1.out (.inr (h ▸ e))
      · have := h _ e; have := B1.out.lt; omega
  have r0 := fun W (h : ExtX (WrX g v) w1l W) => h.cell (p := ⟨w.heap.size, 0, none⟩) nbb (bb.cell 0)
  have r1 := fun W (h : ExtX (WrX g v) w1l W) => h.cell (p := ⟨w.heap.size, 1, none⟩) nbb (bb.cell 1)
  have r2 := fun W (h : ExtX (WrX g v) w1l W) => h.cell (p := ⟨w.heap.size, 2, none⟩) nbb (bb.cell 2)
  have r3 := fun W (h : ExtX (WrX g v) w1l W) => h.cell (p := ⟨w.heap.size, 3, none⟩) nbb (bb.cell 3)
  have r4 := fun W (h : ExtX (WrX g v) w1l W) => h.cell (p := ⟨w.heap.size, 4, none⟩) nbb (bb.cell 4)
  have r5 := fun W (h : ExtX (WrX g v) w1l W) => h.cell (p := ⟨w.heap.size, 5, none⟩) nbb (bb.cell 5)
  have r6 := fun W (h : ExtX (WrX g v) w1l W) => h.cell (p := ⟨w.heap.size, 6, none⟩) nbb (bb.cell 6)
  have r7 := fun W (h : ExtX (WrX g v) w1l W) => h.cell (p := ⟨w.heap.size, 7, none⟩) nbb (bb.cell 7)
  simp at r0 r1 r2 r3 r4 r5 r6 r7
  clear bb
  have NB := hid (M0.out.at_.keeps (Nat.le_refl _))
  clear d0 d1 d2 d3 d4 d5 d6 d7
  refine wp_region_held_drew (S := fun w' => ExtX (WrX g v) w1l w') (by kernel_rfl) (by (try dsimp only); (exact xX)) (fun hHeld => ?_)
  refine tL 0 ?_;try simp only [Act.put,pA,pB,pC]
  refine tL 1 ?_;try simp only [Act.put,pA,pB,pC]
  refine tL 2 ?_;try simp only [Act.put,pA,pB,pC]
  refine tL 3 ?_;try simp only [Act.put,pA,pB,pC]
  refine tL 4 ?_;try simp only [Act.put,pA,pB,pC]
  refine tL 5 ?_;try simp only [Act.put,pA,pB,pC]
  refine tL 6 ?_;try simp only [Act.put,pA,pB,pC]
  refine tL 7 ?_;try simp only [Act.put,pA,pB,pC]
  refine tL 8 ?_;try simp only [Act.put,pA,pB,pC]
  refine tL 9 ?_;try simp only [Act.put,pA,pB,pC]
  refine tL 10 ?_;try simp only [Act.put,pA,pB,pC]
  refine tL 13 ?_;try simp only [Act.put,pA,pB,pC]
  refine tL 14 ?_;try simp only [Act.put,pA,pB,pC]
  refine tL 15 ?_;try simp only [Act.put,pA,pB,pC]
  refine dK 11 fun K hK => ?_; go_simp; (first | (go_at_call 79; refine (show_loose5 _).mono ?_; rintro e wl ⟨rfl, xl⟩; have zl : ExtX (WrX g v) w1l wl := (by (exact xX) : ExtX (WrX g v) w1l _).then_ xl; have sl := zl.size)); (try (focus (go_wp2_with fail))); refine hK.out _ _ (by (try dsimp only); (exact xX)) (fun hHeld => ?_); clear hK K; try simp only [Act.put,pA,pB,pC]
  refine tL 12 ?_;try simp only [Act.put,pA,pB,pC]
  refine dK 16 fun K hK => ?_; go_simp; (first | (go_at_call 80; refine (show_op5 _).mono ?_; rintro e wo ⟨rfl, xo⟩; have zo : ExtX (WrX g v) w1l wo := (by (exact xX) : ExtX (WrX g v) w1l _).then_ xo; have so := zo.size)); (try (focus (go_wp2_with fail))); refine hK.out _ _ (by (try dsimp only); (exact xX)) (fun hHeld => ?_); clear hK K; try simp only [Act.put,pA,pB,pC]
  refine dK 17 fun K hK => ?_; go_simp; refine hK.out _ _ (by (try dsimp only); (exact xX)) (fun hHeld => ?_); clear hK K; try simp only [Act.put,pA,pB,pC]
  refine dK 18 fun K hK => ?_; go_simp; (first | (go_at_call 77; refine (KK0.out v _ a0 n0 c0 a1 n1 c1 _ 1 (M0.out.ext (by (exact eX))).at_ (T0.out.ext (by (exact eX))) (T1.out.ext (by (exact eX))) (.inr ⟨_, rfl, (by simp), (fun e => by have h1 := M0.out.at_.x e; (try simp at h1); omega), fun j u hu => (by first | exact (Ext.refl (w1l.alloc _)).drew.cell (row_text w1l [s_eq] j u hu) | exact row_text _ [s_eq] j u hu | exact (Ext.refl _).drew.cell (row_text _ [s_eq] j u hu))⟩)).mono ?_; intro e w2 hh; obtain ⟨rfl, v2, M, hx⟩ := (M0.out.ext (by (exact eX))).more hh; have HM := hid M; have z : ExtX (WrX g v) w1l w2 := (by (exact xX) : ExtX (WrX g v) w1l _).trans hx; clear hh M hx)); (try (focus (go_wp2_with fail))); refine hK.out _ _ (by (try dsimp only); (exact xX)) (fun hHeld => ?_); clear hK K; try simp only [Act.put,pA,pB,pC]
  refine wpAnyH_done (by kernel_rfl) ?_ _
  all_goals
    have M1 := hid HM.out
    clear HM
    go_wp2_with fail
    exact bodyPost_end (v := .tuple #[]) (results_none rfl _ _ _) rfl (by have h := (H1.out.trans M1.out).ret; simpa using h)
end Go.Proofs.YtaioeailgknfjaaGreatDoor
