/- Part 29 of the proof: Show3; no condition of ours. -/
import Derived.Test.YtaioeailgknfjaaGreatDoorPkp28
set_option linter.unusedVariables false
set_option linter.unusedSimpArgs false
namespace Go.Proofs.YtaioeailgknfjaaGreatDoor
open Go.Lib (hid)
open Go Go.RowKit Go.Sort
structure KidAt (w : World) (g b o : Nat) (y : Hd) (ky : List Tm) (a : Option Addr) (n c : Nat) : Prop where
  lt : b < g
  c0 : w.cell? ⟨b, o, none⟩ = some (.int .u8 y.k)
  c1 : w.cell? ⟨b, o + 1, none⟩ = some (.int .u8 y.op)
  c2 : w.cell? ⟨b, o + 2, none⟩ = some (.int .i64 y.pos)
  c3 : w.cell? ⟨b, o + 3, none⟩ = some (.int .i64 y.n)
  c4 : w.cell? ⟨b, o + 4, none⟩ = some (.string y.name)
  c5 : w.cell? ⟨b, o + 5, none⟩ = some (.string y.arg)
  c6 : w.cell? ⟨b, o + 6, none⟩ = some (.string y.exn)
  c7 : w.cell? ⟨b, o + 7, none⟩ = some (.slice a n c)
  tm : IsTmA (fun b => g ≤ b) w (.mk y ky) (.agg #[.int .u8 y.k, .int .u8 y.op, .int .i64 y.pos, .int .i64 y.n, .string y.name, .string y.arg, .string y.exn, .slice a n c])
theorem kid_at {w : World} {g : Nat} {ks : List Tm} {aa : Option Addr} {n : Nat} (h : IsTmsA (fun b => g ≤ b) w ks aa n) {i : Nat} {y : Hd} {ky : List Tm} (hi : ks[i]? = some (.mk y ky)) : ∃ b o a n' c, aa = some ⟨b, o, none⟩ ∧ KidAt w g b (o + i * 8) y ky a n' c := by
  obtain ⟨b, o, e, hA, hT⟩ := h.place hi
  obtain ⟨a, n', c, hd, c7, hf, h1, h2, hk⟩ := hT.val
  exact ⟨b, o, a, n', c, e, Nat.lt_of_not_le hA, hd.c0, hd.c1, hd.c2, hd.c3, hd.c4, hd.c5, hd.c6, c7, IsTmA.mk_ hk h1 h2 hf⟩
theorem KidAt.ext {w w' : World} {X : Nat → Prop} {g b o : Nat} {y : Hd} {ky : List Tm} {a : Option Addr} {n c : Nat} (h : KidAt w g b o y ky a n c) (hx : ExtX X w w') (hX : ∀ b, X b → g ≤ b) : KidAt w' g b o y ky a n c := by
  have hb : ¬ X b := fun e => by have := hX b e; have := h.lt; omega
  exact ⟨h.lt, hx.cell hb h.c0, hx.cell hb h.c1, hx.cell hb h.c2, hx.cell hb h.c3, hx.cell hb h.c4, hx.cell hb h.c5, hx.cell hb h.c6, hx.cell hb h.c7, h.tm.extx hx hX⟩
set_option maxRecDepth 60000 in
set_option maxHeartbeats 4000000 in
theorem bind_fn (N : Nat) (hT : ShowT N) (x : Hd) (y0 : Hd) (k0 : List Tm) (g : Nat) (v : Value) (ws : List ByteArray) (w : World) (a : Option Addr) (c : Nat) (hk : x.k = 11) (hs0 : (Tm.mk y0 k0).size ≤ N) (hn0 : ∀ u, u ∈ (Tm.mk y0 k0).all → u.node = true) (hW : WrAt w g v ws) (ht : IsTmsA (fun b => g ≤ b) w [.mk y0 k0] a 1) (hlen : ws.length + (Tm.mk x [.mk y0 k0]).wk.length ≤ 1000000) :
    Calls Tryz.prog 81 #[.pointer (some ⟨g, 0, none⟩), .agg #[.int .u8 x.k, .int .u8 x.op, .int .i64 x.pos, .int .i64 x.n, .string x.name, .string x.arg, .string x.exn, .slice a 1 c], .slice a 1 c] w (RetWr w g v (ws ++ (Tm.mk x [.mk y0 k0]).wx)) := by
  have e1 : (Tm.mk x [.mk y0 k0]).wx = [w_fn, x.arg, s_to] ++ (Tm.mk y0 k0).kx 0 := by unfold Tm.wx Tm.kx; rw [wk_11 hk, Tm.kw0]; simp
  have e2 : (Tm.mk x [.mk y0 k0]).wk.length = (Tm.mk x [.mk y0 k0]).wx.length := by simp [Tm.wx]
  have hl : ws.length + (3 + ((Tm.mk y0 k0).kx 0).length) ≤ 1000000 := by rw [e2, e1] at hlen; simp at hlen; omega
  rw [e1, hk]
  have hl0 : ((Tm.mk y0 k0).kx 0).length = ((Tm.mk y0 k0).kw 0).length := by simp [Tm.kx]
  have KK1 := hid fun v1 w1 a1 n1 c1 (h1 : WrAt w1 g v1 (ws ++ [w_fn, x.arg, s_to])) t1 => show_kid N hT y0 k0 0 g v1 (ws ++ [w_fn, x.arg, s_to]) w1 a1 n1 c1 hs0 hn0 h1 t1 (by simp only [List.length_append, List.length_cons, List.length_nil]; omega)
  obtain ⟨b, o, a0, n0, c0, rfl, q0⟩ := kid_at (i := 0) ht rfl
  have Q0 := hid q0
  have HW := hid hW
  generalize (Tm.mk y0 k0).kx 0 = t0 at *
  clear hT ht hlen e1 e2 hW hk hs0 hn0 hl0 q0
  go_enter Tryz.func81, Tryz.ntmps81
  go_upto_region 1 with fail
  have B1 := hid (Blk.new w 28 #[.int .u8 11, .int .u8 x.op, .int .i64 x.pos, .int .i64 x.n, .string x.name, .string x.arg, .string x.exn, .slice (some ⟨b, o, none⟩) 1 c])
  have Y1 : Ext w (w.alloc (.cells #[.int .u8 11, .int .u8 x.op, .int .i64 x.pos, .int .i64 x.n, .string x.name, .string x.arg, .string x.exn, .slice (some ⟨b, o, none⟩) 1 c] 28)) := by (exact eX)
  have H1 := hid (WrTo.start HW.out |>.ext Y1)
  have Q0 := hid (Q0.out.ext (ExtX.of (A := WrX g v) Y1) HW.out.ge)
  have N1 := hid (HW.out.keeps (Nat.le_refl _))
  clear Y1
  generalize w.alloc (.cells #[.int .u8 11, .int .u8 x.op, .int .i64 x.pos, .int .i64 x.n, .string x.name, .string x.arg, .string x.exn, .slice (some ⟨b, o, none⟩) 1 c] 28) = W1 at *
  have M0 := hid (WrTo.start H1.out.at_)
  have G1 := hid H1.out.at_.ge
  obtain ⟨d0, d1, d2, d3, d4, d5, d6, d7⟩ := B1.out.eight
  have lb := B1.out.lt
  go_upto_region 4 with (go_at_call 53; refine (show_put g v (ws) [w_fn, x.arg, s_to] _ ⟨W1.heap.size, 0, none⟩ 3 (M0.out.ext ((Ext.refl W1).alloc _)).at_ (row_text W1 [w_fn, x.arg, s_to]) (by simp only [List.length_append, List.length_cons, List.length_nil]; omega)).mono ?_; intro e w2 hh; obtain ⟨rfl, v2, M, -⟩ := (M0.out.ext ((Ext.refl W1).alloc _)).more hh)
  have M1 := hid M
  clear hh M d0 d1 d2 d3 d4 d5 d6 d7
  obtain ⟨d0, d1, d2, d3, d4, d5, d6, d7⟩ := (Blk.extx B1.out M1.out.x N1.out).eight
  have q0 := Q0.out.ext M1.out.x G1.out
  have m0 := q0.c0
  have m1 := q0.c1
  have m2 := q0.c2
  have m3 := q0.c3
  have m4 := q0.c4
  have m5 := q0.c5
  have m6 := q0.c6
  have m7 := q0.c7
  simp only [Nat.zero_mul, Nat.add_zero, Nat.one_mul, Nat.reduceMul] at m0 m1 m2 m3 m4 m5 m6 m7
  have T0 := hid q0.tm
  clear q0
  go_wp2_with (go_at_call 78; refine (KK1.out v2 w2 _ _ _ M1.out.at_ T0.out).mono ?_; intro e w3 hh; obtain ⟨rfl, v3, M, -⟩ := M1.out.more hh)
  have M2 := hid M
  clear hh M d0 d1 d2 d3 d4 d5 d6 d7
  clear m0 m1 m2 m3 m4 m5 m6 m7
  exact bodyPost_end (v := .tuple #[]) (results_none rfl _ _ _) rfl (by have h := (H1.out.trans M2.out).ret; simpa using h)
set_option maxRecDepth 60000 in
set_option maxHeartbeats 4000000 in
theorem bind_let (N : Nat) (hT : ShowT N) (x : Hd) (y0 : Hd) (k0 : List Tm) (y1 : Hd) (k1 : List Tm) (g : Nat) (v : Value) (ws : List ByteArray) (w : World) (a : Option Addr) (c : Nat) (hk : x.k = 12) (hs0 : (Tm.mk y0 k0).size ≤ N) (hn0 : ∀ u, u ∈ (Tm.mk y0 k0).all → u.node = true) (hs1 : (Tm.mk y1 k1).size ≤ N) (hn1 : ∀ u, u ∈ (Tm.mk y1 k1).all → u.node = true) (hW : WrAt w g v ws) (ht : IsTmsA (fun b => g ≤ b) w [.mk y0 k0, .mk y1 k1] a 2) (hlen : ws.length + (Tm.mk x [.mk y0 k0, .mk y1 k1]).wk.length ≤ 1000000) :
    Calls Tryz.prog 81 #[.pointer (some ⟨g, 0, none⟩), .agg #[.int .u8 x.k, .int .u8 x.op, .int .i64 x.pos, .int .i64 x.n, .string x.name, .string x.arg, .string x.exn, .slice a 2 c], .slice a 2 c] w (RetWr w g v (ws ++ (Tm.mk x [.mk y0 k0, .mk y1 k1]).wx)) := by
  have e1 : (Tm.mk x [.mk y0 k0, .mk y1 k1]).wx = [w_let, x.name, s_eq] ++ (Tm.mk y0 k0).kx 0 ++ [w_in] ++ (Tm.mk y1 k1).kx 0 := by unfold Tm.wx Tm.kx; rw [wk_12 hk, Tm.kw0, Tm.kw0]; simp
  have e2 : (Tm.mk x [.mk y0 k0, .mk y1 k1]).wk.length = (Tm.mk x [.mk y0 k0, .mk y1 k1]).wx.length := by simp [Tm.wx]
  have hl : ws.length + (3 + ((Tm.mk y0 k0).kx 0).length + 1 + ((Tm.mk y1 k1).kx 0).length) ≤ 1000000 := by rw [e2, e1] at hlen; simp at hlen; omega
  rw [e1, hk]
  have hl0 : ((Tm.mk y0 k0).kx 0).length = ((Tm.mk y0 k0).kw 0).length := by simp [Tm.kx]
  have hl1 : ((Tm.mk y1 k1).kx 0).length = ((Tm.mk y1 k1).kw 0).length := by simp [Tm.kx]
  have KK1 := hid fun v1 w1 a1 n1 c1 a2 n2 c2 la lc (h1 : WrAt w1 g v1 (ws ++ [w_let, x.name, s_eq])) t1 t2 h3 => show_between N hT y0 y1 k0 k1 0 0 [w_in] g v1 (ws ++ [w_let, x.name, s_eq]) w1 a1 a2 n1 c1 n2 c2 la lc hs0 hs1 hn0 hn1 h1 t1 t2 h3 (by simp only [List.length_append, List.length_cons, List.length_nil]; omega)
  obtain ⟨b, o, a0, n0, c0, rfl, q0⟩ := kid_at (i := 0) ht rfl
  obtain ⟨b', o', a1, n1, c1, e9, q1⟩ := kid_at (i := 1) ht rfl
  cases e9
  have Q0 := hid q0
  have Q1 := hid q1
  have HW := hid hW
  generalize (Tm.mk y0 k0).kx 0 = t0 at *
  generalize (Tm.mk y1 k1).kx 0 = t1 at *
  clear hT ht hlen e1 e2 hW hk hs0 hn0 hl0 q0 hs1 hn1 hl1 q1
  go_enter Tryz.func81, Tryz.ntmps81
  go_upto_region 1 with fail
  have B1 := hid (Blk.new w 28 #[.int .u8 12, .int .u8 x.op, .int .i64 x.pos, .int .i64 x.n, .string x.name, .string x.arg, .string x.exn, .slice (some ⟨b, o, none⟩) 2 c])
  have Y1 : Ext w (w.alloc (.cells #[.int .u8 12, .int .u8 x.op, .int .i64 x.pos, .int .i64 x.n, .string x.name, .string x.arg, .string x.exn, .slice (some ⟨b, o, none⟩) 2 c] 28)) := by (exact eX)
  have H1 := hid (WrTo.start HW.out |>.ext Y1)
  have Q0 := hid (Q0.out.ext (ExtX.of (A := WrX g v) Y1) HW.out.ge)
  have Q1 := hid (Q1.out.ext (ExtX.of (A := WrX g v) Y1) HW.out.ge)
  have N1 := hid (HW.out.keeps (Nat.le_refl _))
  clear Y1
  generalize w.alloc (.cells #[.int .u8 12, .int .u8 x.op, .int .i64 x.pos, .int .i64 x.n, .string x.name, .string x.arg, .string x.exn, .slice (some ⟨b, o, none⟩) 2 c] 28) = W1 at *
  have M0 := hid (WrTo.start H1.out.at_)
  have G1 := hid H1.out.at_.ge
  obtain ⟨d0, d1, d2, d3, d4, d5, d6, d7⟩ := B1.out.eight
  have lb := B1.out.lt
  go_upto_region 7 with (go_at_call 53; refine (show_put g v (ws) [w_let, x.name, s_eq] _ ⟨W1.heap.size, 0, none⟩ 3 (M0.out.ext ((Ext.refl W1).alloc _)).at_ (row_text W1 [w_let, x.name, s_eq]) (by simp only [List.length_append, List.length_cons, List.length_nil]; omega)).mono ?_; intro e w2 hh; obtain ⟨rfl, v2, M, -⟩ := (M0.out.ext ((Ext.refl W1).alloc _)).more hh)
  have M1 := hid M
  clear hh M d0 d1 d2 d3 d4 d5 d6 d7
  obtain ⟨d0, d1, d2, d3, d4, d5, d6, d7⟩ := (Blk.extx B1.out M1.out.x N1.out).eight
  have q0 := Q0.out.ext M1.out.x G1.out
  have q1 := Q1.out.ext M1.out.x G1.out
  have ge := M1.out.at_.ge
  have T0 := hid q0.tm
  have T1 := hid q1.tm
  have kb : ¬ WrX g v2 b := fun e => by have := ge b e; have := q0.lt; omega
  have m0 := fun W (h : ExtX (WrX g v2) w2 W) => h.cell kb q0.c0
  have m1 := fun W (h : ExtX (WrX g v2) w2 W) => h.cell kb q0.c1
  have m2 := fun W (h : ExtX (WrX g v2) w2 W) => h.cell kb q0.c2
  have m3 := fun W (h : ExtX (WrX g v2) w2 W) => h.cell kb q0.c3
  have m4 := fun W (h : ExtX (WrX g v2) w2 W) => h.cell kb q0.c4
  have m5 := fun W (h : ExtX (WrX g v2) w2 W) => h.cell kb q0.c5
  have m6 := fun W (h : ExtX (WrX g v2) w2 W) => h.cell kb q0.c6
  have m7 := fun W (h : ExtX (WrX g v2) w2 W) => h.cell kb q0.c7
  have p0 := fun W (h : ExtX (WrX g v2) w2 W) => h.cell kb q1.c0
  have p1 := fun W (h : ExtX (WrX g v2) w2 W) => h.cell kb q1.c1
  have p2 := fun W (h : ExtX (WrX g v2) w2 W) => h.cell kb q1.c2
  have p3 := fun W (h : ExtX (WrX g v2) w2 W) => h.cell kb q1.c3
  have p4 := fun W (h : ExtX (WrX g v2) w2 W) => h.cell kb q1.c4
  have p5 := fun W (h : ExtX (WrX g v2) w2 W) => h.cell kb q1.c5
  have p6 := fun W (h : ExtX (WrX g v2) w2 W) => h.cell kb q1.c6
  have p7 := fun W (h : ExtX (WrX g v2) w2 W) => h.cell kb q1.c7
  simp only [Nat.zero_mul, Nat.add_zero, Nat.one_mul] at m0 m1 m2 m3 m4 m5 m6 m7 p0 p1 p2 p3 p4 p5 p6 p7
  clear q0 q1 ge
  have NB := hid (M1.out.at_.keeps (Nat.le_refl _))
  clear d0 d1 d2 d3 d4 d5 d6 d7
  refine wp_region_held_drew (S := fun w' => ExtX (WrX g v2) w2 w') (by kernel_rfl) (by (try dsimp only); (exact xX)) (fun hHeld => ?_)
  refine tL 0 ?_;try simp only [Act.put,pA,pB,pC]
  refine tL 1 ?_;try simp only [Act.put,pA,pB,pC]
  refine tL 2 ?_;try simp only [Act.put,pA,pB,pC]
  refine tL 3 ?_;try simp only [Act.put,pA,pB,pC]
  refine tL 4 ?_;try simp only [Act.put,pA,pB,pC]
  refine tL 5 ?_;try simp only [Act.put,pA,pB,pC]
  refine tL 6 ?_;try simp only [Act.put,pA,pB,pC]
  refine dK 7 fun K hK => ?_; go_simp; refine hK.out _ _ (by (try dsimp only); (exact xX)) (fun hHeld => ?_); clear hK K; try simp only [Act.put,pA,pB,pC]
  refine dK 8 fun K hK => ?_; go_simp; (first | (go_at_call 77; refine (KK1.out v2 _ a0 n0 c0 a1 n1 c1 _ 1 (M1.out.ext (by (exact eX))).at_ (T0.out.ext (by (exact eX))) (T1.out.ext (by (exact eX))) (.inr ⟨_, rfl, (by simp), NB.out, fun j u hu => (by first | exact (Ext.refl (w2.alloc _)).drew.cell (row_text w2 [w_in] j u hu) | exact row_text _ [w_in] j u hu | exact (Ext.refl _).drew.cell (row_text _ [w_in] j u hu))⟩)).mono ?_; intro e w3 hh; obtain ⟨rfl, v3, M, hx⟩ := (M1.out.ext (by (exact eX))).more hh; have HM := hid M; have z : ExtX (WrX g v2) w2 w3 := (by (exact xX) : ExtX (WrX g v2) w2 _).trans hx; clear hh M hx)); (try (focus (go_wp2_with fail))); refine hK.out _ _ (by (try dsimp only); (exact xX)) (fun hHeld => ?_); clear hK K; try simp only [Act.put,pA,pB,pC]
  refine wpAnyH_done (by kernel_rfl) ?_ _
  have M2 := hid HM.out
  clear HM z hHeld NB m0 m1 m2 m3 m4 m5 m6 m7 p0 p1 p2 p3 p4 p5 p6 p7 kb
  go_wp2_with fail
  exact bodyPost_end (v := .tuple #[]) (results_none rfl _ _ _) rfl (by have h := (H1.out.trans M2.out).ret; simpa using h)
set_option maxRecDepth 60000 in
set_option maxHeartbeats 4000000 in
theorem bind_letrec (N : Nat) (hT : ShowT N) (x : Hd) (y0 : Hd) (k0 : List Tm) (y1 : Hd) (k1 : List Tm) (g : Nat) (v : Value) (ws : List ByteArray) (w : World) (a : Option Addr) (c : Nat) (hk : x.k = 13) (hs0 : (Tm.mk y0 k0).size ≤ N) (hn0 : ∀ u, u ∈ (Tm.mk y0 k0).all → u.node = true) (hs1 : (Tm.mk y1 k1).size ≤ N) (hn1 : ∀ u, u ∈ (Tm.mk y1 k1).all → u.node = true) (hW : WrAt w g v ws) (ht : IsTmsA (fun b => g ≤ b) w [.mk y0 k0, .mk y1 k1] a 2) (hlen : ws.length + (Tm.mk x [.mk y0 k0, .mk y1 k1]).wk.length ≤ 1000000) :
    Calls Tryz.prog 81 #[.pointer (some ⟨g, 0, none⟩), .agg #[.int .u8 x.k, .int .u8 x.op, .int .i64 x.pos, .int .i64 x.n, .string x.name, .string x.arg, .string x.exn, .slice a 2 c], .slice a 2 c] w (RetWr w g v (ws ++ (Tm.mk x [.mk y0 k0, .mk y1 k1]).wx)) := by
  have e1 : (Tm.mk x [.mk y0 k0, .mk y1 k1]).wx = [w_letrec, x.name, x.arg, s_eq] ++ (Tm.mk y0 k0).kx 0 ++ [w_in] ++ (Tm.mk y1 k1).kx 0 := by unfold Tm.wx Tm.kx; rw [wk_13 hk, Tm.kw0, Tm.kw0]; simp
  have e2 : (Tm.mk x [.mk y0 k0, .mk y1 k1]).wk.length = (Tm.mk x [.mk y0 k0, .mk y1 k1]).wx.length := by simp [Tm.wx]
  have hl : ws.length + (4 + ((Tm.mk y0 k0).kx 0).length + 1 + ((Tm.mk y1 k1).kx 0).length) ≤ 1000000 := by rw [e2, e1] at hlen; simp at hlen; omega
  rw [e1, hk]
  have hl0 : ((Tm.mk y0 k0).kx 0).length = ((Tm.mk y0 k0).kw 0).length := by simp [Tm.kx]
  have hl1 : ((Tm.mk y1 k1).kx 0).length = ((Tm.mk y1 k1).kw 0).length := by simp [Tm.kx]
  have KK1 := hid fun v1 w1 a1 n1 c1 a2 n2 c2 la lc (h1 : WrAt w1 g v1 (ws ++ [w_letrec, x.name, x.arg, s_eq])) t1 t2 h3 => show_between N hT y0 y1 k0 k1 0 0 [w_in] g v1 (ws ++ [w_letrec, x.name, x.arg, s_eq]) w1 a1 a2 n1 c1 n2 c2 la lc hs0 hs1 hn0 hn1 h1 t1 t2 h3 (by simp only [List.length_append, List.length_cons, List.length_nil]; omega)
  obtain ⟨b, o, a0, n0, c0, rfl, q0⟩ := kid_at (i := 0) ht rfl
  obtain ⟨b', o', a1, n1, c1, e9, q1⟩ := kid_at (i := 1) ht rfl
  cases e9
  have Q0 := hid q0
  have Q1 := hid q1
  have HW := hid hW
  generalize (Tm.mk y0 k0).kx 0 = t0 at *
  generalize (Tm.mk y1 k1).kx 0 = t1 at *
  clear hT ht hlen e1 e2 hW hk hs0 hn0 hl0 q0 hs1 hn1 hl1 q1
  go_enter Tryz.func81, Tryz.ntmps81
  go_upto_region 1 with fail
  have B1 := hid (Blk.new w 28 #[.int .u8 13, .int .u8 x.op, .int .i64 x.pos, .int .i64 x.n, .string x.name, .string x.arg, .string x.exn, .slice (some ⟨b, o, none⟩) 2 c])
  have Y1 : Ext w (w.alloc (.cells #[.int .u8 13, .int .u8 x.op, .int .i64 x.pos, .int .i64 x.n, .string x.name, .string x.arg, .string x.exn, .slice (some ⟨b, o, none⟩) 2 c] 28)) := by (exact eX)
  have H1 := hid (WrTo.start HW.out |>.ext Y1)
  have Q0 := hid (Q0.out.ext (ExtX.of (A := WrX g v) Y1) HW.out.ge)
  have Q1 := hid (Q1.out.ext (ExtX.of (A := WrX g v) Y1) HW.out.ge)
  have N1 := hid (HW.out.keeps (Nat.le_refl _))
  clear Y1
  generalize w.alloc (.cells #[.int .u8 13, .int .u8 x.op, .int .i64 x.pos, .int .i64 x.n, .string x.name, .string x.arg, .string x.exn, .slice (some ⟨b, o, none⟩) 2 c] 28) = W1 at *
  have M0 := hid (WrTo.start H1.out.at_)
  have G1 := hid H1.out.at_.ge
  obtain ⟨d0, d1, d2, d3, d4, d5, d6, d7⟩ := B1.out.eight
  have lb := B1.out.lt
  go_upto_region 10 with (go_at_call 53; refine (show_put g v (ws) [w_letrec, x.name, x.arg, s_eq] _ ⟨W1.heap.size, 0, none⟩ 4 (M0.out.ext ((Ext.refl W1).alloc _)).at_ (row_text W1 [w_letrec, x.name, x.arg, s_eq]) (by simp only [List.length_append, List.length_cons, List.length_nil]; omega)).mono ?_; intro e w2 hh; obtain ⟨rfl, v2, M, -⟩ := (M0.out.ext ((Ext.refl W1).alloc _)).more hh)
  have M1 := hid M
  clear hh M d0 d1 d2 d3 d4 d5 d6 d7
  obtain ⟨d0, d1, d2, d3, d4, d5, d6, d7⟩ := (Blk.extx B1.out M1.out.x N1.out).eight
  have q0 := Q0.out.ext M1.out.x G1.out
  have q1 := Q1.out.ext M1.out.x G1.out
  have ge := M1.out.at_.ge
  have T0 := hid q0.tm
  have T1 := hid q1.tm
  have kb : ¬ WrX g v2 b := fun e => by have := ge b e; have := q0.lt; omega
  have m0 := fun W (h : ExtX (WrX g v2) w2 W) => h.cell kb q0.c0
  have m1 := fun W (h : ExtX (WrX g v2) w2 W) => h.cell kb q0.c1
  have m2 := fun W (h : ExtX (WrX g v2) w2 W) => h.cell kb q0.c2
  have m3 := fun W (h : ExtX (WrX g v2) w2 W) => h.cell kb q0.c3
  have m4 := fun W (h : ExtX (WrX g v2) w2 W) => h.cell kb q0.c4
  have m5 := fun W (h : ExtX (WrX g v2) w2 W) => h.cell kb q0.c5
  have m6 := fun W (h : ExtX (WrX g v2) w2 W) => h.cell kb q0.c6
  have m7 := fun W (h : ExtX (WrX g v2) w2 W) => h.cell kb q0.c7
  have p0 := fun W (h : ExtX (WrX g v2) w2 W) => h.cell kb q1.c0
  have p1 := fun W (h : ExtX (WrX g v2) w2 W) => h.cell kb q1.c1
  have p2 := fun W (h : ExtX (WrX g v2) w2 W) => h.cell kb q1.c2
  have p3 := fun W (h : ExtX (WrX g v2) w2 W) => h.cell kb q1.c3
  have p4 := fun W (h : ExtX (WrX g v2) w2 W) => h.cell kb q1.c4
  have p5 := fun W (h : ExtX (WrX g v2) w2 W) => h.cell kb q1.c5
  have p6 := fun W (h : ExtX (WrX g v2) w2 W) => h.cell kb q1.c6
  have p7 := fun W (h : ExtX (WrX g v2) w2 W) => h.cell kb q1.c7
  simp only [Nat.zero_mul, Nat.add_zero, Nat.one_mul] at m0 m1 m2 m3 m4 m5 m6 m7 p0 p1 p2 p3 p4 p5 p6 p7
  clear q0 q1 ge
  have NB := hid (M1.out.at_.keeps (Nat.le_refl _))
  clear d0 d1 d2 d3 d4 d5 d6 d7
  refine wp_region_held_drew (S := fun w' => ExtX (WrX g v2) w2 w') (by kernel_rfl) (by (try dsimp only); (exact xX)) (fun hHeld => ?_)
  refine tL 0 ?_;try simp only [Act.put,pA,pB,pC]
  refine tL 1 ?_;try simp only [Act.put,pA,pB,pC]
  refine tL 2 ?_;try simp only [Act.put,pA,pB,pC]
  refine tL 3 ?_;try simp only [Act.put,pA,pB,pC]
  refine tL 4 ?_;try simp only [Act.put,pA,pB,pC]
  refine tL 5 ?_;try simp only [Act.put,pA,pB,pC]
  refine tL 6 ?_;try simp only [Act.put,pA,pB,pC]
  refine dK 7 fun K hK => ?_; go_simp; refine hK.out _ _ (by (try dsimp only); (exact xX)) (fun hHeld => ?_); clear hK K; try simp only [Act.put,pA,pB,pC]
  refine dK 8 fun K hK => ?_; go_simp; (first | (go_at_call 77; refine (KK1.out v2 _ a0 n0 c0 a1 n1 c1 _ 1 (M1.out.ext (by (exact eX))).at_ (T0.out.ext (by (exact eX))) (T1.out.ext (by (exact eX))) (.inr ⟨_, rfl, (by simp), NB.out, fun j u hu => (by first | exact (Ext.refl (w2.alloc _)).drew.cell (row_text w2 [w_in] j u hu) | exact row_text _ [w_in] j u hu | exact (Ext.refl _).drew.cell (row_text _ [w_in] j u hu))⟩)).mono ?_; intro e w3 hh; obtain ⟨rfl, v3, M, hx⟩ := (M1.out.ext (by (exact eX))).more hh; have HM := hid M; have z : ExtX (WrX g v2) w2 w3 := (by (exact xX) : ExtX (WrX g v2) w2 _).trans hx; clear hh M hx)); (try (focus (go_wp2_with fail))); refine hK.out _ _ (by (try dsimp only); (exact xX)) (fun hHeld => ?_); clear hK K; try simp only [Act.put,pA,pB,pC]
  refine wpAnyH_done (by kernel_rfl) ?_ _
  have M2 := hid HM.out
  clear HM z hHeld NB m0 m1 m2 m3 m4 m5 m6 m7 p0 p1 p2 p3 p4 p5 p6 p7 kb
  go_wp2_with fail
  exact bodyPost_end (v := .tuple #[]) (results_none rfl _ _ _) rfl (by have h := (H1.out.trans M2.out).ret; simpa using h)
set_option maxRecDepth 60000 in
set_option maxHeartbeats 4000000 in
theorem bind_if (N : Nat) (hT : ShowT N) (x : Hd) (y0 : Hd) (k0 : List Tm) (y1 : Hd) (k1 : List Tm) (y2 : Hd) (k2 : List Tm) (g : Nat) (v : Value) (ws : List ByteArray) (w : World) (a : Option Addr) (c : Nat) (hk : x.k = 14) (hs0 : (Tm.mk y0 k0).size ≤ N) (hn0 : ∀ u, u ∈ (Tm.mk y0 k0).all → u.node = true) (hs1 : (Tm.mk y1 k1).size ≤ N) (hn1 : ∀ u, u ∈ (Tm.mk y1 k1).all → u.node = true) (hs2 : (Tm.mk y2 k2).size ≤ N) (hn2 : ∀ u, u ∈ (Tm.mk y2 k2).all → u.node = true) (hW : WrAt w g v ws) (ht : IsTmsA (fun b => g ≤ b) w [.mk y0 k0, .mk y1 k1, .mk y2 k2] a 3) (hlen : ws.length + (Tm.mk x [.mk y0 k0, .mk y1 k1, .mk y2 k2]).wk.length ≤ 1000000) :
    Calls Tryz.prog 81 #[.pointer (some ⟨g, 0, none⟩), .agg #[.int .u8 x.k, .int .u8 x.op, .int .i64 x.pos, .int .i64 x.n, .string x.name, .string x.arg, .string x.exn, .slice a 3 c], .slice a 3 c] w (RetWr w g v (ws ++ (Tm.mk x [.mk y0 k0, .mk y1 k1, .mk y2 k2]).wx)) := by
  have e1 : (Tm.mk x [.mk y0 k0, .mk y1 k1, .mk y2 k2]).wx = [w_if] ++ (Tm.mk y0 k0).kx 0 ++ [w_then] ++ (Tm.mk y1 k1).kx 0 ++ [w_else] ++ (Tm.mk y2 k2).kx 0 := by unfold Tm.wx Tm.kx; rw [wk_14 hk, Tm.kw0, Tm.kw0, Tm.kw0]; simp
  have e2 : (Tm.mk x [.mk y0 k0, .mk y1 k1, .mk y2 k2]).wk.length = (Tm.mk x [.mk y0 k0, .mk y1 k1, .mk y2 k2]).wx.length := by simp [Tm.wx]
  have hl : ws.length + (1 + ((Tm.mk y0 k0).kx 0).length + 1 + ((Tm.mk y1 k1).kx 0).length + 1 + ((Tm.mk y2 k2).kx 0).length) ≤ 1000000 := by rw [e2, e1] at hlen; simp at hlen; omega
  rw [e1, hk]
  have hl0 : ((Tm.mk y0 k0).kx 0).length = ((Tm.mk y0 k0).kw 0).length := by simp [Tm.kx]
  have hl1 : ((Tm.mk y1 k1).kx 0).length = ((Tm.mk y1 k1).kw 0).length := by simp [Tm.kx]
  have hl2 : ((Tm.mk y2 k2).kx 0).length = ((Tm.mk y2 k2).kw 0).length := by simp [Tm.kx]
  have KK1 := hid fun v1 w1 a1 n1 c1 a2 n2 c2 la lc (h1 : WrAt w1 g v1 (ws ++ [w_if])) t1 t2 h3 => show_between N hT y0 y1 k0 k1 0 0 [w_then] g v1 (ws ++ [w_if]) w1 a1 a2 n1 c1 n2 c2 la lc hs0 hs1 hn0 hn1 h1 t1 t2 h3 (by simp only [List.length_append, List.length_cons, List.length_nil]; omega)
  have KK3 := hid fun v1 w1 a1 n1 c1 (h1 : WrAt w1 g v1 (ws ++ [w_if] ++ (Tm.mk y0 k0).kx 0 ++ [w_then] ++ (Tm.mk y1 k1).kx 0 ++ [w_else])) t1 => show_kid N hT y2 k2 0 g v1 (ws ++ [w_if] ++ (Tm.mk y0 k0).kx 0 ++ [w_then] ++ (Tm.mk y1 k1).kx 0 ++ [w_else]) w1 a1 n1 c1 hs2 hn2 h1 t1 (by simp only [List.length_append, List.length_cons, List.length_nil]; omega)
  obtain ⟨b, o, a0, n0, c0, rfl, q0⟩ := kid_at (i := 0) ht rfl
  obtain ⟨b', o', a1, n1, c1, e9, q1⟩ := kid_at (i := 1) ht rfl
  cases e9
  obtain ⟨b', o', a2, n2, c2, e9, q2⟩ := kid_at (i := 2) ht rfl
  cases e9
  have Q0 := hid q0
  have Q1 := hid q1
  have Q2 := hid q2
  have HW := hid hW
  generalize (Tm.mk y0 k0).kx 0 = t0 at *
  generalize (Tm.mk y1 k1).kx 0 = t1 at *
  generalize (Tm.mk y2 k2).kx 0 = t2 at *
  clear hT ht hlen e1 e2 hW hk hs0 hn0 hl0 q0 hs1 hn1 hl1 q1 hs2 hn2 hl2 q2
  go_enter Tryz.func81, Tryz.ntmps81
  go_upto_region 1 with fail
  have B1 := hid (Blk.new w 28 #[.int .u8 14, .int .u8 x.op, .int .i64 x.pos, .int .i64 x.n, .string x.name, .string x.arg, .string x.exn, .slice (some ⟨b, o, none⟩) 3 c])
  have Y1 : Ext w (w.alloc (.cells #[.int .u8 14, .int .u8 x.op, .int .i64 x.pos, .int .i64 x.n, .string x.name, .string x.arg, .string x.exn, .slice (some ⟨b, o, none⟩) 3 c] 28)) := by (exact eX)
  have H1 := hid (WrTo.start HW.out |>.ext Y1)
  have Q0 := hid (Q0.out.ext (ExtX.of (A := WrX g v) Y1) HW.out.ge)
  have Q1 := hid (Q1.out.ext (ExtX.of (A := WrX g v) Y1) HW.out.ge)
  have Q2 := hid (Q2.out.ext (ExtX.of (A := WrX g v) Y1) HW.out.ge)
  have N1 := hid (HW.out.keeps (Nat.le_refl _))
  clear Y1
  generalize w.alloc (.cells #[.int .u8 14, .int .u8 x.op, .int .i64 x.pos, .int .i64 x.n, .string x.name, .string x.arg, .string x.exn, .slice (some ⟨b, o, none⟩) 3 c] 28) = W1 at *
  have M0 := hid (WrTo.start H1.out.at_)
  have G1 := hid H1.out.at_.ge
  obtain ⟨d0, d1, d2, d3, d4, d5, d6, d7⟩ := B1.out.eight
  have lb := B1.out.lt
  go_upto_region 13 with (go_at_call 53; refine (show_put g v (ws) [w_if] _ ⟨W1.heap.size, 0, none⟩ 1 (M0.out.ext ((Ext.refl W1).alloc _)).at_ (row_text W1 [w_if]) (by simp only [List.length_append, List.length_cons, List.length_nil]; omega)).mono ?_; intro e w2 hh; obtain ⟨rfl, v2, M, -⟩ := (M0.out.ext ((Ext.refl W1).alloc _)).more hh)
  have M1 := hid M
  clear hh M d0 d1 d2 d3 d4 d5 d6 d7
  obtain ⟨d0, d1, d2, d3, d4, d5, d6, d7⟩ := (Blk.extx B1.out M1.out.x N1.out).eight
  have q0 := Q0.out.ext M1.out.x G1.out
  have q1 := Q1.out.ext M1.out.x G1.out
  have ge := M1.out.at_.ge
  have T0 := hid q0.tm
  have T1 := hid q1.tm
  have kb : ¬ WrX g v2 b := fun e => by have := ge b e; have := q0.lt; omega
  have m0 := fun W (h : ExtX (WrX g v2) w2 W) => h.cell kb q0.c0
  have m1 := fun W (h : ExtX (WrX g v2) w2 W) => h.cell kb q0.c1
  have m2 := fun W (h : ExtX (WrX g v2) w2 W) => h.cell kb q0.c2
  have m3 := fun W (h : ExtX (WrX g v2) w2 W) => h.cell kb q0.c3
  have m4 := fun W (h : ExtX (WrX g v2) w2 W) => h.cell kb q0.c4
  have m5 := fun W (h : ExtX (WrX g v2) w2 W) => h.cell kb q0.c5
  have m6 := fun W (h : ExtX (WrX g v2) w2 W) => h.cell kb q0.c6
  have m7 := fun W (h : ExtX (WrX g v2) w2 W) => h.cell kb q0.c7
  have p0 := fun W (h : ExtX (WrX g v2) w2 W) => h.cell kb q1.c0
  have p1 := fun W (h : ExtX (WrX g v2) w2 W) => h.cell kb q1.c1
  have p2 := fun W (h : ExtX (WrX g v2) w2 W) => h.cell kb q1.c2
  have p3 := fun W (h : ExtX (WrX g v2) w2 W) => h.cell kb q1.c3
  have p4 := fun W (h : ExtX (WrX g v2) w2 W) => h.cell kb q1.c4
  have p5 := fun W (h : ExtX (WrX g v2) w2 W) => h.cell kb q1.c5
  have p6 := fun W (h : ExtX (WrX g v2) w2 W) => h.cell kb q1.c6
  have p7 := fun W (h : ExtX (WrX g v2) w2 W) => h.cell kb q1.c7
  simp only [Nat.zero_mul, Nat.add_zero, Nat.one_mul] at m0 m1 m2 m3 m4 m5 m6 m7 p0 p1 p2 p3 p4 p5 p6 p7
  clear q0 q1 ge
  have NB := hid (M1.out.at_.keeps (Nat.le_refl _))
  clear d0 d1 d2 d3 d4 d5 d6 d7
  refine wp_region_held_drew (S := fun w' => ExtX (WrX g v2) w2 w') (by kernel_rfl) (by (try dsimp only); (exact xX)) (fun hHeld => ?_)
  refine tL 0 ?_;try simp only [Act.put,pA,pB,pC]
  refine tL 1 ?_;try simp only [Act.put,pA,pB,pC]
  refine tL 2 ?_;try simp only [Act.put,pA,pB,pC]
  refine tL 3 ?_;try simp only [Act.put,pA,pB,pC]
  refine tL 4 ?_;try simp only [Act.put,pA,pB,pC]
  refine tL 5 ?_;try simp only [Act.put,pA,pB,pC]
  refine tL 6 ?_;try simp only [Act.put,pA,pB,pC]
  refine dK 7 fun K hK => ?_; go_simp; refine hK.out _ _ (by (try dsimp only); (exact xX)) (fun hHeld => ?_); clear hK K; try simp only [Act.put,pA,pB,pC]
  refine dK 8 fun K hK => ?_; go_simp; (first | (go_at_call 77; refine (KK1.out v2 _ a0 n0 c0 a1 n1 c1 _ 1 (M1.out.ext (by (exact eX))).at_ (T0.out.ext (by (exact eX))) (T1.out.ext (by (exact eX))) (.inr ⟨_, rfl, (by simp), NB.out, fun j u hu => (by first | exact (Ext.refl (w2.alloc _)).drew.cell (row_text w2 [w_then] j u hu) | exact row_text _ [w_then] j u hu | exact (Ext.refl _).drew.cell (row_text _ [w_then] j u hu))⟩)).mono ?_; intro e w3 hh; obtain ⟨rfl, v3, M, hx⟩ := (M1.out.ext (by (exact eX))).more hh; have HM := hid M; have z : ExtX (WrX g v2) w2 w3 := (by (exact xX) : ExtX (WrX g v2) w2 _).trans hx; clear hh M hx)); (try (focus (go_wp2_with fail))); refine hK.out _ _ (by (try dsimp only); (exact xX)) (fun hHeld => ?_); clear hK K; try simp only [Act.put,pA,pB,pC]
  refine wpAnyH_done (by kernel_rfl) ?_ _
  have M2 := hid HM.out
  clear HM z hHeld NB m0 m1 m2 m3 m4 m5 m6 m7 p0 p1 p2 p3 p4 p5 p6 p7 kb
  go_upto_region 14 with fail
  obtain ⟨d0, d1, d2, d3, d4, d5, d6, d7⟩ := (Blk.extx B1.out M2.out.x N1.out).eight
  go_upto_region 15 with (go_at_call 53; refine (show_put g v3 (ws ++ [w_if] ++ t0 ++ [w_then] ++ t1) [w_else] _ ⟨w3.heap.size, 0, none⟩ 1 (M2.out.ext ((Ext.refl w3).alloc _)).at_ (row_text w3 [w_else]) (by simp only [List.length_append, List.length_cons, List.length_nil]; omega)).mono ?_; intro e w4 hh; obtain ⟨rfl, v4, M, -⟩ := (M2.out.ext ((Ext.refl w3).alloc _)).more hh)
  have M3 := hid M
  clear hh M d0 d1 d2 d3 d4 d5 d6 d7
  obtain ⟨d0, d1, d2, d3, d4, d5, d6, d7⟩ := (Blk.extx B1.out M3.out.x N1.out).eight
  have q2 := Q2.out.ext M3.out.x G1.out
  have m0 := q2.c0
  have m1 := q2.c1
  have m2 := q2.c2
  have m3 := q2.c3
  have m4 := q2.c4
  have m5 := q2.c5
  have m6 := q2.c6
  have m7 := q2.c7
  simp only [Nat.zero_mul, Nat.add_zero, Nat.one_mul, Nat.reduceMul] at m0 m1 m2 m3 m4 m5 m6 m7
  have T2 := hid q2.tm
  clear q2
  go_wp2_with (go_at_call 78; refine (KK3.out v4 w4 _ _ _ M3.out.at_ T2.out).mono ?_; intro e w5 hh; obtain ⟨rfl, v5, M, -⟩ := M3.out.more hh)
  have M4 := hid M
  clear hh M d0 d1 d2 d3 d4 d5 d6 d7
  clear m0 m1 m2 m3 m4 m5 m6 m7
  exact bodyPost_end (v := .tuple #[]) (results_none rfl _ _ _) rfl (by have h := (H1.out.trans M4.out).ret; simpa using h)
set_option maxRecDepth 60000 in
set_option maxHeartbeats 4000000 in
theorem bind_try (N : Nat) (hT : ShowT N) (x : Hd) (y0 : Hd) (k0 : List Tm) (y1 : Hd) (k1 : List Tm) (g : Nat) (v : Value) (ws : List ByteArray) (w : World) (a : Option Addr) (c : Nat) (hk : x.k = 16) (hs0 : (Tm.mk y0 k0).size ≤ N) (hn0 : ∀ u, u ∈ (Tm.mk y0 k0).all → u.node = true) (hs1 : (Tm.mk y1 k1).size ≤ N) (hn1 : ∀ u, u ∈ (Tm.mk y1 k1).all → u.node = true) (hW : WrAt w g v ws) (ht : IsTmsA (fun b => g ≤ b) w [.mk y0 k0, .mk y1 k1] a 2) (hlen : ws.length + (Tm.mk x [.mk y0 k0, .mk y1 k1]).wk.length ≤ 1000000) :
    Calls Tryz.prog 81 #[.pointer (some ⟨g, 0, none⟩), .agg #[.int .u8 x.k, .int .u8 x.op, .int .i64 x.pos, .int .i64 x.n, .string x.name, .string x.arg, .string x.exn, .slice a 2 c], .slice a 2 c] w (RetWr w g v (ws ++ (Tm.mk x [.mk y0 k0, .mk y1 k1]).wx)) := by
  have e1 : (Tm.mk x [.mk y0 k0, .mk y1 k1]).wx = [w_try] ++ (Tm.mk y0 k0).kx 0 ++ [w_with, x.exn, x.arg, s_to] ++ (Tm.mk y1 k1).kx 0 := by unfold Tm.wx Tm.kx; rw [wk_16 hk, Tm.kw0, Tm.kw0]; simp
  have e2 : (Tm.mk x [.mk y0 k0, .mk y1 k1]).wk.length = (Tm.mk x [.mk y0 k0, .mk y1 k1]).wx.length := by simp [Tm.wx]
  have hl : ws.length + (1 + ((Tm.mk y0 k0).kx 0).length + 4 + ((Tm.mk y1 k1).kx 0).length) ≤ 1000000 := by rw [e2, e1] at hlen; simp at hlen; omega
  rw [e1, hk]
  have hl0 : ((Tm.mk y0 k0).kx 0).length = ((Tm.mk y0 k0).kw 0).length := by simp [Tm.kx]
  have hl1 : ((Tm.mk y1 k1).kx 0).length = ((Tm.mk y1 k1).kw 0).length := by simp [Tm.kx]
  have KK1 := hid fun v1 w1 a1 n1 c1 a2 n2 c2 la lc (h1 : WrAt w1 g v1 (ws ++ [w_try])) t1 t2 h3 => show_between N hT y0 y1 k0 k1 0 0 [w_with, x.exn, x.arg, s_to] g v1 (ws ++ [w_try]) w1 a1 a2 n1 c1 n2 c2 la lc hs0 hs1 hn0 hn1 h1 t1 t2 h3 (by simp only [List.length_append, List.length_cons, List.length_nil]; omega)
  obtain ⟨b, o, a0, n0, c0, rfl, q0⟩ := kid_at (i := 0) ht rfl
  obtain ⟨b', o', a1, n1, c1, e9, q1⟩ := kid_at (i := 1) ht rfl
  cases e9
  have Q0 := hid q0
  have Q1 := hid q1
  have HW := hid hW
  generalize (Tm.mk y0 k0).kx 0 = t0 at *
  generalize (Tm.mk y1 k1).kx 0 = t1 at *
  clear hT ht hlen e1 e2 hW hk hs0 hn0 hl0 q0 hs1 hn1 hl1 q1
  go_enter Tryz.func81, Tryz.ntmps81
  go_upto_region 1 with fail
  have B1 := hid (Blk.new w 28 #[.int .u8 16, .int .u8 x.op, .int .i64 x.pos, .int .i64 x.n, .string x.name, .string x.arg, .string x.exn, .slice (some ⟨b, o, none⟩) 2 c])
  have Y1 : Ext w (w.alloc (.cells #[.int .u8 16, .int .u8 x.op, .int .i64 x.pos, .int .i64 x.n, .string x.name, .string x.arg, .string x.exn, .slice (some ⟨b, o, none⟩) 2 c] 28)) := by (exact eX)
  have H1 := hid (WrTo.start HW.out |>.ext Y1)
  have Q0 := hid (Q0.out.ext (ExtX.of (A := WrX g v) Y1) HW.out.ge)
  have Q1 := hid (Q1.out.ext (ExtX.of (A := WrX g v) Y1) HW.out.ge)
  have N1 := hid (HW.out.keeps (Nat.le_refl _))
  clear Y1
  generalize w.alloc (.cells #[.int .u8 16, .int .u8 x.op, .int .i64 x.pos, .int .i64 x.n, .string x.name, .string x.arg, .string x.exn, .slice (some ⟨b, o, none⟩) 2 c] 28) = W1 at *
  have M0 := hid (WrTo.start H1.out.at_)
  have G1 := hid H1.out.at_.ge
  obtain ⟨d0, d1, d2, d3, d4, d5, d6, d7⟩ := B1.out.eight
  have lb := B1.out.lt
  go_upto_region 18 with (go_at_call 53; refine (show_put g v (ws) [w_try] _ ⟨W1.heap.size, 0, none⟩ 1 (M0.out.ext ((Ext.refl W1).alloc _)).at_ (row_text W1 [w_try]) (by simp only [List.length_append, List.length_cons, List.length_nil]; omega)).mono ?_; intro e w2 hh; obtain ⟨rfl, v2, M, -⟩ := (M0.out.ext ((Ext.refl W1).alloc _)).more hh)
  have M1 := hid M
  clear hh M d0 d1 d2 d3 d4 d5 d6 d7
  obtain ⟨d0, d1, d2, d3, d4, d5, d6, d7⟩ := (Blk.extx B1.out M1.out.x N1.out).eight
  have q0 := Q0.out.ext M1.out.x G1.out
  have q1 := Q1.out.ext M1.out.x G1.out
  have ge := M1.out.at_.ge
  have T0 := hid q0.tm
  have T1 := hid q1.tm
  have kb : ¬ WrX g v2 b := fun e => by have := ge b e; have := q0.lt; omega
  have m0 := fun W (h : ExtX (WrX g v2) w2 W) => h.cell kb q0.c0
  have m1 := fun W (h : ExtX (WrX g v2) w2 W) => h.cell kb q0.c1
  have m2 := fun W (h : ExtX (WrX g v2) w2 W) => h.cell kb q0.c2
  have m3 := fun W (h : ExtX (WrX g v2) w2 W) => h.cell kb q0.c3
  have m4 := fun W (h : ExtX (WrX g v2) w2 W) => h.cell kb q0.c4
  have m5 := fun W (h : ExtX (WrX g v2) w2 W) => h.cell kb q0.c5
  have m6 := fun W (h : ExtX (WrX g v2) w2 W) => h.cell kb q0.c6
  have m7 := fun W (h : ExtX (WrX g v2) w2 W) => h.cell kb q0.c7
  have p0 := fun W (h : ExtX (WrX g v2) w2 W) => h.cell kb q1.c0
  have p1 := fun W (h : ExtX (WrX g v2) w2 W) => h.cell kb q1.c1
  have p2 := fun W (h : ExtX (WrX g v2) w2 W) => h.cell kb q1.c2
  have p3 := fun W (h : ExtX (WrX g v2) w2 W) => h.cell kb q1.c3
  have p4 := fun W (h : ExtX (WrX g v2) w2 W) => h.cell kb q1.c4
  have p5 := fun W (h : ExtX (WrX g v2) w2 W) => h.cell kb q1.c5
  have p6 := fun W (h : ExtX (WrX g v2) w2 W) => h.cell kb q1.c6
  have p7 := fun W (h : ExtX (WrX g v2) w2 W) => h.cell kb q1.c7
  simp only [Nat.zero_mul, Nat.add_zero, Nat.one_mul] at m0 m1 m2 m3 m4 m5 m6 m7 p0 p1 p2 p3 p4 p5 p6 p7
  clear q0 q1 ge
  have bb := (Blk.extx B1.out M1.out.x N1.out)
  have nbb : ¬ WrX g v2 w.heap.size := by
    rintro (e | e)
    · exact N1.out (.inl e)
    · rcases M1.out.own with h | h
      · exact N1.out (.inr (h ▸ e))
      · have := h _ e; have := B1.out.lt; omega
  have r0 := fun W (h : ExtX (WrX g v2) w2 W) => h.cell (p := ⟨w.heap.size, 0, none⟩) nbb (bb.cell 0)
  have r1 := fun W (h : ExtX (WrX g v2) w2 W) => h.cell (p := ⟨w.heap.size, 1, none⟩) nbb (bb.cell 1)
  have r2 := fun W (h : ExtX (WrX g v2) w2 W) => h.cell (p := ⟨w.heap.size, 2, none⟩) nbb (bb.cell 2)
  have r3 := fun W (h : ExtX (WrX g v2) w2 W) => h.cell (p := ⟨w.heap.size, 3, none⟩) nbb (bb.cell 3)
  have r4 := fun W (h : ExtX (WrX g v2) w2 W) => h.cell (p := ⟨w.heap.size, 4, none⟩) nbb (bb.cell 4)
  have r5 := fun W (h : ExtX (WrX g v2) w2 W) => h.cell (p := ⟨w.heap.size, 5, none⟩) nbb (bb.cell 5)
  have r6 := fun W (h : ExtX (WrX g v2) w2 W) => h.cell (p := ⟨w.heap.size, 6, none⟩) nbb (bb.cell 6)
  have r7 := fun W (h : ExtX (WrX g v2) w2 W) => h.cell (p := ⟨w.heap.size, 7, none⟩) nbb (bb.cell 7)
  simp at r0 r1 r2 r3 r4 r5 r6 r7
  clear bb
  have NB := hid (M1.out.at_.keeps (Nat.le_refl _))
  clear d0 d1 d2 d3 d4 d5 d6 d7
  refine wp_region_held_drew (S := fun w' => ExtX (WrX g v2) w2 w') (by kernel_rfl) (by (try dsimp only); (exact xX)) (fun hHeld => ?_)
  refine tL 0 ?_;try simp only [Act.put,pA,pB,pC]
  refine tL 1 ?_;try simp only [Act.put,pA,pB,pC]
  refine tL 2 ?_;try simp only [Act.put,pA,pB,pC]
  refine tL 3 ?_;try simp only [Act.put,pA,pB,pC]
  refine tL 4 ?_;try simp only [Act.put,pA,pB,pC]
  refine tL 5 ?_;try simp only [Act.put,pA,pB,pC]
  refine tL 6 ?_;try simp only [Act.put,pA,pB,pC]
  refine tL 7 ?_;try simp only [Act.put,pA,pB,pC]
  refine tL 8 ?_;try simp only [Act.put,pA,pB,pC]
  refine tL 9 ?_;try simp only [Act.put,pA,pB,pC]
  refine tL 10 ?_;try simp only [Act.put,pA,pB,pC]
  refine tL 11 ?_;try simp only [Act.put,pA,pB,pC]
  refine tL 12 ?_;try simp only [Act.put,pA,pB,pC]
  refine dK 13 fun K hK => ?_; go_simp; refine hK.out _ _ (by (try dsimp only); (exact xX)) (fun hHeld => ?_); clear hK K; try simp only [Act.put,pA,pB,pC]
  refine dK 14 fun K hK => ?_; go_simp; (first | (go_at_call 77; refine (KK1.out v2 _ a0 n0 c0 a1 n1 c1 _ 4 (M1.out.ext (by (exact eX))).at_ (T0.out.ext (by (exact eX))) (T1.out.ext (by (exact eX))) (.inr ⟨_, rfl, (by simp), NB.out, fun j u hu => (by first | exact (Ext.refl (w2.alloc _)).drew.cell (row_text w2 [w_with, x.exn, x.arg, s_to] j u hu) | exact row_text _ [w_with, x.exn, x.arg, s_to] j u hu | exact (Ext.refl _).drew.cell (row_text _ [w_with, x.exn, x.arg, s_to] j u hu))⟩)).mono ?_; intro e w3 hh; obtain ⟨rfl, v3, M, hx⟩ := (M1.out.ext (by (exact eX))).more hh; have HM := hid M; have z : ExtX (WrX g v2) w2 w3 := (by (exact xX) : ExtX (WrX g v2) w2 _).trans hx; clear hh M hx)); (try (focus (go_wp2_with fail))); refine hK.out _ _ (by (try dsimp only); (exact xX)) (fun hHeld => ?_); clear hK K; try simp only [Act.put,pA,pB,pC]
  refine wpAnyH_done (by kernel_rfl) ?_ _
  have M2 := hid HM.out
  clear HM z hHeld NB m0 m1 m2 m3 m4 m5 m6 m7 p0 p1 p2 p3 p4 p5 p6 p7 kb
  clear r0 r1 r2 r3 r4 r5 r6 r7 nbb
  go_wp2_with fail
  exact bodyPost_end (v := .tuple #[]) (results_none rfl _ _ _) rfl (by have h := (H1.out.trans M2.out).ret; simpa using h)
end Go.Proofs.YtaioeailgknfjaaGreatDoor
