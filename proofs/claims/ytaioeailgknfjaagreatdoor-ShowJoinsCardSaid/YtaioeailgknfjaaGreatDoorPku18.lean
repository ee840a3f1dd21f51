/- Part 18 of the proof: Parse10; no condition of ours. -/
import Derived.Test.YtaioeailgknfjaaGreatDoorPku8
import Derived.Test.YtaioeailgknfjaaGreatDoorPku17
set_option linter.unusedVariables false
set_option linter.unusedSimpArgs false
namespace Go.Proofs.YtaioeailgknfjaaGreatDoor
open Go Go.RowKit Go.Sort
theorem row_four1 (w : World) (o : Obj) (x y z u : ByteArray) (t : TypeId) : IsRow ((w.alloc o).alloc (.cells #[.string x, .string y, .string z, .string u] t)) (vstr [x, y, z, u]) (some ⟨w.heap.size + 1, 0, none⟩) 4 := row_new1 w o t (vstr [x, y, z, u])
theorem isT_pre {l : List Tk} (h : isT [s_bang, w_ref, w_fst, w_snd] l = true) : preP (textT l) = preK (textT l) := by
  obtain ⟨t, r, rfl, -, hx, -⟩ := isT_ne h
  exact preP_K ((inB_iff _ _).2 hx)
theorem preK_fits {x : ByteArray} {p : Int} (p0 : -9223372036854775808 ≤ p) (p1 : p ≤ 9223372036854775807) : (hd0 (preK x) p).Fits := by
  have := preK_bound x
  exact hd0_fits (by omega) (by omega) p0 p1
theorem Prs.fits {w : World} {pb : Nat} {t : Tk} {l : List Tk} (h : Prs w pb (t :: l)) : t.Fits := by
  obtain ⟨_, _, _, _, _, -, -, -, -, hf, -⟩ := h.open_
  exact hf
set_option maxRecDepth 8000 in
set_option maxHeartbeats 8000000 in
theorem parse_unary_pre (f : Nat) (hU : Does 139 .unary f) (pb : Nat) (tk : Tk) (l2 : List Tk) (r : Res Tm) (w : World) (h : Prs w pb (tk :: l2)) (he : Ended (tk :: l2)) (hi : isT [s_bang, w_ref, w_fst, w_snd] (tk :: l2) = true) (hp : parseF (f + 1) .unary (tk :: l2) = some r) :
    Calls Tryz.prog 139 #[.pointer (some ⟨pb, 0, none⟩)] w (RetP pb w (IsNew w.heap.size) r) := by
  have hlt := h.lt
  have hp2 : andThen (parseF f .unary l2) (fun a l1 => some (.ok (.mk (hd0 (preK tk.text) tk.pos) [a], l1))) = some r := by
    unfold parseF at hp
    rw [if_pos hi] at hp
    exact hp
  have hfit := h.fits
  have hpos0 := hfit.p0
  have hpos1 := hfit.p1
  obtain ⟨hl2, he2⟩ := he.tail_ne (isT_kind hi)
  have hpre : preP tk.text = preK tk.text := isT_pre hi
  have KX := Lib.hid fun W => parse_prefix tk.text W
  rw [hpre] at KX
  have HPF := Lib.hid (preK_fits (x := tk.text) hpos0 hpos1)
  have KN := Lib.hid fun W (x : Ext w W) => parse_now pb tk l2 W (h.ext x)
  have KT := Lib.hid fun W (x : Ext w W) => parse_take pb tk l2 W (h.ext x)
  have KI := Lib.hid fun W (x : Ext w W) (a : Option Addr) (hr : IsRow W (vstr [s_bang, w_ref, w_fst, w_snd]) a 4) => parse_is [s_bang, w_ref, w_fst, w_snd] pb tk l2 W a 4 4 (Nat.le_refl _) (by omega) hr (h.ext x)
  rw [hi] at KI
  have HPM := Lib.hid hp2
  have HL2 := Lib.hid hl2
  have HE2 := Lib.hid he2
  have HU := Lib.hid hU
  clear hp hp2 h hi hfit hl2 he2 hpre hU
  generalize preK tk.text = kk at *
  go_enter Tryz.func139, Tryz.ntmps139
  go_wp2_with fail
  refine (KN.out _ (by (exact eX))).mono ?_
  rintro e w1 ⟨rfl, x1⟩
  have hZ1 := blk_top x1
  have y1 : Ext w w1 := by (exact eX)
  have hs1 := hZ1.lt
  go_wp2_with fail
  refine (KI.out _ (by (exact eX)) _ (row_four1 w1 _ _ _ _ _ _)).mono ?_
  rintro e w2 ⟨rfl, x2⟩
  have y2 : Ext w1 w2 := by (exact eX)
  have hT2 := blk_under x2
  have hZ2 := hZ1.ext y2
  go_wp2_with fail
  refine (KT.out _ (y1.trans y2)).mono ?_
  rintro e W4 ⟨rfl, x4, hp4⟩
  have P4 := hp4 HL2.out
  have hT4 := hT2.nez x4 (by omega)
  have hZ4 := hZ2.nez x4 (by omega)
  have y4 : ExtX (· = pb) w W4 := (ExtX.of (y1.trans y2)).trans x4
  have hl40 : w.heap.size < W4.heap.size := hZ4.lt
  have hne1 : ¬ (w1.heap.size = pb ∨ w1.heap.size = w.heap.size) := by omega
  have n1 := fun W (h : ExtX (fun b => b = pb ∨ b = w.heap.size) W4 W) => (hT4.extx h hne1).cell 1
  have n2 := fun W (h : ExtX (fun b => b = pb ∨ b = w.heap.size) W4 W) => (hT4.extx h hne1).cell 2
  simp at n1 n2
  have HZ4 := Lib.hid hZ4
  have HP4 := Lib.hid P4
  have Y4 := Lib.hid y4
  clear x1 hZ1 y1 x2 y2 hT2 hZ2 x4 hp4 P4 hZ4 y4
  cases e5 : parseF f .unary l2 with
  | none => have := HPM.out; rw [e5] at this; cases this
  | some r5 =>
    have KP5 := Lib.hid fun W (hP : Prs W pb l2) => HU.out pb W l2 r5 hP HE2.out e5
    have hpm := HPM.out
    rw [e5] at hpm
    cases r5 with
    | error l' =>
      cases hpm
      clear e5
      go_upto_region 4 with fail
      refine wp_region_held_drew (S := fun w' => ExtX (fun b => b = pb ∨ b = w.heap.size) W4 w') (by kernel_rfl) (by (try dsimp only); (exact xX)) (fun hHeld => ?_)
      refine tK 0 (v := ?_) ?_ ?_;rotate_left;(focus (intro w hSw;(try dsimp only at hSw);go_simp;(try with_reducible rfl)));try simp only [Act.put,pA,pB,pC]
      refine tK 1 (v := ?_) ?_ ?_;rotate_left;(focus (intro w hSw;(try dsimp only at hSw);go_simp;(try with_reducible rfl)));try simp only [Act.put,pA,pB,pC]
      refine tK 3 (v := ?_) ?_ ?_;rotate_left;(focus (intro w hSw;(try dsimp only at hSw);go_simp;(try with_reducible rfl)));try simp only [Act.put,pA,pB,pC]
      refine tK 4 (v := ?_) ?_ ?_;rotate_left;(focus (intro w hSw;(try dsimp only at hSw);go_simp;(try with_reducible rfl)));try simp only [Act.put,pA,pB,pC]
      refine tK 5 (v := ?_) ?_ ?_;rotate_left;(focus (intro w hSw;(try dsimp only at hSw);go_simp;(try with_reducible rfl)));try simp only [Act.put,pA,pB,pC]
      refine held_do 2 rfl (by kernel_rfl) (by rfl) (fun K hK => ?_); go_simp; (first | (go_at_call 150; refine (KX.out _).mono ?_; rintro e w7 ⟨rfl, rfl⟩) | (refine (KP5.out _ (HP4.out.ext (by (exact eX)))).mono ?_; intro e w5 hh; obtain ⟨rfl, x5⟩ := hh.error; exact ⟨rfl, Y4.out.trans ((by (exact xX) : ExtX (· = pb) W4 _).trans x5), rfl⟩)); (try (focus (go_wp2_with fail))); refine hK.out _ _ (by (try dsimp only); (exact xX)) (fun hHeld => ?_); clear hK K; try simp only [Act.put,pA,pB,pC]
      refine held_do 6 rfl (by kernel_rfl) (by rfl) (fun K hK => ?_); go_simp; (first | (refine (KP5.out _ (HP4.out.ext (by (exact eX)))).mono ?_; intro e w5 hh; obtain ⟨rfl, x5⟩ := hh.error; exact ⟨rfl, Y4.out.trans ((by (exact xX) : ExtX (· = pb) W4 _).trans x5), rfl⟩))
    | ok p5 =>
      obtain ⟨⟨xb, kb⟩, l3⟩ := p5
      rw [andThen_ok] at hpm
      cases hpm
      clear e5
      go_upto_region 4 with fail
      refine wp_region_held_drew (S := fun w' => ExtX (fun b => b = pb ∨ b = w.heap.size) W4 w') (by kernel_rfl) (by (try dsimp only); (exact xX)) (fun hHeld => ?_)
      refine tK 0 (v := ?_) ?_ ?_;rotate_left;(focus (intro w hSw;(try dsimp only at hSw);go_simp;(try with_reducible rfl)));try simp only [Act.put,pA,pB,pC]
      refine tK 1 (v := ?_) ?_ ?_;rotate_left;(focus (intro w hSw;(try dsimp only at hSw);go_simp;(try with_reducible rfl)));try simp only [Act.put,pA,pB,pC]
      refine tK 3 (v := ?_) ?_ ?_;rotate_left;(focus (intro w hSw;(try dsimp only at hSw);go_simp;(try with_reducible rfl)));try simp only [Act.put,pA,pB,pC]
      refine tK 4 (v := ?_) ?_ ?_;rotate_left;(focus (intro w hSw;(try dsimp only at hSw);go_simp;(try with_reducible rfl)));try simp only [Act.put,pA,pB,pC]
      refine tK 5 (v := ?_) ?_ ?_;rotate_left;(focus (intro w hSw;(try dsimp only at hSw);go_simp;(try with_reducible rfl)));try simp only [Act.put,pA,pB,pC]
      refine held_do 2 rfl (by kernel_rfl) (by rfl) (fun K hK => ?_); go_simp; (first | (go_at_call 150; refine (KX.out _).mono ?_; rintro e w7 ⟨rfl, rfl⟩) | (refine (KP5.out _ (HP4.out.ext (by (exact eX)))).mono ?_; intro e w5 hh; obtain ⟨v5, rfl, ⟨ab, nb, cb, rfl, fb, b1, b2, hTb⟩, hp5, x5⟩ := hh.ok; have y5 : ExtX (· = pb) W4 w5 := (by (exact xX) : ExtX (· = pb) W4 _).trans x5; have z5 := y5.mono (A' := fun b => b = pb ∨ b = w.heap.size) (fun b h => .inl h); have hTb2 : IsTmsA (fun b => b ≤ w.heap.size) w5 kb ab nb := hTb.off (fun b _ hb => (by have hb : b ≤ w.heap.size := hb; simp; omega)); have HTb2 := Lib.hid hTb2; have hs5 := y5.size; clear hTb hTb2 hh)); (try (focus (go_wp2_with fail))); refine hK.out _ _ (by (try dsimp only); (exact xX)) (fun hHeld => ?_); clear hK K; try simp only [Act.put,pA,pB,pC]
      refine held_do 6 rfl (by kernel_rfl) (by rfl) (fun K hK => ?_); go_simp; (first | (refine (KP5.out _ (HP4.out.ext (by (exact eX)))).mono ?_; intro e w5 hh; obtain ⟨v5, rfl, ⟨ab, nb, cb, rfl, fb, b1, b2, hTb⟩, hp5, x5⟩ := hh.ok; have y5 : ExtX (· = pb) W4 w5 := (by (exact xX) : ExtX (· = pb) W4 _).trans x5; have z5 := y5.mono (A' := fun b => b = pb ∨ b = w.heap.size) (fun b h => .inl h); have hTb2 : IsTmsA (fun b => b ≤ w.heap.size) w5 kb ab nb := hTb.off (fun b _ hb => (by have hb : b ≤ w.heap.size := hb; simp; omega)); have HTb2 := Lib.hid hTb2; have hs5 := y5.size; clear hTb hTb2 hh)); (try (focus (go_wp2_with fail))); refine hK.out _ _ (by (try dsimp only); (exact xX)) (fun hHeld => ?_); clear hK K; try simp only [Act.put,pA,pB,pC]
      refine held_do 7 rfl (by kernel_rfl) (by rfl) (fun K hK => ?_); go_simp; refine hK.out _ _ (by (try dsimp only); (exact xX)) (fun hHeld => ?_); clear hK K; try simp only [Act.put,pA,pB,pC]
      refine held_do 8 rfl (by kernel_rfl) (by rfl) (fun K hK => ?_); go_simp; (first | (go_at_call 58; refine (parse_node _ _ _ _ _ _).mono ?_; rintro e w6 ⟨rfl, x6⟩; have hG6 := blk_top x6; have y56 : Ext w5 w6 := (by (exact eX) : Ext w5 _).trans x6; have y6 : ExtX (· = pb) W4 w6 := ExtX.then_ y5 y56; have z6 := y6.mono (A' := fun b => b = pb ∨ b = w.heap.size) (fun b h => .inl h); have hB6 := HZ4.out.nez y6 (by omega); obtain ⟨d0, d1, d2, d3, d4, d5, d6, d7⟩ := hB6.eight; obtain ⟨f0, f1, f2, f3, f4, f5, f6, f7⟩ := hB6.frozen8; have hl6 := hB6.lt; have HL6 : Hid (Laid8 pb w w6 (hd0 kk tk.pos) [.mk xb kb] (some ⟨w5.heap.size, 0, none⟩) 1 1 l3) := Lib.hid ⟨hB6, HPF.out, Nat.le_refl _, by omega, one_row (A := fun b => b ≤ w.heap.size) y56 b1 b2 fb HTb2.out (by show ¬ w5.heap.size ≤ w.heap.size; omega) hG6, hp5.ext y56, Y4.out.trans y6, hlt⟩; clear hB6 hG6) | (refine (KP5.out _ (HP4.out.ext (by (exact eX)))).mono ?_; intro e w5 hh; obtain ⟨v5, rfl, ⟨ab, nb, cb, rfl, fb, b1, b2, hTb⟩, hp5, x5⟩ := hh.ok; have y5 : ExtX (· = pb) W4 w5 := (by (exact xX) : ExtX (· = pb) W4 _).trans x5; have z5 := y5.mono (A' := fun b => b = pb ∨ b = w.heap.size) (fun b h => .inl h); have hTb2 : IsTmsA (fun b => b ≤ w.heap.size) w5 kb ab nb := hTb.off (fun b _ hb => (by have hb : b ≤ w.heap.size := hb; simp; omega)); have HTb2 := Lib.hid hTb2; have hs5 := y5.size; clear hTb hTb2 hh)); (try (focus (go_wp2_with fail))); refine hK.out _ _ (by (try dsimp only); (exact xX)) (fun hHeld => ?_); clear hK K; try simp only [Act.put,pA,pB,pC]
      refine held_do 9 rfl (by kernel_rfl) (by rfl) (fun K hK => ?_); go_simp; refine hK.out _ _ (by (try dsimp only); (exact xX)) (fun hHeld => ?_); clear hK K; try simp only [Act.put,pA,pB,pC]
      refine wpAnyH_done (by kernel_rfl) ?_ _
      all_goals
        go_wp2_with fail
        exact HL6.out.ret (fun w2 r0 r1 r2 r3 r4 r5 r6 r7 => by simp [results, Tryz.results139, go_sem, r0, r1, r2, r3, r4, r5, r6, r7]) rfl
structure Mid8 (pb : Nat) (w W : World) (B : Nat) (c0 c1 c2 c3 c4 c5 c6 : Value) (ks : List Tm) (a : Option Addr) (n c : Nat) (l : List Tk) : Prop where
  z : Blk W w.heap.size 28 #[.int .u8 0, .int .u8 0, .int .i64 0, .int .i64 0, .string ⟨#[]⟩, .string ⟨#[]⟩, .string ⟨#[]⟩, .slice none 0 0]
  b : Blk W B 28 #[c0, c1, c2, c3, c4, c5, c6, .slice a n c]
  tms : IsTmsA (AvP w.heap.size B) W ks a n
  prs : Prs W pb l
  ext : ExtX (· = pb) w W
  lt : pb < w.heap.size
  up : w.heap.size < B
theorem Mid8.of {pb : Nat} {w w6 : World} {B5 : Nat} {y0 y1 y2 y3 y4 y5 y6 : Value} {cs : Value × Value × Value × Value × Value × Value × Value × Value} {ks : List Tm} {a : Option Addr} {n c : Nat} {l : List Tk} (hz : Blk w6 w.heap.size 28 #[.int .u8 0, .int .u8 0, .int .i64 0, .int .i64 0, .string ⟨#[]⟩, .string ⟨#[]⟩, .string ⟨#[]⟩, .slice none 0 0])
    (hq : Blk w6 B5 28 #[cs.1, cs.2.1, cs.2.2.1, cs.2.2.2.1, cs.2.2.2.2.1, cs.2.2.2.2.2.1, cs.2.2.2.2.2.2.1, cs.2.2.2.2.2.2.2]) (ht : IsTmsA (AvP w.heap.size B5) w6 ks a n) (hp : Prs w6 pb l) (hx : ExtX (· = pb) w w6) (hlt : pb < w.heap.size) (hB : w.heap.size < B5) :
    Mid8 pb w ((((((((w6.setCell ⟨B5, 0, none⟩ y0).setCell ⟨B5, 1, none⟩ y1).setCell ⟨B5, 2, none⟩ y2).setCell ⟨B5, 3, none⟩ y3).setCell ⟨B5, 4, none⟩ y4).setCell ⟨B5, 5, none⟩ y5).setCell ⟨B5, 6, none⟩ y6).setCell ⟨B5, 7, none⟩ (.slice a n c)) B5 y0 y1 y2 y3 y4 y5 y6 ks a n c l :=
  ⟨hz.far8 (by omega), hq.lay8, ht.set8 (.inr rfl), hp.set8 (by omega), hx.set8 (.inr (by omega)), hlt, hB⟩
theorem Mid8.six {pb : Nat} {w W : World} {B : Nat} (e : Value) {c0 c1 c2 c3 c4 c5 c6 : Value} {ks : List Tm} {a : Option Addr} {n c : Nat} {l : List Tk} (h : Mid8 pb w W B c0 c1 c2 c3 c4 c5 c6 ks a n c l) :
    Mid8 pb w (W.setCell ⟨B, 6, none⟩ e) B c0 c1 c2 c3 c4 c5 e ks a n c l :=
  have hu := h.up
  have hl := h.lt
  ⟨h.z.far (p := ⟨B, 6, none⟩) (by show w.heap.size ≠ B; omega) e, by have := h.b.set_ 6 e; simpa using this, h.tms.setCell (p := ⟨B, 6, none⟩) (.inr rfl) e, h.prs.far (p := ⟨B, 6, none⟩) (by show pb < B; omega) e, h.ext.setCell (p := ⟨B, 6, none⟩) (.inr (by show w.heap.size ≤ B; omega)) e, h.lt, h.up⟩
theorem Mid8.done {pb : Nat} {w W : World} {B : Nat} {c0 c1 c2 c3 c4 c5 c6 : Value} {x : Hd} {ks : List Tm} {a : Option Addr} {n c : Nat} {l : List Tk} (h : Mid8 pb w W B c0 c1 c2 c3 c4 c5 c6 ks a n c l) (hf : x.Fits) (h1 : n ≤ c) (h2 : c ≤ 9223372036854775807) :
    Laid8 pb w W x ks a n c l := ⟨h.z, hf, h1, h2, h.tms.off fun b _ hb => .inl hb, h.prs, h.ext, h.lt⟩
theorem hd15_fits {p : Int} {x : ByteArray} (p0 : -9223372036854775808 ≤ p) (p1 : p ≤ 9223372036854775807) (hx : x.size ≤ 9223372036854775807) : ({ hd0 15 p with exn := x } : Hd).Fits :=
  ⟨by simp [hd0], by simp [hd0], by simp [hd0], by simp [hd0], p0, p1, by simp [hd0], by simp [hd0], by simp [hd0], by simp [hd0], hx⟩
set_option maxRecDepth 8000 in
set_option maxHeartbeats 8000000 in
theorem parse_unary_raise (f : Nat) (hU : Does 139 .unary f) (pb : Nat) (tk : Tk) (l2 : List Tk) (r : Res Tm) (w : World) (h : Prs w pb (tk :: l2)) (he : Ended (tk :: l2)) (hi : isT [s_bang, w_ref, w_fst, w_snd] (tk :: l2) = false) (hi2 : isT [w_raise] (tk :: l2) = true) (hp : parseF (f + 1) .unary (tk :: l2) = some r) :
    Calls Tryz.prog 139 #[.pointer (some ⟨pb, 0, none⟩)] w (RetP pb w (IsNew w.heap.size) r) := by
  have hlt := h.lt
  have hp2 : andThen (some (getK 3 l2)) (fun x l1 => andThen (parseF f .unary l1) fun a l2 => some (.ok (.mk { hd0 15 tk.pos with exn := x } [a], l2))) = some r := by
    unfold parseF at hp
    rw [if_neg (by rw [hi]; simp), if_pos hi2] at hp
    exact hp
  have hfit := h.fits
  have hpos0 := hfit.p0
  have hpos1 := hfit.p1
  obtain ⟨hl2, he2⟩ := he.tail_ne (isT_kind hi2)
  have KN := Lib.hid fun W (x : Ext w W) => parse_now pb tk l2 W (h.ext x)
  have KT := Lib.hid fun W (x : Ext w W) => parse_take pb tk l2 W (h.ext x)
  have KI := Lib.hid fun W (x : Ext w W) (a : Option Addr) (hr : IsRow W (vstr [s_bang, w_ref, w_fst, w_snd]) a 4) => parse_is [s_bang, w_ref, w_fst, w_snd] pb tk l2 W a 4 4 (Nat.le_refl _) (by omega) hr (h.ext x)
  have KJ := Lib.hid fun W (x : Ext w W) (a : Option Addr) (hr : IsRow W (vstr [w_raise]) a 1) => parse_is [w_raise] pb tk l2 W a 1 1 (Nat.le_refl _) (by omega) hr (h.ext x)
  rw [hi] at KI
  rw [hi2] at KJ
  have HPM := Lib.hid hp2
  have HL2 := Lib.hid hl2
  have HE2 := Lib.hid he2
  have HU := Lib.hid hU
  have KE := Lib.hid fun W (hP : Prs W pb l2) => parse_exn pb l2 W hP he2
  clear hp hp2 h hi hi2 hfit hl2 he2 hU
  go_enter Tryz.func139, Tryz.ntmps139
  go_wp2_with fail
  refine (KN.out _ (by (exact eX))).mono ?_
  rintro e w1 ⟨rfl, x1⟩
  have hZ1 := blk_top x1
  have y1 : Ext w w1 := by (exact eX)
  have hs1 := hZ1.lt
  go_wp2_with fail
  refine (KI.out _ (by (exact eX)) _ (row_four1 w1 _ _ _ _ _ _)).mono ?_
  rintro e w2 ⟨rfl, x2⟩
  have y2 : Ext w1 w2 := by (exact eX)
  have hT2 := blk_under x2
  have hZ2 := hZ1.ext y2
  go_wp2_with fail
  refine (KJ.out _ (by (exact eX)) _ (row_one0 w2 _ _)).mono ?_
  rintro e w3 ⟨rfl, x3⟩
  have y3 : Ext w2 w3 := by (exact eX)
  have hT3 := hT2.ext y3
  have hZ3 := hZ2.ext y3
  go_wp2_with fail
  refine (KT.out _ ((y1.trans y2).trans y3)).mono ?_
  rintro e w4 ⟨rfl, x4, hp4⟩
  have P4 := hp4 HL2.out
  have hT4 := hT3.nez x4 (by omega)
  have hZ4 := hZ3.nez x4 (by omega)
  have y4 : ExtX (· = pb) w w4 := (ExtX.of ((y1.trans y2).trans y3)).trans x4
  have HZ4 := Lib.hid hZ4
  have HT4 := Lib.hid hT4
  have HP4 := Lib.hid P4
  have Y4 := Lib.hid y4
  clear x1 hZ1 y1 x2 y2 hT2 hZ2 x4 hp4 P4 hZ4 y4 x3 y3 hT3 hZ3 hT4
  go_wp2_with fail
  refine (KE.out _ HP4.out).mono ?_
  intro e W4 hh
  cases hg : getK 3 l2 with
  | error l' =>
    rw [hg] at hh
    obtain ⟨rfl, x5⟩ := hh.error
    have hpm := HPM.out
    rw [hg] at hpm
    cases hpm
    exact ⟨rfl, Y4.out.trans x5, rfl⟩
  | ok q =>
  obtain ⟨xn, l3⟩ := q
  rw [hg] at hh
  obtain ⟨v, rfl, hv, P5, x5⟩ := hh.ok
  have hv : v = .string xn := hv
  subst hv
  have hxs : xn.size ≤ 9223372036854775807 := by
    obtain ⟨t, e, -, rfl⟩ := getK_inv (k := 3) (l := l2) (l' := l3) (x := xn) (by rw [hg])
    subst e
    exact P5.elim fun _ _ => HP4.out.fits.text1
  have he3 : Ended l3 := by have := getK_behind HE2.out (show (3 : Int) ≠ 6 by omega); rw [hg] at this; exact this.1
  have hpm := HPM.out
  rw [hg] at hpm
  have hpm : andThen (parseF f .unary l3) (fun a l2 => some (.ok (.mk { hd0 15 tk.pos with exn := xn } [a], l2))) = some r := hpm
  have hZ5 := HZ4.out.nez x5 (by omega)
  have hT5 := HT4.out.nez x5 (by omega)
  have y5 : ExtX (· = pb) w W4 := Y4.out.trans x5
  have hl40 : w.heap.size < W4.heap.size := hZ5.lt
  have hne1 : ¬ (w1.heap.size = pb) := by omega
  have n2 := fun W (h : ExtX (· = pb) W4 W) => (hT5.extx h hne1).cell 2
  simp at n2
  have HPM5 := Lib.hid hpm
  have HZ5 := Lib.hid hZ5
  have HP5 := Lib.hid P5
  have Y5 := Lib.hid y5
  have HE3 := Lib.hid he3
  clear hh hg x5 hpm hZ5 hT5 y5 P5 he3
  cases e5 : parseF f .unary l3 with
  | none => have := HPM5.out; rw [e5] at this; cases this
  | some r5 =>
    have KP5 := Lib.hid fun W (hP : Prs W pb l3) => HU.out pb W l3 r5 hP HE3.out e5
    have hpm := HPM5.out
    rw [e5] at hpm
    cases r5 with
    | error l' =>
      cases hpm
      clear e5
      go_upto_region 8 with fail
      refine wp_region_held_drew (S := fun w' => ExtX (· = pb) W4 w') (by kernel_rfl) (by (try dsimp only); (exact xX)) (fun hHeld => ?_)
      refine tK 0 (v := ?_) ?_ ?_;rotate_left;(focus (intro w hSw;(try dsimp only at hSw);go_simp;(try with_reducible rfl)));try simp only [Act.put,pA,pB,pC]
      refine tK 1 (v := ?_) ?_ ?_;rotate_left;(focus (intro w hSw;(try dsimp only at hSw);go_simp;(try with_reducible rfl)));try simp only [Act.put,pA,pB,pC]
      refine tK 2 (v := ?_) ?_ ?_;rotate_left;(focus (intro w hSw;(try dsimp only at hSw);go_simp;(try with_reducible rfl)));try simp only [Act.put,pA,pB,pC]
      refine wpAnyH_ready (rs := [3, 6]) (by kernel_rfl) (by simp) ?_
      refine held_cons 3 rfl (by rfl) (fun K hK => ?_) (held_cons 6 rfl (by rfl) (fun K hK => ?_) AllReadyH.nil)
      go_simp; (first | (refine (KP5.out _ (HP5.out.ext (by (exact eX)))).mono ?_; intro e w5 hh; obtain ⟨rfl, x5⟩ := hh.error; exact ⟨rfl, Y5.out.trans ((by (exact xX) : ExtX (· = pb) W4 _).trans x5), rfl⟩))
      go_simp; refine hK.out _ _ (by (try dsimp only); (exact xX)) (fun hHeld => ?_); clear hK K; try simp only [Act.put,pA,pB,pC]
      refine held_do 3 rfl (by kernel_rfl) (by rfl) (fun K hK => ?_); go_simp; (first | (refine (KP5.out _ (HP5.out.ext (by (exact eX)))).mono ?_; intro e w5 hh; obtain ⟨rfl, x5⟩ := hh.error; exact ⟨rfl, Y5.out.trans ((by (exact xX) : ExtX (· = pb) W4 _).trans x5), rfl⟩))
      rotate_left 0
    | ok p5 =>
      obtain ⟨⟨xb, kb⟩, l4⟩ := p5
      rw [andThen_ok] at hpm
      cases hpm
      clear e5
      go_upto_region 8 with fail
      refine wp_region_held_drew (S := fun w' => ExtX (· = pb) W4 w') (by kernel_rfl) (by (try dsimp only); (exact xX)) (fun hHeld => ?_)
      refine tK 0 (v := ?_) ?_ ?_;rotate_left;(focus (intro w hSw;(try dsimp only at hSw);go_simp;(try with_reducible rfl)));try simp only [Act.put,pA,pB,pC]
      refine tK 1 (v := ?_) ?_ ?_;rotate_left;(focus (intro w hSw;(try dsimp only at hSw);go_simp;(try with_reducible rfl)));try simp only [Act.put,pA,pB,pC]
      refine tK 2 (v := ?_) ?_ ?_;rotate_left;(focus (intro w hSw;(try dsimp only at hSw);go_simp;(try with_reducible rfl)));try simp only [Act.put,pA,pB,pC]
      refine wpAnyH_ready (rs := [3, 6]) (by kernel_rfl) (by simp) ?_
      refine held_cons 3 rfl (by rfl) (fun K hK => ?_) (held_cons 6 rfl (by rfl) (fun K hK => ?_) AllReadyH.nil)
      go_simp; (first | (refine (KP5.out _ (HP5.out.ext (by (exact eX)))).mono ?_; intro e w5 hh; obtain ⟨v5, rfl, ⟨ab, nb, cb, rfl, fb, b1, b2, hTb⟩, hp5, x5⟩ := hh.ok; have y5 : ExtX (· = pb) W4 w5 := (by (exact xX) : ExtX (· = pb) W4 _).trans x5; have hTb2 : IsTmsA (fun b => b ≤ w.heap.size) w5 kb ab nb := hTb.off (fun b _ hb => (by have hb : b ≤ w.heap.size := hb; simp; omega)); have HTb2 := Lib.hid hTb2; have hs5 := y5.size; (try (have hQ5 : Blk w5 W4.heap.size 28 #[.int .u8 0, .int .u8 0, .int .i64 0, .int .i64 0, .string ⟨#[]⟩, .string ⟨#[]⟩, .string ⟨#[]⟩, .slice none 0 0] := (Blk.new W4 28 #[.int .u8 0, .int .u8 0, .int .i64 0, .int .i64 0, .string ⟨#[]⟩, .string ⟨#[]⟩, .string ⟨#[]⟩, .slice none 0 0]).drew.nez x5 (by omega); have HTA := Lib.hid (show IsTmsA (AvP w.heap.size W4.heap.size) w5 kb ab nb from hTb.off (fun b _ hb => by rcases hb with hb | hb <;> (simp; omega))); have HQ5 := Lib.hid hQ5; have hl45 := hQ5.lt; clear hQ5)); clear hTb hTb2 hh)); (try (focus (go_wp2_with fail))); refine hK.out _ _ (by (try dsimp only); (exact xX)) (fun hHeld => ?_); clear hK K; try simp only [Act.put,pA,pB,pC]
      refine wpAnyH_ready (rs := [4, 6]) (by kernel_rfl) (by simp) ?_
      refine held_cons 4 rfl (by rfl) (fun K hK => ?_) (held_cons 6 rfl (by rfl) (fun K hK => ?_) AllReadyH.nil)
      go_simp; refine hK.out _ _ (by (try dsimp only); (exact xX)) (fun hHeld => ?_); clear hK K; try simp only [Act.put,pA,pB,pC]
      refine wpAnyH_ready (rs := [5, 6]) (by kernel_rfl) (by simp) ?_
      refine held_cons 5 rfl (by rfl) (fun K hK => ?_) (held_cons 6 rfl (by rfl) (fun K hK => ?_) AllReadyH.nil)
      go_simp; (first | (refine (KP5.out _ (HP5.out.ext (by (exact eX)))).mono ?_; intro e w5 hh; obtain ⟨v5, rfl, ⟨ab, nb, cb, rfl, fb, b1, b2, hTb⟩, hp5, x5⟩ := hh.ok; have y5 : ExtX (· = pb) W4 w5 := (by (exact xX) : ExtX (· = pb) W4 _).trans x5; have hTb2 : IsTmsA (fun b => b ≤ w.heap.size) w5 kb ab nb := hTb.off (fun b _ hb => (by have hb : b ≤ w.heap.size := hb; simp; omega)); have HTb2 := Lib.hid hTb2; have hs5 := y5.size; (try (have hQ5 : Blk w5 W4.heap.size 28 #[.int .u8 0, .int .u8 0, .int .i64 0, .int .i64 0, .string ⟨#[]⟩, .string ⟨#[]⟩, .string ⟨#[]⟩, .slice none 0 0] := (Blk.new W4 28 #[.int .u8 0, .int .u8 0, .int .i64 0, .int .i64 0, .string ⟨#[]⟩, .string ⟨#[]⟩, .string ⟨#[]⟩, .slice none 0 0]).drew.nez x5 (by omega); have HTA := Lib.hid (show IsTmsA (AvP w.heap.size W4.heap.size) w5 kb ab nb from hTb.off (fun b _ hb => by rcases hb with hb | hb <;> (simp; omega))); have HQ5 := Lib.hid hQ5; have hl45 := hQ5.lt; clear hQ5)); clear hTb hTb2 hh) | (go_at_call 58; refine (parse_node _ _ _ _ _ _).mono ?_; rintro e w6 ⟨rfl, x6⟩; have y56 : Ext w5 w6 := (by (exact eX) : Ext w5 _).trans x6; have y6 : ExtX (· = pb) W4 w6 := ExtX.then_ y5 y56; have hB6 := HZ5.out.nez y6 (by omega); have HB6 := Lib.hid hB6; have hl6 := hB6.lt; have HP6 := Lib.hid (hp5.ext y56); have hs6 := y56.size; obtain ⟨d0, d1, d2, d3, d4, d5, d6, d7⟩ := hB6.eight; obtain ⟨f0, f1, f2, f3, f4, f5, f6, f7⟩ := hB6.frozen8; (first | (have HQ6 := Lib.hid (HQ5.out.ext y56); have HRW := Lib.hid (one_row (A := AvP w.heap.size W4.heap.size) y56 b1 b2 fb HTA.out (fun h => by rcases h with h | h <;> omega) (blk_top x6))) | (have HQ6 : Hid (Blk w6 w5.heap.size 28 #[.int .u8 0, .int .u8 0, .int .i64 0, .int .i64 0, .string ⟨#[]⟩, .string ⟨#[]⟩, .string ⟨#[]⟩, .slice none 0 0]) := Lib.hid (blk_under x6); have HRW := Lib.hid (one_row (A := AvP w.heap.size w5.heap.size) (g := w5.heap.size + 1) y56 b1 b2 fb (HTb2.out.off (fun b hb h => by rcases h with h | h; exact h; omega)) (fun h => by rcases h with h | h <;> omega) (by have h := blk_top x6; rw [World.size_alloc] at h; exact h))) | (have HQ6 : Hid (Blk w6 (w5.heap.size + 1) 28 #[.int .u8 0, .int .u8 0, .int .i64 0, .int .i64 0, .string ⟨#[]⟩, .string ⟨#[]⟩, .string ⟨#[]⟩, .slice none 0 0]) := Lib.hid (by have h := blk_top x6; rw [World.size_alloc] at h; exact h); have HRW := Lib.hid (one_row (A := AvP w.heap.size (w5.heap.size + 1)) (g := w5.heap.size) y56 b1 b2 fb (HTb2.out.off (fun b hb h => by rcases h with h | h; exact h; omega)) (fun h => by rcases h with h | h <;> omega) (blk_under x6))) | (have HRO := Lib.hid (one_row (A := fun b => b ≤ w.heap.size) y56 b1 b2 fb HTb2.out (by show ¬ w5.heap.size ≤ w.heap.size; omega) (blk_top x6)))); clear hB6; (try (have hl46 := HQ6.out.lt; obtain ⟨q0, q1, q2, q3, q4, q5, q6, q7⟩ := HQ6.out.eight; obtain ⟨p0, p1, p2, p3, p4, p5, p6, p7⟩ := HQ6.out.frozen8)))); (try (focus (go_wp2_with fail))); refine hK.out _ _ (by (try dsimp only); (exact xX)) (fun hHeld => ?_); clear hK K; try simp only [Act.put,pA,pB,pC]
      refine held_do 6 rfl (by kernel_rfl) (by rfl) (fun K hK => ?_); go_simp; refine hK.out _ _ (by (try dsimp only); (exact xX)) (fun hHeld => ?_); clear hK K; try simp only [Act.put,pA,pB,pC]
      refine held_do 7 rfl (by kernel_rfl) (by rfl) (fun K hK => ?_); go_simp; refine hK.out _ _ (by (try dsimp only); (exact xX)) (fun hHeld => ?_); clear hK K; try simp only [Act.put,pA,pB,pC]
      refine wpAnyH_done (by kernel_rfl) ?_ _
      rotate_left 1
      go_simp; refine hK.out _ _ (by (try dsimp only); (exact xX)) (fun hHeld => ?_); clear hK K; try simp only [Act.put,pA,pB,pC]
      refine held_do 5 rfl (by kernel_rfl) (by rfl) (fun K hK => ?_); go_simp; (first | (refine (KP5.out _ (HP5.out.ext (by (exact eX)))).mono ?_; intro e w5 hh; obtain ⟨v5, rfl, ⟨ab, nb, cb, rfl, fb, b1, b2, hTb⟩, hp5, x5⟩ := hh.ok; have y5 : ExtX (· = pb) W4 w5 := (by (exact xX) : ExtX (· = pb) W4 _).trans x5; have hTb2 : IsTmsA (fun b => b ≤ w.heap.size) w5 kb ab nb := hTb.off (fun b _ hb => (by have hb : b ≤ w.heap.size := hb; simp; omega)); have HTb2 := Lib.hid hTb2; have hs5 := y5.size; (try (have hQ5 : Blk w5 W4.heap.size 28 #[.int .u8 0, .int .u8 0, .int .i64 0, .int .i64 0, .string ⟨#[]⟩, .string ⟨#[]⟩, .string ⟨#[]⟩, .slice none 0 0] := (Blk.new W4 28 #[.int .u8 0, .int .u8 0, .int .i64 0, .int .i64 0, .string ⟨#[]⟩, .string ⟨#[]⟩, .string ⟨#[]⟩, .slice none 0 0]).drew.nez x5 (by omega); have HTA := Lib.hid (show IsTmsA (AvP w.heap.size W4.heap.size) w5 kb ab nb from hTb.off (fun b _ hb => by rcases hb with hb | hb <;> (simp; omega))); have HQ5 := Lib.hid hQ5; have hl45 := hQ5.lt; clear hQ5)); clear hTb hTb2 hh) | (go_at_call 58; refine (parse_node _ _ _ _ _ _).mono ?_; rintro e w6 ⟨rfl, x6⟩; have y56 : Ext w5 w6 := (by (exact eX) : Ext w5 _).trans x6; have y6 : ExtX (· = pb) W4 w6 := ExtX.then_ y5 y56; have hB6 := HZ5.out.nez y6 (by omega); have HB6 := Lib.hid hB6; have hl6 := hB6.lt; have HP6 := Lib.hid (hp5.ext y56); have hs6 := y56.size; obtain ⟨d0, d1, d2, d3, d4, d5, d6, d7⟩ := hB6.eight; obtain ⟨f0, f1, f2, f3, f4, f5, f6, f7⟩ := hB6.frozen8; (first | (have HQ6 := Lib.hid (HQ5.out.ext y56); have HRW := Lib.hid (one_row (A := AvP w.heap.size W4.heap.size) y56 b1 b2 fb HTA.out (fun h => by rcases h with h | h <;> omega) (blk_top x6))) | (have HQ6 : Hid (Blk w6 w5.heap.size 28 #[.int .u8 0, .int .u8 0, .int .i64 0, .int .i64 0, .string ⟨#[]⟩, .string ⟨#[]⟩, .string ⟨#[]⟩, .slice none 0 0]) := Lib.hid (blk_under x6); have HRW := Lib.hid (one_row (A := AvP w.heap.size w5.heap.size) (g := w5.heap.size + 1) y56 b1 b2 fb (HTb2.out.off (fun b hb h => by rcases h with h | h; exact h; omega)) (fun h => by rcases h with h | h <;> omega) (by have h := blk_top x6; rw [World.size_alloc] at h; exact h))) | (have HQ6 : Hid (Blk w6 (w5.heap.size + 1) 28 #[.int .u8 0, .int .u8 0, .int .i64 0, .int .i64 0, .string ⟨#[]⟩, .string ⟨#[]⟩, .string ⟨#[]⟩, .slice none 0 0]) := Lib.hid (by have h := blk_top x6; rw [World.size_alloc] at h; exact h); have HRW := Lib.hid (one_row (A := AvP w.heap.size (w5.heap.size + 1)) (g := w5.heap.size) y56 b1 b2 fb (HTb2.out.off (fun b hb h => by rcases h with h | h; exact h; omega)) (fun h => by rcases h with h | h <;> omega) (blk_under x6))) | (have HRO := Lib.hid (one_row (A := fun b => b ≤ w.heap.size) y56 b1 b2 fb HTb2.out (by show ¬ w5.heap.size ≤ w.heap.size; omega) (blk_top x6)))); clear hB6; (try (have hl46 := HQ6.out.lt; obtain ⟨q0, q1, q2, q3, q4, q5, q6, q7⟩ := HQ6.out.eight; obtain ⟨p0, p1, p2, p3, p4, p5, p6, p7⟩ := HQ6.out.frozen8)))); (try (focus (go_wp2_with fail))); refine hK.out _ _ (by (try dsimp only); (exact xX)) (fun hHeld => ?_); clear hK K; try simp only [Act.put,pA,pB,pC]
      refine held_do 7 rfl (by kernel_rfl) (by rfl) (fun K hK => ?_); go_simp; refine hK.out _ _ (by (try dsimp only); (exact xX)) (fun hHeld => ?_); clear hK K; try simp only [Act.put,pA,pB,pC]
      refine wpAnyH_done (by kernel_rfl) ?_ _
      rotate_left 1
      go_simp; refine hK.out _ _ (by (try dsimp only); (exact xX)) (fun hHeld => ?_); clear hK K; try simp only [Act.put,pA,pB,pC]
      refine held_do 4 rfl (by kernel_rfl) (by rfl) (fun K hK => ?_); go_simp; refine hK.out _ _ (by (try dsimp only); (exact xX)) (fun hHeld => ?_); clear hK K; try simp only [Act.put,pA,pB,pC]
      refine held_do 5 rfl (by kernel_rfl) (by rfl) (fun K hK => ?_); go_simp; (first | (refine (KP5.out _ (HP5.out.ext (by (exact eX)))).mono ?_; intro e w5 hh; obtain ⟨v5, rfl, ⟨ab, nb, cb, rfl, fb, b1, b2, hTb⟩, hp5, x5⟩ := hh.ok; have y5 : ExtX (· = pb) W4 w5 := (by (exact xX) : ExtX (· = pb) W4 _).trans x5; have hTb2 : IsTmsA (fun b => b ≤ w.heap.size) w5 kb ab nb := hTb.off (fun b _ hb => (by have hb : b ≤ w.heap.size := hb; simp; omega)); have HTb2 := Lib.hid hTb2; have hs5 := y5.size; (try (have hQ5 : Blk w5 W4.heap.size 28 #[.int .u8 0, .int .u8 0, .int .i64 0, .int .i64 0, .string ⟨#[]⟩, .string ⟨#[]⟩, .string ⟨#[]⟩, .slice none 0 0] := (Blk.new W4 28 #[.int .u8 0, .int .u8 0, .int .i64 0, .int .i64 0, .string ⟨#[]⟩, .string ⟨#[]⟩, .string ⟨#[]⟩, .slice none 0 0]).drew.nez x5 (by omega); have HTA := Lib.hid (show IsTmsA (AvP w.heap.size W4.heap.size) w5 kb ab nb from hTb.off (fun b _ hb => by rcases hb with hb | hb <;> (simp; omega))); have HQ5 := Lib.hid hQ5; have hl45 := hQ5.lt; clear hQ5)); clear hTb hTb2 hh) | (go_at_call 58; refine (parse_node _ _ _ _ _ _).mono ?_; rintro e w6 ⟨rfl, x6⟩; have y56 : Ext w5 w6 := (by (exact eX) : Ext w5 _).trans x6; have y6 : ExtX (· = pb) W4 w6 := ExtX.then_ y5 y56; have hB6 := HZ5.out.nez y6 (by omega); have HB6 := Lib.hid hB6; have hl6 := hB6.lt; have HP6 := Lib.hid (hp5.ext y56); have hs6 := y56.size; obtain ⟨d0, d1, d2, d3, d4, d5, d6, d7⟩ := hB6.eight; obtain ⟨f0, f1, f2, f3, f4, f5, f6, f7⟩ := hB6.frozen8; (first | (have HQ6 := Lib.hid (HQ5.out.ext y56); have HRW := Lib.hid (one_row (A := AvP w.heap.size W4.heap.size) y56 b1 b2 fb HTA.out (fun h => by rcases h with h | h <;> omega) (blk_top x6))) | (have HQ6 : Hid (Blk w6 w5.heap.size 28 #[.int .u8 0, .int .u8 0, .int .i64 0, .int .i64 0, .string ⟨#[]⟩, .string ⟨#[]⟩, .string ⟨#[]⟩, .slice none 0 0]) := Lib.hid (blk_under x6); have HRW := Lib.hid (one_row (A := AvP w.heap.size w5.heap.size) (g := w5.heap.size + 1) y56 b1 b2 fb (HTb2.out.off (fun b hb h => by rcases h with h | h; exact h; omega)) (fun h => by rcases h with h | h <;> omega) (by have h := blk_top x6; rw [World.size_alloc] at h; exact h))) | (have HQ6 : Hid (Blk w6 (w5.heap.size + 1) 28 #[.int .u8 0, .int .u8 0, .int .i64 0, .int .i64 0, .string ⟨#[]⟩, .string ⟨#[]⟩, .string ⟨#[]⟩, .slice none 0 0]) := Lib.hid (by have h := blk_top x6; rw [World.size_alloc] at h; exact h); have HRW := Lib.hid (one_row (A := AvP w.heap.size (w5.heap.size + 1)) (g := w5.heap.size) y56 b1 b2 fb (HTb2.out.off (fun b hb h => by rcases h with h | h; exact h; omega)) (fun h => by rcases h with h | h <;> omega) (blk_under x6))) | (have HRO := Lib.hid (one_row (A := fun b => b ≤ w.heap.size) y56 b1 b2 fb HTb2.out (by show ¬ w5.heap.size ≤ w.heap.size; omega) (blk_top x6)))); clear hB6; (try (have hl46 := HQ6.out.lt; obtain ⟨q0, q1, q2, q3, q4, q5, q6, q7⟩ := HQ6.out.eight; obtain ⟨p0, p1, p2, p3, p4, p5, p6, p7⟩ := HQ6.out.frozen8)))); (try (focus (go_wp2_with fail))); refine hK.out _ _ (by (try dsimp only); (exact xX)) (fun hHeld => ?_); clear hK K; try simp only [Act.put,pA,pB,pC]
      refine held_do 7 rfl (by kernel_rfl) (by rfl) (fun K hK => ?_); go_simp; refine hK.out _ _ (by (try dsimp only); (exact xX)) (fun hHeld => ?_); clear hK K; try simp only [Act.put,pA,pB,pC]
      refine wpAnyH_done (by kernel_rfl) ?_ _
      rotate_left 1
      go_simp; refine hK.out _ _ (by (try dsimp only); (exact xX)) (fun hHeld => ?_); clear hK K; try simp only [Act.put,pA,pB,pC]
      refine held_do 3 rfl (by kernel_rfl) (by rfl) (fun K hK => ?_); go_simp; (first | (refine (KP5.out _ (HP5.out.ext (by (exact eX)))).mono ?_; intro e w5 hh; obtain ⟨v5, rfl, ⟨ab, nb, cb, rfl, fb, b1, b2, hTb⟩, hp5, x5⟩ := hh.ok; have y5 : ExtX (· = pb) W4 w5 := (by (exact xX) : ExtX (· = pb) W4 _).trans x5; have hTb2 : IsTmsA (fun b => b ≤ w.heap.size) w5 kb ab nb := hTb.off (fun b _ hb => (by have hb : b ≤ w.heap.size := hb; simp; omega)); have HTb2 := Lib.hid hTb2; have hs5 := y5.size; (try (have hQ5 : Blk w5 W4.heap.size 28 #[.int .u8 0, .int .u8 0, .int .i64 0, .int .i64 0, .string ⟨#[]⟩, .string ⟨#[]⟩, .string ⟨#[]⟩, .slice none 0 0] := (Blk.new W4 28 #[.int .u8 0, .int .u8 0, .int .i64 0, .int .i64 0, .string ⟨#[]⟩, .string ⟨#[]⟩, .string ⟨#[]⟩, .slice none 0 0]).drew.nez x5 (by omega); have HTA := Lib.hid (show IsTmsA (AvP w.heap.size W4.heap.size) w5 kb ab nb from hTb.off (fun b _ hb => by rcases hb with hb | hb <;> (simp; omega))); have HQ5 := Lib.hid hQ5; have hl45 := hQ5.lt; clear hQ5)); clear hTb hTb2 hh)); (try (focus (go_wp2_with fail))); refine hK.out _ _ (by (try dsimp only); (exact xX)) (fun hHeld => ?_); clear hK K; try simp only [Act.put,pA,pB,pC]
      refine held_do 4 rfl (by kernel_rfl) (by rfl) (fun K hK => ?_); go_simp; refine hK.out _ _ (by (try dsimp only); (exact xX)) (fun hHeld => ?_); clear hK K; try simp only [Act.put,pA,pB,pC]
      refine held_do 5 rfl (by kernel_rfl) (by rfl) (fun K hK => ?_); go_simp; (first | (refine (KP5.out _ (HP5.out.ext (by (exact eX)))).mono ?_; intro e w5 hh; obtain ⟨v5, rfl, ⟨ab, nb, cb, rfl, fb, b1, b2, hTb⟩, hp5, x5⟩ := hh.ok; have y5 : ExtX (· = pb) W4 w5 := (by (exact xX) : ExtX (· = pb) W4 _).trans x5; have hTb2 : IsTmsA (fun b => b ≤ w.heap.size) w5 kb ab nb := hTb.off (fun b _ hb => (by have hb : b ≤ w.heap.size := hb; simp; omega)); have HTb2 := Lib.hid hTb2; have hs5 := y5.size; (try (have hQ5 : Blk w5 W4.heap.size 28 #[.int .u8 0, .int .u8 0, .int .i64 0, .int .i64 0, .string ⟨#[]⟩, .string ⟨#[]⟩, .string ⟨#[]⟩, .slice none 0 0] := (Blk.new W4 28 #[.int .u8 0, .int .u8 0, .int .i64 0, .int .i64 0, .string ⟨#[]⟩, .string ⟨#[]⟩, .string ⟨#[]⟩, .slice none 0 0]).drew.nez x5 (by omega); have HTA := Lib.hid (show IsTmsA (AvP w.heap.size W4.heap.size) w5 kb ab nb from hTb.off (fun b _ hb => by rcases hb with hb | hb <;> (simp; omega))); have HQ5 := Lib.hid hQ5; have hl45 := hQ5.lt; clear hQ5)); clear hTb hTb2 hh) | (go_at_call 58; refine (parse_node _ _ _ _ _ _).mono ?_; rintro e w6 ⟨rfl, x6⟩; have y56 : Ext w5 w6 := (by (exact eX) : Ext w5 _).trans x6; have y6 : ExtX (· = pb) W4 w6 := ExtX.then_ y5 y56; have hB6 := HZ5.out.nez y6 (by omega); have HB6 := Lib.hid hB6; have hl6 := hB6.lt; have HP6 := Lib.hid (hp5.ext y56); have hs6 := y56.size; obtain ⟨d0, d1, d2, d3, d4, d5, d6, d7⟩ := hB6.eight; obtain ⟨f0, f1, f2, f3, f4, f5, f6, f7⟩ := hB6.frozen8; (first | (have HQ6 := Lib.hid (HQ5.out.ext y56); have HRW := Lib.hid (one_row (A := AvP w.heap.size W4.heap.size) y56 b1 b2 fb HTA.out (fun h => by rcases h with h | h <;> omega) (blk_top x6))) | (have HQ6 : Hid (Blk w6 w5.heap.size 28 #[.int .u8 0, .int .u8 0, .int .i64 0, .int .i64 0, .string ⟨#[]⟩, .string ⟨#[]⟩, .string ⟨#[]⟩, .slice none 0 0]) := Lib.hid (blk_under x6); have HRW := Lib.hid (one_row (A := AvP w.heap.size w5.heap.size) (g := w5.heap.size + 1) y56 b1 b2 fb (HTb2.out.off (fun b hb h => by rcases h with h | h; exact h; omega)) (fun h => by rcases h with h | h <;> omega) (by have h := blk_top x6; rw [World.size_alloc] at h; exact h))) | (have HQ6 : Hid (Blk w6 (w5.heap.size + 1) 28 #[.int .u8 0, .int .u8 0, .int .i64 0, .int .i64 0, .string ⟨#[]⟩, .string ⟨#[]⟩, .string ⟨#[]⟩, .slice none 0 0]) := Lib.hid (by have h := blk_top x6; rw [World.size_alloc] at h; exact h); have HRW := Lib.hid (one_row (A := AvP w.heap.size (w5.heap.size + 1)) (g := w5.heap.size) y56 b1 b2 fb (HTb2.out.off (fun b hb h => by rcases h with h | h; exact h; omega)) (fun h => by rcases h with h | h <;> omega) (blk_under x6))) | (have HRO := Lib.hid (one_row (A := fun b => b ≤ w.heap.size) y56 b1 b2 fb HTb2.out (by show ¬ w5.heap.size ≤ w.heap.size; omega) (blk_top x6)))); clear hB6; (try (have hl46 := HQ6.out.lt; obtain ⟨q0, q1, q2, q3, q4, q5, q6, q7⟩ := HQ6.out.eight; obtain ⟨p0, p1, p2, p3, p4, p5, p6, p7⟩ := HQ6.out.frozen8)))); (try (focus (go_wp2_with fail))); refine hK.out _ _ (by (try dsimp only); (exact xX)) (fun hHeld => ?_); clear hK K; try simp only [Act.put,pA,pB,pC]
      refine held_do 7 rfl (by kernel_rfl) (by rfl) (fun K hK => ?_); go_simp; refine hK.out _ _ (by (try dsimp only); (exact xX)) (fun hHeld => ?_); clear hK K; try simp only [Act.put,pA,pB,pC]
      refine wpAnyH_done (by kernel_rfl) ?_ _
      rotate_left 1
      all_goals
        have HX6 := Lib.hid (Y5.out.trans y6)
        have HF15 := Lib.hid (hd15_fits (p := tk.pos) (x := xn) hpos0 hpos1 hxs)
        clear y6 y56 hHeld
        first
          | (clear d0 d1 d2 d3 d4 d5 d6 d7 f0 f1 f2 f3 f4 f5 f6 f7 q0 q1 q2 q3 q4 q5 q6 q7 p0 p1 p2 p3 p4 p5 p6 p7; have M9 := Mid8.of (B5 := W4.heap.size) (y0 := .int .u8 15) (y1 := .int .u8 0) (y2 := .int .i64 tk.pos) (y3 := .int .i64 0) (y4 := .string ByteArray.empty) (y5 := .string ByteArray.empty) (y6 := .string ByteArray.empty) (a := some ⟨w5.heap.size, 0, none⟩) (n := 1) (c := 1) (cs := (.int .u8 0, .int .u8 0, .int .i64 0, .int .i64 0, .string ⟨#[]⟩, .string ⟨#[]⟩, .string ⟨#[]⟩, .slice none 0 0)) HB6.out HQ6.out HRW.out HP6.out HX6.out hlt (by omega); obtain ⟨W9, hW9⟩ : ∃ W9, W9 = ((((((((w6.setCell ⟨W4.heap.size, 0, none⟩ (.int .u8 15)).setCell ⟨W4.heap.size, 1, none⟩ (.int .u8 0)).setCell ⟨W4.heap.size, 2, none⟩ (.int .i64 tk.pos)).setCell ⟨W4.heap.size, 3, none⟩ (.int .i64 0)).setCell ⟨W4.heap.size, 4, none⟩ (.string ByteArray.empty)).setCell ⟨W4.heap.size, 5, none⟩ (.string ByteArray.empty)).setCell ⟨W4.heap.size, 6, none⟩ (.string ByteArray.empty)).setCell ⟨W4.heap.size, 7, none⟩ (.slice (some ⟨w5.heap.size, 0, none⟩) 1 1)) := ⟨_, rfl⟩; rw [← hW9] at M9; rw [← hW9]; have HM9 := Lib.hid M9; clear M9)
          | (clear d0 d1 d2 d3 d4 d5 d6 d7 f0 f1 f2 f3 f4 f5 f6 f7 q0 q1 q2 q3 q4 q5 q6 q7 p0 p1 p2 p3 p4 p5 p6 p7; have M9 := Mid8.of (B5 := w5.heap.size) (y0 := .int .u8 15) (y1 := .int .u8 0) (y2 := .int .i64 tk.pos) (y3 := .int .i64 0) (y4 := .string ByteArray.empty) (y5 := .string ByteArray.empty) (y6 := .string ByteArray.empty) (a := some ⟨w5.heap.size + 1, 0, none⟩) (n := 1) (c := 1) (cs := (.int .u8 0, .int .u8 0, .int .i64 0, .int .i64 0, .string ⟨#[]⟩, .string ⟨#[]⟩, .string ⟨#[]⟩, .slice none 0 0)) HB6.out HQ6.out HRW.out HP6.out HX6.out hlt (by omega); obtain ⟨W9, hW9⟩ : ∃ W9, W9 = ((((((((w6.setCell ⟨w5.heap.size, 0, none⟩ (.int .u8 15)).setCell ⟨w5.heap.size, 1, none⟩ (.int .u8 0)).setCell ⟨w5.heap.size, 2, none⟩ (.int .i64 tk.pos)).setCell ⟨w5.heap.size, 3, none⟩ (.int .i64 0)).setCell ⟨w5.heap.size, 4, none⟩ (.string ByteArray.empty)).setCell ⟨w5.heap.size, 5, none⟩ (.string ByteArray.empty)).setCell ⟨w5.heap.size, 6, none⟩ (.string ByteArray.empty)).setCell ⟨w5.heap.size, 7, none⟩ (.slice (some ⟨w5.heap.size + 1, 0, none⟩) 1 1)) := ⟨_, rfl⟩; rw [← hW9] at M9; rw [← hW9]; have HM9 := Lib.hid M9; clear M9)
          | (clear d0 d1 d2 d3 d4 d5 d6 d7 f0 f1 f2 f3 f4 f5 f6 f7 q0 q1 q2 q3 q4 q5 q6 q7 p0 p1 p2 p3 p4 p5 p6 p7; have M9 := Mid8.of (B5 := w5.heap.size + 1) (y0 := .int .u8 15) (y1 := .int .u8 0) (y2 := .int .i64 tk.pos) (y3 := .int .i64 0) (y4 := .string ByteArray.empty) (y5 := .string ByteArray.empty) (y6 := .string ByteArray.empty) (a := some ⟨w5.heap.size, 0, none⟩) (n := 1) (c := 1) (cs := (.int .u8 0, .int .u8 0, .int .i64 0, .int .i64 0, .string ⟨#[]⟩, .string ⟨#[]⟩, .string ⟨#[]⟩, .slice none 0 0)) HB6.out HQ6.out HRW.out HP6.out HX6.out hlt (by omega); obtain ⟨W9, hW9⟩ : ∃ W9, W9 = ((((((((w6.setCell ⟨w5.heap.size + 1, 0, none⟩ (.int .u8 15)).setCell ⟨w5.heap.size + 1, 1, none⟩ (.int .u8 0)).setCell ⟨w5.heap.size + 1, 2, none⟩ (.int .i64 tk.pos)).setCell ⟨w5.heap.size + 1, 3, none⟩ (.int .i64 0)).setCell ⟨w5.heap.size + 1, 4, none⟩ (.string ByteArray.empty)).setCell ⟨w5.heap.size + 1, 5, none⟩ (.string ByteArray.empty)).setCell ⟨w5.heap.size + 1, 6, none⟩ (.string ByteArray.empty)).setCell ⟨w5.heap.size + 1, 7, none⟩ (.slice (some ⟨w5.heap.size, 0, none⟩) 1 1)) := ⟨_, rfl⟩; rw [← hW9] at M9; rw [← hW9]; have HM9 := Lib.hid M9; clear M9)
          | skip
        first
          | (have hl9 := HM9.out.b.lt; have p6 := HM9.out.b.frozen 6; have q6 := HM9.out.b.eight.2.2.2.2.2.2.1; clear hW9)
          | skip
        go_upto_region 9 with fail
        go_upto_region 10 with fail
        first
          | (obtain ⟨W10, hW10⟩ : ∃ W10, W10 = W9.setCell ⟨W4.heap.size, 6, none⟩ (.string xn) := ⟨_, rfl⟩; rw [← hW10]; have hM10 := HM9.out.six (.string xn); rw [← hW10] at hM10; clear hl9 p6 q6 hW10; obtain ⟨d0, d1, d2, d3, d4, d5, d6, d7⟩ := hM10.z.eight; obtain ⟨f0, f1, f2, f3, f4, f5, f6, f7⟩ := hM10.z.frozen8; obtain ⟨q0, q1, q2, q3, q4, q5, q6, q7⟩ := hM10.b.eight; have hl9 := hM10.z.lt; have hl9' := hM10.b.lt; have HM10 := Lib.hid hM10; clear hM10 HM9)
          | (obtain ⟨W10, hW10⟩ : ∃ W10, W10 = W9.setCell ⟨w5.heap.size, 6, none⟩ (.string xn) := ⟨_, rfl⟩; rw [← hW10]; have hM10 := HM9.out.six (.string xn); rw [← hW10] at hM10; clear hl9 p6 q6 hW10; obtain ⟨d0, d1, d2, d3, d4, d5, d6, d7⟩ := hM10.z.eight; obtain ⟨f0, f1, f2, f3, f4, f5, f6, f7⟩ := hM10.z.frozen8; obtain ⟨q0, q1, q2, q3, q4, q5, q6, q7⟩ := hM10.b.eight; have hl9 := hM10.z.lt; have hl9' := hM10.b.lt; have HM10 := Lib.hid hM10; clear hM10 HM9)
          | (obtain ⟨W10, hW10⟩ : ∃ W10, W10 = W9.setCell ⟨w5.heap.size + 1, 6, none⟩ (.string xn) := ⟨_, rfl⟩; rw [← hW10]; have hM10 := HM9.out.six (.string xn); rw [← hW10] at hM10; clear hl9 p6 q6 hW10; obtain ⟨d0, d1, d2, d3, d4, d5, d6, d7⟩ := hM10.z.eight; obtain ⟨f0, f1, f2, f3, f4, f5, f6, f7⟩ := hM10.z.frozen8; obtain ⟨q0, q1, q2, q3, q4, q5, q6, q7⟩ := hM10.b.eight; have hl9 := hM10.z.lt; have hl9' := hM10.b.lt; have HM10 := Lib.hid hM10; clear hM10 HM9)
          | skip
        clear n2 hpm hv
        go_wp2_with fail
        first
          | (have HL := HM10.out.done HF15.out (Nat.le_refl _) (by omega); exact HL.ret (fun w2 r0 r1 r2 r3 r4 r5 r6 r7 => by simp [results, Tryz.results139, go_sem, r0, r1, r2, r3, r4, r5, r6, r7]) rfl)
          | (have HL : Laid8 pb w w6 { hd0 15 tk.pos with exn := xn } [.mk xb kb] (some ⟨w5.heap.size, 0, none⟩) 1 1 l4 := ⟨HB6.out, HF15.out, Nat.le_refl _, by omega, HRO.out, HP6.out, HX6.out, hlt⟩; exact HL.ret_alloc (fun w2 r0 r1 r2 r3 r4 r5 r6 r7 => by simp [results, Tryz.results139, go_sem, r0, r1, r2, r3, r4, r5, r6, r7]) rfl)
theorem hd1_fits {p n : Int} (p0 : -9223372036854775808 ≤ p) (p1 : p ≤ 9223372036854775807) (h0 : 0 ≤ n) (h1 : n ≤ 2147483647) : ({ hd0 1 p with n := n } : Hd).Fits :=
  ⟨by simp [hd0], by simp [hd0], by simp [hd0], by simp [hd0], p0, p1, by show -9223372036854775808 ≤ n; omega, by show n ≤ 9223372036854775807; omega, by simp [hd0], by simp [hd0], by simp [hd0]⟩
theorem hd2_fits {p : Int} {x : ByteArray} (p0 : -9223372036854775808 ≤ p) (p1 : p ≤ 9223372036854775807) (hx : x.size ≤ 9223372036854775807) : ({ hd0 2 p with name := x } : Hd).Fits :=
  ⟨by simp [hd0], by simp [hd0], by simp [hd0], by simp [hd0], p0, p1, by simp [hd0], by simp [hd0], hx, by simp [hd0], by simp [hd0]⟩
theorem Laid8.leaf {pb : Nat} {w W : World} {B i : Nat} {e : Value} {x : Hd} {l : List Tk} (hz : Blk W w.heap.size 28 #[.int .u8 0, .int .u8 0, .int .i64 0, .int .i64 0, .string ⟨#[]⟩, .string ⟨#[]⟩, .string ⟨#[]⟩, .slice none 0 0])
    (hf : x.Fits) (hp : Prs W pb l) (hx : ExtX (· = pb) w W) (hlt : pb < w.heap.size) (hB : w.heap.size < B) : Laid8 pb w (W.setCell ⟨B, i, none⟩ e) x [] none 0 0 l :=
  ⟨hz.far (p := ⟨B, i, none⟩) (by show w.heap.size ≠ B; omega) e, hf, Nat.le_refl _, by omega, IsTmsA.nil _, hp.far (p := ⟨B, i, none⟩) (by show pb < B; omega) e, hx.setCell (p := ⟨B, i, none⟩) (.inr (by show w.heap.size ≤ B; omega)) e, hlt⟩
set_option maxRecDepth 8000 in
set_option maxHeartbeats 8000000 in
theorem parse_unary_num (f : Nat) (pb : Nat) (s : ByteArray) (ps : Int) (l2 : List Tk) (r : Res Tm) (w : World) (h : Prs w pb (⟨1, s, ps⟩ :: l2)) (he : Ended (⟨1, s, ps⟩ :: l2)) (hp : parseF (f + 1) .unary (⟨1, s, ps⟩ :: l2) = some r) :
    Calls Tryz.prog 139 #[.pointer (some ⟨pb, 0, none⟩)] w (RetP pb w (IsNew w.heap.size) r) := by
  have hlt := h.lt
  have hi : isT [s_bang, w_ref, w_fst, w_snd] (⟨1, s, ps⟩ :: l2) = false := rfl
  have hi2 : isT [w_raise] (⟨1, s, ps⟩ :: l2) = false := rfl
  have hr : r = .ok (.mk { hd0 1 ps with n := numV s } [], l2) := by
    unfold parseF at hp
    rw [if_neg (by rw [hi]; simp), if_neg (by rw [hi2]; simp), if_pos (show kindT (⟨1, s, ps⟩ :: l2) = 1 from rfl)] at hp
    cases hp
    rfl
  subst hr
  have hfit := h.fits
  obtain ⟨hl2, he2⟩ := he.tail_ne (by simp)
  have hnv := numV_bound s
  have HFT := Lib.hid (hd1_fits (p := ps) (n := numV s) hfit.p0 hfit.p1 hnv.1 hnv.2)
  have KN := Lib.hid fun W (x : Ext w W) => parse_now pb ⟨1, s, ps⟩ l2 W (h.ext x)
  have KT := Lib.hid fun W (h : Prs W pb (⟨1, s, ps⟩ :: l2)) => parse_take pb ⟨1, s, ps⟩ l2 W h
  have KI := Lib.hid fun W (x : Ext w W) (a : Option Addr) (hr : IsRow W (vstr [s_bang, w_ref, w_fst, w_snd]) a 4) => parse_is [s_bang, w_ref, w_fst, w_snd] pb ⟨1, s, ps⟩ l2 W a 4 4 (Nat.le_refl _) (by omega) hr (h.ext x)
  have KJ := Lib.hid fun W (x : Ext w W) (a : Option Addr) (hr : IsRow W (vstr [w_raise]) a 1) => parse_is [w_raise] pb ⟨1, s, ps⟩ l2 W a 1 1 (Nat.le_refl _) (by omega) hr (h.ext x)
  rw [hi] at KI
  rw [hi2] at KJ
  have KW : Hid (∀ W, Calls Tryz.prog 130 #[.string s] W fun e w' => e = .returned (.tuple #[.int .i64 (numV s), .bool (numB s)]) ∧ Ext W w') := Lib.hid fun W => words_number s W
  have HP := Lib.hid h
  have HL2 := Lib.hid hl2
  have F1 := field_tk1
  clear hp h hi hi2 hfit hl2 he2 he
  generalize numV s = nv at *
  generalize numB s = nb at *
  go_enter Tryz.func139, Tryz.ntmps139
  go_wp2_with fail
  refine (KN.out _ (by (exact eX))).mono ?_
  rintro e w1 ⟨rfl, x1⟩
  have hZ1 := blk_top x1
  have y1 : Ext w w1 := by (exact eX)
  have hs1 := hZ1.lt
  go_wp2_with fail
  refine (KI.out _ (by (exact eX)) _ (row_four1 w1 _ _ _ _ _ _)).mono ?_
  rintro e w2 ⟨rfl, x2⟩
  have y2 : Ext w1 w2 := by (exact eX)
  have hT2 := blk_under x2
  go_wp2_with fail
  refine (KJ.out _ (by (exact eX)) _ (row_one0 w2 _ _)).mono ?_
  rintro e w3 ⟨rfl, x3⟩
  have y3 : Ext w2 w3 := by (exact eX)
  have hT3 := hT2.ext y3
  have t0 := hT3.cell 0
  have t2 := hT3.cell 2
  simp at t0 t2
  have y13 := (y1.trans y2).trans y3
  have HZ3 := Lib.hid ((hZ1.ext y2).ext y3)
  have Y13 := Lib.hid y13
  clear x1 hZ1 y1 x2 hT2 y2 x3 hT3 y3 y13
  go_wp2_with fail
  refine (parse_node _ _ _ _ _ _).mono ?_
  rintro e w4 ⟨rfl, x4⟩
  have HZ4 := Lib.hid (HZ3.out.ext x4)
  have hl40 := HZ4.out.lt
  have P4 := HP.out.ext (Y13.out.trans x4)
  go_wp2_with fail
  refine (KT.out _ (P4.alloc _)).mono ?_
  rintro e w5 ⟨rfl, x5, hp5⟩
  have hB5 := (Blk.new w4 _ _).nez x5 (by omega)
  have hZ5 := (HZ4.out.alloc _).nez x5 (by omega)
  have y5 : ExtX (· = pb) w w5 := ((ExtX.of (Y13.out.trans x4)).alloc _).trans x5
  have HB5 := Lib.hid hB5
  have HZ5 := Lib.hid hZ5
  have HP5 := Lib.hid (hp5 HL2.out)
  have Y5 := Lib.hid y5
  clear x4 P4 x5 hp5 hB5 hZ5 y5 t0 t2
  go_wp2_with fail
  refine (KW.out _).mono ?_
  rintro e w6 ⟨rfl, x6⟩
  have hB6 := HB5.out.ext x6
  have hZ6 := HZ5.out.ext x6
  obtain ⟨c0, c1, c2, c3, c4, c5, c6, c7⟩ := hB6.eight
  obtain ⟨f0, f1, f2, f3, f4, f5, f6, f7⟩ := hB6.frozen8
  obtain ⟨z0, z1, z2, z3, z4, z5, z6, z7⟩ := hZ6.eight
  obtain ⟨g0, g1, g2, g3, g4, g5, g6, g7⟩ := hZ6.frozen8
  have hlB := hB6.lt
  have hlZ := hZ6.lt
  have HL := Lib.hid (Laid8.leaf (i := 3) (e := .int .i64 nv) hZ6 HFT.out (HP5.out.ext x6) (Y5.out.then_ x6) hlt hl40)
  have hne : w4.heap.size ≠ w.heap.size := by omega
  have hne' : w.heap.size ≠ w4.heap.size := by omega
  clear hB6 hZ6 x6
  go_wp2_with fail
  exact HL.out.ret (fun w2 r0 r1 r2 r3 r4 r5 r6 r7 => by simp [results, Tryz.results139, go_sem, r0, r1, r2, r3, r4, r5, r6, r7]) rfl
set_option maxRecDepth 8000 in
set_option maxHeartbeats 8000000 in
theorem parse_unary_name (f : Nat) (pb : Nat) (s : ByteArray) (ps : Int) (l2 : List Tk) (r : Res Tm) (w : World) (h : Prs w pb (⟨2, s, ps⟩ :: l2)) (he : Ended (⟨2, s, ps⟩ :: l2)) (hp : parseF (f + 1) .unary (⟨2, s, ps⟩ :: l2) = some r) :
    Calls Tryz.prog 139 #[.pointer (some ⟨pb, 0, none⟩)] w (RetP pb w (IsNew w.heap.size) r) := by
  have hlt := h.lt
  have hi : isT [s_bang, w_ref, w_fst, w_snd] (⟨2, s, ps⟩ :: l2) = false := rfl
  have hi2 : isT [w_raise] (⟨2, s, ps⟩ :: l2) = false := rfl
  have hr : r = .ok (.mk { hd0 2 ps with name := s } [], l2) := by
    unfold parseF at hp
    rw [if_neg (by rw [hi]; simp), if_neg (by rw [hi2]; simp), if_neg (show ¬ kindT (⟨2, s, ps⟩ :: l2) = 1 from by simp [kindT]), if_pos (show kindT (⟨2, s, ps⟩ :: l2) = 2 from rfl)] at hp
    cases hp
    rfl
  subst hr
  have hfit := h.fits
  obtain ⟨hl2, he2⟩ := he.tail_ne (by simp)
  have HFT := Lib.hid (hd2_fits (p := ps) (x := s) hfit.p0 hfit.p1 hfit.text1)
  have KN := Lib.hid fun W (x : Ext w W) => parse_now pb ⟨2, s, ps⟩ l2 W (h.ext x)
  have KT := Lib.hid fun W (h : Prs W pb (⟨2, s, ps⟩ :: l2)) => parse_take pb ⟨2, s, ps⟩ l2 W h
  have KI := Lib.hid fun W (x : Ext w W) (a : Option Addr) (hr : IsRow W (vstr [s_bang, w_ref, w_fst, w_snd]) a 4) => parse_is [s_bang, w_ref, w_fst, w_snd] pb ⟨2, s, ps⟩ l2 W a 4 4 (Nat.le_refl _) (by omega) hr (h.ext x)
  have KJ := Lib.hid fun W (x : Ext w W) (a : Option Addr) (hr : IsRow W (vstr [w_raise]) a 1) => parse_is [w_raise] pb ⟨2, s, ps⟩ l2 W a 1 1 (Nat.le_refl _) (by omega) hr (h.ext x)
  rw [hi] at KI
  rw [hi2] at KJ
  have HP := Lib.hid h
  have HL2 := Lib.hid hl2
  have F1 := field_tk1
  clear hp h hi hi2 hfit hl2 he2 he
  go_enter Tryz.func139, Tryz.ntmps139
  go_wp2_with fail
  refine (KN.out _ (by (exact eX))).mono ?_
  rintro e w1 ⟨rfl, x1⟩
  have hZ1 := blk_top x1
  have y1 : Ext w w1 := by (exact eX)
  have hs1 := hZ1.lt
  go_wp2_with fail
  refine (KI.out _ (by (exact eX)) _ (row_four1 w1 _ _ _ _ _ _)).mono ?_
  rintro e w2 ⟨rfl, x2⟩
  have y2 : Ext w1 w2 := by (exact eX)
  have hT2 := blk_under x2
  go_wp2_with fail
  refine (KJ.out _ (by (exact eX)) _ (row_one0 w2 _ _)).mono ?_
  rintro e w3 ⟨rfl, x3⟩
  have y3 : Ext w2 w3 := by (exact eX)
  have hT3 := hT2.ext y3
  have t0 := hT3.cell 0
  have t2 := hT3.cell 2
  simp at t0 t2
  have y13 := (y1.trans y2).trans y3
  have HZ3 := Lib.hid ((hZ1.ext y2).ext y3)
  have Y13 := Lib.hid y13
  clear x1 hZ1 y1 x2 hT2 y2 x3 hT3 y3 y13
  go_wp2_with fail
  refine (parse_node _ _ _ _ _ _).mono ?_
  rintro e w4 ⟨rfl, x4⟩
  have HZ4 := Lib.hid (HZ3.out.ext x4)
  have hl40 := HZ4.out.lt
  have P4 := HP.out.ext (Y13.out.trans x4)
  go_wp2_with fail
  refine (KT.out _ (P4.alloc _)).mono ?_
  rintro e w6 ⟨rfl, x5, hp5⟩
  have hB6 := (Blk.new w4 _ _).nez x5 (by omega)
  have hZ6 := (HZ4.out.alloc _).nez x5 (by omega)
  have y5 : ExtX (· = pb) w w6 := ((ExtX.of (Y13.out.trans x4)).alloc _).trans x5
  obtain ⟨c0, c1, c2, c3, c4, c5, c6, c7⟩ := hB6.eight
  obtain ⟨f0, f1, f2, f3, f4, f5, f6, f7⟩ := hB6.frozen8
  obtain ⟨z0, z1, z2, z3, z4, z5, z6, z7⟩ := hZ6.eight
  obtain ⟨g0, g1, g2, g3, g4, g5, g6, g7⟩ := hZ6.frozen8
  have hlB := hB6.lt
  have hlZ := hZ6.lt
  have HL := Lib.hid (Laid8.leaf (i := 4) (e := .string s) hZ6 HFT.out (hp5 HL2.out) y5 hlt hl40)
  have hne : w4.heap.size ≠ w.heap.size := by omega
  have hne' : w.heap.size ≠ w4.heap.size := by omega
  clear hB6 hZ6 x5 x4 P4 hp5 y5 t0 t2
  go_wp2_with fail
  exact HL.out.ret (fun w2 r0 r1 r2 r3 r4 r5 r6 r7 => by simp [results, Tryz.results139, go_sem, r0, r1, r2, r3, r4, r5, r6, r7]) rfl
end Go.Proofs.YtaioeailgknfjaaGreatDoor
