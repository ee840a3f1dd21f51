/- Part 3 of the proof of RowParseIs: walks of functions, and laws in plain Lean; no condition of ours. -/
import Derived.Test.YtaioeailgknfjaaGreatDoorPk2
/- The walk of parse.unary: a sign or a word ahead; raise. The walk of parse.unary: raise. The walk of parse.unary: numbers and names. -/
namespace Go.Proofs.YtaioeailgknfjaaGreatDoor
open Go Go.RowKit Go.Sort

theorem row_four1 (w : World) (o : Obj) (x y z u : ByteArray) (t : TypeId) : IsRow ((w.alloc o).alloc (.cells #[.string x, .string y, .string z, .string u] t)) (vstr [x, y, z, u]) (some ⟨w.heap.size + 1, 0, none⟩) 4 := row_new1 w o t (vstr [x, y, z, u])
theorem isT_pre {l : List Tk} (h : isT [s_bang, w_ref, w_fst, w_snd] l = true) : preP (textT l) = preK (textT l) := by
  obtain ⟨t, r, rfl, -, hx, -⟩ := isT_ne h
  exact preP_K ((inB_iff _ _).2 hx)
theorem preK_fits {x : ByteArray} {p : Int} (p0 : -9223372036854775808 ≤ p) (p1 : p ≤ 9223372036854775807) : (hd0 (preK x) p).Fits := by
  have := preK_bound x
  exact hd0_fits (by omega) (by omega) p0 p1
theorem Prs.fits {w : World} {pb : Nat} {t : Tk} {l : List Tk} (h : Prs w pb (t :: l)) : t.Fits := by
  obtain ⟨_, _, _, _, _, -, -, -, -, hf, -⟩ := h.open_
  exact hf
set_option maxRecDepth 8000 in
set_option maxHeartbeats 8000000 in
theorem parse_unary_pre (f : Nat) (hU : Does 139 .unary f) (pb : Nat) (tk : Tk) (l2 : List Tk) (r : Res Tm) (w : World) (h : Prs w pb (tk :: l2)) (he : Ended (tk :: l2)) (hi : isT [s_bang, w_ref, w_fst, w_snd] (tk :: l2) = true) (hp : parseF (f + 1) .unary (tk :: l2) = some r) :
    Calls Tryz.prog 139 #[.pointer (some ⟨pb, 0, none⟩)] w (RetP pb w (IsNew w.heap.size) r) := by
  have hlt := h.lt
  have hp2 : andThen (parseF f .unary l2) (fun a l1 => some (.ok (.mk (hd0 (preK tk.text) tk.pos) [a], l1))) = some r := by
    unfold parseF at hp
    rw [if_pos hi] at hp
    exact hp
  have hfit := h.fits
  have hpos0 := hfit.p0
  have hpos1 := hfit.p1
  obtain ⟨hl2, he2⟩ := he.tail_ne (isT_kind hi)
  have hpre : preP tk.text = preK tk.text := isT_pre hi
  have KX := Lib.hid fun W => parse_prefix tk.text W
  rw [hpre] at KX
  have HPF := Lib.hid (preK_fits (x := tk.text) hpos0 hpos1)
  have KN := Lib.hid fun W (x : Ext w W) => parse_now pb tk l2 W (h.ext x)
  have KT := Lib.hid fun W (x : Ext w W) => parse_take pb tk l2 W (h.ext x)
  have KI := Lib.hid fun W (x : Ext w W) (a : Option Addr) (hr : IsRow W (vstr [s_bang, w_ref, w_fst, w_snd]) a 4) => parse_is [s_bang, w_ref, w_fst, w_snd] pb tk l2 W a 4 4 (Nat.le_refl _) (by omega) hr (h.ext x)
  rw [hi] at KI
  have HPM := Lib.hid hp2
  have HL2 := Lib.hid hl2
  have HE2 := Lib.hid he2
  have HU := Lib.hid hU
  clear hp hp2 h hi hfit hl2 he2 hpre hU
  generalize preK tk.text = kk at *
  go_enter Tryz.func139, Tryz.ntmps139
  go_wp2_with fail
  refine (KN.out _ (by (exact eX))).mono ?_
  rintro e w1 ⟨rfl, x1⟩
  have hZ1 := blk_top x1
  have y1 : Ext w w1 := by (exact eX)
  have hs1 := hZ1.lt
  go_wp2_with fail
  refine (KI.out _ (by (exact eX)) _ (row_four1 w1 _ _ _ _ _ _)).mono ?_
  rintro e w2 ⟨rfl, x2⟩
  have y2 : Ext w1 w2 := by (exact eX)
  have hT2 := blk_under x2
  have hZ2 := hZ1.ext y2
  go_wp2_with fail
  refine (KT.out _ (y1.trans y2)).mono ?_
  rintro e W4 ⟨rfl, x4, hp4⟩
  have P4 := hp4 HL2.out
  have hT4 := hT2.nez x4 (by omega)
  have hZ4 := hZ2.nez x4 (by omega)
  have y4 : ExtX (· = pb) w W4 := (ExtX.of (y1.trans y2)).trans x4
  have hl40 : w.heap.size < W4.heap.size := hZ4.lt
  have hne1 : ¬ (w1.heap.size = pb ∨ w1.heap.size = w.heap.size) := by omega
  have n1 := fun W (h : ExtX (fun b => b = pb ∨ b = w.heap.size) W4 W) => (hT4.extx h hne1).cell 1
  have n2 := fun W (h : ExtX (fun b => b = pb ∨ b = w.heap.size) W4 W) => (hT4.extx h hne1).cell 2
  simp at n1 n2
  have HZ4 := Lib.hid hZ4
  have HP4 := Lib.hid P4
  have Y4 := Lib.hid y4
  clear x1 hZ1 y1 x2 y2 hT2 hZ2 x4 hp4 P4 hZ4 y4
  cases e5 : parseF f .unary l2 with
  | none => have := HPM.out; rw [e5] at this; cases this
  | some r5 =>
    have KP5 := Lib.hid fun W (hP : Prs W pb l2) => HU.out pb W l2 r5 hP HE2.out e5
    have hpm := HPM.out
    rw [e5] at hpm
    cases r5 with
    | error l' =>
      cases hpm
      clear e5
      go_upto_region 4 with fail
      refine wp_region_held_drew (S := fun w' => ExtX (fun b => b = pb ∨ b = w.heap.size) W4 w') (by kernel_rfl) (by (try dsimp only); (exact xX)) (fun hHeld => ?_)
      refine tK 0 (v := ?_) ?_ ?_;rotate_left;(focus (intro w hSw;(try dsimp only at hSw);go_simp;(try with_reducible rfl)));try simp only [Act.put,pA,pB,pC]
      refine tK 1 (v := ?_) ?_ ?_;rotate_left;(focus (intro w hSw;(try dsimp only at hSw);go_simp;(try with_reducible rfl)));try simp only [Act.put,pA,pB,pC]
      refine tK 3 (v := ?_) ?_ ?_;rotate_left;(focus (intro w hSw;(try dsimp only at hSw);go_simp;(try with_reducible rfl)));try simp only [Act.put,pA,pB,pC]
      refine tK 4 (v := ?_) ?_ ?_;rotate_left;(focus (intro w hSw;(try dsimp only at hSw);go_simp;(try with_reducible rfl)));try simp only [Act.put,pA,pB,pC]
      refine tK 5 (v := ?_) ?_ ?_;rotate_left;(focus (intro w hSw;(try dsimp only at hSw);go_simp;(try with_reducible rfl)));try simp only [Act.put,pA,pB,pC]
      refine held_do 2 rfl (by kernel_rfl) (by rfl) (fun K hK => ?_); go_simp; (first | (go_at_call 150; refine (KX.out _).mono ?_; rintro e w7 ⟨rfl, rfl⟩) | (refine (KP5.out _ (HP4.out.ext (by (exact eX)))).mono ?_; intro e w5 hh; obtain ⟨rfl, x5⟩ := hh.error; exact ⟨rfl, Y4.out.trans ((by (exact xX) : ExtX (· = pb) W4 _).trans x5), rfl⟩)); (try (focus (go_wp2_with fail))); refine hK.out _ _ (by (try dsimp only); (exact xX)) (fun hHeld => ?_); clear hK K; try simp only [Act.put,pA,pB,pC]
      refine held_do 6 rfl (by kernel_rfl) (by rfl) (fun K hK => ?_); go_simp; (first | (refine (KP5.out _ (HP4.out.ext (by (exact eX)))).mono ?_; intro e w5 hh; obtain ⟨rfl, x5⟩ := hh.error; exact ⟨rfl, Y4.out.trans ((by (exact xX) : ExtX (· = pb) W4 _).trans x5), rfl⟩))
    | ok p5 =>
      obtain ⟨⟨xb, kb⟩, l3⟩ := p5
      rw [andThen_ok] at hpm
      cases hpm
      clear e5
      go_upto_region 4 with fail
      refine wp_region_held_drew (S := fun w' => ExtX (fun b => b = pb ∨ b = w.heap.size) W4 w') (by kernel_rfl) (by (try dsimp only); (exact xX)) (fun hHeld => ?_)
      refine tK 0 (v := ?_) ?_ ?_;rotate_left;(focus (intro w hSw;(try dsimp only at hSw);go_simp;(try with_reducible rfl)));try simp only [Act.put,pA,pB,pC]
      refine tK 1 (v := ?_) ?_ ?_;rotate_left;(focus (intro w hSw;(try dsimp only at hSw);go_simp;(try with_reducible rfl)));try simp only [Act.put,pA,pB,pC]
      refine tK 3 (v := ?_) ?_ ?_;rotate_left;(focus (intro w hSw;(try dsimp only at hSw);go_simp;(try with_reducible rfl)));try simp only [Act.put,pA,pB,pC]
      refine tK 4 (v := ?_) ?_ ?_;rotate_left;(focus (intro w hSw;(try dsimp only at hSw);go_simp;(try with_reducible rfl)));try simp only [Act.put,pA,pB,pC]
      refine tK 5 (v := ?_) ?_ ?_;rotate_left;(focus (intro w hSw;(try dsimp only at hSw);go_simp;(try with_reducible rfl)));try simp only [Act.put,pA,pB,pC]
      refine held_do 2 rfl (by kernel_rfl) (by rfl) (fun K hK => ?_); go_simp; (first | (go_at_call 150; refine (KX.out _).mono ?_; rintro e w7 ⟨rfl, rfl⟩) | (refine (KP5.out _ (HP4.out.ext (by (exact eX)))).mono ?_; intro e w5 hh; obtain ⟨v5, rfl, ⟨ab, nb, cb, rfl, fb, b1, b2, hTb⟩, hp5, x5⟩ := hh.ok; have y5 : ExtX (· = pb) W4 w5 := (by (exact xX) : ExtX (· = pb) W4 _).trans x5; have z5 := y5.mono (A' := fun b => b = pb ∨ b = w.heap.size) (fun b h => .inl h); have hTb2 : IsTmsA (fun b => b ≤ w.heap.size) w5 kb ab nb := hTb.off (fun b _ hb => (by have hb : b ≤ w.heap.size := hb; simp; omega)); have HTb2 := Lib.hid hTb2; have hs5 := y5.size; clear hTb hTb2 hh)); (try (focus (go_wp2_with fail))); refine hK.out _ _ (by (try dsimp only); (exact xX)) (fun hHeld => ?_); clear hK K; try simp only [Act.put,pA,pB,pC]
      refine held_do 6 rfl (by kernel_rfl) (by rfl) (fun K hK => ?_); go_simp; (first | (refine (KP5.out _ (HP4.out.ext (by (exact eX)))).mono ?_; intro e w5 hh; obtain ⟨v5, rfl, ⟨ab, nb, cb, rfl, fb, b1, b2, hTb⟩, hp5, x5⟩ := hh.ok; have y5 : ExtX (· = pb) W4 w5 := (by (exact xX) : ExtX (· = pb) W4 _).trans x5; have z5 := y5.mono (A' := fun b => b = pb ∨ b = w.heap.size) (fun b h => .inl h); have hTb2 : IsTmsA (fun b => b ≤ w.heap.size) w5 kb ab nb := hTb.off (fun b _ hb => (by have hb : b ≤ w.heap.size := hb; simp; omega)); have HTb2 := Lib.hid hTb2; have hs5 := y5.size; clear hTb hTb2 hh)); (try (focus (go_wp2_with fail))); refine hK.out _ _ (by (try dsimp only); (exact xX)) (fun hHeld => ?_); clear hK K; try simp only [Act.put,pA,pB,pC]
      refine held_do 7 rfl (by kernel_rfl) (by rfl) (fun K hK => ?_); go_simp; refine hK.out _ _ (by (try dsimp only); (exact xX)) (fun hHeld => ?_); clear hK K; try simp only [Act.put,pA,pB,pC]
      refine held_do 8 rfl (by kernel_rfl) (by rfl) (fun K hK => ?_); go_simp; (first | (go_at_call 58; refine (parse_node _ _ _ _ _ _).mono ?_; rintro e w6 ⟨rfl, x6⟩; have hG6 := blk_top x6; have y56 : Ext w5 w6 := (by (exact eX) : Ext w5 _).trans x6; have y6 : ExtX (· = pb) W4 w6 := ExtX.then_ y5 y56; have z6 := y6.mono (A' := fun b => b = pb ∨ b = w.heap.size) (fun b h => .inl h); have hB6 := HZ4.out.nez y6 (by omega); obtain ⟨d0, d1, d2, d3, d4, d5, d6, d7⟩ := hB6.eight; obtain ⟨f0, f1, f2, f3, f4, f5, f6, f7⟩ := hB6.frozen8; have hl6 := hB6.lt; have HL6 : Hid (Laid8 pb w w6 (hd0 kk tk.pos) [.mk xb kb] (some ⟨w5.heap.size, 0, none⟩) 1 1 l3) := Lib.hid ⟨hB6, HPF.out, Nat.le_refl _, by omega, one_row (A := fun b => b ≤ w.heap.size) y56 b1 b2 fb HTb2.out (by show ¬ w5.heap.size ≤ w.heap.size; omega) hG6, hp5.ext y56, Y4.out.trans y6, hlt⟩; clear hB6 hG6) | (refine (KP5.out _ (HP4.out.ext (by (exact eX)))).mono ?_; intro e w5 hh; obtain ⟨v5, rfl, ⟨ab, nb, cb, rfl, fb, b1, b2, hTb⟩, hp5, x5⟩ := hh.ok; have y5 : ExtX (· = pb) W4 w5 := (by (exact xX) : ExtX (· = pb) W4 _).trans x5; have z5 := y5.mono (A' := fun b => b = pb ∨ b = w.heap.size) (fun b h => .inl h); have hTb2 : IsTmsA (fun b => b ≤ w.heap.size) w5 kb ab nb := hTb.off (fun b _ hb => (by have hb : b ≤ w.heap.size := hb; simp; omega)); have HTb2 := Lib.hid hTb2; have hs5 := y5.size; clear hTb hTb2 hh)); (try (focus (go_wp2_with fail))); refine hK.out _ _ (by (try dsimp only); (exact xX)) (fun hHeld => ?_); clear hK K; try simp only [Act.put,pA,pB,pC]
      refine held_do 9 rfl (by kernel_rfl) (by rfl) (fun K hK => ?_); go_simp; refine hK.out _ _ (by (try dsimp only); (exact xX)) (fun hHeld => ?_); clear hK K; try simp only [Act.put,pA,pB,pC]
      refine wpAnyH_done (by kernel_rfl) ?_ _
      all_goals
        go_wp2_with fail
        exact HL6.out.ret (fun w2 r0 r1 r2 r3 r4 r5 r6 r7 => by simp [results, Tryz.results139, go_sem, r0, r1, r2, r3, r4, r5, r6, r7]) rfl
end Go.Proofs.YtaioeailgknfjaaGreatDoor
namespace Go.Proofs.YtaioeailgknfjaaGreatDoor
open Go Go.RowKit Go.Sort

/-- A term that was laid in a block of its own, to be handed on behind another store. -/
structure Mid8 (pb : Nat) (w W : World) (B : Nat) (c0 c1 c2 c3 c4 c5 c6 : Value) (ks : List Tm) (a : Option Addr) (n c : Nat) (l : List Tk) : Prop where
  z : Blk W w.heap.size 28 #[.int .u8 0, .int .u8 0, .int .i64 0, .int .i64 0, .string ⟨#[]⟩, .string ⟨#[]⟩, .string ⟨#[]⟩, .slice none 0 0]
  b : Blk W B 28 #[c0, c1, c2, c3, c4, c5, c6, .slice a n c]
  tms : IsTmsA (AvP w.heap.size B) W ks a n
  prs : Prs W pb l
  ext : ExtX (· = pb) w W
  lt : pb < w.heap.size
  up : w.heap.size < B
theorem Mid8.of {pb : Nat} {w w6 : World} {B5 : Nat} {y0 y1 y2 y3 y4 y5 y6 : Value} {cs : Value × Value × Value × Value × Value × Value × Value × Value} {ks : List Tm} {a : Option Addr} {n c : Nat} {l : List Tk} (hz : Blk w6 w.heap.size 28 #[.int .u8 0, .int .u8 0, .int .i64 0, .int .i64 0, .string ⟨#[]⟩, .string ⟨#[]⟩, .string ⟨#[]⟩, .slice none 0 0])
    (hq : Blk w6 B5 28 #[cs.1, cs.2.1, cs.2.2.1, cs.2.2.2.1, cs.2.2.2.2.1, cs.2.2.2.2.2.1, cs.2.2.2.2.2.2.1, cs.2.2.2.2.2.2.2]) (ht : IsTmsA (AvP w.heap.size B5) w6 ks a n) (hp : Prs w6 pb l) (hx : ExtX (· = pb) w w6) (hlt : pb < w.heap.size) (hB : w.heap.size < B5) :
    Mid8 pb w ((((((((w6.setCell ⟨B5, 0, none⟩ y0).setCell ⟨B5, 1, none⟩ y1).setCell ⟨B5, 2, none⟩ y2).setCell ⟨B5, 3, none⟩ y3).setCell ⟨B5, 4, none⟩ y4).setCell ⟨B5, 5, none⟩ y5).setCell ⟨B5, 6, none⟩ y6).setCell ⟨B5, 7, none⟩ (.slice a n c)) B5 y0 y1 y2 y3 y4 y5 y6 ks a n c l :=
  ⟨hz.far8 (by omega), hq.lay8, ht.set8 (.inr rfl), hp.set8 (by omega), hx.set8 (.inr (by omega)), hlt, hB⟩
theorem Mid8.six {pb : Nat} {w W : World} {B : Nat} (e : Value) {c0 c1 c2 c3 c4 c5 c6 : Value} {ks : List Tm} {a : Option Addr} {n c : Nat} {l : List Tk} (h : Mid8 pb w W B c0 c1 c2 c3 c4 c5 c6 ks a n c l) :
    Mid8 pb w (W.setCell ⟨B, 6, none⟩ e) B c0 c1 c2 c3 c4 c5 e ks a n c l :=
  have hu := h.up
  have hl := h.lt
  ⟨h.z.far (p := ⟨B, 6, none⟩) (by show w.heap.size ≠ B; omega) e, by have := h.b.set_ 6 e; simpa using this, h.tms.setCell (p := ⟨B, 6, none⟩) (.inr rfl) e, h.prs.far (p := ⟨B, 6, none⟩) (by show pb < B; omega) e, h.ext.setCell (p := ⟨B, 6, none⟩) (.inr (by show w.heap.size ≤ B; omega)) e, h.lt, h.up⟩
theorem Mid8.done {pb : Nat} {w W : World} {B : Nat} {c0 c1 c2 c3 c4 c5 c6 : Value} {x : Hd} {ks : List Tm} {a : Option Addr} {n c : Nat} {l : List Tk} (h : Mid8 pb w W B c0 c1 c2 c3 c4 c5 c6 ks a n c l) (hf : x.Fits) (h1 : n ≤ c) (h2 : c ≤ 9223372036854775807) :
    Laid8 pb w W x ks a n c l := ⟨h.z, hf, h1, h2, h.tms.off fun b _ hb => .inl hb, h.prs, h.ext, h.lt⟩
theorem hd15_fits {p : Int} {x : ByteArray} (p0 : -9223372036854775808 ≤ p) (p1 : p ≤ 9223372036854775807) (hx : x.size ≤ 9223372036854775807) : ({ hd0 15 p with exn := x } : Hd).Fits :=
  ⟨by simp [hd0], by simp [hd0], by simp [hd0], by simp [hd0], p0, p1, by simp [hd0], by simp [hd0], by simp [hd0], by simp [hd0], hx⟩
set_option maxRecDepth 8000 in
set_option maxHeartbeats 8000000 in
theorem parse_unary_raise (f : Nat) (hU : Does 139 .unary f) (pb : Nat) (tk : Tk) (l2 : List Tk) (r : Res Tm) (w : World) (h : Prs w pb (tk :: l2)) (he : Ended (tk :: l2)) (hi : isT [s_bang, w_ref, w_fst, w_snd] (tk :: l2) = false) (hi2 : isT [w_raise] (tk :: l2) = true) (hp : parseF (f + 1) .unary (tk :: l2) = some r) :
    Calls Tryz.prog 139 #[.pointer (some ⟨pb, 0, none⟩)] w (RetP pb w (IsNew w.heap.size) r) := by
  have hlt := h.lt
  have hp2 : andThen (some (getK 3 l2)) (fun x l1 => andThen (parseF f .unary l1) fun a l2 => some (.ok (.mk { hd0 15 tk.pos with exn := x } [a], l2))) = some r := by
    unfold parseF at hp
    rw [if_neg (by rw [hi]; simp), if_pos hi2] at hp
    exact hp
  have hfit := h.fits
  have hpos0 := hfit.p0
  have hpos1 := hfit.p1
  obtain ⟨hl2, he2⟩ := he.tail_ne (isT_kind hi2)
  have KN := Lib.hid fun W (x : Ext w W) => parse_now pb tk l2 W (h.ext x)
  have KT := Lib.hid fun W (x : Ext w W) => parse_take pb tk l2 W (h.ext x)
  have KI := Lib.hid fun W (x : Ext w W) (a : Option Addr) (hr : IsRow W (vstr [s_bang, w_ref, w_fst, w_snd]) a 4) => parse_is [s_bang, w_ref, w_fst, w_snd] pb tk l2 W a 4 4 (Nat.le_refl _) (by omega) hr (h.ext x)
  have KJ := Lib.hid fun W (x : Ext w W) (a : Option Addr) (hr : IsRow W (vstr [w_raise]) a 1) => parse_is [w_raise] pb tk l2 W a 1 1 (Nat.le_refl _) (by omega) hr (h.ext x)
  rw [hi] at KI
  rw [hi2] at KJ
  have HPM := Lib.hid hp2
  have HL2 := Lib.hid hl2
  have HE2 := Lib.hid he2
  have HU := Lib.hid hU
  have KE := Lib.hid fun W (hP : Prs W pb l2) => parse_exn pb l2 W hP he2
  clear hp hp2 h hi hi2 hfit hl2 he2 hU
  go_enter Tryz.func139, Tryz.ntmps139
  go_wp2_with fail
  refine (KN.out _ (by (exact eX))).mono ?_
  rintro e w1 ⟨rfl, x1⟩
  have hZ1 := blk_top x1
  have y1 : Ext w w1 := by (exact eX)
  have hs1 := hZ1.lt
  go_wp2_with fail
  refine (KI.out _ (by (exact eX)) _ (row_four1 w1 _ _ _ _ _ _)).mono ?_
  rintro e w2 ⟨rfl, x2⟩
  have y2 : Ext w1 w2 := by (exact eX)
  have hT2 := blk_under x2
  have hZ2 := hZ1.ext y2
  go_wp2_with fail
  refine (KJ.out _ (by (exact eX)) _ (row_one0 w2 _ _)).mono ?_
  rintro e w3 ⟨rfl, x3⟩
  have y3 : Ext w2 w3 := by (exact eX)
  have hT3 := hT2.ext y3
  have hZ3 := hZ2.ext y3
  go_wp2_with fail
  refine (KT.out _ ((y1.trans y2).trans y3)).mono ?_
  rintro e w4 ⟨rfl, x4, hp4⟩
  have P4 := hp4 HL2.out
  have hT4 := hT3.nez x4 (by omega)
  have hZ4 := hZ3.nez x4 (by omega)
  have y4 : ExtX (· = pb) w w4 := (ExtX.of ((y1.trans y2).trans y3)).trans x4
  have HZ4 := Lib.hid hZ4
  have HT4 := Lib.hid hT4
  have HP4 := Lib.hid P4
  have Y4 := Lib.hid y4
  clear x1 hZ1 y1 x2 y2 hT2 hZ2 x4 hp4 P4 hZ4 y4 x3 y3 hT3 hZ3 hT4
  go_wp2_with fail
  refine (KE.out _ HP4.out).mono ?_
  intro e W4 hh
  cases hg : getK 3 l2 with
  | error l' =>
    rw [hg] at hh
    obtain ⟨rfl, x5⟩ := hh.error
    have hpm := HPM.out
    rw [hg] at hpm
    cases hpm
    exact ⟨rfl, Y4.out.trans x5, rfl⟩
  | ok q =>
  obtain ⟨xn, l3⟩ := q
  rw [hg] at hh
  obtain ⟨v, rfl, hv, P5, x5⟩ := hh.ok
  have hv : v = .string xn := hv
  subst hv
  have hxs : xn.size ≤ 9223372036854775807 := by
    obtain ⟨t, e, -, rfl⟩ := getK_inv (k := 3) (l := l2) (l' := l3) (x := xn) (by rw [hg])
    subst e
    exact P5.elim fun _ _ => HP4.out.fits.text1
  have he3 : Ended l3 := by have := getK_behind HE2.out (show (3 : Int) ≠ 6 by omega); rw [hg] at this; exact this.1
  have hpm := HPM.out
  rw [hg] at hpm
  have hpm : andThen (parseF f .unary l3) (fun a l2 => some (.ok (.mk { hd0 15 tk.pos with exn := xn } [a], l2))) = some r := hpm
  have hZ5 := HZ4.out.nez x5 (by omega)
  have hT5 := HT4.out.nez x5 (by omega)
  have y5 : ExtX (· = pb) w W4 := Y4.out.trans x5
  have hl40 : w.heap.size < W4.heap.size := hZ5.lt
  have hne1 : ¬ (w1.heap.size = pb) := by omega
  have n2 := fun W (h : ExtX (· = pb) W4 W) => (hT5.extx h hne1).cell 2
  simp at n2
  have HPM5 := Lib.hid hpm
  have HZ5 := Lib.hid hZ5
  have HP5 := Lib.hid P5
  have Y5 := Lib.hid y5
  have HE3 := Lib.hid he3
  clear hh hg x5 hpm hZ5 hT5 y5 P5 he3
  cases e5 : parseF f .unary l3 with
  | none => have := HPM5.out; rw [e5] at this; cases this
  | some r5 =>
    have KP5 := Lib.hid fun W (hP : Prs W pb l3) => HU.out pb W l3 r5 hP HE3.out e5
    have hpm := HPM5.out
    rw [e5] at hpm
    cases r5 with
    | error l' =>
      cases hpm
      clear e5
      go_upto_region 8 with fail
      refine wp_region_held_drew (S := fun w' => ExtX (· = pb) W4 w') (by kernel_rfl) (by (try dsimp only); (exact xX)) (fun hHeld => ?_)
      refine tK 0 (v := ?_) ?_ ?_;rotate_left;(focus (intro w hSw;(try dsimp only at hSw);go_simp;(try with_reducible rfl)));try simp only [Act.put,pA,pB,pC]
      refine tK 1 (v := ?_) ?_ ?_;rotate_left;(focus (intro w hSw;(try dsimp only at hSw);go_simp;(try with_reducible rfl)));try simp only [Act.put,pA,pB,pC]
      refine tK 2 (v := ?_) ?_ ?_;rotate_left;(focus (intro w hSw;(try dsimp only at hSw);go_simp;(try with_reducible rfl)));try simp only [Act.put,pA,pB,pC]
      refine wpAnyH_ready (rs := [3, 6]) (by kernel_rfl) (by simp) ?_
      refine held_cons 3 rfl (by rfl) (fun K hK => ?_) (held_cons 6 rfl (by rfl) (fun K hK => ?_) AllReadyH.nil)
      go_simp; (first | (refine (KP5.out _ (HP5.out.ext (by (exact eX)))).mono ?_; intro e w5 hh; obtain ⟨rfl, x5⟩ := hh.error; exact ⟨rfl, Y5.out.trans ((by (exact xX) : ExtX (· = pb) W4 _).trans x5), rfl⟩))
      go_simp; refine hK.out _ _ (by (try dsimp only); (exact xX)) (fun hHeld => ?_); clear hK K; try simp only [Act.put,pA,pB,pC]
      refine held_do 3 rfl (by kernel_rfl) (by rfl) (fun K hK => ?_); go_simp; (first | (refine (KP5.out _ (HP5.out.ext (by (exact eX)))).mono ?_; intro e w5 hh; obtain ⟨rfl, x5⟩ := hh.error; exact ⟨rfl, Y5.out.trans ((by (exact xX) : ExtX (· = pb) W4 _).trans x5), rfl⟩))
      rotate_left 0
    | ok p5 =>
      obtain ⟨⟨xb, kb⟩, l4⟩ := p5
      rw [andThen_ok] at hpm
      cases hpm
      clear e5
      go_upto_region 8 with fail
      refine wp_region_held_drew (S := fun w' => ExtX (· = pb) W4 w') (by kernel_rfl) (by (try dsimp only); (exact xX)) (fun hHeld => ?_)
      refine tK 0 (v := ?_) ?_ ?_;rotate_left;(focus (intro w hSw;(try dsimp only at hSw);go_simp;(try with_reducible rfl)));try simp only [Act.put,pA,pB,pC]
      refine tK 1 (v := ?_) ?_ ?_;rotate_left;(focus (intro w hSw;(try dsimp only at hSw);go_simp;(try with_reducible rfl)));try simp only [Act.put,pA,pB,pC]
      refine tK 2 (v := ?_) ?_ ?_;rotate_left;(focus (intro w hSw;(try dsimp only at hSw);go_simp;(try with_reducible rfl)));try simp only [Act.put,pA,pB,pC]
      refine wpAnyH_ready (rs := [3, 6]) (by kernel_rfl) (by simp) ?_
      refine held_cons 3 rfl (by rfl) (fun K hK => ?_) (held_cons 6 rfl (by rfl) (fun K hK => ?_) AllReadyH.nil)
      go_simp; (first | (refine (KP5.out _ (HP5.out.ext (by (exact eX)))).mono ?_; intro e w5 hh; obtain ⟨v5, rfl, ⟨ab, nb, cb, rfl, fb, b1, b2, hTb⟩, hp5, x5⟩ := hh.ok; have y5 : ExtX (· = pb) W4 w5 := (by (exact xX) : ExtX (· = pb) W4 _).trans x5; have hTb2 : IsTmsA (fun b => b ≤ w.heap.size) w5 kb ab nb := hTb.off (fun b _ hb => (by have hb : b ≤ w.heap.size := hb; simp; omega)); have HTb2 := Lib.hid hTb2; have hs5 := y5.size; (try (have hQ5 : Blk w5 W4.heap.size 28 #[.int .u8 0, .int .u8 0, .int .i64 0, .int .i64 0, .string ⟨#[]⟩, .string ⟨#[]⟩, .string ⟨#[]⟩, .slice none 0 0] := (Blk.new W4 28 #[.int .u8 0, .int .u8 0, .int .i64 0, .int .i64 0, .string ⟨#[]⟩, .string ⟨#[]⟩, .string ⟨#[]⟩, .slice none 0 0]).drew.nez x5 (by omega); have HTA := Lib.hid (show IsTmsA (AvP w.heap.size W4.heap.size) w5 kb ab nb from hTb.off (fun b _ hb => by rcases hb with hb | hb <;> (simp; omega))); have HQ5 := Lib.hid hQ5; have hl45 := hQ5.lt; clear hQ5)); clear hTb hTb2 hh)); (try (focus (go_wp2_with fail))); refine hK.out _ _ (by (try dsimp only); (exact xX)) (fun hHeld => ?_); clear hK K; try simp only [Act.put,pA,pB,pC]
      refine wpAnyH_ready (rs := [4, 6]) (by kernel_rfl) (by simp) ?_
      refine held_cons 4 rfl (by rfl) (fun K hK => ?_) (held_cons 6 rfl (by rfl) (fun K hK => ?_) AllReadyH.nil)
      go_simp; refine hK.out _ _ (by (try dsimp only); (exact xX)) (fun hHeld => ?_); clear hK K; try simp only [Act.put,pA,pB,pC]
      refine wpAnyH_ready (rs := [5, 6]) (by kernel_rfl) (by simp) ?_
      refine held_cons 5 rfl (by rfl) (fun K hK => ?_) (held_cons 6 rfl (by rfl) (fun K hK => ?_) AllReadyH.nil)
      go_simp; (first | (refine (KP5.out _ (HP5.out.ext (by (exact eX)))).mono ?_; intro e w5 hh; obtain ⟨v5, rfl, ⟨ab, nb, cb, rfl, fb, b1, b2, hTb⟩, hp5, x5⟩ := hh.ok; have y5 : ExtX (· = pb) W4 w5 := (by (exact xX) : ExtX (· = pb) W4 _).trans x5; have hTb2 : IsTmsA (fun b => b ≤ w.heap.size) w5 kb ab nb := hTb.off (fun b _ hb => (by have hb : b ≤ w.heap.size := hb; simp; omega)); have HTb2 := Lib.hid hTb2; have hs5 := y5.size; (try (have hQ5 : Blk w5 W4.heap.size 28 #[.int .u8 0, .int .u8 0, .int .i64 0, .int .i64 0, .string ⟨#[]⟩, .string ⟨#[]⟩, .string ⟨#[]⟩, .slice none 0 0] := (Blk.new W4 28 #[.int .u8 0, .int .u8 0, .int .i64 0, .int .i64 0, .string ⟨#[]⟩, .string ⟨#[]⟩, .string ⟨#[]⟩, .slice none 0 0]).drew.nez x5 (by omega); have HTA := Lib.hid (show IsTmsA (AvP w.heap.size W4.heap.size) w5 kb ab nb from hTb.off (fun b _ hb => by rcases hb with hb | hb <;> (simp; omega))); have HQ5 := Lib.hid hQ5; have hl45 := hQ5.lt; clear hQ5)); clear hTb hTb2 hh) | (go_at_call 58; refine (parse_node _ _ _ _ _ _).mono ?_; rintro e w6 ⟨rfl, x6⟩; have y56 : Ext w5 w6 := (by (exact eX) : Ext w5 _).trans x6; have y6 : ExtX (· = pb) W4 w6 := ExtX.then_ y5 y56; have hB6 := HZ5.out.nez y6 (by omega); have HB6 := Lib.hid hB6; have hl6 := hB6.lt; have HP6 := Lib.hid (hp5.ext y56); have hs6 := y56.size; obtain ⟨d0, d1, d2, d3, d4, d5, d6, d7⟩ := hB6.eight; obtain ⟨f0, f1, f2, f3, f4, f5, f6, f7⟩ := hB6.frozen8; (first | (have HQ6 := Lib.hid (HQ5.out.ext y56); have HRW := Lib.hid (one_row (A := AvP w.heap.size W4.heap.size) y56 b1 b2 fb HTA.out (fun h => by rcases h with h | h <;> omega) (blk_top x6))) | (have HQ6 : Hid (Blk w6 w5.heap.size 28 #[.int .u8 0, .int .u8 0, .int .i64 0, .int .i64 0, .string ⟨#[]⟩, .string ⟨#[]⟩, .string ⟨#[]⟩, .slice none 0 0]) := Lib.hid (blk_under x6); have HRW := Lib.hid (one_row (A := AvP w.heap.size w5.heap.size) (g := w5.heap.size + 1) y56 b1 b2 fb (HTb2.out.off (fun b hb h => by rcases h with h | h; exact h; omega)) (fun h => by rcases h with h | h <;> omega) (by have h := blk_top x6; rw [World.size_alloc] at h; exact h))) | (have HQ6 : Hid (Blk w6 (w5.heap.size + 1) 28 #[.int .u8 0, .int .u8 0, .int .i64 0, .int .i64 0, .string ⟨#[]⟩, .string ⟨#[]⟩, .string ⟨#[]⟩, .slice none 0 0]) := Lib.hid (by have h := blk_top x6; rw [World.size_alloc] at h; exact h); have HRW := Lib.hid (one_row (A := AvP w.heap.size (w5.heap.size + 1)) (g := w5.heap.size) y56 b1 b2 fb (HTb2.out.off (fun b hb h => by rcases h with h | h; exact h; omega)) (fun h => by rcases h with h | h <;> omega) (blk_under x6))) | (have HRO := Lib.hid (one_row (A := fun b => b ≤ w.heap.size) y56 b1 b2 fb HTb2.out (by show ¬ w5.heap.size ≤ w.heap.size; omega) (blk_top x6)))); clear hB6; (try (have hl46 := HQ6.out.lt; obtain ⟨q0, q1, q2, q3, q4, q5, q6, q7⟩ := HQ6.out.eight; obtain ⟨p0, p1, p2, p3, p4, p5, p6, p7⟩ := HQ6.out.frozen8)))); (try (focus (go_wp2_with fail))); refine hK.out _ _ (by (try dsimp only); (exact xX)) (fun hHeld => ?_); clear hK K; try simp only [Act.put,pA,pB,pC]
      refine held_do 6 rfl (by kernel_rfl) (by rfl) (fun K hK => ?_); go_simp; refine hK.out _ _ (by (try dsimp only); (exact xX)) (fun hHeld => ?_); clear hK K; try simp only [Act.put,pA,pB,pC]
      refine held_do 7 rfl (by kernel_rfl) (by rfl) (fun K hK => ?_); go_simp; refine hK.out _ _ (by (try dsimp only); (exact xX)) (fun hHeld => ?_); clear hK K; try simp only [Act.put,pA,pB,pC]
      refine wpAnyH_done (by kernel_rfl) ?_ _
      rotate_left 1
      go_simp; refine hK.out _ _ (by (try dsimp only); (exact xX)) (fun hHeld => ?_); clear hK K; try simp only [Act.put,pA,pB,pC]
      refine held_do 5 rfl (by kernel_rfl) (by rfl) (fun K hK => ?_); go_simp; (first | (refine (KP5.out _ (HP5.out.ext (by (exact eX)))).mono ?_; intro e w5 hh; obtain ⟨v5, rfl, ⟨ab, nb, cb, rfl, fb, b1, b2, hTb⟩, hp5, x5⟩ := hh.ok; have y5 : ExtX (· = pb) W4 w5 := (by (exact xX) : ExtX (· = pb) W4 _).trans x5; have hTb2 : IsTmsA (fun b => b ≤ w.heap.size) w5 kb ab nb := hTb.off (fun b _ hb => (by have hb : b ≤ w.heap.size := hb; simp; omega)); have HTb2 := Lib.hid hTb2; have hs5 := y5.size; (try (have hQ5 : Blk w5 W4.heap.size 28 #[.int .u8 0, .int .u8 0, .int .i64 0, .int .i64 0, .string ⟨#[]⟩, .string ⟨#[]⟩, .string ⟨#[]⟩, .slice none 0 0] := (Blk.new W4 28 #[.int .u8 0, .int .u8 0, .int .i64 0, .int .i64 0, .string ⟨#[]⟩, .string ⟨#[]⟩, .string ⟨#[]⟩, .slice none 0 0]).drew.nez x5 (by omega); have HTA := Lib.hid (show IsTmsA (AvP w.heap.size W4.heap.size) w5 kb ab nb from hTb.off (fun b _ hb => by rcases hb with hb | hb <;> (simp; omega))); have HQ5 := Lib.hid hQ5; have hl45 := hQ5.lt; clear hQ5)); clear hTb hTb2 hh) | (go_at_call 58; refine (parse_node _ _ _ _ _ _).mono ?_; rintro e w6 ⟨rfl, x6⟩; have y56 : Ext w5 w6 := (by (exact eX) : Ext w5 _).trans x6; have y6 : ExtX (· = pb) W4 w6 := ExtX.then_ y5 y56; have hB6 := HZ5.out.nez y6 (by omega); have HB6 := Lib.hid hB6; have hl6 := hB6.lt; have HP6 := Lib.hid (hp5.ext y56); have hs6 := y56.size; obtain ⟨d0, d1, d2, d3, d4, d5, d6, d7⟩ := hB6.eight; obtain ⟨f0, f1, f2, f3, f4, f5, f6, f7⟩ := hB6.frozen8; (first | (have HQ6 := Lib.hid (HQ5.out.ext y56); have HRW := Lib.hid (one_row (A := AvP w.heap.size W4.heap.size) y56 b1 b2 fb HTA.out (fun h => by rcases h with h | h <;> omega) (blk_top x6))) | (have HQ6 : Hid (Blk w6 w5.heap.size 28 #[.int .u8 0, .int .u8 0, .int .i64 0, .int .i64 0, .string ⟨#[]⟩, .string ⟨#[]⟩, .string ⟨#[]⟩, .slice none 0 0]) := Lib.hid (blk_under x6); have HRW := Lib.hid (one_row (A := AvP w.heap.size w5.heap.size) (g := w5.heap.size + 1) y56 b1 b2 fb (HTb2.out.off (fun b hb h => by rcases h with h | h; exact h; omega)) (fun h => by rcases h with h | h <;> omega) (by have h := blk_top x6; rw [World.size_alloc] at h; exact h))) | (have HQ6 : Hid (Blk w6 (w5.heap.size + 1) 28 #[.int .u8 0, .int .u8 0, .int .i64 0, .int .i64 0, .string ⟨#[]⟩, .string ⟨#[]⟩, .string ⟨#[]⟩, .slice none 0 0]) := Lib.hid (by have h := blk_top x6; rw [World.size_alloc] at h; exact h); have HRW := Lib.hid (one_row (A := AvP w.heap.size (w5.heap.size + 1)) (g := w5.heap.size) y56 b1 b2 fb (HTb2.out.off (fun b hb h => by rcases h with h | h; exact h; omega)) (fun h => by rcases h with h | h <;> omega) (blk_under x6))) | (have HRO := Lib.hid (one_row (A := fun b => b ≤ w.heap.size) y56 b1 b2 fb HTb2.out (by show ¬ w5.heap.size ≤ w.heap.size; omega) (blk_top x6)))); clear hB6; (try (have hl46 := HQ6.out.lt; obtain ⟨q0, q1, q2, q3, q4, q5, q6, q7⟩ := HQ6.out.eight; obtain ⟨p0, p1, p2, p3, p4, p5, p6, p7⟩ := HQ6.out.frozen8)))); (try (focus (go_wp2_with fail))); refine hK.out _ _ (by (try dsimp only); (exact xX)) (fun hHeld => ?_); clear hK K; try simp only [Act.put,pA,pB,pC]
      refine held_do 7 rfl (by kernel_rfl) (by rfl) (fun K hK => ?_); go_simp; refine hK.out _ _ (by (try dsimp only); (exact xX)) (fun hHeld => ?_); clear hK K; try simp only [Act.put,pA,pB,pC]
      refine wpAnyH_done (by kernel_rfl) ?_ _
      rotate_left 1
      go_simp; refine hK.out _ _ (by (try dsimp only); (exact xX)) (fun hHeld => ?_); clear hK K; try simp only [Act.put,pA,pB,pC]
      refine held_do 4 rfl (by kernel_rfl) (by rfl) (fun K hK => ?_); go_simp; refine hK.out _ _ (by (try dsimp only); (exact xX)) (fun hHeld => ?_); clear hK K; try simp only [Act.put,pA,pB,pC]
      refine held_do 5 rfl (by kernel_rfl) (by rfl) (fun K hK => ?_); go_simp; (first | (refine (KP5.out _ (HP5.out.ext (by (exact eX)))).mono ?_; intro e w5 hh; obtain ⟨v5, rfl, ⟨ab, nb, cb, rfl, fb, b1, b2, hTb⟩, hp5, x5⟩ := hh.ok; have y5 : ExtX (· = pb) W4 w5 := (by (exact xX) : ExtX (· = pb) W4 _).trans x5; have hTb2 : IsTmsA (fun b => b ≤ w.heap.size) w5 kb ab nb := hTb.off (fun b _ hb => (by have hb : b ≤ w.heap.size := hb; simp; omega)); have HTb2 := Lib.hid hTb2; have hs5 := y5.size; (try (have hQ5 : Blk w5 W4.heap.size 28 #[.int .u8 0, .int .u8 0, .int .i64 0, .int .i64 0, .string ⟨#[]⟩, .string ⟨#[]⟩, .string ⟨#[]⟩, .slice none 0 0] := (Blk.new W4 28 #[.int .u8 0, .int .u8 0, .int .i64 0, .int .i64 0, .string ⟨#[]⟩, .string ⟨#[]⟩, .string ⟨#[]⟩, .slice none 0 0]).drew.nez x5 (by omega); have HTA := Lib.hid (show IsTmsA (AvP w.heap.size W4.heap.size) w5 kb ab nb from hTb.off (fun b _ hb => by rcases hb with hb | hb <;> (simp; omega))); have HQ5 := Lib.hid hQ5; have hl45 := hQ5.lt; clear hQ5)); clear hTb hTb2 hh) | (go_at_call 58; refine (parse_node _ _ _ _ _ _).mono ?_; rintro e w6 ⟨rfl, x6⟩; have y56 : Ext w5 w6 := (by (exact eX) : Ext w5 _).trans x6; have y6 : ExtX (· = pb) W4 w6 := ExtX.then_ y5 y56; have hB6 := HZ5.out.nez y6 (by omega); have HB6 := Lib.hid hB6; have hl6 := hB6.lt; have HP6 := Lib.hid (hp5.ext y56); have hs6 := y56.size; obtain ⟨d0, d1, d2, d3, d4, d5, d6, d7⟩ := hB6.eight; obtain ⟨f0, f1, f2, f3, f4, f5, f6, f7⟩ := hB6.frozen8; (first | (have HQ6 := Lib.hid (HQ5.out.ext y56); have HRW := Lib.hid (one_row (A := AvP w.heap.size W4.heap.size) y56 b1 b2 fb HTA.out (fun h => by rcases h with h | h <;> omega) (blk_top x6))) | (have HQ6 : Hid (Blk w6 w5.heap.size 28 #[.int .u8 0, .int .u8 0, .int .i64 0, .int .i64 0, .string ⟨#[]⟩, .string ⟨#[]⟩, .string ⟨#[]⟩, .slice none 0 0]) := Lib.hid (blk_under x6); have HRW := Lib.hid (one_row (A := AvP w.heap.size w5.heap.size) (g := w5.heap.size + 1) y56 b1 b2 fb (HTb2.out.off (fun b hb h => by rcases h with h | h; exact h; omega)) (fun h => by rcases h with h | h <;> omega) (by have h := blk_top x6; rw [World.size_alloc] at h; exact h))) | (have HQ6 : Hid (Blk w6 (w5.heap.size + 1) 28 #[.int .u8 0, .int .u8 0, .int .i64 0, .int .i64 0, .string ⟨#[]⟩, .string ⟨#[]⟩, .string ⟨#[]⟩, .slice none 0 0]) := Lib.hid (by have h := blk_top x6; rw [World.size_alloc] at h; exact h); have HRW := Lib.hid (one_row (A := AvP w.heap.size (w5.heap.size + 1)) (g := w5.heap.size) y56 b1 b2 fb (HTb2.out.off (fun b hb h => by rcases h with h | h; exact h; omega)) (fun h => by rcases h with h | h <;> omega) (blk_under x6))) | (have HRO := Lib.hid (one_row (A := fun b => b ≤ w.heap.size) y56 b1 b2 fb HTb2.out (by show ¬ w5.heap.size ≤ w.heap.size; omega) (blk_top x6)))); clear hB6; (try (have hl46 := HQ6.out.lt; obtain ⟨q0, q1, q2, q3, q4, q5, q6, q7⟩ := HQ6.out.eight; obtain ⟨p0, p1, p2, p3, p4, p5, p6, p7⟩ := HQ6.out.frozen8)))); (try (focus (go_wp2_with fail))); refine hK.out _ _ (by (try dsimp only); (exact xX)) (fun hHeld => ?_); clear hK K; try simp only [Act.put,pA,pB,pC]
      refine held_do 7 rfl (by kernel_rfl) (by rfl) (fun K hK => ?_); go_simp; refine hK.out _ _ (by (try dsimp only); (exact xX)) (fun hHeld => ?_); clear hK K; try simp only [Act.put,pA,pB,pC]
      refine wpAnyH_done (by kernel_rfl) ?_ _
      rotate_left 1
      go_simp; refine hK.out _ _ (by (try dsimp only); (exact xX)) (fun hHeld => ?_); clear hK K; try simp only [Act.put,pA,pB,pC]
      refine held_do 3 rfl (by kernel_rfl) (by rfl) (fun K hK => ?_); go_simp; (first | (refine (KP5.out _ (HP5.out.ext (by (exact eX)))).mono ?_; intro e w5 hh; obtain ⟨v5, rfl, ⟨ab, nb, cb, rfl, fb, b1, b2, hTb⟩, hp5, x5⟩ := hh.ok; have y5 : ExtX (· = pb) W4 w5 := (by (exact xX) : ExtX (· = pb) W4 _).trans x5; have hTb2 : IsTmsA (fun b => b ≤ w.heap.size) w5 kb ab nb := hTb.off (fun b _ hb => (by have hb : b ≤ w.heap.size := hb; simp; omega)); have HTb2 := Lib.hid hTb2; have hs5 := y5.size; (try (have hQ5 : Blk w5 W4.heap.size 28 #[.int .u8 0, .int .u8 0, .int .i64 0, .int .i64 0, .string ⟨#[]⟩, .string ⟨#[]⟩, .string ⟨#[]⟩, .slice none 0 0] := (Blk.new W4 28 #[.int .u8 0, .int .u8 0, .int .i64 0, .int .i64 0, .string ⟨#[]⟩, .string ⟨#[]⟩, .string ⟨#[]⟩, .slice none 0 0]).drew.nez x5 (by omega); have HTA := Lib.hid (show IsTmsA (AvP w.heap.size W4.heap.size) w5 kb ab nb from hTb.off (fun b _ hb => by rcases hb with hb | hb <;> (simp; omega))); have HQ5 := Lib.hid hQ5; have hl45 := hQ5.lt; clear hQ5)); clear hTb hTb2 hh)); (try (focus (go_wp2_with fail))); refine hK.out _ _ (by (try dsimp only); (exact xX)) (fun hHeld => ?_); clear hK K; try simp only [Act.put,pA,pB,pC]
      refine held_do 4 rfl (by kernel_rfl) (by rfl) (fun K hK => ?_); go_simp; refine hK.out _ _ (by (try dsimp only); (exact xX)) (fun hHeld => ?_); clear hK K; try simp only [Act.put,pA,pB,pC]
      refine held_do 5 rfl (by kernel_rfl) (by rfl) (fun K hK => ?_); go_simp; (first | (refine (KP5.out _ (HP5.out.ext (by (exact eX)))).mono ?_; intro e w5 hh; obtain ⟨v5, rfl, ⟨ab, nb, cb, rfl, fb, b1, b2, hTb⟩, hp5, x5⟩ := hh.ok; have y5 : ExtX (· = pb) W4 w5 := (by (exact xX) : ExtX (· = pb) W4 _).trans x5; have hTb2 : IsTmsA (fun b => b ≤ w.heap.size) w5 kb ab nb := hTb.off (fun b _ hb => (by have hb : b ≤ w.heap.size := hb; simp; omega)); have HTb2 := Lib.hid hTb2; have hs5 := y5.size; (try (have hQ5 : Blk w5 W4.heap.size 28 #[.int .u8 0, .int .u8 0, .int .i64 0, .int .i64 0, .string ⟨#[]⟩, .string ⟨#[]⟩, .string ⟨#[]⟩, .slice none 0 0] := (Blk.new W4 28 #[.int .u8 0, .int .u8 0, .int .i64 0, .int .i64 0, .string ⟨#[]⟩, .string ⟨#[]⟩, .string ⟨#[]⟩, .slice none 0 0]).drew.nez x5 (by omega); have HTA := Lib.hid (show IsTmsA (AvP w.heap.size W4.heap.size) w5 kb ab nb from hTb.off (fun b _ hb => by rcases hb with hb | hb <;> (simp; omega))); have HQ5 := Lib.hid hQ5; have hl45 := hQ5.lt; clear hQ5)); clear hTb hTb2 hh) | (go_at_call 58; refine (parse_node _ _ _ _ _ _).mono ?_; rintro e w6 ⟨rfl, x6⟩; have y56 : Ext w5 w6 := (by (exact eX) : Ext w5 _).trans x6; have y6 : ExtX (· = pb) W4 w6 := ExtX.then_ y5 y56; have hB6 := HZ5.out.nez y6 (by omega); have HB6 := Lib.hid hB6; have hl6 := hB6.lt; have HP6 := Lib.hid (hp5.ext y56); have hs6 := y56.size; obtain ⟨d0, d1, d2, d3, d4, d5, d6, d7⟩ := hB6.eight; obtain ⟨f0, f1, f2, f3, f4, f5, f6, f7⟩ := hB6.frozen8; (first | (have HQ6 := Lib.hid (HQ5.out.ext y56); have HRW := Lib.hid (one_row (A := AvP w.heap.size W4.heap.size) y56 b1 b2 fb HTA.out (fun h => by rcases h with h | h <;> omega) (blk_top x6))) | (have HQ6 : Hid (Blk w6 w5.heap.size 28 #[.int .u8 0, .int .u8 0, .int .i64 0, .int .i64 0, .string ⟨#[]⟩, .string ⟨#[]⟩, .string ⟨#[]⟩, .slice none 0 0]) := Lib.hid (blk_under x6); have HRW := Lib.hid (one_row (A := AvP w.heap.size w5.heap.size) (g := w5.heap.size + 1) y56 b1 b2 fb (HTb2.out.off (fun b hb h => by rcases h with h | h; exact h; omega)) (fun h => by rcases h with h | h <;> omega) (by have h := blk_top x6; rw [World.size_alloc] at h; exact h))) | (have HQ6 : Hid (Blk w6 (w5.heap.size + 1) 28 #[.int .u8 0, .int .u8 0, .int .i64 0, .int .i64 0, .string ⟨#[]⟩, .string ⟨#[]⟩, .string ⟨#[]⟩, .slice none 0 0]) := Lib.hid (by have h := blk_top x6; rw [World.size_alloc] at h; exact h); have HRW := Lib.hid (one_row (A := AvP w.heap.size (w5.heap.size + 1)) (g := w5.heap.size) y56 b1 b2 fb (HTb2.out.off (fun b hb h => by rcases h with h | h; exact h; omega)) (fun h => by rcases h with h | h <;> omega) (blk_under x6))) | (have HRO := Lib.hid (one_row (A := fun b => b ≤ w.heap.size) y56 b1 b2 fb HTb2.out (by show ¬ w5.heap.size ≤ w.heap.size; omega) (blk_top x6)))); clear hB6; (try (have hl46 := HQ6.out.lt; obtain ⟨q0, q1, q2, q3, q4, q5, q6, q7⟩ := HQ6.out.eight; obtain ⟨p0, p1, p2, p3, p4, p5, p6, p7⟩ := HQ6.out.frozen8)))); (try (focus (go_wp2_with fail))); refine hK.out _ _ (by (try dsimp only); (exact xX)) (fun hHeld => ?_); clear hK K; try simp only [Act.put,pA,pB,pC]
      refine held_do 7 rfl (by kernel_rfl) (by rfl) (fun K hK => ?_); go_simp; refine hK.out _ _ (by (try dsimp only); (exact xX)) (fun hHeld => ?_); clear hK K; try simp only [Act.put,pA,pB,pC]
      refine wpAnyH_done (by kernel_rfl) ?_ _
      rotate_left 1
      all_goals
        have HX6 := Lib.hid (Y5.out.trans y6)
        have HF15 := Lib.hid (hd15_fits (p := tk.pos) (x := xn) hpos0 hpos1 hxs)
        clear y6 y56 hHeld
        first
          | (clear d0 d1 d2 d3 d4 d5 d6 d7 f0 f1 f2 f3 f4 f5 f6 f7 q0 q1 q2 q3 q4 q5 q6 q7 p0 p1 p2 p3 p4 p5 p6 p7; have M9 := Mid8.of (B5 := W4.heap.size) (y0 := .int .u8 15) (y1 := .int .u8 0) (y2 := .int .i64 tk.pos) (y3 := .int .i64 0) (y4 := .string ByteArray.empty) (y5 := .string ByteArray.empty) (y6 := .string ByteArray.empty) (a := some ⟨w5.heap.size, 0, none⟩) (n := 1) (c := 1) (cs := (.int .u8 0, .int .u8 0, .int .i64 0, .int .i64 0, .string ⟨#[]⟩, .string ⟨#[]⟩, .string ⟨#[]⟩, .slice none 0 0)) HB6.out HQ6.out HRW.out HP6.out HX6.out hlt (by omega); obtain ⟨W9, hW9⟩ : ∃ W9, W9 = ((((((((w6.setCell ⟨W4.heap.size, 0, none⟩ (.int .u8 15)).setCell ⟨W4.heap.size, 1, none⟩ (.int .u8 0)).setCell ⟨W4.heap.size, 2, none⟩ (.int .i64 tk.pos)).setCell ⟨W4.heap.size, 3, none⟩ (.int .i64 0)).setCell ⟨W4.heap.size, 4, none⟩ (.string ByteArray.empty)).setCell ⟨W4.heap.size, 5, none⟩ (.string ByteArray.empty)).setCell ⟨W4.heap.size, 6, none⟩ (.string ByteArray.empty)).setCell ⟨W4.heap.size, 7, none⟩ (.slice (some ⟨w5.heap.size, 0, none⟩) 1 1)) := ⟨_, rfl⟩; rw [← hW9] at M9; rw [← hW9]; have HM9 := Lib.hid M9; clear M9)
          | (clear d0 d1 d2 d3 d4 d5 d6 d7 f0 f1 f2 f3 f4 f5 f6 f7 q0 q1 q2 q3 q4 q5 q6 q7 p0 p1 p2 p3 p4 p5 p6 p7; have M9 := Mid8.of (B5 := w5.heap.size) (y0 := .int .u8 15) (y1 := .int .u8 0) (y2 := .int .i64 tk.pos) (y3 := .int .i64 0) (y4 := .string ByteArray.empty) (y5 := .string ByteArray.empty) (y6 := .string ByteArray.empty) (a := some ⟨w5.heap.size + 1, 0, none⟩) (n := 1) (c := 1) (cs := (.int .u8 0, .int .u8 0, .int .i64 0, .int .i64 0, .string ⟨#[]⟩, .string ⟨#[]⟩, .string ⟨#[]⟩, .slice none 0 0)) HB6.out HQ6.out HRW.out HP6.out HX6.out hlt (by omega); obtain ⟨W9, hW9⟩ : ∃ W9, W9 = ((((((((w6.setCell ⟨w5.heap.size, 0, none⟩ (.int .u8 15)).setCell ⟨w5.heap.size, 1, none⟩ (.int .u8 0)).setCell ⟨w5.heap.size, 2, none⟩ (.int .i64 tk.pos)).setCell ⟨w5.heap.size, 3, none⟩ (.int .i64 0)).setCell ⟨w5.heap.size, 4, none⟩ (.string ByteArray.empty)).setCell ⟨w5.heap.size, 5, none⟩ (.string ByteArray.empty)).setCell ⟨w5.heap.size, 6, none⟩ (.string ByteArray.empty)).setCell ⟨w5.heap.size, 7, none⟩ (.slice (some ⟨w5.heap.size + 1, 0, none⟩) 1 1)) := ⟨_, rfl⟩; rw [← hW9] at M9; rw [← hW9]; have HM9 := Lib.hid M9; clear M9)
          | (clear d0 d1 d2 d3 d4 d5 d6 d7 f0 f1 f2 f3 f4 f5 f6 f7 q0 q1 q2 q3 q4 q5 q6 q7 p0 p1 p2 p3 p4 p5 p6 p7; have M9 := Mid8.of (B5 := w5.heap.size + 1) (y0 := .int .u8 15) (y1 := .int .u8 0) (y2 := .int .i64 tk.pos) (y3 := .int .i64 0) (y4 := .string ByteArray.empty) (y5 := .string ByteArray.empty) (y6 := .string ByteArray.empty) (a := some ⟨w5.heap.size, 0, none⟩) (n := 1) (c := 1) (cs := (.int .u8 0, .int .u8 0, .int .i64 0, .int .i64 0, .string ⟨#[]⟩, .string ⟨#[]⟩, .string ⟨#[]⟩, .slice none 0 0)) HB6.out HQ6.out HRW.out HP6.out HX6.out hlt (by omega); obtain ⟨W9, hW9⟩ : ∃ W9, W9 = ((((((((w6.setCell ⟨w5.heap.size + 1, 0, none⟩ (.int .u8 15)).setCell ⟨w5.heap.size + 1, 1, none⟩ (.int .u8 0)).setCell ⟨w5.heap.size + 1, 2, none⟩ (.int .i64 tk.pos)).setCell ⟨w5.heap.size + 1, 3, none⟩ (.int .i64 0)).setCell ⟨w5.heap.size + 1, 4, none⟩ (.string ByteArray.empty)).setCell ⟨w5.heap.size + 1, 5, none⟩ (.string ByteArray.empty)).setCell ⟨w5.heap.size + 1, 6, none⟩ (.string ByteArray.empty)).setCell ⟨w5.heap.size + 1, 7, none⟩ (.slice (some ⟨w5.heap.size, 0, none⟩) 1 1)) := ⟨_, rfl⟩; rw [← hW9] at M9; rw [← hW9]; have HM9 := Lib.hid M9; clear M9)
          | skip
        first
          | (have hl9 := HM9.out.b.lt; have p6 := HM9.out.b.frozen 6; have q6 := HM9.out.b.eight.2.2.2.2.2.2.1; clear hW9)
          | skip
        go_upto_region 9 with fail
        go_upto_region 10 with fail
        first
          | (obtain ⟨W10, hW10⟩ : ∃ W10, W10 = W9.setCell ⟨W4.heap.size, 6, none⟩ (.string xn) := ⟨_, rfl⟩; rw [← hW10]; have hM10 := HM9.out.six (.string xn); rw [← hW10] at hM10; clear hl9 p6 q6 hW10; obtain ⟨d0, d1, d2, d3, d4, d5, d6, d7⟩ := hM10.z.eight; obtain ⟨f0, f1, f2, f3, f4, f5, f6, f7⟩ := hM10.z.frozen8; obtain ⟨q0, q1, q2, q3, q4, q5, q6, q7⟩ := hM10.b.eight; have hl9 := hM10.z.lt; have hl9' := hM10.b.lt; have HM10 := Lib.hid hM10; clear hM10 HM9)
          | (obtain ⟨W10, hW10⟩ : ∃ W10, W10 = W9.setCell ⟨w5.heap.size, 6, none⟩ (.string xn) := ⟨_, rfl⟩; rw [← hW10]; have hM10 := HM9.out.six (.string xn); rw [← hW10] at hM10; clear hl9 p6 q6 hW10; obtain ⟨d0, d1, d2, d3, d4, d5, d6, d7⟩ := hM10.z.eight; obtain ⟨f0, f1, f2, f3, f4, f5, f6, f7⟩ := hM10.z.frozen8; obtain ⟨q0, q1, q2, q3, q4, q5, q6, q7⟩ := hM10.b.eight; have hl9 := hM10.z.lt; have hl9' := hM10.b.lt; have HM10 := Lib.hid hM10; clear hM10 HM9)
          | (obtain ⟨W10, hW10⟩ : ∃ W10, W10 = W9.setCell ⟨w5.heap.size + 1, 6, none⟩ (.string xn) := ⟨_, rfl⟩; rw [← hW10]; have hM10 := HM9.out.six (.string xn); rw [← hW10] at hM10; clear hl9 p6 q6 hW10; obtain ⟨d0, d1, d2, d3, d4, d5, d6, d7⟩ := hM10.z.eight; obtain ⟨f0, f1, f2, f3, f4, f5, f6, f7⟩ := hM10.z.frozen8; obtain ⟨q0, q1, q2, q3, q4, q5, q6, q7⟩ := hM10.b.eight; have hl9 := hM10.z.lt; have hl9' := hM10.b.lt; have HM10 := Lib.hid hM10; clear hM10 HM9)
          | skip
        clear n2 hpm hv
        go_wp2_with fail
        first
          | (have HL := HM10.out.done HF15.out (Nat.le_refl _) (by omega); exact HL.ret (fun w2 r0 r1 r2 r3 r4 r5 r6 r7 => by simp [results, Tryz.results139, go_sem, r0, r1, r2, r3, r4, r5, r6, r7]) rfl)
          | (have HL : Laid8 pb w w6 { hd0 15 tk.pos with exn := xn } [.mk xb kb] (some ⟨w5.heap.size, 0, none⟩) 1 1 l4 := ⟨HB6.out, HF15.out, Nat.le_refl _, by omega, HRO.out, HP6.out, HX6.out, hlt⟩; exact HL.ret_alloc (fun w2 r0 r1 r2 r3 r4 r5 r6 r7 => by simp [results, Tryz.results139, go_sem, r0, r1, r2, r3, r4, r5, r6, r7]) rfl)
end Go.Proofs.YtaioeailgknfjaaGreatDoor
namespace Go.Proofs.YtaioeailgknfjaaGreatDoor
open Go Go.RowKit Go.Sort

theorem hd1_fits {p n : Int} (p0 : -9223372036854775808 ≤ p) (p1 : p ≤ 9223372036854775807) (h0 : 0 ≤ n) (h1 : n ≤ 2147483647) : ({ hd0 1 p with n := n } : Hd).Fits :=
  ⟨by simp [hd0], by simp [hd0], by simp [hd0], by simp [hd0], p0, p1, by show -9223372036854775808 ≤ n; omega, by show n ≤ 9223372036854775807; omega, by simp [hd0], by simp [hd0], by simp [hd0]⟩
theorem hd2_fits {p : Int} {x : ByteArray} (p0 : -9223372036854775808 ≤ p) (p1 : p ≤ 9223372036854775807) (hx : x.size ≤ 9223372036854775807) : ({ hd0 2 p with name := x } : Hd).Fits :=
  ⟨by simp [hd0], by simp [hd0], by simp [hd0], by simp [hd0], p0, p1, by simp [hd0], by simp [hd0], hx, by simp [hd0], by simp [hd0]⟩
/-- A leaf: another field of it is stored. -/
theorem Laid8.leaf {pb : Nat} {w W : World} {B i : Nat} {e : Value} {x : Hd} {l : List Tk} (hz : Blk W w.heap.size 28 #[.int .u8 0, .int .u8 0, .int .i64 0, .int .i64 0, .string ⟨#[]⟩, .string ⟨#[]⟩, .string ⟨#[]⟩, .slice none 0 0])
    (hf : x.Fits) (hp : Prs W pb l) (hx : ExtX (· = pb) w W) (hlt : pb < w.heap.size) (hB : w.heap.size < B) : Laid8 pb w (W.setCell ⟨B, i, none⟩ e) x [] none 0 0 l :=
  ⟨hz.far (p := ⟨B, i, none⟩) (by show w.heap.size ≠ B; omega) e, hf, Nat.le_refl _, by omega, IsTmsA.nil _, hp.far (p := ⟨B, i, none⟩) (by show pb < B; omega) e, hx.setCell (p := ⟨B, i, none⟩) (.inr (by show w.heap.size ≤ B; omega)) e, hlt⟩
set_option maxRecDepth 8000 in
set_option maxHeartbeats 8000000 in
theorem parse_unary_num (f : Nat) (pb : Nat) (s : ByteArray) (ps : Int) (l2 : List Tk) (r : Res Tm) (w : World) (h : Prs w pb (⟨1, s, ps⟩ :: l2)) (he : Ended (⟨1, s, ps⟩ :: l2)) (hp : parseF (f + 1) .unary (⟨1, s, ps⟩ :: l2) = some r) :
    Calls Tryz.prog 139 #[.pointer (some ⟨pb, 0, none⟩)] w (RetP pb w (IsNew w.heap.size) r) := by
  have hlt := h.lt
  have hi : isT [s_bang, w_ref, w_fst, w_snd] (⟨1, s, ps⟩ :: l2) = false := rfl
  have hi2 : isT [w_raise] (⟨1, s, ps⟩ :: l2) = false := rfl
  have hr : r = .ok (.mk { hd0 1 ps with n := numV s } [], l2) := by
    unfold parseF at hp
    rw [if_neg (by rw [hi]; simp), if_neg (by rw [hi2]; simp), if_pos (show kindT (⟨1, s, ps⟩ :: l2) = 1 from rfl)] at hp
    cases hp
    rfl
  subst hr
  have hfit := h.fits
  obtain ⟨hl2, he2⟩ := he.tail_ne (by simp)
  have hnv := numV_bound s
  have HFT := Lib.hid (hd1_fits (p := ps) (n := numV s) hfit.p0 hfit.p1 hnv.1 hnv.2)
  have KN := Lib.hid fun W (x : Ext w W) => parse_now pb ⟨1, s, ps⟩ l2 W (h.ext x)
  have KT := Lib.hid fun W (h : Prs W pb (⟨1, s, ps⟩ :: l2)) => parse_take pb ⟨1, s, ps⟩ l2 W h
  have KI := Lib.hid fun W (x : Ext w W) (a : Option Addr) (hr : IsRow W (vstr [s_bang, w_ref, w_fst, w_snd]) a 4) => parse_is [s_bang, w_ref, w_fst, w_snd] pb ⟨1, s, ps⟩ l2 W a 4 4 (Nat.le_refl _) (by omega) hr (h.ext x)
  have KJ := Lib.hid fun W (x : Ext w W) (a : Option Addr) (hr : IsRow W (vstr [w_raise]) a 1) => parse_is [w_raise] pb ⟨1, s, ps⟩ l2 W a 1 1 (Nat.le_refl _) (by omega) hr (h.ext x)
  rw [hi] at KI
  rw [hi2] at KJ
  have KW : Hid (∀ W, Calls Tryz.prog 130 #[.string s] W fun e w' => e = .returned (.tuple #[.int .i64 (numV s), .bool (numB s)]) ∧ Ext W w') := Lib.hid fun W => words_number s W
  have HP := Lib.hid h
  have HL2 := Lib.hid hl2
  have F1 := field_tk1
  clear hp h hi hi2 hfit hl2 he2 he
  generalize numV s = nv at *
  generalize numB s = nb at *
  go_enter Tryz.func139, Tryz.ntmps139
  go_wp2_with fail
  refine (KN.out _ (by (exact eX))).mono ?_
  rintro e w1 ⟨rfl, x1⟩
  have hZ1 := blk_top x1
  have y1 : Ext w w1 := by (exact eX)
  have hs1 := hZ1.lt
  go_wp2_with fail
  refine (KI.out _ (by (exact eX)) _ (row_four1 w1 _ _ _ _ _ _)).mono ?_
  rintro e w2 ⟨rfl, x2⟩
  have y2 : Ext w1 w2 := by (exact eX)
  have hT2 := blk_under x2
  go_wp2_with fail
  refine (KJ.out _ (by (exact eX)) _ (row_one0 w2 _ _)).mono ?_
  rintro e w3 ⟨rfl, x3⟩
  have y3 : Ext w2 w3 := by (exact eX)
  have hT3 := hT2.ext y3
  have t0 := hT3.cell 0
  have t2 := hT3.cell 2
  simp at t0 t2
  have y13 := (y1.trans y2).trans y3
  have HZ3 := Lib.hid ((hZ1.ext y2).ext y3)
  have Y13 := Lib.hid y13
  clear x1 hZ1 y1 x2 hT2 y2 x3 hT3 y3 y13
  go_wp2_with fail
  refine (parse_node _ _ _ _ _ _).mono ?_
  rintro e w4 ⟨rfl, x4⟩
  have HZ4 := Lib.hid (HZ3.out.ext x4)
  have hl40 := HZ4.out.lt
  have P4 := HP.out.ext (Y13.out.trans x4)
  go_wp2_with fail
  refine (KT.out _ (P4.alloc _)).mono ?_
  rintro e w5 ⟨rfl, x5, hp5⟩
  have hB5 := (Blk.new w4 _ _).nez x5 (by omega)
  have hZ5 := (HZ4.out.alloc _).nez x5 (by omega)
  have y5 : ExtX (· = pb) w w5 := ((ExtX.of (Y13.out.trans x4)).alloc _).trans x5
  have HB5 := Lib.hid hB5
  have HZ5 := Lib.hid hZ5
  have HP5 := Lib.hid (hp5 HL2.out)
  have Y5 := Lib.hid y5
  clear x4 P4 x5 hp5 hB5 hZ5 y5 t0 t2
  go_wp2_with fail
  refine (KW.out _).mono ?_
  rintro e w6 ⟨rfl, x6⟩
  have hB6 := HB5.out.ext x6
  have hZ6 := HZ5.out.ext x6
  obtain ⟨c0, c1, c2, c3, c4, c5, c6, c7⟩ := hB6.eight
  obtain ⟨f0, f1, f2, f3, f4, f5, f6, f7⟩ := hB6.frozen8
  obtain ⟨z0, z1, z2, z3, z4, z5, z6, z7⟩ := hZ6.eight
  obtain ⟨g0, g1, g2, g3, g4, g5, g6, g7⟩ := hZ6.frozen8
  have hlB := hB6.lt
  have hlZ := hZ6.lt
  have HL := Lib.hid (Laid8.leaf (i := 3) (e := .int .i64 nv) hZ6 HFT.out (HP5.out.ext x6) (Y5.out.then_ x6) hlt hl40)
  have hne : w4.heap.size ≠ w.heap.size := by omega
  have hne' : w.heap.size ≠ w4.heap.size := by omega
  clear hB6 hZ6 x6
  go_wp2_with fail
  exact HL.out.ret (fun w2 r0 r1 r2 r3 r4 r5 r6 r7 => by simp [results, Tryz.results139, go_sem, r0, r1, r2, r3, r4, r5, r6, r7]) rfl
set_option maxRecDepth 8000 in
set_option maxHeartbeats 8000000 in
theorem parse_unary_name (f : Nat) (pb : Nat) (s : ByteArray) (ps : Int) (l2 : List Tk) (r : Res Tm) (w : World) (h : Prs w pb (⟨2, s, ps⟩ :: l2)) (he : Ended (⟨2, s, ps⟩ :: l2)) (hp : parseF (f + 1) .unary (⟨2, s, ps⟩ :: l2) = some r) :
    Calls Tryz.prog 139 #[.pointer (some ⟨pb, 0, none⟩)] w (RetP pb w (IsNew w.heap.size) r) := by
  have hlt := h.lt
  have hi : isT [s_bang, w_ref, w_fst, w_snd] (⟨2, s, ps⟩ :: l2) = false := rfl
  have hi2 : isT [w_raise] (⟨2, s, ps⟩ :: l2) = false := rfl
  have hr : r = .ok (.mk { hd0 2 ps with name := s } [], l2) := by
    unfold parseF at hp
    rw [if_neg (by rw [hi]; simp), if_neg (by rw [hi2]; simp), if_neg (show ¬ kindT (⟨2, s, ps⟩ :: l2) = 1 from by simp [kindT]), if_pos (show kindT (⟨2, s, ps⟩ :: l2) = 2 from rfl)] at hp
    cases hp
    rfl
  subst hr
  have hfit := h.fits
  obtain ⟨hl2, he2⟩ := he.tail_ne (by simp)
  have HFT := Lib.hid (hd2_fits (p := ps) (x := s) hfit.p0 hfit.p1 hfit.text1)
  have KN := Lib.hid fun W (x : Ext w W) => parse_now pb ⟨2, s, ps⟩ l2 W (h.ext x)
  have KT := Lib.hid fun W (h : Prs W pb (⟨2, s, ps⟩ :: l2)) => parse_take pb ⟨2, s, ps⟩ l2 W h
  have KI := Lib.hid fun W (x : Ext w W) (a : Option Addr) (hr : IsRow W (vstr [s_bang, w_ref, w_fst, w_snd]) a 4) => parse_is [s_bang, w_ref, w_fst, w_snd] pb ⟨2, s, ps⟩ l2 W a 4 4 (Nat.le_refl _) (by omega) hr (h.ext x)
  have KJ := Lib.hid fun W (x : Ext w W) (a : Option Addr) (hr : IsRow W (vstr [w_raise]) a 1) => parse_is [w_raise] pb ⟨2, s, ps⟩ l2 W a 1 1 (Nat.le_refl _) (by omega) hr (h.ext x)
  rw [hi] at KI
  rw [hi2] at KJ
  have HP := Lib.hid h
  have HL2 := Lib.hid hl2
  have F1 := field_tk1
  clear hp h hi hi2 hfit hl2 he2 he
  go_enter Tryz.func139, Tryz.ntmps139
  go_wp2_with fail
  refine (KN.out _ (by (exact eX))).mono ?_
  rintro e w1 ⟨rfl, x1⟩
  have hZ1 := blk_top x1
  have y1 : Ext w w1 := by (exact eX)
  have hs1 := hZ1.lt
  go_wp2_with fail
  refine (KI.out _ (by (exact eX)) _ (row_four1 w1 _ _ _ _ _ _)).mono ?_
  rintro e w2 ⟨rfl, x2⟩
  have y2 : Ext w1 w2 := by (exact eX)
  have hT2 := blk_under x2
  go_wp2_with fail
  refine (KJ.out _ (by (exact eX)) _ (row_one0 w2 _ _)).mono ?_
  rintro e w3 ⟨rfl, x3⟩
  have y3 : Ext w2 w3 := by (exact eX)
  have hT3 := hT2.ext y3
  have t0 := hT3.cell 0
  have t2 := hT3.cell 2
  simp at t0 t2
  have y13 := (y1.trans y2).trans y3
  have HZ3 := Lib.hid ((hZ1.ext y2).ext y3)
  have Y13 := Lib.hid y13
  clear x1 hZ1 y1 x2 hT2 y2 x3 hT3 y3 y13
  go_wp2_with fail
  refine (parse_node _ _ _ _ _ _).mono ?_
  rintro e w4 ⟨rfl, x4⟩
  have HZ4 := Lib.hid (HZ3.out.ext x4)
  have hl40 := HZ4.out.lt
  have P4 := HP.out.ext (Y13.out.trans x4)
  go_wp2_with fail
  refine (KT.out _ (P4.alloc _)).mono ?_
  rintro e w6 ⟨rfl, x5, hp5⟩
  have hB6 := (Blk.new w4 _ _).nez x5 (by omega)
  have hZ6 := (HZ4.out.alloc _).nez x5 (by omega)
  have y5 : ExtX (· = pb) w w6 := ((ExtX.of (Y13.out.trans x4)).alloc _).trans x5
  obtain ⟨c0, c1, c2, c3, c4, c5, c6, c7⟩ := hB6.eight
  obtain ⟨f0, f1, f2, f3, f4, f5, f6, f7⟩ := hB6.frozen8
  obtain ⟨z0, z1, z2, z3, z4, z5, z6, z7⟩ := hZ6.eight
  obtain ⟨g0, g1, g2, g3, g4, g5, g6, g7⟩ := hZ6.frozen8
  have hlB := hB6.lt
  have hlZ := hZ6.lt
  have HL := Lib.hid (Laid8.leaf (i := 4) (e := .string s) hZ6 HFT.out (hp5 HL2.out) y5 hlt hl40)
  have hne : w4.heap.size ≠ w.heap.size := by omega
  have hne' : w.heap.size ≠ w4.heap.size := by omega
  clear hB6 hZ6 x5 x4 P4 hp5 y5 t0 t2
  go_wp2_with fail
  exact HL.out.ret (fun w2 r0 r1 r2 r3 r4 r5 r6 r7 => by simp [results, Tryz.results139, go_sem, r0, r1, r2, r3, r4, r5, r6, r7]) rfl
end Go.Proofs.YtaioeailgknfjaaGreatDoor

/- The walk of parse.unary: brackets. A term that is being laid by parse.expr, kid by kid: the memory. -/
namespace Go.Proofs.YtaioeailgknfjaaGreatDoor
open Go Go.RowKit Go.Sort

theorem getWs_one (x : ByteArray) (l : List Tk) : (∃ l', getWs [x] l = .error l' ∧ getW x l = .error l') ∨ (∃ l', getWs [x] l = .ok (textT l, l') ∧ getW x l = .ok ((), l') ∧ l' = l.tail) := by
  unfold getWs getW
  cases isT [x] l
  · exact .inl ⟨l, rfl, rfl⟩
  · exact .inr ⟨l.tail, rfl, rfl, rfl⟩
theorem isT_two {x y : ByteArray} {l : List Tk} : isT [x, y] l = (isT [x] l || isT [y] l) := by
  cases l with
  | nil => rfl
  | cons t l =>
    have e : inB [x, y] t.text = (inB [x] t.text || inB [y] t.text) := inB_append [x] [y] t.text
    simp only [isT, e]
    cases (t.k == 4 || t.k == 5) <;> rfl
theorem isT_text {x : ByteArray} {l : List Tk} (h : isT [x] l = true) : textT l = x := by
  obtain ⟨t, r, rfl, -, hx, -⟩ := isT_ne h
  simpa [textT] using hx
theorem getW_ended {x : ByteArray} {l l' : List Tk} (he : Ended l) (h : getW x l = .ok ((), l')) : Ended l' := by
  have := getW_behind (x := x) he
  rw [h] at this
  exact this.1
set_option maxRecDepth 8000 in
set_option maxHeartbeats 8000000 in
theorem parse_unary_open (f : Nat) (hE : Does 31 .expr f) (pb : Nat) (tk : Tk) (l2 : List Tk) (r : Res Tm) (w : World) (h : Prs w pb (tk :: l2)) (he : Ended (tk :: l2)) (hi : isT [s_bang, w_ref, w_fst, w_snd] (tk :: l2) = false) (hi2 : isT [w_raise] (tk :: l2) = false) (n1 : tk.k ≠ 1) (n2 : tk.k ≠ 2) (hp : parseF (f + 1) .unary (tk :: l2) = some r) :
    Calls Tryz.prog 139 #[.pointer (some ⟨pb, 0, none⟩)] w (RetP pb w (IsNew w.heap.size) r) := by
  have hlt := h.lt
  have hp2 : andThen (some (getW s_open (tk :: l2))) (fun _ l1 => andThen (parseF f .expr l1) fun a l2 => if isT [s_comma] l2 then andThen (parseF f .expr l2.tail) fun b l3 => andThen (some (getW s_shut l3)) fun _ l4 => some (.ok (.mk (hd0 3 tk.pos) [a, b], l4)) else andThen (some (getW s_shut l2)) fun _ l3 => some (.ok (a, l3))) = some r := by
    unfold parseF at hp
    rw [if_neg (by rw [hi]; simp), if_neg (by rw [hi2]; simp), if_neg (show ¬ kindT (tk :: l2) = 1 from n1), if_neg (show ¬ kindT (tk :: l2) = 2 from n2)] at hp
    exact hp
  have hfit := h.fits
  have hpos0 := hfit.p0
  have hpos1 := hfit.p1
  have HF3 := Lib.hid (hd0_fits (k := 3) (p := tk.pos) (by omega) (by omega) hpos0 hpos1)
  have b1 : (tk.k == 1) = false := by simpa using n1
  have b2 : (tk.k == 2) = false := by simpa using n2
  have KN := Lib.hid fun W (x : Ext w W) => parse_now pb tk l2 W (h.ext x)
  have KI := Lib.hid fun W (x : Ext w W) (a : Option Addr) (hr : IsRow W (vstr [s_bang, w_ref, w_fst, w_snd]) a 4) => parse_is [s_bang, w_ref, w_fst, w_snd] pb tk l2 W a 4 4 (Nat.le_refl _) (by omega) hr (h.ext x)
  have KJ := Lib.hid fun W (x : Ext w W) (a : Option Addr) (hr : IsRow W (vstr [w_raise]) a 1) => parse_is [w_raise] pb tk l2 W a 1 1 (Nat.le_refl _) (by omega) hr (h.ext x)
  have KW := Lib.hid fun (xs : List ByteArray) W (l : List Tk) (a : Option Addr) (len : Nat) (hl : len ≤ 9223372036854775807) (hr : IsRow W (vstr xs) a len) (hP : Prs W pb l) (he : Ended l) => parse_word xs pb l W a len len (Nat.le_refl _) hl hr hP he
  rw [hi] at KI
  rw [hi2] at KJ
  have HE := Lib.hid hE
  have HPM := Lib.hid hp2
  have HE0 := Lib.hid he
  have HP := Lib.hid h
  have F1 := field_tk1
  have q1 : (s_shut.toList == ([41] : List UInt8)) = true := by rw [ByteArray.toList_eq]; rfl
  have q2 : (s_comma.toList == ([41] : List UInt8)) = false := by rw [ByteArray.toList_eq]; rfl
  clear hp hp2 h hi hi2 hfit he hE n1 n2
  go_enter Tryz.func139, Tryz.ntmps139
  go_wp2_with fail
  refine (KN.out _ (by (exact eX))).mono ?_
  rintro e w1 ⟨rfl, x1⟩
  have hZ1 := blk_top x1
  have y1 : Ext w w1 := by (exact eX)
  have hs1 := hZ1.lt
  go_wp2_with fail
  refine (KI.out _ (by (exact eX)) _ (row_four1 w1 _ _ _ _ _ _)).mono ?_
  rintro e w2 ⟨rfl, x2⟩
  have y2 : Ext w1 w2 := by (exact eX)
  have hT2 := blk_under x2
  go_wp2_with fail
  refine (KJ.out _ (by (exact eX)) _ (row_one0 w2 _ _)).mono ?_
  rintro e w3 ⟨rfl, x3⟩
  have y3 : Ext w2 w3 := by (exact eX)
  have hT3 := hT2.ext y3
  have t0 := hT3.cell 0
  simp at t0
  have y13 := (y1.trans y2).trans y3
  have HT3 := Lib.hid hT3
  have HZ3 := Lib.hid ((hZ1.ext y2).ext y3)
  have Y13 := Lib.hid y13
  clear x1 hZ1 y1 x2 hT2 y2 x3 hT3 y3 y13
  go_wp2_with fail
  refine (KW.out [s_open] _ _ _ 1 (by omega) (row_one0 w3 _ _) ((HP.out.ext Y13.out).alloc _) HE0.out).mono ?_
  intro e w4 hh
  have hpm := HPM.out
  rcases getWs_one s_open (tk :: l2) with ⟨l', e1, e2⟩ | ⟨l1, e1, e2, -⟩
  · rw [e1] at hh
    rw [e2] at hpm
    cases hpm
    obtain ⟨rfl, x4⟩ := hh.error
    exact ⟨rfl, ((ExtX.of Y13.out).alloc _).trans x4, rfl⟩
  rw [e1] at hh
  have he1 : Ended l1 := getW_ended HE0.out e2
  rw [e2, andThen_ok] at hpm
  obtain ⟨v4, rfl, ⟨k4, q4, rfl⟩, P4, x4⟩ := hh.ok
  have y4 : ExtX (· = pb) w w4 := ((ExtX.of Y13.out).alloc _).trans x4
  have HT4 := Lib.hid ((HT3.out.alloc (.cells #[.string ⟨#[40]⟩] 9)).nez x4 (by omega))
  have HZ4 := Lib.hid ((HZ3.out.alloc (.cells #[.string ⟨#[40]⟩] 9)).nez x4 (by omega))
  have HP4 := Lib.hid P4
  have Y4 := Lib.hid y4
  have HE1 := Lib.hid he1
  have HPM4 := Lib.hid hpm
  have hl40 := HZ4.out.lt
  clear hh e1 e2 t0 x4 y4 P4 he1 hpm
  go_wp2_with fail
  cases e5 : parseF f .expr l1 with
  | none => have := HPM4.out; rw [e5] at this; cases this
  | some r5 =>
  refine (HE.out pb w4 l1 r5 HP4.out HE1.out e5).mono ?_
  intro e w5 hh
  have hpm := HPM4.out
  rw [e5] at hpm
  cases r5 with
  | error l' =>
    cases hpm
    obtain ⟨rfl, x5⟩ := hh.error
    exact ⟨rfl, Y4.out.trans x5, rfl⟩
  | ok p5 =>
  obtain ⟨⟨x, ks⟩, l3⟩ := p5
  rw [andThen_ok] at hpm
  have he3 : Ended l3 := (parseF_told HE1.out e5).1
  obtain ⟨v, rfl, ⟨ak, nk, ck, rfl, hfx, k1, k2, hTk⟩, P5, x5⟩ := hh.ok
  have y5 : ExtX (· = pb) w w5 := Y4.out.trans x5
  have HT5 := Lib.hid (HT4.out.nez x5 (by omega))
  have HZ5 := Lib.hid (HZ4.out.nez x5 (by omega))
  have HTk := Lib.hid (show IsTmsA (fun b => b ≤ w.heap.size) w5 ks ak nk from hTk.off fun b _ hb => (by have hb : b ≤ w.heap.size := hb; omega))
  have HFX := Lib.hid hfx
  have HP5 := Lib.hid P5
  have Y5 := Lib.hid y5
  have HE3 := Lib.hid he3
  have HPM5 := Lib.hid hpm
  have hl50 := HZ5.out.lt
  have hl51 := HT5.out.lt
  have hpl := hlt
  clear hh e5 x5 y5 P5 he3 hpm hTk hfx
  go_wp2_with fail
  refine (KW.out [s_comma, s_shut] _ _ _ 2 (by omega) (row_two1 w5 _ _ _ _) ((HP5.out.alloc _).alloc _) HE3.out).mono ?_
  intro e w6 hh
  have hpm := HPM5.out
  cases hc : isT [s_comma] l3 with
  | false =>
    rw [if_neg (by rw [hc]; simp)] at hpm
    have e1 : getWs [s_comma, s_shut] l3 = getWs [s_shut] l3 := by unfold getWs; rw [isT_two, hc, Bool.false_or]
    rw [e1] at hh
    rcases getWs_one s_shut l3 with ⟨l', e1, e2⟩ | ⟨l4, e1, e2, -⟩
    · rw [e1] at hh
      rw [e2] at hpm
      cases hpm
      obtain ⟨rfl, x6⟩ := hh.error
      exact ⟨rfl, ((Y5.out.alloc _).alloc _).trans x6, rfl⟩
    rw [e1] at hh
    have ht : textT l3 = s_shut := by
      have := (getW_inv (u := ()) (by rw [e2])).1
      exact isT_text this
    rw [ht] at hh
    rw [e2, andThen_ok] at hpm
    cases hpm
    obtain ⟨v6, rfl, ⟨k6, q6, rfl⟩, P6, x6⟩ := hh.ok
    have y56 : ExtX (· = pb) w5 w6 := (((ExtX.refl w5).alloc _).alloc _).trans x6
    have hB6 := ((Blk.new w5 _ _).alloc _).nez x6 (by omega)
    have hZ6 := HZ5.out.nez y56 (by omega)
    obtain ⟨c0, c1, c2, c3, c4, c5, c6, c7⟩ := hB6.eight
    obtain ⟨z0, z1, z2, z3, z4, z5, z6, z7⟩ := hZ6.eight
    obtain ⟨g0, g1, g2, g3, g4, g5, g6, g7⟩ := hZ6.frozen8
    have hlB := hB6.lt
    have hlZ := hZ6.lt
    have HL : Hid (Laid8 pb w w6 x ks ak nk ck l4) := Lib.hid ⟨hZ6, HFX.out, k1, k2, HTk.out.extx (X := (· = pb)) y56 (fun b e => by have e : b = pb := e; show b ≤ w.heap.size; omega), P6, Y5.out.trans y56, hlt⟩
    clear hh hB6 hZ6 x6 y56 P6 e1 e2 ht hc
    go_wp2_with fail
    exact HL.out.ret (fun w2 r0 r1 r2 r3 r4 r5 r6 r7 => by simp [results, Tryz.results139, go_sem, r0, r1, r2, r3, r4, r5, r6, r7]) rfl
  | true =>
    rw [if_pos hc] at hpm
    have hi3 : isT [s_comma, s_shut] l3 = true := by rw [isT_two, hc, Bool.true_or]
    have e1 : getWs [s_comma, s_shut] l3 = .ok (s_comma, l3.tail) := by unfold getWs; rw [if_pos hi3, isT_text hc]
    rw [e1] at hh
    have he4 : Ended l3.tail := (HE3.out.is_ hc).1
    obtain ⟨v6, rfl, ⟨k6, q6, rfl⟩, P6, x6⟩ := hh.ok
    generalize l3.tail = l4 at *
    have y56 : ExtX (· = pb) w5 w6 := (((ExtX.refl w5).alloc _).alloc _).trans x6
    have HB6 := Lib.hid (((Blk.new w5 28 #[.int .u8 x.k, .int .u8 x.op, .int .i64 x.pos, .int .i64 x.n, .string x.name, .string x.arg, .string x.exn, .slice ak nk ck]).alloc (.cells #[.string ⟨#[44]⟩, .string ⟨#[41]⟩] 9)).nez x6 (by omega))
    have HZ6 := Lib.hid (HZ5.out.nez y56 (by omega))
    have HT6 := Lib.hid (HT5.out.nez y56 (by omega))
    have HTk6 := Lib.hid (HTk.out.extx (X := (· = pb)) y56 (fun b e => by have e : b = pb := e; show b ≤ w.heap.size; omega))
    have HP6 := Lib.hid P6
    have Y6 := Lib.hid (Y5.out.trans y56)
    have HE4 := Lib.hid he4
    have HPM6 := Lib.hid hpm
    have hl60 := HZ6.out.lt
    have hl61 := HB6.out.lt
    clear hh x6 y56 P6 e1 hc hi3 he4 hpm
    go_wp2_with fail
    cases e7 : parseF f .expr l4 with
    | none => have := HPM6.out; rw [e7] at this; cases this
    | some r7 =>
    refine (HE.out pb w6 l4 r7 HP6.out HE4.out e7).mono ?_
    intro e w7 hh
    have hpm := HPM6.out
    rw [e7] at hpm
    cases r7 with
    | error l' =>
      cases hpm
      obtain ⟨rfl, x7⟩ := hh.error
      exact ⟨rfl, Y6.out.trans x7, rfl⟩
    | ok p7 =>
    obtain ⟨⟨xb, kb⟩, l5⟩ := p7
    rw [andThen_ok] at hpm
    have he5 : Ended l5 := (parseF_told HE4.out e7).1
    obtain ⟨v, rfl, ⟨ab, nb, cb, rfl, fb, b1', b2', hTb⟩, P7, x7⟩ := hh.ok
    have HB7 := Lib.hid (HB6.out.nez x7 (by omega))
    have HZ7 := Lib.hid (HZ6.out.nez x7 (by omega))
    have HT7 := Lib.hid (HT6.out.nez x7 (by omega))
    have HTk7 := Lib.hid (HTk6.out.extx (X := (· = pb)) x7 (fun b e => by have e : b = pb := e; show b ≤ w.heap.size; omega))
    have HTb7 := Lib.hid (show IsTmsA (fun b => b ≤ w.heap.size) w7 kb ab nb from hTb.off fun b _ hb => (by have hb : b ≤ w.heap.size := hb; omega))
    have HFB := Lib.hid fb
    have HP7 := Lib.hid P7
    have Y7 := Lib.hid (Y6.out.trans x7)
    have HE5 := Lib.hid he5
    have HPM7 := Lib.hid hpm
    have hl70 := HZ7.out.lt
    have hl71 := HB7.out.lt
    clear hh x7 P7 e7 he5 hpm hTb fb
    go_wp2_with fail
    refine (KW.out [s_shut] _ _ _ 1 (by omega) (row_one1 w7 _ _ _) ((HP7.out.alloc _).alloc _) HE5.out).mono ?_
    intro e w8 hh
    have hpm := HPM7.out
    rcases getWs_one s_shut l5 with ⟨l', e1, e2⟩ | ⟨l6, e1, e2, -⟩
    · rw [e1] at hh
      rw [e2] at hpm
      cases hpm
      obtain ⟨rfl, x8⟩ := hh.error
      exact ⟨rfl, ((Y7.out.alloc _).alloc _).trans x8, rfl⟩
    rw [e1] at hh
    rw [e2, andThen_ok] at hpm
    cases hpm
    obtain ⟨v8, rfl, ⟨k8, q8, rfl⟩, P8, x8⟩ := hh.ok
    have y78 : ExtX (· = pb) w7 w8 := (((ExtX.refl w7).alloc _).alloc _).trans x8
    have hB8 := HB7.out.nez y78 (by omega)
    have hC8 := ((Blk.new w7 28 #[.int .u8 xb.k, .int .u8 xb.op, .int .i64 xb.pos, .int .i64 xb.n, .string xb.name, .string xb.arg, .string xb.exn, .slice ab nb cb]).alloc (.cells #[.string ⟨#[41]⟩] 9)).nez x8 (by omega)
    have hZ8 := HZ7.out.nez y78 (by omega)
    have hT8 := HT7.out.nez y78 (by omega)
    obtain ⟨c0, c1, c2, c3, c4, c5, c6, c7⟩ := hB8.eight
    obtain ⟨d0, d1, d2, d3, d4, d5, d6, d7⟩ := hC8.eight
    have t2 := hT8.cell 2
    simp at t2
    have HZ8 := Lib.hid hZ8
    have HP8 := Lib.hid P8
    have Y8 := Lib.hid (Y7.out.trans y78)
    have HTk8 := Lib.hid (HTk7.out.extx (X := (· = pb)) y78 (fun b e => by have e : b = pb := e; show b ≤ w.heap.size; omega))
    have HTb8 := Lib.hid (HTb7.out.extx (X := (· = pb)) y78 (fun b e => by have e : b = pb := e; show b ≤ w.heap.size; omega))
    have hl80 := hZ8.lt
    clear hh hB8 hC8 hZ8 hT8 x8 y78 P8 e1 e2
    go_wp2_with fail
    refine (parse_node _ _ _ _ _ _).mono ?_
    rintro e w9 ⟨rfl, x9⟩
    have hG9 := blk_top x9
    have y9 : Ext w8 w9 := by (exact eX)
    have hZ9 := HZ8.out.ext y9
    obtain ⟨z0, z1, z2, z3, z4, z5, z6, z7⟩ := hZ9.eight
    obtain ⟨g0, g1, g2, g3, g4, g5, g6, g7⟩ := hZ9.frozen8
    have hlZ := hZ9.lt
    have HL : Hid (Laid8 pb w w9 (hd0 3 tk.pos) [.mk x ks, .mk xb kb] (some ⟨w8.heap.size, 0, none⟩) 2 2 l6) := Lib.hid ⟨hZ9, HF3.out, Nat.le_refl _, by omega, pair_row (A := fun b => b ≤ w.heap.size) y9 k1 k2 b1' b2' HFX.out HFB.out HTk8.out HTb8.out (by show ¬ w8.heap.size ≤ w.heap.size; omega) hG9, HP8.out.ext y9, Y8.out.then_ y9, hlt⟩
    clear hG9 hZ9 x9 y9
    go_wp2_with fail
    exact HL.out.ret (fun w2 r0 r1 r2 r3 r4 r5 r6 r7 => by simp [results, Tryz.results139, go_sem, r0, r1, r2, r3, r4, r5, r6, r7]) rfl
/-- All of unary. -/
theorem parse_unary (f : Nat) (hU : Does 139 .unary f) (hE : Does 31 .expr f) : Does 139 .unary (f + 1) := by
  intro pb w l r h he hp
  cases l with
  | nil => cases he
  | cons tk l2 =>
  cases hi : isT [s_bang, w_ref, w_fst, w_snd] (tk :: l2) with
  | true => exact parse_unary_pre f hU pb tk l2 r w h he hi hp
  | false =>
  cases hi2 : isT [w_raise] (tk :: l2) with
  | true => exact parse_unary_raise f hU pb tk l2 r w h he hi hi2 hp
  | false =>
  by_cases n1 : tk.k = 1
  · obtain ⟨k, s, ps⟩ := tk
    obtain rfl : k = 1 := n1
    exact parse_unary_num f pb s ps l2 r w h he hp
  by_cases n2 : tk.k = 2
  · obtain ⟨k, s, ps⟩ := tk
    obtain rfl : k = 2 := n2
    exact parse_unary_name f pb s ps l2 r w h he hp
  exact parse_unary_open f hE pb tk l2 r w h he hi hi2 n1 n2 hp
end Go.Proofs.YtaioeailgknfjaaGreatDoor
namespace Go.Proofs.YtaioeailgknfjaaGreatDoor
open Go Go.RowKit Go.Sort

/-- What kids of a term must not lie in. -/
def KidA (bt : Nat) (v : Value) : Nat → Prop := fun b => b ≤ bt ∨ v.ownBlock = some b
/-- A term is being laid: the parser's pointer, the term's cells, the row of its kids. -/
structure Sub8 (pb b1 bt : Nat) (x : Hd) (ms : List Tm) (a : Option Addr) (c : Nat) (xs : List Value) (w : World) : Prop where
  ptr : Blk w b1 60 #[.pointer (some ⟨pb, 0, none⟩)]
  tm : Blk w bt 28 #[.int .u8 x.k, .int .u8 x.op, .int .i64 x.pos, .int .i64 x.n, .string x.name, .string x.arg, .string x.exn, .slice a ms.length c]
  own : w.ownsRow (bt + 1) 28 8 (.slice a ms.length c) ms.length xs
  flat : FlatA (KidA bt (.slice a ms.length c)) w ms xs
  le : ms.length ≤ c
  cap : c ≤ 9223372036854775807
  o1 : pb < b1
  o2 : b1 < bt
theorem owns_keep {A : Nat → Prop} {w w' : World} (hx : ExtX A w w') {base : Nat} {e : TypeId} {size n : Nat} {v : Value} {xs : List Value} (hA : ∀ k, A k → k < base) (h : w.ownsRow base e size v n xs) : w'.ownsRow base e size v n xs := by
  refine ⟨h.1, h.2.imp id ?_⟩
  rintro ⟨g, cap, cur, rfl, hg, hh, r⟩
  exact ⟨g, cap, cur, rfl, hg, (hx.block g (h.lt g rfl).2 (fun e => by have := hA g e; omega)).trans hh, r⟩
theorem Sub8.extx {pb b1 bt : Nat} {x : Hd} {ms : List Tm} {a : Option Addr} {c : Nat} {xs : List Value} {w w' : World} (h : Sub8 pb b1 bt x ms a c xs w) (hx : ExtX (· = pb) w w') : Sub8 pb b1 bt x ms a c xs w' := by
  have o1 := h.o1
  have o2 := h.o2
  exact ⟨h.ptr.nez hx (by omega), h.tm.nez hx (by omega), owns_keep hx (fun k e => by have e : k = pb := e; omega) h.own, h.flat.move (fun _ _ h => h) (fun p v hp hv => hx.cell (show ¬ p.block = pb from fun e => hp (.inl (by omega))) hv), h.le, h.cap, o1, o2⟩
theorem Sub8.ext {pb b1 bt : Nat} {x : Hd} {ms : List Tm} {a : Option Addr} {c : Nat} {xs : List Value} {w w' : World} (h : Sub8 pb b1 bt x ms a c xs w) (hx : Ext w w') : Sub8 pb b1 bt x ms a c xs w' := h.extx (.of hx)
/-- Behind the append: the row is longer, its last term is to be laid. -/
structure Half8 (pb b1 bt : Nat) (x : Hd) (ms : List Tm) (a : Option Addr) (c : Nat) (y : Hd) (k : List Tm) (ak : Option Addr) (lk ck : Nat) (g c5 : Nat) (xs : List Value) (w : World) : Prop where
  ptr : Blk w b1 60 #[.pointer (some ⟨pb, 0, none⟩)]
  tm : Blk w bt 28 #[.int .u8 x.k, .int .u8 x.op, .int .i64 x.pos, .int .i64 x.n, .string x.name, .string x.arg, .string x.exn, .slice a ms.length c]
  own : w.ownsRow (bt + 1) 28 8 (.slice (some ⟨g, 0, none⟩) (ms.length + 1) c5) (ms.length + 1) (xs ++ zeroT.toList)
  flat : FlatA (fun b => b ≤ bt ∨ g = b) w ms xs
  kid : IsTmsA (fun b => b ≤ bt ∨ g = b) w k ak lk
  fits : y.Fits
  lek : lk ≤ ck
  capk : ck ≤ 9223372036854775807
  le : ms.length + 1 ≤ c5
  cap : c5 ≤ 9223372036854775807
  len : xs.length = ms.length * 8
  up : bt < g
  o1 : pb < b1
  o2 : b1 < bt
theorem Half8.of {pb b1 bt : Nat} {x : Hd} {ms : List Tm} {a : Option Addr} {c : Nat} {xs : List Value} {W1 W2 W3 w5 : World} {y : Hd} {k : List Tm} {ak : Option Addr} {lk ck : Nat} {v' : Value} (hS : Sub8 pb b1 bt x ms a c xs W1) (hx2 : ExtX (· = pb) W1 W2) (hx3 : Ext W2 W3)
    (hk : IsTmsA (fun b => b < W1.heap.size) W2 k ak lk) (h1 : lk ≤ ck) (h2 : ck ≤ 9223372036854775807) (hf : y.Fits)
    (ho : w5.ownsRow (bt + 1) 28 8 v' (ms.length + 1) (xs ++ zeroT.toList)) (hg : W3.grownBy w5 (Value.slice a ms.length c).ownBlock)
    (hw : v'.ownBlock = (Value.slice a ms.length c).ownBlock ∨ ∀ k, v'.ownBlock = some k → W3.heap.size ≤ k) :
    ∃ g5 c5, v' = .slice (some ⟨g5, 0, none⟩) (ms.length + 1) c5 ∧ Half8 pb b1 bt x ms a c y k ak lk ck g5 c5 xs w5 := by
  have o1 := hS.o1
  have o2 := hS.o2
  obtain ⟨g5, c5, rfl, hg5, hl5, hn5, hm5, hcells⟩ := owns_open ho (by omega)
  have hx13 : ExtX (· = pb) W1 W3 := hx2.then_ hx3
  have hrow : ∀ k, (Value.slice a ms.length c).ownBlock = some k → bt + 1 ≤ k ∧ k < W1.heap.size := fun k hk => hS.own.lt k hk
  have hB3 := hS.tm.nez hx13 (by omega)
  have hP3 := hS.ptr.nez hx13 (by omega)
  have hwhere : (Value.slice a ms.length c).ownBlock = some g5 ∨ W3.heap.size ≤ g5 := by
    rcases hw with hw | hw
    · exact .inl hw.symm
    · exact .inr (hw g5 rfl)
  have hkeep : ∀ (p : Addr) (u : Value), (Value.slice a ms.length c).ownBlock ≠ some p.block → W3.cell? p = some u → w5.cell? p = some u := fun p u hr hu => hg.cell hu (fun e => hr e.symm)
  refine ⟨g5, c5, rfl, (hg.block b1 hP3.lt (fun e => by have := hrow _ e.symm; omega)).trans hP3, (hg.block bt hB3.lt (fun e => by have := hrow _ e.symm; omega)).trans hB3, ho, ?_, ?_, hf, h1, h2, hn5, hm5, hS.flat.length, by omega, o1, o2⟩
  · refine hS.flat.move ?_ ?_
    · rintro b hb (hb' | hb')
      · exact .inl hb'
      · rcases hwhere with hr | hr
        · exact .inr (by rw [hr, hb'])
        · have := hx13.size; omega
    · intro p u hA hu
      have hA : ¬ (p.block ≤ bt ∨ (Value.slice a ms.length c).ownBlock = some p.block) := hA
      exact hkeep p u (fun e => hA (.inr e)) (hx13.cell (show ¬ p.block = pb from fun e => hA (.inl (by omega))) hu)
  · refine hk.move ?_ ?_
    · rintro b hb (hb' | hb')
      · have := hS.tm.lt; omega
      · rcases hwhere with hr | hr
        · have := hrow g5 hr; omega
        · have := hx3.size; omega
    · intro p u hA hu
      have hA : ¬ p.block < W1.heap.size := hA
      exact hkeep p u (fun e => hA (hrow _ e).2) (hx3.cell hu)
theorem set_end (xs : List Value) (n : Nat) (hn : xs.length = n * 8) (u0 u1 u2 u3 u4 u5 u6 u7 : Value) :
    ((((((((xs ++ zeroT.toList).set (n * 8) u0).set (n * 8 + 1) u1).set (n * 8 + 2) u2).set (n * 8 + 3) u3).set (n * 8 + 4) u4).set (n * 8 + 5) u5).set (n * 8 + 6) u6).set (n * 8 + 7) u7 = xs ++ [u0, u1, u2, u3, u4, u5, u6, u7] := by
  rw [← hn]
  simp [List.set_append, zeroT]
theorem Sub8.hang {pb b1 bt : Nat} {x : Hd} {ms : List Tm} {t : Tm} {a0 : Option Addr} {n0 c0 g c5 : Nat} {ys : List Value} {W : World} (hp : Blk W b1 60 #[.pointer (some ⟨pb, 0, none⟩)])
    (ht : Blk W bt 28 #[.int .u8 x.k, .int .u8 x.op, .int .i64 x.pos, .int .i64 x.n, .string x.name, .string x.arg, .string x.exn, .slice a0 n0 c0])
    (hO : W.ownsRow (bt + 1) 28 8 (.slice (some ⟨g, 0, none⟩) (ms.length + 1) c5) (ms.length + 1) ys) (hF : FlatA (fun b => b ≤ bt ∨ g = b) W (ms ++ [t]) ys)
    (le : ms.length + 1 ≤ c5) (cap : c5 ≤ 9223372036854775807) (up : bt < g) (o1 : pb < b1) (o2 : b1 < bt) :
    Sub8 pb b1 bt x (ms ++ [t]) (some ⟨g, 0, none⟩) c5 ys (W.setCell ⟨bt, 7, none⟩ (.slice (some ⟨g, 0, none⟩) (ms.length + 1) c5)) := by
  have hlen : (ms ++ [t]).length = ms.length + 1 := by simp
  refine ⟨hp.far (p := ⟨bt, 7, none⟩) (by show b1 ≠ bt; omega) _, ?_, ?_, ?_, by rw [hlen]; exact le, cap, o1, o2⟩
  · rw [hlen]
    have := ht.set_ 7 (.slice (some ⟨g, 0, none⟩) (ms.length + 1) c5)
    simpa using this
  · rw [hlen]
    exact hO.kept ⟨rfl, rfl, rfl, by simp [World.setCell], fun k _ hk => Below.heap_setCell _ _ _ _ (fun e => hk (by simp at e; rw [e]))⟩ (.inr (by
      show some g ≠ some bt
      intro e
      have := Option.some.inj e
      omega))
  · rw [hlen]
    refine hF.move ?_ fun p v hp hv => (World.cell?_setCell_other _ _ p _ (fun e => hp (.inl (by subst e; exact Nat.le_refl _)))).trans hv
    rintro b _ (hb | hb)
    · exact .inl hb
    · exact .inr (Option.some.inj hb)
/-- The last term is laid, ahead of the term's own field. -/
theorem Half8.lay {pb b1 bt : Nat} {x : Hd} {ms : List Tm} {a : Option Addr} {c : Nat} {xs : List Value} {w : World} {y : Hd} {k : List Tm} {ak : Option Addr} {lk ck g c5 : Nat} (h : Half8 pb b1 bt x ms a c y k ak lk ck g c5 xs w) :
    Sub8 pb b1 bt x (ms ++ [.mk y k]) (some ⟨g, 0, none⟩) c5 (xs ++ (tcells y ak lk ck).toList) (((((((((w.setCell ⟨g, ms.length * 8, none⟩ (.int .u8 y.k)).setCell ⟨g, ms.length * 8 + 1, none⟩ (.int .u8 y.op)).setCell ⟨g, ms.length * 8 + 2, none⟩ (.int .i64 y.pos)).setCell ⟨g, ms.length * 8 + 3, none⟩ (.int .i64 y.n)).setCell ⟨g, ms.length * 8 + 4, none⟩ (.string y.name)).setCell ⟨g, ms.length * 8 + 5, none⟩ (.string y.arg)).setCell ⟨g, ms.length * 8 + 6, none⟩ (.string y.exn)).setCell ⟨g, ms.length * 8 + 7, none⟩ (.slice ak lk ck)).setCell ⟨bt, 7, none⟩ (.slice (some ⟨g, 0, none⟩) (ms.length + 1) c5)) := by
  have o1 := h.o1
  have o2 := h.o2
  have up := h.up
  have hlen : (ms ++ [Tm.mk y k]).length = ms.length + 1 := by simp
  have hO := ((((((((h.own.stored (ms.length * 8) (.int .u8 y.k)).1.stored (ms.length * 8 + 1) (.int .u8 y.op)).1.stored (ms.length * 8 + 2) (.int .i64 y.pos)).1.stored (ms.length * 8 + 3) (.int .i64 y.n)).1.stored (ms.length * 8 + 4) (.string y.name)).1.stored (ms.length * 8 + 5) (.string y.arg)).1.stored (ms.length * 8 + 6) (.string y.exn)).1.stored (ms.length * 8 + 7) (.slice ak lk ck)).1
  rw [set_end xs ms.length h.len] at hO
  have far : ∀ {b : Nat} {t : TypeId} {cs : Array Value} {W : World} {i : Nat} {u : Value}, b ≠ g → Blk W b t cs → Blk (W.setCell ⟨g, i, none⟩ u) b t cs := fun hb hB => hB.far (p := ⟨g, _, none⟩) hb _
  have keep : ∀ {W : World} {i : Nat} {u : Value} {l : List Tm} {xs : List Value}, FlatA (fun b => b ≤ bt ∨ g = b) W l xs → FlatA (fun b => b ≤ bt ∨ g = b) (W.setCell ⟨g, i, none⟩ u) l xs := fun hF => hF.move (fun _ _ h => h) fun q _ hq hv => (World.cell?_setCell_other _ _ q _ (fun e => hq (.inr (by subst e; rfl)))).trans hv
  have keepT : ∀ {W : World} {i : Nat} {u : Value} {l : List Tm} {a : Option Addr} {n : Nat}, IsTmsA (fun b => b ≤ bt ∨ g = b) W l a n → IsTmsA (fun b => b ≤ bt ∨ g = b) (W.setCell ⟨g, i, none⟩ u) l a n := fun hF => hF.setCell (p := ⟨g, _, none⟩) (.inr rfl) _
  have hne : b1 ≠ g := by omega
  have hne2 : bt ≠ g := by omega
  have hT := far (i := ms.length * 8 + 7) (u := .slice ak lk ck) hne2 (far (i := ms.length * 8 + 6) (u := .string y.exn) hne2 (far (i := ms.length * 8 + 5) (u := .string y.arg) hne2 (far (i := ms.length * 8 + 4) (u := .string y.name) hne2 (far (i := ms.length * 8 + 3) (u := .int .i64 y.n) hne2 (far (i := ms.length * 8 + 2) (u := .int .i64 y.pos) hne2 (far (i := ms.length * 8 + 1) (u := .int .u8 y.op) hne2 (far (i := ms.length * 8) (u := .int .u8 y.k) hne2 h.tm)))))))
  have hP := far (i := ms.length * 8 + 7) (u := .slice ak lk ck) hne (far (i := ms.length * 8 + 6) (u := .string y.exn) hne (far (i := ms.length * 8 + 5) (u := .string y.arg) hne (far (i := ms.length * 8 + 4) (u := .string y.name) hne (far (i := ms.length * 8 + 3) (u := .int .i64 y.n) hne (far (i := ms.length * 8 + 2) (u := .int .i64 y.pos) hne (far (i := ms.length * 8 + 1) (u := .int .u8 y.op) hne (far (i := ms.length * 8) (u := .int .u8 y.k) hne h.ptr)))))))
  have hF8 := keep (i := ms.length * 8 + 7) (u := .slice ak lk ck) (keep (i := ms.length * 8 + 6) (u := .string y.exn) (keep (i := ms.length * 8 + 5) (u := .string y.arg) (keep (i := ms.length * 8 + 4) (u := .string y.name) (keep (i := ms.length * 8 + 3) (u := .int .i64 y.n) (keep (i := ms.length * 8 + 2) (u := .int .i64 y.pos) (keep (i := ms.length * 8 + 1) (u := .int .u8 y.op) (keep (i := ms.length * 8) (u := .int .u8 y.k) h.flat)))))))
  have hK8 := keepT (i := ms.length * 8 + 7) (u := .slice ak lk ck) (keepT (i := ms.length * 8 + 6) (u := .string y.exn) (keepT (i := ms.length * 8 + 5) (u := .string y.arg) (keepT (i := ms.length * 8 + 4) (u := .string y.name) (keepT (i := ms.length * 8 + 3) (u := .int .i64 y.n) (keepT (i := ms.length * 8 + 2) (u := .int .i64 y.pos) (keepT (i := ms.length * 8 + 1) (u := .int .u8 y.op) (keepT (i := ms.length * 8) (u := .int .u8 y.k) h.kid)))))))
  exact Sub8.hang hP hT hO (FlatA.append hF8 ⟨ak, lk, ck, [], by simp [Tm.head, tcells], h.fits, h.lek, h.capk, hK8, rfl⟩) h.le h.cap up o1 o2
/-- The same two stores in another order. -/
theorem set_comm {w : World} {p q : Addr} {u v : Value} (h : p.block ≠ q.block) : (w.setCell p u).setCell q v = (w.setCell q v).setCell p u := by
  unfold World.setCell
  congr 1
  refine Array.ext_getElem? fun i => ?_
  simp only [Array.getElem?_modify]
  by_cases h1 : p.block = i
  · by_cases h2 : q.block = i
    · exact (h (h1.trans h2.symm)).elim
    · simp [h1, h2]
  · by_cases h2 : q.block = i
    · simp [h1, h2]
    · simp [h1, h2]
theorem Half8.lay2 {pb b1 bt : Nat} {x : Hd} {ms : List Tm} {a : Option Addr} {c : Nat} {xs : List Value} {w : World} {y : Hd} {k : List Tm} {ak : Option Addr} {lk ck g c5 : Nat} (h : Half8 pb b1 bt x ms a c y k ak lk ck g c5 xs w) :
    Sub8 pb b1 bt x (ms ++ [.mk y k]) (some ⟨g, 0, none⟩) c5 (xs ++ (tcells y ak lk ck).toList) (((((((((w.setCell ⟨bt, 7, none⟩ (.slice (some ⟨g, 0, none⟩) (ms.length + 1) c5)).setCell ⟨g, ms.length * 8, none⟩ (.int .u8 y.k)).setCell ⟨g, ms.length * 8 + 1, none⟩ (.int .u8 y.op)).setCell ⟨g, ms.length * 8 + 2, none⟩ (.int .i64 y.pos)).setCell ⟨g, ms.length * 8 + 3, none⟩ (.int .i64 y.n)).setCell ⟨g, ms.length * 8 + 4, none⟩ (.string y.name)).setCell ⟨g, ms.length * 8 + 5, none⟩ (.string y.arg)).setCell ⟨g, ms.length * 8 + 6, none⟩ (.string y.exn)).setCell ⟨g, ms.length * 8 + 7, none⟩ (.slice ak lk ck)) := by
  have H := h.lay
  have up := h.up
  have hne : g ≠ bt := by omega
  rw [set_comm (p := ⟨g, ms.length * 8 + 7, none⟩) (q := ⟨bt, 7, none⟩) hne, set_comm (p := ⟨g, ms.length * 8 + 6, none⟩) (q := ⟨bt, 7, none⟩) hne, set_comm (p := ⟨g, ms.length * 8 + 5, none⟩) (q := ⟨bt, 7, none⟩) hne, set_comm (p := ⟨g, ms.length * 8 + 4, none⟩) (q := ⟨bt, 7, none⟩) hne, set_comm (p := ⟨g, ms.length * 8 + 3, none⟩) (q := ⟨bt, 7, none⟩) hne, set_comm (p := ⟨g, ms.length * 8 + 2, none⟩) (q := ⟨bt, 7, none⟩) hne, set_comm (p := ⟨g, ms.length * 8 + 1, none⟩) (q := ⟨bt, 7, none⟩) hne, set_comm (p := ⟨g, ms.length * 8, none⟩) (q := ⟨bt, 7, none⟩) hne] at H
  exact H
theorem ExtX.grow_ {A : Nat → Prop} {a w w' : World} {row : Option Nat} (h : ExtX A a w) (g : w.grownBy w' row) (hA : ∀ k, row = some k → A k) : ExtX A a w' :=
  ⟨g.os.trans h.os, g.tape.trans h.tape, g.output.trans h.output, Nat.le_trans h.size g.size, fun k hk ha => (g.block k (Nat.lt_of_lt_of_le hk h.size) (fun e => ha (hA k e.symm))).trans (h.block k hk ha)⟩
theorem infoTmP : (Tryz.prog.info? 28).map (fun i => (i.zero, i.size, i.bytes)) = some (some (.agg #[.int .u8 0, .int .u8 0, .int .i64 0, .int .i64 0, .string ⟨#[]⟩, .string ⟨#[]⟩, .string ⟨#[]⟩, .slice none 0 0]), 8, 96) := by kernel_rfl
theorem zeroT_one : ∀ u ∈ zeroT.toList, u.oneCell' = true := by
  intro u hu
  simp [zeroT] at hu
  rcases hu with rfl | rfl | rfl | rfl | rfl <;> rfl
theorem zero_at {w : World} {g : Nat} {t : TypeId} (h : Blk w g t zeroT) : ∀ j u, zeroT.toList[j]? = some u → w.cell? ((⟨g, 0, none⟩ : Addr).add j) = some u := fun j u hu => by
  rw [Addr.add_lit, Nat.zero_add]
  rw [Array.getElem?_toList] at hu
  exact (h.cell j).trans hu
/-- The cells of the last term of a row. -/
theorem Half8.cells {pb b1 bt : Nat} {x : Hd} {ms : List Tm} {a : Option Addr} {c : Nat} {xs : List Value} {w : World} {y : Hd} {k : List Tm} {ak : Option Addr} {lk ck g c5 : Nat} (h : Half8 pb b1 bt x ms a c y k ak lk ck g c5 xs w) :
    w.cell? ⟨g, ms.length * 8, none⟩ = some (.int .u8 0) ∧ w.cell? ⟨g, ms.length * 8 + 1, none⟩ = some (.int .u8 0) ∧ w.cell? ⟨g, ms.length * 8 + 2, none⟩ = some (.int .i64 0) ∧ w.cell? ⟨g, ms.length * 8 + 3, none⟩ = some (.int .i64 0) ∧ w.cell? ⟨g, ms.length * 8 + 4, none⟩ = some (.string ⟨#[]⟩) ∧ w.cell? ⟨g, ms.length * 8 + 5, none⟩ = some (.string ⟨#[]⟩) ∧ w.cell? ⟨g, ms.length * 8 + 6, none⟩ = some (.string ⟨#[]⟩) ∧ w.cell? ⟨g, ms.length * 8 + 7, none⟩ = some (.slice none 0 0) := by
  have key : ∀ i, i < 8 → w.cell? ⟨g, ms.length * 8 + i, none⟩ = zeroT.toList[i]? := fun i hi => by
    rw [h.own.cellAt (ms.length * 8 + i) (by omega), List.getElem?_append_right (by rw [h.len]; omega), h.len]
    congr 1
    omega
  exact ⟨key 0 (by omega), key 1 (by omega), key 2 (by omega), key 3 (by omega), key 4 (by omega), key 5 (by omega), key 6 (by omega), key 7 (by omega)⟩
theorem Prs.grown_ {w w' : World} {pb : Nat} {l : List Tk} {row : Option Nat} (h : Prs w pb l) (g : w.grownBy w' row) (hA : ∀ k, row = some k → pb < k) : Prs w' pb l := by
  obtain ⟨b, o, n, c, i, L, hB, h1, h2, hT, hne, hl, hi⟩ := h
  have hx : ExtX (fun k => row = some k) w w' := (ExtX.refl w).grow_ g (fun k hk => hk)
  exact ⟨b, o, n, c, i, L, hB.extx hx (fun e => by have := hA _ e; omega), h1, h2, hT.extx hx (fun e => by have := hA _ e; omega), hne, hl, hi⟩
end Go.Proofs.YtaioeailgknfjaaGreatDoor

/- The walk of enclaveref05.parts: exprs behind words. -/
namespace Go.Proofs.YtaioeailgknfjaaGreatDoor
open Go Go.RowKit Go.Sort

/-- Exprs behind words; all kids. -/
def partsF (f : Nat) : List ByteArray → List Tm → List Tk → Option (Res (List Tm))
  | [], acc, l => some (.ok (acc, l))
  | x :: xs, acc, l => andThen (some (if x = ByteArray.empty then .ok ((), l) else getW x l)) fun _ l1 => andThen (parseF f .expr l1) fun t l2 => partsF f xs (acc ++ [t]) l2
/-- What parts hands back. -/
def RetK (L : List Tk) (a : Option Addr) (n c : Nat) (w : World) (m : Nat) (r : Res (List Tm)) (e : Ending) (w' : World) : Prop :=
  Ext w w' ∧ ∃ (i : Nat) (bad : Bool) (v : Value) (xs : List Value), e = .returned (.tuple #[.agg #[.slice a n c, .int .i64 (i : Nat), .bool bad], v]) ∧ StS L n i bad r ∧ w'.ownsRow w.heap.size 28 8 v m xs ∧ (∀ u ∈ xs, u.oneCell' = true) ∧ ∀ ts l, r = .ok (ts, l) → FlatA (fun b => b < w.heap.size ∨ v.ownBlock = some b) w' ts xs
theorem FlatA.grown {sb : Nat} {v v' : Value} {w w' : World} {l : List Tm} {xs : List Value} (h : FlatA (KidA sb v) w l xs) (hg : w.grownBy w' v.ownBlock) {N : Nat} (hw : v'.ownBlock = v.ownBlock ∨ ∀ k, v'.ownBlock = some k → N ≤ k) (hN : w.heap.size ≤ N) : FlatA (KidA sb v') w' l xs :=
  h.move (fun b hb hA' => by
    rcases hA' with h | h
    · exact .inl h
    · rcases hw with hw | hw
      · exact .inr (by rw [← hw]; exact h)
      · have := hw b h; omega) fun p u hA hu => hg.cell hu (fun e => hA (.inr e.symm))
theorem IsTmsA.grown5 {A : Nat → Prop} {sb : Nat} {v v' : Value} {w w' : World} {l : List Tm} {aa : Option Addr} {len : Nat} (h : IsTmsA A w l aa len) (hA : ∀ b, KidA sb v b → A b) (hg : w.grownBy w' v.ownBlock) {N : Nat} (hw : v'.ownBlock = v.ownBlock ∨ ∀ k, v'.ownBlock = some k → N ≤ k) (hN : w.heap.size ≤ N) : IsTmsA (KidA sb v') w' l aa len :=
  h.move (fun b hb hA' => by
    rcases hA' with h | h
    · exact hA b (.inl h)
    · rcases hw with hw | hw
      · exact hA b (.inr (by rw [← hw]; exact h))
      · have := hw b h; omega) fun p u hq hu => hg.cell hu (fun e => hq (hA _ (.inr e.symm)))
theorem owns_none5 (w : World) (base : Nat) (e : TypeId) (size : Nat) (hb : base ≤ w.heap.size) : (w.alloc (.cells #[] e)).ownsRow base e size (.slice (some ⟨w.heap.size, 0, none⟩) 0 0) 0 [] :=
  ⟨by simp, .inr ⟨w.heap.size, 0, #[], rfl, hb, heap_alloc_new w _, Nat.le_refl _, Nat.zero_le _, by simp, by simp⟩⟩
theorem owns_low {w : World} {base base' : Nat} {e : TypeId} {size n : Nat} {v : Value} {xs : List Value} (h : w.ownsRow base e size v n xs) (hb : base' ≤ base) : w.ownsRow base' e size v n xs := ⟨h.1, h.2.imp id fun ⟨g, cap, cur, e, hg, r⟩ => ⟨g, cap, cur, e, Nat.le_trans hb hg, r⟩⟩
/-- One word's expr. -/
theorem parts_step {f : Nat} {x : ByteArray} {ws : List ByteArray} {r : Res (List Tm)} {q : Res (List Tm)} (hok : ∀ ts l, q = .ok (ts, l) → partsF f (x :: ws) ts l = some r) (her : ∀ l, q = .error l → r = .error l) :
    ∃ (r1 : Res Tm) (q2 : Res (List Tm)), (∀ u l, thenR q (fun l => if x = ByteArray.empty then .ok ((), l) else getW x l) = .ok (u, l) → parseF f .expr l = some r1) ∧ (∀ l, thenR q (fun l => if x = ByteArray.empty then .ok ((), l) else getW x l) = .error l → r1 = .error l) ∧
      (∀ (L : List Tk) (n i : Nat) (bad : Bool), StS L n i bad r1 → StS L n i bad q2) ∧ (∀ ts2 l2, q2 = .ok (ts2, l2) → ∃ ts l t, q = .ok (ts, l) ∧ r1 = .ok (t, l2) ∧ ts2 = ts ++ [t] ∧ partsF f ws ts2 l2 = some r) ∧ (∀ l, q2 = .error l → r = .error l) := by
  cases q with
  | error l =>
    have h := her l rfl
    subst h
    exact ⟨.error l, .error l, fun u l' h => (by cases h), fun l' h => (by cases h; rfl), fun L n i bad h => h, fun ts2 l2 h => (by cases h), fun l' h => (by cases h; rfl)⟩
  | ok p =>
    obtain ⟨ts, l⟩ := p
    have hp := hok ts l rfl
    unfold partsF at hp
    show ∃ (r1 : Res Tm) (q2 : Res (List Tm)), (∀ u l', (if x = ByteArray.empty then .ok ((), l) else getW x l) = .ok (u, l') → parseF f .expr l' = some r1) ∧ (∀ l', (if x = ByteArray.empty then .ok ((), l) else getW x l) = .error l' → r1 = .error l') ∧ _
    generalize (if x = ByteArray.empty then (.ok ((), l) : Res Unit) else getW x l) = g at *
    cases g with
    | error l1 =>
      have hp : some (.error l1) = some r := hp
      cases hp
      exact ⟨.error l1, .error l1, fun u l' h => (by cases h), fun l' h => (by cases h; rfl), fun L n i bad h => h, fun ts2 l2 h => (by cases h), fun l' h => (by cases h; rfl)⟩
    | ok p1 =>
      obtain ⟨u1, l1⟩ := p1
      have hp : andThen (parseF f .expr l1) (fun t l2 => partsF f ws (ts ++ [t]) l2) = some r := hp
      cases hx : parseF f .expr l1 with
      | none => rw [hx] at hp; cases hp
      | some r1 =>
        rw [hx] at hp
        cases r1 with
        | error l2 =>
          have hp : some (.error l2) = some r := hp
          cases hp
          exact ⟨.error l2, .error l2, fun u l' h => (by cases h; exact hx), fun l' h => (by cases h), fun L n i bad h => h, fun ts2 l2 h => (by cases h), fun l' h => (by cases h; rfl)⟩
        | ok p2 =>
          obtain ⟨t, l2⟩ := p2
          have hp : partsF f ws (ts ++ [t]) l2 = some r := hp
          exact ⟨.ok (t, l2), .ok (ts ++ [t], l2), fun u l' h => (by cases h; exact hx), fun l' h => (by cases h), fun L n i bad h => h, fun ts2 l3 h => (by cases h; exact ⟨ts, l, t, rfl, rfl, rfl, hp⟩), fun l' h => (by cases h)⟩
theorem SBlk.ext {w w' : World} {g : Nat} {a : Option Addr} {n c i : Nat} {bad : Bool} (h : SBlk w g a n c i bad) (hx : Ext w w') : SBlk w' g a n c i bad := Blk.ext h hx
theorem FlatA.extx {A X : Nat → Prop} {w w' : World} (hx : ExtX X w w') (hX : ∀ b, X b → A b) {l : List Tm} {xs : List Value} (h : FlatA A w l xs) : FlatA A w' l xs := h.move (fun _ _ h => h) fun p u hA hu => hx.cell (fun g => hA (hX _ g)) hu
theorem FlatA.ext {A : Nat → Prop} {w w' : World} (hx : Ext w w') {l : List Tm} {xs : List Value} (h : FlatA A w l xs) : FlatA A w' l xs := h.move (fun _ _ h => h) fun _ _ _ hu => hx.cell hu
theorem list_at (w : World) (l : List Value) (T : TypeId) : ∀ i u, l[i]? = some u → (w.alloc (.cells l.toArray T)).cell? ((⟨w.heap.size, 0, none⟩ : Addr).add i) = some u := fun i u hu => by
  rw [Addr.add_lit, Nat.zero_add]
  exact (World.cell?_alloc_new w _ _ _).trans (by simpa using hu)
def t8 (x : Hd) (a : Option Addr) (n c : Nat) : List Value := [.int .u8 x.k, .int .u8 x.op, .int .i64 x.pos, .int .i64 x.n, .string x.name, .string x.arg, .string x.exn, .slice a n c]
theorem t8_one (x : Hd) (a : Option Addr) (n c : Nat) : ∀ u ∈ t8 x a n c, u.oneCell' = true := by
  intro u hu
  simp [t8] at hu
  rcases hu with rfl | rfl | rfl | rfl | rfl | rfl | rfl | rfl <;> rfl
theorem IsRow.drop_at {ws : List ByteArray} {j : Nat} {x : ByteArray} (h : ws[j]? = some x) : ws.drop j = x :: ws.drop (j + 1) := by
  have hl : j < ws.length := lt_of_some_ h
  rw [List.drop_eq_getElem_cons hl]
  rw [List.getElem?_eq_getElem hl] at h
  cases h
  rfl
set_option maxRecDepth 60000 in
set_option maxHeartbeats 8000000 in
theorem ref5_parts {α : Type} {f : Nat} (hE : DoesS 44 #[] .expr f) (ws : List ByteArray) (hws : ws.length ≤ 3) (L : List Tk) (a : Option Addr) (n c i : Nat) (bad : Bool) (s : Res α) (r : Res (List Tm)) (w : World) (aw : Option Addr) (hr : IsRow w (vstr ws) aw ws.length) (hL : IsL w L a n c) (hs : StS L n i bad s) (hp : ∀ u l, s = .ok (u, l) → partsF f ws [] l = some r) (he : ∀ l, s = .error l → r = .error l) :
    Calls Tryz.prog 71 #[.agg #[.slice a n c, .int .i64 (i : Nat), .bool bad], .slice aw ws.length ws.length] w (RetK L a n c w ws.length r) := by
  have HR := Lib.hid hr
  have HL := Lib.hid hL
  have HE := Lib.hid hE
  obtain ⟨q0, hq0⟩ : ∃ q0 : Res (List Tm), StS L n i bad q0 ∧ (∀ ts l, q0 = .ok (ts, l) → ts = [] ∧ partsF f ws ts l = some r) ∧ (∀ l, q0 = .error l → r = .error l) := by
    cases s with
    | error l => exact ⟨.error l, hs, fun ts l' h => (by cases h), fun l' h => (by cases h; exact he l rfl)⟩
    | ok q =>
      obtain ⟨u, l⟩ := q
      exact ⟨.ok ([], l), hs, fun ts l' h => (by cases h; exact ⟨rfl, hp u l rfl⟩), fun l' h => by cases h⟩
  have HQ := Lib.hid hq0
  obtain ⟨i0, hi0, hz0, hz1', hz2'⟩ := info_parts infoTmP
  have HI := Lib.hid (And.intro hi0 (And.intro hz0 (And.intro hz1' hz2')))
  clear hr hL hE hs hp he hq0 hi0 hz0 hz1' hz2'
  go_enter Tryz.func71, Tryz.ntmps71
  go_wp2_with fail
  go_loopg [6, 13] (ws.length) (fun g s0 ix wr => ∃ (v : Value) (j i' : Nat) (bad' : Bool) (xs : List Value) (q : Res (List Tm)), v = s0 ∧ g = ws.length - j ∧ ix = .int .i64 j ∧ j ≤ ws.length ∧ wr.ownsRow (w.heap.size + 1 + 1) 28 8 v j xs ∧ (∀ u ∈ xs, u.oneCell' = true) ∧ SBlk wr w.heap.size a n c i' bad' ∧ Blk wr (w.heap.size + 1) 71 #[.slice none 0 0, .int .i64 0, .bool false] ∧ StS L n i' bad' q ∧ (∀ ts l, q = .ok (ts, l) → FlatA (KidA (w.heap.size + 1) v) wr ts xs ∧ partsF f (ws.drop j) ts l = some r) ∧ (∀ l, q = .error l → r = .error l) ∧ Ext w wr)
  case atStart =>
    refine ⟨_, 0, i, bad, [], q0, rfl, rfl, rfl, Nat.zero_le _, ?_, by simp, ?_, ?_, HQ.out.1, ?_, HQ.out.2.2, by (exact eX)⟩
    · have h := owns_none5 ((w.alloc (.cells #[.slice a n c, .int .i64 (i : Nat), .bool bad] 71)).alloc (.cells #[.slice none 0 0, .int .i64 0, .bool false] 71)) (w.heap.size + 1 + 1) 28 8 (by simp)
      rw [World.size_alloc, World.size_alloc] at h
      exact h
    · exact ((Blk.new w 71 #[.slice a n c, .int .i64 (i : Nat), .bool bad]).alloc _).alloc _
    · have h := (Blk.new (w.alloc (.cells #[.slice a n c, .int .i64 (i : Nat), .bool bad] 71)) 71 #[.slice none 0 0, .int .i64 0, .bool false]).alloc (.cells #[] 28)
      rw [World.size_alloc] at h
      exact h
    · intro ts l h
      obtain ⟨rfl, hq⟩ := HQ.out.2.1 ts l h
      exact ⟨by simp [FlatA], hq⟩
  case round =>
    obtain ⟨v, j, i', bad', xs, q, rfl, rfl, rfl, hj, hO, h1, hS, hT, hq, hok, her, hx⟩ := hrel
    by_cases hlt : j < ws.length
    · obtain ⟨x, b, o, g, rfl, qx0⟩ := HR.out.str hlt
      have hbw : b < w.heap.size := World.block_lt_of_cell? _ _ qx0
      have qx := hx.cell qx0
      have nw := fun W (h : ExtX (· = w.heap.size) wr W) => h.cell (p := ⟨b, o + j, none⟩) (show ¬ b = w.heap.size by omega) qx
      have hz : (j : Int) < (ws.length : Int) := by omega
      have hdr := IsRow.drop_at g
      obtain ⟨r1, q2, hr1, her1, hst, hok2, her2⟩ := parts_step (f := f) (x := x) (ws := ws.drop (j + 1)) (r := r) (q := q) (fun ts l h => by rw [← hdr]; exact (hok ts l h).2) her
      have HFL : Hid (∀ ts l, q = .ok (ts, l) → FlatA (KidA (w.heap.size + 1) v) wr ts xs) := Lib.hid fun ts l h => (hok ts l h).1
      have HO := Lib.hid hO
      have H1 := Lib.hid h1
      have HX := Lib.hid hx
      have HST := Lib.hid hst
      have HOK2 := Lib.hid hok2
      have HER2 := Lib.hid her2
      have HS := Lib.hid hS
      have HB := Lib.hid hT
      have hsz := Below.size hx
      clear hdr hok her hst hok2 her2 g
      by_cases hx0 : x = ByteArray.empty
      · subst hx0
        have hs2 : StS L n i' bad' (thenR q fun l => if ByteArray.empty = ByteArray.empty then (.ok ((), l) : Res Unit) else getW ByteArray.empty l) := by
          cases q with
          | error l => exact hq
          | ok p => exact hq
        obtain ⟨W2, hW2⟩ : ∃ W2, W2 = wr := ⟨_, rfl⟩
        obtain ⟨i2, hi2⟩ : ∃ i2, i2 = i' := ⟨_, rfl⟩
        obtain ⟨bad2, hbad2⟩ : ∃ b2, b2 = bad' := ⟨_, rfl⟩
        have HS2 : Hid (SBlk W2 w.heap.size a n c i2 bad2) := Lib.hid (by rw [hW2, hi2, hbad2]; exact HS.out)
        have HB2 : Hid (Blk W2 (w.heap.size + 1) 71 #[.slice none 0 0, .int .i64 0, .bool false]) := Lib.hid (by rw [hW2]; exact HB.out)
        have HY2 : Hid (Ext w W2) := Lib.hid (by rw [hW2]; exact hx)
        have HO2 : Hid (W2.ownsRow (w.heap.size + 1 + 1) 28 8 v j xs) := Lib.hid (by rw [hW2]; exact HO.out)
        have HF2 : Hid (∀ ts l, q = .ok (ts, l) → FlatA (KidA (w.heap.size + 1) v) W2 ts xs) := Lib.hid (by rw [hW2]; exact HFL.out)
        have hs2 : StS L n i2 bad2 (thenR q fun l => if ByteArray.empty = ByteArray.empty then (.ok ((), l) : Res Unit) else getW ByteArray.empty l) := by rw [hi2, hbad2]; exact hs2
        have qx2 : W2.cell? ⟨b, o + j, none⟩ = some (.string ByteArray.empty) := by rw [hW2]; exact qx
        have he0 := empty_list0
        rw [← hW2]
        clear hq hS hT hx nw qx hW2 hi2 hbad2 HS HB HO HFL HX
        have HOW2 := HO2
        have KE := Lib.hid (ref5_exprS HE.out L a n c i2 bad2 _ r1 W2 (HL.out.ext HY2.out) hs2 hr1 her1)
        obtain ⟨p0, p1, p2, f0, f1, f2, l0⟩ := SBlk.open_ HS2.out
        have hz2 := Below.size HY2.out
        have hb2 := HB2.out.lt
        clear hs2 hr1 her1
        go_upto_region 9 with (go_at_call 44; refine (KE.out).mono ?_; rintro e w3 ⟨x3, i3, bad3, y, ak, nk, ck, rfl, hs3, hT3⟩; obtain ⟨m0, m1, m2, k0, k1, k2, ll0⟩ := SBlk.open_ (SBlk.ext HS2.out x3))
        have hs3z := Below.size x3
        have S4 : SBlk ((((((w3.setCell ⟨w.heap.size, 0, none⟩ (.slice a n c)).setCell ⟨w.heap.size, 1, none⟩ (.int .i64 (i3 : Nat))).setCell ⟨w.heap.size, 2, none⟩ (.bool bad3)).alloc (.cells #[.slice a n c, .int .i64 (i3 : Nat), .bool bad3] 71)).alloc (.cells #[.int .u8 y.k, .int .u8 y.op, .int .i64 y.pos, .int .i64 y.n, .string y.name, .string y.arg, .string y.exn, .slice ak nk ck] 28))) w.heap.size a n c i3 bad3 := ((Blk.lay3 (SBlk.ext HS2.out x3) (u0 := .slice a n c) (u1 := .int .i64 (i3 : Nat)) (u2 := .bool bad3)).alloc _).alloc _
        have X34 : ExtX (· = w.heap.size) w3 ((((((w3.setCell ⟨w.heap.size, 0, none⟩ (.slice a n c)).setCell ⟨w.heap.size, 1, none⟩ (.int .i64 (i3 : Nat))).setCell ⟨w.heap.size, 2, none⟩ (.bool bad3)).alloc (.cells #[.slice a n c, .int .i64 (i3 : Nat), .bool bad3] 71)).alloc (.cells #[.int .u8 y.k, .int .u8 y.op, .int .i64 y.pos, .int .i64 y.n, .string y.name, .string y.arg, .string y.exn, .slice ak nk ck] 28))) := (((((ExtX.refl (A := (· = w.heap.size)) w3).setCell (p := ⟨w.heap.size, 0, none⟩) (.inl rfl) (.slice a n c)).setCell (p := ⟨w.heap.size, 1, none⟩) (.inl rfl) (.int .i64 (i3 : Nat))).setCell (p := ⟨w.heap.size, 2, none⟩) (.inl rfl) (.bool bad3)).alloc _).alloc _
        have T4 : Blk ((((((w3.setCell ⟨w.heap.size, 0, none⟩ (.slice a n c)).setCell ⟨w.heap.size, 1, none⟩ (.int .i64 (i3 : Nat))).setCell ⟨w.heap.size, 2, none⟩ (.bool bad3)).alloc (.cells #[.slice a n c, .int .i64 (i3 : Nat), .bool bad3] 71)).alloc (.cells #[.int .u8 y.k, .int .u8 y.op, .int .i64 y.pos, .int .i64 y.n, .string y.name, .string y.arg, .string y.exn, .slice ak nk ck] 28))) (w3.heap.size + 1) 28 #[.int .u8 y.k, .int .u8 y.op, .int .i64 y.pos, .int .i64 y.n, .string y.name, .string y.arg, .string y.exn, .slice ak nk ck] := by
          have h := Blk.new ((((w3.setCell ⟨w.heap.size, 0, none⟩ (.slice a n c)).setCell ⟨w.heap.size, 1, none⟩ (.int .i64 (i3 : Nat))).setCell ⟨w.heap.size, 2, none⟩ (.bool bad3)).alloc (.cells #[.slice a n c, .int .i64 (i3 : Nat), .bool bad3] 71)) 28 #[.int .u8 y.k, .int .u8 y.op, .int .i64 y.pos, .int .i64 y.n, .string y.name, .string y.arg, .string y.exn, .slice ak nk ck]
          rw [show ((((w3.setCell ⟨w.heap.size, 0, none⟩ (.slice a n c)).setCell ⟨w.heap.size, 1, none⟩ (.int .i64 (i3 : Nat))).setCell ⟨w.heap.size, 2, none⟩ (.bool bad3)).alloc (.cells #[.slice a n c, .int .i64 (i3 : Nat), .bool bad3] 71)).heap.size = w3.heap.size + 1 by simp [World.setCell]] at h
          exact h
        clear p0 p1 p2 f0 f1 f2 l0 m0 m1 m2 k0 k1 k2 ll0
        generalize ((((((w3.setCell ⟨w.heap.size, 0, none⟩ (.slice a n c)).setCell ⟨w.heap.size, 1, none⟩ (.int .i64 (i3 : Nat))).setCell ⟨w.heap.size, 2, none⟩ (.bool bad3)).alloc (.cells #[.slice a n c, .int .i64 (i3 : Nat), .bool bad3] 71)).alloc (.cells #[.int .u8 y.k, .int .u8 y.op, .int .i64 y.pos, .int .i64 y.n, .string y.name, .string y.arg, .string y.exn, .slice ak nk ck] 28))) = W4 at *
        have O4 := Lib.hid (owns_keep X34 (fun k (e : k = w.heap.size) => by omega) (owns_ext x3 HO2.out))
        have F4 : Hid (∀ ts l, q = .ok (ts, l) → FlatA (KidA (w.heap.size + 1) v) W4 ts xs) := Lib.hid fun ts l h => ((HF2.out ts l h).ext x3).extx X34 (fun b (e : b = w.heap.size) => .inl (by omega))
        have K4 : Hid (∀ t l, r1 = .ok (t, l) → t.head = y ∧ y.Fits ∧ nk ≤ ck ∧ ck ≤ 9223372036854775807 ∧ IsTmsA (fun b => b < W2.heap.size) W4 t.kids ak nk) := Lib.hid fun t l h => by
          obtain ⟨e1, e2, e3, e4, e5⟩ := hT3 t l h
          exact ⟨e1, e2, e3, e4, e5.extx X34 (fun b (e : b = w.heap.size) => by omega)⟩
        have Y4 : Ext w W4 := ExtX.ext (HY2.out.trans x3) X34 (fun b (e : b = w.heap.size) => by omega)
        have hz4 := Below.size Y4
        have hw24 : W2.heap.size ≤ W4.heap.size := Nat.le_trans hs3z X34.size
        have HS4 := Lib.hid S4
        have HY4 := Lib.hid Y4
        have HB4 := Lib.hid (Blk.extx (HB2.out.ext x3) X34 (show ¬ w.heap.size + 1 = w.heap.size by omega))
        have HS3 := Lib.hid hs3
        obtain ⟨c0, c1, c2, c3, c4, c5, c6, c7⟩ := T4.eight
        have lt4 := T4.lt
        have ls4 := Blk.lt S4
        have hrow := fun k hk => O4.out.lt k hk
        clear S4 X34 T4 hT3 hs3 Y4 x3 HO2 HF2 HB2 HS2
        go_wp2_with (at_builtin; refine wpList_append_mine rfl (.tmp 33) (.tmp 35) 26 ?r0 (w.heap.size + 1 + 1) 28 i0 (.agg #[.int .u8 0, .int .u8 0, .int .i64 0, .int .i64 0, .string ⟨#[]⟩, .string ⟨#[]⟩, .string ⟨#[]⟩, .slice none 0 0]) 8 96 ?r1 ?r2 ?r3 ?r4 ?r5 ?r6 ?r7 v j xs ?r8 ?r9 ⟨W4.heap.size, 0, none⟩ 1 1 (t8 y ak nk ck) ?r10 ?r11 ?r12 ?r13 ?r14 ?r15 ?r16 ?r17)
        case r0 => rfl
        case r1 => exact Tryz.underlying26
        case r2 => exact HI.out.1
        case r3 => exact HI.out.2.1
        case r4 => exact HI.out.2.2.1
        case r5 => exact HI.out.2.2.2
        case r6 => rfl
        case r7 => decide
        case r8 => rfl
        case r9 => exact owns_ext ((Ext.refl _).alloc _) O4.out
        case r10 => rfl
        case r11 => rfl
        case r12 => exact list_at W4 (t8 y ak nk ck) _
        case r13 => exact t8_one y ak nk ck
        case r14 => unfold maxLen; omega
        case r15 => omega
        case r16 => simp; omega
        case r17 =>
          intro v9 w9 ho9 hg9 hw9
          have S9 : SBlk w9 w.heap.size a n c i3 bad3 := (hg9.block w.heap.size (by simp; omega) (fun e => by have := hrow _ e.symm; omega)).trans (Blk.alloc HS4.out _)
          have B9 := (hg9.block (w.heap.size + 1) (by have := HB4.out.lt; simp; omega) (fun e => by have := hrow _ e.symm; omega)).trans (Blk.alloc HB4.out _)
          have Y9 : Ext w w9 := ext_grown hg9 (HY4.out.alloc _) (fun k hk => by have := hrow k hk; omega)
          have F9 : ∀ ts2 l2, q2 = .ok (ts2, l2) → FlatA (KidA (w.heap.size + 1) v9) w9 ts2 (xs ++ t8 y ak nk ck) ∧ partsF f (ws.drop (j + 1)) ts2 l2 = some r := fun ts2 l2 h => by
            obtain ⟨ts, l, t, hq, h1', rfl, hp⟩ := HOK2.out ts2 l2 h
            obtain ⟨rfl, hf, g1, g2, hk⟩ := K4.out t l2 h1'
            refine ⟨FlatA.append (((F4.out ts l hq).ext ((Ext.refl _).alloc _)).grown hg9 hw9 (by simp)) ⟨ak, nk, ck, [], by simp [t8, tcells], hf, g1, g2, (hk.ext ((Ext.refl _).alloc _)).grown5 (fun b hb => ?_) hg9 hw9 (by simp), rfl⟩, hp⟩
            rcases hb with hb | hb
            · show b < W2.heap.size
              have hb : b ≤ w.heap.size + 1 := hb
              omega
            · have := HOW2.out.lt b hb
              exact this.2
          have H9 := Lib.hid (And.intro S9 (And.intro B9 (And.intro Y9 (And.intro F9 ho9))))
          clear S9 B9 Y9 F9 ho9 hg9 hw9 hrow
          go_wp2_with fail
          go_roundg (ws.length - (j + 1))
          case rel => exact ⟨v9, j + 1, i3, bad3, _, q2, rfl, rfl, by go_num, by omega, H9.out.2.2.2.2, (by intro u hu; rcases List.mem_append.1 hu with hu | hu; exact H1.out u hu; exact t8_one y ak nk ck u hu), H9.out.1, H9.out.2.1, HST.out _ _ _ _ HS3.out, H9.out.2.2.2.1, HER2.out, H9.out.2.2.1⟩
          case measure => omega
      · have hb0 : (x.toList == ([] : List UInt8)) = false := by
          have := ne_beq hx0
          rwa [empty_list0] at this
        have hq3 : ∀ (i2 : Nat) (bad2 : Bool), StS L n i2 bad2 (thenR q (getW x)) → StS L n i2 bad2 (thenR q fun l => if x = ByteArray.empty then (.ok ((), l) : Res Unit) else getW x l) := fun i2 bad2 h => by
          have e : (fun l => if x = ByteArray.empty then (.ok ((), l) : Res Unit) else getW x l) = getW x := by funext l; rw [if_neg hx0]
          rw [e]
          exact h
        have KW := Lib.hid fun W (h : Ext wr W) => ref5_wantS L a n c i' bad' q x hx0 W (HL.out.ext (hx.trans h)) hq
        have HQ3 := Lib.hid hq3
        obtain ⟨p0, p1, p2, f0, f1, f2, l0⟩ := SBlk.open_ hS
        clear hx0 hq3 hq hS hT
        go_upto_region 6 with fail
        refine wp_region_held_drew (S := fun w' => ExtX (· = w.heap.size) wr w') (by kernel_rfl) (by (try dsimp only); (exact xX)) (fun hHeld => ?_)
        refine tK 1 (v := ?_) ?_ ?_;rotate_left;(focus (intro w hSw;(try dsimp only at hSw);go_simp;(try with_reducible rfl)));try simp only [Act.put,pA,pB,pC]
        refine tK 2 (v := ?_) ?_ ?_;rotate_left;(focus (intro w hSw;(try dsimp only at hSw);go_simp;(try with_reducible rfl)));try simp only [Act.put,pA,pB,pC]
        refine tK 3 (v := ?_) ?_ ?_;rotate_left;(focus (intro w hSw;(try dsimp only at hSw);go_simp;(try with_reducible rfl)));try simp only [Act.put,pA,pB,pC]
        refine tK 4 (v := ?_) ?_ ?_;rotate_left;(focus (intro w hSw;(try dsimp only at hSw);go_simp;(try with_reducible rfl)));try simp only [Act.put,pA,pB,pC]
        refine held_do 0 rfl (by kernel_rfl) (by rfl) (fun K hK => ?_); go_simp; refine hK.out _ _ (by (try dsimp only); (exact xX)) (fun hHeld => ?_); clear hK K; try simp only [Act.put,pA,pB,pC]
        refine held_do 5 rfl (by kernel_rfl) (by rfl) (fun K hK => ?_); go_simp; (first | (refine (KW.out _ (by (exact eX))).mono ?_; rintro e w2 ⟨x2, i2, bad2, rfl, hs2⟩; have z2 : ExtX (· = w.heap.size) wr w2 := ExtX.of ((by (exact eX) : Ext wr _).trans x2); have S2 := SBlk.ext HS.out ((by (exact eX) : Ext wr _).trans x2); obtain ⟨m0, m1, m2, k0, k1, k2, ll0⟩ := SBlk.open_ S2; have HS2' := Lib.hid (Blk.lay3 S2 (u0 := .slice a n c) (u1 := .int .i64 (i2 : Nat)) (u2 := .bool bad2)); clear S2)); (try (focus (go_wp2_with fail))); refine hK.out _ _ (by (try dsimp only); (exact xX)) (fun hHeld => ?_); clear hK K; try simp only [Act.put,pA,pB,pC]
        refine held_do 6 rfl (by kernel_rfl) (by rfl) (fun K hK => ?_); go_simp; refine hK.out _ _ (by (try dsimp only); (exact xX)) (fun hHeld => ?_); clear hK K; try simp only [Act.put,pA,pB,pC]
        refine wpAnyH_done (by kernel_rfl) ?_ _
        have HS2 : Hid (SBlk (((w2.setCell ⟨w.heap.size, 0, none⟩ (.slice a n c)).setCell ⟨w.heap.size, 1, none⟩ (.int .i64 (i2 : Nat))).setCell ⟨w.heap.size, 2, none⟩ (.bool bad2)) w.heap.size a n c i2 bad2) := Lib.hid HS2'.out
        have HB2 := Lib.hid (Blk.extx HB.out hHeld (show ¬ w.heap.size + 1 = w.heap.size by omega))
        have HO2 := Lib.hid (owns_keep hHeld (fun k (e : k = w.heap.size) => by omega) HO.out)
        have HF2 : Hid (∀ ts l, q = .ok (ts, l) → FlatA (KidA (w.heap.size + 1) v) (((w2.setCell ⟨w.heap.size, 0, none⟩ (.slice a n c)).setCell ⟨w.heap.size, 1, none⟩ (.int .i64 (i2 : Nat))).setCell ⟨w.heap.size, 2, none⟩ (.bool bad2)) ts xs) := Lib.hid fun ts l h => (HFL.out ts l h).extx hHeld (fun b (e : b = w.heap.size) => .inl (by omega))
        have HY2 := Lib.hid (ExtX.ext HX.out hHeld (fun b (e : b = w.heap.size) => by omega))
        have hs2 := HQ3.out i2 bad2 hs2
        have HOW2 := HO2
        clear HS2' hHeld z2 m0 m1 m2 k0 k1 k2 ll0 p0 p1 p2 f0 f1 f2 l0 HX HS HB HO HFL nw qx KW HQ3 x2
        generalize (((w2.setCell ⟨w.heap.size, 0, none⟩ (.slice a n c)).setCell ⟨w.heap.size, 1, none⟩ (.int .i64 (i2 : Nat))).setCell ⟨w.heap.size, 2, none⟩ (.bool bad2)) = W2 at *
        have KE := Lib.hid (ref5_exprS HE.out L a n c i2 bad2 _ r1 W2 (HL.out.ext HY2.out) hs2 hr1 her1)
        obtain ⟨p0, p1, p2, f0, f1, f2, l0⟩ := SBlk.open_ HS2.out
        have hz2 := Below.size HY2.out
        have hb2 := HB2.out.lt
        clear hs2 hr1 her1
        go_upto_region 9 with (go_at_call 44; refine (KE.out).mono ?_; rintro e w3 ⟨x3, i3, bad3, y, ak, nk, ck, rfl, hs3, hT3⟩; obtain ⟨m0, m1, m2, k0, k1, k2, ll0⟩ := SBlk.open_ (SBlk.ext HS2.out x3))
        have hs3z := Below.size x3
        have S4 : SBlk ((((((w3.setCell ⟨w.heap.size, 0, none⟩ (.slice a n c)).setCell ⟨w.heap.size, 1, none⟩ (.int .i64 (i3 : Nat))).setCell ⟨w.heap.size, 2, none⟩ (.bool bad3)).alloc (.cells #[.slice a n c, .int .i64 (i3 : Nat), .bool bad3] 71)).alloc (.cells #[.int .u8 y.k, .int .u8 y.op, .int .i64 y.pos, .int .i64 y.n, .string y.name, .string y.arg, .string y.exn, .slice ak nk ck] 28))) w.heap.size a n c i3 bad3 := ((Blk.lay3 (SBlk.ext HS2.out x3) (u0 := .slice a n c) (u1 := .int .i64 (i3 : Nat)) (u2 := .bool bad3)).alloc _).alloc _
        have X34 : ExtX (· = w.heap.size) w3 ((((((w3.setCell ⟨w.heap.size, 0, none⟩ (.slice a n c)).setCell ⟨w.heap.size, 1, none⟩ (.int .i64 (i3 : Nat))).setCell ⟨w.heap.size, 2, none⟩ (.bool bad3)).alloc (.cells #[.slice a n c, .int .i64 (i3 : Nat), .bool bad3] 71)).alloc (.cells #[.int .u8 y.k, .int .u8 y.op, .int .i64 y.pos, .int .i64 y.n, .string y.name, .string y.arg, .string y.exn, .slice ak nk ck] 28))) := (((((ExtX.refl (A := (· = w.heap.size)) w3).setCell (p := ⟨w.heap.size, 0, none⟩) (.inl rfl) (.slice a n c)).setCell (p := ⟨w.heap.size, 1, none⟩) (.inl rfl) (.int .i64 (i3 : Nat))).setCell (p := ⟨w.heap.size, 2, none⟩) (.inl rfl) (.bool bad3)).alloc _).alloc _
        have T4 : Blk ((((((w3.setCell ⟨w.heap.size, 0, none⟩ (.slice a n c)).setCell ⟨w.heap.size, 1, none⟩ (.int .i64 (i3 : Nat))).setCell ⟨w.heap.size, 2, none⟩ (.bool bad3)).alloc (.cells #[.slice a n c, .int .i64 (i3 : Nat), .bool bad3] 71)).alloc (.cells #[.int .u8 y.k, .int .u8 y.op, .int .i64 y.pos, .int .i64 y.n, .string y.name, .string y.arg, .string y.exn, .slice ak nk ck] 28))) (w3.heap.size + 1) 28 #[.int .u8 y.k, .int .u8 y.op, .int .i64 y.pos, .int .i64 y.n, .string y.name, .string y.arg, .string y.exn, .slice ak nk ck] := by
          have h := Blk.new ((((w3.setCell ⟨w.heap.size, 0, none⟩ (.slice a n c)).setCell ⟨w.heap.size, 1, none⟩ (.int .i64 (i3 : Nat))).setCell ⟨w.heap.size, 2, none⟩ (.bool bad3)).alloc (.cells #[.slice a n c, .int .i64 (i3 : Nat), .bool bad3] 71)) 28 #[.int .u8 y.k, .int .u8 y.op, .int .i64 y.pos, .int .i64 y.n, .string y.name, .string y.arg, .string y.exn, .slice ak nk ck]
          rw [show ((((w3.setCell ⟨w.heap.size, 0, none⟩ (.slice a n c)).setCell ⟨w.heap.size, 1, none⟩ (.int .i64 (i3 : Nat))).setCell ⟨w.heap.size, 2, none⟩ (.bool bad3)).alloc (.cells #[.slice a n c, .int .i64 (i3 : Nat), .bool bad3] 71)).heap.size = w3.heap.size + 1 by simp [World.setCell]] at h
          exact h
        clear p0 p1 p2 f0 f1 f2 l0 m0 m1 m2 k0 k1 k2 ll0
        generalize ((((((w3.setCell ⟨w.heap.size, 0, none⟩ (.slice a n c)).setCell ⟨w.heap.size, 1, none⟩ (.int .i64 (i3 : Nat))).setCell ⟨w.heap.size, 2, none⟩ (.bool bad3)).alloc (.cells #[.slice a n c, .int .i64 (i3 : Nat), .bool bad3] 71)).alloc (.cells #[.int .u8 y.k, .int .u8 y.op, .int .i64 y.pos, .int .i64 y.n, .string y.name, .string y.arg, .string y.exn, .slice ak nk ck] 28))) = W4 at *
        have O4 := Lib.hid (owns_keep X34 (fun k (e : k = w.heap.size) => by omega) (owns_ext x3 HO2.out))
        have F4 : Hid (∀ ts l, q = .ok (ts, l) → FlatA (KidA (w.heap.size + 1) v) W4 ts xs) := Lib.hid fun ts l h => ((HF2.out ts l h).ext x3).extx X34 (fun b (e : b = w.heap.size) => .inl (by omega))
        have K4 : Hid (∀ t l, r1 = .ok (t, l) → t.head = y ∧ y.Fits ∧ nk ≤ ck ∧ ck ≤ 9223372036854775807 ∧ IsTmsA (fun b => b < W2.heap.size) W4 t.kids ak nk) := Lib.hid fun t l h => by
          obtain ⟨e1, e2, e3, e4, e5⟩ := hT3 t l h
          exact ⟨e1, e2, e3, e4, e5.extx X34 (fun b (e : b = w.heap.size) => by omega)⟩
        have Y4 : Ext w W4 := ExtX.ext (HY2.out.trans x3) X34 (fun b (e : b = w.heap.size) => by omega)
        have hz4 := Below.size Y4
        have hw24 : W2.heap.size ≤ W4.heap.size := Nat.le_trans hs3z X34.size
        have HS4 := Lib.hid S4
        have HY4 := Lib.hid Y4
        have HB4 := Lib.hid (Blk.extx (HB2.out.ext x3) X34 (show ¬ w.heap.size + 1 = w.heap.size by omega))
        have HS3 := Lib.hid hs3
        obtain ⟨c0, c1, c2, c3, c4, c5, c6, c7⟩ := T4.eight
        have lt4 := T4.lt
        have ls4 := Blk.lt S4
        have hrow := fun k hk => O4.out.lt k hk
        clear S4 X34 T4 hT3 hs3 Y4 x3 HO2 HF2 HB2 HS2
        go_wp2_with (at_builtin; refine wpList_append_mine rfl (.tmp 33) (.tmp 35) 26 ?r0 (w.heap.size + 1 + 1) 28 i0 (.agg #[.int .u8 0, .int .u8 0, .int .i64 0, .int .i64 0, .string ⟨#[]⟩, .string ⟨#[]⟩, .string ⟨#[]⟩, .slice none 0 0]) 8 96 ?r1 ?r2 ?r3 ?r4 ?r5 ?r6 ?r7 v j xs ?r8 ?r9 ⟨W4.heap.size, 0, none⟩ 1 1 (t8 y ak nk ck) ?r10 ?r11 ?r12 ?r13 ?r14 ?r15 ?r16 ?r17)
        case r0 => rfl
        case r1 => exact Tryz.underlying26
        case r2 => exact HI.out.1
        case r3 => exact HI.out.2.1
        case r4 => exact HI.out.2.2.1
        case r5 => exact HI.out.2.2.2
        case r6 => rfl
        case r7 => decide
        case r8 => rfl
        case r9 => exact owns_ext ((Ext.refl _).alloc _) O4.out
        case r10 => rfl
        case r11 => rfl
        case r12 => exact list_at W4 (t8 y ak nk ck) _
        case r13 => exact t8_one y ak nk ck
        case r14 => unfold maxLen; omega
        case r15 => omega
        case r16 => simp; omega
        case r17 =>
          intro v9 w9 ho9 hg9 hw9
          have S9 : SBlk w9 w.heap.size a n c i3 bad3 := (hg9.block w.heap.size (by simp; omega) (fun e => by have := hrow _ e.symm; omega)).trans (Blk.alloc HS4.out _)
          have B9 := (hg9.block (w.heap.size + 1) (by have := HB4.out.lt; simp; omega) (fun e => by have := hrow _ e.symm; omega)).trans (Blk.alloc HB4.out _)
          have Y9 : Ext w w9 := ext_grown hg9 (HY4.out.alloc _) (fun k hk => by have := hrow k hk; omega)
          have F9 : ∀ ts2 l2, q2 = .ok (ts2, l2) → FlatA (KidA (w.heap.size + 1) v9) w9 ts2 (xs ++ t8 y ak nk ck) ∧ partsF f (ws.drop (j + 1)) ts2 l2 = some r := fun ts2 l2 h => by
            obtain ⟨ts, l, t, hq, h1', rfl, hp⟩ := HOK2.out ts2 l2 h
            obtain ⟨rfl, hf, g1, g2, hk⟩ := K4.out t l2 h1'
            refine ⟨FlatA.append (((F4.out ts l hq).ext ((Ext.refl _).alloc _)).grown hg9 hw9 (by simp)) ⟨ak, nk, ck, [], by simp [t8, tcells], hf, g1, g2, (hk.ext ((Ext.refl _).alloc _)).grown5 (fun b hb => ?_) hg9 hw9 (by simp), rfl⟩, hp⟩
            rcases hb with hb | hb
            · show b < W2.heap.size
              have hb : b ≤ w.heap.size + 1 := hb
              omega
            · have := HOW2.out.lt b hb
              exact this.2
          have H9 := Lib.hid (And.intro S9 (And.intro B9 (And.intro Y9 (And.intro F9 ho9))))
          clear S9 B9 Y9 F9 ho9 hg9 hw9 hrow
          go_wp2_with fail
          go_roundg (ws.length - (j + 1))
          case rel => exact ⟨v9, j + 1, i3, bad3, _, q2, rfl, rfl, by go_num, by omega, H9.out.2.2.2.2, (by intro u hu; rcases List.mem_append.1 hu with hu | hu; exact H1.out u hu; exact t8_one y ak nk ck u hu), H9.out.1, H9.out.2.1, HST.out _ _ _ _ HS3.out, H9.out.2.2.2.1, HER2.out, H9.out.2.2.1⟩
          case measure => omega
    · obtain rfl : j = ws.length := by omega
      have hqr : q = r := by
        cases q with
        | error l => exact (her l rfl).symm
        | ok p =>
          obtain ⟨ts, l⟩ := p
          have h := (hok ts l rfl).2
          rw [List.drop_length] at h
          exact Option.some.inj h
      subst hqr
      have hz : ¬ (ws.length : Int) < (ws.length : Int) := by omega
      have X9 : ExtX (· = w.heap.size + 1) wr (((wr.setCell ⟨w.heap.size + 1, 0, none⟩ (.slice a n c)).setCell ⟨w.heap.size + 1, 1, none⟩ (.int .i64 (i' : Nat))).setCell ⟨w.heap.size + 1, 2, none⟩ (.bool bad')) := (((ExtX.refl (A := (· = w.heap.size + 1)) wr).setCell (p := ⟨w.heap.size + 1, 0, none⟩) (.inl rfl) _).setCell (p := ⟨w.heap.size + 1, 1, none⟩) (.inl rfl) _).setCell (p := ⟨w.heap.size + 1, 2, none⟩) (.inl rfl) _
      have HB9 := Lib.hid (Blk.lay3 hT (u0 := .slice a n c) (u1 := .int .i64 (i' : Nat)) (u2 := .bool bad'))
      have HY9 := Lib.hid (ExtX.ext hx X9 (fun b (e : b = w.heap.size + 1) => by omega))
      have HO9 := Lib.hid (owns_low (owns_keep X9 (fun k (e : k = w.heap.size + 1) => by omega) hO) (show w.heap.size ≤ w.heap.size + 1 + 1 by omega))
      have HF9 : Hid (∀ ts l, q = .ok (ts, l) → FlatA (fun b => b < w.heap.size ∨ v.ownBlock = some b) (((wr.setCell ⟨w.heap.size + 1, 0, none⟩ (.slice a n c)).setCell ⟨w.heap.size + 1, 1, none⟩ (.int .i64 (i' : Nat))).setCell ⟨w.heap.size + 1, 2, none⟩ (.bool bad')) ts xs) := Lib.hid fun ts l h => ((hok ts l h).1.extx X9 (fun b (e : b = w.heap.size + 1) => .inl (by omega))).move (fun b hb h => by
        rcases h with h | h
        · exact .inl (by omega)
        · exact .inr h) (fun _ _ _ hu => hu)
      obtain ⟨p0, p1, p2, f0, f1, f2, l0⟩ := SBlk.open_ hS
      have b0 := hT.cell 0
      have b1 := hT.cell 1
      have b2 := hT.cell 2
      simp at b0 b1 b2
      have g0 := hT.frozen 0
      have g1 := hT.frozen 1
      have g2 := hT.frozen 2
      have lb := hT.lt
      have HQ9 := Lib.hid hq
      have H19 := Lib.hid h1
      clear X9 hO hok her hx hq h1 hS hT
      go_wp2_with fail
      obtain ⟨r0, r1, r2, -⟩ := SBlk.open_ HB9.out
      exact bodyPost_ret (v := .tuple #[.agg #[.slice a n c, .int .i64 (i' : Nat), .bool bad'], v]) (by simp [results, Tryz.results71, go_sem, r0, r1, r2]) rfl ⟨HY9.out, i', bad', v, xs, rfl, HQ9.out, HO9.out, H19.out, HF9.out⟩
end Go.Proofs.YtaioeailgknfjaaGreatDoor

/- The walk of enclaveref05.apply. -/
namespace Go.Proofs.YtaioeailgknfjaaGreatDoor
open Go Go.RowKit Go.Sort

/-- Blocks that kids keep off. -/
def AvQ (lo b4 : Nat) (b : Nat) : Prop := b < lo ∨ b = b4
def leftR (q : Res Tm) : Nat := match q with
  | .ok (_, l) => l.length
  | .error _ => 0
/-- Where a loop over operands stands. -/
structure LoopQ (L : List Tk) (a : Option Addr) (n c : Nat) (w : World) (b4 : Nat) (P : Tm → List Tk → Prop) (r : Res Tm) (g : Nat) (i : Nat) (bad : Bool) (x : Hd) (ak : Option Addr) (nk ck : Nat) (q : Res Tm) (wr : World) : Prop where
  g : g = leftR q
  s : SBlk wr w.heap.size a n c i bad
  z1 : Blk wr (w.heap.size + 1) 71 #[.slice none 0 0, .int .i64 0, .bool false]
  z2 : Blk wr (w.heap.size + 1 + 1) 28 zeroT
  t : Blk wr b4 28 #[.int .u8 x.k, .int .u8 x.op, .int .i64 x.pos, .int .i64 x.n, .string x.name, .string x.arg, .string x.exn, .slice ak nk ck]
  lt4 : w.heap.size + 1 + 1 < b4
  st : StS L n i bad q
  ok : ∀ t l, q = .ok (t, l) → t.head = x ∧ x.Fits ∧ nk ≤ ck ∧ ck ≤ 9223372036854775807 ∧ IsTmsA (AvQ (w.heap.size + 1 + 1 + 1) b4) wr t.kids ak nk ∧ P t l
  er : ∀ l, q = .error l → r = .error l
  x : Ext w wr
theorem blk3 {w w1 : World} {cs1 cs2 cs3 : Array Value} {T1 T2 T3 : TypeId} (x : Ext (((w.alloc (.cells cs1 T1)).alloc (.cells cs2 T2)).alloc (.cells cs3 T3)) w1) : Blk w1 w.heap.size T1 cs1 ∧ Blk w1 (w.heap.size + 1) T2 cs2 ∧ Blk w1 (w.heap.size + 1 + 1) T3 cs3 := by
  refine ⟨(((Blk.new w T1 cs1).alloc _).alloc _).ext x, ?_, ?_⟩
  · have h := (Blk.new (w.alloc (.cells cs1 T1)) T2 cs2).alloc (.cells cs3 T3)
    rw [World.size_alloc] at h
    exact h.ext x
  · have h := Blk.new ((w.alloc (.cells cs1 T1)).alloc (.cells cs2 T2)) T3 cs3
    rw [World.size_alloc, World.size_alloc] at h
    exact h.ext x
/-- A state is laid behind a call, and the term that came with it. -/
def w3s (w3 : World) (s : Nat) (a : Option Addr) (n c i : Nat) (bad : Bool) : World := ((w3.setCell ⟨s, 0, none⟩ (.slice a n c)).setCell ⟨s, 1, none⟩ (.int .i64 (i : Nat))).setCell ⟨s, 2, none⟩ (.bool bad)
theorem w3s_x {w3 : World} {s : Nat} {a : Option Addr} {n c i : Nat} {bad : Bool} : ExtX (· = s) w3 (w3s w3 s a n c i bad) := (((ExtX.refl (A := (· = s)) w3).setCell (p := ⟨s, 0, none⟩) (.inl rfl) _).setCell (p := ⟨s, 1, none⟩) (.inl rfl) _).setCell (p := ⟨s, 2, none⟩) (.inl rfl) _
theorem w3s_size {w3 : World} {s : Nat} {a : Option Addr} {n c i : Nat} {bad : Bool} : (w3s w3 s a n c i bad).heap.size = w3.heap.size := by simp [w3s, World.setCell]
theorem w3s_blk {w3 : World} {s : Nat} {a : Option Addr} {n c i i' : Nat} {bad bad' : Bool} (h : SBlk w3 s a n c i' bad') : SBlk (w3s w3 s a n c i bad) s a n c i bad := Blk.lay3 h
theorem kids_new {A : Nat → Prop} {w1 : World} {s lo : Nat} {a : Option Addr} {n c i : Nat} {bad : Bool} {o : Obj} {ks : List Tm} {ak : Option Addr} {nk : Nat} (h : IsTmsA A w1 ks ak nk) (hA : ∀ b, b < lo → A b) (hs : s < lo) : IsTmsA (AvQ lo w1.heap.size) ((w3s w1 s a n c i bad).alloc o) ks ak nk := by
  have h2 : IsTmsA (fun b => b < lo) (w3s w1 s a n c i bad) ks ak nk := IsTmsA.extx w3s_x (fun b (e : b = s) => by show b < lo; omega) (h.move (fun b _ hb => hA b hb) fun _ _ _ hu => hu)
  have h3 : IsTmsA (AvQ lo w1.heap.size) (w3s w1 s a n c i bad) ks ak nk := h2.move (fun b hb hA => by
    rcases hA with h | h
    · exact h
    · rw [w3s_size] at hb
      omega) fun _ _ _ hu => hu
  exact h3.ext ((Ext.refl _).alloc _)
theorem LoopQ.ext {L : List Tk} {a : Option Addr} {n c : Nat} {w : World} {b4 : Nat} {P : Tm → List Tk → Prop} {r : Res Tm} {g i : Nat} {bad : Bool} {x : Hd} {ak : Option Addr} {nk ck : Nat} {q : Res Tm} {wr W : World} (h : LoopQ L a n c w b4 P r g i bad x ak nk ck q wr) (hx : Ext wr W) : LoopQ L a n c w b4 P r g i bad x ak nk ck q W where
  g := h.g
  s := SBlk.ext h.s hx
  z1 := h.z1.ext hx
  z2 := h.z2.ext hx
  t := h.t.ext hx
  lt4 := h.lt4
  st := h.st
  ok := fun t l e => by
    obtain ⟨e1, e2, e3, e4, e5, e6⟩ := h.ok t l e
    exact ⟨e1, e2, e3, e4, e5.ext hx, e6⟩
  er := h.er
  x := h.x.trans hx
/-- A term laid in a block. -/
def w8s (w : World) (g : Nat) (x : Hd) (a : Option Addr) (n c : Nat) : World := (((((((w.setCell ⟨g, 0, none⟩ (.int .u8 x.k)).setCell ⟨g, 1, none⟩ (.int .u8 x.op)).setCell ⟨g, 2, none⟩ (.int .i64 x.pos)).setCell ⟨g, 3, none⟩ (.int .i64 x.n)).setCell ⟨g, 4, none⟩ (.string x.name)).setCell ⟨g, 5, none⟩ (.string x.arg)).setCell ⟨g, 6, none⟩ (.string x.exn)).setCell ⟨g, 7, none⟩ (.slice a n c)
theorem w8s_x {w : World} {g : Nat} {x : Hd} {a : Option Addr} {n c : Nat} : ExtX (· = g) w (w8s w g x a n c) := (ExtX.refl w).set8 (.inl rfl)
/-- What a loop hands back. -/
theorem LoopQ.ret {L : List Tk} {a : Option Addr} {n c : Nat} {w : World} {b4 : Nat} {P : Tm → List Tk → Prop} {r : Res Tm} {g i : Nat} {bad : Bool} {x : Hd} {ak : Option Addr} {nk ck : Nat} {wr W : World} (h : LoopQ L a n c w b4 P r g i bad x ak nk ck r wr) (hx : ExtX (fun b => b = w.heap.size + 1 ∨ b = w.heap.size + 1 + 1) wr W) :
    RetE L a n c w r (.returned (.tuple #[.agg #[.slice a n c, .int .i64 (i : Nat), .bool bad], .agg #[.int .u8 x.k, .int .u8 x.op, .int .i64 x.pos, .int .i64 x.n, .string x.name, .string x.arg, .string x.exn, .slice ak nk ck]])) W :=
  ⟨ExtX.ext h.x hx (fun b e => by rcases e with e | e <;> omega), i, bad, x, ak, nk, ck, rfl, h.st, fun t l e => by
    obtain ⟨e1, e2, e3, e4, e5, -⟩ := h.ok t l e
    exact ⟨e1, e2, e3, e4, (e5.extx hx (fun b e => .inl (by rcases e with e | e <;> omega))).move (fun b _ (hb : b < w.heap.size) => .inl (by omega)) (fun _ _ _ hu => hu)⟩⟩
theorem LoopQ.out1 {L : List Tk} {a : Option Addr} {n c : Nat} {w : World} {b4 : Nat} {P : Tm → List Tk → Prop} {r q : Res Tm} {g i : Nat} {bad : Bool} {x : Hd} {ak : Option Addr} {nk ck : Nat} {wr : World} (h : LoopQ L a n c w b4 P r g i bad x ak nk ck q wr) :
    SBlk (w8s (w3s wr (w.heap.size + 1) a n c i bad) (w.heap.size + 1 + 1) x ak nk ck) (w.heap.size + 1) a n c i bad ∧ Blk (w8s (w3s wr (w.heap.size + 1) a n c i bad) (w.heap.size + 1 + 1) x ak nk ck) (w.heap.size + 1 + 1) 28 #[.int .u8 x.k, .int .u8 x.op, .int .i64 x.pos, .int .i64 x.n, .string x.name, .string x.arg, .string x.exn, .slice ak nk ck] ∧
    ExtX (fun b => b = w.heap.size + 1 ∨ b = w.heap.size + 1 + 1) wr (w8s (w3s wr (w.heap.size + 1) a n c i bad) (w.heap.size + 1 + 1) x ak nk ck) :=
  ⟨Blk.extx (Blk.lay3 h.z1) w8s_x (by show ¬ w.heap.size + 1 = w.heap.size + 1 + 1; omega), (Blk.extx h.z2 w3s_x (by show ¬ w.heap.size + 1 + 1 = w.heap.size + 1; omega)).lay8, (w3s_x.mono fun b e => .inl e).trans (w8s_x.mono fun b e => .inr e)⟩
theorem args_step {f : Nat} {t : Tm} {l : List Tk} {r : Res Tm} (hb : beginsT l = true) (h : parseF (f + 1) (.args t) l = some r) :
    ∃ r1, parseF f .unary l = some r1 ∧ (∀ l', r1 = .error l' → r = .error l') ∧ ∀ tb l2, r1 = .ok (tb, l2) → parseF f (.args (.mk (hd0 10 t.head.pos) [t, tb])) l2 = some r := by
  unfold parseF at h
  rw [if_pos hb] at h
  cases hu : parseF f .unary l with
  | none => rw [hu] at h; cases h
  | some r1 =>
    rw [hu] at h
    refine ⟨r1, rfl, ?_, ?_⟩
    · rintro l' rfl
      exact (Option.some.inj h).symm
    · rintro tb l2 rfl
      exact h
theorem args_stop {f : Nat} {t : Tm} {l : List Tk} {r : Res Tm} (hb : beginsT l = false) (h : parseF f (.args t) l = some r) : r = .ok (t, l) := by
  cases f with
  | zero => cases h
  | succ f =>
    unfold parseF at h
    rw [if_neg (by rw [hb]; simp)] at h
    exact (Option.some.inj h).symm
set_option maxRecDepth 60000 in
set_option maxHeartbeats 8000000 in
theorem ref5_apply (f : Nat) (hU : ∀ g, g ≤ f → DoesS 119 #[] .unary g) : DoesS 95 #[] (.lvl 4) (f + 1) := by
  intro L a n c i l r w hL hA he hp
  obtain ⟨r0, hr0, her0, hok0⟩ : ∃ r0, parseF f .unary l = some r0 ∧ (∀ l', r0 = .error l' → r = .error l') ∧ ∀ ta l2, r0 = .ok (ta, l2) → parseF f (.args ta) l2 = some r := by
    unfold parseF at hp
    rw [if_neg (by omega), if_neg (by omega)] at hp
    cases hu : parseF f .unary l with
    | none => rw [hu] at hp; cases hp
    | some r1 =>
      rw [hu] at hp
      refine ⟨r1, rfl, ?_, ?_⟩
      · rintro l' rfl
        exact (Option.some.inj hp).symm
      · rintro tb l2 rfl
        exact hp
  have HL := Lib.hid hL
  have HU := Lib.hid hU
  have K0 := Lib.hid fun W (h : Ext w W) => hU f (Nat.le_refl _) L a n c i l r0 W (hL.ext h) hA he hr0
  have HER0 := Lib.hid her0
  have HOK0 := Lib.hid hok0
  clear hL hU hA he hp hr0 her0 hok0
  simp only [Array.append_empty] at K0 ⊢
  go_enter Tryz.func95, Tryz.ntmps95
  go_upto_region 2 with (go_at_call 119; refine (K0.out _ (by (exact eX))).mono ?_; rintro e w1 ⟨x1, i1, bad1, y, ak, nk, ck, rfl, hs1, hT1⟩; obtain ⟨m0, m1, m2, k0, k1, k2, ll0⟩ := SBlk.open_ (blk3 x1).1)
  obtain ⟨hS1, hZ1, hZ2⟩ := blk3 x1
  have y1 : Ext w w1 := by (exact eX)
  have hb1 : w.heap.size + 1 + 1 < w1.heap.size := hZ2.lt
  have S2 : SBlk (w3s w1 w.heap.size a n c i1 bad1) w.heap.size a n c i1 bad1 := w3s_blk hS1
  have X2 : ExtX (· = w.heap.size) w1 (w3s w1 w.heap.size a n c i1 bad1) := w3s_x
  have T2 := Blk.new (w3s w1 w.heap.size a n c i1 bad1) 28 #[.int .u8 y.k, .int .u8 y.op, .int .i64 y.pos, .int .i64 y.n, .string y.name, .string y.arg, .string y.exn, .slice ak nk ck]
  rw [w3s_size] at T2
  have HQ0 : Hid (LoopQ L a n c w w1.heap.size (fun t l => ∃ m, m ≤ f ∧ parseF m (.args t) l = some r) r (leftR r0) i1 bad1 y ak nk ck r0 ((w3s w1 w.heap.size a n c i1 bad1).alloc (.cells #[.int .u8 y.k, .int .u8 y.op, .int .i64 y.pos, .int .i64 y.n, .string y.name, .string y.arg, .string y.exn, .slice ak nk ck] 28))) := Lib.hid {
    g := rfl
    s := S2.alloc _
    z1 := (hZ1.extx X2 (by show ¬ w.heap.size + 1 = w.heap.size; omega)).alloc _
    z2 := (hZ2.extx X2 (by show ¬ w.heap.size + 1 + 1 = w.heap.size; omega)).alloc _
    t := T2
    lt4 := hb1
    st := hs1
    ok := fun t l h => by
      obtain ⟨e1, e2, e3, e4, e5⟩ := hT1 t l h
      exact ⟨e1, e2, e3, e4, kids_new e5 (fun b hb => by show b < _; simp; omega) (by omega), f, Nat.le_refl _, HOK0.out t l h⟩
    er := HER0.out
    x := (ExtX.ext y1 X2 (fun b (e : b = w.heap.size) => by omega)).alloc _ }
  unfold w3s at HQ0
  clear x1 hS1 hZ1 hZ2 y1 S2 X2 T2 hs1 hT1 m0 m1 m2 k0 k1 k2 ll0 K0 HOK0 HER0
  generalize ((((w1.setCell ⟨w.heap.size, 0, none⟩ (.slice a n c)).setCell ⟨w.heap.size, 1, none⟩ (.int .i64 (i1 : Nat))).setCell ⟨w.heap.size, 2, none⟩ (.bool bad1)).alloc (.cells #[.int .u8 y.k, .int .u8 y.op, .int .i64 y.pos, .int .i64 y.n, .string y.name, .string y.arg, .string y.exn, .slice ak nk ck] 28)) = W0 at *
  generalize w1.heap.size = b4 at *
  clear w1
  go_wp2_with fail
  go_loopg [] (leftR r0) (fun g wr => ∃ (i' : Nat) (bad' : Bool) (x : Hd) (ax : Option Addr) (nx cx : Nat) (q : Res Tm), LoopQ L a n c w b4 (fun t l => ∃ m, m ≤ f ∧ parseF m (.args t) l = some r) r g i' bad' x ax nx cx q wr)
  case atStart => exact ⟨_, _, _, _, _, _, _, HQ0.out⟩
  case round =>
    obtain ⟨i', bad', x, ax, nx, cx, q, hQ⟩ := hrel
    cases q with
    | error l' =>
      obtain rfl := hQ.er l' rfl
      have hb : bad' = true := hQ.st.1
      subst hb
      obtain ⟨WX, hWX⟩ : ∃ WX, WX = wr := ⟨_, rfl⟩
      have hQX := hQ
      rw [← hWX] at hQX
      rw [← hWX]
      clear hQ hWX
      have HQX := Lib.hid hQX
      obtain ⟨p0, p1, p2, f0, f1, f2, l0⟩ := SBlk.open_ hQX.s
      obtain ⟨c0, c1, c2, c3, c4, c5, c6, c7⟩ := hQX.t.eight
      have hl4 := hQX.lt4
      obtain ⟨z0, z1, z2, z3, z4, z5, z6, z7⟩ := hQX.z2.eight
      obtain ⟨g0, g1, g2, g3, g4, g5, g6, g7⟩ := hQX.z2.frozen8
      have v0 := hQX.z1.cell 0
      have v1 := hQX.z1.cell 1
      have v2 := hQX.z1.cell 2
      simp at v0 v1 v2
      have v3 := hQX.z1.frozen 0
      have v4 := hQX.z1.frozen 1
      have v5 := hQX.z1.frozen 2
      have lv := hQX.z1.lt
      have lz := hQX.z2.lt
      have ne1 : w.heap.size + 1 ≠ w.heap.size + 1 + 1 := by omega
      have ne2 : w.heap.size + 1 + 1 ≠ w.heap.size + 1 := by omega
      have ns0 := fun W (h : ExtX (fun b => b = w.heap.size + 1 ∨ b = w.heap.size + 1 + 1) WX W) => h.cell (p := ⟨w.heap.size, 0, none⟩) (show ¬ (w.heap.size = w.heap.size + 1 ∨ w.heap.size = w.heap.size + 1 + 1) by omega) p0
      have ns1 := fun W (h : ExtX (fun b => b = w.heap.size + 1 ∨ b = w.heap.size + 1 + 1) WX W) => h.cell (p := ⟨w.heap.size, 1, none⟩) (show ¬ (w.heap.size = w.heap.size + 1 ∨ w.heap.size = w.heap.size + 1 + 1) by omega) p1
      have ns2 := fun W (h : ExtX (fun b => b = w.heap.size + 1 ∨ b = w.heap.size + 1 + 1) WX W) => h.cell (p := ⟨w.heap.size, 2, none⟩) (show ¬ (w.heap.size = w.heap.size + 1 ∨ w.heap.size = w.heap.size + 1 + 1) by omega) p2
      have nc0 := fun W (h : ExtX (fun b => b = w.heap.size + 1 ∨ b = w.heap.size + 1 + 1) WX W) => h.cell (p := ⟨b4, 0, none⟩) (show ¬ (b4 = w.heap.size + 1 ∨ b4 = w.heap.size + 1 + 1) by omega) c0
      have nc1 := fun W (h : ExtX (fun b => b = w.heap.size + 1 ∨ b = w.heap.size + 1 + 1) WX W) => h.cell (p := ⟨b4, 1, none⟩) (show ¬ (b4 = w.heap.size + 1 ∨ b4 = w.heap.size + 1 + 1) by omega) c1
      have nc2 := fun W (h : ExtX (fun b => b = w.heap.size + 1 ∨ b = w.heap.size + 1 + 1) WX W) => h.cell (p := ⟨b4, 2, none⟩) (show ¬ (b4 = w.heap.size + 1 ∨ b4 = w.heap.size + 1 + 1) by omega) c2
      have nc3 := fun W (h : ExtX (fun b => b = w.heap.size + 1 ∨ b = w.heap.size + 1 + 1) WX W) => h.cell (p := ⟨b4, 3, none⟩) (show ¬ (b4 = w.heap.size + 1 ∨ b4 = w.heap.size + 1 + 1) by omega) c3
      have nc4 := fun W (h : ExtX (fun b => b = w.heap.size + 1 ∨ b = w.heap.size + 1 + 1) WX W) => h.cell (p := ⟨b4, 4, none⟩) (show ¬ (b4 = w.heap.size + 1 ∨ b4 = w.heap.size + 1 + 1) by omega) c4
      have nc5 := fun W (h : ExtX (fun b => b = w.heap.size + 1 ∨ b = w.heap.size + 1 + 1) WX W) => h.cell (p := ⟨b4, 5, none⟩) (show ¬ (b4 = w.heap.size + 1 ∨ b4 = w.heap.size + 1 + 1) by omega) c5
      have nc6 := fun W (h : ExtX (fun b => b = w.heap.size + 1 ∨ b = w.heap.size + 1 + 1) WX W) => h.cell (p := ⟨b4, 6, none⟩) (show ¬ (b4 = w.heap.size + 1 ∨ b4 = w.heap.size + 1 + 1) by omega) c6
      have nc7 := fun W (h : ExtX (fun b => b = w.heap.size + 1 ∨ b = w.heap.size + 1 + 1) WX W) => h.cell (p := ⟨b4, 7, none⟩) (show ¬ (b4 = w.heap.size + 1 ∨ b4 = w.heap.size + 1 + 1) by omega) c7
      clear hQX
      go_upto_region 6 with fail
      refine wp_region_held_drew (S := fun w' => ExtX (fun b => b = w.heap.size + 1 ∨ b = w.heap.size + 1 + 1) WX w') (by kernel_rfl) (by (try dsimp only); (exact xX)) (fun hHeld => ?_)
      refine tK 0 (v := ?_) ?_ ?_;rotate_left;(focus (intro w hSw;(try dsimp only at hSw);go_simp;(try with_reducible rfl)));try simp only [Act.put,pA,pB,pC]
      refine tK 1 (v := ?_) ?_ ?_;rotate_left;(focus (intro w hSw;(try dsimp only at hSw);go_simp;(try with_reducible rfl)));try simp only [Act.put,pA,pB,pC]
      refine held_do 2 rfl (by kernel_rfl) (by rfl) (fun K hK => ?_); go_simp; refine hK.out _ _ (by (try dsimp only); (exact xX)) (fun hHeld => ?_); clear hK K; try simp only [Act.put,pA,pB,pC]
      refine held_do 3 rfl (by kernel_rfl) (by rfl) (fun K hK => ?_); go_simp; refine hK.out _ _ (by (try dsimp only); (exact xX)) (fun hHeld => ?_); clear hK K; try simp only [Act.put,pA,pB,pC]
      refine wpAnyH_done (by kernel_rfl) ?_ _
      repeat (first | go_values | go_skip | go_guarded | go_step | go_upon)
      obtain ⟨hs, ht, hx9⟩ := HQX.out.out1
      obtain ⟨r0, r1, r2, -⟩ := SBlk.open_ (show SBlk _ _ a n c i' true from Blk.drew hs)
      obtain ⟨r3, r4, r5, r6, r7, r8, r9, ra⟩ := ht.drew.eight
      have hx8 := hx9.drew
      unfold w8s w3s at r0 r1 r2 r3 r4 r5 r6 r7 r8 r9 ra
      exact bodyPost_ret (v := .tuple #[.agg #[.slice a n c, .int .i64 (i' : Nat), .bool true], .agg #[.int .u8 x.k, .int .u8 x.op, .int .i64 x.pos, .int .i64 x.n, .string x.name, .string x.arg, .string x.exn, .slice ax nx cx]]) (by simp [results, Tryz.results95, go_sem, r0, r1, r2, r3, r4, r5, r6, r7, r8, r9, ra]) rfl (HQX.out.ret hx8)
    | ok p =>
      obtain ⟨t, l1⟩ := p
      obtain ⟨hbf, hA1, he1⟩ := hQ.st
      subst hbf
      obtain ⟨et, hfx, gx1, gx2, hTx, m, hm, hpm⟩ := hQ.ok t l1 rfl
      have KS := Lib.hid fun W (h : Ext wr W) => ref5_starts L a n c i' l1 W (HL.out.ext (hQ.x.trans h)) hA1
      obtain ⟨p0, p1, p2, f0, f1, f2, l0⟩ := SBlk.open_ hQ.s
      cases hb : beginsT l1 with
      | false =>
        have hr9 := args_stop hb hpm
        rw [hb] at KS
        subst hr9
        clear hA1 he1 et hfx gx1 gx2 hTx hpm hb
        go_upto_region 6 with (go_at_call 120; refine (KS.out _ (Ext.refl _)).mono ?_; rintro e WX ⟨rfl, x2⟩)
        have hQX := hQ.ext x2
        clear hQ x2 p0 p1 p2 f0 f1 f2 l0
        have HQX := Lib.hid hQX
        obtain ⟨p0, p1, p2, f0, f1, f2, l0⟩ := SBlk.open_ hQX.s
        obtain ⟨c0, c1, c2, c3, c4, c5, c6, c7⟩ := hQX.t.eight
        have hl4 := hQX.lt4
        obtain ⟨z0, z1, z2, z3, z4, z5, z6, z7⟩ := hQX.z2.eight
        obtain ⟨g0, g1, g2, g3, g4, g5, g6, g7⟩ := hQX.z2.frozen8
        have v0 := hQX.z1.cell 0
        have v1 := hQX.z1.cell 1
        have v2 := hQX.z1.cell 2
        simp at v0 v1 v2
        have v3 := hQX.z1.frozen 0
        have v4 := hQX.z1.frozen 1
        have v5 := hQX.z1.frozen 2
        have lv := hQX.z1.lt
        have lz := hQX.z2.lt
        have ne1 : w.heap.size + 1 ≠ w.heap.size + 1 + 1 := by omega
        have ne2 : w.heap.size + 1 + 1 ≠ w.heap.size + 1 := by omega
        have ns0 := fun W (h : ExtX (fun b => b = w.heap.size + 1 ∨ b = w.heap.size + 1 + 1) WX W) => h.cell (p := ⟨w.heap.size, 0, none⟩) (show ¬ (w.heap.size = w.heap.size + 1 ∨ w.heap.size = w.heap.size + 1 + 1) by omega) p0
        have ns1 := fun W (h : ExtX (fun b => b = w.heap.size + 1 ∨ b = w.heap.size + 1 + 1) WX W) => h.cell (p := ⟨w.heap.size, 1, none⟩) (show ¬ (w.heap.size = w.heap.size + 1 ∨ w.heap.size = w.heap.size + 1 + 1) by omega) p1
        have ns2 := fun W (h : ExtX (fun b => b = w.heap.size + 1 ∨ b = w.heap.size + 1 + 1) WX W) => h.cell (p := ⟨w.heap.size, 2, none⟩) (show ¬ (w.heap.size = w.heap.size + 1 ∨ w.heap.size = w.heap.size + 1 + 1) by omega) p2
        have nc0 := fun W (h : ExtX (fun b => b = w.heap.size + 1 ∨ b = w.heap.size + 1 + 1) WX W) => h.cell (p := ⟨b4, 0, none⟩) (show ¬ (b4 = w.heap.size + 1 ∨ b4 = w.heap.size + 1 + 1) by omega) c0
        have nc1 := fun W (h : ExtX (fun b => b = w.heap.size + 1 ∨ b = w.heap.size + 1 + 1) WX W) => h.cell (p := ⟨b4, 1, none⟩) (show ¬ (b4 = w.heap.size + 1 ∨ b4 = w.heap.size + 1 + 1) by omega) c1
        have nc2 := fun W (h : ExtX (fun b => b = w.heap.size + 1 ∨ b = w.heap.size + 1 + 1) WX W) => h.cell (p := ⟨b4, 2, none⟩) (show ¬ (b4 = w.heap.size + 1 ∨ b4 = w.heap.size + 1 + 1) by omega) c2
        have nc3 := fun W (h : ExtX (fun b => b = w.heap.size + 1 ∨ b = w.heap.size + 1 + 1) WX W) => h.cell (p := ⟨b4, 3, none⟩) (show ¬ (b4 = w.heap.size + 1 ∨ b4 = w.heap.size + 1 + 1) by omega) c3
        have nc4 := fun W (h : ExtX (fun b => b = w.heap.size + 1 ∨ b = w.heap.size + 1 + 1) WX W) => h.cell (p := ⟨b4, 4, none⟩) (show ¬ (b4 = w.heap.size + 1 ∨ b4 = w.heap.size + 1 + 1) by omega) c4
        have nc5 := fun W (h : ExtX (fun b => b = w.heap.size + 1 ∨ b = w.heap.size + 1 + 1) WX W) => h.cell (p := ⟨b4, 5, none⟩) (show ¬ (b4 = w.heap.size + 1 ∨ b4 = w.heap.size + 1 + 1) by omega) c5
        have nc6 := fun W (h : ExtX (fun b => b = w.heap.size + 1 ∨ b = w.heap.size + 1 + 1) WX W) => h.cell (p := ⟨b4, 6, none⟩) (show ¬ (b4 = w.heap.size + 1 ∨ b4 = w.heap.size + 1 + 1) by omega) c6
        have nc7 := fun W (h : ExtX (fun b => b = w.heap.size + 1 ∨ b = w.heap.size + 1 + 1) WX W) => h.cell (p := ⟨b4, 7, none⟩) (show ¬ (b4 = w.heap.size + 1 ∨ b4 = w.heap.size + 1 + 1) by omega) c7
        clear hQX
        refine wp_region_held_drew (S := fun w' => ExtX (fun b => b = w.heap.size + 1 ∨ b = w.heap.size + 1 + 1) WX w') (by kernel_rfl) (by (try dsimp only); (exact xX)) (fun hHeld => ?_)
        refine tK 0 (v := ?_) ?_ ?_;rotate_left;(focus (intro w hSw;(try dsimp only at hSw);go_simp;(try with_reducible rfl)));try simp only [Act.put,pA,pB,pC]
        refine tK 1 (v := ?_) ?_ ?_;rotate_left;(focus (intro w hSw;(try dsimp only at hSw);go_simp;(try with_reducible rfl)));try simp only [Act.put,pA,pB,pC]
        refine held_do 2 rfl (by kernel_rfl) (by rfl) (fun K hK => ?_); go_simp; refine hK.out _ _ (by (try dsimp only); (exact xX)) (fun hHeld => ?_); clear hK K; try simp only [Act.put,pA,pB,pC]
        refine held_do 3 rfl (by kernel_rfl) (by rfl) (fun K hK => ?_); go_simp; refine hK.out _ _ (by (try dsimp only); (exact xX)) (fun hHeld => ?_); clear hK K; try simp only [Act.put,pA,pB,pC]
        refine wpAnyH_done (by kernel_rfl) ?_ _
        repeat (first | go_values | go_skip | go_guarded | go_step | go_upon)
        obtain ⟨hs, ht, hx9⟩ := HQX.out.out1
        obtain ⟨r0, r1, r2, -⟩ := SBlk.open_ (show SBlk _ _ a n c i' false from Blk.drew hs)
        obtain ⟨r3, r4, r5, r6, r7, r8, r9, ra⟩ := ht.drew.eight
        have hx8 := hx9.drew
        unfold w8s w3s at r0 r1 r2 r3 r4 r5 r6 r7 r8 r9 ra
        exact bodyPost_ret (v := .tuple #[.agg #[.slice a n c, .int .i64 (i' : Nat), .bool false], .agg #[.int .u8 x.k, .int .u8 x.op, .int .i64 x.pos, .int .i64 x.n, .string x.name, .string x.arg, .string x.exn, .slice ax nx cx]]) (by simp [results, Tryz.results95, go_sem, r0, r1, r2, r3, r4, r5, r6, r7, r8, r9, ra]) rfl (HQX.out.ret hx8)
      | true =>
        cases m with
        | zero => cases hpm
        | succ m =>
        obtain ⟨r1, hr1, her1, hok1⟩ := args_step hb hpm
        have KU := Lib.hid fun W (h : Ext wr W) => HU.out m (by omega) L a n c i' l1 r1 W (HL.out.ext (hQ.x.trans h)) hA1 he1 hr1
        simp only [Array.append_empty] at KU
        rw [hb] at KS
        have HTOLD := Lib.hid (parseF_told he1 hr1)
        have hpos : 0 < l1.length := by
          cases l1 with
          | nil => exact he1.elim
          | cons _ _ => simp
        have HQ1 := Lib.hid hQ
        have HER1 := Lib.hid her1
        have HOK1 := Lib.hid hok1
        have hb4 := hQ.lt4
        have hb4r := hQ.t.lt
        have hszr := Below.size hQ.x
        have hz2r := hQ.z2.lt
        subst et
        clear hA1 he1 hfx gx1 gx2 hTx hpm hb hr1 her1 hok1 hQ
        go_upto_region 5 with (first | (go_at_call 120; refine (KS.out _ (Ext.refl _)).mono ?_; rintro e w2 ⟨rfl, x2⟩; obtain ⟨m0, m1, m2, k0, k1, k2, ll0⟩ := SBlk.open_ (SBlk.ext HQ1.out.s x2)) | (go_at_call 119; refine (KU.out _ x2).mono ?_; rintro e w3 ⟨x3, i3, bad3, z, az, nz, cz, rfl, hs3, hT3⟩; obtain ⟨m0, m1, m2, k0, k1, k2, ll0⟩ := SBlk.open_ (SBlk.ext HQ1.out.s (x2.trans x3))))
        have hQ3 := HQ1.out.ext (x2.trans x3)
        have hs23 := Below.size x3
        have hs12 := Below.size x2
        have S4 : SBlk (((w3s w3 w.heap.size a n c i3 bad3).alloc (.cells #[.slice a n c, .int .i64 (i3 : Nat), .bool bad3] 71)).alloc (.cells #[.int .u8 z.k, .int .u8 z.op, .int .i64 z.pos, .int .i64 z.n, .string z.name, .string z.arg, .string z.exn, .slice az nz cz] 28)) w.heap.size a n c i3 bad3 := ((w3s_blk hQ3.s).alloc _).alloc _
        have X34 : ExtX (· = w.heap.size) w3 (((w3s w3 w.heap.size a n c i3 bad3).alloc (.cells #[.slice a n c, .int .i64 (i3 : Nat), .bool bad3] 71)).alloc (.cells #[.int .u8 z.k, .int .u8 z.op, .int .i64 z.pos, .int .i64 z.n, .string z.name, .string z.arg, .string z.exn, .slice az nz cz] 28)) := (w3s_x.alloc _).alloc _
        have U4 := Blk.new ((w3s w3 w.heap.size a n c i3 bad3).alloc (.cells #[.slice a n c, .int .i64 (i3 : Nat), .bool bad3] 71)) 28 #[.int .u8 z.k, .int .u8 z.op, .int .i64 z.pos, .int .i64 z.n, .string z.name, .string z.arg, .string z.exn, .slice az nz cz]
        rw [World.size_alloc, w3s_size] at U4
        unfold w3s at S4 X34 U4
        generalize ((((((w3.setCell ⟨w.heap.size, 0, none⟩ (.slice a n c)).setCell ⟨w.heap.size, 1, none⟩ (.int .i64 (i3 : Nat))).setCell ⟨w.heap.size, 2, none⟩ (.bool bad3)).alloc (.cells #[.slice a n c, .int .i64 (i3 : Nat), .bool bad3] 71)).alloc (.cells #[.int .u8 z.k, .int .u8 z.op, .int .i64 z.pos, .int .i64 z.n, .string z.name, .string z.arg, .string z.exn, .slice az nz cz] 28))) = W4 at *
        have T4 := Blk.extx hQ3.t X34 (show ¬ b4 = w.heap.size by omega)
        have HZ1 := Lib.hid (Blk.extx hQ3.z1 X34 (show ¬ w.heap.size + 1 = w.heap.size by omega))
        have HZ2 := Lib.hid (Blk.extx hQ3.z2 X34 (show ¬ w.heap.size + 1 + 1 = w.heap.size by omega))
        have HKX : Hid (t.head.Fits ∧ nx ≤ cx ∧ cx ≤ 9223372036854775807 ∧ IsTmsA (AvQ (w.heap.size + 1 + 1 + 1) b4) W4 t.kids ax nx) := Lib.hid (by
          obtain ⟨-, e2, e3, e4, e5, -⟩ := hQ3.ok t l1 rfl
          exact ⟨e2, e3, e4, e5.extx X34 (fun b (e : b = w.heap.size) => .inl (by omega))⟩)
        have HKZ : Hid (∀ tb l2, r1 = .ok (tb, l2) → tb.head = z ∧ z.Fits ∧ nz ≤ cz ∧ cz ≤ 9223372036854775807 ∧ IsTmsA (AvQ (w.heap.size + 1 + 1 + 1) b4) W4 tb.kids az nz) := Lib.hid fun tb l2 h => by
          obtain ⟨e1, e2, e3, e4, e5⟩ := hT3 tb l2 h
          exact ⟨e1, e2, e3, e4, (e5.extx X34 (fun b (e : b = w.heap.size) => by show b < w2.heap.size; omega)).move (fun b _ hA => by
            show b < w2.heap.size
            rcases hA with h | h <;> omega) (fun _ _ _ hu => hu)⟩
        have HY4 := Lib.hid (ExtX.ext hQ3.x X34 (fun b (e : b = w.heap.size) => by omega))
        have hw34 := X34.size
        have HS4 := Lib.hid S4
        have HT4 := Lib.hid T4
        have HS3 := Lib.hid hs3
        obtain ⟨c0, c1, c2, c3, c4, c5, c6, c7⟩ := T4.eight
        obtain ⟨d0, d1, d2, d3, d4, d5, d6, d7⟩ := U4.eight
        have lt4 := T4.lt
        have lu4 := U4.lt
        clear hQ3 S4 X34 T4 U4 x2 x3 hs3 hT3 m0 m1 m2 k0 k1 k2 ll0 p0 p1 p2 f0 f1 f2 l0 KS KU
        go_wp2_with (go_at_call 121; refine (ref5_term _ _ _ _ _ _).mono ?_; rintro e w6 ⟨rfl, x6⟩; obtain ⟨g0, g1, g2, g3, g4, g5, g6, g7⟩ := (HT4.out.ext (((Ext.refl _).alloc _).trans x6)).frozen8; obtain ⟨c0, c1, c2, c3, c4, c5, c6, c7⟩ := (HT4.out.ext (((Ext.refl _).alloc _).trans x6)).eight; have lt6 := (HT4.out.ext (((Ext.refl _).alloc _).trans x6)).lt)
        have y46 : Ext W4 w6 := ((Ext.refl _).alloc _).trans x6
        have G6 := (Blk.new W4 28 #[.int .u8 t.head.k, .int .u8 t.head.op, .int .i64 t.head.pos, .int .i64 t.head.n, .string t.head.name, .string t.head.arg, .string t.head.exn, .slice ax nx cx, .int .u8 z.k, .int .u8 z.op, .int .i64 z.pos, .int .i64 z.n, .string z.name, .string z.arg, .string z.exn, .slice az nz cz]).ext x6
        have X7 : ExtX (· = b4) w6 (w8s w6 b4 ⟨10, 0, t.head.pos, 0, ⟨#[]⟩, ⟨#[]⟩, ⟨#[]⟩⟩ (some ⟨W4.heap.size, 0, none⟩) 2 2) := w8s_x
        have HLQ : Hid (∃ q2, LoopQ L a n c w b4 (fun t l => ∃ m, m ≤ f ∧ parseF m (.args t) l = some r) r (leftR q2) i3 bad3 ⟨10, 0, t.head.pos, 0, ⟨#[]⟩, ⟨#[]⟩, ⟨#[]⟩⟩ (some ⟨W4.heap.size, 0, none⟩) 2 2 q2 (w8s w6 b4 ⟨10, 0, t.head.pos, 0, ⟨#[]⟩, ⟨#[]⟩, ⟨#[]⟩⟩ (some ⟨W4.heap.size, 0, none⟩) 2 2) ∧ leftR q2 < l1.length) := Lib.hid (by
          have base : ∀ q2 : Res Tm, StS L n i3 bad3 q2 → (∀ t' l', q2 = .ok (t', l') → ∃ tb, r1 = .ok (tb, l') ∧ t' = .mk (hd0 10 t.head.pos) [t, tb]) → (∀ l', q2 = .error l' → r = .error l') → LoopQ L a n c w b4 (fun t l => ∃ m, m ≤ f ∧ parseF m (.args t) l = some r) r (leftR q2) i3 bad3 ⟨10, 0, t.head.pos, 0, ⟨#[]⟩, ⟨#[]⟩, ⟨#[]⟩⟩ (some ⟨W4.heap.size, 0, none⟩) 2 2 q2 (w8s w6 b4 ⟨10, 0, t.head.pos, 0, ⟨#[]⟩, ⟨#[]⟩, ⟨#[]⟩⟩ (some ⟨W4.heap.size, 0, none⟩) 2 2) := fun q2 hst hok her => {
            g := rfl
            s := Blk.extx (SBlk.ext HS4.out y46) X7 (by show ¬ w.heap.size = b4; omega)
            z1 := Blk.extx (HZ1.out.ext y46) X7 (by show ¬ w.heap.size + 1 = b4; omega)
            z2 := Blk.extx (HZ2.out.ext y46) X7 (by show ¬ w.heap.size + 1 + 1 = b4; omega)
            t := (HT4.out.ext y46).lay8
            lt4 := hb4
            st := hst
            ok := fun t' l' h => by
              obtain ⟨tb, e1, rfl⟩ := hok t' l' h
              obtain ⟨f1, f2, f3, f4⟩ := HKX.out
              obtain ⟨rfl, g2, g3, g4, g5⟩ := HKZ.out tb l' e1
              have hm0 : t.head.Fits := f1
              refine ⟨rfl, ⟨by show (0 : Int) ≤ 10; omega, by show (10 : Int) ≤ 255; omega, by show (0 : Int) ≤ 0; omega, by show (0 : Int) ≤ 255; omega, hm0.pos0, hm0.pos1, by show (-9223372036854775808 : Int) ≤ 0; omega, by show (0 : Int) ≤ 9223372036854775807; omega, by show (0 : Nat) ≤ 9223372036854775807; omega, by show (0 : Nat) ≤ 9223372036854775807; omega, by show (0 : Nat) ≤ 9223372036854775807; omega⟩, Nat.le_refl _, by omega, ?_, m, by omega, HOK1.out tb l' e1⟩
              have hp := pair_row (A := AvQ (w.heap.size + 1 + 1 + 1) b4) (g := W4.heap.size) y46 f2 f3 g3 g4 f1 g2 f4 g5 (fun h => by rcases h with h | h <;> omega) G6
              have e1 : Tm.mk t.head t.kids = t := by cases t; rfl
              have e2 : Tm.mk tb.head tb.kids = tb := by cases tb; rfl
              rw [e1, e2] at hp
              exact hp.extx X7 (fun b (e : b = b4) => .inr e)
            er := her
            x := ExtX.ext (HY4.out.trans y46) X7 (fun b (e : b = b4) => by omega) }
          cases r1 with
          | error l2 =>
            exact ⟨.error l2, base _ HS3.out (fun _ _ h => by cases h) (fun l' h => by cases h; exact HER1.out _ rfl), hpos⟩
          | ok p2 =>
            obtain ⟨tb, l2⟩ := p2
            exact ⟨.ok (.mk (hd0 10 t.head.pos) [t, tb], l2), base _ HS3.out (fun t' l' h => by cases h; exact ⟨tb, rfl, rfl⟩) (fun l' h => by cases h), HTOLD.out.2⟩)
        clear y46 G6 X7 x6
        obtain ⟨q2, hq2, hlt2⟩ := HLQ.out
        go_roundg (leftR q2)
        case rel =>
          unfold w8s at hq2
          exact ⟨_, _, _, _, _, _, q2, hq2⟩
        case measure =>
          have hg := HQ1.out.g
          rw [hg]
          exact hlt2
end Go.Proofs.YtaioeailgknfjaaGreatDoor

/- The walk of enclaveref05.level. -/
namespace Go.Proofs.YtaioeailgknfjaaGreatDoor
open Go Go.RowKit Go.Sort

theorem isT_tx {xs : List ByteArray} {l : List Tk} (h : isT xs l = true) : textT l = txS l := by
  obtain ⟨t, r, rfl, -, -, hk⟩ := isT_ne h
  show t.text = if t.k = 4 ∨ t.k = 5 then t.text else _
  rw [if_pos hk]
/-- What is to come, signs of a level ahead. -/
def PL (f k : Nat) (r : Res Tm) (t : Tm) (l : List Tk) : Prop := if k < 2 then (if isT (signsL k) l then andThen (parseF f (.lvl (k + 1)) l.tail) fun b l2 => some (.ok (putT (textT l) t b, l2)) else some (.ok (t, l))) = some r else ∃ m, m ≤ f ∧ parseF m (.more k t) l = some r
theorem lvl_first {f k : Nat} {l : List Tk} {r : Res Tm} (hk : k < 4) (h : parseF (f + 1) (.lvl k) l = some r) : ∃ r0, parseF f (.lvl (k + 1)) l = some r0 ∧ (∀ l', r0 = .error l' → r = .error l') ∧ ∀ ta l2, r0 = .ok (ta, l2) → PL f k r ta l2 := by
  unfold parseF at h
  by_cases h2 : k < 2
  · rw [if_pos h2] at h
    cases hu : parseF f (.lvl (k + 1)) l with
    | none => rw [hu] at h; cases h
    | some r1 =>
      rw [hu] at h
      refine ⟨r1, rfl, ?_, ?_⟩
      · rintro l' rfl
        exact (Option.some.inj h).symm
      · rintro tb l2 rfl
        unfold PL
        rw [if_pos h2]
        exact h
  · rw [if_neg h2, if_pos hk] at h
    cases hu : parseF f (.lvl (k + 1)) l with
    | none => rw [hu] at h; cases h
    | some r1 =>
      rw [hu] at h
      refine ⟨r1, rfl, ?_, ?_⟩
      · rintro l' rfl
        exact (Option.some.inj h).symm
      · rintro tb l2 rfl
        unfold PL
        rw [if_neg h2]
        exact ⟨f, Nat.le_refl _, h⟩
theorem PL.stop {f k : Nat} {r : Res Tm} {t : Tm} {l : List Tk} (hb : isT (signsL k) l = false) (h : PL f k r t l) : r = .ok (t, l) := by
  unfold PL at h
  split at h
  · rw [if_neg (by rw [hb]; simp)] at h
    exact (Option.some.inj h).symm
  · obtain ⟨m, -, h⟩ := h
    cases m with
    | zero => cases h
    | succ m =>
      unfold parseF at h
      rw [if_neg (by rw [hb]; simp)] at h
      exact (Option.some.inj h).symm
theorem PL.step {f k : Nat} {r : Res Tm} {t : Tm} {l : List Tk} (hb : isT (signsL k) l = true) (h : PL f k r t l) : ∃ m r1, m ≤ f ∧ parseF m (.lvl (k + 1)) l.tail = some r1 ∧ (∀ l', r1 = .error l' → r = .error l') ∧ ∀ tb l2, r1 = .ok (tb, l2) → (k < 2 → r = .ok (putT (textT l) t tb, l2)) ∧ (¬ k < 2 → PL f k r (putT (textT l) t tb) l2) := by
  unfold PL at h
  by_cases h2 : k < 2
  · rw [if_pos h2, if_pos hb] at h
    cases hu : parseF f (.lvl (k + 1)) l.tail with
    | none => rw [hu] at h; cases h
    | some r1 =>
      rw [hu] at h
      refine ⟨f, r1, Nat.le_refl _, hu, ?_, ?_⟩
      · rintro l' rfl
        exact (Option.some.inj h).symm
      · rintro tb l2 rfl
        exact ⟨fun _ => (Option.some.inj h).symm, fun h' => absurd h2 h'⟩
  · rw [if_neg h2] at h
    obtain ⟨m, hm, h⟩ := h
    cases m with
    | zero => cases h
    | succ m =>
      unfold parseF at h
      rw [if_pos hb] at h
      cases hu : parseF m (.lvl (k + 1)) l.tail with
      | none => rw [hu] at h; cases h
      | some r1 =>
        rw [hu] at h
        refine ⟨m, r1, by omega, hu, ?_, ?_⟩
        · rintro l' rfl
          exact (Option.some.inj h).symm
        · rintro tb l2 rfl
          refine ⟨fun h' => absurd h' h2, fun _ => ?_⟩
          unfold PL
          rw [if_neg h2]
          exact ⟨m, by omega, h⟩
theorem SBlk.next {w : World} {g : Nat} {a : Option Addr} {n c i : Nat} {bad : Bool} (h : SBlk w g a n c i bad) : SBlk (w.setCell ⟨g, 1, none⟩ (.int .i64 ((i : Int) + 1))) g a n c (i + 1) bad := by
  have h := Blk.set_ h 1 (.int .i64 ((i : Int) + 1))
  simp only [List.setIfInBounds_toArray, List.set_cons_succ, List.set_cons_zero] at h
  exact h
theorem putH_eta (x : ByteArray) (p : Int) : putH x p = ⟨(putH x p).k, (putH x p).op, p, 0, ⟨#[]⟩, ⟨#[]⟩, ⟨#[]⟩⟩ := by
  unfold putH
  split <;> rfl
theorem putH_bound (x : ByteArray) (p : Int) : 0 ≤ (putH x p).k ∧ (putH x p).k ≤ 255 ∧ 0 ≤ (putH x p).op ∧ (putH x p).op ≤ 255 := by
  unfold putH
  split
  · simp [hd0]
  · have := opOf_bound x
    simp only [hd0]
    omega
theorem signs_len (k : Nat) : (signsL k).length ≤ 2 ∧ inB (signsL k) ByteArray.empty = false := by
  match k with
  | 0 => exact ⟨by decide, by decide +kernel⟩
  | 1 => exact ⟨by decide, by decide +kernel⟩
  | 2 => exact ⟨by decide, by decide +kernel⟩
  | k + 3 => exact ⟨by show 1 ≤ 2; omega, by show inB [s_star] ByteArray.empty = false; decide +kernel⟩
set_option maxRecDepth 60000 in
set_option maxHeartbeats 16000000 in
theorem ref5_level (k f : Nat) (hk : k < 4) (hF : ∀ g, g ≤ f → DoesS 72 #[.int .i64 ((k : Int) + 1)] (.lvl (k + 1)) g) : DoesS 72 #[.int .i64 (k : Int)] (.lvl k) (f + 1) := by
  intro L a n c i l r w hL hA he hp
  obtain ⟨r0, hr0, her0, hok0⟩ := lvl_first hk hp
  have HL := Lib.hid hL
  have HF := Lib.hid hF
  have K0 := Lib.hid fun W (h : Ext w W) => hF f (Nat.le_refl _) L a n c i l r0 W (hL.ext h) hA he hr0
  have HER0 := Lib.hid her0
  have HOK0 := Lib.hid hok0
  have hk4 : ((k : Int) == 4) = false := by simp; omega
  have hwk : IntKind.i64.wrap ((k : Int) + 1) = (k : Int) + 1 := IntWalk.i64_in _ ⟨by omega, by omega⟩
  have hnc := hL.le
  have hcM := hL.cap
  clear hL hF hA he hp hr0 her0 hok0
  have e0 : (#[.agg #[.slice a n c, .int .i64 (i : Nat), .bool false]] ++ #[.int .i64 ((k : Int) + 1)] : Array Value) = #[.agg #[.slice a n c, .int .i64 (i : Nat), .bool false], .int .i64 ((k : Int) + 1)] := rfl
  rw [e0] at K0
  have e1 : (#[.agg #[.slice a n c, .int .i64 (i : Nat), .bool false]] ++ #[.int .i64 (k : Int)] : Array Value) = #[.agg #[.slice a n c, .int .i64 (i : Nat), .bool false], .int .i64 (k : Int)] := rfl
  rw [e1]
  clear e0 e1
  go_enter Tryz.func72, Tryz.ntmps72
  go_upto_region 4 with (go_at_call 72; refine (K0.out _ (by (exact eX))).mono ?_; rintro e w1 ⟨x1, i1, bad1, y, ak, nk, ck, rfl, hs1, hT1⟩; obtain ⟨m0, m1, m2, k0, k1, k2, ll0⟩ := SBlk.open_ (blk3 x1).1)
  obtain ⟨hS1, hZ1, hZ2⟩ := blk3 x1
  have y1 : Ext w w1 := by (exact eX)
  have hb1 : w.heap.size + 1 + 1 < w1.heap.size := hZ2.lt
  have S2 : SBlk (w3s w1 w.heap.size a n c i1 bad1) w.heap.size a n c i1 bad1 := w3s_blk hS1
  have X2 : ExtX (· = w.heap.size) w1 (w3s w1 w.heap.size a n c i1 bad1) := w3s_x
  have T2 := Blk.new (w3s w1 w.heap.size a n c i1 bad1) 28 #[.int .u8 y.k, .int .u8 y.op, .int .i64 y.pos, .int .i64 y.n, .string y.name, .string y.arg, .string y.exn, .slice ak nk ck]
  rw [w3s_size] at T2
  have HQ0 : Hid (LoopQ L a n c w w1.heap.size (PL f k r) r (leftR r0) i1 bad1 y ak nk ck r0 ((w3s w1 w.heap.size a n c i1 bad1).alloc (.cells #[.int .u8 y.k, .int .u8 y.op, .int .i64 y.pos, .int .i64 y.n, .string y.name, .string y.arg, .string y.exn, .slice ak nk ck] 28))) := Lib.hid {
    g := rfl
    s := S2.alloc _
    z1 := (hZ1.extx X2 (by show ¬ w.heap.size + 1 = w.heap.size; omega)).alloc _
    z2 := (hZ2.extx X2 (by show ¬ w.heap.size + 1 + 1 = w.heap.size; omega)).alloc _
    t := T2
    lt4 := hb1
    st := hs1
    ok := fun t l h => by
      obtain ⟨e1, e2, e3, e4, e5⟩ := hT1 t l h
      exact ⟨e1, e2, e3, e4, kids_new e5 (fun b hb => by show b < _; simp; omega) (by omega), HOK0.out t l h⟩
    er := HER0.out
    x := (ExtX.ext y1 X2 (fun b (e : b = w.heap.size) => by omega)).alloc _ }
  unfold w3s at HQ0
  clear x1 hS1 hZ1 hZ2 y1 S2 X2 T2 hs1 hT1 m0 m1 m2 k0 k1 k2 ll0 K0 HOK0 HER0
  generalize ((((w1.setCell ⟨w.heap.size, 0, none⟩ (.slice a n c)).setCell ⟨w.heap.size, 1, none⟩ (.int .i64 (i1 : Nat))).setCell ⟨w.heap.size, 2, none⟩ (.bool bad1)).alloc (.cells #[.int .u8 y.k, .int .u8 y.op, .int .i64 y.pos, .int .i64 y.n, .string y.name, .string y.arg, .string y.exn, .slice ak nk ck] 28)) = W0 at *
  generalize w1.heap.size = b4 at *
  clear w1
  go_wp2_with fail
  go_loopg [] (leftR r0) (fun g wr => ∃ (i' : Nat) (bad' : Bool) (x : Hd) (ax : Option Addr) (nx cx : Nat) (q : Res Tm), LoopQ L a n c w b4 (PL f k r) r g i' bad' x ax nx cx q wr)
  case atStart => exact ⟨_, _, _, _, _, _, _, HQ0.out⟩
  case round =>
    obtain ⟨i', bad', x, ax, nx, cx, q, hQ⟩ := hrel
    cases q with
    | error l' =>
      obtain rfl := hQ.er l' rfl
      have hb : bad' = true := hQ.st.1
      subst hb
      obtain ⟨WX, hWX⟩ : ∃ WX, WX = wr := ⟨_, rfl⟩
      have hQX := hQ
      rw [← hWX] at hQX
      rw [← hWX]
      clear hQ hWX
      have ns := fun W (h : Ext WX W) => h.cell (Blk.cell hQX.s 2)
      simp at ns
      go_upto_region 4 with fail
      refine wp_region_held_drew (S := fun w' => Ext WX w') (by kernel_rfl) (by (try dsimp only); (exact eX)) (fun hHeld => ?_)
      refine tK 0 (v := ?_) ?_ ?_;rotate_left;(focus (intro w hSw;(try dsimp only at hSw);go_simp;(try with_reducible rfl)));try simp only [Act.put,pA,pB,pC]
      refine tK 1 (v := ?_) ?_ ?_;rotate_left;(focus (intro w hSw;(try dsimp only at hSw);go_simp;(try with_reducible rfl)));try simp only [Act.put,pA,pB,pC]
      refine tK 2 (v := ?_) ?_ ?_;rotate_left;(focus (intro w hSw;(try dsimp only at hSw);go_simp;(try with_reducible rfl)));try simp only [Act.put,pA,pB,pC]
      refine tK 3 (v := ?_) ?_ ?_;rotate_left;(focus (intro w hSw;(try dsimp only at hSw);go_simp;(try with_reducible rfl)));try simp only [Act.put,pA,pB,pC]
      first | (refine tK 4 (v := ?_) ?_ ?_;rotate_left;(focus (intro w hSw;(try dsimp only at hSw);go_simp;(try with_reducible rfl)));try simp only [Act.put,pA,pB,pC]) | (refine held_skip 4 rfl (by kernel_rfl) (by kernel_rfl) (by kernel_rfl) (fun _ _ _ h => h) (by assumption) (by rfl) ?_; try simp only [Act.put,pA,pB,pC])
      first | (refine tK 6 (v := ?_) ?_ ?_;rotate_left;(focus (intro w hSw;(try dsimp only at hSw);go_simp;(try with_reducible rfl)));try simp only [Act.put,pA,pB,pC]) | (refine held_skip 6 rfl (by kernel_rfl) (by kernel_rfl) (by kernel_rfl) (fun _ _ _ h => h) (by assumption) (by rfl) ?_; try simp only [Act.put,pA,pB,pC])
      first | (refine held_skip 5 rfl (by kernel_rfl) (by kernel_rfl) (by kernel_rfl) (fun _ _ _ h => h) (by assumption) (by rfl) ?_; try simp only [Act.put,pA,pB,pC]) | (refine held_do 5 rfl (by kernel_rfl) (by rfl) (fun K hK => ?_); go_simp; (first | (fail)); (try (focus (go_wp2_with fail))); refine hK.out _ _ (by (try dsimp only); (exact eX)) (fun hHeld => ?_); clear hK K; try simp only [Act.put,pA,pB,pC])
      first | (refine held_skip 7 rfl (by kernel_rfl) (by kernel_rfl) (by kernel_rfl) (fun _ _ _ h => h) (by assumption) (by rfl) ?_; try simp only [Act.put,pA,pB,pC]) | (refine held_do 7 rfl (by kernel_rfl) (by rfl) (fun K hK => ?_); go_simp; (first | (fail)); (try (focus (go_wp2_with fail))); refine hK.out _ _ (by (try dsimp only); (exact eX)) (fun hHeld => ?_); clear hK K; try simp only [Act.put,pA,pB,pC])
      first | (refine held_skip 8 rfl (by kernel_rfl) (by kernel_rfl) (by kernel_rfl) (fun _ _ _ h => h) (by assumption) (by rfl) ?_; try simp only [Act.put,pA,pB,pC]) | (refine held_do 8 rfl (by kernel_rfl) (by rfl) (fun K hK => ?_); go_simp; (first | (fail)); (try (focus (go_wp2_with fail))); refine hK.out _ _ (by (try dsimp only); (exact eX)) (fun hHeld => ?_); clear hK K; try simp only [Act.put,pA,pB,pC])
      refine tK 9 (v := ?_) ?_ ?_;rotate_left;(focus (intro w hSw;(try dsimp only at hSw);go_simp;(try with_reducible rfl)));try simp only [Act.put,pA,pB,pC]
      refine wpAnyH_done (by kernel_rfl) ?_ _
      obtain ⟨WY, hWY⟩ : ∃ WY, WY = WX.drew := ⟨_, rfl⟩
      have hQY := hQX.ext hHeld
      rw [← hWY] at hQY
      rw [← hWY]
      clear hQX hHeld ns hWY
      have HQX := Lib.hid hQY
      obtain ⟨p0, p1, p2, f0, f1, f2, l0⟩ := SBlk.open_ hQY.s
      obtain ⟨c0, c1, c2, c3, c4, c5, c6, c7⟩ := hQY.t.eight
      have hl4 := hQY.lt4
      obtain ⟨z0, z1, z2, z3, z4, z5, z6, z7⟩ := hQY.z2.eight
      obtain ⟨g0, g1, g2, g3, g4, g5, g6, g7⟩ := hQY.z2.frozen8
      have v0 := hQY.z1.cell 0
      have v1 := hQY.z1.cell 1
      have v2 := hQY.z1.cell 2
      simp at v0 v1 v2
      have v3 := hQY.z1.frozen 0
      have v4 := hQY.z1.frozen 1
      have v5 := hQY.z1.frozen 2
      have lv := hQY.z1.lt
      have lz := hQY.z2.lt
      have ne1 : w.heap.size + 1 ≠ w.heap.size + 1 + 1 := by omega
      have ne2 : w.heap.size + 1 + 1 ≠ w.heap.size + 1 := by omega
      have ns0 := fun W (h : ExtX (fun b => b = w.heap.size + 1 ∨ b = w.heap.size + 1 + 1) WY W) => h.cell (p := ⟨w.heap.size, 0, none⟩) (show ¬ (w.heap.size = w.heap.size + 1 ∨ w.heap.size = w.heap.size + 1 + 1) by omega) p0
      have ns1 := fun W (h : ExtX (fun b => b = w.heap.size + 1 ∨ b = w.heap.size + 1 + 1) WY W) => h.cell (p := ⟨w.heap.size, 1, none⟩) (show ¬ (w.heap.size = w.heap.size + 1 ∨ w.heap.size = w.heap.size + 1 + 1) by omega) p1
      have ns2 := fun W (h : ExtX (fun b => b = w.heap.size + 1 ∨ b = w.heap.size + 1 + 1) WY W) => h.cell (p := ⟨w.heap.size, 2, none⟩) (show ¬ (w.heap.size = w.heap.size + 1 ∨ w.heap.size = w.heap.size + 1 + 1) by omega) p2
      have nc0 := fun W (h : ExtX (fun b => b = w.heap.size + 1 ∨ b = w.heap.size + 1 + 1) WY W) => h.cell (p := ⟨b4, 0, none⟩) (show ¬ (b4 = w.heap.size + 1 ∨ b4 = w.heap.size + 1 + 1) by omega) c0
      have nc1 := fun W (h : ExtX (fun b => b = w.heap.size + 1 ∨ b = w.heap.size + 1 + 1) WY W) => h.cell (p := ⟨b4, 1, none⟩) (show ¬ (b4 = w.heap.size + 1 ∨ b4 = w.heap.size + 1 + 1) by omega) c1
      have nc2 := fun W (h : ExtX (fun b => b = w.heap.size + 1 ∨ b = w.heap.size + 1 + 1) WY W) => h.cell (p := ⟨b4, 2, none⟩) (show ¬ (b4 = w.heap.size + 1 ∨ b4 = w.heap.size + 1 + 1) by omega) c2
      have nc3 := fun W (h : ExtX (fun b => b = w.heap.size + 1 ∨ b = w.heap.size + 1 + 1) WY W) => h.cell (p := ⟨b4, 3, none⟩) (show ¬ (b4 = w.heap.size + 1 ∨ b4 = w.heap.size + 1 + 1) by omega) c3
      have nc4 := fun W (h : ExtX (fun b => b = w.heap.size + 1 ∨ b = w.heap.size + 1 + 1) WY W) => h.cell (p := ⟨b4, 4, none⟩) (show ¬ (b4 = w.heap.size + 1 ∨ b4 = w.heap.size + 1 + 1) by omega) c4
      have nc5 := fun W (h : ExtX (fun b => b = w.heap.size + 1 ∨ b = w.heap.size + 1 + 1) WY W) => h.cell (p := ⟨b4, 5, none⟩) (show ¬ (b4 = w.heap.size + 1 ∨ b4 = w.heap.size + 1 + 1) by omega) c5
      have nc6 := fun W (h : ExtX (fun b => b = w.heap.size + 1 ∨ b = w.heap.size + 1 + 1) WY W) => h.cell (p := ⟨b4, 6, none⟩) (show ¬ (b4 = w.heap.size + 1 ∨ b4 = w.heap.size + 1 + 1) by omega) c6
      have nc7 := fun W (h : ExtX (fun b => b = w.heap.size + 1 ∨ b = w.heap.size + 1 + 1) WY W) => h.cell (p := ⟨b4, 7, none⟩) (show ¬ (b4 = w.heap.size + 1 ∨ b4 = w.heap.size + 1 + 1) by omega) c7
      clear hQY
      go_upto_region 12 with fail
      refine wp_region_held_drew (S := fun w' => ExtX (fun b => b = w.heap.size + 1 ∨ b = w.heap.size + 1 + 1) WY w') (by kernel_rfl) (by (try dsimp only); (exact xX)) (fun hHeld => ?_)
      refine tK 0 (v := ?_) ?_ ?_;rotate_left;(focus (intro w hSw;(try dsimp only at hSw);go_simp;(try with_reducible rfl)));try simp only [Act.put,pA,pB,pC]
      refine tK 1 (v := ?_) ?_ ?_;rotate_left;(focus (intro w hSw;(try dsimp only at hSw);go_simp;(try with_reducible rfl)));try simp only [Act.put,pA,pB,pC]
      refine held_do 2 rfl (by kernel_rfl) (by rfl) (fun K hK => ?_); go_simp; refine hK.out _ _ (by (try dsimp only); (exact xX)) (fun hHeld => ?_); clear hK K; try simp only [Act.put,pA,pB,pC]
      refine held_do 3 rfl (by kernel_rfl) (by rfl) (fun K hK => ?_); go_simp; refine hK.out _ _ (by (try dsimp only); (exact xX)) (fun hHeld => ?_); clear hK K; try simp only [Act.put,pA,pB,pC]
      refine wpAnyH_done (by kernel_rfl) ?_ _
      repeat (first | go_values | go_skip | go_guarded | go_step | go_upon)
      obtain ⟨hs, ht, hx9⟩ := HQX.out.out1
      obtain ⟨r0, r1, r2, -⟩ := SBlk.open_ (show SBlk _ _ a n c i' true from Blk.drew hs)
      obtain ⟨r3, r4, r5, r6, r7, r8, r9, ra⟩ := ht.drew.eight
      have hx8 := hx9.drew
      unfold w8s w3s at r0 r1 r2 r3 r4 r5 r6 r7 r8 r9 ra
      exact bodyPost_ret (v := .tuple #[.agg #[.slice a n c, .int .i64 (i' : Nat), .bool true], .agg #[.int .u8 x.k, .int .u8 x.op, .int .i64 x.pos, .int .i64 x.n, .string x.name, .string x.arg, .string x.exn, .slice ax nx cx]]) (by simp [results, Tryz.results72, go_sem, r0, r1, r2, r3, r4, r5, r6, r7, r8, r9, ra]) rfl (HQX.out.ret hx8)
    | ok p =>
      obtain ⟨t, l1⟩ := p
      obtain ⟨hbf, hA1, he1⟩ := hQ.st
      subst hbf
      obtain ⟨et, hfx, gx1, gx2, hTx, hpm⟩ := hQ.ok t l1 rfl
      obtain ⟨hsl, hse⟩ := signs_len k
      have KX := Lib.hid fun W (h : Ext wr W) => ref5_text L a n c i' false l1 W (HL.out.ext (hQ.x.trans h)) hA1
      have KI := Lib.hid fun W (aa : Option Addr) (hr : IsRow W (vstr (signsL k)) aa (signsL k).length) => ref5_in (signsL k) (txS l1) W aa (signsL k).length (signsL k).length (Nat.le_refl _) (by omega) hr
      rw [txS_is hse l1] at KI
      have ns0 := fun W (h : Ext wr W) => h.cell (Blk.cell hQ.s 0)
      have ns1 := fun W (h : Ext wr W) => h.cell (Blk.cell hQ.s 1)
      have ns2 := fun W (h : Ext wr W) => h.cell (Blk.cell hQ.s 2)
      simp at ns0 ns1 ns2
      have HQ1 := Lib.hid hQ
      have hb4 := hQ.lt4
      have hb4r := hQ.t.lt
      have hszr := Below.size hQ.x
      have hz2r := hQ.z2.lt
      cases hb : isT (signsL k) l1 with
      | false =>
        have hr9 := PL.stop hb hpm
        rw [hb] at KI
        subst hr9
        clear hA1 he1 hfx gx1 gx2 hTx hpm hb hQ
        go_upto_region 4 with fail
        refine wp_region_held_drew (S := fun w' => Ext wr w') (by kernel_rfl) (by (try dsimp only); (exact eX)) (fun hHeld => ?_)
        refine tK 0 (v := ?_) ?_ ?_;rotate_left;(focus (intro w hSw;(try dsimp only at hSw);go_simp;(try with_reducible rfl)));try simp only [Act.put,pA,pB,pC]
        refine tK 1 (v := ?_) ?_ ?_;rotate_left;(focus (intro w hSw;(try dsimp only at hSw);go_simp;(try with_reducible rfl)));try simp only [Act.put,pA,pB,pC]
        refine tK 2 (v := ?_) ?_ ?_;rotate_left;(focus (intro w hSw;(try dsimp only at hSw);go_simp;(try with_reducible rfl)));try simp only [Act.put,pA,pB,pC]
        refine tK 3 (v := ?_) ?_ ?_;rotate_left;(focus (intro w hSw;(try dsimp only at hSw);go_simp;(try with_reducible rfl)));try simp only [Act.put,pA,pB,pC]
        first | (refine tK 4 (v := ?_) ?_ ?_;rotate_left;(focus (intro w hSw;(try dsimp only at hSw);go_simp;(try with_reducible rfl)));try simp only [Act.put,pA,pB,pC]) | (refine held_skip 4 rfl (by kernel_rfl) (by kernel_rfl) (by kernel_rfl) (fun _ _ _ h => h) (by assumption) (by rfl) ?_; try simp only [Act.put,pA,pB,pC])
        first | (refine tK 6 (v := ?_) ?_ ?_;rotate_left;(focus (intro w hSw;(try dsimp only at hSw);go_simp;(try with_reducible rfl)));try simp only [Act.put,pA,pB,pC]) | (refine held_skip 6 rfl (by kernel_rfl) (by kernel_rfl) (by kernel_rfl) (fun _ _ _ h => h) (by assumption) (by rfl) ?_; try simp only [Act.put,pA,pB,pC])
        first | (refine held_skip 5 rfl (by kernel_rfl) (by kernel_rfl) (by kernel_rfl) (fun _ _ _ h => h) (by assumption) (by rfl) ?_; try simp only [Act.put,pA,pB,pC]) | (refine held_do 5 rfl (by kernel_rfl) (by rfl) (fun K hK => ?_); go_simp; (first | (go_at_call 97; refine (ref5_signs k hk _).mono ?_; rintro e w5 ⟨aS, rfl, hrow, x5⟩; have HROW := Lib.hid hrow; clear hrow)); (try (focus (go_wp2_with fail))); refine hK.out _ _ (by (try dsimp only); (exact eX)) (fun hHeld => ?_); clear hK K; try simp only [Act.put,pA,pB,pC])
        first | (refine held_skip 7 rfl (by kernel_rfl) (by kernel_rfl) (by kernel_rfl) (fun _ _ _ h => h) (by assumption) (by rfl) ?_; try simp only [Act.put,pA,pB,pC]) | (refine held_do 7 rfl (by kernel_rfl) (by rfl) (fun K hK => ?_); go_simp; (first | (go_at_call 41; refine (KX.out _ (by (exact eX))).mono ?_; rintro e w6 ⟨rfl, x6⟩)); (try (focus (go_wp2_with fail))); refine hK.out _ _ (by (try dsimp only); (exact eX)) (fun hHeld => ?_); clear hK K; try simp only [Act.put,pA,pB,pC])
        first | (refine held_skip 8 rfl (by kernel_rfl) (by kernel_rfl) (by kernel_rfl) (fun _ _ _ h => h) (by assumption) (by rfl) ?_; try simp only [Act.put,pA,pB,pC]) | (refine held_do 8 rfl (by kernel_rfl) (by rfl) (fun K hK => ?_); go_simp; (first | (go_at_call 96; refine (KI.out _ _ (HROW.out.ext (by (exact eX)))).mono ?_; rintro e w7 ⟨rfl, x7⟩)); (try (focus (go_wp2_with fail))); refine hK.out _ _ (by (try dsimp only); (exact eX)) (fun hHeld => ?_); clear hK K; try simp only [Act.put,pA,pB,pC])
        refine tK 9 (v := ?_) ?_ ?_;rotate_left;(focus (intro w hSw;(try dsimp only at hSw);go_simp;(try with_reducible rfl)));try simp only [Act.put,pA,pB,pC]
        refine wpAnyH_done (by kernel_rfl) ?_ _
        all_goals
          have hQX := HQ1.out.ext hHeld
          clear hHeld ns0 ns1 ns2 HROW
          have HQX := Lib.hid hQX
          obtain ⟨p0, p1, p2, f0, f1, f2, l0⟩ := SBlk.open_ hQX.s
          obtain ⟨c0, c1, c2, c3, c4, c5, c6, c7⟩ := hQX.t.eight
          have hl4 := hQX.lt4
          obtain ⟨z0, z1, z2, z3, z4, z5, z6, z7⟩ := hQX.z2.eight
          obtain ⟨g0, g1, g2, g3, g4, g5, g6, g7⟩ := hQX.z2.frozen8
          have v0 := hQX.z1.cell 0
          have v1 := hQX.z1.cell 1
          have v2 := hQX.z1.cell 2
          simp at v0 v1 v2
          have v3 := hQX.z1.frozen 0
          have v4 := hQX.z1.frozen 1
          have v5 := hQX.z1.frozen 2
          have lv := hQX.z1.lt
          have lz := hQX.z2.lt
          have ne1 : w.heap.size + 1 ≠ w.heap.size + 1 + 1 := by omega
          have ne2 : w.heap.size + 1 + 1 ≠ w.heap.size + 1 := by omega
          have ns0 := fun W (h : ExtX (fun b => b = w.heap.size + 1 ∨ b = w.heap.size + 1 + 1) w7 W) => h.cell (p := ⟨w.heap.size, 0, none⟩) (show ¬ (w.heap.size = w.heap.size + 1 ∨ w.heap.size = w.heap.size + 1 + 1) by omega) p0
          have ns1 := fun W (h : ExtX (fun b => b = w.heap.size + 1 ∨ b = w.heap.size + 1 + 1) w7 W) => h.cell (p := ⟨w.heap.size, 1, none⟩) (show ¬ (w.heap.size = w.heap.size + 1 ∨ w.heap.size = w.heap.size + 1 + 1) by omega) p1
          have ns2 := fun W (h : ExtX (fun b => b = w.heap.size + 1 ∨ b = w.heap.size + 1 + 1) w7 W) => h.cell (p := ⟨w.heap.size, 2, none⟩) (show ¬ (w.heap.size = w.heap.size + 1 ∨ w.heap.size = w.heap.size + 1 + 1) by omega) p2
          have nc0 := fun W (h : ExtX (fun b => b = w.heap.size + 1 ∨ b = w.heap.size + 1 + 1) w7 W) => h.cell (p := ⟨b4, 0, none⟩) (show ¬ (b4 = w.heap.size + 1 ∨ b4 = w.heap.size + 1 + 1) by omega) c0
          have nc1 := fun W (h : ExtX (fun b => b = w.heap.size + 1 ∨ b = w.heap.size + 1 + 1) w7 W) => h.cell (p := ⟨b4, 1, none⟩) (show ¬ (b4 = w.heap.size + 1 ∨ b4 = w.heap.size + 1 + 1) by omega) c1
          have nc2 := fun W (h : ExtX (fun b => b = w.heap.size + 1 ∨ b = w.heap.size + 1 + 1) w7 W) => h.cell (p := ⟨b4, 2, none⟩) (show ¬ (b4 = w.heap.size + 1 ∨ b4 = w.heap.size + 1 + 1) by omega) c2
          have nc3 := fun W (h : ExtX (fun b => b = w.heap.size + 1 ∨ b = w.heap.size + 1 + 1) w7 W) => h.cell (p := ⟨b4, 3, none⟩) (show ¬ (b4 = w.heap.size + 1 ∨ b4 = w.heap.size + 1 + 1) by omega) c3
          have nc4 := fun W (h : ExtX (fun b => b = w.heap.size + 1 ∨ b = w.heap.size + 1 + 1) w7 W) => h.cell (p := ⟨b4, 4, none⟩) (show ¬ (b4 = w.heap.size + 1 ∨ b4 = w.heap.size + 1 + 1) by omega) c4
          have nc5 := fun W (h : ExtX (fun b => b = w.heap.size + 1 ∨ b = w.heap.size + 1 + 1) w7 W) => h.cell (p := ⟨b4, 5, none⟩) (show ¬ (b4 = w.heap.size + 1 ∨ b4 = w.heap.size + 1 + 1) by omega) c5
          have nc6 := fun W (h : ExtX (fun b => b = w.heap.size + 1 ∨ b = w.heap.size + 1 + 1) w7 W) => h.cell (p := ⟨b4, 6, none⟩) (show ¬ (b4 = w.heap.size + 1 ∨ b4 = w.heap.size + 1 + 1) by omega) c6
          have nc7 := fun W (h : ExtX (fun b => b = w.heap.size + 1 ∨ b = w.heap.size + 1 + 1) w7 W) => h.cell (p := ⟨b4, 7, none⟩) (show ¬ (b4 = w.heap.size + 1 ∨ b4 = w.heap.size + 1 + 1) by omega) c7
          clear hQX
          go_upto_region 12 with fail
          refine wp_region_held_drew (S := fun w' => ExtX (fun b => b = w.heap.size + 1 ∨ b = w.heap.size + 1 + 1) w7 w') (by kernel_rfl) (by (try dsimp only); (exact xX)) (fun hHeld => ?_)
          refine tK 0 (v := ?_) ?_ ?_;rotate_left;(focus (intro w hSw;(try dsimp only at hSw);go_simp;(try with_reducible rfl)));try simp only [Act.put,pA,pB,pC]
          refine tK 1 (v := ?_) ?_ ?_;rotate_left;(focus (intro w hSw;(try dsimp only at hSw);go_simp;(try with_reducible rfl)));try simp only [Act.put,pA,pB,pC]
          refine held_do 2 rfl (by kernel_rfl) (by rfl) (fun K hK => ?_); go_simp; refine hK.out _ _ (by (try dsimp only); (exact xX)) (fun hHeld => ?_); clear hK K; try simp only [Act.put,pA,pB,pC]
          refine held_do 3 rfl (by kernel_rfl) (by rfl) (fun K hK => ?_); go_simp; refine hK.out _ _ (by (try dsimp only); (exact xX)) (fun hHeld => ?_); clear hK K; try simp only [Act.put,pA,pB,pC]
          refine wpAnyH_done (by kernel_rfl) ?_ _
          repeat (first | go_values | go_skip | go_guarded | go_step | go_upon)
          obtain ⟨hs, ht, hx9⟩ := HQX.out.out1
          obtain ⟨r0, r1, r2, -⟩ := SBlk.open_ (show SBlk _ _ a n c i' false from Blk.drew hs)
          obtain ⟨r3, r4, r5, r6, r7, r8, r9, ra⟩ := ht.drew.eight
          have hx8 := hx9.drew
          unfold w8s w3s at r0 r1 r2 r3 r4 r5 r6 r7 r8 r9 ra
          exact bodyPost_ret (v := .tuple #[.agg #[.slice a n c, .int .i64 (i' : Nat), .bool false], .agg #[.int .u8 x.k, .int .u8 x.op, .int .i64 x.pos, .int .i64 x.n, .string x.name, .string x.arg, .string x.exn, .slice ax nx cx]]) (by simp [results, Tryz.results72, go_sem, r0, r1, r2, r3, r4, r5, r6, r7, r8, r9, ra]) rfl (HQX.out.ret hx8)
      | true =>
        obtain ⟨m, r1, hm, hr1, her1, hok1⟩ := PL.step hb hpm
        have hE2 := he1.is_ hb
        obtain ⟨hE2, hlen2⟩ := hE2
        obtain ⟨tk, l', bb, oo, hl1, -, -, -, -, -, hnx⟩ := hA1.tok (HL.out.ext hQ.x)
        have hne : l1.tail ≠ [] := by intro h; rw [h] at hE2; exact hE2
        have hA2 : AtS L n (i' + 1) l1.tail := by
          rw [hl1] at hne ⊢
          exact hnx hne
        have hi2 := hA2.2
        have hwi : IntKind.i64.wrap ((i' : Int) + 1) = (i' : Int) + 1 := IntWalk.i64_in _ ⟨by omega, by omega⟩
        have KU : Hid (∀ W, Ext w W → Calls Tryz.prog 72 #[.agg #[.slice a n c, .int .i64 ((i' : Int) + 1), .bool false], .int .i64 ((k : Int) + 1)] W (RetE L a n c W r1)) := Lib.hid fun W h => HF.out m hm L a n c (i' + 1) l1.tail r1 W (HL.out.ext h) hA2 hE2 hr1
        rw [hb] at KI
        have HTOLD := Lib.hid (parseF_told hE2 hr1)
        have HER1 := Lib.hid her1
        have HTX := isT_tx hb
        rw [HTX] at hok1
        have HOK1 := Lib.hid hok1
        subst et
        have HLT := Lib.hid hlen2
        have HE2 := Lib.hid hE2
        clear hA1 he1 hfx gx1 gx2 hTx hpm hb hr1 her1 hok1 hE2 hl1 hnx hne hA2 HTX hQ hlen2
        go_upto_region 4 with fail
        refine wp_region_held_drew (S := fun w' => Ext wr w') (by kernel_rfl) (by (try dsimp only); (exact eX)) (fun hHeld => ?_)
        refine tK 0 (v := ?_) ?_ ?_;rotate_left;(focus (intro w hSw;(try dsimp only at hSw);go_simp;(try with_reducible rfl)));try simp only [Act.put,pA,pB,pC]
        refine tK 1 (v := ?_) ?_ ?_;rotate_left;(focus (intro w hSw;(try dsimp only at hSw);go_simp;(try with_reducible rfl)));try simp only [Act.put,pA,pB,pC]
        refine tK 2 (v := ?_) ?_ ?_;rotate_left;(focus (intro w hSw;(try dsimp only at hSw);go_simp;(try with_reducible rfl)));try simp only [Act.put,pA,pB,pC]
        refine tK 3 (v := ?_) ?_ ?_;rotate_left;(focus (intro w hSw;(try dsimp only at hSw);go_simp;(try with_reducible rfl)));try simp only [Act.put,pA,pB,pC]
        first | (refine tK 4 (v := ?_) ?_ ?_;rotate_left;(focus (intro w hSw;(try dsimp only at hSw);go_simp;(try with_reducible rfl)));try simp only [Act.put,pA,pB,pC]) | (refine held_skip 4 rfl (by kernel_rfl) (by kernel_rfl) (by kernel_rfl) (fun _ _ _ h => h) (by assumption) (by rfl) ?_; try simp only [Act.put,pA,pB,pC])
        first | (refine tK 6 (v := ?_) ?_ ?_;rotate_left;(focus (intro w hSw;(try dsimp only at hSw);go_simp;(try with_reducible rfl)));try simp only [Act.put,pA,pB,pC]) | (refine held_skip 6 rfl (by kernel_rfl) (by kernel_rfl) (by kernel_rfl) (fun _ _ _ h => h) (by assumption) (by rfl) ?_; try simp only [Act.put,pA,pB,pC])
        first | (refine held_skip 5 rfl (by kernel_rfl) (by kernel_rfl) (by kernel_rfl) (fun _ _ _ h => h) (by assumption) (by rfl) ?_; try simp only [Act.put,pA,pB,pC]) | (refine held_do 5 rfl (by kernel_rfl) (by rfl) (fun K hK => ?_); go_simp; (first | (go_at_call 97; refine (ref5_signs k hk _).mono ?_; rintro e w5 ⟨aS, rfl, hrow, x5⟩; have HROW := Lib.hid hrow; clear hrow)); (try (focus (go_wp2_with fail))); refine hK.out _ _ (by (try dsimp only); (exact eX)) (fun hHeld => ?_); clear hK K; try simp only [Act.put,pA,pB,pC])
        first | (refine held_skip 7 rfl (by kernel_rfl) (by kernel_rfl) (by kernel_rfl) (fun _ _ _ h => h) (by assumption) (by rfl) ?_; try simp only [Act.put,pA,pB,pC]) | (refine held_do 7 rfl (by kernel_rfl) (by rfl) (fun K hK => ?_); go_simp; (first | (go_at_call 41; refine (KX.out _ (by (exact eX))).mono ?_; rintro e w6 ⟨rfl, x6⟩)); (try (focus (go_wp2_with fail))); refine hK.out _ _ (by (try dsimp only); (exact eX)) (fun hHeld => ?_); clear hK K; try simp only [Act.put,pA,pB,pC])
        first | (refine held_skip 8 rfl (by kernel_rfl) (by kernel_rfl) (by kernel_rfl) (fun _ _ _ h => h) (by assumption) (by rfl) ?_; try simp only [Act.put,pA,pB,pC]) | (refine held_do 8 rfl (by kernel_rfl) (by rfl) (fun K hK => ?_); go_simp; (first | (go_at_call 96; refine (KI.out _ _ (HROW.out.ext (by (exact eX)))).mono ?_; rintro e w7 ⟨rfl, x7⟩)); (try (focus (go_wp2_with fail))); refine hK.out _ _ (by (try dsimp only); (exact eX)) (fun hHeld => ?_); clear hK K; try simp only [Act.put,pA,pB,pC])
        refine tK 9 (v := ?_) ?_ ?_;rotate_left;(focus (intro w hSw;(try dsimp only at hSw);go_simp;(try with_reducible rfl)));try simp only [Act.put,pA,pB,pC]
        refine wpAnyH_done (by kernel_rfl) ?_ _
        all_goals
          have hQX := HQ1.out.ext hHeld
          have X17 := Lib.hid hHeld
          obtain ⟨p0, p1, p2, f0, f1, f2, l0⟩ := SBlk.open_ hQX.s
          clear hHeld ns0 ns1 ns2 HROW hQX
          go_upto_region 9 with (first | (go_at_call 41; refine (KX.out _ X17.out).mono ?_; rintro e w8 ⟨rfl, x8⟩; obtain ⟨m0, m1, m2, k0, k1, k2, ll0⟩ := SBlk.open_ (SBlk.ext HQ1.out.s (X17.out.trans x8))) | (go_at_call 72; refine (KU.out _ (Ext.setCell (HQ1.out.x.trans (X17.out.trans x8)) (by simp) _)).mono ?_; rintro e w3 ⟨x3, i3, bad3, z, az, nz, cz, rfl, hs3, hT3⟩; obtain ⟨m0, m1, m2, k0, k1, k2, ll0⟩ := SBlk.open_ (SBlk.ext (SBlk.next (SBlk.ext HQ1.out.s (X17.out.trans x8))) x3)))
          have XN : ExtX (· = w.heap.size) wr (w8.setCell ⟨w.heap.size, 1, none⟩ (.int .i64 ((i' : Int) + 1))) := (ExtX.of (A := (· = w.heap.size)) (X17.out.trans x8)).setCell (p := ⟨w.heap.size, 1, none⟩) (.inl rfl) _
          have S3 := SBlk.ext (SBlk.next (SBlk.ext HQ1.out.s (X17.out.trans x8))) x3
          have hs23 := Below.size x3
          have hs12 := XN.size
          have S4 : SBlk (((w3s w3 w.heap.size a n c i3 bad3).alloc (.cells #[.slice a n c, .int .i64 (i3 : Nat), .bool bad3] 71)).alloc (.cells #[.int .u8 z.k, .int .u8 z.op, .int .i64 z.pos, .int .i64 z.n, .string z.name, .string z.arg, .string z.exn, .slice az nz cz] 28)) w.heap.size a n c i3 bad3 := ((w3s_blk S3).alloc _).alloc _
          have X34 : ExtX (· = w.heap.size) w3 (((w3s w3 w.heap.size a n c i3 bad3).alloc (.cells #[.slice a n c, .int .i64 (i3 : Nat), .bool bad3] 71)).alloc (.cells #[.int .u8 z.k, .int .u8 z.op, .int .i64 z.pos, .int .i64 z.n, .string z.name, .string z.arg, .string z.exn, .slice az nz cz] 28)) := (w3s_x.alloc _).alloc _
          have U4 := Blk.new ((w3s w3 w.heap.size a n c i3 bad3).alloc (.cells #[.slice a n c, .int .i64 (i3 : Nat), .bool bad3] 71)) 28 #[.int .u8 z.k, .int .u8 z.op, .int .i64 z.pos, .int .i64 z.n, .string z.name, .string z.arg, .string z.exn, .slice az nz cz]
          rw [World.size_alloc, w3s_size] at U4
          unfold w3s at S4 X34 U4
          generalize ((((((w3.setCell ⟨w.heap.size, 0, none⟩ (.slice a n c)).setCell ⟨w.heap.size, 1, none⟩ (.int .i64 (i3 : Nat))).setCell ⟨w.heap.size, 2, none⟩ (.bool bad3)).alloc (.cells #[.slice a n c, .int .i64 (i3 : Nat), .bool bad3] 71)).alloc (.cells #[.int .u8 z.k, .int .u8 z.op, .int .i64 z.pos, .int .i64 z.n, .string z.name, .string z.arg, .string z.exn, .slice az nz cz] 28))) = W4 at *
          have XR : ExtX (· = w.heap.size) wr W4 := (XN.then_ x3).trans X34
          have T4 := Blk.extx HQ1.out.t XR (show ¬ b4 = w.heap.size by omega)
          have HZ1 := Lib.hid (Blk.extx HQ1.out.z1 XR (show ¬ w.heap.size + 1 = w.heap.size by omega))
          have HZ2 := Lib.hid (Blk.extx HQ1.out.z2 XR (show ¬ w.heap.size + 1 + 1 = w.heap.size by omega))
          have HKX : Hid (t.head.Fits ∧ nx ≤ cx ∧ cx ≤ 9223372036854775807 ∧ IsTmsA (AvQ (w.heap.size + 1 + 1 + 1) b4) W4 t.kids ax nx) := Lib.hid (by
            obtain ⟨-, e2, e3, e4, e5, -⟩ := HQ1.out.ok t l1 rfl
            exact ⟨e2, e3, e4, e5.extx XR (fun b (e : b = w.heap.size) => .inl (by omega))⟩)
          have hw3sz : wr.heap.size ≤ (w8.setCell ⟨w.heap.size, 1, none⟩ (.int .i64 ((i' : Int) + 1))).heap.size := hs12
          have HKZ : Hid (∀ tb l2, r1 = .ok (tb, l2) → tb.head = z ∧ z.Fits ∧ nz ≤ cz ∧ cz ≤ 9223372036854775807 ∧ IsTmsA (AvQ (w.heap.size + 1 + 1 + 1) b4) W4 tb.kids az nz) := Lib.hid fun tb l2 h => by
            obtain ⟨e1, e2, e3, e4, e5⟩ := hT3 tb l2 h
            exact ⟨e1, e2, e3, e4, (e5.extx X34 (fun b (e : b = w.heap.size) => by show b < (w8.setCell ⟨w.heap.size, 1, none⟩ (.int .i64 ((i' : Int) + 1))).heap.size; omega)).move (fun b _ hA => by
              show b < (w8.setCell ⟨w.heap.size, 1, none⟩ (.int .i64 ((i' : Int) + 1))).heap.size
              rcases hA with h | h <;> omega) (fun _ _ _ hu => hu)⟩
          have HY4 := Lib.hid (ExtX.ext HQ1.out.x XR (fun b (e : b = w.heap.size) => by omega))
          have hw34 := XR.size
          have HS4 := Lib.hid S4
          have HT4 := Lib.hid T4
          have HS3 := Lib.hid hs3
          obtain ⟨c0, c1, c2, c3, c4, c5, c6, c7⟩ := T4.eight
          obtain ⟨d0, d1, d2, d3, d4, d5, d6, d7⟩ := U4.eight
          have lt4 := T4.lt
          have lu4 := U4.lt
          clear S3 S4 X34 T4 U4 x8 x3 hs3 hT3 m0 m1 m2 k0 k1 k2 ll0 p0 p1 p2 f0 f1 f2 l0 KU KX KI XN XR hw3sz hs12 hs23
          go_upto_region 10 with (go_at_call 98; refine (ref5_put (txS l1) t.head z ax az nx nz cx cz _).mono ?_; rintro e w6 ⟨g, rfl, hgn, hG6, x6⟩; obtain ⟨g0, g1, g2, g3, g4, g5, g6, g7⟩ := (HT4.out.ext x6).frozen8; obtain ⟨c0, c1, c2, c3, c4, c5, c6, c7⟩ := (HT4.out.ext x6).eight; have lt6 := (HT4.out.ext x6).lt)
          have X7 : ExtX (· = b4) w6 (w8s w6 b4 ⟨(putH (txS l1) t.head.pos).k, (putH (txS l1) t.head.pos).op, t.head.pos, 0, ⟨#[]⟩, ⟨#[]⟩, ⟨#[]⟩⟩ (some ⟨g, 0, none⟩) 2 2) := w8s_x
          have base : ∀ (P : Tm → List Tk → Prop) (q2 : Res Tm), StS L n i3 bad3 q2 → (∀ t' l', q2 = .ok (t', l') → (∃ tb, r1 = .ok (tb, l') ∧ t' = putT (txS l1) t tb) ∧ P t' l') → (∀ l', q2 = .error l' → r = .error l') → LoopQ L a n c w b4 P r (leftR q2) i3 bad3 ⟨(putH (txS l1) t.head.pos).k, (putH (txS l1) t.head.pos).op, t.head.pos, 0, ⟨#[]⟩, ⟨#[]⟩, ⟨#[]⟩⟩ (some ⟨g, 0, none⟩) 2 2 q2 (w8s w6 b4 ⟨(putH (txS l1) t.head.pos).k, (putH (txS l1) t.head.pos).op, t.head.pos, 0, ⟨#[]⟩, ⟨#[]⟩, ⟨#[]⟩⟩ (some ⟨g, 0, none⟩) 2 2) := fun P q2 hst hok her => {
            g := rfl
            s := Blk.extx (SBlk.ext HS4.out x6) X7 (by show ¬ w.heap.size = b4; omega)
            z1 := Blk.extx (HZ1.out.ext x6) X7 (by show ¬ w.heap.size + 1 = b4; omega)
            z2 := Blk.extx (HZ2.out.ext x6) X7 (by show ¬ w.heap.size + 1 + 1 = b4; omega)
            t := (HT4.out.ext x6).lay8
            lt4 := hb4
            st := hst
            ok := fun t' l' h => by
              obtain ⟨⟨tb, e1, rfl⟩, hP⟩ := hok t' l' h
              obtain ⟨f1, f2, f3, f4⟩ := HKX.out
              obtain ⟨rfl, g2, g3, g4, g5⟩ := HKZ.out tb l' e1
              have hm0 : t.head.Fits := f1
              obtain ⟨b1, b2, b3, b5⟩ := putH_bound (txS l1) t.head.pos
              have eT := putT_H (txS l1) t tb
              refine ⟨by rw [eT]; exact putH_eta _ _, ⟨b1, b2, b3, b5, hm0.pos0, hm0.pos1, by show (-9223372036854775808 : Int) ≤ 0; omega, by show (0 : Int) ≤ 9223372036854775807; omega, by show (0 : Nat) ≤ 9223372036854775807; omega, by show (0 : Nat) ≤ 9223372036854775807; omega, by show (0 : Nat) ≤ 9223372036854775807; omega⟩, Nat.le_refl _, by omega, ?_, hP⟩
              rw [eT]
              have hgn' : ¬ AvQ (w.heap.size + 1 + 1 + 1) b4 g := fun h => by rcases h with h | h <;> omega
              have hp := pair_row (A := AvQ (w.heap.size + 1 + 1 + 1) b4) (g := g) x6 f2 f3 g3 g4 f1 g2 f4 g5 hgn' hG6
              have e1 : Tm.mk t.head t.kids = t := by cases t; rfl
              have e2 : Tm.mk tb.head tb.kids = tb := by cases tb; rfl
              rw [e1, e2] at hp
              exact hp.extx X7 (fun b (e : b = b4) => .inr e)
            er := her
            x := ExtX.ext (HY4.out.trans x6) X7 (fun b (e : b = b4) => by omega) }
          have HBASE := Lib.hid base
          clear base
          by_cases h2 : k < 2
          · have hz2 : (k : Int) < 2 := by omega
            have hQX : LoopQ L a n c w b4 (fun _ _ => True) r (leftR r) i3 bad3 ⟨(putH (txS l1) t.head.pos).k, (putH (txS l1) t.head.pos).op, t.head.pos, 0, ⟨#[]⟩, ⟨#[]⟩, ⟨#[]⟩⟩ (some ⟨g, 0, none⟩) 2 2 r (w8s w6 b4 ⟨(putH (txS l1) t.head.pos).k, (putH (txS l1) t.head.pos).op, t.head.pos, 0, ⟨#[]⟩, ⟨#[]⟩, ⟨#[]⟩⟩ (some ⟨g, 0, none⟩) 2 2) := by
              cases r1 with
              | error l2 =>
                have e := HER1.out l2 rfl
                subst e
                exact HBASE.out (fun _ _ => True) _ HS3.out (fun _ _ h => by cases h) (fun l' h => h)
              | ok p2 =>
                obtain ⟨tb, l2⟩ := p2
                have e := (HOK1.out tb l2 rfl).1 h2
                subst e
                exact HBASE.out (fun _ _ => True) _ HS3.out (fun t' l' h => by cases h; exact ⟨⟨tb, rfl, rfl⟩, trivial⟩) (fun l' h => h)
            unfold w8s at hQX
            clear X7 hG6 x6 g0 g1 g2 g3 g4 g5 g6 g7 c0 c1 c2 c3 c4 c5 c6 c7 d0 d1 d2 d3 d4 d5 d6 d7 lt6
            generalize ((((((((w6.setCell ⟨b4, 0, none⟩ (.int .u8 (putH (txS l1) t.head.pos).k)).setCell ⟨b4, 1, none⟩ (.int .u8 (putH (txS l1) t.head.pos).op)).setCell ⟨b4, 2, none⟩ (.int .i64 t.head.pos)).setCell ⟨b4, 3, none⟩ (.int .i64 0)).setCell ⟨b4, 4, none⟩ (.string ⟨#[]⟩)).setCell ⟨b4, 5, none⟩ (.string ⟨#[]⟩)).setCell ⟨b4, 6, none⟩ (.string ⟨#[]⟩)).setCell ⟨b4, 7, none⟩ (.slice (some ⟨g, 0, none⟩) 2 2)) = WZ at *
            have HQX := Lib.hid hQX
            obtain ⟨p0, p1, p2, f0, f1, f2, l0⟩ := SBlk.open_ hQX.s
            obtain ⟨c0, c1, c2, c3, c4, c5, c6, c7⟩ := hQX.t.eight
            have hl4 := hQX.lt4
            obtain ⟨z0, z1, z2, z3, z4, z5, z6, z7⟩ := hQX.z2.eight
            obtain ⟨g0, g1, g2, g3, g4, g5, g6, g7⟩ := hQX.z2.frozen8
            have v0 := hQX.z1.cell 0
            have v1 := hQX.z1.cell 1
            have v2 := hQX.z1.cell 2
            simp at v0 v1 v2
            have v3 := hQX.z1.frozen 0
            have v4 := hQX.z1.frozen 1
            have v5 := hQX.z1.frozen 2
            have lv := hQX.z1.lt
            have lz := hQX.z2.lt
            have ne1 : w.heap.size + 1 ≠ w.heap.size + 1 + 1 := by omega
            have ne2 : w.heap.size + 1 + 1 ≠ w.heap.size + 1 := by omega
            have ns0 := fun W (h : ExtX (fun b => b = w.heap.size + 1 ∨ b = w.heap.size + 1 + 1) WZ W) => h.cell (p := ⟨w.heap.size, 0, none⟩) (show ¬ (w.heap.size = w.heap.size + 1 ∨ w.heap.size = w.heap.size + 1 + 1) by omega) p0
            have ns1 := fun W (h : ExtX (fun b => b = w.heap.size + 1 ∨ b = w.heap.size + 1 + 1) WZ W) => h.cell (p := ⟨w.heap.size, 1, none⟩) (show ¬ (w.heap.size = w.heap.size + 1 ∨ w.heap.size = w.heap.size + 1 + 1) by omega) p1
            have ns2 := fun W (h : ExtX (fun b => b = w.heap.size + 1 ∨ b = w.heap.size + 1 + 1) WZ W) => h.cell (p := ⟨w.heap.size, 2, none⟩) (show ¬ (w.heap.size = w.heap.size + 1 ∨ w.heap.size = w.heap.size + 1 + 1) by omega) p2
            have nc0 := fun W (h : ExtX (fun b => b = w.heap.size + 1 ∨ b = w.heap.size + 1 + 1) WZ W) => h.cell (p := ⟨b4, 0, none⟩) (show ¬ (b4 = w.heap.size + 1 ∨ b4 = w.heap.size + 1 + 1) by omega) c0
            have nc1 := fun W (h : ExtX (fun b => b = w.heap.size + 1 ∨ b = w.heap.size + 1 + 1) WZ W) => h.cell (p := ⟨b4, 1, none⟩) (show ¬ (b4 = w.heap.size + 1 ∨ b4 = w.heap.size + 1 + 1) by omega) c1
            have nc2 := fun W (h : ExtX (fun b => b = w.heap.size + 1 ∨ b = w.heap.size + 1 + 1) WZ W) => h.cell (p := ⟨b4, 2, none⟩) (show ¬ (b4 = w.heap.size + 1 ∨ b4 = w.heap.size + 1 + 1) by omega) c2
            have nc3 := fun W (h : ExtX (fun b => b = w.heap.size + 1 ∨ b = w.heap.size + 1 + 1) WZ W) => h.cell (p := ⟨b4, 3, none⟩) (show ¬ (b4 = w.heap.size + 1 ∨ b4 = w.heap.size + 1 + 1) by omega) c3
            have nc4 := fun W (h : ExtX (fun b => b = w.heap.size + 1 ∨ b = w.heap.size + 1 + 1) WZ W) => h.cell (p := ⟨b4, 4, none⟩) (show ¬ (b4 = w.heap.size + 1 ∨ b4 = w.heap.size + 1 + 1) by omega) c4
            have nc5 := fun W (h : ExtX (fun b => b = w.heap.size + 1 ∨ b = w.heap.size + 1 + 1) WZ W) => h.cell (p := ⟨b4, 5, none⟩) (show ¬ (b4 = w.heap.size + 1 ∨ b4 = w.heap.size + 1 + 1) by omega) c5
            have nc6 := fun W (h : ExtX (fun b => b = w.heap.size + 1 ∨ b = w.heap.size + 1 + 1) WZ W) => h.cell (p := ⟨b4, 6, none⟩) (show ¬ (b4 = w.heap.size + 1 ∨ b4 = w.heap.size + 1 + 1) by omega) c6
            have nc7 := fun W (h : ExtX (fun b => b = w.heap.size + 1 ∨ b = w.heap.size + 1 + 1) WZ W) => h.cell (p := ⟨b4, 7, none⟩) (show ¬ (b4 = w.heap.size + 1 ∨ b4 = w.heap.size + 1 + 1) by omega) c7
            clear hQX
            go_upto_region 11 with fail
            refine wp_region_held_drew (S := fun w' => ExtX (fun b => b = w.heap.size + 1 ∨ b = w.heap.size + 1 + 1) WZ w') (by kernel_rfl) (by (try dsimp only); (exact xX)) (fun hHeld => ?_)
            refine tK 0 (v := ?_) ?_ ?_;rotate_left;(focus (intro w hSw;(try dsimp only at hSw);go_simp;(try with_reducible rfl)));try simp only [Act.put,pA,pB,pC]
            refine tK 1 (v := ?_) ?_ ?_;rotate_left;(focus (intro w hSw;(try dsimp only at hSw);go_simp;(try with_reducible rfl)));try simp only [Act.put,pA,pB,pC]
            refine held_do 2 rfl (by kernel_rfl) (by rfl) (fun K hK => ?_); go_simp; refine hK.out _ _ (by (try dsimp only); (exact xX)) (fun hHeld => ?_); clear hK K; try simp only [Act.put,pA,pB,pC]
            refine held_do 3 rfl (by kernel_rfl) (by rfl) (fun K hK => ?_); go_simp; refine hK.out _ _ (by (try dsimp only); (exact xX)) (fun hHeld => ?_); clear hK K; try simp only [Act.put,pA,pB,pC]
            refine wpAnyH_done (by kernel_rfl) ?_ _
            repeat (first | go_values | go_skip | go_guarded | go_step | go_upon)
            obtain ⟨hs, ht, hx9⟩ := HQX.out.out1
            obtain ⟨r0, r1, r2, -⟩ := SBlk.open_ (show SBlk _ _ a n c i3 bad3 from Blk.drew hs)
            obtain ⟨r3, r4, r5, r6, r7, r8, r9, ra⟩ := ht.drew.eight
            have hx8 := hx9.drew
            unfold w8s w3s at r0 r1 r2 r3 r4 r5 r6 r7 r8 r9 ra
            exact bodyPost_ret (v := .tuple #[.agg #[.slice a n c, .int .i64 (i3 : Nat), .bool bad3], .agg #[.int .u8 (putH (txS l1) t.head.pos).k, .int .u8 (putH (txS l1) t.head.pos).op, .int .i64 t.head.pos, .int .i64 0, .string ⟨#[]⟩, .string ⟨#[]⟩, .string ⟨#[]⟩, .slice (some ⟨g, 0, none⟩) 2 2]]) (by simp [results, Tryz.results72, go_sem, r0, r1, r2, r3, r4, r5, r6, r7, r8, r9, ra]) rfl (HQX.out.ret hx8)
          · have hz2 : ¬ (k : Int) < 2 := by omega
            have HLQ : Hid (∃ q2, LoopQ L a n c w b4 (PL f k r) r (leftR q2) i3 bad3 ⟨(putH (txS l1) t.head.pos).k, (putH (txS l1) t.head.pos).op, t.head.pos, 0, ⟨#[]⟩, ⟨#[]⟩, ⟨#[]⟩⟩ (some ⟨g, 0, none⟩) 2 2 q2 (w8s w6 b4 ⟨(putH (txS l1) t.head.pos).k, (putH (txS l1) t.head.pos).op, t.head.pos, 0, ⟨#[]⟩, ⟨#[]⟩, ⟨#[]⟩⟩ (some ⟨g, 0, none⟩) 2 2) ∧ leftR q2 < l1.length) := Lib.hid (by
              cases r1 with
              | error l2 => exact ⟨.error l2, HBASE.out _ _ HS3.out (fun _ _ h => by cases h) (fun l' h => by cases h; exact HER1.out _ rfl), by show 0 < l1.length; have := HLT.out; omega⟩
              | ok p2 =>
                obtain ⟨tb, l2⟩ := p2
                refine ⟨.ok (putT (txS l1) t tb, l2), HBASE.out _ _ HS3.out (fun t' l' h => by cases h; exact ⟨⟨tb, rfl, rfl⟩, (HOK1.out tb l2 rfl).2 h2⟩) (fun l' h => by cases h), ?_⟩
                have h1 : l2.length < l1.tail.length := HTOLD.out.2
                have h2 := HLT.out
                show l2.length < l1.length
                omega)
            clear X7 hG6 x6
            go_wp2_with fail
            obtain ⟨q2, hq2, hlt2⟩ := HLQ.out
            go_roundg (leftR q2)
            case rel =>
              unfold w8s at hq2
              exact ⟨_, _, _, _, _, _, q2, hq2⟩
            case measure =>
              have hg := HQ1.out.g
              rw [hg]
              exact hlt2
end Go.Proofs.YtaioeailgknfjaaGreatDoor

/- The walks of enclaveref05.level at 4, and of unary: a prefix. -/
namespace Go.Proofs.YtaioeailgknfjaaGreatDoor
open Go Go.RowKit Go.Sort

theorem blk4 {w w1 : World} {cs1 cs2 cs3 cs4 : Array Value} {T1 T2 T3 T4 : TypeId} (x : Ext ((((w.alloc (.cells cs1 T1)).alloc (.cells cs2 T2)).alloc (.cells cs3 T3)).alloc (.cells cs4 T4)) w1) : Blk w1 w.heap.size T1 cs1 ∧ Blk w1 (w.heap.size + 1) T2 cs2 ∧ Blk w1 (w.heap.size + 1 + 1) T3 cs3 ∧ Blk w1 (w.heap.size + 1 + 1 + 1) T4 cs4 := by
  obtain ⟨h1, h2, h3⟩ := blk3 (Ext.trans ((Ext.refl _).alloc _) x)
  refine ⟨h1, h2, h3, ?_⟩
  have h := Blk.new (((w.alloc (.cells cs1 T1)).alloc (.cells cs2 T2)).alloc (.cells cs3 T3)) T4 cs4
  rw [World.size_alloc, World.size_alloc, World.size_alloc] at h
  exact h.ext x
set_option maxRecDepth 60000 in
set_option maxHeartbeats 4000000 in
theorem ref5_level4 (f : Nat) (hA : DoesS 95 #[] (.lvl 4) f) : DoesS 72 #[.int .i64 4] (.lvl 4) f := by
  intro L a n c i l r w hL hAt he hp
  have K := Lib.hid fun W (h : Ext w W) => hA L a n c i l r W (hL.ext h) hAt he hp
  simp only [Array.append_empty] at K
  clear hA hL hAt he hp
  have e1 : (#[.agg #[.slice a n c, .int .i64 (i : Nat), .bool false]] ++ #[.int .i64 4] : Array Value) = #[.agg #[.slice a n c, .int .i64 (i : Nat), .bool false], .int .i64 4] := rfl
  rw [e1]
  clear e1
  go_enter Tryz.func72, Tryz.ntmps72
  go_upto_region 3 with (go_at_call 95; refine (K.out _ (by (exact eX))).mono ?_; rintro e w1 ⟨x1, i1, bad1, y, ak, nk, ck, rfl, hs1, hT1⟩; obtain ⟨-, hZ1, hZ2⟩ := blk3 x1; obtain ⟨z0, z1, z2, z3, z4, z5, z6, z7⟩ := hZ2.eight; obtain ⟨g0, g1, g2, g3, g4, g5, g6, g7⟩ := hZ2.frozen8; have v0 := hZ1.cell 0; have v1 := hZ1.cell 1; have v2 := hZ1.cell 2; simp at v0 v1 v2; have v3 := hZ1.frozen 0; have v4 := hZ1.frozen 1; have v5 := hZ1.frozen 2; have lv := hZ1.lt; have lz := hZ2.lt)
  have y1 : Ext w w1 := by (exact eX)
  have ne2 : w.heap.size + 1 + 1 ≠ w.heap.size + 1 := by omega
  have B1 : SBlk (w8s (w3s w1 (w.heap.size + 1) a n c i1 bad1) (w.heap.size + 1 + 1) y ak nk ck) (w.heap.size + 1) a n c i1 bad1 := Blk.extx (Blk.lay3 hZ1) w8s_x (by show ¬ w.heap.size + 1 = w.heap.size + 1 + 1; omega)
  have B2 := (Blk.extx hZ2 (w3s_x (a := a) (n := n) (c := c) (i := i1) (bad := bad1)) (show ¬ w.heap.size + 1 + 1 = w.heap.size + 1 by omega)).lay8 (u0 := .int .u8 y.k) (u1 := .int .u8 y.op) (u2 := .int .i64 y.pos) (u3 := .int .i64 y.n) (u4 := .string y.name) (u5 := .string y.arg) (u6 := .string y.exn) (u7 := .slice ak nk ck)
  have X9 : ExtX (fun b => b = w.heap.size + 1 ∨ b = w.heap.size + 1 + 1) w1 (w8s (w3s w1 (w.heap.size + 1) a n c i1 bad1) (w.heap.size + 1 + 1) y ak nk ck) := (w3s_x.mono fun b e => .inl e).trans (w8s_x.mono fun b e => .inr e)
  obtain ⟨r0, r1, r2, -⟩ := SBlk.open_ B1
  obtain ⟨r3, r4, r5, r6, r7, r8, r9, ra⟩ := B2.eight
  have HR9 : Hid (RetE L a n c w r (.returned (.tuple #[.agg #[.slice a n c, .int .i64 (i1 : Nat), .bool bad1], .agg #[.int .u8 y.k, .int .u8 y.op, .int .i64 y.pos, .int .i64 y.n, .string y.name, .string y.arg, .string y.exn, .slice ak nk ck]])) (w8s (w3s w1 (w.heap.size + 1) a n c i1 bad1) (w.heap.size + 1 + 1) y ak nk ck)) := Lib.hid ⟨ExtX.ext y1 X9 (fun b e => by rcases e with e | e <;> omega), i1, bad1, y, ak, nk, ck, rfl, hs1, fun t l e => by
    obtain ⟨e1, e2, e3, e4, e5⟩ := hT1 t l e
    exact ⟨e1, e2, e3, e4, (e5.extx X9 (fun b e => by show b < _; simp; rcases e with e | e <;> omega)).move (fun b _ (hb : b < w.heap.size) => by show b < _; simp; omega) (fun _ _ _ hu => hu)⟩⟩
  unfold w8s w3s at r0 r1 r2 HR9
  unfold w3s at r3 r4 r5 r6 r7 r8 r9 ra
  clear B1 B2 X9 hs1 hT1 x1 y1
  repeat (first | go_values | go_skip | go_guarded | go_step | go_upon)
  exact bodyPost_ret (v := .tuple #[.agg #[.slice a n c, .int .i64 (i1 : Nat), .bool bad1], .agg #[.int .u8 y.k, .int .u8 y.op, .int .i64 y.pos, .int .i64 y.n, .string y.name, .string y.arg, .string y.exn, .slice ak nk ck]]) (by simp [results, Tryz.results72, go_sem, r0, r1, r2, r3, r4, r5, r6, r7, r8, r9, ra]) rfl HR9.out
end Go.Proofs.YtaioeailgknfjaaGreatDoor

