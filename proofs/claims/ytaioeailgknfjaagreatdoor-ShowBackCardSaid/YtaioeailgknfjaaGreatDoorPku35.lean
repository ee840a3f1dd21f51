/- Part 35 of the proof: Parse16try; no condition of ours. -/
import Derived.Test.YtaioeailgknfjaaGreatDoorPku32
set_option linter.unusedVariables false
set_option linter.unusedSimpArgs false
namespace Go.Proofs.YtaioeailgknfjaaGreatDoor
open Go Go.RowKit Go.Sort
set_option maxRecDepth 8000 in
set_option maxHeartbeats 8000000 in
theorem parse_expr_try (f : Nat) (hE : Does 31 .expr f) (pb : Nat) (tk : Tk) (l0 : List Tk) (r : Res Tm) (w : World) (h : Prs w pb (tk :: l0)) (he : Ended (tk :: l0)) (hi : isT [w_try] (tk :: l0) = true) (hp : parseF (f + 1) .expr (tk :: l0) = some r) :
    Calls Tryz.prog 31 #[.pointer (some ⟨pb, 0, none⟩)] w (RetP pb w (IsNew w.heap.size) r) := by
  obtain ⟨tkk, s, ps⟩ := tk
  have hsx : s = w_try := isT_text hi
  subst hsx
  have hlt := h.lt
  have hfit := h.fits
  have hpos0 : -9223372036854775808 ≤ ps := hfit.p0
  have hpos1 : ps ≤ 9223372036854775807 := hfit.p1
  have hpm := hp
  unfold parseF at hpm
  rw [if_neg (by rw [isT_other (y := w_let) hi (by decide +kernel)]; simp)] at hpm
  rw [if_neg (by rw [isT_other (y := w_letrec) hi (by decide +kernel)]; simp)] at hpm
  rw [if_neg (by rw [isT_other (y := w_fn) hi (by decide +kernel)]; simp)] at hpm
  rw [if_neg (by rw [isT_other (y := w_if) hi (by decide +kernel)]; simp)] at hpm
  rw [if_pos hi] at hpm
  simp only [List.tail_cons, posT] at hpm
  have hi5 : isT [w_let, w_letrec, w_fn, w_if, w_try] (⟨tkk, w_try, ps⟩ :: l0) = true := isT_mem (by simp) hi
  obtain ⟨hl0, he0⟩ := he.tail_ne (isT_kind hi)
  have q_let : (w_try.toList == ([108, 101, 116] : List UInt8)) = false := by rw [ByteArray.toList_eq]; rfl
  have q_letrec : (w_try.toList == ([108, 101, 116, 114, 101, 99] : List UInt8)) = false := by rw [ByteArray.toList_eq]; rfl
  have q_fn : (w_try.toList == ([102, 110] : List UInt8)) = false := by rw [ByteArray.toList_eq]; rfl
  have q_if : (w_try.toList == ([105, 102] : List UInt8)) = false := by rw [ByteArray.toList_eq]; rfl
  have q_try : (w_try.toList == ([116, 114, 121] : List UInt8)) = true := by rw [ByteArray.toList_eq]; rfl
  have KI := Lib.hid fun W (x : Ext w W) (a : Option Addr) (hr : IsRow W (vstr [w_let, w_letrec, w_fn, w_if, w_try]) a 5) => parse_is [w_let, w_letrec, w_fn, w_if, w_try] pb ⟨tkk, w_try, ps⟩ l0 W a 5 5 (Nat.le_refl _) (by omega) hr (h.ext x)
  rw [hi5] at KI
  have KT := Lib.hid fun W (x : Ext w W) => parse_take pb ⟨tkk, w_try, ps⟩ l0 W (h.ext x)
  have HE := Lib.hid hE
  have HPM := Lib.hid hpm
  have HL0 := Lib.hid hl0
  have E0 := Lib.hid he0
  clear hp hpm h he hi hi5 hfit hE hl0 he0
  go_enter Tryz.func31, Tryz.ntmps31
  go_wp2_with fail
  refine (KI.out _ (by (exact eX)) _ (row_new2 w _ _ _ (vstr [w_let, w_letrec, w_fn, w_if, w_try]))).mono ?_
  rintro e w2 ⟨rfl, x2⟩
  have hP2 := blk_under2 x2
  have hZ2 := blk_under x2
  rw [World.size_alloc] at hZ2
  have y2 : Ext w w2 := by (exact eX)
  have p0 := hP2.cell 0
  simp at p0
  go_wp2_with fail
  refine (KT.out _ y2).mono ?_
  rintro e w3 ⟨rfl, x3, hp3⟩
  have P3 := hp3 HL0.out
  have hP3 := hP2.nez x3 (by omega)
  have hZ3 := hZ2.nez x3 (by omega)
  have y3 : ExtX (· = pb) w w3 := (ExtX.of y2).trans x3
  have HP3 := Lib.hid P3
  have HQ3 := Lib.hid hP3
  have HZ3 := Lib.hid hZ3
  have Y3 := Lib.hid y3
  clear x2 hP2 hZ2 y2 x3 hp3 P3 hP3 hZ3 y3 p0
  go_wp2_with fail
  refine (parse_node _ _ _ _ _ _).mono ?_
  rintro e w4 ⟨rfl, x4⟩
  have hT4 := blk_top x4
  have t1 := hT4.cell 1
  simp at t1
  have hlT := hT4.lt
  have y34 : Ext w3 w4 := by (exact eX)
  have hP4 := HQ3.out.ext y34
  have hZ4 := HZ3.out.ext y34
  have hs4 := hZ4.lt
  obtain ⟨b1, hb1⟩ : ∃ b1, b1 = w.heap.size := ⟨_, rfl⟩
  obtain ⟨bt, hbt⟩ : ∃ bt, bt = w4.heap.size := ⟨_, rfl⟩
  have hS := Sub8.start (x := (⟨0, 0, ps, 0, ByteArray.empty, ByteArray.empty, ByteArray.empty⟩ : Hd)) hP4 hlt
  obtain ⟨W0, hW0⟩ : ∃ W0, W0 = w4.alloc (.cells #[.int .u8 0, .int .u8 0, .int .i64 ps, .int .i64 0, .string ByteArray.empty, .string ByteArray.empty, .string ByteArray.empty, .slice none 0 0] 28) := ⟨_, rfl⟩
  have S0 : Hid (Sub8 pb w.heap.size w4.heap.size (⟨0, 0, ps, 0, ByteArray.empty, ByteArray.empty, ByteArray.empty⟩ : Hd) [] none 0 [] W0) := Lib.hid (by rw [hW0]; exact hS)
  have yW : Ext w4 W0 := by rw [hW0]; exact (Ext.refl _).alloc _
  have Z0 := Lib.hid (hZ4.ext yW)
  have P0 := Lib.hid (HP3.out.ext (y34.trans yW))
  have Y0 := Lib.hid (Y3.out.then_ (y34.trans yW))
  have X0 := Lib.hid (ExtX.refl (A := fun b => b = pb ∨ w4.heap.size ≤ b) W0)
  have hup : w.heap.size ≤ w4.heap.size := by omega
  clear hS hP4 hZ4 x4 hT4 y34 yW hb1 hbt
  go_upto_region 25 with fail
  rw [← hW0]
  clear t1 hW0
  have hpm := HPM.out
  obtain ⟨c0, c1, c2, c3, c4, c5, c6, c7⟩ := S0.out.tm.eight
  obtain ⟨f0, f1, f2, f3, f4, f5, f6, f7⟩ := S0.out.tm.frozen8
  have hlb := S0.out.tm.lt
  have hSn := (S0.out.put 0 (.int .u8 16) (⟨16, 0, ps, 0, ByteArray.empty, ByteArray.empty, ByteArray.empty⟩ : Hd) (by simp))
  have hPn := (P0.out.far (p := ⟨w4.heap.size, 0, none⟩) (by show pb < w4.heap.size; omega) (.int .u8 16))
  have hXn := (X0.out.setCell (p := ⟨w4.heap.size, 0, none⟩) (.inl (.inr (Nat.le_refl _))) (.int .u8 16))
  have hZn := (Z0.out.far (p := ⟨w4.heap.size, 0, none⟩) (by show w.heap.size + 1 ≠ w4.heap.size; omega) (.int .u8 16))
  obtain ⟨W1, hWn⟩ : ∃ Wn, Wn = (W0.setCell ⟨w4.heap.size, 0, none⟩ (.int .u8 16)) := ⟨_, rfl⟩
  rw [← hWn] at hSn hPn hXn hZn
  go_upto_region 26 with fail
  rw [← hWn]
  have S1 := Lib.hid hSn
  have P1 := Lib.hid hPn
  have X1 := Lib.hid hXn
  have Z1 := Lib.hid hZn
  clear hSn hPn hXn hZn hWn c0 c1 c2 c3 c4 c5 c6 c7 f0 f1 f2 f3 f4 f5 f6 f7 hlb
  cases eq0 : (parseF f .expr l0) with
  | none => rw [eq0] at hpm; cases hpm
  | some r0 =>
  rw [eq0] at hpm
  go_wp2_with fail
  refine (parse_sub0 f HE.out pb w.heap.size w4.heap.size (⟨16, 0, ps, 0, ByteArray.empty, ByteArray.empty, ByteArray.empty⟩ : Hd) [] none 0 [] l0 r0 _ S1.out (by simp) P1.out E0.out eq0).mono ?_
  intro e W2 hh
  cases r0 with
  | error l' =>
    cases hpm
    obtain ⟨x', he'⟩ := hh
    have he' : e = thrown l' := he'
    subst he'
    exact ⟨rfl, Y0.out.shrink (X1.out.trans x') hup, rfl⟩
  | ok q =>
  obtain ⟨t0, l1⟩ := q
  rw [andThen_ok] at hpm
  obtain ⟨x', he', hP, a0, c0, xs0, hS⟩ := hh
  have he' : e = .returned (.tuple #[]) := he'
  subst he'
  have S2 : Hid (Sub8 pb w.heap.size w4.heap.size (⟨16, 0, ps, 0, ByteArray.empty, ByteArray.empty, ByteArray.empty⟩ : Hd) [t0] a0 c0 xs0 W2) := Lib.hid hS
  have E1 := Lib.hid (sub_ended0 E0.out eq0)
  have Z2 := Lib.hid (Z1.out.extx x' (show ¬ (w.heap.size + 1 = pb ∨ w4.heap.size ≤ w.heap.size + 1) by omega))
  have P2 := Lib.hid hP
  have X2 := Lib.hid (X1.out.trans x')
  clear eq0 hP x' hS
  have p0 := S2.out.ptr.cell 0
  simp at p0
  go_wp2_with fail
  refine (parse_word [w_with] pb l1 _ _ 1 1 (Nat.le_refl _) (by omega) (row_one0 W2 w_with _) (P2.out.alloc _) E1.out).mono ?_
  intro e W3 hh
  clear p0
  rcases getWs_one w_with l1 with ⟨l', e1, e2⟩ | ⟨l2, e1, e2, -⟩
  · rw [e1] at hh
    rw [e2] at hpm
    cases hpm
    obtain ⟨rfl, x'⟩ := hh.error
    exact ⟨rfl, ((Y0.out.shrink X2.out hup).alloc _).trans x', rfl⟩
  rw [e1] at hh
  rw [e2, andThen_ok] at hpm
  have E2 := Lib.hid (getW_ended E1.out e2)
  obtain ⟨v, rfl, ⟨kk', q', rfl⟩, hP, x'⟩ := hh.ok
  have S3 := Lib.hid ((S2.out.ext ((Ext.refl _).alloc _)).extx x')
  have Z3 := Lib.hid ((Z2.out.alloc _).nez x' (by omega))
  have P3 := Lib.hid hP
  have X3 := Lib.hid ((X2.out.alloc _).trans (x'.mono (fun b hb => .inl hb)))
  clear hh e1 e2 hP x'
  have p0 := S3.out.ptr.cell 0
  simp at p0
  go_wp2_with fail
  refine (parse_exn pb l2 _ P3.out E2.out).mono ?_
  intro e W4 hh
  clear p0
  cases hg : getK 3 l2 with
  | error l' =>
    rw [hg] at hh hpm
    cases hpm
    obtain ⟨rfl, x'⟩ := hh.error
    exact ⟨rfl, (Y0.out.shrink X3.out hup).trans x', rfl⟩
  | ok q =>
  obtain ⟨xe, l3⟩ := q
  rw [hg] at hh hpm
  rw [andThen_ok] at hpm
  obtain ⟨v, rfl, hv, hP, x'⟩ := hh.ok
  have hv : v = .string xe := hv
  subst hv
  have hz_xe : xe.size ≤ 9223372036854775807 := by
    obtain ⟨t, e, -, rfl⟩ := getK_inv (k := 3) (l := l2) (l' := l3) (x := xe) (by rw [hg])
    have := P3.out
    rw [e] at this
    exact this.fits.text1
  have E3 : Hid (Ended l3) := Lib.hid (by have := getK_behind E2.out (show (3 : Int) ≠ 6 by omega); rw [hg] at this; exact this.1)
  have S4 := Lib.hid (S3.out.extx x')
  have Z4 := Lib.hid (Z3.out.nez x' (by omega))
  have P4 := Lib.hid hP
  have X4 := Lib.hid (X3.out.trans (x'.mono (fun b hb => .inl hb)))
  clear hh hg hP x'
  obtain ⟨c0, c1, c2, c3, c4, c5, c6, c7⟩ := S4.out.tm.eight
  obtain ⟨f0, f1, f2, f3, f4, f5, f6, f7⟩ := S4.out.tm.frozen8
  have hlb := S4.out.tm.lt
  have hSn := (S4.out.put 6 (.string xe) (⟨16, 0, ps, 0, ByteArray.empty, ByteArray.empty, xe⟩ : Hd) (by simp))
  have hPn := (P4.out.far (p := ⟨w4.heap.size, 6, none⟩) (by show pb < w4.heap.size; omega) (.string xe))
  have hXn := (X4.out.setCell (p := ⟨w4.heap.size, 6, none⟩) (.inl (.inr (Nat.le_refl _))) (.string xe))
  have hZn := (Z4.out.far (p := ⟨w4.heap.size, 6, none⟩) (by show w.heap.size + 1 ≠ w4.heap.size; omega) (.string xe))
  obtain ⟨W5, hWn⟩ : ∃ Wn, Wn = (W4.setCell ⟨w4.heap.size, 6, none⟩ (.string xe)) := ⟨_, rfl⟩
  rw [← hWn] at hSn hPn hXn hZn
  go_upto_region 29 with fail
  rw [← hWn]
  have S5 := Lib.hid hSn
  have P5 := Lib.hid hPn
  have X5 := Lib.hid hXn
  have Z5 := Lib.hid hZn
  clear hSn hPn hXn hZn hWn c0 c1 c2 c3 c4 c5 c6 c7 f0 f1 f2 f3 f4 f5 f6 f7 hlb
  have p0 := S5.out.ptr.cell 0
  simp at p0
  go_wp2_with fail
  refine (parse_name pb l3 _ P5.out E3.out).mono ?_
  intro e W6 hh
  clear p0
  cases hg : getK 2 l3 with
  | error l' =>
    rw [hg] at hh hpm
    cases hpm
    obtain ⟨rfl, x'⟩ := hh.error
    exact ⟨rfl, (Y0.out.shrink X5.out hup).trans x', rfl⟩
  | ok q =>
  obtain ⟨xa, l4⟩ := q
  rw [hg] at hh hpm
  rw [andThen_ok] at hpm
  obtain ⟨v, rfl, hv, hP, x'⟩ := hh.ok
  have hv : v = .string xa := hv
  subst hv
  have hz_xa : xa.size ≤ 9223372036854775807 := by
    obtain ⟨t, e, -, rfl⟩ := getK_inv (k := 2) (l := l3) (l' := l4) (x := xa) (by rw [hg])
    have := P5.out
    rw [e] at this
    exact this.fits.text1
  have E4 : Hid (Ended l4) := Lib.hid (by have := getK_behind E3.out (show (2 : Int) ≠ 6 by omega); rw [hg] at this; exact this.1)
  have S6 := Lib.hid (S5.out.extx x')
  have Z6 := Lib.hid (Z5.out.nez x' (by omega))
  have P6 := Lib.hid hP
  have X6 := Lib.hid (X5.out.trans (x'.mono (fun b hb => .inl hb)))
  clear hh hg hP x'
  obtain ⟨c0, c1, c2, c3, c4, c5, c6, c7⟩ := S6.out.tm.eight
  obtain ⟨f0, f1, f2, f3, f4, f5, f6, f7⟩ := S6.out.tm.frozen8
  have hlb := S6.out.tm.lt
  have hSn := (S6.out.put 5 (.string xa) (⟨16, 0, ps, 0, ByteArray.empty, xa, xe⟩ : Hd) (by simp))
  have hPn := (P6.out.far (p := ⟨w4.heap.size, 5, none⟩) (by show pb < w4.heap.size; omega) (.string xa))
  have hXn := (X6.out.setCell (p := ⟨w4.heap.size, 5, none⟩) (.inl (.inr (Nat.le_refl _))) (.string xa))
  have hZn := (Z6.out.far (p := ⟨w4.heap.size, 5, none⟩) (by show w.heap.size + 1 ≠ w4.heap.size; omega) (.string xa))
  obtain ⟨W7, hWn⟩ : ∃ Wn, Wn = (W6.setCell ⟨w4.heap.size, 5, none⟩ (.string xa)) := ⟨_, rfl⟩
  rw [← hWn] at hSn hPn hXn hZn
  go_upto_region 30 with fail
  rw [← hWn]
  have S7 := Lib.hid hSn
  have P7 := Lib.hid hPn
  have X7 := Lib.hid hXn
  have Z7 := Lib.hid hZn
  clear hSn hPn hXn hZn hWn c0 c1 c2 c3 c4 c5 c6 c7 f0 f1 f2 f3 f4 f5 f6 f7 hlb
  rw [← andThen_assoc] at hpm
  cases eq1 : (andThen (some (getW s_to l4)) fun _ l1 => parseF f .expr l1) with
  | none => rw [eq1] at hpm; cases hpm
  | some r1 =>
  rw [eq1] at hpm
  go_wp2_with fail
  refine (parse_sub1 f HE.out pb w.heap.size w4.heap.size (⟨16, 0, ps, 0, ByteArray.empty, xa, xe⟩ : Hd) [t0] a0 c0 xs0 l4 r1 _ s_to _ (row_one0 W7 s_to _) (S7.out.ext ((Ext.refl _).alloc _)) (by simp) (P7.out.alloc _) E4.out eq1).mono ?_
  intro e W8 hh
  cases r1 with
  | error l' =>
    cases hpm
    obtain ⟨x', he'⟩ := hh
    have he' : e = thrown l' := he'
    subst he'
    exact ⟨rfl, Y0.out.shrink ((X7.out.alloc _).trans x') hup, rfl⟩
  | ok q =>
  obtain ⟨t1, l5⟩ := q
  rw [andThen_ok] at hpm
  obtain ⟨x', he', hP, a1, c1, xs1, hS⟩ := hh
  have he' : e = .returned (.tuple #[]) := he'
  subst he'
  have S8 : Hid (Sub8 pb w.heap.size w4.heap.size (⟨16, 0, ps, 0, ByteArray.empty, xa, xe⟩ : Hd) [t0, t1] a1 c1 xs1 W8) := Lib.hid hS
  have E5 := Lib.hid (sub_ended E4.out eq1)
  have Z8 := Lib.hid ((Z7.out.alloc _).extx x' (show ¬ (w.heap.size + 1 = pb ∨ w4.heap.size ≤ w.heap.size + 1) by omega))
  have P8 := Lib.hid hP
  have X8 := Lib.hid ((X7.out.alloc _).trans x')
  clear eq1 hP x' hS
  have hr : r = .ok (.mk (⟨16, 0, ps, 0, ByteArray.empty, xa, xe⟩ : Hd) [t0, t1], l5) := by
    cases hpm
    rfl
  subst hr
  clear hpm
  have HL : Hid (LaidE pb (w.heap.size + 1) w W8 (⟨16, 0, ps, 0, ByteArray.empty, xa, xe⟩ : Hd) [t0, t1] a1 2 c1 l5) := Lib.hid ⟨Z8.out, ⟨by simp, by simp, by simp, by simp, hpos0, hpos1, by simp, by simp, by simp, hz_xa, hz_xe⟩, S8.out.le, S8.out.cap, S8.out.tms.off (fun b _ hb => by have hb : b ≤ w.heap.size + 1 := hb; show b ≤ w4.heap.size; omega), P8.out, Y0.out.shrink X8.out hup, by omega, by omega⟩
  have u0 : W8.cell? ⟨w4.heap.size, 0, none⟩ = some (.int .u8 16) := S8.out.tm.eight.1
  have u1 : W8.cell? ⟨w4.heap.size, 1, none⟩ = some (.int .u8 0) := S8.out.tm.eight.2.1
  have u2 : W8.cell? ⟨w4.heap.size, 2, none⟩ = some (.int .i64 ps) := S8.out.tm.eight.2.2.1
  have u3 : W8.cell? ⟨w4.heap.size, 3, none⟩ = some (.int .i64 0) := S8.out.tm.eight.2.2.2.1
  have u4 : W8.cell? ⟨w4.heap.size, 4, none⟩ = some (.string ByteArray.empty) := S8.out.tm.eight.2.2.2.2.1
  have u5 : W8.cell? ⟨w4.heap.size, 5, none⟩ = some (.string xa) := S8.out.tm.eight.2.2.2.2.2.1
  have u6 : W8.cell? ⟨w4.heap.size, 6, none⟩ = some (.string xe) := S8.out.tm.eight.2.2.2.2.2.2.1
  have u7 : W8.cell? ⟨w4.heap.size, 7, none⟩ = some (.slice a1 2 c1) := S8.out.tm.eight.2.2.2.2.2.2.2
  obtain ⟨z0, z1, z2, z3, z4, z5, z6, z7⟩ := Z8.out.eight
  obtain ⟨g0, g1, g2, g3, g4, g5, g6, g7⟩ := Z8.out.frozen8
  have hlz := Z8.out.lt
  go_wp2_with fail
  exact HL.out.ret (fun w2 r0 r1 r2 r3 r4 r5 r6 r7 => by dsimp only at r0 r1 r2 r3 r4 r5 r6 r7; simp [results, Tryz.results31, go_sem, r0, r1, r2, r3, r4, r5, r6, r7]) rfl
end Go.Proofs.YtaioeailgknfjaaGreatDoor
