/- Part 34 of the proof: Parse16fn; no condition of ours. -/
import Derived.Test.YtaioeailgknfjaaGreatDoorPku32
set_option linter.unusedVariables false
set_option linter.unusedSimpArgs false
namespace Go.Proofs.YtaioeailgknfjaaGreatDoor
open Go Go.RowKit Go.Sort
set_option maxRecDepth 8000 in
set_option maxHeartbeats 8000000 in
theorem parse_expr_fn (f : Nat) (hE : Does 31 .expr f) (pb : Nat) (tk : Tk) (l0 : List Tk) (r : Res Tm) (w : World) (h : Prs w pb (tk :: l0)) (he : Ended (tk :: l0)) (hi : isT [w_fn] (tk :: l0) = true) (hp : parseF (f + 1) .expr (tk :: l0) = some r) :
    Calls Tryz.prog 31 #[.pointer (some ⟨pb, 0, none⟩)] w (RetP pb w (IsNew w.heap.size) r) := by
  obtain ⟨tkk, s, ps⟩ := tk
  have hsx : s = w_fn := isT_text hi
  subst hsx
  have hlt := h.lt
  have hfit := h.fits
  have hpos0 : -9223372036854775808 ≤ ps := hfit.p0
  have hpos1 : ps ≤ 9223372036854775807 := hfit.p1
  have hpm := hp
  unfold parseF at hpm
  rw [if_neg (by rw [isT_other (y := w_let) hi (by decide +kernel)]; simp)] at hpm
  rw [if_neg (by rw [isT_other (y := w_letrec) hi (by decide +kernel)]; simp)] at hpm
  rw [if_pos hi] at hpm
  simp only [List.tail_cons, posT] at hpm
  have hi5 : isT [w_let, w_letrec, w_fn, w_if, w_try] (⟨tkk, w_fn, ps⟩ :: l0) = true := isT_mem (by simp) hi
  obtain ⟨hl0, he0⟩ := he.tail_ne (isT_kind hi)
  have q_let : (w_fn.toList == ([108, 101, 116] : List UInt8)) = false := by rw [ByteArray.toList_eq]; rfl
  have q_letrec : (w_fn.toList == ([108, 101, 116, 114, 101, 99] : List UInt8)) = false := by rw [ByteArray.toList_eq]; rfl
  have q_fn : (w_fn.toList == ([102, 110] : List UInt8)) = true := by rw [ByteArray.toList_eq]; rfl
  have KI := Lib.hid fun W (x : Ext w W) (a : Option Addr) (hr : IsRow W (vstr [w_let, w_letrec, w_fn, w_if, w_try]) a 5) => parse_is [w_let, w_letrec, w_fn, w_if, w_try] pb ⟨tkk, w_fn, ps⟩ l0 W a 5 5 (Nat.le_refl _) (by omega) hr (h.ext x)
  rw [hi5] at KI
  have KT := Lib.hid fun W (x : Ext w W) => parse_take pb ⟨tkk, w_fn, ps⟩ l0 W (h.ext x)
  have HE := Lib.hid hE
  have HPM := Lib.hid hpm
  have HL0 := Lib.hid hl0
  have E0 := Lib.hid he0
  clear hp hpm h he hi hi5 hfit hE hl0 he0
  go_enter Tryz.func31, Tryz.ntmps31
  go_wp2_with fail
  refine (KI.out _ (by (exact eX)) _ (row_new2 w _ _ _ (vstr [w_let, w_letrec, w_fn, w_if, w_try]))).mono ?_
  rintro e w2 ⟨rfl, x2⟩
  have hP2 := blk_under2 x2
  have hZ2 := blk_under x2
  rw [World.size_alloc] at hZ2
  have y2 : Ext w w2 := by (exact eX)
  have p0 := hP2.cell 0
  simp at p0
  go_wp2_with fail
  refine (KT.out _ y2).mono ?_
  rintro e w3 ⟨rfl, x3, hp3⟩
  have P3 := hp3 HL0.out
  have hP3 := hP2.nez x3 (by omega)
  have hZ3 := hZ2.nez x3 (by omega)
  have y3 : ExtX (· = pb) w w3 := (ExtX.of y2).trans x3
  have HP3 := Lib.hid P3
  have HQ3 := Lib.hid hP3
  have HZ3 := Lib.hid hZ3
  have Y3 := Lib.hid y3
  clear x2 hP2 hZ2 y2 x3 hp3 P3 hP3 hZ3 y3 p0
  go_wp2_with fail
  refine (parse_node _ _ _ _ _ _).mono ?_
  rintro e w4 ⟨rfl, x4⟩
  have hT4 := blk_top x4
  have t1 := hT4.cell 1
  simp at t1
  have hlT := hT4.lt
  have y34 : Ext w3 w4 := by (exact eX)
  have hP4 := HQ3.out.ext y34
  have hZ4 := HZ3.out.ext y34
  have hs4 := hZ4.lt
  obtain ⟨b1, hb1⟩ : ∃ b1, b1 = w.heap.size := ⟨_, rfl⟩
  obtain ⟨bt, hbt⟩ : ∃ bt, bt = w4.heap.size := ⟨_, rfl⟩
  have hS := Sub8.start (x := (⟨0, 0, ps, 0, ByteArray.empty, ByteArray.empty, ByteArray.empty⟩ : Hd)) hP4 hlt
  obtain ⟨W0, hW0⟩ : ∃ W0, W0 = w4.alloc (.cells #[.int .u8 0, .int .u8 0, .int .i64 ps, .int .i64 0, .string ByteArray.empty, .string ByteArray.empty, .string ByteArray.empty, .slice none 0 0] 28) := ⟨_, rfl⟩
  have S0 : Hid (Sub8 pb w.heap.size w4.heap.size (⟨0, 0, ps, 0, ByteArray.empty, ByteArray.empty, ByteArray.empty⟩ : Hd) [] none 0 [] W0) := Lib.hid (by rw [hW0]; exact hS)
  have yW : Ext w4 W0 := by rw [hW0]; exact (Ext.refl _).alloc _
  have Z0 := Lib.hid (hZ4.ext yW)
  have P0 := Lib.hid (HP3.out.ext (y34.trans yW))
  have Y0 := Lib.hid (Y3.out.then_ (y34.trans yW))
  have X0 := Lib.hid (ExtX.refl (A := fun b => b = pb ∨ w4.heap.size ≤ b) W0)
  have hup : w.heap.size ≤ w4.heap.size := by omega
  clear hS hP4 hZ4 x4 hT4 y34 yW hb1 hbt
  go_upto_region 17 with fail
  rw [← hW0]
  clear t1 hW0
  have hpm := HPM.out
  have p0 := S0.out.ptr.cell 0
  simp at p0
  go_wp2_with fail
  refine (parse_name pb l0 _ P0.out E0.out).mono ?_
  intro e W1 hh
  clear p0
  cases hg : getK 2 l0 with
  | error l' =>
    rw [hg] at hh hpm
    cases hpm
    obtain ⟨rfl, x'⟩ := hh.error
    exact ⟨rfl, (Y0.out.shrink X0.out hup).trans x', rfl⟩
  | ok q =>
  obtain ⟨xa, l1⟩ := q
  rw [hg] at hh hpm
  rw [andThen_ok] at hpm
  obtain ⟨v, rfl, hv, hP, x'⟩ := hh.ok
  have hv : v = .string xa := hv
  subst hv
  have hz_xa : xa.size ≤ 9223372036854775807 := by
    obtain ⟨t, e, -, rfl⟩ := getK_inv (k := 2) (l := l0) (l' := l1) (x := xa) (by rw [hg])
    have := P0.out
    rw [e] at this
    exact this.fits.text1
  have E1 : Hid (Ended l1) := Lib.hid (by have := getK_behind E0.out (show (2 : Int) ≠ 6 by omega); rw [hg] at this; exact this.1)
  have S1 := Lib.hid (S0.out.extx x')
  have Z1 := Lib.hid (Z0.out.nez x' (by omega))
  have P1 := Lib.hid hP
  have X1 := Lib.hid (X0.out.trans (x'.mono (fun b hb => .inl hb)))
  clear hh hg hP x'
  obtain ⟨c0, c1, c2, c3, c4, c5, c6, c7⟩ := S1.out.tm.eight
  obtain ⟨f0, f1, f2, f3, f4, f5, f6, f7⟩ := S1.out.tm.frozen8
  have hlb := S1.out.tm.lt
  have hSn := ((S1.out.put 0 (.int .u8 11) (⟨11, 0, ps, 0, ByteArray.empty, ByteArray.empty, ByteArray.empty⟩ : Hd) (by simp)).put 5 (.string xa) (⟨11, 0, ps, 0, ByteArray.empty, xa, ByteArray.empty⟩ : Hd) (by simp))
  have hPn := ((P1.out.far (p := ⟨w4.heap.size, 0, none⟩) (by show pb < w4.heap.size; omega) (.int .u8 11)).far (p := ⟨w4.heap.size, 5, none⟩) (by show pb < w4.heap.size; omega) (.string xa))
  have hXn := ((X1.out.setCell (p := ⟨w4.heap.size, 0, none⟩) (.inl (.inr (Nat.le_refl _))) (.int .u8 11)).setCell (p := ⟨w4.heap.size, 5, none⟩) (.inl (.inr (Nat.le_refl _))) (.string xa))
  have hZn := ((Z1.out.far (p := ⟨w4.heap.size, 0, none⟩) (by show w.heap.size + 1 ≠ w4.heap.size; omega) (.int .u8 11)).far (p := ⟨w4.heap.size, 5, none⟩) (by show w.heap.size + 1 ≠ w4.heap.size; omega) (.string xa))
  obtain ⟨W2, hWn⟩ : ∃ Wn, Wn = ((W1.setCell ⟨w4.heap.size, 0, none⟩ (.int .u8 11)).setCell ⟨w4.heap.size, 5, none⟩ (.string xa)) := ⟨_, rfl⟩
  rw [← hWn] at hSn hPn hXn hZn
  go_upto_region 18 with fail
  rw [← hWn]
  have S2 := Lib.hid hSn
  have P2 := Lib.hid hPn
  have X2 := Lib.hid hXn
  have Z2 := Lib.hid hZn
  clear hSn hPn hXn hZn hWn c0 c1 c2 c3 c4 c5 c6 c7 f0 f1 f2 f3 f4 f5 f6 f7 hlb
  rw [← andThen_assoc] at hpm
  cases eq0 : (andThen (some (getW s_to l1)) fun _ l1 => parseF f .expr l1) with
  | none => rw [eq0] at hpm; cases hpm
  | some r0 =>
  rw [eq0] at hpm
  go_wp2_with fail
  refine (parse_sub1 f HE.out pb w.heap.size w4.heap.size (⟨11, 0, ps, 0, ByteArray.empty, xa, ByteArray.empty⟩ : Hd) [] none 0 [] l1 r0 _ s_to _ (row_one0 W2 s_to _) (S2.out.ext ((Ext.refl _).alloc _)) (by simp) (P2.out.alloc _) E1.out eq0).mono ?_
  intro e W3 hh
  cases r0 with
  | error l' =>
    cases hpm
    obtain ⟨x', he'⟩ := hh
    have he' : e = thrown l' := he'
    subst he'
    exact ⟨rfl, Y0.out.shrink ((X2.out.alloc _).trans x') hup, rfl⟩
  | ok q =>
  obtain ⟨t0, l2⟩ := q
  rw [andThen_ok] at hpm
  obtain ⟨x', he', hP, a0, c0, xs0, hS⟩ := hh
  have he' : e = .returned (.tuple #[]) := he'
  subst he'
  have S3 : Hid (Sub8 pb w.heap.size w4.heap.size (⟨11, 0, ps, 0, ByteArray.empty, xa, ByteArray.empty⟩ : Hd) [t0] a0 c0 xs0 W3) := Lib.hid hS
  have E2 := Lib.hid (sub_ended E1.out eq0)
  have Z3 := Lib.hid ((Z2.out.alloc _).extx x' (show ¬ (w.heap.size + 1 = pb ∨ w4.heap.size ≤ w.heap.size + 1) by omega))
  have P3 := Lib.hid hP
  have X3 := Lib.hid ((X2.out.alloc _).trans x')
  clear eq0 hP x' hS
  have hr : r = .ok (.mk (⟨11, 0, ps, 0, ByteArray.empty, xa, ByteArray.empty⟩ : Hd) [t0], l2) := by
    cases hpm
    rfl
  subst hr
  clear hpm
  have HL : Hid (LaidE pb (w.heap.size + 1) w W3 (⟨11, 0, ps, 0, ByteArray.empty, xa, ByteArray.empty⟩ : Hd) [t0] a0 1 c0 l2) := Lib.hid ⟨Z3.out, ⟨by simp, by simp, by simp, by simp, hpos0, hpos1, by simp, by simp, by simp, hz_xa, by simp⟩, S3.out.le, S3.out.cap, S3.out.tms.off (fun b _ hb => by have hb : b ≤ w.heap.size + 1 := hb; show b ≤ w4.heap.size; omega), P3.out, Y0.out.shrink X3.out hup, by omega, by omega⟩
  have u0 : W3.cell? ⟨w4.heap.size, 0, none⟩ = some (.int .u8 11) := S3.out.tm.eight.1
  have u1 : W3.cell? ⟨w4.heap.size, 1, none⟩ = some (.int .u8 0) := S3.out.tm.eight.2.1
  have u2 : W3.cell? ⟨w4.heap.size, 2, none⟩ = some (.int .i64 ps) := S3.out.tm.eight.2.2.1
  have u3 : W3.cell? ⟨w4.heap.size, 3, none⟩ = some (.int .i64 0) := S3.out.tm.eight.2.2.2.1
  have u4 : W3.cell? ⟨w4.heap.size, 4, none⟩ = some (.string ByteArray.empty) := S3.out.tm.eight.2.2.2.2.1
  have u5 : W3.cell? ⟨w4.heap.size, 5, none⟩ = some (.string xa) := S3.out.tm.eight.2.2.2.2.2.1
  have u6 : W3.cell? ⟨w4.heap.size, 6, none⟩ = some (.string ByteArray.empty) := S3.out.tm.eight.2.2.2.2.2.2.1
  have u7 : W3.cell? ⟨w4.heap.size, 7, none⟩ = some (.slice a0 1 c0) := S3.out.tm.eight.2.2.2.2.2.2.2
  obtain ⟨z0, z1, z2, z3, z4, z5, z6, z7⟩ := Z3.out.eight
  obtain ⟨g0, g1, g2, g3, g4, g5, g6, g7⟩ := Z3.out.frozen8
  have hlz := Z3.out.lt
  go_wp2_with fail
  exact HL.out.ret (fun w2 r0 r1 r2 r3 r4 r5 r6 r7 => by dsimp only at r0 r1 r2 r3 r4 r5 r6 r7; simp [results, Tryz.results31, go_sem, r0, r1, r2, r3, r4, r5, r6, r7]) rfl
set_option maxRecDepth 8000 in
set_option maxHeartbeats 8000000 in
theorem parse_expr_if (f : Nat) (hE : Does 31 .expr f) (pb : Nat) (tk : Tk) (l0 : List Tk) (r : Res Tm) (w : World) (h : Prs w pb (tk :: l0)) (he : Ended (tk :: l0)) (hi : isT [w_if] (tk :: l0) = true) (hp : parseF (f + 1) .expr (tk :: l0) = some r) :
    Calls Tryz.prog 31 #[.pointer (some ⟨pb, 0, none⟩)] w (RetP pb w (IsNew w.heap.size) r) := by
  obtain ⟨tkk, s, ps⟩ := tk
  have hsx : s = w_if := isT_text hi
  subst hsx
  have hlt := h.lt
  have hfit := h.fits
  have hpos0 : -9223372036854775808 ≤ ps := hfit.p0
  have hpos1 : ps ≤ 9223372036854775807 := hfit.p1
  have hpm := hp
  unfold parseF at hpm
  rw [if_neg (by rw [isT_other (y := w_let) hi (by decide +kernel)]; simp)] at hpm
  rw [if_neg (by rw [isT_other (y := w_letrec) hi (by decide +kernel)]; simp)] at hpm
  rw [if_neg (by rw [isT_other (y := w_fn) hi (by decide +kernel)]; simp)] at hpm
  rw [if_pos hi] at hpm
  simp only [List.tail_cons, posT] at hpm
  have hi5 : isT [w_let, w_letrec, w_fn, w_if, w_try] (⟨tkk, w_if, ps⟩ :: l0) = true := isT_mem (by simp) hi
  obtain ⟨hl0, he0⟩ := he.tail_ne (isT_kind hi)
  have q_let : (w_if.toList == ([108, 101, 116] : List UInt8)) = false := by rw [ByteArray.toList_eq]; rfl
  have q_letrec : (w_if.toList == ([108, 101, 116, 114, 101, 99] : List UInt8)) = false := by rw [ByteArray.toList_eq]; rfl
  have q_fn : (w_if.toList == ([102, 110] : List UInt8)) = false := by rw [ByteArray.toList_eq]; rfl
  have q_if : (w_if.toList == ([105, 102] : List UInt8)) = true := by rw [ByteArray.toList_eq]; rfl
  have KI := Lib.hid fun W (x : Ext w W) (a : Option Addr) (hr : IsRow W (vstr [w_let, w_letrec, w_fn, w_if, w_try]) a 5) => parse_is [w_let, w_letrec, w_fn, w_if, w_try] pb ⟨tkk, w_if, ps⟩ l0 W a 5 5 (Nat.le_refl _) (by omega) hr (h.ext x)
  rw [hi5] at KI
  have KT := Lib.hid fun W (x : Ext w W) => parse_take pb ⟨tkk, w_if, ps⟩ l0 W (h.ext x)
  have HE := Lib.hid hE
  have HPM := Lib.hid hpm
  have HL0 := Lib.hid hl0
  have E0 := Lib.hid he0
  clear hp hpm h he hi hi5 hfit hE hl0 he0
  go_enter Tryz.func31, Tryz.ntmps31
  go_wp2_with fail
  refine (KI.out _ (by (exact eX)) _ (row_new2 w _ _ _ (vstr [w_let, w_letrec, w_fn, w_if, w_try]))).mono ?_
  rintro e w2 ⟨rfl, x2⟩
  have hP2 := blk_under2 x2
  have hZ2 := blk_under x2
  rw [World.size_alloc] at hZ2
  have y2 : Ext w w2 := by (exact eX)
  have p0 := hP2.cell 0
  simp at p0
  go_wp2_with fail
  refine (KT.out _ y2).mono ?_
  rintro e w3 ⟨rfl, x3, hp3⟩
  have P3 := hp3 HL0.out
  have hP3 := hP2.nez x3 (by omega)
  have hZ3 := hZ2.nez x3 (by omega)
  have y3 : ExtX (· = pb) w w3 := (ExtX.of y2).trans x3
  have HP3 := Lib.hid P3
  have HQ3 := Lib.hid hP3
  have HZ3 := Lib.hid hZ3
  have Y3 := Lib.hid y3
  clear x2 hP2 hZ2 y2 x3 hp3 P3 hP3 hZ3 y3 p0
  go_wp2_with fail
  refine (parse_node _ _ _ _ _ _).mono ?_
  rintro e w4 ⟨rfl, x4⟩
  have hT4 := blk_top x4
  have t1 := hT4.cell 1
  simp at t1
  have hlT := hT4.lt
  have y34 : Ext w3 w4 := by (exact eX)
  have hP4 := HQ3.out.ext y34
  have hZ4 := HZ3.out.ext y34
  have hs4 := hZ4.lt
  obtain ⟨b1, hb1⟩ : ∃ b1, b1 = w.heap.size := ⟨_, rfl⟩
  obtain ⟨bt, hbt⟩ : ∃ bt, bt = w4.heap.size := ⟨_, rfl⟩
  have hS := Sub8.start (x := (⟨0, 0, ps, 0, ByteArray.empty, ByteArray.empty, ByteArray.empty⟩ : Hd)) hP4 hlt
  obtain ⟨W0, hW0⟩ : ∃ W0, W0 = w4.alloc (.cells #[.int .u8 0, .int .u8 0, .int .i64 ps, .int .i64 0, .string ByteArray.empty, .string ByteArray.empty, .string ByteArray.empty, .slice none 0 0] 28) := ⟨_, rfl⟩
  have S0 : Hid (Sub8 pb w.heap.size w4.heap.size (⟨0, 0, ps, 0, ByteArray.empty, ByteArray.empty, ByteArray.empty⟩ : Hd) [] none 0 [] W0) := Lib.hid (by rw [hW0]; exact hS)
  have yW : Ext w4 W0 := by rw [hW0]; exact (Ext.refl _).alloc _
  have Z0 := Lib.hid (hZ4.ext yW)
  have P0 := Lib.hid (HP3.out.ext (y34.trans yW))
  have Y0 := Lib.hid (Y3.out.then_ (y34.trans yW))
  have X0 := Lib.hid (ExtX.refl (A := fun b => b = pb ∨ w4.heap.size ≤ b) W0)
  have hup : w.heap.size ≤ w4.heap.size := by omega
  clear hS hP4 hZ4 x4 hT4 y34 yW hb1 hbt
  go_upto_region 20 with fail
  rw [← hW0]
  clear t1 hW0
  have hpm := HPM.out
  obtain ⟨c0, c1, c2, c3, c4, c5, c6, c7⟩ := S0.out.tm.eight
  obtain ⟨f0, f1, f2, f3, f4, f5, f6, f7⟩ := S0.out.tm.frozen8
  have hlb := S0.out.tm.lt
  have hSn := (S0.out.put 0 (.int .u8 14) (⟨14, 0, ps, 0, ByteArray.empty, ByteArray.empty, ByteArray.empty⟩ : Hd) (by simp))
  have hPn := (P0.out.far (p := ⟨w4.heap.size, 0, none⟩) (by show pb < w4.heap.size; omega) (.int .u8 14))
  have hXn := (X0.out.setCell (p := ⟨w4.heap.size, 0, none⟩) (.inl (.inr (Nat.le_refl _))) (.int .u8 14))
  have hZn := (Z0.out.far (p := ⟨w4.heap.size, 0, none⟩) (by show w.heap.size + 1 ≠ w4.heap.size; omega) (.int .u8 14))
  obtain ⟨W1, hWn⟩ : ∃ Wn, Wn = (W0.setCell ⟨w4.heap.size, 0, none⟩ (.int .u8 14)) := ⟨_, rfl⟩
  rw [← hWn] at hSn hPn hXn hZn
  go_upto_region 21 with fail
  rw [← hWn]
  have S1 := Lib.hid hSn
  have P1 := Lib.hid hPn
  have X1 := Lib.hid hXn
  have Z1 := Lib.hid hZn
  clear hSn hPn hXn hZn hWn c0 c1 c2 c3 c4 c5 c6 c7 f0 f1 f2 f3 f4 f5 f6 f7 hlb
  cases eq0 : (parseF f .expr l0) with
  | none => rw [eq0] at hpm; cases hpm
  | some r0 =>
  rw [eq0] at hpm
  go_wp2_with fail
  refine (parse_sub0 f HE.out pb w.heap.size w4.heap.size (⟨14, 0, ps, 0, ByteArray.empty, ByteArray.empty, ByteArray.empty⟩ : Hd) [] none 0 [] l0 r0 _ S1.out (by simp) P1.out E0.out eq0).mono ?_
  intro e W2 hh
  cases r0 with
  | error l' =>
    cases hpm
    obtain ⟨x', he'⟩ := hh
    have he' : e = thrown l' := he'
    subst he'
    exact ⟨rfl, Y0.out.shrink (X1.out.trans x') hup, rfl⟩
  | ok q =>
  obtain ⟨t0, l1⟩ := q
  rw [andThen_ok] at hpm
  obtain ⟨x', he', hP, a0, c0, xs0, hS⟩ := hh
  have he' : e = .returned (.tuple #[]) := he'
  subst he'
  have S2 : Hid (Sub8 pb w.heap.size w4.heap.size (⟨14, 0, ps, 0, ByteArray.empty, ByteArray.empty, ByteArray.empty⟩ : Hd) [t0] a0 c0 xs0 W2) := Lib.hid hS
  have E1 := Lib.hid (sub_ended0 E0.out eq0)
  have Z2 := Lib.hid (Z1.out.extx x' (show ¬ (w.heap.size + 1 = pb ∨ w4.heap.size ≤ w.heap.size + 1) by omega))
  have P2 := Lib.hid hP
  have X2 := Lib.hid (X1.out.trans x')
  clear eq0 hP x' hS
  rw [← andThen_assoc] at hpm
  cases eq1 : (andThen (some (getW w_then l1)) fun _ l1 => parseF f .expr l1) with
  | none => rw [eq1] at hpm; cases hpm
  | some r1 =>
  rw [eq1] at hpm
  go_wp2_with fail
  refine (parse_sub1 f HE.out pb w.heap.size w4.heap.size (⟨14, 0, ps, 0, ByteArray.empty, ByteArray.empty, ByteArray.empty⟩ : Hd) [t0] a0 c0 xs0 l1 r1 _ w_then _ (row_one0 W2 w_then _) (S2.out.ext ((Ext.refl _).alloc _)) (by simp) (P2.out.alloc _) E1.out eq1).mono ?_
  intro e W3 hh
  cases r1 with
  | error l' =>
    cases hpm
    obtain ⟨x', he'⟩ := hh
    have he' : e = thrown l' := he'
    subst he'
    exact ⟨rfl, Y0.out.shrink ((X2.out.alloc _).trans x') hup, rfl⟩
  | ok q =>
  obtain ⟨t1, l2⟩ := q
  rw [andThen_ok] at hpm
  obtain ⟨x', he', hP, a1, c1, xs1, hS⟩ := hh
  have he' : e = .returned (.tuple #[]) := he'
  subst he'
  have S3 : Hid (Sub8 pb w.heap.size w4.heap.size (⟨14, 0, ps, 0, ByteArray.empty, ByteArray.empty, ByteArray.empty⟩ : Hd) [t0, t1] a1 c1 xs1 W3) := Lib.hid hS
  have E2 := Lib.hid (sub_ended E1.out eq1)
  have Z3 := Lib.hid ((Z2.out.alloc _).extx x' (show ¬ (w.heap.size + 1 = pb ∨ w4.heap.size ≤ w.heap.size + 1) by omega))
  have P3 := Lib.hid hP
  have X3 := Lib.hid ((X2.out.alloc _).trans x')
  clear eq1 hP x' hS
  rw [← andThen_assoc] at hpm
  cases eq2 : (andThen (some (getW w_else l2)) fun _ l1 => parseF f .expr l1) with
  | none => rw [eq2] at hpm; cases hpm
  | some r2 =>
  rw [eq2] at hpm
  go_wp2_with fail
  refine (parse_sub1 f HE.out pb w.heap.size w4.heap.size (⟨14, 0, ps, 0, ByteArray.empty, ByteArray.empty, ByteArray.empty⟩ : Hd) [t0, t1] a1 c1 xs1 l2 r2 _ w_else _ (row_one0 W3 w_else _) (S3.out.ext ((Ext.refl _).alloc _)) (by simp) (P3.out.alloc _) E2.out eq2).mono ?_
  intro e W4 hh
  cases r2 with
  | error l' =>
    cases hpm
    obtain ⟨x', he'⟩ := hh
    have he' : e = thrown l' := he'
    subst he'
    exact ⟨rfl, Y0.out.shrink ((X3.out.alloc _).trans x') hup, rfl⟩
  | ok q =>
  obtain ⟨t2, l3⟩ := q
  rw [andThen_ok] at hpm
  obtain ⟨x', he', hP, a2, c2, xs2, hS⟩ := hh
  have he' : e = .returned (.tuple #[]) := he'
  subst he'
  have S4 : Hid (Sub8 pb w.heap.size w4.heap.size (⟨14, 0, ps, 0, ByteArray.empty, ByteArray.empty, ByteArray.empty⟩ : Hd) [t0, t1, t2] a2 c2 xs2 W4) := Lib.hid hS
  have E3 := Lib.hid (sub_ended E2.out eq2)
  have Z4 := Lib.hid ((Z3.out.alloc _).extx x' (show ¬ (w.heap.size + 1 = pb ∨ w4.heap.size ≤ w.heap.size + 1) by omega))
  have P4 := Lib.hid hP
  have X4 := Lib.hid ((X3.out.alloc _).trans x')
  clear eq2 hP x' hS
  have hr : r = .ok (.mk (⟨14, 0, ps, 0, ByteArray.empty, ByteArray.empty, ByteArray.empty⟩ : Hd) [t0, t1, t2], l3) := by
    cases hpm
    rfl
  subst hr
  clear hpm
  have HL : Hid (LaidE pb (w.heap.size + 1) w W4 (⟨14, 0, ps, 0, ByteArray.empty, ByteArray.empty, ByteArray.empty⟩ : Hd) [t0, t1, t2] a2 3 c2 l3) := Lib.hid ⟨Z4.out, ⟨by simp, by simp, by simp, by simp, hpos0, hpos1, by simp, by simp, by simp, by simp, by simp⟩, S4.out.le, S4.out.cap, S4.out.tms.off (fun b _ hb => by have hb : b ≤ w.heap.size + 1 := hb; show b ≤ w4.heap.size; omega), P4.out, Y0.out.shrink X4.out hup, by omega, by omega⟩
  have u0 : W4.cell? ⟨w4.heap.size, 0, none⟩ = some (.int .u8 14) := S4.out.tm.eight.1
  have u1 : W4.cell? ⟨w4.heap.size, 1, none⟩ = some (.int .u8 0) := S4.out.tm.eight.2.1
  have u2 : W4.cell? ⟨w4.heap.size, 2, none⟩ = some (.int .i64 ps) := S4.out.tm.eight.2.2.1
  have u3 : W4.cell? ⟨w4.heap.size, 3, none⟩ = some (.int .i64 0) := S4.out.tm.eight.2.2.2.1
  have u4 : W4.cell? ⟨w4.heap.size, 4, none⟩ = some (.string ByteArray.empty) := S4.out.tm.eight.2.2.2.2.1
  have u5 : W4.cell? ⟨w4.heap.size, 5, none⟩ = some (.string ByteArray.empty) := S4.out.tm.eight.2.2.2.2.2.1
  have u6 : W4.cell? ⟨w4.heap.size, 6, none⟩ = some (.string ByteArray.empty) := S4.out.tm.eight.2.2.2.2.2.2.1
  have u7 : W4.cell? ⟨w4.heap.size, 7, none⟩ = some (.slice a2 3 c2) := S4.out.tm.eight.2.2.2.2.2.2.2
  obtain ⟨z0, z1, z2, z3, z4, z5, z6, z7⟩ := Z4.out.eight
  obtain ⟨g0, g1, g2, g3, g4, g5, g6, g7⟩ := Z4.out.frozen8
  have hlz := Z4.out.lt
  go_wp2_with fail
  exact HL.out.ret (fun w2 r0 r1 r2 r3 r4 r5 r6 r7 => by dsimp only at r0 r1 r2 r3 r4 r5 r6 r7; simp [results, Tryz.results31, go_sem, r0, r1, r2, r3, r4, r5, r6, r7]) rfl
end Go.Proofs.YtaioeailgknfjaaGreatDoor
