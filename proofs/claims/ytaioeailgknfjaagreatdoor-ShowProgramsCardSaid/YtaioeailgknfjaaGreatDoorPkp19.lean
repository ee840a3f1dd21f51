/- Part 19 of the proof: Parse10; no condition of ours. -/
import Derived.Test.YtaioeailgknfjaaGreatDoorPkp7
import Derived.Test.YtaioeailgknfjaaGreatDoorPkp18
set_option linter.unusedVariables false
set_option linter.unusedSimpArgs false
namespace Go.Proofs.YtaioeailgknfjaaGreatDoor
open Go.Lib (hid)
open Go Go.RowKit Go.Sort
theorem row_four1 (w : World) (o : Obj) (x y z u : ByteArray) (t : TypeId) : IsRow ((w.alloc o).alloc (.cells #[.string x, .string y, .string z, .string u] t)) (vstr [x, y, z, u]) (some ⟨w.heap.size + 1, 0, none⟩) 4 := row_new1 w o t (vstr [x, y, z, u])
theorem Prs.fits {w : World} {pb : Nat} {t : Tk} {l : List Tk} (h : Prs w pb (t :: l)) : t.Fits := by
  obtain ⟨_, _, _, _, _, -, -, -, -, hf, -⟩ := h.open_
  exact hf
theorem hd2_fits {p : Int} {x : ByteArray} (p0 : -9223372036854775808 ≤ p) (p1 : p ≤ 9223372036854775807) (hx : x.size ≤ 9223372036854775807) : ({ hd0 2 p with name := x } : Hd).Fits :=
  ⟨by simp [hd0], by simp [hd0], by simp [hd0], by simp [hd0], p0, p1, by simp [hd0], by simp [hd0], hx, by simp [hd0], by simp [hd0]⟩
theorem Laid8.leaf {pb : Nat} {w W : World} {B i : Nat} {e : Value} {x : Hd} {l : List Tk} (hz : Blk W w.heap.size 28 #[.int .u8 0, .int .u8 0, .int .i64 0, .int .i64 0, .string ⟨#[]⟩, .string ⟨#[]⟩, .string ⟨#[]⟩, .slice none 0 0])
    (hf : x.Fits) (hp : Prs W pb l) (hx : ExtX (· = pb) w W) (hlt : pb < w.heap.size) (hB : w.heap.size < B) : Laid8 pb w (W.setCell ⟨B, i, none⟩ e) x [] none 0 0 l :=
  ⟨hz.far (p := ⟨B, i, none⟩) (by show w.heap.size ≠ B; omega) e, hf, Nat.le_refl _, by omega, IsTmsA.nil _, hp.far (p := ⟨B, i, none⟩) (by show pb < B; omega) e, hx.setCell (p := ⟨B, i, none⟩) (.inr (by show w.heap.size ≤ B; omega)) e, hlt⟩
set_option maxRecDepth 8000 in
set_option maxHeartbeats 8000000 in
theorem parse_unary_name (f : Nat) (pb : Nat) (s : ByteArray) (ps : Int) (l2 : List Tk) (r : Res Tm) (w : World) (h : Prs w pb (⟨2, s, ps⟩ :: l2)) (he : Ended (⟨2, s, ps⟩ :: l2)) (hp : parseF (f + 1) .unary (⟨2, s, ps⟩ :: l2) = some r) :
    Calls Tryz.prog 139 #[.pointer (some ⟨pb, 0, none⟩)] w (RetP pb w (IsNew w.heap.size) r) := by
  have hlt := h.lt
  have hi : isT [s_bang, w_ref, w_fst, w_snd] (⟨2, s, ps⟩ :: l2) = false := rfl
  have hi2 : isT [w_raise] (⟨2, s, ps⟩ :: l2) = false := rfl
  have hr : r = .ok (.mk { hd0 2 ps with name := s } [], l2) := by
    unfold parseF at hp
    rw [if_neg (by rw [hi]; simp), if_neg (by rw [hi2]; simp), if_neg (show ¬ kindT (⟨2, s, ps⟩ :: l2) = 1 from by simp [kindT]), if_pos (show kindT (⟨2, s, ps⟩ :: l2) = 2 from rfl)] at hp
    cases hp
    rfl
  subst hr
  have hfit := h.fits
  obtain ⟨hl2, he2⟩ := he.tail_ne (by simp)
  have HFT := hid (hd2_fits (p := ps) (x := s) hfit.p0 hfit.p1 hfit.text1)
  have KN := hid fun W (x : Ext w W) => parse_now pb ⟨2, s, ps⟩ l2 W (h.ext x)
  have KT := hid fun W (h : Prs W pb (⟨2, s, ps⟩ :: l2)) => parse_take pb ⟨2, s, ps⟩ l2 W h
  have KI := hid fun W (x : Ext w W) (a : Option Addr) (hr : IsRow W (vstr [s_bang, w_ref, w_fst, w_snd]) a 4) => parse_is [s_bang, w_ref, w_fst, w_snd] pb ⟨2, s, ps⟩ l2 W a 4 4 (Nat.le_refl _) (by omega) hr (h.ext x)
  have KJ := hid fun W (x : Ext w W) (a : Option Addr) (hr : IsRow W (vstr [w_raise]) a 1) => parse_is [w_raise] pb ⟨2, s, ps⟩ l2 W a 1 1 (Nat.le_refl _) (by omega) hr (h.ext x)
  rw [hi] at KI
  rw [hi2] at KJ
  have HP := hid h
  have HL2 := hid hl2
  have F1 := field_tk1
  clear hp h hi hi2 hfit hl2 he2 he
  go_enter Tryz.func139, Tryz.ntmps139
  go_wp2_with fail
  refine (KN.out _ (by (exact eX))).mono ?_
  rintro e w1 ⟨rfl, x1⟩
  have hZ1 := blk_top x1
  have y1 : Ext w w1 := by (exact eX)
  have hs1 := hZ1.lt
  go_wp2_with fail
  refine (KI.out _ (by (exact eX)) _ (row_four1 w1 _ _ _ _ _ _)).mono ?_
  rintro e w2 ⟨rfl, x2⟩
  have y2 : Ext w1 w2 := by (exact eX)
  have hT2 := blk_under x2
  go_wp2_with fail
  refine (KJ.out _ (by (exact eX)) _ (row_one0 w2 _ _)).mono ?_
  rintro e w3 ⟨rfl, x3⟩
  have y3 : Ext w2 w3 := by (exact eX)
  have hT3 := hT2.ext y3
  have t0 := hT3.cell 0
  have t2 := hT3.cell 2
  simp at t0 t2
  have y13 := (y1.trans y2).trans y3
  have HZ3 := hid ((hZ1.ext y2).ext y3)
  have Y13 := hid y13
  clear x1 hZ1 y1 x2 hT2 y2 x3 hT3 y3 y13
  go_wp2_with fail
  refine (parse_node _ _ _ _ _ _).mono ?_
  rintro e w4 ⟨rfl, x4⟩
  have HZ4 := hid (HZ3.out.ext x4)
  have hl40 := HZ4.out.lt
  have P4 := HP.out.ext (Y13.out.trans x4)
  go_wp2_with fail
  refine (KT.out _ (P4.alloc _)).mono ?_
  rintro e w6 ⟨rfl, x5, hp5⟩
  have hB6 := (Blk.new w4 _ _).nez x5 (by omega)
  have hZ6 := (HZ4.out.alloc _).nez x5 (by omega)
  have y5 : ExtX (· = pb) w w6 := ((ExtX.of (Y13.out.trans x4)).alloc _).trans x5
  obtain ⟨c0, c1, c2, c3, c4, c5, c6, c7⟩ := hB6.eight
  obtain ⟨f0, f1, f2, f3, f4, f5, f6, f7⟩ := hB6.frozen8
  obtain ⟨z0, z1, z2, z3, z4, z5, z6, z7⟩ := hZ6.eight
  obtain ⟨g0, g1, g2, g3, g4, g5, g6, g7⟩ := hZ6.frozen8
  have hlB := hB6.lt
  have hlZ := hZ6.lt
  have HL := hid (Laid8.leaf (i := 4) (e := .string s) hZ6 HFT.out (hp5 HL2.out) y5 hlt hl40)
  have hne : w4.heap.size ≠ w.heap.size := by omega
  have hne' : w.heap.size ≠ w4.heap.size := by omega
  clear hB6 hZ6 x5 x4 P4 hp5 y5 t0 t2
  go_wp2_with fail
  exact HL.out.ret (fun w2 r0 r1 r2 r3 r4 r5 r6 r7 => by simp [results, Tryz.results139, go_sem, r0, r1, r2, r3, r4, r5, r6, r7]) rfl
end Go.Proofs.YtaioeailgknfjaaGreatDoor
