/- Part 20 of the proof: Parse13; no condition of ours. -/
import Derived.Test.YtaioeailgknfjaaGreatDoorPkp19
set_option linter.unusedVariables false
set_option linter.unusedSimpArgs false
namespace Go.Proofs.YtaioeailgknfjaaGreatDoor
open Go.Lib (hid)
open Go Go.RowKit Go.Sort
theorem getWs_one (x : ByteArray) (l : List Tk) : (∃ l', getWs [x] l = .error l' ∧ getW x l = .error l') ∨ (∃ l', getWs [x] l = .ok (textT l, l') ∧ getW x l = .ok ((), l') ∧ l' = l.tail) := by
  unfold getWs getW
  cases isT [x] l
  · exact .inl ⟨l, rfl, rfl⟩
  · exact .inr ⟨l.tail, rfl, rfl, rfl⟩
theorem isT_two {x y : ByteArray} {l : List Tk} : isT [x, y] l = (isT [x] l || isT [y] l) := by
  cases l with
  | nil => rfl
  | cons t l =>
    have e : inB [x, y] t.text = (inB [x] t.text || inB [y] t.text) := inB_append [x] [y] t.text
    simp only [isT, e]
    cases (t.k == 4 || t.k == 5) <;> rfl
theorem isT_text {x : ByteArray} {l : List Tk} (h : isT [x] l = true) : textT l = x := by
  obtain ⟨t, r, rfl, -, hx, -⟩ := isT_ne h
  simpa [textT] using hx
theorem getW_ended {x : ByteArray} {l l' : List Tk} (he : Ended l) (h : getW x l = .ok ((), l')) : Ended l' := by
  have := getW_behind (x := x) he
  rw [h] at this
  exact this.1
set_option maxRecDepth 8000 in
set_option maxHeartbeats 8000000 in
theorem parse_unary_open (f : Nat) (hE : Does 31 .expr f) (pb : Nat) (tk : Tk) (l2 : List Tk) (r : Res Tm) (w : World) (h : Prs w pb (tk :: l2)) (he : Ended (tk :: l2)) (hi : isT [s_bang, w_ref, w_fst, w_snd] (tk :: l2) = false) (hi2 : isT [w_raise] (tk :: l2) = false) (n1 : tk.k ≠ 1) (n2 : tk.k ≠ 2) (hp : parseF (f + 1) .unary (tk :: l2) = some r) :
    Calls Tryz.prog 139 #[.pointer (some ⟨pb, 0, none⟩)] w (RetP pb w (IsNew w.heap.size) r) := by
  have hlt := h.lt
  have hp2 : andThen (some (getW s_open (tk :: l2))) (fun _ l1 => andThen (parseF f .expr l1) fun a l2 => if isT [s_comma] l2 then andThen (parseF f .expr l2.tail) fun b l3 => andThen (some (getW s_shut l3)) fun _ l4 => some (.ok (.mk (hd0 3 tk.pos) [a, b], l4)) else andThen (some (getW s_shut l2)) fun _ l3 => some (.ok (a, l3))) = some r := by
    unfold parseF at hp
    rw [if_neg (by rw [hi]; simp), if_neg (by rw [hi2]; simp), if_neg (show ¬ kindT (tk :: l2) = 1 from n1), if_neg (show ¬ kindT (tk :: l2) = 2 from n2)] at hp
    exact hp
  have hfit := h.fits
  have hpos0 := hfit.p0
  have hpos1 := hfit.p1
  have HF3 := hid (hd0_fits (k := 3) (p := tk.pos) (by omega) (by omega) hpos0 hpos1)
  have b1 : (tk.k == 1) = false := by simpa using n1
  have b2 : (tk.k == 2) = false := by simpa using n2
  have KN := hid fun W (x : Ext w W) => parse_now pb tk l2 W (h.ext x)
  have KI := hid fun W (x : Ext w W) (a : Option Addr) (hr : IsRow W (vstr [s_bang, w_ref, w_fst, w_snd]) a 4) => parse_is [s_bang, w_ref, w_fst, w_snd] pb tk l2 W a 4 4 (Nat.le_refl _) (by omega) hr (h.ext x)
  have KJ := hid fun W (x : Ext w W) (a : Option Addr) (hr : IsRow W (vstr [w_raise]) a 1) => parse_is [w_raise] pb tk l2 W a 1 1 (Nat.le_refl _) (by omega) hr (h.ext x)
  have KW := hid fun (xs : List ByteArray) W (l : List Tk) (a : Option Addr) (len : Nat) (hl : len ≤ 9223372036854775807) (hr : IsRow W (vstr xs) a len) (hP : Prs W pb l) (he : Ended l) => parse_word xs pb l W a len len (Nat.le_refl _) hl hr hP he
  rw [hi] at KI
  rw [hi2] at KJ
  have HE := hid hE
  have HPM := hid hp2
  have HE0 := hid he
  have HP := hid h
  have F1 := field_tk1
  have q1 : (s_shut.toList == ([41] : List UInt8)) = true := by rw [ByteArray.toList_eq]; rfl
  have q2 : (s_comma.toList == ([41] : List UInt8)) = false := by rw [ByteArray.toList_eq]; rfl
  clear hp hp2 h hi hi2 hfit he hE n1 n2
  go_enter Tryz.func139, Tryz.ntmps139
  go_wp2_with fail
  refine (KN.out _ (by (exact eX))).mono ?_
  rintro e w1 ⟨rfl, x1⟩
  have hZ1 := blk_top x1
  have y1 : Ext w w1 := by (exact eX)
  have hs1 := hZ1.lt
  go_wp2_with fail
  refine (KI.out _ (by (exact eX)) _ (row_four1 w1 _ _ _ _ _ _)).mono ?_
  rintro e w2 ⟨rfl, x2⟩
  have y2 : Ext w1 w2 := by (exact eX)
  have hT2 := blk_under x2
  go_wp2_with fail
  refine (KJ.out _ (by (exact eX)) _ (row_one0 w2 _ _)).mono ?_
  rintro e w3 ⟨rfl, x3⟩
  have y3 : Ext w2 w3 := by (exact eX)
  have hT3 := hT2.ext y3
  have t0 := hT3.cell 0
  simp at t0
  have y13 := (y1.trans y2).trans y3
  have HT3 := hid hT3
  have HZ3 := hid ((hZ1.ext y2).ext y3)
  have Y13 := hid y13
  clear x1 hZ1 y1 x2 hT2 y2 x3 hT3 y3 y13
  go_wp2_with fail
  refine (KW.out [s_open] _ _ _ 1 (by omega) (row_one0 w3 _ _) ((HP.out.ext Y13.out).alloc _) HE0.out).mono ?_
  intro e w4 hh
  have hpm := HPM.out
  rcases getWs_one s_open (tk :: l2) with ⟨l', e1, e2⟩ | ⟨l1, e1, e2, -⟩
  · rw [e1] at hh
    rw [e2] at hpm
    cases hpm
    obtain ⟨rfl, x4⟩ := hh.error
    exact ⟨rfl, ((ExtX.of Y13.out).alloc _).trans x4, rfl⟩
  rw [e1] at hh
  have he1 : Ended l1 := getW_ended HE0.out e2
  rw [e2, andThen_ok] at hpm
  obtain ⟨v4, rfl, ⟨k4, q4, rfl⟩, P4, x4⟩ := hh.ok
  have y4 : ExtX (· = pb) w w4 := ((ExtX.of Y13.out).alloc _).trans x4
  have HT4 := hid ((HT3.out.alloc (.cells #[.string ⟨#[40]⟩] 9)).nez x4 (by omega))
  have HZ4 := hid ((HZ3.out.alloc (.cells #[.string ⟨#[40]⟩] 9)).nez x4 (by omega))
  have HP4 := hid P4
  have Y4 := hid y4
  have HE1 := hid he1
  have HPM4 := hid hpm
  have hl40 := HZ4.out.lt
  clear hh e1 e2 t0 x4 y4 P4 he1 hpm
  go_wp2_with fail
  cases e5 : parseF f .expr l1 with
  | none => have := HPM4.out; rw [e5] at this; cases this
  | some r5 =>
  refine (HE.out pb w4 l1 r5 HP4.out HE1.out e5).mono ?_
  intro e w5 hh
  have hpm := HPM4.out
  rw [e5] at hpm
  cases r5 with
  | error l' =>
    cases hpm
    obtain ⟨rfl, x5⟩ := hh.error
    exact ⟨rfl, Y4.out.trans x5, rfl⟩
  | ok p5 =>
  obtain ⟨⟨x, ks⟩, l3⟩ := p5
  rw [andThen_ok] at hpm
  have he3 : Ended l3 := (parseF_told HE1.out e5).1
  obtain ⟨v, rfl, ⟨ak, nk, ck, rfl, hfx, k1, k2, hTk⟩, P5, x5⟩ := hh.ok
  have y5 : ExtX (· = pb) w w5 := Y4.out.trans x5
  have HT5 := hid (HT4.out.nez x5 (by omega))
  have HZ5 := hid (HZ4.out.nez x5 (by omega))
  have HTk := hid (show IsTmsA (fun b => b ≤ w.heap.size) w5 ks ak nk from hTk.off fun b _ hb => (by have hb : b ≤ w.heap.size := hb; omega))
  have HFX := hid hfx
  have HP5 := hid P5
  have Y5 := hid y5
  have HE3 := hid he3
  have HPM5 := hid hpm
  have hl50 := HZ5.out.lt
  have hl51 := HT5.out.lt
  have hpl := hlt
  clear hh e5 x5 y5 P5 he3 hpm hTk hfx
  go_wp2_with fail
  refine (KW.out [s_comma, s_shut] _ _ _ 2 (by omega) (row_two1 w5 _ _ _ _) ((HP5.out.alloc _).alloc _) HE3.out).mono ?_
  intro e w6 hh
  have hpm := HPM5.out
  cases hc : isT [s_comma] l3 with
  | false =>
    rw [if_neg (by rw [hc]; simp)] at hpm
    have e1 : getWs [s_comma, s_shut] l3 = getWs [s_shut] l3 := by unfold getWs; rw [isT_two, hc, Bool.false_or]
    rw [e1] at hh
    rcases getWs_one s_shut l3 with ⟨l', e1, e2⟩ | ⟨l4, e1, e2, -⟩
    · rw [e1] at hh
      rw [e2] at hpm
      cases hpm
      obtain ⟨rfl, x6⟩ := hh.error
      exact ⟨rfl, ((Y5.out.alloc _).alloc _).trans x6, rfl⟩
    rw [e1] at hh
    have ht : textT l3 = s_shut := by
      have := (getW_inv (u := ()) (by rw [e2])).1
      exact isT_text this
    rw [ht] at hh
    rw [e2, andThen_ok] at hpm
    cases hpm
    obtain ⟨v6, rfl, ⟨k6, q6, rfl⟩, P6, x6⟩ := hh.ok
    have y56 : ExtX (· = pb) w5 w6 := (((ExtX.refl w5).alloc _).alloc _).trans x6
    have hB6 := ((Blk.new w5 _ _).alloc _).nez x6 (by omega)
    have hZ6 := HZ5.out.nez y56 (by omega)
    obtain ⟨c0, c1, c2, c3, c4, c5, c6, c7⟩ := hB6.eight
    obtain ⟨z0, z1, z2, z3, z4, z5, z6, z7⟩ := hZ6.eight
    obtain ⟨g0, g1, g2, g3, g4, g5, g6, g7⟩ := hZ6.frozen8
    have hlB := hB6.lt
    have hlZ := hZ6.lt
    have HL : Hid (Laid8 pb w w6 x ks ak nk ck l4) := hid ⟨hZ6, HFX.out, k1, k2, HTk.out.extx (X := (· = pb)) y56 (fun b e => by have e : b = pb := e; show b ≤ w.heap.size; omega), P6, Y5.out.trans y56, hlt⟩
    clear hh hB6 hZ6 x6 y56 P6 e1 e2 ht hc
    go_wp2_with fail
    exact HL.out.ret (fun w2 r0 r1 r2 r3 r4 r5 r6 r7 => by simp [results, Tryz.results139, go_sem, r0, r1, r2, r3, r4, r5, r6, r7]) rfl
  | true =>
    rw [if_pos hc] at hpm
    have hi3 : isT [s_comma, s_shut] l3 = true := by rw [isT_two, hc, Bool.true_or]
    have e1 : getWs [s_comma, s_shut] l3 = .ok (s_comma, l3.tail) := by unfold getWs; rw [if_pos hi3, isT_text hc]
    rw [e1] at hh
    have he4 : Ended l3.tail := (HE3.out.is_ hc).1
    obtain ⟨v6, rfl, ⟨k6, q6, rfl⟩, P6, x6⟩ := hh.ok
    generalize l3.tail = l4 at *
    have y56 : ExtX (· = pb) w5 w6 := (((ExtX.refl w5).alloc _).alloc _).trans x6
    have HB6 := hid (((Blk.new w5 28 #[.int .u8 x.k, .int .u8 x.op, .int .i64 x.pos, .int .i64 x.n, .string x.name, .string x.arg, .string x.exn, .slice ak nk ck]).alloc (.cells #[.string ⟨#[44]⟩, .string ⟨#[41]⟩] 9)).nez x6 (by omega))
    have HZ6 := hid (HZ5.out.nez y56 (by omega))
    have HT6 := hid (HT5.out.nez y56 (by omega))
    have HTk6 := hid (HTk.out.extx (X := (· = pb)) y56 (fun b e => by have e : b = pb := e; show b ≤ w.heap.size; omega))
    have HP6 := hid P6
    have Y6 := hid (Y5.out.trans y56)
    have HE4 := hid he4
    have HPM6 := hid hpm
    have hl60 := HZ6.out.lt
    have hl61 := HB6.out.lt
    clear hh x6 y56 P6 e1 hc hi3 he4 hpm
    go_wp2_with fail
    cases e7 : parseF f .expr l4 with
    | none => have := HPM6.out; rw [e7] at this; cases this
    | some r7 =>
    refine (HE.out pb w6 l4 r7 HP6.out HE4.out e7).mono ?_
    intro e w7 hh
    have hpm := HPM6.out
    rw [e7] at hpm
    cases r7 with
    | error l' =>
      cases hpm
      obtain ⟨rfl, x7⟩ := hh.error
      exact ⟨rfl, Y6.out.trans x7, rfl⟩
    | ok p7 =>
    obtain ⟨⟨xb, kb⟩, l5⟩ := p7
    rw [andThen_ok] at hpm
    have he5 : Ended l5 := (parseF_told HE4.out e7).1
    obtain ⟨v, rfl, ⟨ab, nb, cb, rfl, fb, b1', b2', hTb⟩, P7, x7⟩ := hh.ok
    have HB7 := hid (HB6.out.nez x7 (by omega))
    have HZ7 := hid (HZ6.out.nez x7 (by omega))
    have HT7 := hid (HT6.out.nez x7 (by omega))
    have HTk7 := hid (HTk6.out.extx (X := (· = pb)) x7 (fun b e => by have e : b = pb := e; show b ≤ w.heap.size; omega))
    have HTb7 := hid (show IsTmsA (fun b => b ≤ w.heap.size) w7 kb ab nb from hTb.off fun b _ hb => (by have hb : b ≤ w.heap.size := hb; omega))
    have HFB := hid fb
    have HP7 := hid P7
    have Y7 := hid (Y6.out.trans x7)
    have HE5 := hid he5
    have HPM7 := hid hpm
    have hl70 := HZ7.out.lt
    have hl71 := HB7.out.lt
    clear hh x7 P7 e7 he5 hpm hTb fb
    go_wp2_with fail
    refine (KW.out [s_shut] _ _ _ 1 (by omega) (row_one1 w7 _ _ _) ((HP7.out.alloc _).alloc _) HE5.out).mono ?_
    intro e w8 hh
    have hpm := HPM7.out
    rcases getWs_one s_shut l5 with ⟨l', e1, e2⟩ | ⟨l6, e1, e2, -⟩
    · rw [e1] at hh
      rw [e2] at hpm
      cases hpm
      obtain ⟨rfl, x8⟩ := hh.error
      exact ⟨rfl, ((Y7.out.alloc _).alloc _).trans x8, rfl⟩
    rw [e1] at hh
    rw [e2, andThen_ok] at hpm
    cases hpm
    obtain ⟨v8, rfl, ⟨k8, q8, rfl⟩, P8, x8⟩ := hh.ok
    have y78 : ExtX (· = pb) w7 w8 := (((ExtX.refl w7).alloc _).alloc _).trans x8
    have hB8 := HB7.out.nez y78 (by omega)
    have hC8 := ((Blk.new w7 28 #[.int .u8 xb.k, .int .u8 xb.op, .int .i64 xb.pos, .int .i64 xb.n, .string xb.name, .string xb.arg, .string xb.exn, .slice ab nb cb]).alloc (.cells #[.string ⟨#[41]⟩] 9)).nez x8 (by omega)
    have hZ8 := HZ7.out.nez y78 (by omega)
    have hT8 := HT7.out.nez y78 (by omega)
    obtain ⟨c0, c1, c2, c3, c4, c5, c6, c7⟩ := hB8.eight
    obtain ⟨d0, d1, d2, d3, d4, d5, d6, d7⟩ := hC8.eight
    have t2 := hT8.cell 2
    simp at t2
    have HZ8 := hid hZ8
    have HP8 := hid P8
    have Y8 := hid (Y7.out.trans y78)
    have HTk8 := hid (HTk7.out.extx (X := (· = pb)) y78 (fun b e => by have e : b = pb := e; show b ≤ w.heap.size; omega))
    have HTb8 := hid (HTb7.out.extx (X := (· = pb)) y78 (fun b e => by have e : b = pb := e; show b ≤ w.heap.size; omega))
    have hl80 := hZ8.lt
    clear hh hB8 hC8 hZ8 hT8 x8 y78 P8 e1 e2
    go_wp2_with fail
    refine (parse_node _ _ _ _ _ _).mono ?_
    rintro e w9 ⟨rfl, x9⟩
    have hG9 := blk_top x9
    have y9 : Ext w8 w9 := by (exact eX)
    have hZ9 := HZ8.out.ext y9
    obtain ⟨z0, z1, z2, z3, z4, z5, z6, z7⟩ := hZ9.eight
    obtain ⟨g0, g1, g2, g3, g4, g5, g6, g7⟩ := hZ9.frozen8
    have hlZ := hZ9.lt
    have HL : Hid (Laid8 pb w w9 (hd0 3 tk.pos) [.mk x ks, .mk xb kb] (some ⟨w8.heap.size, 0, none⟩) 2 2 l6) := hid ⟨hZ9, HF3.out, Nat.le_refl _, by omega, pair_row (A := fun b => b ≤ w.heap.size) y9 k1 k2 b1' b2' HFX.out HFB.out HTk8.out HTb8.out (by show ¬ w8.heap.size ≤ w.heap.size; omega) hG9, HP8.out.ext y9, Y8.out.then_ y9, hlt⟩
    clear hG9 hZ9 x9 y9
    go_wp2_with fail
    exact HL.out.ret (fun w2 r0 r1 r2 r3 r4 r5 r6 r7 => by simp [results, Tryz.results139, go_sem, r0, r1, r2, r3, r4, r5, r6, r7]) rfl
theorem parse_unary (f : Nat) (hE : Does 31 .expr f) : Does 139 .unary (f + 1) := by
  intro pb w l r h he hp
  cases l with
  | nil => cases he
  | cons tk l2 =>
  have hc := h.cls
  have hi : isT [s_bang, w_ref, w_fst, w_snd] (tk :: l2) = false := hc.2.1
  have hi2 : isT [w_raise] (tk :: l2) = false := hc.2.2.1
  have n1 : tk.k ≠ 1 := hc.1
  by_cases n2 : tk.k = 2
  · obtain ⟨k, s, ps⟩ := tk
    obtain rfl : k = 2 := n2
    exact parse_unary_name f pb s ps l2 r w h he hp
  exact parse_unary_open f hE pb tk l2 r w h he hi hi2 n1 n2 hp
def KidA (bt : Nat) (v : Value) : Nat → Prop := fun b => b ≤ bt ∨ v.ownBlock = some b
theorem owns_keep {A : Nat → Prop} {w w' : World} (hx : ExtX A w w') {base : Nat} {e : TypeId} {size n : Nat} {v : Value} {xs : List Value} (hA : ∀ k, A k → k < base) (h : w.ownsRow base e size v n xs) : w'.ownsRow base e size v n xs := by
  refine ⟨h.1, h.2.imp id ?_⟩
  rintro ⟨g, cap, cur, rfl, hg, hh, r⟩
  exact ⟨g, cap, cur, rfl, hg, (hx.block g (h.lt g rfl).2 (fun e => by have := hA g e; omega)).trans hh, r⟩
theorem ExtX.grow_ {A : Nat → Prop} {a w w' : World} {row : Option Nat} (h : ExtX A a w) (g : w.grownBy w' row) (hA : ∀ k, row = some k → A k) : ExtX A a w' :=
  ⟨g.os.trans h.os, g.tape.trans h.tape, g.output.trans h.output, Nat.le_trans h.size g.size, fun k hk ha => (g.block k (Nat.lt_of_lt_of_le hk h.size) (fun e => ha (hA k e.symm))).trans (h.block k hk ha)⟩
theorem infoTmP : (Tryz.prog.info? 28).map (fun i => (i.zero, i.size, i.bytes)) = some (some (.agg #[.int .u8 0, .int .u8 0, .int .i64 0, .int .i64 0, .string ⟨#[]⟩, .string ⟨#[]⟩, .string ⟨#[]⟩, .slice none 0 0]), 8, 96) := by kernel_rfl
end Go.Proofs.YtaioeailgknfjaaGreatDoor
