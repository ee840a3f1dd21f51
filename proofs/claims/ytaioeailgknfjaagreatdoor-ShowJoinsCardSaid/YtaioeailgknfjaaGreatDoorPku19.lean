/- Part 19 of the proof: Parse13; no condition of ours. -/
import Derived.Test.YtaioeailgknfjaaGreatDoorPku18
set_option linter.unusedVariables false
set_option linter.unusedSimpArgs false
namespace Go.Proofs.YtaioeailgknfjaaGreatDoor
open Go Go.RowKit Go.Sort
theorem getWs_one (x : ByteArray) (l : List Tk) : (∃ l', getWs [x] l = .error l' ∧ getW x l = .error l') ∨ (∃ l', getWs [x] l = .ok (textT l, l') ∧ getW x l = .ok ((), l') ∧ l' = l.tail) := by
  unfold getWs getW
  cases isT [x] l
  · exact .inl ⟨l, rfl, rfl⟩
  · exact .inr ⟨l.tail, rfl, rfl, rfl⟩
theorem isT_two {x y : ByteArray} {l : List Tk} : isT [x, y] l = (isT [x] l || isT [y] l) := by
  cases l with
  | nil => rfl
  | cons t l =>
    have e : inB [x, y] t.text = (inB [x] t.text || inB [y] t.text) := inB_append [x] [y] t.text
    simp only [isT, e]
    cases (t.k == 4 || t.k == 5) <;> rfl
theorem isT_text {x : ByteArray} {l : List Tk} (h : isT [x] l = true) : textT l = x := by
  obtain ⟨t, r, rfl, -, hx, -⟩ := isT_ne h
  simpa [textT] using hx
theorem getW_ended {x : ByteArray} {l l' : List Tk} (he : Ended l) (h : getW x l = .ok ((), l')) : Ended l' := by
  have := getW_behind (x := x) he
  rw [h] at this
  exact this.1
set_option maxRecDepth 8000 in
set_option maxHeartbeats 8000000 in
theorem parse_unary_open (f : Nat) (hE : Does 31 .expr f) (pb : Nat) (tk : Tk) (l2 : List Tk) (r : Res Tm) (w : World) (h : Prs w pb (tk :: l2)) (he : Ended (tk :: l2)) (hi : isT [s_bang, w_ref, w_fst, w_snd] (tk :: l2) = false) (hi2 : isT [w_raise] (tk :: l2) = false) (n1 : tk.k ≠ 1) (n2 : tk.k ≠ 2) (hp : parseF (f + 1) .unary (tk :: l2) = some r) :
    Calls Tryz.prog 139 #[.pointer (some ⟨pb, 0, none⟩)] w (RetP pb w (IsNew w.heap.size) r) := by
  have hlt := h.lt
  have hp2 : andThen (some (getW s_open (tk :: l2))) (fun _ l1 => andThen (parseF f .expr l1) fun a l2 => if isT [s_comma] l2 then andThen (parseF f .expr l2.tail) fun b l3 => andThen (some (getW s_shut l3)) fun _ l4 => some (.ok (.mk (hd0 3 tk.pos) [a, b], l4)) else andThen (some (getW s_shut l2)) fun _ l3 => some (.ok (a, l3))) = some r := by
    unfold parseF at hp
    rw [if_neg (by rw [hi]; simp), if_neg (by rw [hi2]; simp), if_neg (show ¬ kindT (tk :: l2) = 1 from n1), if_neg (show ¬ kindT (tk :: l2) = 2 from n2)] at hp
    exact hp
  have hfit := h.fits
  have hpos0 := hfit.p0
  have hpos1 := hfit.p1
  have HF3 := Lib.hid (hd0_fits (k := 3) (p := tk.pos) (by omega) (by omega) hpos0 hpos1)
  have b1 : (tk.k == 1) = false := by simpa using n1
  have b2 : (tk.k == 2) = false := by simpa using n2
  have KN := Lib.hid fun W (x : Ext w W) => parse_now pb tk l2 W (h.ext x)
  have KI := Lib.hid fun W (x : Ext w W) (a : Option Addr) (hr : IsRow W (vstr [s_bang, w_ref, w_fst, w_snd]) a 4) => parse_is [s_bang, w_ref, w_fst, w_snd] pb tk l2 W a 4 4 (Nat.le_refl _) (by omega) hr (h.ext x)
  have KJ := Lib.hid fun W (x : Ext w W) (a : Option Addr) (hr : IsRow W (vstr [w_raise]) a 1) => parse_is [w_raise] pb tk l2 W a 1 1 (Nat.le_refl _) (by omega) hr (h.ext x)
  have KW := Lib.hid fun (xs : List ByteArray) W (l : List Tk) (a : Option Addr) (len : Nat) (hl : len ≤ 9223372036854775807) (hr : IsRow W (vstr xs) a len) (hP : Prs W pb l) (he : Ended l) => parse_word xs pb l W a len len (Nat.le_refl _) hl hr hP he
  rw [hi] at KI
  rw [hi2] at KJ
  have HE := Lib.hid hE
  have HPM := Lib.hid hp2
  have HE0 := Lib.hid he
  have HP := Lib.hid h
  have F1 := field_tk1
  have q1 : (s_shut.toList == ([41] : List UInt8)) = true := by rw [ByteArray.toList_eq]; rfl
  have q2 : (s_comma.toList == ([41] : List UInt8)) = false := by rw [ByteArray.toList_eq]; rfl
  clear hp hp2 h hi hi2 hfit he hE n1 n2
  go_enter Tryz.func139, Tryz.ntmps139
  go_wp2_with fail
  refine (KN.out _ (by (exact eX))).mono ?_
  rintro e w1 ⟨rfl, x1⟩
  have hZ1 := blk_top x1
  have y1 : Ext w w1 := by (exact eX)
  have hs1 := hZ1.lt
  go_wp2_with fail
  refine (KI.out _ (by (exact eX)) _ (row_four1 w1 _ _ _ _ _ _)).mono ?_
  rintro e w2 ⟨rfl, x2⟩
  have y2 : Ext w1 w2 := by (exact eX)
  have hT2 := blk_under x2
  go_wp2_with fail
  refine (KJ.out _ (by (exact eX)) _ (row_one0 w2 _ _)).mono ?_
  rintro e w3 ⟨rfl, x3⟩
  have y3 : Ext w2 w3 := by (exact eX)
  have hT3 := hT2.ext y3
  have t0 := hT3.cell 0
  simp at t0
  have y13 := (y1.trans y2).trans y3
  have HT3 := Lib.hid hT3
  have HZ3 := Lib.hid ((hZ1.ext y2).ext y3)
  have Y13 := Lib.hid y13
  clear x1 hZ1 y1 x2 hT2 y2 x3 hT3 y3 y13
  go_wp2_with fail
  refine (KW.out [s_open] _ _ _ 1 (by omega) (row_one0 w3 _ _) ((HP.out.ext Y13.out).alloc _) HE0.out).mono ?_
  intro e w4 hh
  have hpm := HPM.out
  rcases getWs_one s_open (tk :: l2) with ⟨l', e1, e2⟩ | ⟨l1, e1, e2, -⟩
  · rw [e1] at hh
    rw [e2] at hpm
    cases hpm
    obtain ⟨rfl, x4⟩ := hh.error
    exact ⟨rfl, ((ExtX.of Y13.out).alloc _).trans x4, rfl⟩
  rw [e1] at hh
  have he1 : Ended l1 := getW_ended HE0.out e2
  rw [e2, andThen_ok] at hpm
  obtain ⟨v4, rfl, ⟨k4, q4, rfl⟩, P4, x4⟩ := hh.ok
  have y4 : ExtX (· = pb) w w4 := ((ExtX.of Y13.out).alloc _).trans x4
  have HT4 := Lib.hid ((HT3.out.alloc (.cells #[.string ⟨#[40]⟩] 9)).nez x4 (by omega))
  have HZ4 := Lib.hid ((HZ3.out.alloc (.cells #[.string ⟨#[40]⟩] 9)).nez x4 (by omega))
  have HP4 := Lib.hid P4
  have Y4 := Lib.hid y4
  have HE1 := Lib.hid he1
  have HPM4 := Lib.hid hpm
  have hl40 := HZ4.out.lt
  clear hh e1 e2 t0 x4 y4 P4 he1 hpm
  go_wp2_with fail
  cases e5 : parseF f .expr l1 with
  | none => have := HPM4.out; rw [e5] at this; cases this
  | some r5 =>
  refine (HE.out pb w4 l1 r5 HP4.out HE1.out e5).mono ?_
  intro e w5 hh
  have hpm := HPM4.out
  rw [e5] at hpm
  cases r5 with
  | error l' =>
    cases hpm
    obtain ⟨rfl, x5⟩ := hh.error
    exact ⟨rfl, Y4.out.trans x5, rfl⟩
  | ok p5 =>
  obtain ⟨⟨x, ks⟩, l3⟩ := p5
  rw [andThen_ok] at hpm
  have he3 : Ended l3 := (parseF_told HE1.out e5).1
  obtain ⟨v, rfl, ⟨ak, nk, ck, rfl, hfx, k1, k2, hTk⟩, P5, x5⟩ := hh.ok
  have y5 : ExtX (· = pb) w w5 := Y4.out.trans x5
  have HT5 := Lib.hid (HT4.out.nez x5 (by omega))
  have HZ5 := Lib.hid (HZ4.out.nez x5 (by omega))
  have HTk := Lib.hid (show IsTmsA (fun b => b ≤ w.heap.size) w5 ks ak nk from hTk.off fun b _ hb => (by have hb : b ≤ w.heap.size := hb; omega))
  have HFX := Lib.hid hfx
  have HP5 := Lib.hid P5
  have Y5 := Lib.hid y5
  have HE3 := Lib.hid he3
  have HPM5 := Lib.hid hpm
  have hl50 := HZ5.out.lt
  have hl51 := HT5.out.lt
  have hpl := hlt
  clear hh e5 x5 y5 P5 he3 hpm hTk hfx
  go_wp2_with fail
  refine (KW.out [s_comma, s_shut] _ _ _ 2 (by omega) (row_two1 w5 _ _ _ _) ((HP5.out.alloc _).alloc _) HE3.out).mono ?_
  intro e w6 hh
  have hpm := HPM5.out
  cases hc : isT [s_comma] l3 with
  | false =>
    rw [if_neg (by rw [hc]; simp)] at hpm
    have e1 : getWs [s_comma, s_shut] l3 = getWs [s_shut] l3 := by unfold getWs; rw [isT_two, hc, Bool.false_or]
    rw [e1] at hh
    rcases getWs_one s_shut l3 with ⟨l', e1, e2⟩ | ⟨l4, e1, e2, -⟩
    · rw [e1] at hh
      rw [e2] at hpm
      cases hpm
      obtain ⟨rfl, x6⟩ := hh.error
      exact ⟨rfl, ((Y5.out.alloc _).alloc _).trans x6, rfl⟩
    rw [e1] at hh
    have ht : textT l3 = s_shut := by
      have := (getW_inv (u := ()) (by rw [e2])).1
      exact isT_text this
    rw [ht] at hh
    rw [e2, andThen_ok] at hpm
    cases hpm
    obtain ⟨v6, rfl, ⟨k6, q6, rfl⟩, P6, x6⟩ := hh.ok
    have y56 : ExtX (· = pb) w5 w6 := (((ExtX.refl w5).alloc _).alloc _).trans x6
    have hB6 := ((Blk.new w5 _ _).alloc _).nez x6 (by omega)
    have hZ6 := HZ5.out.nez y56 (by omega)
    obtain ⟨c0, c1, c2, c3, c4, c5, c6, c7⟩ := hB6.eight
    obtain ⟨z0, z1, z2, z3, z4, z5, z6, z7⟩ := hZ6.eight
    obtain ⟨g0, g1, g2, g3, g4, g5, g6, g7⟩ := hZ6.frozen8
    have hlB := hB6.lt
    have hlZ := hZ6.lt
    have HL : Hid (Laid8 pb w w6 x ks ak nk ck l4) := Lib.hid ⟨hZ6, HFX.out, k1, k2, HTk.out.extx (X := (· = pb)) y56 (fun b e => by have e : b = pb := e; show b ≤ w.heap.size; omega), P6, Y5.out.trans y56, hlt⟩
    clear hh hB6 hZ6 x6 y56 P6 e1 e2 ht hc
    go_wp2_with fail
    exact HL.out.ret (fun w2 r0 r1 r2 r3 r4 r5 r6 r7 => by simp [results, Tryz.results139, go_sem, r0, r1, r2, r3, r4, r5, r6, r7]) rfl
  | true =>
    rw [if_pos hc] at hpm
    have hi3 : isT [s_comma, s_shut] l3 = true := by rw [isT_two, hc, Bool.true_or]
    have e1 : getWs [s_comma, s_shut] l3 = .ok (s_comma, l3.tail) := by unfold getWs; rw [if_pos hi3, isT_text hc]
    rw [e1] at hh
    have he4 : Ended l3.tail := (HE3.out.is_ hc).1
    obtain ⟨v6, rfl, ⟨k6, q6, rfl⟩, P6, x6⟩ := hh.ok
    generalize l3.tail = l4 at *
    have y56 : ExtX (· = pb) w5 w6 := (((ExtX.refl w5).alloc _).alloc _).trans x6
    have HB6 := Lib.hid (((Blk.new w5 28 #[.int .u8 x.k, .int .u8 x.op, .int .i64 x.pos, .int .i64 x.n, .string x.name, .string x.arg, .string x.exn, .slice ak nk ck]).alloc (.cells #[.string ⟨#[44]⟩, .string ⟨#[41]⟩] 9)).nez x6 (by omega))
    have HZ6 := Lib.hid (HZ5.out.nez y56 (by omega))
    have HT6 := Lib.hid (HT5.out.nez y56 (by omega))
    have HTk6 := Lib.hid (HTk.out.extx (X := (· = pb)) y56 (fun b e => by have e : b = pb := e; show b ≤ w.heap.size; omega))
    have HP6 := Lib.hid P6
    have Y6 := Lib.hid (Y5.out.trans y56)
    have HE4 := Lib.hid he4
    have HPM6 := Lib.hid hpm
    have hl60 := HZ6.out.lt
    have hl61 := HB6.out.lt
    clear hh x6 y56 P6 e1 hc hi3 he4 hpm
    go_wp2_with fail
    cases e7 : parseF f .expr l4 with
    | none => have := HPM6.out; rw [e7] at this; cases this
    | some r7 =>
    refine (HE.out pb w6 l4 r7 HP6.out HE4.out e7).mono ?_
    intro e w7 hh
    have hpm := HPM6.out
    rw [e7] at hpm
    cases r7 with
    | error l' =>
      cases hpm
      obtain ⟨rfl, x7⟩ := hh.error
      exact ⟨rfl, Y6.out.trans x7, rfl⟩
    | ok p7 =>
    obtain ⟨⟨xb, kb⟩, l5⟩ := p7
    rw [andThen_ok] at hpm
    have he5 : Ended l5 := (parseF_told HE4.out e7).1
    obtain ⟨v, rfl, ⟨ab, nb, cb, rfl, fb, b1', b2', hTb⟩, P7, x7⟩ := hh.ok
    have HB7 := Lib.hid (HB6.out.nez x7 (by omega))
    have HZ7 := Lib.hid (HZ6.out.nez x7 (by omega))
    have HT7 := Lib.hid (HT6.out.nez x7 (by omega))
    have HTk7 := Lib.hid (HTk6.out.extx (X := (· = pb)) x7 (fun b e => by have e : b = pb := e; show b ≤ w.heap.size; omega))
    have HTb7 := Lib.hid (show IsTmsA (fun b => b ≤ w.heap.size) w7 kb ab nb from hTb.off fun b _ hb => (by have hb : b ≤ w.heap.size := hb; omega))
    have HFB := Lib.hid fb
    have HP7 := Lib.hid P7
    have Y7 := Lib.hid (Y6.out.trans x7)
    have HE5 := Lib.hid he5
    have HPM7 := Lib.hid hpm
    have hl70 := HZ7.out.lt
    have hl71 := HB7.out.lt
    clear hh x7 P7 e7 he5 hpm hTb fb
    go_wp2_with fail
    refine (KW.out [s_shut] _ _ _ 1 (by omega) (row_one1 w7 _ _ _) ((HP7.out.alloc _).alloc _) HE5.out).mono ?_
    intro e w8 hh
    have hpm := HPM7.out
    rcases getWs_one s_shut l5 with ⟨l', e1, e2⟩ | ⟨l6, e1, e2, -⟩
    · rw [e1] at hh
      rw [e2] at hpm
      cases hpm
      obtain ⟨rfl, x8⟩ := hh.error
      exact ⟨rfl, ((Y7.out.alloc _).alloc _).trans x8, rfl⟩
    rw [e1] at hh
    rw [e2, andThen_ok] at hpm
    cases hpm
    obtain ⟨v8, rfl, ⟨k8, q8, rfl⟩, P8, x8⟩ := hh.ok
    have y78 : ExtX (· = pb) w7 w8 := (((ExtX.refl w7).alloc _).alloc _).trans x8
    have hB8 := HB7.out.nez y78 (by omega)
    have hC8 := ((Blk.new w7 28 #[.int .u8 xb.k, .int .u8 xb.op, .int .i64 xb.pos, .int .i64 xb.n, .string xb.name, .string xb.arg, .string xb.exn, .slice ab nb cb]).alloc (.cells #[.string ⟨#[41]⟩] 9)).nez x8 (by omega)
    have hZ8 := HZ7.out.nez y78 (by omega)
    have hT8 := HT7.out.nez y78 (by omega)
    obtain ⟨c0, c1, c2, c3, c4, c5, c6, c7⟩ := hB8.eight
    obtain ⟨d0, d1, d2, d3, d4, d5, d6, d7⟩ := hC8.eight
    have t2 := hT8.cell 2
    simp at t2
    have HZ8 := Lib.hid hZ8
    have HP8 := Lib.hid P8
    have Y8 := Lib.hid (Y7.out.trans y78)
    have HTk8 := Lib.hid (HTk7.out.extx (X := (· = pb)) y78 (fun b e => by have e : b = pb := e; show b ≤ w.heap.size; omega))
    have HTb8 := Lib.hid (HTb7.out.extx (X := (· = pb)) y78 (fun b e => by have e : b = pb := e; show b ≤ w.heap.size; omega))
    have hl80 := hZ8.lt
    clear hh hB8 hC8 hZ8 hT8 x8 y78 P8 e1 e2
    go_wp2_with fail
    refine (parse_node _ _ _ _ _ _).mono ?_
    rintro e w9 ⟨rfl, x9⟩
    have hG9 := blk_top x9
    have y9 : Ext w8 w9 := by (exact eX)
    have hZ9 := HZ8.out.ext y9
    obtain ⟨z0, z1, z2, z3, z4, z5, z6, z7⟩ := hZ9.eight
    obtain ⟨g0, g1, g2, g3, g4, g5, g6, g7⟩ := hZ9.frozen8
    have hlZ := hZ9.lt
    have HL : Hid (Laid8 pb w w9 (hd0 3 tk.pos) [.mk x ks, .mk xb kb] (some ⟨w8.heap.size, 0, none⟩) 2 2 l6) := Lib.hid ⟨hZ9, HF3.out, Nat.le_refl _, by omega, pair_row (A := fun b => b ≤ w.heap.size) y9 k1 k2 b1' b2' HFX.out HFB.out HTk8.out HTb8.out (by show ¬ w8.heap.size ≤ w.heap.size; omega) hG9, HP8.out.ext y9, Y8.out.then_ y9, hlt⟩
    clear hG9 hZ9 x9 y9
    go_wp2_with fail
    exact HL.out.ret (fun w2 r0 r1 r2 r3 r4 r5 r6 r7 => by simp [results, Tryz.results139, go_sem, r0, r1, r2, r3, r4, r5, r6, r7]) rfl
theorem parse_unary (f : Nat) (hU : Does 139 .unary f) (hE : Does 31 .expr f) : Does 139 .unary (f + 1) := by
  intro pb w l r h he hp
  cases l with
  | nil => cases he
  | cons tk l2 =>
  cases hi : isT [s_bang, w_ref, w_fst, w_snd] (tk :: l2) with
  | true => exact parse_unary_pre f hU pb tk l2 r w h he hi hp
  | false =>
  cases hi2 : isT [w_raise] (tk :: l2) with
  | true => exact parse_unary_raise f hU pb tk l2 r w h he hi hi2 hp
  | false =>
  by_cases n1 : tk.k = 1
  · obtain ⟨k, s, ps⟩ := tk
    obtain rfl : k = 1 := n1
    exact parse_unary_num f pb s ps l2 r w h he hp
  by_cases n2 : tk.k = 2
  · obtain ⟨k, s, ps⟩ := tk
    obtain rfl : k = 2 := n2
    exact parse_unary_name f pb s ps l2 r w h he hp
  exact parse_unary_open f hE pb tk l2 r w h he hi hi2 n1 n2 hp
def KidA (bt : Nat) (v : Value) : Nat → Prop := fun b => b ≤ bt ∨ v.ownBlock = some b
structure Sub8 (pb b1 bt : Nat) (x : Hd) (ms : List Tm) (a : Option Addr) (c : Nat) (xs : List Value) (w : World) : Prop where
  ptr : Blk w b1 60 #[.pointer (some ⟨pb, 0, none⟩)]
  tm : Blk w bt 28 #[.int .u8 x.k, .int .u8 x.op, .int .i64 x.pos, .int .i64 x.n, .string x.name, .string x.arg, .string x.exn, .slice a ms.length c]
  own : w.ownsRow (bt + 1) 28 8 (.slice a ms.length c) ms.length xs
  flat : FlatA (KidA bt (.slice a ms.length c)) w ms xs
  le : ms.length ≤ c
  cap : c ≤ 9223372036854775807
  o1 : pb < b1
  o2 : b1 < bt
theorem owns_keep {A : Nat → Prop} {w w' : World} (hx : ExtX A w w') {base : Nat} {e : TypeId} {size n : Nat} {v : Value} {xs : List Value} (hA : ∀ k, A k → k < base) (h : w.ownsRow base e size v n xs) : w'.ownsRow base e size v n xs := by
  refine ⟨h.1, h.2.imp id ?_⟩
  rintro ⟨g, cap, cur, rfl, hg, hh, r⟩
  exact ⟨g, cap, cur, rfl, hg, (hx.block g (h.lt g rfl).2 (fun e => by have := hA g e; omega)).trans hh, r⟩
theorem Sub8.extx {pb b1 bt : Nat} {x : Hd} {ms : List Tm} {a : Option Addr} {c : Nat} {xs : List Value} {w w' : World} (h : Sub8 pb b1 bt x ms a c xs w) (hx : ExtX (· = pb) w w') : Sub8 pb b1 bt x ms a c xs w' := by
  have o1 := h.o1
  have o2 := h.o2
  exact ⟨h.ptr.nez hx (by omega), h.tm.nez hx (by omega), owns_keep hx (fun k e => by have e : k = pb := e; omega) h.own, h.flat.move (fun _ _ h => h) (fun p v hp hv => hx.cell (show ¬ p.block = pb from fun e => hp (.inl (by omega))) hv), h.le, h.cap, o1, o2⟩
theorem Sub8.ext {pb b1 bt : Nat} {x : Hd} {ms : List Tm} {a : Option Addr} {c : Nat} {xs : List Value} {w w' : World} (h : Sub8 pb b1 bt x ms a c xs w) (hx : Ext w w') : Sub8 pb b1 bt x ms a c xs w' := h.extx (.of hx)
structure Half8 (pb b1 bt : Nat) (x : Hd) (ms : List Tm) (a : Option Addr) (c : Nat) (y : Hd) (k : List Tm) (ak : Option Addr) (lk ck : Nat) (g c5 : Nat) (xs : List Value) (w : World) : Prop where
  ptr : Blk w b1 60 #[.pointer (some ⟨pb, 0, none⟩)]
  tm : Blk w bt 28 #[.int .u8 x.k, .int .u8 x.op, .int .i64 x.pos, .int .i64 x.n, .string x.name, .string x.arg, .string x.exn, .slice a ms.length c]
  own : w.ownsRow (bt + 1) 28 8 (.slice (some ⟨g, 0, none⟩) (ms.length + 1) c5) (ms.length + 1) (xs ++ zeroT.toList)
  flat : FlatA (fun b => b ≤ bt ∨ g = b) w ms xs
  kid : IsTmsA (fun b => b ≤ bt ∨ g = b) w k ak lk
  fits : y.Fits
  lek : lk ≤ ck
  capk : ck ≤ 9223372036854775807
  le : ms.length + 1 ≤ c5
  cap : c5 ≤ 9223372036854775807
  len : xs.length = ms.length * 8
  up : bt < g
  o1 : pb < b1
  o2 : b1 < bt
theorem Half8.of {pb b1 bt : Nat} {x : Hd} {ms : List Tm} {a : Option Addr} {c : Nat} {xs : List Value} {W1 W2 W3 w5 : World} {y : Hd} {k : List Tm} {ak : Option Addr} {lk ck : Nat} {v' : Value} (hS : Sub8 pb b1 bt x ms a c xs W1) (hx2 : ExtX (· = pb) W1 W2) (hx3 : Ext W2 W3)
    (hk : IsTmsA (fun b => b < W1.heap.size) W2 k ak lk) (h1 : lk ≤ ck) (h2 : ck ≤ 9223372036854775807) (hf : y.Fits)
    (ho : w5.ownsRow (bt + 1) 28 8 v' (ms.length + 1) (xs ++ zeroT.toList)) (hg : W3.grownBy w5 (Value.slice a ms.length c).ownBlock)
    (hw : v'.ownBlock = (Value.slice a ms.length c).ownBlock ∨ ∀ k, v'.ownBlock = some k → W3.heap.size ≤ k) :
    ∃ g5 c5, v' = .slice (some ⟨g5, 0, none⟩) (ms.length + 1) c5 ∧ Half8 pb b1 bt x ms a c y k ak lk ck g5 c5 xs w5 := by
  have o1 := hS.o1
  have o2 := hS.o2
  obtain ⟨g5, c5, rfl, hg5, hl5, hn5, hm5, hcells⟩ := owns_open ho (by omega)
  have hx13 : ExtX (· = pb) W1 W3 := hx2.then_ hx3
  have hrow : ∀ k, (Value.slice a ms.length c).ownBlock = some k → bt + 1 ≤ k ∧ k < W1.heap.size := fun k hk => hS.own.lt k hk
  have hB3 := hS.tm.nez hx13 (by omega)
  have hP3 := hS.ptr.nez hx13 (by omega)
  have hwhere : (Value.slice a ms.length c).ownBlock = some g5 ∨ W3.heap.size ≤ g5 := by
    rcases hw with hw | hw
    · exact .inl hw.symm
    · exact .inr (hw g5 rfl)
  have hkeep : ∀ (p : Addr) (u : Value), (Value.slice a ms.length c).ownBlock ≠ some p.block → W3.cell? p = some u → w5.cell? p = some u := fun p u hr hu => hg.cell hu (fun e => hr e.symm)
  refine ⟨g5, c5, rfl, (hg.block b1 hP3.lt (fun e => by have := hrow _ e.symm; omega)).trans hP3, (hg.block bt hB3.lt (fun e => by have := hrow _ e.symm; omega)).trans hB3, ho, ?_, ?_, hf, h1, h2, hn5, hm5, hS.flat.length, by omega, o1, o2⟩
  · refine hS.flat.move ?_ ?_
    · rintro b hb (hb' | hb')
      · exact .inl hb'
      · rcases hwhere with hr | hr
        · exact .inr (by rw [hr, hb'])
        · have := hx13.size; omega
    · intro p u hA hu
      have hA : ¬ (p.block ≤ bt ∨ (Value.slice a ms.length c).ownBlock = some p.block) := hA
      exact hkeep p u (fun e => hA (.inr e)) (hx13.cell (show ¬ p.block = pb from fun e => hA (.inl (by omega))) hu)
  · refine hk.move ?_ ?_
    · rintro b hb (hb' | hb')
      · have := hS.tm.lt; omega
      · rcases hwhere with hr | hr
        · have := hrow g5 hr; omega
        · have := hx3.size; omega
    · intro p u hA hu
      have hA : ¬ p.block < W1.heap.size := hA
      exact hkeep p u (fun e => hA (hrow _ e).2) (hx3.cell hu)
theorem set_end (xs : List Value) (n : Nat) (hn : xs.length = n * 8) (u0 u1 u2 u3 u4 u5 u6 u7 : Value) :
    ((((((((xs ++ zeroT.toList).set (n * 8) u0).set (n * 8 + 1) u1).set (n * 8 + 2) u2).set (n * 8 + 3) u3).set (n * 8 + 4) u4).set (n * 8 + 5) u5).set (n * 8 + 6) u6).set (n * 8 + 7) u7 = xs ++ [u0, u1, u2, u3, u4, u5, u6, u7] := by
  rw [← hn]
  simp [List.set_append, zeroT]
theorem Sub8.hang {pb b1 bt : Nat} {x : Hd} {ms : List Tm} {t : Tm} {a0 : Option Addr} {n0 c0 g c5 : Nat} {ys : List Value} {W : World} (hp : Blk W b1 60 #[.pointer (some ⟨pb, 0, none⟩)])
    (ht : Blk W bt 28 #[.int .u8 x.k, .int .u8 x.op, .int .i64 x.pos, .int .i64 x.n, .string x.name, .string x.arg, .string x.exn, .slice a0 n0 c0])
    (hO : W.ownsRow (bt + 1) 28 8 (.slice (some ⟨g, 0, none⟩) (ms.length + 1) c5) (ms.length + 1) ys) (hF : FlatA (fun b => b ≤ bt ∨ g = b) W (ms ++ [t]) ys)
    (le : ms.length + 1 ≤ c5) (cap : c5 ≤ 9223372036854775807) (up : bt < g) (o1 : pb < b1) (o2 : b1 < bt) :
    Sub8 pb b1 bt x (ms ++ [t]) (some ⟨g, 0, none⟩) c5 ys (W.setCell ⟨bt, 7, none⟩ (.slice (some ⟨g, 0, none⟩) (ms.length + 1) c5)) := by
  have hlen : (ms ++ [t]).length = ms.length + 1 := by simp
  refine ⟨hp.far (p := ⟨bt, 7, none⟩) (by show b1 ≠ bt; omega) _, ?_, ?_, ?_, by rw [hlen]; exact le, cap, o1, o2⟩
  · rw [hlen]
    have := ht.set_ 7 (.slice (some ⟨g, 0, none⟩) (ms.length + 1) c5)
    simpa using this
  · rw [hlen]
    exact hO.kept ⟨rfl, rfl, rfl, by simp [World.setCell], fun k _ hk => Below.heap_setCell _ _ _ _ (fun e => hk (by simp at e; rw [e]))⟩ (.inr (by
      show some g ≠ some bt
      intro e
      have := Option.some.inj e
      omega))
  · rw [hlen]
    refine hF.move ?_ fun p v hp hv => (World.cell?_setCell_other _ _ p _ (fun e => hp (.inl (by subst e; exact Nat.le_refl _)))).trans hv
    rintro b _ (hb | hb)
    · exact .inl hb
    · exact .inr (Option.some.inj hb)
theorem Half8.lay {pb b1 bt : Nat} {x : Hd} {ms : List Tm} {a : Option Addr} {c : Nat} {xs : List Value} {w : World} {y : Hd} {k : List Tm} {ak : Option Addr} {lk ck g c5 : Nat} (h : Half8 pb b1 bt x ms a c y k ak lk ck g c5 xs w) :
    Sub8 pb b1 bt x (ms ++ [.mk y k]) (some ⟨g, 0, none⟩) c5 (xs ++ (tcells y ak lk ck).toList) (((((((((w.setCell ⟨g, ms.length * 8, none⟩ (.int .u8 y.k)).setCell ⟨g, ms.length * 8 + 1, none⟩ (.int .u8 y.op)).setCell ⟨g, ms.length * 8 + 2, none⟩ (.int .i64 y.pos)).setCell ⟨g, ms.length * 8 + 3, none⟩ (.int .i64 y.n)).setCell ⟨g, ms.length * 8 + 4, none⟩ (.string y.name)).setCell ⟨g, ms.length * 8 + 5, none⟩ (.string y.arg)).setCell ⟨g, ms.length * 8 + 6, none⟩ (.string y.exn)).setCell ⟨g, ms.length * 8 + 7, none⟩ (.slice ak lk ck)).setCell ⟨bt, 7, none⟩ (.slice (some ⟨g, 0, none⟩) (ms.length + 1) c5)) := by
  have o1 := h.o1
  have o2 := h.o2
  have up := h.up
  have hlen : (ms ++ [Tm.mk y k]).length = ms.length + 1 := by simp
  have hO := ((((((((h.own.stored (ms.length * 8) (.int .u8 y.k)).1.stored (ms.length * 8 + 1) (.int .u8 y.op)).1.stored (ms.length * 8 + 2) (.int .i64 y.pos)).1.stored (ms.length * 8 + 3) (.int .i64 y.n)).1.stored (ms.length * 8 + 4) (.string y.name)).1.stored (ms.length * 8 + 5) (.string y.arg)).1.stored (ms.length * 8 + 6) (.string y.exn)).1.stored (ms.length * 8 + 7) (.slice ak lk ck)).1
  rw [set_end xs ms.length h.len] at hO
  have far : ∀ {b : Nat} {t : TypeId} {cs : Array Value} {W : World} {i : Nat} {u : Value}, b ≠ g → Blk W b t cs → Blk (W.setCell ⟨g, i, none⟩ u) b t cs := fun hb hB => hB.far (p := ⟨g, _, none⟩) hb _
  have keep : ∀ {W : World} {i : Nat} {u : Value} {l : List Tm} {xs : List Value}, FlatA (fun b => b ≤ bt ∨ g = b) W l xs → FlatA (fun b => b ≤ bt ∨ g = b) (W.setCell ⟨g, i, none⟩ u) l xs := fun hF => hF.move (fun _ _ h => h) fun q _ hq hv => (World.cell?_setCell_other _ _ q _ (fun e => hq (.inr (by subst e; rfl)))).trans hv
  have keepT : ∀ {W : World} {i : Nat} {u : Value} {l : List Tm} {a : Option Addr} {n : Nat}, IsTmsA (fun b => b ≤ bt ∨ g = b) W l a n → IsTmsA (fun b => b ≤ bt ∨ g = b) (W.setCell ⟨g, i, none⟩ u) l a n := fun hF => hF.setCell (p := ⟨g, _, none⟩) (.inr rfl) _
  have hne : b1 ≠ g := by omega
  have hne2 : bt ≠ g := by omega
  have hT := far (i := ms.length * 8 + 7) (u := .slice ak lk ck) hne2 (far (i := ms.length * 8 + 6) (u := .string y.exn) hne2 (far (i := ms.length * 8 + 5) (u := .string y.arg) hne2 (far (i := ms.length * 8 + 4) (u := .string y.name) hne2 (far (i := ms.length * 8 + 3) (u := .int .i64 y.n) hne2 (far (i := ms.length * 8 + 2) (u := .int .i64 y.pos) hne2 (far (i := ms.length * 8 + 1) (u := .int .u8 y.op) hne2 (far (i := ms.length * 8) (u := .int .u8 y.k) hne2 h.tm)))))))
  have hP := far (i := ms.length * 8 + 7) (u := .slice ak lk ck) hne (far (i := ms.length * 8 + 6) (u := .string y.exn) hne (far (i := ms.length * 8 + 5) (u := .string y.arg) hne (far (i := ms.length * 8 + 4) (u := .string y.name) hne (far (i := ms.length * 8 + 3) (u := .int .i64 y.n) hne (far (i := ms.length * 8 + 2) (u := .int .i64 y.pos) hne (far (i := ms.length * 8 + 1) (u := .int .u8 y.op) hne (far (i := ms.length * 8) (u := .int .u8 y.k) hne h.ptr)))))))
  have hF8 := keep (i := ms.length * 8 + 7) (u := .slice ak lk ck) (keep (i := ms.length * 8 + 6) (u := .string y.exn) (keep (i := ms.length * 8 + 5) (u := .string y.arg) (keep (i := ms.length * 8 + 4) (u := .string y.name) (keep (i := ms.length * 8 + 3) (u := .int .i64 y.n) (keep (i := ms.length * 8 + 2) (u := .int .i64 y.pos) (keep (i := ms.length * 8 + 1) (u := .int .u8 y.op) (keep (i := ms.length * 8) (u := .int .u8 y.k) h.flat)))))))
  have hK8 := keepT (i := ms.length * 8 + 7) (u := .slice ak lk ck) (keepT (i := ms.length * 8 + 6) (u := .string y.exn) (keepT (i := ms.length * 8 + 5) (u := .string y.arg) (keepT (i := ms.length * 8 + 4) (u := .string y.name) (keepT (i := ms.length * 8 + 3) (u := .int .i64 y.n) (keepT (i := ms.length * 8 + 2) (u := .int .i64 y.pos) (keepT (i := ms.length * 8 + 1) (u := .int .u8 y.op) (keepT (i := ms.length * 8) (u := .int .u8 y.k) h.kid)))))))
  exact Sub8.hang hP hT hO (FlatA.append hF8 ⟨ak, lk, ck, [], by simp [Tm.head, tcells], h.fits, h.lek, h.capk, hK8, rfl⟩) h.le h.cap up o1 o2
theorem set_comm {w : World} {p q : Addr} {u v : Value} (h : p.block ≠ q.block) : (w.setCell p u).setCell q v = (w.setCell q v).setCell p u := by
  unfold World.setCell
  congr 1
  refine Array.ext_getElem? fun i => ?_
  simp only [Array.getElem?_modify]
  by_cases h1 : p.block = i
  · by_cases h2 : q.block = i
    · exact (h (h1.trans h2.symm)).elim
    · simp [h1, h2]
  · by_cases h2 : q.block = i
    · simp [h1, h2]
    · simp [h1, h2]
theorem Half8.lay2 {pb b1 bt : Nat} {x : Hd} {ms : List Tm} {a : Option Addr} {c : Nat} {xs : List Value} {w : World} {y : Hd} {k : List Tm} {ak : Option Addr} {lk ck g c5 : Nat} (h : Half8 pb b1 bt x ms a c y k ak lk ck g c5 xs w) :
    Sub8 pb b1 bt x (ms ++ [.mk y k]) (some ⟨g, 0, none⟩) c5 (xs ++ (tcells y ak lk ck).toList) (((((((((w.setCell ⟨bt, 7, none⟩ (.slice (some ⟨g, 0, none⟩) (ms.length + 1) c5)).setCell ⟨g, ms.length * 8, none⟩ (.int .u8 y.k)).setCell ⟨g, ms.length * 8 + 1, none⟩ (.int .u8 y.op)).setCell ⟨g, ms.length * 8 + 2, none⟩ (.int .i64 y.pos)).setCell ⟨g, ms.length * 8 + 3, none⟩ (.int .i64 y.n)).setCell ⟨g, ms.length * 8 + 4, none⟩ (.string y.name)).setCell ⟨g, ms.length * 8 + 5, none⟩ (.string y.arg)).setCell ⟨g, ms.length * 8 + 6, none⟩ (.string y.exn)).setCell ⟨g, ms.length * 8 + 7, none⟩ (.slice ak lk ck)) := by
  have H := h.lay
  have up := h.up
  have hne : g ≠ bt := by omega
  rw [set_comm (p := ⟨g, ms.length * 8 + 7, none⟩) (q := ⟨bt, 7, none⟩) hne, set_comm (p := ⟨g, ms.length * 8 + 6, none⟩) (q := ⟨bt, 7, none⟩) hne, set_comm (p := ⟨g, ms.length * 8 + 5, none⟩) (q := ⟨bt, 7, none⟩) hne, set_comm (p := ⟨g, ms.length * 8 + 4, none⟩) (q := ⟨bt, 7, none⟩) hne, set_comm (p := ⟨g, ms.length * 8 + 3, none⟩) (q := ⟨bt, 7, none⟩) hne, set_comm (p := ⟨g, ms.length * 8 + 2, none⟩) (q := ⟨bt, 7, none⟩) hne, set_comm (p := ⟨g, ms.length * 8 + 1, none⟩) (q := ⟨bt, 7, none⟩) hne, set_comm (p := ⟨g, ms.length * 8, none⟩) (q := ⟨bt, 7, none⟩) hne] at H
  exact H
theorem ExtX.grow_ {A : Nat → Prop} {a w w' : World} {row : Option Nat} (h : ExtX A a w) (g : w.grownBy w' row) (hA : ∀ k, row = some k → A k) : ExtX A a w' :=
  ⟨g.os.trans h.os, g.tape.trans h.tape, g.output.trans h.output, Nat.le_trans h.size g.size, fun k hk ha => (g.block k (Nat.lt_of_lt_of_le hk h.size) (fun e => ha (hA k e.symm))).trans (h.block k hk ha)⟩
theorem infoTmP : (Tryz.prog.info? 28).map (fun i => (i.zero, i.size, i.bytes)) = some (some (.agg #[.int .u8 0, .int .u8 0, .int .i64 0, .int .i64 0, .string ⟨#[]⟩, .string ⟨#[]⟩, .string ⟨#[]⟩, .slice none 0 0]), 8, 96) := by kernel_rfl
theorem zeroT_one : ∀ u ∈ zeroT.toList, u.oneCell' = true := by
  intro u hu
  simp [zeroT] at hu
  rcases hu with rfl | rfl | rfl | rfl | rfl <;> rfl
theorem zero_at {w : World} {g : Nat} {t : TypeId} (h : Blk w g t zeroT) : ∀ j u, zeroT.toList[j]? = some u → w.cell? ((⟨g, 0, none⟩ : Addr).add j) = some u := fun j u hu => by
  rw [Addr.add_lit, Nat.zero_add]
  rw [Array.getElem?_toList] at hu
  exact (h.cell j).trans hu
theorem Half8.cells {pb b1 bt : Nat} {x : Hd} {ms : List Tm} {a : Option Addr} {c : Nat} {xs : List Value} {w : World} {y : Hd} {k : List Tm} {ak : Option Addr} {lk ck g c5 : Nat} (h : Half8 pb b1 bt x ms a c y k ak lk ck g c5 xs w) :
    w.cell? ⟨g, ms.length * 8, none⟩ = some (.int .u8 0) ∧ w.cell? ⟨g, ms.length * 8 + 1, none⟩ = some (.int .u8 0) ∧ w.cell? ⟨g, ms.length * 8 + 2, none⟩ = some (.int .i64 0) ∧ w.cell? ⟨g, ms.length * 8 + 3, none⟩ = some (.int .i64 0) ∧ w.cell? ⟨g, ms.length * 8 + 4, none⟩ = some (.string ⟨#[]⟩) ∧ w.cell? ⟨g, ms.length * 8 + 5, none⟩ = some (.string ⟨#[]⟩) ∧ w.cell? ⟨g, ms.length * 8 + 6, none⟩ = some (.string ⟨#[]⟩) ∧ w.cell? ⟨g, ms.length * 8 + 7, none⟩ = some (.slice none 0 0) := by
  have key : ∀ i, i < 8 → w.cell? ⟨g, ms.length * 8 + i, none⟩ = zeroT.toList[i]? := fun i hi => by
    rw [h.own.cellAt (ms.length * 8 + i) (by omega), List.getElem?_append_right (by rw [h.len]; omega), h.len]
    congr 1
    omega
  exact ⟨key 0 (by omega), key 1 (by omega), key 2 (by omega), key 3 (by omega), key 4 (by omega), key 5 (by omega), key 6 (by omega), key 7 (by omega)⟩
theorem Prs.grown_ {w w' : World} {pb : Nat} {l : List Tk} {row : Option Nat} (h : Prs w pb l) (g : w.grownBy w' row) (hA : ∀ k, row = some k → pb < k) : Prs w' pb l := by
  obtain ⟨b, o, n, c, i, L, hB, h1, h2, hT, hne, hl, hi⟩ := h
  have hx : ExtX (fun k => row = some k) w w' := (ExtX.refl w).grow_ g (fun k hk => hk)
  exact ⟨b, o, n, c, i, L, hB.extx hx (fun e => by have := hA _ e; omega), h1, h2, hT.extx hx (fun e => by have := hA _ e; omega), hne, hl, hi⟩
end Go.Proofs.YtaioeailgknfjaaGreatDoor
