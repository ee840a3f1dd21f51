/- Part 48 of the proof: Ref05l, Ref05m; no condition of ours. -/
import Derived.Test.YtaioeailgknfjaaGreatDoorPkp47
set_option linter.unusedVariables false
set_option linter.unusedSimpArgs false
namespace Go.Proofs.YtaioeailgknfjaaGreatDoor
open Go.Lib (hid)
open Go Go.RowKit Go.Sort
theorem XS5.grown {a : Option Addr} {n c : Nat} {w : World} {g7 i : Nat} {bad : Bool} {x : Hd} {W W' : World} (h : XS5 a n c w g7 i bad x W) {row : Option Nat} (hg : W.grownBy W' row) (hr : ∀ k, row = some k → g7 < k) : XS5 a n c w g7 i bad x W' := by
  have hl := h.lt7
  have key : ∀ b, b < W.heap.size → b ≤ g7 → W'.heap[b]? = W.heap[b]? := fun b hb hb7 => hg.block b hb (fun e => by have := hr _ e.symm; omega)
  exact ⟨(key _ (Blk.lt h.s) (by omega)).trans h.s, (key _ h.z1.lt (by omega)).trans h.z1, (key _ h.z2.lt (by omega)).trans h.z2, (key _ h.t.lt (by omega)).trans h.t, h.lt7, ext_grown hg h.x (fun k hk => by have := hr k hk; omega)⟩
theorem FlatA.grown5 {A A' : Nat → Prop} {w w' : World} {row : Option Nat} {l : List Tm} {xs : List Value} (h : FlatA A w l xs) (hg : w.grownBy w' row) (hr : ∀ k, row = some k → A k) (hA : ∀ b, b < w.heap.size → A' b → A b) : FlatA A' w' l xs :=
  h.move hA fun p u hq hu => hg.cell hu (fun e => hq (hr _ e.symm))
set_option maxRecDepth 60000 in
set_option maxHeartbeats 8000000 in
theorem ref5_try (f : Nat) (hE : DoesS 44 #[] .expr f) (L : List Tk) (a : Option Addr) (n c i : Nat) (l : List Tk) (r : Res Tm) (w : World) (hL : IsL w L a n c) (hA : AtS L n i l) (he : Ended l) (hi : isT [w_try] l = true) (hp : parseF (f + 1) .expr l = some r) : Calls Tryz.prog 44 #[.agg #[.slice a n c, .int .i64 (i : Nat), .bool false]] w (RetE L a n c w r) := by
  obtain ⟨tk, l', b, o, rfl, rfl, htf, q0, q1, q2, hnx⟩ := hA.tok hL
  have hlb := World.block_lt_of_cell? _ _ q0
  have hz : (i : Int) < (n : Int) := by have := hA.2; omega
  have mm2 := fun (A B C : Obj) => ((((Ext.refl w).alloc A).alloc B).alloc C).cell q2
  have HL := hid hL
  have HE := hid hE
  have HTF := hid htf
  have htx : txS (tk :: l') = w_try := by
    have h1 := txS_is (xs := [w_try]) (by decide +kernel) (tk :: l')
    rw [hi] at h1
    have h2 := (inB_iff _ _).1 h1
    simpa using h2
  have KX := hid fun W (h : Ext w W) => ref5_text L (some ⟨b, o, none⟩) n c i false (tk :: l') W (hL.ext h) hA
  rw [htx] at KX
  have hs0 : StS L n i false (.ok ((), tk :: l') : Res Unit) := ⟨rfl, hA, he⟩
  have KW := hid fun W (h : Ext w W) => ref5_wantS L (some ⟨b, o, none⟩) n c i false (.ok ((), tk :: l') : Res Unit) w_try (by decide +kernel) W (hL.ext h) hs0
  have ew : thenR (.ok ((), tk :: l') : Res Unit) (getW w_try) = .ok ((), l') := getW_is hi
  rw [ew] at KW
  obtain ⟨r1, r2, hp1, hp', her', her2, hok2⟩ := expr_try hi hp
  have HP1 := hid hp1
  have HP' := hid hp'
  have HER' := hid her'
  have HER2 := hid her2
  have HOK2 := hid hok2
  have hw_let : (w_try.toList == ([108, 101, 116] : List UInt8)) = false := by decide +kernel
  have hw_letrec : (w_try.toList == ([108, 101, 116, 114, 101, 99] : List UInt8)) = false := by decide +kernel
  have hw_fn : (w_try.toList == ([102, 110] : List UInt8)) = false := by decide +kernel
  have hw_if : (w_try.toList == ([105, 102] : List UInt8)) = false := by decide +kernel
  have hw_try : (w_try.toList == ([116, 114, 121] : List UInt8)) = true := by decide +kernel
  clear hL hA he hp hE hnx htf htx hi hs0 ew hp1 hp' her' her2 hok2 q0 q1
  go_enter Tryz.func44, Tryz.ntmps44
  go_upto_region 30 with (go_at_call 41; refine (KX.out _ (by (exact eX))).mono ?_; rintro e w1 ⟨rfl, x1⟩)
  obtain ⟨hS1, hZ1, hZ2⟩ := blk3 x1
  have hg7 : w.heap.size + 1 + 1 < w1.heap.size := hZ2.lt
  have HX0 : Hid (XS5 (some ⟨b, o, none⟩) n c w (w1.heap.size + 1) i false ⟨0, 0, 0, 0, ⟨#[]⟩, ⟨#[]⟩, ⟨#[]⟩⟩ ((w1.alloc (.cells #[] 28)).alloc (.cells zeroT 28))) := hid ⟨(Blk.alloc hS1 _).alloc _, (Blk.alloc hZ1 _).alloc _, (Blk.alloc hZ2 _).alloc _, (by have h := Blk.new (w1.alloc (.cells #[] 28)) 28 zeroT; rw [World.size_alloc] at h; exact h), by omega, by (exact eX)⟩
  unfold zeroT at HX0
  generalize ((w1.alloc (.cells #[] 28)).alloc (.cells #[.int .u8 0, .int .u8 0, .int .i64 0, .int .i64 0, .string ⟨#[]⟩, .string ⟨#[]⟩, .string ⟨#[]⟩, .slice none 0 0] 28)) = W0 at *
  generalize w1.heap.size = b6 at *
  clear hS1 hZ1 hZ2 x1 w1 KX hw_let hw_letrec hw_fn hw_if hw_try
  obtain ⟨p0, p1, p2, f0, f1, f2, l0⟩ := SBlk.open_ HX0.out.s
  go_upto_region 31 with (go_at_call 43; refine (KW.out _ HX0.out.x).mono ?_; rintro e w2 ⟨x2, i1, bad1, rfl, hs1⟩; obtain ⟨m0, m1, m2, k0, k1, k2, ll0⟩ := SBlk.open_ (SBlk.ext HX0.out.s x2))
  have HX1 := hid (HX0.out.call x2 i1 bad1)
  unfold w3s at HX1
  clear p0 p1 p2 f0 f1 f2 l0 m0 m1 m2 k0 k1 k2 ll0 x2
  generalize ((w2.setCell ⟨w.heap.size, 0, none⟩ (.slice (some ⟨b, o, none⟩) n c)).setCell ⟨w.heap.size, 1, none⟩ (.int .i64 (i1 : Nat))).setCell ⟨w.heap.size, 2, none⟩ (.bool bad1) = W1 at *
  have HS1 := hid hs1
  clear hs1 HX0 w2 W0 KW
  have ne7 : b6 + 1 ≠ w.heap.size := by have := HX1.out.lt7; omega
  have HB0 := hid (show b6 + 1 < W1.heap.size from HX1.out.t.lt)
  have HB7 := hid HX1.out.lt7
  have hrow := IsRow.new W1 9 (vstr [ByteArray.empty])
  have ea : (vstr [ByteArray.empty]).toArray = #[.string ⟨#[]⟩] := rfl
  rw [ea] at hrow
  have KP := hid (ref5_parts HE.out [ByteArray.empty] (by decide) L (some ⟨b, o, none⟩) n c i1 bad1 (.ok ((), l') : Res Unit) r1 _ _ hrow (HL.out.ext (HX1.out.x.alloc _)) HS1.out (fun u l e => by cases e; exact HP1.out) (fun l e => by cases e))
  clear hrow ea
  simp only [List.length_cons, List.length_nil, Nat.zero_add, Nat.reduceAdd] at KP
  obtain ⟨p0, p1, p2, f0, f1, f2, l0⟩ := SBlk.open_ HX1.out.s
  go_upto_region 32 with (go_at_call 71; refine (KP.out).mono ?_; rintro e w2 ⟨x2, i2, bad2, v, xs1, rfl, hs3, ho3, h13, hf3⟩; obtain ⟨ak1, ck1, rfl⟩ := owns_slice5 ho3; obtain ⟨m0, m1, m2, k0, k1, k2, ll0⟩ := SBlk.open_ (SBlk.ext HX1.out.s ((Ext.refl _).alloc _ |>.trans x2)))
  have HX2 := hid ((HX1.out.call ((Ext.refl _).alloc _ |>.trans x2) i2 bad2))
  have ho3b : W1.heap.size + 1 = (W1.alloc (.cells #[.string ⟨#[]⟩] 9)).heap.size := by simp
  rw [← ho3b] at ho3 hf3
  have X3 : ExtX (· = w.heap.size) w2 (w3s w2 w.heap.size (some ⟨b, o, none⟩) n c i2 bad2) := w3s_x
  have HO1 := hid (owns_keep X3 (fun k (e : k = w.heap.size) => by have := HB0.out; have := HB7.out; omega) ho3)
  have HF1 : Hid (∀ ts l, r1 = .ok (ts, l) → FlatA (fun q => q < W1.heap.size + 1 ∨ (Value.slice ak1 1 ck1).ownBlock = some q) (w3s w2 w.heap.size (some ⟨b, o, none⟩) n c i2 bad2) ts xs1) := hid fun ts l e => (hf3 ts l e).extx X3 (fun q (e : q = w.heap.size) => by left; have := HB0.out; have := HB7.out; omega)
  unfold w3s at HX2 HO1 HF1
  have H11 := hid h13
  clear p0 p1 p2 f0 f1 f2 l0 m0 m1 m2 k0 k1 k2 ll0 x2 X3
  generalize ((w2.setCell ⟨w.heap.size, 0, none⟩ (.slice (some ⟨b, o, none⟩) n c)).setCell ⟨w.heap.size, 1, none⟩ (.int .i64 (i2 : Nat))).setCell ⟨w.heap.size, 2, none⟩ (.bool bad2) = W2 at *
  have HS2 := hid hs3
  have HB0' : Hid (b6 + 1 < W1.heap.size + 1) := hid (by have := HB0.out; omega)
  clear hs3 ho3 hf3 h13 KP HS1 HX1 ho3b w2 HB0
  generalize W1.heap.size = n1 at *
  generalize n1 + 1 = base at *
  obtain ⟨g1, cap1, ev1, hg1, hlt1, -, -, -⟩ := owns_open HO1.out (by omega)
  have HB1 : Hid (b6 + 1 < base ∧ base ≤ W2.heap.size) := hid ⟨HB0'.out, by omega⟩
  clear ev1 hg1 hlt1 HB0'
  clear W1
  have KW2 := hid (ref5_wantS L (some ⟨b, o, none⟩) n c i2 bad2 r1 w_with (by decide +kernel) W2 (HL.out.ext HX2.out.x) HS2.out)
  obtain ⟨p0, p1, p2, f0, f1, f2, l0⟩ := SBlk.open_ HX2.out.s
  go_upto_region 33 with (go_at_call 43; refine (KW2.out).mono ?_; rintro e w2 ⟨x2, i3, bad3, rfl, hs1⟩; obtain ⟨m0, m1, m2, k0, k1, k2, ll0⟩ := SBlk.open_ (SBlk.ext HX2.out.s x2))
  have HX3 := hid (HX2.out.call x2 i3 bad3)
  have XX : ExtX (fun q => q = w.heap.size ∨ q = b6 + 1) W2 (w3s w2 w.heap.size (some ⟨b, o, none⟩) n c i3 bad3) := (ExtX.of x2).trans (w3s_x.mono fun _ e => .inl e)
  unfold w3s at HX3 XX
  clear p0 p1 p2 f0 f1 f2 l0 m0 m1 m2 k0 k1 k2 ll0 x2
  generalize ((w2.setCell ⟨w.heap.size, 0, none⟩ (.slice (some ⟨b, o, none⟩) n c)).setCell ⟨w.heap.size, 1, none⟩ (.int .i64 (i3 : Nat))).setCell ⟨w.heap.size, 2, none⟩ (.bool bad3) = W3 at *
  have HS3 := hid hs1
  have HXX3 := hid XX
  clear hs1 HX2 HS2 w2 KW2 XX
  have KG := hid (ref5_getS L (some ⟨b, o, none⟩) n c i3 bad3 (thenR r1 (getW w_with)) 3 (by omega) W3 (HL.out.ext HX3.out.x) HS3.out)
  obtain ⟨p0, p1, p2, f0, f1, f2, l0⟩ := SBlk.open_ HX3.out.s
  have hl7 := HX3.out.lt7
  go_upto_region 34 with (go_at_call 42; refine (KG.out).mono ?_; rintro e w2 ⟨x2, i4, bad4, tx1, rfl, hs2, ht1⟩; obtain ⟨m0, m1, m2, k0, k1, k2, ll0⟩ := SBlk.open_ (SBlk.ext HX3.out.s x2); obtain ⟨z0, z1, z2, z3, z4, z5, z6, z7⟩ := (HX3.out.t.ext x2).eight; obtain ⟨g0, g1, g2, g3, g4, g5, g6, g7⟩ := (HX3.out.t.ext x2).frozen8; have lz := (HX3.out.t.ext x2).lt)
  have HX4 := hid ((HX3.out.call x2 i4 bad4).exn tx1)
  have XX : ExtX (fun q => q = w.heap.size ∨ q = b6 + 1) W2 ((w3s w2 w.heap.size (some ⟨b, o, none⟩) n c i4 bad4).setCell ⟨b6 + 1, 6, none⟩ (.string tx1)) := ((HXX3.out.then_ x2).trans (w3s_x.mono fun _ e => .inl e)).setCell (p := ⟨b6 + 1, 6, none⟩) (.inl (.inr rfl)) _
  unfold w3s at HX4 XX
  have HM3 : Hid (tx1.size ≤ 9223372036854775807 ∨ ∀ x l1, thenR (thenR r1 (getW w_with)) (getK 3) ≠ .ok (x, l1)) := hid (by
    cases e : thenR (thenR r1 (getW w_with)) (getK 3) with
    | error l1 => exact .inr (fun x l1 e => by cases e)
    | ok p =>
      obtain ⟨x, l1⟩ := p
      obtain rfl := ht1 x l1 e
      exact .inl (getS_fits HL.out HS3.out e))
  clear hl7 p0 p1 p2 f0 f1 f2 l0 m0 m1 m2 k0 k1 k2 ll0 x2 z0 z1 z2 z3 z4 z5 z6 z7 g0 g1 g2 g3 g4 g5 g6 g7 lz
  generalize (((w2.setCell ⟨w.heap.size, 0, none⟩ (.slice (some ⟨b, o, none⟩) n c)).setCell ⟨w.heap.size, 1, none⟩ (.int .i64 (i4 : Nat))).setCell ⟨w.heap.size, 2, none⟩ (.bool bad4)).setCell ⟨b6 + 1, 6, none⟩ (.string tx1) = W4 at *
  have HS4 := hid hs2
  have HT3 := hid ht1
  have HXX4 := hid XX
  clear hs2 ht1 HX3 HS3 HXX3 w2 W3 KG XX
  have KG := hid (ref5_getS L (some ⟨b, o, none⟩) n c i4 bad4 (thenR (thenR r1 (getW w_with)) (getK 3)) 2 (by omega) W4 (HL.out.ext HX4.out.x) HS4.out)
  obtain ⟨p0, p1, p2, f0, f1, f2, l0⟩ := SBlk.open_ HX4.out.s
  have hl7 := HX4.out.lt7
  go_upto_region 35 with (go_at_call 42; refine (KG.out).mono ?_; rintro e w2 ⟨x2, i5, bad5, tx2, rfl, hs2, ht1⟩; obtain ⟨m0, m1, m2, k0, k1, k2, ll0⟩ := SBlk.open_ (SBlk.ext HX4.out.s x2); obtain ⟨z0, z1, z2, z3, z4, z5, z6, z7⟩ := (HX4.out.t.ext x2).eight; obtain ⟨g0, g1, g2, g3, g4, g5, g6, g7⟩ := (HX4.out.t.ext x2).frozen8; have lz := (HX4.out.t.ext x2).lt)
  have HX5 := hid ((HX4.out.call x2 i5 bad5).arg tx2)
  have XX : ExtX (fun q => q = w.heap.size ∨ q = b6 + 1) W2 ((w3s w2 w.heap.size (some ⟨b, o, none⟩) n c i5 bad5).setCell ⟨b6 + 1, 5, none⟩ (.string tx2)) := ((HXX4.out.then_ x2).trans (w3s_x.mono fun _ e => .inl e)).setCell (p := ⟨b6 + 1, 5, none⟩) (.inl (.inr rfl)) _
  unfold w3s at HX5 XX
  have HM4 : Hid (tx2.size ≤ 9223372036854775807 ∨ ∀ x l1, thenR (thenR (thenR r1 (getW w_with)) (getK 3)) (getK 2) ≠ .ok (x, l1)) := hid (by
    cases e : thenR (thenR (thenR r1 (getW w_with)) (getK 3)) (getK 2) with
    | error l1 => exact .inr (fun x l1 e => by cases e)
    | ok p =>
      obtain ⟨x, l1⟩ := p
      obtain rfl := ht1 x l1 e
      exact .inl (getS_fits HL.out HS4.out e))
  clear hl7 p0 p1 p2 f0 f1 f2 l0 m0 m1 m2 k0 k1 k2 ll0 x2 z0 z1 z2 z3 z4 z5 z6 z7 g0 g1 g2 g3 g4 g5 g6 g7 lz
  generalize (((w2.setCell ⟨w.heap.size, 0, none⟩ (.slice (some ⟨b, o, none⟩) n c)).setCell ⟨w.heap.size, 1, none⟩ (.int .i64 (i5 : Nat))).setCell ⟨w.heap.size, 2, none⟩ (.bool bad5)).setCell ⟨b6 + 1, 5, none⟩ (.string tx2) = W5 at *
  have HS5 := hid hs2
  have HT4 := hid ht1
  have HXX5 := hid XX
  clear hs2 ht1 HX4 HS4 HXX4 w2 W4 KG XX
  have hrow := IsRow.new (W5.alloc (.cells #[] 28)) 9 (vstr [s_to])
  have ea : (vstr [s_to]).toArray = #[.string ⟨#[61, 62]⟩] := rfl
  rw [ea] at hrow
  have KP := hid (ref5_parts HE.out [s_to] (by decide) L (some ⟨b, o, none⟩) n c i5 bad5 (thenR (thenR (thenR r1 (getW w_with)) (getK 3)) (getK 2)) r2 _ _ hrow (HL.out.ext ((HX5.out.x.alloc _).alloc _)) HS5.out HP'.out HER'.out)
  clear hrow ea
  simp only [List.length_cons, List.length_nil, Nat.zero_add, Nat.reduceAdd, World.size_alloc] at KP
  obtain ⟨p0, p1, p2, f0, f1, f2, l0⟩ := SBlk.open_ (SBlk.ext HX5.out.s ((Ext.refl W5).alloc (.cells #[] 28)))
  go_upto_region 37 with (go_at_call 71; refine (KP.out).mono ?_; rintro e w2 ⟨x2, i6, bad6, v, xs2, rfl, hs3, ho3, h13, hf3⟩; obtain ⟨ak2, ck2, rfl⟩ := owns_slice5 ho3; obtain ⟨m0, m1, m2, k0, k1, k2, ll0⟩ := SBlk.open_ (SBlk.ext HX5.out.s (((Ext.refl _).alloc _).alloc _ |>.trans x2)))
  have HX6 := hid ((HX5.out.call (((Ext.refl _).alloc _).alloc _ |>.trans x2) i6 bad6))
  have ho3b : W5.heap.size + 1 + 1 = ((W5.alloc (.cells #[] 28)).alloc (.cells #[.string ⟨#[61, 62]⟩] 9)).heap.size := by simp
  rw [← ho3b] at ho3 hf3
  have X3 : ExtX (· = w.heap.size) w2 (w3s w2 w.heap.size (some ⟨b, o, none⟩) n c i6 bad6) := w3s_x
  have hbase5 : b6 + 1 < W5.heap.size := HX5.out.t.lt
  have HO2 := hid (owns_keep X3 (fun k (e : k = w.heap.size) => by have := HB7.out; omega) ho3)
  have HF2 : Hid (∀ ts l, r2 = .ok (ts, l) → FlatA (fun q => q < W5.heap.size + 1 + 1 ∨ (Value.slice ak2 1 ck2).ownBlock = some q) (w3s w2 w.heap.size (some ⟨b, o, none⟩) n c i6 bad6) ts xs2) := hid fun ts l e => (hf3 ts l e).extx X3 (fun q (e : q = w.heap.size) => by left; have := HB7.out; omega)
  have XX : ExtX (fun q => q = w.heap.size ∨ q = b6 + 1) W2 (w3s w2 w.heap.size (some ⟨b, o, none⟩) n c i6 bad6) := ((((HXX5.out.alloc _).alloc _).then_ x2).trans (w3s_x.mono fun _ e => .inl e))
  have HB2 : Hid (W5.heap.size + 1 + 1 ≤ (w3s w2 w.heap.size (some ⟨b, o, none⟩) n c i6 bad6).heap.size ∧ W2.heap.size ≤ W5.heap.size) := hid ⟨by rw [w3s_size, ho3b]; exact Below.size x2, HXX5.out.size⟩
  unfold w3s at HX6 HO2 HF2 XX HB2
  have H12 := hid h13
  clear p0 p1 p2 f0 f1 f2 l0 m0 m1 m2 k0 k1 k2 ll0 x2 X3
  generalize ((w2.setCell ⟨w.heap.size, 0, none⟩ (.slice (some ⟨b, o, none⟩) n c)).setCell ⟨w.heap.size, 1, none⟩ (.int .i64 (i6 : Nat))).setCell ⟨w.heap.size, 2, none⟩ (.bool bad6) = W6 at *
  have HS6 := hid hs3
  have HXX6 := hid XX
  have HB5 := hid hbase5
  clear hs3 ho3 hf3 h13 KP HS5 HX5 HXX5 XX ho3b hbase5 w2
  generalize W5.heap.size = n5 at *
  clear W5
  have O1 := owns_keep HXX6.out (fun k e => by have := HB1.out; have := HB7.out; rcases e with e | e <;> omega) HO1.out
  have HOW := hid O1.lt
  have HOK1 : Hid (∀ k, (Value.slice ak1 1 ck1).ownBlock = some k → base ≤ k ∧ k < W2.heap.size) := hid HO1.out.lt
  obtain ⟨g2, cap2, ev2, hg2, hlt2, hc1, hc2, hcells2⟩ := owns_open HO2.out (by omega)
  cases ev2
  have HCells := hid hcells2
  obtain ⟨i0, hi0, hz0, hz1', hz2'⟩ := info_parts infoTmP
  have HI := hid (And.intro hi0 (And.intro hz0 (And.intro hz1' hz2')))
  have HO1' := hid O1
  clear hcells2 O1 hi0 hz0 hz1' hz2'
  go_upto_region 38 with (at_builtin; refine wpList_append_mine rfl (.tmp 138) (.tmp 139) 26 ?r0 base 28 i0 (.agg #[.int .u8 0, .int .u8 0, .int .i64 0, .int .i64 0, .string ⟨#[]⟩, .string ⟨#[]⟩, .string ⟨#[]⟩, .slice none 0 0]) 8 96 ?r1 ?r2 ?r3 ?r4 ?r5 ?r6 ?r7 (.slice ak1 1 ck1) 1 xs1 ?r8 ?r9 ⟨g2, 0, none⟩ 1 ck2 xs2 ?r10 ?r11 ?r12 ?r13 ?r14 ?r15 ?r16 ?r17)
  case r0 => rfl
  case r1 => exact Tryz.underlying26
  case r2 => exact HI.out.1
  case r3 => exact HI.out.2.1
  case r4 => exact HI.out.2.2.1
  case r5 => exact HI.out.2.2.2
  case r6 => rfl
  case r7 => decide
  case r8 => rfl
  case r9 => exact HO1'.out
  case r10 => rfl
  case r11 => exact HO2.out.1
  case r12 => exact fun j u hu => by rw [Addr.add_lit, Nat.zero_add]; exact HCells.out j u hu
  case r13 => exact H12.out
  case r14 => unfold maxLen; omega
  case r15 => omega
  case r16 => have := HB2.out; have := HB1.out; omega
  case r17 =>
    intro v9 w9 ho9 hg9 hw9
    obtain ⟨ak, ck, rfl⟩ := owns_slice5 ho9
    have HX9 := hid (HX6.out.grown hg9 (fun k hk => by have := HOW.out k hk; have := HB1.out; omega))
    have HF9 : Hid (∀ ts1 l1 ts2 l2, r1 = .ok (ts1, l1) → r2 = .ok (ts2, l2) → FlatA (fun q => q < base ∨ (Value.slice ak (1 + 1) ck).ownBlock = some q) w9 (ts1 ++ ts2) (xs1 ++ xs2)) := hid fun ts1 l1 ts2 l2 e1 e2 => by
      have hb2 := HB2.out
      have hb1 := HB1.out
      refine FlatA.append (((HF1.out ts1 l1 e1).extx HXX6.out (fun q e => by left; have := HB7.out; rcases e with e | e <;> omega)).grown5 hg9 (fun k hk => .inr hk) (fun q hq h => ?_)) ((HF2.out ts2 l2 e2).grown5 hg9 (fun k hk => .inl ?_) (fun q hq h => ?_))
      · rcases h with h | h
        · exact .inl h
        · rcases hw9 with e | e
          · exact .inr (by rw [← e]; exact h)
          · have := e q h; omega
      · have := HOK1.out k hk
        omega
      · rcases h with h | h
        · left; omega
        · rcases hw9 with e | e
          · left
            have := HOK1.out q (by rw [← e]; exact h)
            omega
          · have := e q h; omega
    have HO9 := hid ho9
    clear ho9 hg9 hw9
    have H4 : XS5 (some ⟨b, o, none⟩) n c w (b6 + 1) i6 bad6 ⟨16, 0, tk.pos, 0, ⟨#[]⟩, tx2, tx1⟩ ((w9.setCell ⟨b6 + 1, 0, none⟩ (.int .u8 16)).setCell ⟨b6 + 1, 2, none⟩ (.int .i64 tk.pos)) := (HX9.out.kind 16).pos tk.pos
    have X24 : ExtX (fun q => q = w.heap.size ∨ q = b6 + 1) w9 ((w9.setCell ⟨b6 + 1, 0, none⟩ (.int .u8 16)).setCell ⟨b6 + 1, 2, none⟩ (.int .i64 tk.pos)) := ((ExtX.refl w9).setCell (p := ⟨b6 + 1, 0, none⟩) (.inl (.inr rfl)) _).setCell (p := ⟨b6 + 1, 2, none⟩) (.inl (.inr rfl)) _
    have HEQ : Hid (EQ5 L (some ⟨b, o, none⟩) n c w r (b6 + 1) i6 bad6 ⟨16, 0, tk.pos, 0, ⟨#[]⟩, tx2, tx1⟩ ak (1 + 1) ck _) := hid (H4.fin (HS6.out.cast (fun l e => HER2.out l e) (fun ts l e => by obtain ⟨ts1, l1, l2, x, l3, y, l4, -, -, -, -, e2⟩ := HOK2.out ts l e; exact ⟨_, e2⟩)) (fun t l e => by
      cases r2 with
      | error l2 => rw [HER2.out l2 rfl] at e; cases e
      | ok p =>
        obtain ⟨ts2, l6⟩ := p
        obtain ⟨ts1, l1, l2, x, l3, y, l4, e1, ew, ek, ea, e2⟩ := HOK2.out ts2 l6 rfl
        have hm1 := HM3.out.resolve_right (fun h => h x l3 ek)
        have hm2 := HM4.out.resolve_right (fun h => h y l4 ea)
        rw [e2] at e
        cases e
        obtain rfl := HT3.out x l3 ek
        obtain rfl := HT4.out y l4 ea
        obtain ⟨ak', ck', ev, k1, k2, k3⟩ := XS5.kids (w := w) (g7 := b6 + 1) (fun q e => by rcases e with e | e; exact .inl e; exact .inr (.inl e)) (by have := HB1.out; have := HB7.out; omega) (by have := HB1.out; omega) X24 HO9.out (HF9.out ts1 l1 ts2 l e1 rfl) (by
          have h1 := HP1.out
          rw [e1] at h1
          have h := partsF_len _ _ _ _ _ h1
          have h' := partsF_len _ _ _ _ _ (HP'.out _ _ ea)
          simp at h h' ⊢
          omega)
        cases ev
        exact ⟨rfl, fits5 (by omega) (by omega) ⟨HTF.out.p0, HTF.out.p1⟩ (by decide) hm2 hm1, k1, k2, k3⟩))
    obtain ⟨z0, z1, z2, z3, z4, z5, z6, z7⟩ := HX9.out.t.eight
    obtain ⟨g0, g1, g2, g3, g4, g5, g6, g7⟩ := HX9.out.t.frozen8
    have lz := HX9.out.t.lt
    clear HF9 HO9 HX9 HF1 HF2 HO1 HO2 HO1' HX6 HXX6 HCells HI HS6
    go_upto_region 41 with fail
    clear z0 z1 z2 z3 z4 z5 z6 z7 g0 g1 g2 g3 g4 g5 g6 g7 lz H4 X24
    generalize ((w9.setCell ⟨b6 + 1, 0, none⟩ (.int .u8 16)).setCell ⟨b6 + 1, 2, none⟩ (.int .i64 tk.pos)).setCell ⟨b6 + 1, 7, none⟩ (.slice ak (1 + 1) ck) = WX at *
    generalize b6 + 1 = g at *
    obtain ⟨p0, p1, p2, f0, f1, f2, l0⟩ := SBlk.open_ HEQ.out.s
    obtain ⟨c0, c1, c2, c3, c4, c5, c6, c7⟩ := HEQ.out.t.eight
    obtain ⟨z0, z1, z2, z3, z4, z5, z6, z7⟩ := HEQ.out.z2.eight
    obtain ⟨g0, g1, g2, g3, g4, g5, g6, g7⟩ := HEQ.out.z2.frozen8
    have v0 := HEQ.out.z1.cell 0
    have v1 := HEQ.out.z1.cell 1
    have v2 := HEQ.out.z1.cell 2
    simp at v0 v1 v2
    have v3 := HEQ.out.z1.frozen 0
    have v4 := HEQ.out.z1.frozen 1
    have v5 := HEQ.out.z1.frozen 2
    have lv := HEQ.out.z1.lt
    have lz := HEQ.out.z2.lt
    have hl7 := HEQ.out.lt7
    have ne1 : w.heap.size + 1 ≠ w.heap.size + 1 + 1 := by omega
    have ne2 : w.heap.size + 1 + 1 ≠ w.heap.size + 1 := by omega
    have ns0 := fun W (h : ExtX (fun b => b = w.heap.size + 1 ∨ b = w.heap.size + 1 + 1) WX W) => h.cell (p := ⟨w.heap.size, 0, none⟩) (show ¬ (w.heap.size = w.heap.size + 1 ∨ w.heap.size = w.heap.size + 1 + 1) by omega) p0
    have ns1 := fun W (h : ExtX (fun b => b = w.heap.size + 1 ∨ b = w.heap.size + 1 + 1) WX W) => h.cell (p := ⟨w.heap.size, 1, none⟩) (show ¬ (w.heap.size = w.heap.size + 1 ∨ w.heap.size = w.heap.size + 1 + 1) by omega) p1
    have ns2 := fun W (h : ExtX (fun b => b = w.heap.size + 1 ∨ b = w.heap.size + 1 + 1) WX W) => h.cell (p := ⟨w.heap.size, 2, none⟩) (show ¬ (w.heap.size = w.heap.size + 1 ∨ w.heap.size = w.heap.size + 1 + 1) by omega) p2
    have nc0 := fun W (h : ExtX (fun b => b = w.heap.size + 1 ∨ b = w.heap.size + 1 + 1) WX W) => h.cell (p := ⟨g, 0, none⟩) (show ¬ (g = w.heap.size + 1 ∨ g = w.heap.size + 1 + 1) by omega) c0
    have nc1 := fun W (h : ExtX (fun b => b = w.heap.size + 1 ∨ b = w.heap.size + 1 + 1) WX W) => h.cell (p := ⟨g, 1, none⟩) (show ¬ (g = w.heap.size + 1 ∨ g = w.heap.size + 1 + 1) by omega) c1
    have nc2 := fun W (h : ExtX (fun b => b = w.heap.size + 1 ∨ b = w.heap.size + 1 + 1) WX W) => h.cell (p := ⟨g, 2, none⟩) (show ¬ (g = w.heap.size + 1 ∨ g = w.heap.size + 1 + 1) by omega) c2
    have nc3 := fun W (h : ExtX (fun b => b = w.heap.size + 1 ∨ b = w.heap.size + 1 + 1) WX W) => h.cell (p := ⟨g, 3, none⟩) (show ¬ (g = w.heap.size + 1 ∨ g = w.heap.size + 1 + 1) by omega) c3
    have nc4 := fun W (h : ExtX (fun b => b = w.heap.size + 1 ∨ b = w.heap.size + 1 + 1) WX W) => h.cell (p := ⟨g, 4, none⟩) (show ¬ (g = w.heap.size + 1 ∨ g = w.heap.size + 1 + 1) by omega) c4
    have nc5 := fun W (h : ExtX (fun b => b = w.heap.size + 1 ∨ b = w.heap.size + 1 + 1) WX W) => h.cell (p := ⟨g, 5, none⟩) (show ¬ (g = w.heap.size + 1 ∨ g = w.heap.size + 1 + 1) by omega) c5
    have nc6 := fun W (h : ExtX (fun b => b = w.heap.size + 1 ∨ b = w.heap.size + 1 + 1) WX W) => h.cell (p := ⟨g, 6, none⟩) (show ¬ (g = w.heap.size + 1 ∨ g = w.heap.size + 1 + 1) by omega) c6
    have nc7 := fun W (h : ExtX (fun b => b = w.heap.size + 1 ∨ b = w.heap.size + 1 + 1) WX W) => h.cell (p := ⟨g, 7, none⟩) (show ¬ (g = w.heap.size + 1 ∨ g = w.heap.size + 1 + 1) by omega) c7
    refine wp_region_held_drew (S := fun w' => ExtX (fun b => b = w.heap.size + 1 ∨ b = w.heap.size + 1 + 1) WX w') (by kernel_rfl) (by (try dsimp only); (exact xX)) (fun hHeld => ?_)
    refine tL 0 ?_;try simp only [Act.put,pA,pB,pC]
    refine tL 1 ?_;try simp only [Act.put,pA,pB,pC]
    refine dK 2 fun K hK => ?_; go_simp; refine hK.out _ _ (by (try dsimp only); (exact xX)) (fun hHeld => ?_); clear hK K; try simp only [Act.put,pA,pB,pC]
    refine dK 3 fun K hK => ?_; go_simp; refine hK.out _ _ (by (try dsimp only); (exact xX)) (fun hHeld => ?_); clear hK K; try simp only [Act.put,pA,pB,pC]
    refine wpAnyH_done (by kernel_rfl) ?_ _
    repeat (first | go_values | go_skip | go_guarded | go_step | go_upon)
    obtain ⟨hs, ht, hx9⟩ := HEQ.out.out1
    obtain ⟨r0, r1, r2, -⟩ := SBlk.open_ (show SBlk _ _ (some ⟨b, o, none⟩) n c i6 bad6 from Blk.drew hs)
    obtain ⟨r3, r4, r5, r6, r7, r8, r9, ra⟩ := ht.drew.eight
    have hx8 := hx9.drew
    unfold w8s w3s at r0 r1 r2 r3 r4 r5 r6 r7 r8 r9 ra
    exact bodyPost_ret (v := .tuple #[.agg #[.slice (some ⟨b, o, none⟩) n c, .int .i64 (i6 : Nat), .bool bad6], .agg #[.int .u8 16, .int .u8 0, .int .i64 tk.pos, .int .i64 0, .string ⟨#[]⟩, .string tx2, .string tx1, .slice ak (1 + 1) ck]]) (by simp [results, Tryz.results44, go_sem, r0, r1, r2, r3, r4, r5, r6, r7, r8, r9, ra]) rfl (HEQ.out.ret _ hx8)
theorem txS_not {x : ByteArray} (hx : inB [x] ByteArray.empty = false) {l : List Tk} (h : isT [x] l = false) : (txS l).toList ≠ x.toList := by
  have h1 := txS_is hx l
  rw [h] at h1
  intro e
  have : inB [x] (txS l) = true := (inB_iff _ _).2 (by simp [toList_inj e])
  rw [h1] at this
  cases this
set_option maxRecDepth 60000 in
set_option maxHeartbeats 8000000 in
theorem ref5_other (f : Nat) (hE : DoesS 72 #[.int .i64 0] (.lvl 0) f) (L : List Tk) (a : Option Addr) (n c i : Nat) (l : List Tk) (r : Res Tm) (w : World) (hL : IsL w L a n c) (hA : AtS L n i l) (he : Ended l) (h1 : isT [w_let] l = false) (h2 : isT [w_letrec] l = false) (h3 : isT [w_fn] l = false) (h4 : isT [w_if] l = false) (h5 : isT [w_try] l = false) (hp : parseF f (.lvl 0) l = some r) : Calls Tryz.prog 44 #[.agg #[.slice a n c, .int .i64 (i : Nat), .bool false]] w (RetE L a n c w r) := by
  have KX := hid fun W (h : Ext w W) => ref5_text L a n c i false l W (hL.ext h) hA
  have KL := hid fun W (h : Ext w W) => hE L a n c i l r W (hL.ext h) hA he hp
  have el : (#[.agg #[.slice a n c, .int .i64 (i : Nat), .bool false]] ++ #[.int .i64 0] : Array Value) = #[.agg #[.slice a n c, .int .i64 (i : Nat), .bool false], .int .i64 0] := rfl
  rw [el] at KL
  obtain ⟨tk, l', b, o, rfl, rfl, htf, q0, q1, q2, hnx⟩ := hA.tok hL
  have hlb := World.block_lt_of_cell? _ _ q0
  have hz : (i : Int) < (n : Int) := by have := hA.2; omega
  have mm2 := fun (A B C : Obj) => ((((Ext.refl w).alloc A).alloc B).alloc C).cell q2
  have t1 := txS_not (by decide +kernel) h1
  have t2 := txS_not (by decide +kernel) h2
  have t3 := txS_not (by decide +kernel) h3
  have t4 := txS_not (by decide +kernel) h4
  have t5 := txS_not (by decide +kernel) h5
  generalize txS (tk :: l') = tx at *
  have b1 : (tx.toList == ([108, 101, 116] : List UInt8)) = false := by simpa using fun e => t1 (e.trans (by decide +kernel))
  have b2 : (tx.toList == ([108, 101, 116, 114, 101, 99] : List UInt8)) = false := by simpa using fun e => t2 (e.trans (by decide +kernel))
  have b3 : (tx.toList == ([102, 110] : List UInt8)) = false := by simpa using fun e => t3 (e.trans (by decide +kernel))
  have b4 : (tx.toList == ([105, 102] : List UInt8)) = false := by simpa using fun e => t4 (e.trans (by decide +kernel))
  have b5 : (tx.toList == ([116, 114, 121] : List UInt8)) = false := by simpa using fun e => t5 (e.trans (by decide +kernel))
  clear hL hA he h1 h2 h3 h4 h5 hp hE hnx htf t1 t2 t3 t4 t5 q0 q1 el
  go_enter Tryz.func44, Tryz.ntmps44
  go_upto_region 9 with (go_at_call 41; refine (KX.out _ (by (exact eX))).mono ?_; rintro e w1 ⟨rfl, x1⟩)
  obtain ⟨hS1, hZ1, hZ2⟩ := blk3 x1
  have y1 : Ext w w1 := by (exact eX)
  have hg7 : w.heap.size + 1 + 1 < w1.heap.size := hZ2.lt
  have Y0 : Ext w ((w1.alloc (.cells #[] 28)).alloc (.cells zeroT 28)) := by (exact eX)
  have S0 : SBlk ((w1.alloc (.cells #[] 28)).alloc (.cells zeroT 28)) w.heap.size (some ⟨b, o, none⟩) n c i false := (Blk.alloc hS1 _).alloc _
  have Z1 := (Blk.alloc hZ1 (.cells #[] 28)).alloc (.cells zeroT 28)
  have Z2 := (Blk.alloc hZ2 (.cells #[] 28)).alloc (.cells zeroT 28)
  have HZ1 := hid Z1
  have HZ2 := hid Z2
  have HY0 := hid Y0
  obtain ⟨p0, p1, p2, f0, f1, f2, l0⟩ := SBlk.open_ S0
  unfold zeroT at HZ1 HZ2 HY0 p0 p1 p2 f0 f1 f2 l0
  generalize ((w1.alloc (.cells #[] 28)).alloc (.cells #[.int .u8 0, .int .u8 0, .int .i64 0, .int .i64 0, .string ⟨#[]⟩, .string ⟨#[]⟩, .string ⟨#[]⟩, .slice none 0 0] 28)) = W0 at *
  clear hS1 hZ1 hZ2 x1 y1 S0 Z1 Z2 Y0 KX
  repeat (first | go_values | go_skip | go_guarded | go_step | go_upon)
  refine (KL.out _ HY0.out).mono ?_
  rintro e w1 ⟨x1, i1, bad1, y, ak, nk, ck, rfl, hs1, hT1⟩
  have hZ1 := HZ1.out.ext x1
  have hZ2 := HZ2.out.ext x1
  obtain ⟨z0, z1, z2, z3, z4, z5, z6, z7⟩ := hZ2.eight
  obtain ⟨g0, g1, g2, g3, g4, g5, g6, g7⟩ := hZ2.frozen8
  have v0 := hZ1.cell 0
  have v1 := hZ1.cell 1
  have v2 := hZ1.cell 2
  simp at v0 v1 v2
  have v3 := hZ1.frozen 0
  have v4 := hZ1.frozen 1
  have v5 := hZ1.frozen 2
  have lv := hZ1.lt
  have lz := hZ2.lt
  have y1 : Ext w w1 := HY0.out.trans x1
  have hw0 := HY0.out
  have hsz : w.heap.size + 1 + 1 < W0.heap.size := HZ2.out.lt
  have ne2 : w.heap.size + 1 + 1 ≠ w.heap.size + 1 := by omega
  have B1 : SBlk (w8s (w3s w1 (w.heap.size + 1) (some ⟨b, o, none⟩) n c i1 bad1) (w.heap.size + 1 + 1) y ak nk ck) (w.heap.size + 1) (some ⟨b, o, none⟩) n c i1 bad1 := Blk.extx (Blk.lay3 hZ1) w8s_x (by show ¬ w.heap.size + 1 = w.heap.size + 1 + 1; omega)
  have B2 := (Blk.extx hZ2 (w3s_x (a := (some ⟨b, o, none⟩)) (n := n) (c := c) (i := i1) (bad := bad1)) (show ¬ w.heap.size + 1 + 1 = w.heap.size + 1 by omega)).lay8 (u0 := .int .u8 y.k) (u1 := .int .u8 y.op) (u2 := .int .i64 y.pos) (u3 := .int .i64 y.n) (u4 := .string y.name) (u5 := .string y.arg) (u6 := .string y.exn) (u7 := .slice ak nk ck)
  have X9 : ExtX (fun b => b = w.heap.size + 1 ∨ b = w.heap.size + 1 + 1) w1 (w8s (w3s w1 (w.heap.size + 1) (some ⟨b, o, none⟩) n c i1 bad1) (w.heap.size + 1 + 1) y ak nk ck) := (w3s_x.mono fun b e => .inl e).trans (w8s_x.mono fun b e => .inr e)
  obtain ⟨r0, r1, r2, -⟩ := SBlk.open_ B1
  obtain ⟨r3, r4, r5, r6, r7, r8, r9, ra⟩ := B2.eight
  have HR9 : Hid (RetE L (some ⟨b, o, none⟩) n c w r (.returned (.tuple #[.agg #[.slice (some ⟨b, o, none⟩) n c, .int .i64 (i1 : Nat), .bool bad1], .agg #[.int .u8 y.k, .int .u8 y.op, .int .i64 y.pos, .int .i64 y.n, .string y.name, .string y.arg, .string y.exn, .slice ak nk ck]])) (w8s (w3s w1 (w.heap.size + 1) (some ⟨b, o, none⟩) n c i1 bad1) (w.heap.size + 1 + 1) y ak nk ck)) := hid ⟨ExtX.ext y1 X9 (fun b e => by rcases e with e | e <;> omega), i1, bad1, y, ak, nk, ck, rfl, hs1, fun t l e => by
    obtain ⟨e1, e2, e3, e4, e5⟩ := hT1 t l e
    exact ⟨e1, e2, e3, e4, (e5.extx X9 (fun b e => by show b < _; rcases e with e | e <;> omega)).move (fun b _ (hb : b < w.heap.size) => by show b < _; omega) (fun _ _ _ hu => hu)⟩⟩
  unfold w8s w3s at r0 r1 r2 HR9
  unfold w3s at r3 r4 r5 r6 r7 r8 r9 ra
  clear B1 B2 X9 hs1 hT1 x1 y1 hw0
  dsimp only
  repeat (first | go_values | go_skip | go_guarded | go_step | go_upon)
  exact bodyPost_ret (v := .tuple #[.agg #[.slice (some ⟨b, o, none⟩) n c, .int .i64 (i1 : Nat), .bool bad1], .agg #[.int .u8 y.k, .int .u8 y.op, .int .i64 y.pos, .int .i64 y.n, .string y.name, .string y.arg, .string y.exn, .slice ak nk ck]]) (by simp [results, Tryz.results44, go_sem, r0, r1, r2, r3, r4, r5, r6, r7, r8, r9, ra]) rfl HR9.out
theorem ref5_expr (f : Nat) (hE : DoesS 44 #[] .expr f) (hF : DoesS 72 #[.int .i64 0] (.lvl 0) f) : DoesS 44 #[] .expr (f + 1) := by
  intro L a n c i l r w hL hA he hp
  simp only [Array.append_empty]
  cases h1 : isT [w_let] l with
  | true => exact ref5_let f hE L a n c i l r w hL hA he h1 hp
  | false =>
  cases h2 : isT [w_letrec] l with
  | true => exact ref5_letrec f hE L a n c i l r w hL hA he h2 hp
  | false =>
  cases h3 : isT [w_fn] l with
  | true => exact ref5_fn f hE L a n c i l r w hL hA he h3 hp
  | false =>
  cases h4 : isT [w_if] l with
  | true => exact ref5_if f hE L a n c i l r w hL hA he h4 hp
  | false =>
  cases h5 : isT [w_try] l with
  | true => exact ref5_try f hE L a n c i l r w hL hA he h5 hp
  | false =>
    unfold parseF at hp
    simp only [h1, h2, h3, h4, h5, Bool.false_eq_true, if_false] at hp
    exact ref5_other f hF L a n c i l r w hL hA he h1 h2 h3 h4 h5 hp
theorem ref5_knot (f : Nat) : DoesS 44 #[] .expr f ∧ (∀ k : Nat, k ≤ 4 → DoesS 72 #[.int .i64 (k : Int)] (.lvl k) f) ∧ DoesS 119 #[] .unary f := by
  induction f using Nat.strongRecOn with
  | _ f ih =>
    cases f with
    | zero => exact ⟨fun L a n c i l r w _ _ _ h => (by cases h), fun k _ L a n c i l r w _ _ _ h => (by cases h), fun L a n c i l r w _ _ _ h => (by cases h)⟩
    | succ f =>
      have hE := (ih f (by omega)).1
      have hU : ∀ g, g ≤ f → DoesS 119 #[] .unary g := fun g hg => (ih g (by omega)).2.2
      have hAp := ref5_apply f hU
      have hlv : ∀ d k : Nat, k + d = 4 → DoesS 72 #[.int .i64 (k : Int)] (.lvl k) (f + 1) := by
        intro d
        cases d with
        | zero => intro k hk; obtain rfl : k = 4 := (by omega); exact ref5_level4 _ hAp
        | succ d => intro k hk; exact ref5_level k f (by omega) fun g hg => (ih g (by omega)).2.1 (k + 1) (by omega)
      exact ⟨ref5_expr f hE ((ih f (by omega)).2.1 0 (by omega)), fun k hk => hlv (4 - k) k (by omega), ref5_unary f (hU f (Nat.le_refl _)) hE⟩
end Go.Proofs.YtaioeailgknfjaaGreatDoor
