/- The walk of what the laws of layer 9 share: a variable; great. -/
import Derived.Test.YtkjjbackkipfdaaUnify9
import Derived.Test.YtkjjbackkipfdaaPureU12
namespace Go.Proofs.Ytkjjbackkipfdaa
open Go Go.RowKit Go.Sort

/-- The law's answer: true, and nothing that was there has turned. -/
def Yes (w : World) (e : Ending) (w' : World) : Prop := e = .returned (.bool true) ∧ Ext w w'
theorem law_v (w : World) (n : Int) : Calls Try.prog 15 #[.int .i64 n] w fun e w' => e = .returned (.agg #[.int .u8 5, .int .i64 n, .slice none 0 0]) ∧ Ext w w' := by
  go_enter Try.func15, Try.ntmps15
  go_wp2_with fail
  exact bodyPost_ret (v := .agg #[.int .u8 5, .int .i64 n, .slice none 0 0]) (by simp [results, Try.results15, go_sem]) rfl ⟨rfl, by (exact eX)⟩
/-- More than 10 types, or more than 60 nodes in one. -/
def greatB (l : List Ty) : Bool := decide (10 < l.length) || l.any fun t => decide (60 < t.size)
theorem greatB_no {l : List Ty} (h : greatB l = false) : l.length ≤ 10 ∧ ∀ t, t ∈ l → t.size ≤ 60 := by
  unfold greatB at h
  rw [Bool.or_eq_false_iff] at h
  refine ⟨by simpa using h.1, fun t ht => ?_⟩
  have := List.any_eq_false.1 h.2 t ht
  simpa using this
theorem greatB_long {l : List Ty} (h : 10 < l.length) : greatB l = true := by unfold greatB; simp [h]
theorem greatB_at {l : List Ty} {j : Nat} {t : Ty} (hj : l[j]? = some t) (h : 60 < t.size) : greatB l = true := by
  unfold greatB
  rw [Bool.or_eq_true]
  exact .inr (List.any_eq_true.2 ⟨t, List.mem_of_getElem? hj, by simpa using h⟩)
theorem greatB_all {l : List Ty} (h : l.length ≤ 10) (hs : ∀ (j : Nat) t, l[j]? = some t → t.size ≤ 60) : greatB l = false := by
  unfold greatB
  rw [Bool.or_eq_false_iff]
  refine ⟨by simpa using h, List.any_eq_false.2 fun t ht => ?_⟩
  obtain ⟨j, hj⟩ := List.mem_iff_getElem?.1 ht
  have := hs j t hj
  simpa using this
set_option maxRecDepth 8000 in
set_option maxHeartbeats 4000000 in
theorem law_great (l : List Ty) (w : World) (a : Option Addr) (len cap : Nat) (h1 : len ≤ cap) (h2 : cap ≤ 9223372036854775807) (hl : IsTys w l a len) :
    Calls Try.prog 9 #[.slice a len cap] w fun e w' => e = .returned (.bool (greatB l)) ∧ Ext w w' := by
  have hll := hl.length
  have HL := Lib.hid hl
  clear hl
  by_cases h10 : len ≤ 10
  · have HN : Hid ((∀ (j : Nat) t, l[j]? = some t → t.size ≤ 60) → greatB l = false) := Lib.hid (greatB_all (by omega))
    have HY : Hid (∀ (j : Nat) t, l[j]? = some t → 60 < t.size → greatB l = true) := Lib.hid fun j t hj hs => greatB_at hj hs
    generalize greatB l = gb at *
    have HLL := Lib.hid hll
    clear hll
    have h10' : (len : Int) ≤ 10 := by omega
    go_enter Try.func9, Try.ntmps9
    go_wp2_with fail
    go_loopg [3] len (fun g i wr => ∃ j : Nat, g = len - j ∧ i = .int .i64 j ∧ j ≤ len ∧ (∀ i t, i < j → l[i]? = some t → t.size ≤ 60) ∧ Ext w wr)
    case atStart => exact ⟨0, by omega, rfl, by omega, (fun i t hi => by omega), Ext.refl _⟩
    case round =>
      obtain ⟨j, rfl, rfl, hj, hall, hx⟩ := hrel
      have HALL := Lib.hid hall
      clear hall
      by_cases hlt : j < len
      · obtain ⟨t, ub, uo, c0, c1, c2, gu, rfl, q0, q1, q2, qt⟩ := HL.out.at3 hx hlt
        have KG := Lib.hid fun W (h : Ext wr W) => ref_great t W (.agg #[c0, c1, c2]) (qt.ext h)
        have KZ := Lib.hid fun (hs : t.size ≤ 400) W (h : Ext wr W) => ref_size t.size t W (.agg #[c0, c1, c2]) (Nat.le_refl _) (by omega) (qt.ext h)
        have GU := Lib.hid gu
        obtain ⟨gt, hgt⟩ : ∃ b, decide (400 < t.size) = b := ⟨_, rfl⟩
        rw [hgt] at KG
        have HT := Lib.hid fun (i : Nat) (u : Ty) (hi : i < j + 1) (h : l[i]? = some u) (hs : t.size ≤ 60) => show u.size ≤ 60 from by
          rcases Nat.lt_or_ge i j with hlt' | hge
          · exact HALL.out i u hlt' h
          · obtain rfl : i = j := by omega
            rw [GU.out] at h
            cases h
            exact hs
        obtain ⟨sz, hsz⟩ : ∃ s, t.size = s := ⟨_, rfl⟩
        have HYES := Lib.hid (HY.out j t GU.out)
        rw [hsz] at KZ HT HYES hgt
        have HGT := Lib.hid hgt
        obtain ⟨uk, um, ul⟩ := t
        obtain ⟨xa, xl, xc, e, -, -, -, -, -, -, -⟩ := qt.open_
        simp at e
        obtain ⟨rfl, rfl, rfl⟩ := e
        have HX := Lib.hid hx
        have HLT := Lib.hid hlt
        clear gu qt hgt hsz
        cases gt with
        | true =>
          have hs : 400 < sz := by simpa using HGT.out
          obtain rfl := HYES.out (by omega)
          clear hs
          go_wp2_with (go_at_call 23; refine (KG.out _ (Ext.refl _)).mono ?_; rintro e w1 ⟨rfl, x1⟩)
          go_ret
          exact ⟨rfl, HX.out.trans x1⟩
        | false =>
          have hs : ¬ 400 < sz := by simpa using HGT.out
          have KZ := Lib.hid (KZ.out (by omega))
          by_cases h60 : 60 < sz
          · obtain rfl := HYES.out h60
            have h60' : (60 : Int) < (sz : Int) := by omega
            clear h60 hs
            go_wp2_with (first | (go_at_call 23; (with_reducible refine (KG.out _ (Ext.refl _)).mono ?_); rintro e w1 ⟨rfl, x1⟩; have q0' := x1.cell q0; have q1' := x1.cell q1; have q2' := x1.cell q2) | (go_at_call 24; (with_reducible refine (KZ.out _ x1).mono ?_); rintro e w2 ⟨rfl, x2⟩))
            go_ret
            exact ⟨rfl, HX.out.trans (x1.trans x2)⟩
          · have h60' : ¬ (60 : Int) < (sz : Int) := by omega
            have HLE := Lib.hid (Nat.le_of_not_lt h60)
            clear h60 hs
            go_wp2_with (first | (go_at_call 23; (with_reducible refine (KG.out _ (Ext.refl _)).mono ?_); rintro e w1 ⟨rfl, x1⟩; have q0' := x1.cell q0; have q1' := x1.cell q1; have q2' := x1.cell q2) | (go_at_call 24; (with_reducible refine (KZ.out _ x1).mono ?_); rintro e w2 ⟨rfl, x2⟩))
            have HY2 := Lib.hid (HX.out.trans (x1.trans x2))
            go_roundg (len - (j + 1))
            case rel =>
              have hlt := HLT.out
              exact ⟨j + 1, rfl, by go_num, by omega, (fun i u hi h => HT.out i u hi h HLE.out), HY2.out⟩
            case measure =>
              have hlt := HLT.out
              omega
      · obtain rfl : j = len := by omega
        obtain rfl := HN.out fun i t hi => HALL.out i t (by have := (List.getElem?_eq_some_iff.1 hi).1; have := HLL.out; omega) hi
        go_wp2_with fail
        go_ret
        exact ⟨rfl, hx⟩
  · obtain e := greatB_long (l := l) (by omega)
    rw [e]
    have h10' : ¬ (len : Int) ≤ 10 := by omega
    have h10'' : (10 : Int) < (len : Int) := by omega
    clear e hll
    go_enter Try.func9, Try.ntmps9
    go_wp2_with fail
    go_ret
    exact ⟨rfl, Ext.refl _⟩
/-- A box of a type is kept where a book turns. -/
theorem BookAtA.box {A : Nat → Prop} {w w' : World} {bb mb n : Nat} {S : St} (h : BookAtA A w bb mb n S) (hx : ExtX (fun j => j = bb ∨ j = mb) w w') {g : Nat} {cs : Array Value} (hb : Blk w g 25 cs) : Blk w' g 25 cs := by
  refine (hx.block g hb.lt ?_).trans hb
  rintro (rfl | rfl)
  · have := h.blk
    unfold Blk at this hb
    rw [this] at hb
    injection hb with hb
    injection hb with _ hb
    exact absurd hb (by decide)
  · obtain ⟨es, c, hm⟩ := h.map.block
    unfold Blk at hb
    rw [hm] at hb
    cases hb
theorem BookAtA.box1 {A : Nat → Prop} {w w' : World} {bb mb n : Nat} {S : St} (h : BookAtA A w bb mb n S) (hx : ExtX (· = bb) w w') {g : Nat} {cs : Array Value} (hb : Blk w g 25 cs) : Blk w' g 25 cs := h.box (hx.monoU fun _ e => .inl e) hb
/-- From the call's first world on, a book of the call's own plays no part. -/
theorem ext_own {w W W' : World} {bb mb : Nat} (hx : Ext w W) (h : ExtX (fun j => j = bb ∨ j = mb) W W') (hb : w.heap.size ≤ bb) (hm : w.heap.size ≤ mb) : Ext w W' := ExtX.ext hx h fun b e => by
  rcases e with rfl | rfl
  · exact hb
  · exact hm
theorem P9_ty {w : World} {g : Nat} (h : Blk w g 25 #[.int .u8 1, .int .i64 0, .slice none 0 0, .int .u8 5, .int .i64 1, .slice none 0 0]) : IsTy w P9 (.agg #[.int .u8 2, .int .i64 0, .slice (some ⟨g, 0, none⟩) 2 2]) :=
  IsTyA.mk_ (IsTysA.two (fun h => h) (IsTyA.mk_ (IsTysA.nil _) (Nat.le_refl _) (by omega) (by omega) (by omega) (by omega) (by omega)) (vr_ty (by omega) (by omega)) (by simpa using h.cell 0) (by simpa using h.cell 1) (by simpa using h.cell 2) (by simpa using h.cell 3) (by simpa using h.cell 4) (by simpa using h.cell 5)) (Nat.le_refl _) (by omega) (by omega) (by omega) (by omega) (by omega)
set_option maxRecDepth 8000 in
set_option maxHeartbeats 8000000 in
theorem law_awake9 (w : World) : Calls Try.prog 10 #[] w (Yes w) := by
  go_enter Try.func10, Try.ntmps10
  go_upto_region 2 with (go_at_call 11; refine (book_new (A := NoA) _).mono ?_; rintro e w1 ⟨bb, mb, rfl, hB1, hb, hm, x1⟩)
  have HB1 := Lib.hid hB1
  have HX1 := Lib.hid x1
  clear hB1 x1
  go_upto_region 3 with (first | (go_at_call 14; (with_reducible refine (book_fresh HB1.out (by omega)).mono ?_); rintro e w2 ⟨rfl, hB2, x2⟩; have HB2 := Lib.hid hB2) | (go_at_call 14; (with_reducible refine (book_fresh HB2.out (by omega)).mono ?_); rintro e w3 ⟨rfl, hB3, x3⟩; have HB3 := Lib.hid hB3))
  have hx3 : Ext w w3 := ext_own HX1.out ((x2.monoU fun _ e => .inl e).trans (x3.monoU fun _ e => .inl e)) hb hm
  have HB4 := Lib.hid ((HB3.out.ext ((Ext.refl _).alloc (.cells #[.int .u8 5, .int .i64 0, .slice none 0 0] 25))).ext ((Ext.refl _).alloc (.cells #[.int .u8 5, .int .i64 1, .slice none 0 0] 25)))
  have C2 := Lib.hid ((Blk.new w3 25 #[.int .u8 5, .int .i64 0, .slice none 0 0]).alloc (.cells #[.int .u8 5, .int .i64 1, .slice none 0 0] 25))
  have C3 : Hid (Blk ((w3.alloc (.cells #[.int .u8 5, .int .i64 0, .slice none 0 0] 25)).alloc (.cells #[.int .u8 5, .int .i64 1, .slice none 0 0] 25)) (w3.heap.size + 1) 25 #[.int .u8 5, .int .i64 1, .slice none 0 0]) := Lib.hid (by
    have h := Blk.new (w3.alloc (.cells #[.int .u8 5, .int .i64 0, .slice none 0 0] 25)) 25 #[.int .u8 5, .int .i64 1, .slice none 0 0]
    rw [World.size_alloc] at h
    exact h)
  have HX4 := Lib.hid ((hx3.alloc (.cells #[.int .u8 5, .int .i64 0, .slice none 0 0] 25)).alloc (.cells #[.int .u8 5, .int .i64 1, .slice none 0 0] 25))
  clear hB2 hB3 x2 x3 hx3 HB1 HB2 HB3 HX1
  generalize (w3.alloc (.cells #[.int .u8 5, .int .i64 0, .slice none 0 0] 25)).alloc (.cells #[.int .u8 5, .int .i64 1, .slice none 0 0] 25) = W4 at *
  obtain ⟨b2, hb2⟩ : ∃ b, b = w3.heap.size := ⟨_, rfl⟩
  obtain ⟨b3, hb3⟩ : ∃ b, b = w3.heap.size + 1 := ⟨_, rfl⟩
  rw [← hb3] at C3
  rw [← hb2] at C2
  rw [← hb3, ← hb2]
  clear hb2 hb3
  obtain ⟨p0, p1, p2⟩ := C3.out.three
  have l3 := C3.out.lt
  go_upto_region 4 with fail
  have D2 := Lib.hid ((C2.out.alloc (.cells #[.int .u8 1, .int .i64 0, .slice none 0 0, .int .u8 5, .int .i64 1, .slice none 0 0] 25)).alloc (.cells #[.int .u8 2, .int .i64 0, .slice (some ⟨W4.heap.size, 0, none⟩) 2 2] 25))
  have DR := Lib.hid ((Blk.new W4 25 #[.int .u8 1, .int .i64 0, .slice none 0 0, .int .u8 5, .int .i64 1, .slice none 0 0]).alloc (.cells #[.int .u8 2, .int .i64 0, .slice (some ⟨W4.heap.size, 0, none⟩) 2 2] 25))
  have D4 : Hid (Blk ((W4.alloc (.cells #[.int .u8 1, .int .i64 0, .slice none 0 0, .int .u8 5, .int .i64 1, .slice none 0 0] 25)).alloc (.cells #[.int .u8 2, .int .i64 0, .slice (some ⟨W4.heap.size, 0, none⟩) 2 2] 25)) (W4.heap.size + 1) 25 #[.int .u8 2, .int .i64 0, .slice (some ⟨W4.heap.size, 0, none⟩) 2 2]) := Lib.hid (by
    have h := Blk.new (W4.alloc (.cells #[.int .u8 1, .int .i64 0, .slice none 0 0, .int .u8 5, .int .i64 1, .slice none 0 0] 25)) 25 #[.int .u8 2, .int .i64 0, .slice (some ⟨W4.heap.size, 0, none⟩) 2 2]
    rw [World.size_alloc] at h
    exact h)
  have HB5 := Lib.hid ((HB4.out.ext ((Ext.refl _).alloc (.cells #[.int .u8 1, .int .i64 0, .slice none 0 0, .int .u8 5, .int .i64 1, .slice none 0 0] 25))).ext ((Ext.refl _).alloc (.cells #[.int .u8 2, .int .i64 0, .slice (some ⟨W4.heap.size, 0, none⟩) 2 2] 25)))
  have HX5 := Lib.hid ((HX4.out.alloc (.cells #[.int .u8 1, .int .i64 0, .slice none 0 0, .int .u8 5, .int .i64 1, .slice none 0 0] 25)).alloc (.cells #[.int .u8 2, .int .i64 0, .slice (some ⟨W4.heap.size, 0, none⟩) 2 2] 25))
  clear p0 p1 p2 l3 C2 C3 HB4 HX4
  generalize (W4.alloc (.cells #[.int .u8 1, .int .i64 0, .slice none 0 0, .int .u8 5, .int .i64 1, .slice none 0 0] 25)).alloc (.cells #[.int .u8 2, .int .i64 0, .slice (some ⟨W4.heap.size, 0, none⟩) 2 2] 25) = W5 at *
  obtain ⟨b4, hb4⟩ : ∃ b, b = W4.heap.size + 1 := ⟨_, rfl⟩
  obtain ⟨g4, hg4⟩ : ∃ b, b = W4.heap.size := ⟨_, rfl⟩
  rw [← hb4, ← hg4] at D4
  rw [← hg4] at DR
  rw [← hb4, ← hg4]
  clear hb4 hg4
  have HP := Lib.hid (P9_ty DR.out)
  have KJ := Lib.hid fun (W : World) (g : Nat) (h : Ext W5 W) (hg : Blk W g 25 #[.int .u8 5, .int .i64 0, .slice none 0 0, .int .u8 2, .int .i64 0, .slice (some ⟨g4, 0, none⟩) 2 2]) => book_Join (HB5.out.ext h) (Good.empty _) [vr 0, P9] (some ⟨g, 0, none⟩) 2 2 (Nat.le_refl _) (by omega) (IsTysA.two (fun h => h) (vr_ty (by omega) (by omega)) (HP.out.ext h) (by simpa using hg.cell 0) (by simpa using hg.cell 1) (by simpa using hg.cell 2) (by simpa using hg.cell 3) (by simpa using hg.cell 4) (by simpa using hg.cell 5))
  obtain ⟨p0, p1, p2⟩ := D2.out.three
  obtain ⟨q0, q1, q2⟩ := D4.out.three
  have l2 := D2.out.lt
  have l4 := D4.out.lt
  go_upto_region 5 with (go_at_call 17; (refine (KJ.out _ _ ((Ext.refl _).alloc _) (Blk.new _ _ _)).mono ?_); rintro e w6 ⟨S6, ok, mb6, rfl, hJ, hB6, hm6, x6⟩)
  have hsz5 := HX5.out.size
  have HX6 := Lib.hid (ext_own (HX5.out.alloc (.cells #[.int .u8 5, .int .i64 0, .slice none 0 0, .int .u8 2, .int .i64 0, .slice (some ⟨g4, 0, none⟩) 2 2] 25)) x6 hb hm)
  have hB5' := HB5.out.ext ((Ext.refl W5).alloc (.cells #[.int .u8 5, .int .i64 0, .slice none 0 0, .int .u8 2, .int .i64 0, .slice (some ⟨g4, 0, none⟩) 2 2] 25))
  have E2 := Lib.hid (hB5'.box x6 (D2.out.alloc _))
  have E4 := Lib.hid (hB5'.box x6 (D4.out.alloc _))
  have HP6 := Lib.hid (hB5'.keep x6 (HP.out.ext ((Ext.refl _).alloc _)))
  have hm6' : w.heap.size ≤ mb6 := by
    rcases hm6 with rfl | h
    · exact hm
    · simp at h; omega
  obtain ⟨rfl, haw⟩ := awake9 hJ
  obtain ⟨σ, hσ⟩ := hJ.good.acy.sense
  have KS := Lib.hid fun (a : Option Addr) (len cap : Nat) (ht : IsTy w6 (vr 0) (.agg #[.int .u8 5, .int .i64 0, .slice a len cap])) => book_Sense hB6 hJ.good hσ (vr 0) 9 a len cap ht (by omega) (by omega)
  have HB6 := Lib.hid hB6
  have hte := haw σ hσ
  unfold RetTell at KS
  rw [hte] at KS
  have KS : Hid (Calls Try.prog 18 #[.pointer (some ⟨bb, 0, none⟩), .agg #[.int .u8 5, .int .i64 0, .slice none 0 0], .int .i64 9] w6 fun e w' => ∃ a len cap, e = .returned (.tuple #[.agg #[.int .u8 2, .int .i64 0, .slice a len cap], .int .i64 0]) ∧ IsTy w' P9 (.agg #[.int .u8 2, .int .i64 0, .slice a len cap]) ∧ Ext w6 w') := Lib.hid ((KS.out none 0 0 (vr_ty (by omega) (by omega))).mono fun e w' ⟨a, len, cap, h1, h2, h3⟩ => ⟨a, len, cap, h1, h2.any, h3⟩)
  clear hte haw hσ hB6 hJ hm6 x6 hB5' p0 p1 p2 q0 q1 q2 l2 l4 D2 D4 DR HP KJ HB5 HX5 hsz5
  obtain ⟨p0, p1, p2⟩ := E2.out.three
  have l2 := E2.out.lt
  go_upto_region 6 with (go_at_call 18; (with_reducible refine (KS.out).mono ?_); rintro e w7 ⟨ta, tl, tc, rfl, hT, x7⟩)
  have F6 := Lib.hid (Blk.new w7 25 #[.int .u8 2, .int .i64 0, .slice ta tl tc])
  have F4 := Lib.hid ((E4.out.ext x7).alloc (.cells #[.int .u8 2, .int .i64 0, .slice ta tl tc] 25))
  have T6 := Lib.hid (hT.ext ((Ext.refl _).alloc (.cells #[.int .u8 2, .int .i64 0, .slice ta tl tc] 25)))
  have T4 := Lib.hid ((HP6.out.ext x7).ext ((Ext.refl _).alloc (.cells #[.int .u8 2, .int .i64 0, .slice ta tl tc] 25)))
  have HB8 := Lib.hid ((HB6.out.ext x7).ext ((Ext.refl _).alloc (.cells #[.int .u8 2, .int .i64 0, .slice ta tl tc] 25)))
  have HX8 := Lib.hid ((HX6.out.trans x7).alloc (.cells #[.int .u8 2, .int .i64 0, .slice ta tl tc] 25))
  obtain ⟨b6, hb6⟩ : ∃ b, b = w7.heap.size := ⟨_, rfl⟩
  rw [← hb6] at F6
  rw [← hb6]
  clear hb6 hT x7 p0 p1 p2 l2 E2 E4 HP6 HB6 HX6 KS
  generalize (w7.alloc (.cells #[.int .u8 2, .int .i64 0, .slice ta tl tc] 25)) = W8 at *
  have KE := Lib.hid (ref_same P9.size P9 P9 W8 (.agg #[.int .u8 2, .int .i64 0, .slice ta tl tc]) (.agg #[.int .u8 2, .int .i64 0, .slice (some ⟨g4, 0, none⟩) 2 2]) (Nat.le_refl _) T6.out T4.out)
  rw [(Ty.same_iff P9 P9).2 rfl] at KE
  obtain ⟨p0, p1, p2⟩ := F6.out.three
  obtain ⟨q0, q1, q2⟩ := F4.out.three
  have KV := Lib.hid fun W (h : Ext W8 W) => book_vars (HB8.out.ext h)
  go_wp2_with (first | (go_at_call 13; (with_reducible refine (KE.out).mono ?_); rintro e w9 ⟨rfl, x9⟩) | (go_at_call 20; (refine (KV.out _ x9).mono ?_); rintro e w10 ⟨rfl, x10⟩))
  go_ret
  exact ⟨rfl, (HX8.out.trans x9).trans x10⟩
end Go.Proofs.Ytkjjbackkipfdaa
