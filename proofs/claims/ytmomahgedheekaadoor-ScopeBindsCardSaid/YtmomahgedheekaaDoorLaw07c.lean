/- The walk of the law ScopeBinds. -/
import Derived.Test.YtmomahgedheekaaDoorLaw07b
namespace Go.Proofs.YtmomahgedheekaaDoor
open Go Go.RowKit Go.Sort

theorem fits_fn (s : ByteArray) (h : s.size ≤ 9223372036854775807) : (hfn s).Fits where
  k0 := by show (0 : Int) ≤ 11; omega
  k1 := by show (11 : Int) ≤ 255; omega
  op0 := by show (0 : Int) ≤ 0; omega
  op1 := by show (0 : Int) ≤ 255; omega
  pos0 := by show (-9223372036854775808 : Int) ≤ 0; omega
  pos1 := by show (0 : Int) ≤ 9223372036854775807; omega
  n0 := by show (-9223372036854775808 : Int) ≤ 0; omega
  n1 := by show (0 : Int) ≤ 9223372036854775807; omega
  name1 := by show (0 : Nat) ≤ 9223372036854775807; omega
  arg1 := h
  exn1 := by show (0 : Nat) ≤ 9223372036854775807; omega
theorem fits_lt (s : ByteArray) (h : s.size ≤ 9223372036854775807) : (hlt s).Fits where
  k0 := by show (0 : Int) ≤ 12; omega
  k1 := by show (12 : Int) ≤ 255; omega
  op0 := by show (0 : Int) ≤ 0; omega
  op1 := by show (0 : Int) ≤ 255; omega
  pos0 := by show (-9223372036854775808 : Int) ≤ 0; omega
  pos1 := by show (0 : Int) ≤ 9223372036854775807; omega
  n0 := by show (-9223372036854775808 : Int) ≤ 0; omega
  n1 := by show (0 : Int) ≤ 9223372036854775807; omega
  name1 := h
  arg1 := by show (0 : Nat) ≤ 9223372036854775807; omega
  exn1 := by show (0 : Nat) ≤ 9223372036854775807; omega
theorem fits_0n : h0n.Fits := by constructor <;> decide +kernel

set_option maxRecDepth 8000 in
set_option maxHeartbeats 8000000 in
theorem law_scopeBinds (t : Tm) (name : ByteArray) (w : World) (v : Value) (ht : IsTm w t v) (hname : name.size ≤ maxLen) (hkn : Knob w) : Calls Tryd.prog 6 #[v, .string name] w (Yes7 w) := by
  have KA := Lib.hid fun W (h : Ext w W) => law07_awake W (hkn.ext h)
  have KG := Lib.hid fun W (h : Ext w W) => ref4_great t W v (ht.ext h)
  have hsz : t.great = false → t.size ≤ 400 := fun h => (Tm.not_great h).1
  have KM := Lib.hid fun W (h : Ext w W) (hz : t.size ≤ 400) => ref4_may t W v (ht.ext h) (by omega)
  have KL := Lib.hid fun W (h : Ext w W) (hz : t.size ≤ 400) => ref4_all t.size t w W v (Nat.le_refl _) (by omega) h ht
  have HSZ := Lib.hid hsz
  have HKN := Lib.hid hkn
  have HAL := Lib.hid t.all_length
  have hpos := t.size_pos
  have FL := Lib.hid (free_len t)
  have FR := Lib.hid (fun h => freesR_one (t := t) h)
  have FF := Lib.hid (fun h => fn_free (s := name) (t := t) h)
  have LM := Lib.hid (fun h hs => let_may (s := name) (t := t) h hs)
  have LF := Lib.hid (fun h => let_free (s := name) (t := t) h)
  obtain ⟨x, l⟩ := t
  obtain ⟨a, len, cap, rfl, h1, h2, hf, hl⟩ := ht.open_
  obtain ⟨W0, hW0⟩ : ∃ W0, W0 = w.alloc (.cells #[.int .u8 x.k, .int .u8 x.op, .int .i64 x.pos, .int .i64 x.n, .string x.name, .string x.arg, .string x.exn, .slice a len cap] 41) := ⟨_, rfl⟩
  have y0 : Ext w W0 := by rw [hW0]; exact (Ext.refl _).alloc _
  have TA : TBox W0 w.heap.size x a len cap := by rw [hW0]; exact TBox.new w x a len cap 41
  have HL := Lib.hid hl
  have HF := Lib.hid hf
  have HW0 := Lib.hid hW0
  have HTA := Lib.hid TA
  have HY0 := Lib.hid y0
  have hbl0 := TA.lt
  clear ht hf hl hkn hW0 TA y0 hsz
  generalize hgt : (Tm.mk x l).great = gt at *
  generalize hmt : (Tm.mk x l).may = mt at *
  have HMT := Lib.hid hmt
  clear hgt hmt
  have hcases : gt = true ∨ (gt = false ∧ mt = false) ∨ (gt = false ∧ mt = true ∧ 300 < (Tm.mk x l).size) ∨ (gt = false ∧ mt = true ∧ (Tm.mk x l).size ≤ 300 ∧ 100 < name.size) ∨ (gt = false ∧ mt = true ∧ (Tm.mk x l).size ≤ 300 ∧ name.size ≤ 100) := by
    cases gt <;> cases mt <;> simp <;> omega
  rcases hcases with rfl | ⟨rfl, rfl⟩ | ⟨rfl, rfl, h3⟩ | ⟨rfl, rfl, h3, h4⟩ | ⟨rfl, rfl, h3, h4⟩
  case inr.inr.inr.inr =>
    have hz := HSZ.out rfl
    have y0 := HY0.out
    have hd3 : ((Tm.mk x l).size : Int) ≤ 300 := by omega
    have hd4 : (name.size : Int) ≤ 100 := by omega
    generalize hsz : (Tm.mk x l).size = sz at *
    generalize hal : (Tm.mk x l).all = al at *
    clear hal
    go_enter Tryd.func6, Tryd.ntmps6
    go_upto_region 1 with fail
    rw [← HW0.out]
    obtain ⟨a0, a1, a2, a3, a4, a5, a6, a7⟩ := HTA.out
    go_upto_region 3 with (first | (go_at_call 28; (with_reducible refine (KG.out _ y0).mono ?_); rintro e wn ⟨rfl, xn⟩; have y0 := y0.trans xn; have a0 := xn.cell a0; have a1 := xn.cell a1; have a2 := xn.cell a2; have a3 := xn.cell a3; have a4 := xn.cell a4; have a5 := xn.cell a5; have a6 := xn.cell a6; have a7 := xn.cell a7) | (go_at_call 29; (with_reducible refine (KM.out _ y0 hz).mono ?_); rintro e wn ⟨rfl, xn⟩; have y0 := y0.trans xn; have a0 := xn.cell a0; have a1 := xn.cell a1; have a2 := xn.cell a2; have a3 := xn.cell a3; have a4 := xn.cell a4; have a5 := xn.cell a5; have a6 := xn.cell a6; have a7 := xn.cell a7) | (go_at_call 30; (with_reducible refine (KL.out _ y0 hz).mono ?_); rintro e wn ⟨vv, ys, rfl, ho2, hf2, xn⟩; rw [HAL.out] at ho2; obtain ⟨g2, cap2, rfl, _, _, _, _, hcells⟩ := owns_open ho2 hpos; clear ho2 hf2 hcells; have y0 := y0.trans xn; have a0 := xn.cell a0; have a1 := xn.cell a1; have a2 := xn.cell a2; have a3 := xn.cell a3; have a4 := xn.cell a4; have a5 := xn.cell a5; have a6 := xn.cell a6; have a7 := xn.cell a7))
    obtain ⟨W1, rfl⟩ : ∃ W1, W1 = wn := ⟨_, rfl⟩
    have y1 : Ext w W1 := y0
    have TA1 : TBox W1 w.heap.size x a len cap := ⟨a0, a1, a2, a3, a4, a5, a6, a7⟩
    have hb1 := TA1.lt
    obtain ⟨W2, hW2⟩ : ∃ W2, W2 = (W1.alloc (.cells #[.int .u8 x.k, .int .u8 x.op, .int .i64 x.pos, .int .i64 x.n, .string x.name, .string x.arg, .string x.exn, .slice a len cap] 41)).alloc (.cells #[.int .u8 11, .int .u8 0, .int .i64 0, .int .i64 0, .string ⟨#[]⟩, .string name, .string ⟨#[]⟩, .slice (some ⟨W1.heap.size, 0, none⟩) 1 1] 41) := ⟨_, rfl⟩
    have x2 : Ext W1 W2 := by rw [hW2]; exact ((Ext.refl _).alloc _).alloc _
    have hs2 : W2.heap.size = W1.heap.size + 2 := by rw [hW2]; simp
    have TF : TBox W2 (W1.heap.size + 1) (hfn name) (some ⟨W1.heap.size, 0, none⟩) 1 1 := by
      rw [hW2]
      have h := TBox.new (W1.alloc (.cells #[.int .u8 x.k, .int .u8 x.op, .int .i64 x.pos, .int .i64 x.n, .string x.name, .string x.arg, .string x.exn, .slice a len cap] 41)) (hfn name) (some ⟨W1.heap.size, 0, none⟩) 1 1 41
      rw [World.size_alloc] at h
      exact h
    have RK : IsTms W2 [.mk x l] (some ⟨W1.heap.size, 0, none⟩) 1 := by
      rw [hW2]
      exact (IsTms.new 41 (HL.out.ext y1) h1 h2 HF.out).ext ((Ext.refl _).alloc _)
    have KMF := Lib.hid (ref4_may (.mk (hfn name) [.mk x l]) W2 (tval (hfn name) (some ⟨W1.heap.size, 0, none⟩) 1 1) (IsTmA.mk_ RK (Nat.le_refl _) (by omega) (fits_fn name hname)) (by simp only [Tm.size, Tm.sizes] at hsz ⊢; omega))
    have TA2 := TA1.ext x2
    have HTF := Lib.hid TF
    have HRK := Lib.hid RK
    have HTA2 := Lib.hid TA2
    have HW2 := Lib.hid hW2
    have HY1 := Lib.hid y1
    have HX2 := Lib.hid x2
    have HS2 := Lib.hid hs2
    obtain ⟨mf, hmf⟩ : ∃ mf, mf = (Tm.mk (hfn name) [.mk x l]).may := ⟨_, rfl⟩
    rw [← hmf] at KMF
    have HMF := Lib.hid hmf
    unfold tval hfn at KMF
    simp only at KMF
    clear TF RK TA1 TA2 hW2 hmf y0 y1 x2 hs2
    cases mf
    · go_wp2_with fail
      rw [← HW2.out]
      refine (KMF.out).mono ?_
      rintro e w3 ⟨rfl, x3⟩
      go_wp2_with (go_at_call 25; refine (KA.out _ (HY1.out.trans (HX2.out.trans x3))).mono ?_; rintro e w4 ⟨rfl, x4⟩)
      go_ret
      exact ⟨rfl, (HY1.out.trans (HX2.out.trans x3)).trans x4⟩
    · go_wp2_with fail
      rw [← HW2.out]
      refine (KMF.out).mono ?_
      rintro e w3 ⟨rfl, x3⟩
      have hmf : (Tm.mk (hfn name) [.mk x l]).may = true := HMF.out.symm
      have hml := LM.out hmf (by omega)
      have e1 := FF.out hmf
      have e2 := LF.out hml
      have e3 := FR.out (by trivial)
      obtain ⟨a0, a1, a2, a3, a4, a5, a6, a7⟩ := HTA2.out.ext x3
      have y3 : Ext w w3 := HY1.out.trans (HX2.out.trans x3)
      have hb3 : w.heap.size < w3.heap.size := by have := HX2.out.size; have := x3.size; omega
      have hb31 : w.heap.size < w3.heap.size + 1 := by omega
      have hb32 : w.heap.size < w3.heap.size + 1 + 1 := by omega
      obtain ⟨W4, hW4⟩ : ∃ W4, W4 = ((w3.alloc (.cells #[.int .u8 1, .int .u8 0, .int .i64 0, .int .i64 0, .string ⟨#[]⟩, .string ⟨#[]⟩, .string ⟨#[]⟩, .slice none 0 0, .int .u8 x.k, .int .u8 x.op, .int .i64 x.pos, .int .i64 x.n, .string x.name, .string x.arg, .string x.exn, .slice a len cap] 41)).alloc (.cells #[.int .u8 12, .int .u8 0, .int .i64 0, .int .i64 0, .string name, .string ⟨#[]⟩, .string ⟨#[]⟩, .slice (some ⟨w3.heap.size, 0, none⟩) 2 2] 41)).alloc (.cells #[] 9) := ⟨_, rfl⟩
      have x4 : Ext w3 W4 := by rw [hW4]; exact (((Ext.refl _).alloc _).alloc _).alloc _
      have hs4 : W4.heap.size = w3.heap.size + 3 := by rw [hW4]; simp
      obtain ⟨Wb, hWb⟩ : ∃ Wb, Wb = (w3.alloc (.cells #[.int .u8 1, .int .u8 0, .int .i64 0, .int .i64 0, .string ⟨#[]⟩, .string ⟨#[]⟩, .string ⟨#[]⟩, .slice none 0 0, .int .u8 x.k, .int .u8 x.op, .int .i64 x.pos, .int .i64 x.n, .string x.name, .string x.arg, .string x.exn, .slice a len cap] 41)).alloc (.cells #[.int .u8 12, .int .u8 0, .int .i64 0, .int .i64 0, .string name, .string ⟨#[]⟩, .string ⟨#[]⟩, .slice (some ⟨w3.heap.size, 0, none⟩) 2 2] 41) := ⟨_, rfl⟩
      have x4b : Ext Wb W4 := by rw [hW4, hWb]; exact (Ext.refl _).alloc _
      have x3b : Ext w3 Wb := by rw [hWb]; exact ((Ext.refl _).alloc _).alloc _
      have hsb : Wb.heap.size = w3.heap.size + 2 := by rw [hWb]; simp
      have TL : TBox Wb (w3.heap.size + 1) (hlt name) (some ⟨w3.heap.size, 0, none⟩) 2 2 := by
        rw [hWb]
        have h := TBox.new (w3.alloc (.cells #[.int .u8 1, .int .u8 0, .int .i64 0, .int .i64 0, .string ⟨#[]⟩, .string ⟨#[]⟩, .string ⟨#[]⟩, .slice none 0 0, .int .u8 x.k, .int .u8 x.op, .int .i64 x.pos, .int .i64 x.n, .string x.name, .string x.arg, .string x.exn, .slice a len cap] 41)) (hlt name) (some ⟨w3.heap.size, 0, none⟩) 2 2 41
        rw [World.size_alloc] at h
        exact h
      have RL : IsTms Wb [.mk h0n [], .mk x l] (some ⟨w3.heap.size, 0, none⟩) 2 := by
        rw [hWb]
        exact (IsTms.new2 (h := h0n) (l := []) (a := none) (len := 0) (cap := 0) 41 (IsTmsA.nil _) (Nat.le_refl _) (by omega) fits_0n (HL.out.ext y3) h1 h2 HF.out).ext ((Ext.refl _).alloc _)
      have RE : W4.ownsRow (w3.heap.size + 2) 9 1 (.slice (some ⟨w3.heap.size + 2, 0, none⟩) 0 0) 0 [] := by
        rw [hW4]
        have h := owns_new ((w3.alloc (.cells #[.int .u8 1, .int .u8 0, .int .i64 0, .int .i64 0, .string ⟨#[]⟩, .string ⟨#[]⟩, .string ⟨#[]⟩, .slice none 0 0, .int .u8 x.k, .int .u8 x.op, .int .i64 x.pos, .int .i64 x.n, .string x.name, .string x.arg, .string x.exn, .slice a len cap] 41)).alloc (.cells #[.int .u8 12, .int .u8 0, .int .i64 0, .int .i64 0, .string name, .string ⟨#[]⟩, .string ⟨#[]⟩, .slice (some ⟨w3.heap.size, 0, none⟩) 2 2] 41)) (w3.heap.size + 2) 9 1 0 [] (by simp) (by unfold maxLen; omega) rfl
        rw [World.size_alloc, World.size_alloc] at h
        exact h
      have TF3 := HTF.out.ext x3
      have RK3 := HRK.out.ext x3
      have y4 := y3.trans x4
      have KF := Lib.hid (scope_free_own [.mk x l] (W4.alloc (.cells #[.int .u8 x.k, .int .u8 x.op, .int .i64 x.pos, .int .i64 x.n, .string x.name, .string x.arg, .string x.exn, .slice a len cap] 41)) (some ⟨W4.heap.size, 0, none⟩) 1 1 (by simp only [Tm.sizes]; omega) (Nat.le_refl _) (by omega) (IsTms.new 41 (HL.out.ext y4) h1 h2 HF.out) (HKN.out.ext (y4.alloc _)))
      rw [e3, hs4] at KF
      have HW4 := Lib.hid hW4
      have HTL := Lib.hid TL
      have HRL := Lib.hid RL
      have HRE := Lib.hid RE
      have HTF3 := Lib.hid TF3
      have HRK3 := Lib.hid RK3
      have HX3B := Lib.hid x3b
      have HX4B := Lib.hid x4b
      have HSB := Lib.hid hsb
      have HY3 := Lib.hid y3
      have HMFN := Lib.hid hmf
      have HML := Lib.hid hml
      have HE1 := Lib.hid e1
      have HE2 := Lib.hid e2
      have HS4 := Lib.hid hs4
      have HY4 := Lib.hid y4
      have HX34 := Lib.hid (show W1.heap.size + 2 ≤ w3.heap.size from by rw [← HS2.out]; exact x3.size)
      clear e1 e2 e3 hmf hml hW4 hWb TL RL RE TF3 RK3 hs4 y4 x4 x3b x4b hsb y3
      go_wp2_with fail
      rw [← HW4.out]
      refine (KF.out).mono ?_
      rintro e w5 ⟨v5, rfl, ho5, x5⟩
      have hs44 := HS4.out
      obtain ⟨a8, c8, rfl, N8⟩ := nm_owned_at (A := fun k => k < W4.heap.size) ho5 (fun k hk => by simp; omega)
      have X45 : Ext W4 w5 := ((Ext.refl _).alloc _).trans x5
      have hfl := FL.out
      have KFF := Lib.hid fun W b (h : Ext w W) (hi : IsTms W [.mk (hfn name) [.mk x l]] b 1) => scope_free [.mk (hfn name) [.mk x l]] W b 1 1 (by simp only [Tm.sizes, Tm.size] at hsz ⊢; omega) (Nat.le_refl _) (by omega) hi (HKN.out.ext h)
      have KFL := Lib.hid fun W b (h : Ext w W) (hi : IsTms W [.mk (hlt name) [.mk h0n [], .mk x l]] b 1) => scope_free [.mk (hlt name) [.mk h0n [], .mk x l]] W b 1 1 (by simp only [Tm.sizes, Tm.size] at hsz ⊢; omega) (Nat.le_refl _) (by omega) hi (HKN.out.ext h)
      rw [HE1.out] at KFF
      rw [HE2.out] at KFL
      generalize (Tm.mk x l).free = nf at *
      have G0 : Grow w5 (.slice (some ⟨w3.heap.size + 2, 0, none⟩) 0 0) [] (.slice (some ⟨w3.heap.size + 2, 0, none⟩) 0 0) w5 := Grow.start (L := []) (owns_ext X45 HRE.out)
      have HG0 := Lib.hid G0
      have HN8 := Lib.hid N8
      have g8a := N8.le
      have g8b := N8.max
      have XB5 : Hid (Ext Wb w5) := Lib.hid (HX4B.out.trans X45)
      have hsz5 := X45.size
      obtain ⟨i0, hi, hz0, hz1', hz2'⟩ := infoStr1
      have HIN := Lib.hid (And.intro hi (And.intro hz0 (And.intro hz1' hz2')))
      clear G0 N8 ho5 x5 X45 hi hz0 hz1' hz2'
      go_wp2_with fail
      go_loopg [7, 9] nf.length (fun g s i wr => ∃ j : Nat, g = nf.length - j ∧ j ≤ nf.length ∧ i = .int .i64 j ∧ Grow w5 (.slice (some ⟨w3.heap.size + 2, 0, none⟩) 0 0) (less (nf.take j) name) s wr)
      case atStart => exact ⟨0, by omega, by omega, rfl, by simpa [less] using HG0.out⟩
      case round =>
        obtain ⟨j, rfl, hj, rfl, hG⟩ := hrel
        have HG := Lib.hid hG
        obtain ⟨ar5, cs, rfl, f1, f2, f3⟩ := hG.open_
        have own0 : ∀ k, (Value.slice (some ⟨w3.heap.size + 2, 0, none⟩) 0 0).ownBlock = some k → k = w3.heap.size + 2 := fun k hk => by simpa [Value.ownBlock, eq_comm] using hk
        have hr8 : IsRow wr (vstr nf) a8 nf.length := row_extx hG.ext (fun p e h => (HN8.out.off p e).1 (by have := own0 _ h; rw [HS4.out]; omega)) HN8.out.row
        have HR8 := Lib.hid hr8
        have F3 := Lib.hid f3
        have HOW := Lib.hid own0
        have hll : (less (nf.take j) name).length ≤ nf.length := Nat.le_trans (List.length_filter_le _ _) (by rw [List.length_take]; omega)
        clear hG f3 hr8 own0
        by_cases hjl : j < nf.length
        · obtain ⟨z, b, o, g, rfl, q⟩ := HR8.out.str hjl
          have HP := Lib.hid (less_succ nf name j z g)
          generalize less (nf.take j) name = Lj at *
          clear g
          cases hin : (z.toList == name.toList)
          · have hne : (!(z.toList == name.toList)) = true := by rw [hin]; rfl
            rw [hin] at HP
            have hb2 := block_lt_of_cell q
            simp only at hb2
            clear hin
            go_wp2_with (at_builtin; refine wpList_append_mine rfl (.tmp 61) (.tmp 66) 51 rfl 0 9 i0 (.string ByteArray.empty) 1 16 Tryd.underlying51 HIN.out.1 HIN.out.2.1 HIN.out.2.2.1 HIN.out.2.2.2 rfl (by decide) (Value.slice ar5 Lj.length cs) Lj.length (vstr Lj) rfl (HG.out.later ((Ext.refl _).alloc _)).own ⟨wr.heap.size, 0, none⟩ 1 1 [.string z] rfl rfl (fun i u hu => by rw [Addr.add_lit, Nat.zero_add]; exact (World.cell?_alloc_new wr _ _ _).trans (by simpa using hu)) (fun u hu => by simp at hu; subst hu; rfl) (by unfold maxLen; omega) (by omega) (Nat.zero_le _) ?_; intro v9 w9 ho9 hg9 hw9; have HG9 := Lib.hid ((HG.out.later ((Ext.refl _).alloc _)).more ho9 hg9 hw9); obtain ⟨a9, c9, rfl, _, _, _⟩ := owns_row1 ho9; clear ho9 hg9 hw9)
            go_roundg (nf.length - (j + 1))
            case rel => exact ⟨j + 1, rfl, by omega, by go_num, by rw [HP.out]; exact HG9.out⟩
            case measure => omega
          · have hne : (!(z.toList == name.toList)) = false := by rw [hin]; rfl
            rw [hin] at HP
            clear hin
            go_wp2_with fail
            go_roundg (nf.length - (j + 1))
            case rel => exact ⟨j + 1, rfl, by omega, by go_num, by rw [HP.out]; simpa using HG.out⟩
            case measure => omega
        · obtain rfl : j = nf.length := by omega
          have hL5 : less (nf.take nf.length) name = less nf name := by rw [List.take_length]
          generalize less (nf.take nf.length) name = L5 at *
          have HL5 := Lib.hid hL5
          have xb : Ext Wb wr := HG.out.ext_ XB5.out (fun k hk => by rw [HOW.out k hk, HSB.out]; exact Nat.le_refl _)
          have x3 : Ext w3 wr := HX3B.out.trans xb
          have y9 : Ext w wr := HY3.out.trans x3
          have TFr := HTF3.out.ext x3
          have TLr := HTL.out.ext xb
          have N2 : Hid (∀ W n, Ext wr W → n = W.heap.size → IsTms (W.alloc (.cells #[.int .u8 11, .int .u8 0, .int .i64 0, .int .i64 0, .string ⟨#[]⟩, .string name, .string ⟨#[]⟩, .slice (some ⟨W1.heap.size, 0, none⟩) 1 1] 41)) [.mk (hfn name) [.mk x l]] (some ⟨n, 0, none⟩) 1) := Lib.hid fun W n h e => by
            subst e
            exact IsTms.new (h := hfn name) 41 (HRK3.out.ext (x3.trans h)) (Nat.le_refl _) (by omega) (fits_fn name hname)
          have N3 : Hid (∀ W n, Ext wr W → n = W.heap.size → IsTms (W.alloc (.cells #[.int .u8 12, .int .u8 0, .int .i64 0, .int .i64 0, .string name, .string ⟨#[]⟩, .string ⟨#[]⟩, .slice (some ⟨w3.heap.size, 0, none⟩) 2 2] 41)) [.mk (hlt name) [.mk h0n [], .mk x l]] (some ⟨n, 0, none⟩) 1) := Lib.hid fun W n h e => by
            subst e
            exact IsTms.new (h := hlt name) 41 (HRL.out.ext (xb.trans h)) (Nat.le_refl _) (by omega) (fits_lt name hname)
          have f0 : wr.cell? ⟨W1.heap.size + 1, 0, none⟩ = some (.int .u8 11) := TFr.c0
          have f1' : wr.cell? ⟨W1.heap.size + 1, 1, none⟩ = some (.int .u8 0) := TFr.c1
          have f2' : wr.cell? ⟨W1.heap.size + 1, 2, none⟩ = some (.int .i64 0) := TFr.c2
          have f3' : wr.cell? ⟨W1.heap.size + 1, 3, none⟩ = some (.int .i64 0) := TFr.c3
          have f4 : wr.cell? ⟨W1.heap.size + 1, 4, none⟩ = some (.string ⟨#[]⟩) := TFr.c4
          have f5 : wr.cell? ⟨W1.heap.size + 1, 5, none⟩ = some (.string name) := TFr.c5
          have f6 : wr.cell? ⟨W1.heap.size + 1, 6, none⟩ = some (.string ⟨#[]⟩) := TFr.c6
          have f7 : wr.cell? ⟨W1.heap.size + 1, 7, none⟩ = some (.slice (some ⟨W1.heap.size, 0, none⟩) 1 1) := TFr.c7
          have l0 : wr.cell? ⟨w3.heap.size + 1, 0, none⟩ = some (.int .u8 12) := TLr.c0
          have l1 : wr.cell? ⟨w3.heap.size + 1, 1, none⟩ = some (.int .u8 0) := TLr.c1
          have l2 : wr.cell? ⟨w3.heap.size + 1, 2, none⟩ = some (.int .i64 0) := TLr.c2
          have l3 : wr.cell? ⟨w3.heap.size + 1, 3, none⟩ = some (.int .i64 0) := TLr.c3
          have l4 : wr.cell? ⟨w3.heap.size + 1, 4, none⟩ = some (.string name) := TLr.c4
          have l5 : wr.cell? ⟨w3.heap.size + 1, 5, none⟩ = some (.string ⟨#[]⟩) := TLr.c5
          have l6 : wr.cell? ⟨w3.heap.size + 1, 6, none⟩ = some (.string ⟨#[]⟩) := TLr.c6
          have l7 : wr.cell? ⟨w3.heap.size + 1, 7, none⟩ = some (.slice (some ⟨w3.heap.size, 0, none⟩) 2 2) := TLr.c7
          rw [← HL5.out] at KFF KFL
          have same : ∀ L : List ByteArray, sameB L L = true := fun L => by simp [sameB]
          have S1 := Lib.hid (same L5)
          have Y9 := Lib.hid y9
          clear same hL5 HG HR8 TFr TLr xb x3 y9
          go_wp2_with fail
          refine (KFF.out _ _ (Y9.out.alloc _) (N2.out _ _ (Ext.refl _) rfl)).mono ?_
          rintro e w6 ⟨b6, n6, c6, rfl, k1, k2, k3, x6⟩
          have xx6 : Ext wr w6 := ((Ext.refl _).alloc _).trans x6
          have KS := Lib.hid (ref7_same L5 L5 w6 b6 ar5 n6 c6 L5.length cs k1 k2 f1 f2 k3 (F3.out.ext xx6))
          rw [S1.out] at KS
          clear k3
          go_wp2_with fail
          refine (KS.out).mono ?_
          rintro e w7 ⟨rfl, x7⟩
          have xx7 := xx6.trans x7
          have l0 := xx7.cell l0
          have l1 := xx7.cell l1
          have l2 := xx7.cell l2
          have l3 := xx7.cell l3
          have l4 := xx7.cell l4
          have l5 := xx7.cell l5
          have l6 := xx7.cell l6
          have l7 := xx7.cell l7
          go_wp2_with fail
          refine (KFL.out _ _ ((Y9.out.trans xx7).alloc _) (N3.out _ _ xx7 rfl)).mono ?_
          rintro e w8 ⟨b8, n8, c8', rfl, p1, p2, p3, x8⟩
          have xx8 : Ext wr w8 := xx7.trans (((Ext.refl _).alloc _).trans x8)
          have KT := Lib.hid (ref7_same L5 L5 w8 b8 ar5 n8 c8' L5.length cs p1 p2 f1 f2 p3 (F3.out.ext xx8))
          rw [S1.out] at KT
          clear p3
          go_wp2_with fail
          refine (KT.out).mono ?_
          rintro e w9 ⟨rfl, x9⟩
          have z9 := Y9.out.trans (xx8.trans x9)
          go_wp2_with fail
          refine (KA.out _ z9).mono ?_
          rintro e w10 ⟨rfl, x10⟩
          go_wp2_with fail
          go_ret
          exact ⟨rfl, z9.trans x10⟩
  all_goals
    have y0 := HY0.out
    try have hz := HSZ.out rfl
    try have hd3 : (300 : Int) < ((Tm.mk x l).size : Int) := by omega
    try have hd3 : ((Tm.mk x l).size : Int) ≤ 300 := by omega
    try have hd4 : (100 : Int) < (name.size : Int) := by omega
    generalize hsz : (Tm.mk x l).size = sz at *
    generalize hal : (Tm.mk x l).all = al at *
    clear hal
    go_enter Tryd.func6, Tryd.ntmps6
    go_upto_region 1 with fail
    rw [← HW0.out]
    obtain ⟨a0, a1, a2, a3, a4, a5, a6, a7⟩ := HTA.out
    go_wp2_with (first | (go_at_call 25; refine (KA.out _ y0).mono ?_; rintro e wn ⟨rfl, xn⟩; have y0 := y0.trans xn) | (go_at_call 28; (with_reducible refine (KG.out _ y0).mono ?_); rintro e wn ⟨rfl, xn⟩; have y0 := y0.trans xn; have a0 := xn.cell a0; have a1 := xn.cell a1; have a2 := xn.cell a2; have a3 := xn.cell a3; have a4 := xn.cell a4; have a5 := xn.cell a5; have a6 := xn.cell a6; have a7 := xn.cell a7) | (go_at_call 29; (with_reducible refine (KM.out _ y0 hz).mono ?_); rintro e wn ⟨rfl, xn⟩; have y0 := y0.trans xn; have a0 := xn.cell a0; have a1 := xn.cell a1; have a2 := xn.cell a2; have a3 := xn.cell a3; have a4 := xn.cell a4; have a5 := xn.cell a5; have a6 := xn.cell a6; have a7 := xn.cell a7) | (go_at_call 30; (with_reducible refine (KL.out _ y0 hz).mono ?_); rintro e wn ⟨vv, ys, rfl, ho2, hf2, xn⟩; rw [HAL.out] at ho2; obtain ⟨g2, cap2, rfl, _, _, _, _, hcells⟩ := owns_open ho2 hpos; clear ho2 hf2 hcells; have y0 := y0.trans xn))
    go_ret
    exact ⟨rfl, y0⟩
end Go.Proofs.YtmomahgedheekaaDoor
