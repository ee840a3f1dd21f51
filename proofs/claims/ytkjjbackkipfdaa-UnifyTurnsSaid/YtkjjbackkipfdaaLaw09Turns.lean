/- The walk of the law UnifyTurns. -/
import Derived.Test.YtkjjbackkipfdaaAw09c
namespace Go.Proofs.Ytkjjbackkipfdaa
open Go Go.RowKit Go.Sort

set_option maxRecDepth 8000 in
set_option maxHeartbeats 8000000 in
theorem law_unifyTurns (n : Int) (l : List Ty) (w : World) (a : Option Addr) (len cap : Nat) (hn0 : 0 ≤ n) (hn1 : n ≤ 255) (hc : len ≤ cap) (hm : cap ≤ maxLen) (hl : IsTys w l a len) :
    Calls Try.prog 5 #[.int .u8 n, .slice a len cap] w (Yes w) := by
  have hm : cap ≤ 9223372036854775807 := hm
  obtain ⟨N, rfl⟩ := Int.eq_ofNat_of_zero_le hn0
  have KG := Lib.hid fun (W : World) (h : Ext w W) => law_great l W a len cap hc hm (hl.ext h)
  have KA := Lib.hid fun W => law_awake9 W
  have HL := Lib.hid hl
  have HLL := Lib.hid hl.length
  clear hl
  by_cases hN : 20 < N
  · have hN' : (20 : Int) < (N : Int) := by omega
    clear hN
    go_enter Try.func5, Try.ntmps5
    go_wp2_with (go_at_call 10; (with_reducible refine (KA.out _).mono ?_); rintro e w3 ⟨rfl, x3⟩)
    go_ret
    exact ⟨rfl, x3⟩
  have hN' : ¬ (20 : Int) < (N : Int) := by omega
  cases hg : greatB l with
  | true =>
    rw [hg] at KG
    clear hg hN
    go_enter Try.func5, Try.ntmps5
    go_wp2_with (first | (go_at_call 9; (with_reducible refine (KG.out _ (Ext.refl _)).mono ?_); rintro e w2 ⟨rfl, x2⟩) | (go_at_call 10; (with_reducible refine (KA.out _).mono ?_); rintro e w3 ⟨rfl, x3⟩))
    go_ret
    exact ⟨rfl, x2.trans x3⟩
  | false =>
    rw [hg] at KG
    have hgl := (greatB_no hg).1
    have hl10 : len ≤ 10 := by have := HLL.out; omega
    have HI0 := Lib.hid (info_parts infoTyP)
    clear hg hgl
    go_enter Try.func5, Try.ntmps5
    go_upto_region 4 with (first | (go_at_call 9; (with_reducible refine (KG.out _ (Ext.refl _)).mono ?_); rintro e w2 ⟨rfl, x2⟩) | (go_at_call 11; (with_reducible refine (own_new w _ x2).mono ?_); rintro e w3 ⟨b1, m1, rfl, hO, x3⟩; have HO := Lib.hid hO) | (go_at_call 11; (with_reducible refine (pair_new w _ HO.out).mono ?_); rintro e w4 ⟨b2, m2, rfl, hP⟩; have HP := Lib.hid hP))
    clear hO x2 x3 hP
    go_upto_region 5 with fail
    go_loopg [7] N (fun g i wr => ∃ j : Nat, g = N - j ∧ i = .int .i64 j ∧ j ≤ N ∧ Pair w wr b1 m1 j (fun _ => none) b2 m2 j (fun _ => none))
    case atStart => exact ⟨0, by omega, rfl, by omega, HP.out⟩
    case round =>
      obtain ⟨j, rfl, rfl, hj, hP⟩ := hrel
      have HP := Lib.hid hP
      clear hP
      by_cases hlt : j < N
      · have KF := Lib.hid (pair_fresh HP.out (by omega))
        have HLT := Lib.hid hlt
        go_wp2_with (first | (go_at_call 14; (with_reducible refine (KF.out).mono ?_); rintro e w4 ⟨rfl, hP4⟩; have HP4 := Lib.hid hP4) | (go_at_call 14; (with_reducible refine (pair_fresh (HP4.out.turn) (by omega)).mono ?_); rintro e w5 ⟨rfl, hP5⟩; have HP5 := Lib.hid hP5.turn))
        clear hP4 hP5
        go_roundg (N - (j + 1))
        case rel =>
          have hlt := HLT.out
          exact ⟨j + 1, rfl, by go_num, by omega, HP5.out⟩
        case measure =>
          have hlt := HLT.out
          omega
      · obtain rfl : j = N := by omega
        clear hlt
        go_upto_region 11 with fail
        obtain ⟨i0, hi0, hz0, hz1', hz2'⟩ := HI0.out
        have HI := Lib.hid (And.intro hi0 (And.intro hz0 (And.intro hz1' hz2')))
        clear hi0 hz0 hz1' hz2' HI0
        have HOWN := Lib.hid (owns_none9 wr wr.heap.size 25 3 (Nat.le_refl _))
        have HXN := Lib.hid ((Ext.refl wr).alloc (.cells #[] 25))
        obtain ⟨W4, hW4⟩ : ∃ W4, W4 = wr := ⟨_, rfl⟩
        have HP4 : Hid (Pair w W4 b1 m1 j (fun _ => none) b2 m2 j (fun _ => none)) := Lib.hid (by rw [hW4]; exact HP.out)
        have hBw : w.heap.size ≤ W4.heap.size := HP4.out.one.ext.size
        rw [← hW4] at HOWN HXN
        rw [← hW4]
        clear hW4 HP
        go_loopg [8, 9] len (fun g s0 ix wr2 => ∃ (z : Nat) (vv : Value) (xs : List Value), vv = s0 ∧ g = len - z ∧ ix = .int .i64 ((len : Int) - 1 - z) ∧ z ≤ len ∧ TyRow NoA w ((l.drop (len - z)).reverse) xs ∧ wr2.ownsRow W4.heap.size 25 3 vv z xs ∧ (∀ u ∈ xs, u.oneCell' = true) ∧ Ext W4 wr2)
        case atStart =>
          refine ⟨0, _, [], rfl, by omega, by simp, by omega, ?_, HOWN.out, by simp, HXN.out⟩
          rw [List.drop_eq_nil_of_le (by have := HLL.out; omega)]; rfl
        case round =>
          obtain ⟨z, vv, xs, rfl, rfl, rfl, hz, htr, ho, h1, hx4⟩ := hrel
          have HTR := Lib.hid htr
          have HO := Lib.hid ho
          have H1 := Lib.hid h1
          have HX4 := Lib.hid hx4
          by_cases hlt : z < len
          · have hx := HP4.out.one.ext.trans hx4
            obtain ⟨u, ub, uo, c0, c1, c2, gu, rfl, q0, q1, q2, qt⟩ := HL.out.at3 (Ext.refl w) (show len - 1 - z < len by omega)
            have q0 := hx.cell q0
            have q1 := hx.cell q1
            have q2 := hx.cell q2
            obtain ⟨va, vc, rfl, hv1, hv2, -⟩ := (htr.ext hx).tysN ho
            have htn : ((len : Int) - 1 - (z : Int)).toNat = len - 1 - z := by omega
            have hi0 : (0 : Int) ≤ (len : Int) - 1 - z := by omega
            have hi1 : (len : Int) - 1 - z < (len : Int) := by omega
            have HN : Hid (TyRow NoA w ((l.drop (len - (z + 1))).reverse) (xs ++ [c0, c1, c2])) := Lib.hid (by
              obtain ⟨g1, g2⟩ := List.getElem?_eq_some_iff.1 gu
              have e : l.drop (len - (z + 1)) = u :: l.drop (len - z) := by
                rw [show len - (z + 1) = len - 1 - z by omega, List.drop_eq_getElem_cons g1, g2, show len - 1 - z + 1 = len - z by omega]
              rw [e, List.reverse_cons]
              exact htr.append qt)
            have HC := Lib.hid (ty_one qt)
            obtain ⟨uk, um, ul⟩ := u
            obtain ⟨xa, xl, xc, e, -, -, -, -, -, -, -⟩ := qt.open_
            simp at e
            obtain ⟨rfl, rfl, rfl⟩ := e
            have HLT := Lib.hid hlt
            clear gu qt hx htr ho h1 hx4
            have HROW := Lib.hid fun b hb => HO.out.lt b hb
            have hBr' := HX4.out.size
            go_upto_region 12 with (at_builtin; refine wpList_append_mine rfl (.tmp 42) (.tmp 47) 23 ?r0 W4.heap.size 25 i0 (.agg #[.int .u8 0, .int .i64 0, .slice none 0 0]) 3 40 ?r1 ?r2 ?r3 ?r4 ?r5 ?r6 ?r7 (Value.slice va z vc) z xs ?r8 ?r9 ⟨wr.heap.size, 0, none⟩ 1 1 [.int .u8 uk, .int .i64 um, .slice xa xl xc] ?r10 ?r11 ?r12 ?r13 ?r14 ?r15 ?r16 ?r17)
            try case r0 => rfl
            try case r1 => exact Try.underlying23
            case r2 => exact HI.out.1
            case r3 => exact HI.out.2.1
            case r4 => exact HI.out.2.2.1
            case r5 => exact HI.out.2.2.2
            try case r6 => rfl
            try case r7 => decide
            try case r8 => rfl
            case r9 => exact owns_ext ((Ext.refl _).alloc _) HO.out
            try case r10 => rfl
            try case r11 => rfl
            try case r12 => exact list_atT wr [.int .u8 uk, .int .i64 um, .slice xa xl xc] _
            case r13 => first | exact ⟨rfl, rfl, rfl⟩ | (intro u hu; simp at hu; rcases hu with rfl | rfl | rfl <;> rfl)
            case r14 => unfold maxLen; omega
            case r15 => omega
            case r16 => (try simp); omega
            case r17 =>
              intro v9 w9 ho9 hg9 hw9
              obtain ⟨g9, cap9, rfl, -⟩ := owns_open ho9 (by omega)
              have X9 := Lib.hid (ext_grown hg9 (HX4.out.alloc _) (fun k hk => (HROW.out k hk).1))
              have HO9 := Lib.hid ho9
              have H19 : Hid (∀ u ∈ xs ++ [.int .u8 uk, .int .i64 um, .slice xa xl xc], u.oneCell' = true) := Lib.hid (by
                intro u hu
                rcases List.mem_append.1 hu with hu | hu
                · exact H1.out u hu
                · simp at hu; rcases hu with rfl | rfl | rfl <;> rfl)
              clear ho9 hg9 hw9
              go_wp2_with fail
              go_roundg (len - (z + 1))
              case rel =>
                have hlt := HLT.out
                exact ⟨z + 1, _, _, rfl, rfl, by go_num, by omega, HN.out, HO9.out, H19.out, X9.out⟩
              case measure =>
                have hlt := HLT.out
                omega
          · obtain rfl : z = len := by omega
            rw [show z - z = 0 by omega, List.drop_zero] at htr
            obtain ⟨va, vc, rfl, hv1, hv2, hbt⟩ := (htr.ext (HP4.out.one.ext.trans hx4)).tysN ho
            have HBT := Lib.hid hbt
            have HP5 := Lib.hid (HP4.out.more hx4)
            have K1 := Lib.hid (pair_Join HP5.out l a z cap hc hm (HL.out.ext HP5.out.one.ext))
            clear htr hbt ho h1 hx4 HTR HO H1 HX4 HP4 HOWN HXN
            go_upto_region 16 with (first | (go_at_call 17; (with_reducible refine (K1.out).mono ?_); rintro e w5 ⟨S5, c1, m5, rfl, hJ5, hP5, k5⟩; have HJ5 := Lib.hid hJ5; have HP6 := Lib.hid hP5; have HB6 := Lib.hid (k5.tys _ _ _ HBT.out)) | (go_at_call 17; (with_reducible refine (pair_Join HP6.out.turn l.reverse va z vc hv1 hv2 HB6.out).mono ?_); rintro e w6 ⟨S6, c2, m6, rfl, hJ6, hP7, k6⟩; obtain ⟨hcc, hsol⟩ := JoinP.turn (fun t => List.mem_reverse.symm) HJ5.out hJ6; subst hcc; have HP7 := Lib.hid hP7.turn; have HJ6 := Lib.hid hJ6; have HSOL := Lib.hid hsol))
            clear hJ5 hP5 k5 hJ6 hP7 k6 hsol
            obtain ⟨σ, hσ⟩ := HP7.out.one.good.acy.sense
            obtain ⟨σ', hσ'⟩ := HP7.out.two.good.acy.sense
            obtain rfl : σ = σ' := sense_eq HP7.out.one.good HP7.out.two.good HSOL.out hσ hσ'
            have HS1 := Lib.hid hσ
            have HS2 := Lib.hid hσ'
            clear hσ hσ' K1 HP6
            go_upto_region 17 with fail
            go_loopg [10] j (fun g i wr => ∃ y : Nat, g = j - y ∧ i = .int .i64 y ∧ y ≤ j ∧ Ext w6 wr)
            case atStart => exact ⟨0, by omega, rfl, by omega, Ext.refl _⟩
            case round =>
              obtain ⟨y, rfl, rfl, hy, hx⟩ := hrel
              have HX := Lib.hid hx
              clear hx
              by_cases hlt : y < j
              · obtain ⟨⟨T, E⟩, hT⟩ : ∃ p, tell j σ (vr y) 2000 = p := ⟨_, rfl⟩
                have KS1 := Lib.hid fun W (h : Ext wr W) => own_Sense (HP7.out.one.more (HX.out.trans h)) HS1.out (vr y) 2000 none 0 0 (vr_ty (by omega) (by omega)) (by omega) (by omega) T E hT
                have KS2 := Lib.hid fun W (h : Ext wr W) => own_Sense (HP7.out.two.more (HX.out.trans h)) HS2.out (vr y) 2000 none 0 0 (vr_ty (by omega) (by omega)) (by omega) (by omega) T E hT
                simp only [vr, ty_kind, ty_var] at KS1 KS2
                have HLT := Lib.hid hlt
                clear hT
                go_upto_region 20 with (first | (go_at_call 15; (refine (law_v _ _).mono ?_); rintro e w7 ⟨rfl, x7⟩) | (go_at_call 18; (with_reducible refine (KS1.out _ x7).mono ?_); rintro e w8 ⟨xa, xl, xc, rfl, hT1, x8⟩))
                have B11 := Lib.hid (Blk.new w8 25 #[.int .u8 T.kind, .int .i64 T.var, .slice xa xl xc])
                have X9 := Lib.hid ((x7.trans x8).alloc (.cells #[.int .u8 T.kind, .int .i64 T.var, .slice xa xl xc] 25))
                have T1 := Lib.hid (hT1.ext ((Ext.refl _).alloc (.cells #[.int .u8 T.kind, .int .i64 T.var, .slice xa xl xc] 25)))
                obtain ⟨b11, hb11⟩ : ∃ b, b = w8.heap.size := ⟨_, rfl⟩
                rw [← hb11] at B11
                rw [← hb11]
                clear hb11 x7 x8 hT1
                generalize (w8.alloc (.cells #[.int .u8 T.kind, .int .i64 T.var, .slice xa xl xc] 25)) = W9 at *
                go_upto_region 21 with (first | (go_at_call 15; (refine (law_v _ _).mono ?_); rintro e w10 ⟨rfl, x10⟩) | (go_at_call 18; (with_reducible refine (KS2.out _ (X9.out.trans x10)).mono ?_); rintro e w11 ⟨ya, yl, yc, rfl, hT2, x11⟩))
                have F11 := Lib.hid ((B11.out.ext (x10.trans x11)).alloc (.cells #[.int .u8 T.kind, .int .i64 T.var, .slice ya yl yc] 25))
                have F13 := Lib.hid (Blk.new w11 25 #[.int .u8 T.kind, .int .i64 T.var, .slice ya yl yc])
                have T1' := Lib.hid ((T1.out.ext (x10.trans x11)).ext ((Ext.refl _).alloc (.cells #[.int .u8 T.kind, .int .i64 T.var, .slice ya yl yc] 25)))
                have T2' := Lib.hid (hT2.ext ((Ext.refl _).alloc (.cells #[.int .u8 T.kind, .int .i64 T.var, .slice ya yl yc] 25)))
                have X13 := Lib.hid (((X9.out.trans x10).trans x11).alloc (.cells #[.int .u8 T.kind, .int .i64 T.var, .slice ya yl yc] 25))
                obtain ⟨b13, hb13⟩ : ∃ b, b = w11.heap.size := ⟨_, rfl⟩
                rw [← hb13] at F13
                rw [← hb13]
                clear hb13 hT2 x10 x11 KS1 KS2
                generalize (w11.alloc (.cells #[.int .u8 T.kind, .int .i64 T.var, .slice ya yl yc] 25)) = W13 at *
                have KE := Lib.hid (ref_same T.size T T W13 (.agg #[.int .u8 T.kind, .int .i64 T.var, .slice xa xl xc]) (.agg #[.int .u8 T.kind, .int .i64 T.var, .slice ya yl yc]) (Nat.le_refl _) T1'.out T2'.out)
                rw [(Ty.same_iff T T).2 rfl] at KE
                obtain ⟨p0, p1, p2⟩ := F11.out.three
                obtain ⟨q0, q1, q2⟩ := F13.out.three
                go_wp2_with (go_at_call 13; (with_reducible refine (KE.out).mono ?_); rintro e w14 ⟨rfl, x14⟩)
                have HE := Lib.hid (HX.out.trans (X13.out.trans x14))
                go_roundg (j - (y + 1))
                case rel =>
                  have hlt := HLT.out
                  exact ⟨y + 1, rfl, by go_num, by omega, HE.out⟩
                case measure =>
                  have hlt := HLT.out
                  omega
              · obtain rfl : y = j := by omega
                go_wp2_with (go_at_call 10; (with_reducible refine (KA.out _).mono ?_); rintro e w15 ⟨rfl, x15⟩)
                go_ret
                exact ⟨rfl, (HP7.out.one.ext.trans HX.out).trans x15⟩
end Go.Proofs.Ytkjjbackkipfdaa
