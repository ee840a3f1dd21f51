/- The walk of the law UnifyAgain. -/
import Derived.Test.YtkjjbackkipfdaaAw09b
namespace Go.Proofs.Ytkjjbackkipfdaa
open Go Go.RowKit Go.Sort

set_option maxRecDepth 8000 in
set_option maxHeartbeats 8000000 in
theorem law_unifyAgain (n : Int) (l : List Ty) (k : Int) (w : World) (a : Option Addr) (len cap : Nat) (hn0 : 0 ≤ n) (hn1 : n ≤ 255) (hc : len ≤ cap) (hm : cap ≤ maxLen) (hl : IsTys w l a len) (hk0 : 0 ≤ k) (hk1 : k ≤ 255) :
    Calls Try.prog 8 #[.int .u8 n, .slice a len cap, .int .u8 k] w (Yes w) := by
  have hm : cap ≤ 9223372036854775807 := hm
  obtain ⟨N, rfl⟩ := Int.eq_ofNat_of_zero_le hn0
  have KG := Lib.hid fun (W : World) (h : Ext w W) => law_great l W a len cap hc hm (hl.ext h)
  have KA := Lib.hid fun W => law_awake9 W
  have HL := Lib.hid hl
  have HLL := Lib.hid hl.length
  clear hl
  by_cases hN : 20 < N
  · have hN' : (20 : Int) < (N : Int) := by omega
    clear hN
    go_enter Try.func8, Try.ntmps8
    go_wp2_with (go_at_call 10; (with_reducible refine (KA.out _).mono ?_); rintro e w3 ⟨rfl, x3⟩)
    go_ret
    exact ⟨rfl, x3⟩
  have hN' : ¬ (20 : Int) < (N : Int) := by omega
  cases hg : greatB l with
  | true =>
    rw [hg] at KG
    clear hg hN
    go_enter Try.func8, Try.ntmps8
    go_wp2_with (first | (go_at_call 9; (with_reducible refine (KG.out _ (Ext.refl _)).mono ?_); rintro e w2 ⟨rfl, x2⟩) | (go_at_call 10; (with_reducible refine (KA.out _).mono ?_); rintro e w3 ⟨rfl, x3⟩))
    go_ret
    exact ⟨rfl, x2.trans x3⟩
  | false =>
    rw [hg] at KG
    have hgl := (greatB_no hg).1
    have hl10 : len ≤ 10 := by have := HLL.out; omega
    clear hg hgl
    go_enter Try.func8, Try.ntmps8
    go_upto_region 4 with (first | (go_at_call 9; (with_reducible refine (KG.out _ (Ext.refl _)).mono ?_); rintro e w2 ⟨rfl, x2⟩) | (go_at_call 11; (refine (own_new w _ x2).mono ?_); rintro e w3 ⟨bb, mb, rfl, hO, x3⟩))
    have HO := Lib.hid hO
    clear hO x2 x3
    go_upto_region 5 with fail
    go_loopg [8] N (fun g i wr => ∃ j : Nat, g = N - j ∧ i = .int .i64 j ∧ j ≤ N ∧ Own w wr bb mb j (fun _ => none))
    case atStart => exact ⟨0, by omega, rfl, by omega, HO.out⟩
    case round =>
      obtain ⟨j, rfl, rfl, hj, hO⟩ := hrel
      have HO := Lib.hid hO
      clear hO
      by_cases hlt : j < N
      · have KF := Lib.hid (own_fresh HO.out (by omega))
        have HLT := Lib.hid hlt
        go_wp2_with (go_at_call 14; (with_reducible refine (KF.out).mono ?_); rintro e w4 ⟨rfl, hO4, k4, x4⟩)
        have HO4 := Lib.hid hO4
        clear hO4 k4 x4
        go_roundg (N - (j + 1))
        case rel =>
          have hlt := HLT.out
          exact ⟨j + 1, rfl, by go_num, by omega, HO4.out⟩
        case measure =>
          have hlt := HLT.out
          omega
      · obtain rfl : j = N := by omega
        clear hlt
        go_upto_region 8 with fail
        have KJ := Lib.hid (own_Join HO.out l a len cap hc hm (HL.out.ext HO.out.ext))
        go_upto_region 10 with (first | (go_at_call 17; (with_reducible refine (KJ.out).mono ?_); rintro e w5 ⟨S5, ok, mb5, rfl, hJ, hO5, k5, x5⟩; have HJ := Lib.hid hJ; have HO5 := Lib.hid hO5; clear hJ hO5 k5 x5) | (go_at_call 10; (with_reducible refine (KA.out _).mono ?_); rintro e w6 ⟨rfl, x6⟩))
        · go_ret
          exact ⟨rfl, HO5.out.ext.trans x6⟩
        · rename (!ok) = false => hok
          obtain rfl : ok = true := by simpa using hok
          clear hok
          obtain ⟨σ, hσ⟩ := HJ.out.good.acy.sense
          have HS := Lib.hid hσ
          obtain ⟨q, hq⟩ : ∃ q, k % 20 = q := ⟨_, rfl⟩
          have hq0 : 0 ≤ q := by omega
          have hq1 : q < 20 := by omega
          obtain ⟨⟨T, E⟩, hT⟩ : ∃ p, tell j σ (vr q) 2000 = p := ⟨_, rfl⟩
          have KS := Lib.hid fun W (h : Ext w5 W) => own_Sense (HO5.out.more h) hσ (vr q) 2000 none 0 0 (vr_ty (by omega) (by omega)) (by omega) (by omega) T E hT
          simp only [vr, ty_kind, ty_var] at KS
          have HT := Lib.hid hT
          have HE := Lib.hid (tell_err hT)
          clear hσ hT
          rw [← hq] at KS
          have HQ := Lib.hid hq
          clear hq
          go_upto_region 11 with (first | (go_at_call 15; refine (law_v _ _).mono ?_; rintro e w6 ⟨rfl, x6⟩) | (go_at_call 18; (with_reducible refine (KS.out _ x6).mono ?_); rintro e w7 ⟨xa, xl, xc, rfl, hT, x7⟩))
          have HO8 := Lib.hid ((HO5.out.more (x6.trans x7)).more ((Ext.refl _).alloc (.cells #[.int .u8 T.kind, .int .i64 T.var, .slice xa xl xc] 25)))
          have B9 := Lib.hid (Blk.new w7 25 #[.int .u8 T.kind, .int .i64 T.var, .slice xa xl xc])
          have HT8 := Lib.hid (hT.ext ((Ext.refl _).alloc (.cells #[.int .u8 T.kind, .int .i64 T.var, .slice xa xl xc] 25)))
          obtain ⟨b9, hb9⟩ : ∃ b, b = w7.heap.size := ⟨_, rfl⟩
          rw [← hb9] at B9
          rw [← hb9]
          clear hb9 hT x6 x7 KS KJ HO5
          generalize (w7.alloc (.cells #[.int .u8 T.kind, .int .i64 T.var, .slice xa xl xc] 25)) = W8 at *
          go_upto_region 12 with fail
          go_loopg [11] len (fun g i wr => ∃ (z mz : Nat) (Sz : St), g = len - z ∧ i = .int .i64 z ∧ z ≤ len ∧ Own w wr bb mz j Sz ∧ (∀ θ, Sol Sz θ ↔ Sol S5 θ) ∧ Keeps W8 wr)
          case atStart => exact ⟨0, _, S5, by omega, rfl, by omega, HO8.out, fun _ => Iff.rfl, Keeps.refl _⟩
          case round =>
            obtain ⟨z, mz, Sz, rfl, rfl, hz, hO, hsz, hk⟩ := hrel
            have HO := Lib.hid hO
            have HSZ := Lib.hid hsz
            have HK := Lib.hid hk
            clear hO hsz hk
            by_cases hlt : z + 1 < len
            · have hx := HO.out.ext
              obtain ⟨u, ub, uo, c0, c1, c2, gu, rfl, q0, q1, q2, qt⟩ := HL.out.at3 (Ext.refl w) hlt
              obtain ⟨v, vb, vo, d0, d1, d2, gv, ev, r0, r1, r2, rt⟩ := HL.out.at3 (Ext.refl w) (show z < len by omega)
              injection ev with ev
              injection ev with e1 e2
              subst e1 e2
              have hub : ub < w.heap.size := block_lt_of_cell q0
              have hbb := HO.out.hb
              have hmm := HO.out.hm
              have hnb : ¬ (ub = bb ∨ ub = mz) := by omega
              have KJ := Lib.hid fun (W : World) (g : Nat) (h : Ext wr W) (hg : Blk W g 25 #[c0, c1, c2, d0, d1, d2]) => (own_Join2 (HO.out.more h) u v g c0 c1 c2 d0 d1 d2 (qt.ext (hx.trans h)) (rt.ext (hx.trans h)) hg).mono fun e w' ⟨S', b, mb', g1, g2, g3, g4, g5⟩ => show ∃ S' mb', e = Ending.returned (.bool true) ∧ (∀ θ, Sol S' θ ↔ Sol S5 θ) ∧ Own w w' bb mb' j S' ∧ Keeps wr w' ∧ ExtX (fun j => j = bb ∨ j = mz) wr w' from by
                have hJ := HJ.out.yes rfl
                obtain ⟨rfl, h2⟩ := JoinP.again hJ.1 (fun θ hθ => ((hJ.2 θ).1 ((HSZ.out θ).1 hθ)).2) HO.out.good (List.mem_of_getElem? gu) (List.mem_of_getElem? gv) g2
                exact ⟨S', mb', g1, fun θ => (h2 θ).trans (HSZ.out θ), g3, (Keeps.of h).trans g4, (ExtX.of h).trans g5⟩
              have q0 := fun W' (h : ExtX (fun b => b = bb ∨ b = mz) wr W') => h.cell hnb (hx.cell q0)
              have q1 := fun W' (h : ExtX (fun b => b = bb ∨ b = mz) wr W') => h.cell hnb (hx.cell q1)
              have q2 := fun W' (h : ExtX (fun b => b = bb ∨ b = mz) wr W') => h.cell hnb (hx.cell q2)
              have r0 := fun W' (h : ExtX (fun b => b = bb ∨ b = mz) wr W') => h.cell hnb (hx.cell r0)
              have r1 := fun W' (h : ExtX (fun b => b = bb ∨ b = mz) wr W') => h.cell hnb (hx.cell r1)
              have r2 := fun W' (h : ExtX (fun b => b = bb ∨ b = mz) wr W') => h.cell hnb (hx.cell r2)
              obtain ⟨uk, um, ul⟩ := u
              obtain ⟨xa', xl', xc', e, -, -, -, -, -, -, -⟩ := qt.open_
              simp at e
              obtain ⟨rfl, rfl, rfl⟩ := e
              obtain ⟨vk, vm, vl⟩ := v
              obtain ⟨ya, yl, yc, e, -, -, -, -, -, -, -⟩ := rt.open_
              simp at e
              obtain ⟨rfl, rfl, rfl⟩ := e
              have hlt' : (z : Int) + 1 < (len : Int) := by omega
              have hlz : z < len := by omega
              have HLT := Lib.hid hlt
              clear gu gv qt rt hx hub hbb hmm
              go_upto_region 14 with fail
              have htn : ((z : Int) + 1).toNat = z + 1 := by omega
              have hwz : IntKind.i64.wrap ((z : Int) + 1) = (z : Int) + 1 := IntWalk.i64_in _ ⟨by omega, by omega⟩
              have hz0 : (0 : Int) ≤ (z : Int) + 1 := by omega
              refine wp_region_held_drew (S := fun w' => ExtX (fun b => b = bb ∨ b = mz) wr w') (by kernel_rfl) (by (try dsimp only); (exact xX)) (fun hHeld => ?_)
              refine tK 0 (v := ?_) ?_ ?_;rotate_left;(focus (intro w hSw;(try dsimp only at hSw);go_simp;(try with_reducible rfl)));try simp only [Act.put,pA,pB,pC]
              refine tK 1 (v := ?_) ?_ ?_;rotate_left;(focus (intro w hSw;(try dsimp only at hSw);go_simp;(try with_reducible rfl)));try simp only [Act.put,pA,pB,pC]
              refine tK 2 (v := ?_) ?_ ?_;rotate_left;(focus (intro w hSw;(try dsimp only at hSw);go_simp;(try with_reducible rfl)));try simp only [Act.put,pA,pB,pC]
              refine tK 3 (v := ?_) ?_ ?_;rotate_left;(focus (intro w hSw;(try dsimp only at hSw);go_simp;(try with_reducible rfl)));try simp only [Act.put,pA,pB,pC]
              refine tK 4 (v := ?_) ?_ ?_;rotate_left;(focus (intro w hSw;(try dsimp only at hSw);go_simp;(try with_reducible rfl)));try simp only [Act.put,pA,pB,pC]
              refine tK 5 (v := ?_) ?_ ?_;rotate_left;(focus (intro w hSw;(try dsimp only at hSw);go_simp;(try with_reducible rfl)));try simp only [Act.put,pA,pB,pC]
              refine tK 6 (v := ?_) ?_ ?_;rotate_left;(focus (intro w hSw;(try dsimp only at hSw);go_simp;(try with_reducible rfl)));try simp only [Act.put,pA,pB,pC]
              refine tK 7 (v := ?_) ?_ ?_;rotate_left;(focus (intro w hSw;(try dsimp only at hSw);go_simp;(try with_reducible rfl)));try simp only [Act.put,pA,pB,pC]
              refine tK 8 (v := ?_) ?_ ?_;rotate_left;(focus (intro w hSw;(try dsimp only at hSw);go_simp;(try with_reducible rfl)));try simp only [Act.put,pA,pB,pC]
              refine tK 9 (v := ?_) ?_ ?_;rotate_left;(focus (intro w hSw;(try dsimp only at hSw);go_simp;(try with_reducible rfl)));try simp only [Act.put,pA,pB,pC]
              refine held_do 10 rfl (by kernel_rfl) (by rfl) (fun K hK => ?_); go_simp; refine hK.out _ _ (by (try dsimp only); (exact xX)) (fun hHeld => ?_); clear hK K; try simp only [Act.put,pA,pB,pC]
              refine held_do 11 rfl (by kernel_rfl) (by rfl) (fun K hK => ?_); go_simp; (first | (go_at_call 17; (refine (KJ.out (wr.drew.alloc (.cells #[.int .u8 uk, .int .i64 um, .slice xa' xl' xc', .int .u8 vk, .int .i64 vm, .slice ya yl yc] 25)) _ (by (exact eX)) (Blk.new _ _ _)).mono ?_); rintro e w10 ⟨S', mb', rfl, hsz', hO', hk', y10⟩)); (try (focus (go_wp2_with fail))); refine hK.out _ _ (by (try dsimp only); (exact xX)) (fun hHeld => ?_); clear hK K; try simp only [Act.put,pA,pB,pC]
              refine tK 12 (v := ?_) ?_ ?_;rotate_left;(focus (intro w hSw;(try dsimp only at hSw);go_simp;(try with_reducible rfl)));try simp only [Act.put,pA,pB,pC]
              refine wpAnyH_done (by kernel_rfl) ?_ _
              have HO10 := Lib.hid hO'
              have HS10 := Lib.hid hsz'
              have HK10 := Lib.hid (HK.out.trans hk')
              clear hO' hsz' hk' y10 hHeld q0 q1 q2 r0 r1 r2 KJ
              go_wp2_with fail
              go_roundg (len - (z + 1))
              case rel =>
                have hlt := HLT.out
                exact ⟨z + 1, mb', S', rfl, by go_num, by omega, HO10.out, HS10.out, HK10.out⟩
              case measure =>
                have hlt := HLT.out
                omega
            · have hlt' : ¬ (z : Int) + 1 < (len : Int) := by omega
              obtain ⟨σ', hσ'⟩ := HO.out.good.acy.sense
              obtain rfl : σ' = σ := sense_eq HO.out.good HJ.out.good HSZ.out hσ' HS.out
              have KS := Lib.hid fun W (h : Ext wr W) => own_Sense (HO.out.more h) hσ' (vr q) 2000 none 0 0 (vr_ty (by omega) (by omega)) (by omega) (by omega) T E HT.out
              simp only [vr, ty_kind, ty_var] at KS
              rw [← HQ.out] at KS
              have B9w := Lib.hid (HK.out.box _ _ B9.out)
              have TTw := Lib.hid (HK.out.ty _ _ HT8.out)
              clear hlt hσ'
              go_upto_region 17 with (first | (go_at_call 15; refine (law_v _ _).mono ?_; rintro e w11 ⟨rfl, x11⟩) | (go_at_call 18; (with_reducible refine (KS.out _ x11).mono ?_); rintro e w12 ⟨ya, yl, yc, rfl, hT2, x12⟩))
              have F9 := Lib.hid ((B9w.out.ext (x11.trans x12)).alloc (.cells #[.int .u8 T.kind, .int .i64 T.var, .slice ya yl yc] 25))
              have F12 := Lib.hid (Blk.new w12 25 #[.int .u8 T.kind, .int .i64 T.var, .slice ya yl yc])
              have T1 := Lib.hid ((TTw.out.ext (x11.trans x12)).ext ((Ext.refl _).alloc (.cells #[.int .u8 T.kind, .int .i64 T.var, .slice ya yl yc] 25)))
              have T2 := Lib.hid (hT2.ext ((Ext.refl _).alloc (.cells #[.int .u8 T.kind, .int .i64 T.var, .slice ya yl yc] 25)))
              have X13 := Lib.hid (((HO.out.ext.trans x11).trans x12).alloc (.cells #[.int .u8 T.kind, .int .i64 T.var, .slice ya yl yc] 25))
              obtain ⟨b12, hb12⟩ : ∃ b, b = w12.heap.size := ⟨_, rfl⟩
              rw [← hb12] at F12
              rw [← hb12]
              clear hb12 hT2 x11 x12 KS
              generalize (w12.alloc (.cells #[.int .u8 T.kind, .int .i64 T.var, .slice ya yl yc] 25)) = W13 at *
              have KE := Lib.hid (ref_same T.size T T W13 (.agg #[.int .u8 T.kind, .int .i64 T.var, .slice xa xl xc]) (.agg #[.int .u8 T.kind, .int .i64 T.var, .slice ya yl yc]) (Nat.le_refl _) T1.out T2.out)
              rw [(Ty.same_iff T T).2 rfl] at KE
              obtain ⟨p0, p1, p2⟩ := F9.out.three
              obtain ⟨q0, q1, q2⟩ := F12.out.three
              go_wp2_with (first | (go_at_call 13; (with_reducible refine (KE.out).mono ?_); rintro e w14 ⟨rfl, x14⟩) | (go_at_call 10; (with_reducible refine (KA.out _).mono ?_); rintro e w15 ⟨rfl, x15⟩))
              go_ret
              exact ⟨rfl, (X13.out.trans x14).trans x15⟩
end Go.Proofs.Ytkjjbackkipfdaa
