/- The walk of the law UnifySame. -/
import Derived.Test.YtkjjbackkipfdaaAw09c
import Derived.Test.YtkjjbackkipfdaaMemR
namespace Go.Proofs.Ytkjjbackkipfdaa
open Go Go.RowKit Go.Sort

/-- A type's sense; it lies in no block that was there. -/
theorem own_SenseA {w W : World} {bb mb n : Nat} {S : St} (h : Own w W bb mb n S) {σ : Int → Ty} (hσ : Sense S σ) (t : Ty) (most : Int) (a : Option Addr) (len cap : Nat) (ht : IsTy W t (.agg #[.int .u8 t.kind, .int .i64 t.var, .slice a len cap])) (hm0 : -9223372036854775808 ≤ most) (hm : most ≤ 9223372036854775807) (T : Ty) (E : Int) (hT : tell n σ t most = (T, E)) :
    Calls Try.prog 18 #[.pointer (some ⟨bb, 0, none⟩), .agg #[.int .u8 t.kind, .int .i64 t.var, .slice a len cap], .int .i64 most] W fun e w' => ∃ xa xl xc, e = .returned (.tuple #[.agg #[.int .u8 T.kind, .int .i64 T.var, .slice xa xl xc], .int .i64 E]) ∧ IsTyA (fun b => b < W.heap.size) w' T (.agg #[.int .u8 T.kind, .int .i64 T.var, .slice xa xl xc]) ∧ Ext W w' := by
  have := book_Sense h.book h.good hσ t most a len cap ht hm0 hm
  unfold RetTell at this
  rw [hT] at this
  exact this
/-- The senses of the first variables. -/
def firsts (n : Nat) (σ : Int → Ty) (k : Nat) : List Ty := (List.range k).map fun i : Nat => (tell n σ (vr (i : Int)) 2000).1
theorem firsts_succ (n : Nat) (σ : Int → Ty) (k : Nat) : firsts n σ (k + 1) = firsts n σ k ++ [(tell n σ (vr (k : Int)) 2000).1] := by
  unfold firsts; rw [List.range_succ, List.map_append]; rfl
theorem firsts_at (n : Nat) (σ : Int → Ty) {k i : Nat} (h : i < k) : (firsts n σ k)[i]? = some (tell n σ (vr (i : Int)) 2000).1 := by
  unfold firsts
  rw [List.getElem?_map, List.getElem?_range h]; rfl
set_option maxRecDepth 8000 in
set_option maxHeartbeats 8000000 in
theorem law_unifySame (n : Int) (L : List (List Ty)) (w : World) (a : Option Addr) (len cap : Nat) (hn0 : 0 ≤ n) (hn1 : n ≤ 255) (hc : len ≤ cap) (hm : cap ≤ maxLen) (hl : IsTyss w L a len) :
    Calls Try.prog 4 #[.int .u8 n, .slice a len cap] w (Yes w) := by
  have hm : cap ≤ 9223372036854775807 := hm
  obtain ⟨N, rfl⟩ := Int.eq_ofNat_of_zero_le hn0
  have KA := Lib.hid fun W => law_awake9 W
  have HL := Lib.hid hl
  clear hl
  by_cases hN : 20 < N
  · have hN' : (20 : Int) < (N : Int) := by omega
    clear hN
    go_enter Try.func4, Try.ntmps4
    go_wp2_with (go_at_call 10; (with_reducible refine (KA.out _).mono ?_); rintro e w3 ⟨rfl, x3⟩)
    go_ret
    exact ⟨rfl, x3⟩
  have hN' : ¬ (20 : Int) < (N : Int) := by omega
  by_cases hR : 10 < len
  · have hR' : (10 : Int) < (len : Int) := by omega
    clear hR hN
    go_enter Try.func4, Try.ntmps4
    go_wp2_with (go_at_call 10; (with_reducible refine (KA.out _).mono ?_); rintro e w3 ⟨rfl, x3⟩)
    go_ret
    exact ⟨rfl, x3⟩
  have hR' : ¬ (10 : Int) < (len : Int) := by omega
  have HI0 := Lib.hid (info_parts infoTyP)
  clear hR
  go_enter Try.func4, Try.ntmps4
  go_upto_region 4 with (go_at_call 11; (with_reducible refine (own_new w _ (Ext.refl _)).mono ?_); rintro e w3 ⟨bb, mb, rfl, hO, x3⟩)
  have HO := Lib.hid hO
  clear hO x3
  go_upto_region 5 with fail
  go_loopg [6] N (fun g i wr => ∃ j : Nat, g = N - j ∧ i = .int .i64 j ∧ j ≤ N ∧ Own w wr bb mb j (fun _ => none))
  case atStart => exact ⟨0, by omega, rfl, by omega, HO.out⟩
  case round =>
    obtain ⟨j, rfl, rfl, hj, hO⟩ := hrel
    have HO := Lib.hid hO
    clear hO
    by_cases hlt : j < N
    · have KF := Lib.hid (own_fresh HO.out (by omega))
      have HLT := Lib.hid hlt
      go_wp2_with (go_at_call 14; (with_reducible refine (KF.out).mono ?_); rintro e w4 ⟨rfl, hO4, k4, x4⟩)
      have HO4 := Lib.hid hO4
      clear hO4 k4 x4
      go_roundg (N - (j + 1))
      case rel =>
        have hlt := HLT.out
        exact ⟨j + 1, rfl, by go_num, by omega, HO4.out⟩
      case measure =>
        have hlt := HLT.out
        omega
    · obtain rfl : j = N := by omega
      clear hlt
      obtain ⟨i0, hi0, hz0, hz1', hz2'⟩ := HI0.out
      have HI := Lib.hid (And.intro hi0 (And.intro hz0 (And.intro hz1' hz2')))
      clear hi0 hz0 hz1' hz2' HI0
      go_upto_region 9 with fail
      go_loopg [7] len (fun g i wr => ∃ (y mz : Nat) (Sz : St), g = len - y ∧ i = .int .i64 y ∧ y ≤ len ∧ Own w wr bb mz j Sz)
      case atStart => exact ⟨0, mb, _, by omega, rfl, by omega, HO.out⟩
      case round =>
        obtain ⟨y, mz, Sz, rfl, rfl, hy, hO⟩ := hrel
        have HOY := Lib.hid hO
        clear hO
        by_cases hlt : y < len
        · obtain ⟨l, rb, ro, la, ll, lc, gl, rfl, rc, hl1, hl2, hlt0⟩ := HL.out.at_ hlt
          have rcq := fun W (h : Ext w W) => h.cell rc
          have hLT0 := Lib.hid hlt0
          have rc0 := rcq _ HOY.out.ext
          have KG := Lib.hid (law_great l wr la ll lc hl1 hl2 (hlt0.ext HOY.out.ext))
          have HLT := Lib.hid hlt
          clear gl rc hlt0
          cases hg : greatB l with
          | true =>
            rw [hg] at KG
            clear hg
            go_wp2_with (first | (go_at_call 9; (with_reducible refine (KG.out).mono ?_); rintro e w4 ⟨rfl, x4⟩) | (go_at_call 10; (with_reducible refine (KA.out _).mono ?_); rintro e w5 ⟨rfl, x5⟩))
            go_ret
            exact ⟨rfl, (HOY.out.ext.trans x4).trans x5⟩
          | false =>
            rw [hg] at KG
            have hll := hLT0.out.length
            have hl10 : ll ≤ 10 := by have := (greatB_no hg).1; omega
            clear hg hll
            go_upto_region 14 with (go_at_call 9; (with_reducible refine (KG.out).mono ?_); rintro e w4 ⟨rfl, x4⟩)
            have HOW := Lib.hid (owns_none9 w4 w4.heap.size 25 3 (Nat.le_refl _))
            have HO4 := Lib.hid (HOY.out.more x4)
            have HX5 := Lib.hid ((Ext.refl w4).alloc (.cells #[] 25))
            have rc4 := rcq _ HO4.out.ext
            obtain ⟨σ, hσ⟩ := HO4.out.good.acy.sense
            have HS := Lib.hid hσ
            clear hσ x4 rc0 KG
            go_upto_region 15 with fail
            go_loopg [8, 9] j (fun g s0 ix wr => ∃ (z : Nat) (vv : Value) (xs : List Value), vv = s0 ∧ g = j - z ∧ ix = .int .i64 z ∧ z ≤ j ∧ TyRow (KidT 0 vv) wr (firsts j σ z) xs ∧ wr.ownsRow w4.heap.size 25 3 vv z xs ∧ (∀ u ∈ xs, u.oneCell' = true) ∧ Ext w4 wr)
            case atStart => exact ⟨0, _, [], rfl, by omega, rfl, by omega, rfl, HOW.out, by simp, HX5.out⟩
            case round =>
              obtain ⟨z, vv, xs, rfl, rfl, rfl, hz, htr, ho, h1, hx4⟩ := hrel
              have HTR := Lib.hid htr
              have HO := Lib.hid ho
              have H1 := Lib.hid h1
              have HX4 := Lib.hid hx4
              by_cases hlt : z < j
              · obtain ⟨va, vc, rfl, hv1, hv2, -⟩ := (htr.move (A' := NoA) (w' := wr) (fun _ _ h => h.elim) (fun _ _ _ h => h)).tysN ho
                obtain ⟨⟨T, E⟩, hT⟩ : ∃ p, tell j σ (vr z) 2000 = p := ⟨_, rfl⟩
                have KS := Lib.hid fun W (h : Ext wr W) => own_SenseA (HO4.out.more (HX4.out.trans h)) HS.out (vr z) 2000 none 0 0 (vr_ty (by omega) (by omega)) (by omega) (by omega) T E hT
                simp only [vr, ty_kind, ty_var] at KS
                have HF : Hid (firsts j σ (z + 1) = firsts j σ z ++ [T]) := Lib.hid (by rw [firsts_succ, hT])
                have HLT := Lib.hid hlt
                have HROW := Lib.hid fun b hb => HO.out.lt b hb
                clear hT htr ho h1 hx4
                go_upto_region 18 with (first | (go_at_call 15; (refine (law_v _ _).mono ?_); rintro e w7 ⟨rfl, x7⟩) | (go_at_call 18; (with_reducible refine (KS.out _ x7).mono ?_); rintro e w8 ⟨xa, xl, xc, rfl, hT1, x8⟩))
                have hs7 := x7.size
                have hs8 := x8.size
                have B10 := Lib.hid (Blk.new w8 25 #[.int .u8 T.kind, .int .i64 T.var, .slice xa xl xc])
                have X9 := Lib.hid ((x7.trans x8).alloc (.cells #[.int .u8 T.kind, .int .i64 T.var, .slice xa xl xc] 25))
                have T1 := Lib.hid (hT1.ext ((Ext.refl _).alloc (.cells #[.int .u8 T.kind, .int .i64 T.var, .slice xa xl xc] 25)))
                obtain ⟨b10, hb10⟩ : ∃ b, b = w8.heap.size := ⟨_, rfl⟩
                rw [← hb10] at B10
                rw [← hb10]
                clear hb10 x8 hT1 x7
                generalize (w8.alloc (.cells #[.int .u8 T.kind, .int .i64 T.var, .slice xa xl xc] 25)) = W9 at *
                obtain ⟨p0, p1, p2⟩ := B10.out.three
                have hs9 := X9.out.size
                have hw4 := HX4.out.size
                go_upto_region 16 with (at_builtin; refine wpList_append_mine rfl (.tmp 64) (.tmp 66) 23 ?r0 w4.heap.size 25 i0 (.agg #[.int .u8 0, .int .i64 0, .slice none 0 0]) 3 40 ?r1 ?r2 ?r3 ?r4 ?r5 ?r6 ?r7 (Value.slice va z vc) z xs ?r8 ?r9 ⟨W9.heap.size, 0, none⟩ 1 1 [.int .u8 T.kind, .int .i64 T.var, .slice xa xl xc] ?r10 ?r11 ?r12 ?r13 ?r14 ?r15 ?r16 ?r17)
                try case r0 => rfl
                try case r1 => exact Try.underlying23
                case r2 => exact HI.out.1
                case r3 => exact HI.out.2.1
                case r4 => exact HI.out.2.2.1
                case r5 => exact HI.out.2.2.2
                try case r6 => rfl
                try case r7 => decide
                try case r8 => rfl
                case r9 => exact owns_ext (X9.out.alloc _) HO.out
                try case r10 => rfl
                try case r11 => rfl
                try case r12 => exact list_atT W9 [.int .u8 T.kind, .int .i64 T.var, .slice xa xl xc] _
                case r13 => first | exact ⟨rfl, rfl, rfl⟩ | (intro u hu; simp at hu; rcases hu with rfl | rfl | rfl <;> rfl)
                case r14 => unfold maxLen; omega
                case r15 => omega
                case r16 => (try simp); omega
                case r17 =>
                  intro v9 w9 ho9 hg9 hw9
                  obtain ⟨g9, cap9, rfl, -⟩ := owns_open ho9 (by omega)
                  have hs9' : (W9.alloc (.cells #[.int .u8 T.kind, .int .i64 T.var, .slice xa xl xc] 25)).heap.size = W9.heap.size + 1 := by simp
                  rw [← hs9'] at hw9
                  have X10 := Lib.hid (ext_grown hg9 ((HX4.out.trans X9.out).alloc _) (fun k hk => (HROW.out k hk).1))
                  have R10 := Lib.hid (((HTR.out.ext (X9.out.alloc _)).grown hg9 hw9).append ((T1.out.ext ((Ext.refl _).alloc _)).grownT (fun b hb => by
                    rcases hb with hb | hb
                    · exact absurd hb (by omega)
                    · have := (HROW.out b hb).2
                      show b < w7.heap.size
                      omega) hg9 hw9))
                  have HO9 := Lib.hid ho9
                  have H19 : Hid (∀ u ∈ xs ++ [.int .u8 T.kind, .int .i64 T.var, .slice xa xl xc], u.oneCell' = true) := Lib.hid (by
                    intro u hu
                    rcases List.mem_append.1 hu with hu | hu
                    · exact H1.out u hu
                    · simp at hu; rcases hu with rfl | rfl | rfl <;> rfl)
                  clear ho9 hg9 hw9 hs9'
                  go_wp2_with fail
                  go_roundg (j - (z + 1))
                  case rel =>
                    have hlt := HLT.out
                    exact ⟨z + 1, _, _, rfl, rfl, by go_num, by omega, by rw [HF.out]; exact R10.out, HO9.out, H19.out, X10.out⟩
                  case measure =>
                    have hlt := HLT.out
                    omega
              · obtain rfl : z = j := by omega
                obtain ⟨va, vc, rfl, hv1, hv2, hwas⟩ := (htr.move (A' := NoA) (w' := wr) (fun _ _ h => h.elim) (fun _ _ _ h => h)).tysN ho
                have HO5 := Lib.hid (HO4.out.more hx4)
                have KJ := Lib.hid (own_Join HO5.out l la ll lc hl1 hl2 (hLT0.out.ext HO5.out.ext))
                have HWAS := Lib.hid hwas
                have rc5 := rcq _ HO5.out.ext
                clear htr hwas ho h1 hx4 HTR HO H1 HX4 HOW HX5 rc4 HO4
                go_upto_region 20 with (go_at_call 17; (with_reducible refine (KJ.out).mono ?_); rintro e w6 ⟨S6, ok, m6, rfl, hJ, hO6, k6, x6⟩)
                have HJ := Lib.hid hJ
                have HO6 := Lib.hid hO6
                have HW6 := Lib.hid (k6.tys _ _ _ HWAS.out)
                have rc6 := rcq _ hO6.ext
                clear hJ hO6 k6 x6 KJ HWAS rc5
                cases ok with
                | true =>
                  obtain ⟨σ6, hσ6⟩ := HO6.out.good.acy.sense
                  have HS6 := Lib.hid hσ6
                  clear hσ6
                  go_upto_region 21 with fail
                  go_loopg [13] ll (fun g i wr => ∃ z : Nat, g = ll - z ∧ i = .int .i64 z ∧ z ≤ ll ∧ Ext w6 wr)
                  case atStart => exact ⟨0, by omega, rfl, by omega, Ext.refl _⟩
                  case round =>
                    obtain ⟨z', rfl, rfl, hz', hx⟩ := hrel
                    have HX := Lib.hid hx
                    have rc7 := rcq _ (HO6.out.ext.trans hx)
                    clear hx rc6
                    by_cases hlz : z' < ll
                    · have hxw := HO6.out.ext.trans HX.out
                      obtain ⟨u, ub, uo, c0, c1, c2, gu, rfl, q0, q1, q2, qt⟩ := hLT0.out.at3 hxw (show 0 < ll by omega)
                      obtain ⟨v, vb, vo, d0, d1, d2, gv, ev, r0, r1, r2, rt⟩ := hLT0.out.at3 hxw hlz
                      injection ev with ev
                      injection ev with e1 e2
                      subst e1 e2
                      simp only [Nat.zero_mul, Nat.add_zero] at q0 q1 q2
                      obtain ⟨⟨T, E⟩, hT⟩ : ∃ p, tell z σ6 u 2000 = p := ⟨_, rfl⟩
                      have hT' : tell z σ6 v 2000 = (T, E) := by
                        have hy := HJ.out.yes rfl
                        have hk := (knows_iff z l).1 hy.1
                        rw [← hT]
                        unfold tell
                        rw [(knows1_iff z v).2 (hk v (List.mem_of_getElem? gv)), (knows1_iff z u).2 (hk u (List.mem_of_getElem? gu)), HJ.out.one HS6.out (List.mem_of_getElem? gu) (List.mem_of_getElem? gv)]
                      obtain ⟨uk, um, ul⟩ := u
                      obtain ⟨xa0, xl0, xc0, e, -, -, -, -, -, -, -⟩ := qt.open_
                      simp at e
                      obtain ⟨rfl, rfl, rfl⟩ := e
                      obtain ⟨vk, vm, vl⟩ := v
                      obtain ⟨ya0, yl0, yc0, e, -, -, -, -, -, -, -⟩ := rt.open_
                      simp at e
                      obtain ⟨rfl, rfl, rfl⟩ := e
                      have KS1 := Lib.hid fun W (h : Ext wr W) => own_Sense (HO6.out.more (HX.out.trans h)) HS6.out (.mk uk um ul) 2000 xa0 xl0 xc0 (qt.ext h) (by omega) (by omega) T E hT
                      have KS2 := Lib.hid fun W (h : Ext wr W) => own_Sense (HO6.out.more (HX.out.trans h)) HS6.out (.mk vk vm vl) 2000 ya0 yl0 yc0 (rt.ext h) (by omega) (by omega) T E hT'
                      simp only [ty_kind, ty_var] at KS1 KS2
                      have r0 := fun W (h : Ext wr W) => h.cell r0
                      have r1 := fun W (h : Ext wr W) => h.cell r1
                      have r2 := fun W (h : Ext wr W) => h.cell r2
                      have rcw := fun W (h : Ext wr W) => h.cell rc7
                      have HLZ := Lib.hid hlz
                      have hl0 : 0 < ll := by omega
                      clear hT hT' gu gv qt rt hxw
                      go_upto_region 24 with (go_at_call 18; (with_reducible refine (KS1.out _ (Ext.refl _)).mono ?_); rintro e w8 ⟨xa, xl, xc, rfl, hT1, x8⟩)
                      have B14 := Lib.hid (Blk.new w8 25 #[.int .u8 T.kind, .int .i64 T.var, .slice xa xl xc])
                      have X9 := Lib.hid (x8.alloc (.cells #[.int .u8 T.kind, .int .i64 T.var, .slice xa xl xc] 25))
                      have T1 := Lib.hid (hT1.ext ((Ext.refl _).alloc (.cells #[.int .u8 T.kind, .int .i64 T.var, .slice xa xl xc] 25)))
                      obtain ⟨b14, hb14⟩ : ∃ b, b = w8.heap.size := ⟨_, rfl⟩
                      rw [← hb14] at B14
                      rw [← hb14]
                      clear hb14 x8 hT1
                      generalize (w8.alloc (.cells #[.int .u8 T.kind, .int .i64 T.var, .slice xa xl xc] 25)) = W9 at *
                      have r0 := r0 _ X9.out
                      have r1 := r1 _ X9.out
                      have r2 := r2 _ X9.out
                      have rc9 := rcw _ X9.out
                      go_upto_region 25 with (go_at_call 18; (with_reducible refine (KS2.out _ X9.out).mono ?_); rintro e w11 ⟨ya, yl, yc, rfl, hT2, x11⟩)
                      have F14 := Lib.hid ((B14.out.ext x11).alloc (.cells #[.int .u8 T.kind, .int .i64 T.var, .slice ya yl yc] 25))
                      have F16 := Lib.hid (Blk.new w11 25 #[.int .u8 T.kind, .int .i64 T.var, .slice ya yl yc])
                      have T1' := Lib.hid ((T1.out.ext x11).ext ((Ext.refl _).alloc (.cells #[.int .u8 T.kind, .int .i64 T.var, .slice ya yl yc] 25)))
                      have T2' := Lib.hid (hT2.ext ((Ext.refl _).alloc (.cells #[.int .u8 T.kind, .int .i64 T.var, .slice ya yl yc] 25)))
                      have X13 := Lib.hid ((X9.out.trans x11).alloc (.cells #[.int .u8 T.kind, .int .i64 T.var, .slice ya yl yc] 25))
                      obtain ⟨b16, hb16⟩ : ∃ b, b = w11.heap.size := ⟨_, rfl⟩
                      rw [← hb16] at F16
                      rw [← hb16]
                      clear hb16 hT2 x11 KS1 KS2 q0 q1 q2 r0 r1 r2 rc9 rc7
                      generalize (w11.alloc (.cells #[.int .u8 T.kind, .int .i64 T.var, .slice ya yl yc] 25)) = W13 at *
                      have KE := Lib.hid (ref_same T.size T T W13 (.agg #[.int .u8 T.kind, .int .i64 T.var, .slice xa xl xc]) (.agg #[.int .u8 T.kind, .int .i64 T.var, .slice ya yl yc]) (Nat.le_refl _) T1'.out T2'.out)
                      rw [(Ty.same_iff T T).2 rfl] at KE
                      obtain ⟨p0, p1, p2⟩ := F14.out.three
                      obtain ⟨q0, q1, q2⟩ := F16.out.three
                      go_wp2_with (go_at_call 13; (with_reducible refine (KE.out).mono ?_); rintro e w14 ⟨rfl, x14⟩)
                      have HE := Lib.hid (HX.out.trans (X13.out.trans x14))
                      go_roundg (ll - (z' + 1))
                      case rel =>
                        have hlz := HLZ.out
                        exact ⟨z' + 1, rfl, by go_num, by omega, HE.out⟩
                      case measure =>
                        have hlz := HLZ.out
                        omega
                    · obtain rfl : z' = ll := by omega
                      have HO7 := Lib.hid (HO6.out.more HX.out)
                      clear hlz
                      go_upto_region 28 with fail
                      go_loopg [18] 0 (fun g i wr' => i = .int .i64 0 ∧ Ext wr wr')
                      case atStart => exact ⟨rfl, Ext.refl _⟩
                      case round =>
                        obtain ⟨rfl, hx8⟩ := hrel
                        have HO8 := Lib.hid (HO7.out.more hx8)
                        clear hx8
                        go_wp2_with fail
                        all_goals
                          go_roundg (len - (y + 1))
                          case rel =>
                            have hlt := HLT.out
                            exact ⟨y + 1, m6, S6, rfl, by go_num, by omega, HO8.out⟩
                          case measure =>
                            have hlt := HLT.out
                            omega
                | false =>
                  obtain ⟨rfl, -⟩ := HJ.out.stay rfl
                  go_upto_region 21 with fail
                  go_loopg [13] 0 (fun g i wr => i = .int .i64 0 ∧ Ext w6 wr)
                  case atStart => exact ⟨rfl, Ext.refl _⟩
                  case round =>
                    obtain ⟨rfl, hx⟩ := hrel
                    have HO7 := Lib.hid (HO6.out.more hx)
                    have HW7 := Lib.hid (HW6.out.ext hx)
                    have rc7 := rcq _ HO7.out.ext
                    clear hx rc6 HW6 HO6
                    go_upto_region 28 with fail
                    all_goals
                      go_loopg [18] z (fun g i wr' => ∃ x : Nat, g = z - x ∧ i = .int .i64 x ∧ x ≤ z ∧ Ext wr wr')
                      case atStart => exact ⟨0, by omega, rfl, by omega, Ext.refl _⟩
                      case round =>
                        obtain ⟨x, rfl, rfl, hxz, hx8⟩ := hrel
                        have HX8 := Lib.hid hx8
                        by_cases hlx : x < z
                        · obtain ⟨⟨T, E⟩, hT⟩ : ∃ p, tell z σ (vr x) 2000 = p := ⟨_, rfl⟩
                          have KS := Lib.hid fun W (h : Ext wr W) => own_Sense (HO7.out.more (HX8.out.trans h)) HS.out (vr x) 2000 none 0 0 (vr_ty (by omega) (by omega)) (by omega) (by omega) T E hT
                          simp only [vr, ty_kind, ty_var] at KS
                          obtain ⟨u, ub, uo, c0, c1, c2, gu, rfl, q0, q1, q2, qt⟩ := HW7.out.at3 hx8 hlx
                          obtain rfl : T = u := by rw [firsts_at z σ hlx, hT] at gu; simpa using gu
                          obtain ⟨ya, yl, yc, ev, -, -, -, -, -, -, -⟩ := qt.eta
                          simp at ev
                          obtain ⟨rfl, rfl, rfl⟩ := ev
                          have HLX := Lib.hid hlx
                          have QT := Lib.hid qt
                          have q0 := fun W (h : Ext wr W) => h.cell q0
                          have q1 := fun W (h : Ext wr W) => h.cell q1
                          have q2 := fun W (h : Ext wr W) => h.cell q2
                          clear hT gu qt hx8
                          go_upto_region 31 with (first | (go_at_call 15; (refine (law_v _ _).mono ?_); rintro e w7 ⟨rfl, x7⟩) | (go_at_call 18; (with_reducible refine (KS.out _ x7).mono ?_); rintro e w8 ⟨xa, xl, xc, rfl, hT1, x8⟩))
                          have B19 := Lib.hid (Blk.new w8 25 #[.int .u8 T.kind, .int .i64 T.var, .slice xa xl xc])
                          have X9 := Lib.hid ((x7.trans x8).alloc (.cells #[.int .u8 T.kind, .int .i64 T.var, .slice xa xl xc] 25))
                          have T1 := Lib.hid (hT1.ext ((Ext.refl _).alloc (.cells #[.int .u8 T.kind, .int .i64 T.var, .slice xa xl xc] 25)))
                          obtain ⟨b19, hb19⟩ : ∃ b, b = w8.heap.size := ⟨_, rfl⟩
                          rw [← hb19] at B19
                          rw [← hb19]
                          clear hb19 x7 x8 hT1 KS
                          generalize (w8.alloc (.cells #[.int .u8 T.kind, .int .i64 T.var, .slice xa xl xc] 25)) = W9 at *
                          obtain ⟨p0, p1, p2⟩ := B19.out.three
                          have p0 := fun W (h : Ext W9 W) => h.cell p0
                          have p1 := fun W (h : Ext W9 W) => h.cell p1
                          have p2 := fun W (h : Ext W9 W) => h.cell p2
                          have q0 := fun W (h : Ext W9 W) => q0 W (X9.out.trans h)
                          have q1 := fun W (h : Ext W9 W) => q1 W (X9.out.trans h)
                          have q2 := fun W (h : Ext W9 W) => q2 W (X9.out.trans h)
                          have KE := Lib.hid fun W (h : Ext W9 W) => ref_same T.size T T W (.agg #[.int .u8 T.kind, .int .i64 T.var, .slice xa xl xc]) (.agg #[.int .u8 T.kind, .int .i64 T.var, .slice ya yl yc]) (Nat.le_refl _) (T1.out.ext h) (QT.out.ext (X9.out.trans h))
                          rw [(Ty.same_iff T T).2 rfl] at KE
                          refine wp_region_held_drew (S := fun w' => Ext W9 w') (by kernel_rfl) (by (try dsimp only); (exact eX)) (fun hHeld => ?_)
                          refine tK 0 (v := ?_) ?_ ?_;rotate_left;(focus (intro w hSw;(try dsimp only at hSw);go_simp;(try with_reducible rfl)));try simp only [Act.put,pA,pB,pC]
                          refine tK 1 (v := ?_) ?_ ?_;rotate_left;(focus (intro w hSw;(try dsimp only at hSw);go_simp;(try with_reducible rfl)));try simp only [Act.put,pA,pB,pC]
                          refine tK 2 (v := ?_) ?_ ?_;rotate_left;(focus (intro w hSw;(try dsimp only at hSw);go_simp;(try with_reducible rfl)));try simp only [Act.put,pA,pB,pC]
                          refine tK 3 (v := ?_) ?_ ?_;rotate_left;(focus (intro w hSw;(try dsimp only at hSw);go_simp;(try with_reducible rfl)));try simp only [Act.put,pA,pB,pC]
                          refine tK 4 (v := ?_) ?_ ?_;rotate_left;(focus (intro w hSw;(try dsimp only at hSw);go_simp;(try with_reducible rfl)));try simp only [Act.put,pA,pB,pC]
                          refine held_do 5 rfl (by kernel_rfl) (by rfl) (fun K hK => ?_); go_simp; (first | (go_at_call 13; (with_reducible refine (KE.out _ (by (exact eX))).mono ?_); rintro e w14 ⟨rfl, x14⟩; have y14 : Ext W9 w14 := Ext.trans (by (exact eX)) x14)); (try (focus (go_wp2_with fail))); refine hK.out _ _ (by (try dsimp only); (exact eX)) (fun hHeld => ?_); clear hK K; try simp only [Act.put,pA,pB,pC]
                          refine tK 6 (v := ?_) ?_ ?_;rotate_left;(focus (intro w hSw;(try dsimp only at hSw);go_simp;(try with_reducible rfl)));try simp only [Act.put,pA,pB,pC]
                          refine wpAnyH_done (by kernel_rfl) ?_ _
                          have HE := Lib.hid (HX8.out.trans (X9.out.trans y14))
                          clear p0 p1 p2 q0 q1 q2 hHeld x14 y14
                          go_wp2_with fail
                          go_roundg (z - (x + 1))
                          case rel =>
                            have hlx := HLX.out
                            exact ⟨x + 1, rfl, by go_num, by omega, HE.out⟩
                          case measure =>
                            have hlx := HLX.out
                            omega
                        · obtain rfl : x = z := by omega
                          have HO8 := Lib.hid (HO7.out.more hx8)
                          clear hx8 hlx
                          go_wp2_with fail
                          go_roundg (len - (y + 1))
                          case rel =>
                            have hlt := HLT.out
                            exact ⟨y + 1, m6, _, rfl, by go_num, by omega, HO8.out⟩
                          case measure =>
                            have hlt := HLT.out
                            omega
        · obtain rfl : y = len := by omega
          clear hlt
          go_wp2_with (go_at_call 10; (with_reducible refine (KA.out _).mono ?_); rintro e w5 ⟨rfl, x5⟩)
          go_ret
          exact ⟨rfl, HOY.out.ext.trans x5⟩
end Go.Proofs.Ytkjjbackkipfdaa
