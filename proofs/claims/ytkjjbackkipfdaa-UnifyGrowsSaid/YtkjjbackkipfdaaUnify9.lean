/- The walks of package unify: Sense; what a book that is none does. -/
import Derived.Test.YtkjjbackkipfdaaUnify8
import Derived.Test.YtkjjbackkipfdaaSameU
namespace Go.Proofs.Ytkjjbackkipfdaa
open Go Go.RowKit Go.Sort

/-- What Sense hands back. -/
def RetTell (n : Nat) (σ : Int → Ty) (t : Ty) (most : Int) (w : World) (e : Ending) (w' : World) : Prop :=
  ∃ (a : Option Addr) (len cap : Nat), e = .returned (.tuple #[.agg #[.int .u8 (tell n σ t most).1.kind, .int .i64 (tell n σ t most).1.var, .slice a len cap], .int .i64 (tell n σ t most).2]) ∧ IsTyA (fun b => b < w.heap.size) w' (tell n σ t most).1 (.agg #[.int .u8 (tell n σ t most).1.kind, .int .i64 (tell n σ t most).1.var, .slice a len cap]) ∧ Ext w w'
theorem zero_ty (A : Nat → Prop) (w : World) : IsTyA A w (.mk 0 0 []) (.agg #[.int .u8 0, .int .i64 0, .slice none 0 0]) := IsTyA.mk_ (IsTysA.nil _) (Nat.le_refl _) (by omega) (by omega) (by omega) (by omega) (by omega)
set_option maxRecDepth 8000 in
set_option maxHeartbeats 8000000 in
theorem unify_Sense (w : World) (pv : Option Addr) (n : Nat) (σ : Int → Ty) (t : Ty) (most : Int) (a : Option Addr) (len cap : Nat) (hV : Tells1 (.pointer pv) n w) (ht : IsTy w t (.agg #[.int .u8 t.kind, .int .i64 t.var, .slice a len cap])) (hm0 : -9223372036854775808 ≤ most) (hm : most ≤ 9223372036854775807)
    (hS : knows1 n t = true → ∀ W left, Ext w W → 0 ≤ left → left ≤ 9223372036854775807 → Calls Try.prog 33 #[.pointer pv, .agg #[.int .u8 t.kind, .int .i64 t.var, .slice a len cap], .int .i64 left] W (RetSense W (t.sub σ) left)) :
    Calls Try.prog 18 #[.pointer pv, .agg #[.int .u8 t.kind, .int .i64 t.var, .slice a len cap], .int .i64 most] w (RetTell n σ t most w) := by
  obtain ⟨k, v, l⟩ := t
  simp only [ty_kind, ty_var] at *
  have KK := Lib.hid fun (W : World) (g : Nat) (h : Ext w W) (hc0 : W.cell? ⟨g, 0, none⟩ = some (.int .u8 k)) (hc1 : W.cell? ⟨g, 1, none⟩ = some (.int .i64 v)) (hc2 : W.cell? ⟨g, 2, none⟩ = some (.slice a len cap)) => book_knows (.pointer pv) n [.mk k v l] W (some ⟨g, 0, none⟩) 1 1 (Nat.le_refl _) (by omega) (IsTysA.one (fun h => h) (ht.ext h) (by simpa using hc0) (by simpa using hc1) (by simpa using hc2)) (hV.ext h)
  have hkk : knows n [.mk k v l] = knows1 n (.mk k v l) := by simp [knows]
  rw [hkk] at KK
  have HS := Lib.hid hS
  have BX := Lib.hid ((Blk.new w 25 #[.int .u8 k, .int .i64 v, .slice a len cap]).alloc (.cells #[.int .u8 0, .int .i64 0, .slice none 0 0] 25))
  have BY : Hid (Blk ((w.alloc (.cells #[.int .u8 k, .int .i64 v, .slice a len cap] 25)).alloc (.cells #[.int .u8 0, .int .i64 0, .slice none 0 0] 25)) (w.heap.size + 1) 25 #[.int .u8 0, .int .i64 0, .slice none 0 0]) := Lib.hid (by
    have h := Blk.new (w.alloc (.cells #[.int .u8 k, .int .i64 v, .slice a len cap] 25)) 25 #[.int .u8 0, .int .i64 0, .slice none 0 0]
    rw [World.size_alloc] at h
    exact h)
  have X1 : Hid (Ext w ((w.alloc (.cells #[.int .u8 k, .int .i64 v, .slice a len cap] 25)).alloc (.cells #[.int .u8 0, .int .i64 0, .slice none 0 0] 25))) := Lib.hid (((Ext.refl _).alloc _).alloc _)
  clear hS ht hV hkk
  go_enter Try.func18, Try.ntmps18
  go_upto_region 1 with fail
  generalize (w.alloc (.cells #[.int .u8 k, .int .i64 v, .slice a len cap] 25)).alloc (.cells #[.int .u8 0, .int .i64 0, .slice none 0 0] 25) = W1 at *
  obtain ⟨b4, hb4⟩ : ∃ b, b = w.heap.size := ⟨_, rfl⟩
  obtain ⟨b6', hb6⟩ : ∃ b, b = w.heap.size + 1 := ⟨_, rfl⟩
  have hle6 : w.heap.size ≤ b6' := by omega
  rw [← hb6] at BY
  rw [← hb4] at BX
  rw [← hb6, ← hb4]
  clear hb4 hb6
  obtain ⟨p0, p1, p2⟩ := BX.out.three
  have l4 := BX.out.lt
  cases hk : knows1 n (.mk k v l) with
  | false =>
    rw [hk] at KK
    have HE : Hid (tell n σ (.mk k v l) most = (.mk 0 0 [], 1)) := Lib.hid (by unfold tell; rw [hk]; rfl)
    have HB6 := Lib.hid fun W (h : Ext W1 W) => BY.out.ext h
    clear hk HS
    go_upto_region 2 with (go_at_call 29; (refine (KK.out _ W1.heap.size (X1.out.alloc _) (by simp) (by simp) (by simp)).mono ?_); rintro e w2 ⟨rfl, x2⟩; have b6 := HB6.out w2 (((Ext.refl _).alloc _).trans x2); have l6 := b6.lt; have f60 := b6.frozen 0; have f61 := b6.frozen 1; have f62 := b6.frozen 2; obtain ⟨r0, r1, r2⟩ := b6.three)
    have hz := (b6.lay3 (u0 := .int .u8 0) (u1 := .int .i64 0) (u2 := .slice none 0 0))
    obtain ⟨z0, z1, z2⟩ := hz.three
    have X2 := Lib.hid (X1.out.trans (((Ext.refl _).alloc _).trans x2))
    clear b6 hz x2 p0 p1 p2
    go_wp2_with fail
    refine bodyPost_ret (v := .tuple #[.agg #[.int .u8 0, .int .i64 0, .slice none 0 0], .int .i64 1]) (by simp [results, Try.results18, go_sem, z0, z1, z2]) rfl ?_
    unfold RetTell
    rw [HE.out]
    exact ⟨none, 0, 0, rfl, zero_ty _ _, X2.out.lay3 hle6⟩
  | true =>
    rw [hk] at KK
    have HS2 := Lib.hid (HS.out hk)
    have HE : Hid (tell n σ (.mk k v l) most = if ((Ty.mk k v l).sub σ).left (max most 0) < 0 then (.mk 0 0 [], 3) else ((Ty.mk k v l).sub σ, 0)) := Lib.hid (by unfold tell; rw [hk]; rfl)
    generalize (Ty.mk k v l).sub σ = T at *
    have hml : 0 ≤ max most 0 := by omega
    have hmu : max most 0 ≤ 9223372036854775807 := by omega
    have HB6 := Lib.hid fun W (h : Ext W1 W) => BY.out.ext h
    have HB4 := Lib.hid fun W (h : Ext W1 W) => BX.out.ext h
    clear hk HS
    go_upto_region 3 with (go_at_call 29; (refine (KK.out _ W1.heap.size (X1.out.alloc _) (by simp) (by simp) (by simp)).mono ?_); rintro e w2 ⟨rfl, x2⟩; have b4' := HB4.out w2 (((Ext.refl _).alloc _).trans x2); have l4' := b4'.lt; obtain ⟨r0, r1, r2⟩ := b4'.three)
    have X2 := Lib.hid (X1.out.trans (((Ext.refl _).alloc _).trans x2))
    have X12 := Lib.hid (((Ext.refl W1).alloc (.cells #[.int .u8 k, .int .i64 v, .slice a len cap] 25)).trans x2)
    have KS := Lib.hid (HS2.out w2 (max most 0) X2.out hml hmu)
    clear x2 b4' p0 p1 p2
    clear KK BX BY
    rcases (show (most < 0 ∧ max most 0 = 0) ∨ (¬ most < 0 ∧ max most 0 = most) by omega) with ⟨hneg, hmx⟩ | ⟨hneg, hmx⟩
    all_goals
      rw [hmx] at HE KS hml hmu
      clear hmx
      go_upto_region 4 with (go_at_call 33; (with_reducible refine (KS.out).mono ?_); rintro e w3 ⟨T', ta, tl, tc, rfl, hT, hTe, x3⟩)
      have b6 := Lib.hid ((HB6.out w3 (X12.out.trans x3)).alloc (.cells #[.int .u8 T'.kind, .int .i64 T'.var, .slice ta tl tc] 25))
      have b8 := Lib.hid (Blk.new w3 25 #[.int .u8 T'.kind, .int .i64 T'.var, .slice ta tl tc])
      have X3 := Lib.hid ((X2.out.trans x3).alloc (.cells #[.int .u8 T'.kind, .int .i64 T'.var, .slice ta tl tc] 25))
      have HT := Lib.hid (hT.ext ((Ext.refl _).alloc (.cells #[.int .u8 T'.kind, .int .i64 T'.var, .slice ta tl tc] 25)))
      have HTE := Lib.hid hTe
      have hl62 : b6' < w2.heap.size := by
        have := (HB6.out W1 (Ext.refl _)).lt
        have := X12.out.size
        omega
      obtain ⟨g8, hg8⟩ : ∃ g, g = w3.heap.size := ⟨_, rfl⟩
      rw [← hg8] at b8
      rw [← hg8]
      clear hT hTe x3 hg8 KS r0 r1 r2
      generalize (w3.alloc (.cells #[.int .u8 T'.kind, .int .i64 T'.var, .slice ta tl tc] 25)) = W4 at *
      have l6 := b6.out.lt
      have f60 := b6.out.frozen 0
      have f61 := b6.out.frozen 1
      have f62 := b6.out.frozen 2
      obtain ⟨r0, r1, r2⟩ := b6.out.three
      obtain ⟨s0, s1, s2⟩ := b8.out.three
      generalize T.left _ = lf at *
      by_cases hlf : lf < 0
      · have HE2 : Hid (tell n σ (.mk k v l) most = (.mk 0 0 [], 3)) := Lib.hid (by rw [HE.out, if_pos hlf])
        have hz := (b6.out.lay3 (u0 := .int .u8 0) (u1 := .int .i64 0) (u2 := .slice none 0 0))
        obtain ⟨z0, z1, z2⟩ := hz.three
        clear HE hz
        go_wp2_with fail
        refine bodyPost_ret (v := .tuple #[.agg #[.int .u8 0, .int .i64 0, .slice none 0 0], .int .i64 3]) (by simp [results, Try.results18, go_sem, z0, z1, z2]) rfl ?_
        unfold RetTell
        rw [HE2.out]
        exact ⟨none, 0, 0, rfl, zero_ty _ _, X3.out.lay3 hle6⟩
      · have HE2 : Hid (tell n σ (.mk k v l) most = (T, 0)) := Lib.hid (by rw [HE.out, if_neg hlf])
        obtain rfl := HTE.out (by omega)
        have hz := (b6.out.lay3 (u0 := .int .u8 T'.kind) (u1 := .int .i64 T'.var) (u2 := .slice ta tl tc))
        obtain ⟨z0, z1, z2⟩ := hz.three
        have hbb : (fun b => b < w2.heap.size) b6' := hl62
        have hww : w.heap.size ≤ w2.heap.size := X2.out.size
        have HT2 := Lib.hid (IsTyA.off (A' := fun b => b < w.heap.size) (fun b _ (hb : b < w.heap.size) => (by show b < w2.heap.size; omega)) (((HT.out.setCell (p := ⟨b6', 0, none⟩) hbb (.int .u8 T'.kind)).setCell (p := ⟨b6', 1, none⟩) hbb (.int .i64 T'.var)).setCell (p := ⟨b6', 2, none⟩) hbb (.slice ta tl tc)))
        clear HE hz hbb
        go_wp2_with fail
        refine bodyPost_ret (v := .tuple #[.agg #[.int .u8 T'.kind, .int .i64 T'.var, .slice ta tl tc], .int .i64 0]) (by simp [results, Try.results18, go_sem, z0, z1, z2]) rfl ?_
        unfold RetTell
        rw [HE2.out]
        exact ⟨ta, tl, tc, rfl, HT2.out, X3.out.lay3 hle6⟩
/-- A book tells a type's sense. -/
theorem book_Sense {w : World} {bb mb n : Nat} {S : St} (hB : BookAt w bb mb n S) (g : Good n S) {σ : Int → Ty} (hσ : Sense S σ) (t : Ty) (most : Int) (a : Option Addr) (len cap : Nat) (ht : IsTy w t (.agg #[.int .u8 t.kind, .int .i64 t.var, .slice a len cap])) (hm0 : -9223372036854775808 ≤ most) (hm : most ≤ 9223372036854775807) :
    Calls Try.prog 18 #[.pointer (some ⟨bb, 0, none⟩), .agg #[.int .u8 t.kind, .int .i64 t.var, .slice a len cap], .int .i64 most] w (RetTell n σ t most w) := by
  refine unify_Sense w _ n σ t most a len cap hB.vars ht hm0 hm fun hk W left hW h0 h1 => ?_
  refine unify_sense w (some ⟨bb, 0, none⟩) σ (Fit n) (fun t => hd S (rootD S t)) (fun u hu => ?_) (.inr ⟨bb, rfl, fun B W' hB' hW' u ua ul uc hu hut => book_head (hB.ext hB') g.acy W' hW' u ua ul uc hut⟩) _ t left W a len cap (Nat.le_refl _) ((knows1_iff n t).1 hk) h0 h1 hW (ht.ext hW)
  obtain ⟨f1, f2, f3⟩ := sense_node g hσ hu
  refine ⟨f2, fun c hc => ?_, ?_⟩
  · by_cases h5 : (hd S (rootD S u)).kind = 5
    · rw [f3 h5] at hc; cases hc
    · exact f1.kid h5 hc
  · generalize hd S (rootD S u) = r at *
    obtain ⟨k, v, l⟩ := r
    have := (may_node f1.may).1
    have := (arity_le k).2
    show l.length ≤ 2
    omega
theorem sub_vr_id (t : Ty) : t.may = true → t.sub vr = t := by
  induction t using Ty.ind with
  | h k v l ih =>
    intro hm
    obtain ⟨h1, h2, h3, h4⟩ := may_node hm
    by_cases h5 : k = 5
    · subst h5
      have : l = [] := List.eq_nil_of_length_eq_zero (by simp [arity] at h1; omega)
      subst this
      exact vr_sub vr v
    · rw [Ty.sub_other vr h5]
      have hv : v = 0 := h3.resolve_right h5
      rw [hv]
      congr 1
      conv => rhs; rw [← List.map_id l]
      exact List.map_congr_left fun t ht => ih t ht (h4 t ht)
/-- A book that is none tells a type as it stands. -/
theorem nil_Sense {w : World} (t : Ty) (most : Int) (a : Option Addr) (len cap : Nat) (ht : IsTy w t (.agg #[.int .u8 t.kind, .int .i64 t.var, .slice a len cap])) (hm0 : -9223372036854775808 ≤ most) (hm : most ≤ 9223372036854775807) :
    Calls Try.prog 18 #[.pointer none, .agg #[.int .u8 t.kind, .int .i64 t.var, .slice a len cap], .int .i64 most] w (RetTell 0 vr t most w) := by
  refine unify_Sense w none 0 vr t most a len cap (nil_tells w) ht hm0 hm fun hk W left hW h0 h1 => ?_
  refine unify_sense w none vr (Fit 0) (fun t => t) (fun u hu => ?_) (.inl ⟨rfl, fun _ => rfl⟩) _ t left W a len cap (Nat.le_refl _) ((knows1_iff 0 t).1 hk) h0 h1 hW (ht.ext hW)
  have h5 : u.kind ≠ 5 := fun h5 => by have := hu.range h5; omega
  obtain ⟨k, v, l⟩ := u
  have h5 : k ≠ 5 := h5
  have hm := (may_node hu.may)
  have hv : v = 0 := hm.2.2.1.resolve_right h5
  refine ⟨?_, fun c hc => hu.kid (t := .mk k v l) h5 hc, ?_⟩
  · rw [Ty.sub_other vr h5, hv]; rfl
  · have := hm.1
    have := (arity_le k).2
    show l.length ≤ 2
    omega
set_option maxRecDepth 8000 in
set_option maxHeartbeats 2000000 in
theorem nil_same {w : World} (l : List Ty) (a : Option Addr) (len cap : Nat) (h1 : len ≤ cap) (h2 : cap ≤ 9223372036854775807) (hl : IsTys w l a len) (he : ∀ t u, t ∈ l → u ∈ l → t.same u = true) :
    Calls Try.prog 30 #[.slice a len cap] w fun e w' => e = .returned (.bool true) ∧ Ext w w' := by
  have HL := Lib.hid hl
  have HE := Lib.hid he
  clear hl he
  go_enter Try.func30, Try.ntmps30
  go_wp2_with fail
  go_loopg [7] len (fun g i wr => ∃ j : Nat, g = len - j ∧ i = .int .i64 j ∧ j ≤ len ∧ Ext w wr)
  case atStart => exact ⟨0, by omega, rfl, by omega, Ext.refl _⟩
  case round =>
    obtain ⟨j, rfl, rfl, hj, hx⟩ := hrel
    by_cases hlt : j < len
    · obtain ⟨u, ub, uo, c0, c1, c2, gu, rfl, q0, q1, q2, qt⟩ := HL.out.at3 hx hlt
      obtain ⟨v, vb, vo, d0, d1, d2, gv, ev, r0, r1, r2, rt⟩ := HL.out.at3 hx (show 0 < len by omega)
      injection ev with ev
      injection ev with e1 e2
      subst e1 e2
      simp only [Nat.zero_mul, Nat.add_zero] at r0 r1 r2
      have KM := Lib.hid fun W (h : Ext wr W) => types_same u.size u v W (.agg #[c0, c1, c2]) (.agg #[d0, d1, d2]) (Nat.le_refl _) (qt.ext h) (rt.ext h)
      rw [HE.out u v (List.mem_of_getElem? gu) (List.mem_of_getElem? gv)] at KM
      obtain ⟨uk, um, ul⟩ := u
      obtain ⟨vk, vm, vl⟩ := v
      obtain ⟨xa, xl, xc, e, -, -, -, -, -, -, -⟩ := qt.open_
      simp at e
      obtain ⟨rfl, rfl, rfl⟩ := e
      obtain ⟨ya, yl, yc, e, -, -, -, -, -, -, -⟩ := rt.open_
      simp at e
      obtain ⟨rfl, rfl, rfl⟩ := e
      have q0 := fun W (h : Ext wr W) => h.cell q0
      have q1 := fun W (h : Ext wr W) => h.cell q1
      have q2 := fun W (h : Ext wr W) => h.cell q2
      have r0 := fun W (h : Ext wr W) => h.cell r0
      have r1 := fun W (h : Ext wr W) => h.cell r1
      have r2 := fun W (h : Ext wr W) => h.cell r2
      have HX := Lib.hid hx
      have hl0 : 0 < len := by omega
      have HLT := Lib.hid hlt
      have s0 := q0 wr (Ext.refl _)
      have s1 := q1 wr (Ext.refl _)
      have s2 := q2 wr (Ext.refl _)
      clear gu gv qt rt hx
      go_upto_region 4 with fail
      have B5 := Lib.hid (Blk.new wr 25 #[.int .u8 uk, .int .i64 um, .slice xa xl xc])
      have X5 := Lib.hid ((Ext.refl wr).alloc (.cells #[.int .u8 uk, .int .i64 um, .slice xa xl xc] 25))
      obtain ⟨b5, hb5⟩ : ∃ b, b = wr.heap.size := ⟨_, rfl⟩
      rw [← hb5] at B5
      rw [← hb5]
      clear hb5 s0 s1 s2 q0 q1 q2
      generalize (wr.alloc (.cells #[.int .u8 uk, .int .i64 um, .slice xa xl xc] 25)) = W5 at *
      obtain ⟨p0, p1, p2⟩ := B5.out.three
      have p0 := fun W (h : Ext W5 W) => h.cell p0
      have p1 := fun W (h : Ext W5 W) => h.cell p1
      have p2 := fun W (h : Ext W5 W) => h.cell p2
      have r0 := fun W (h : Ext W5 W) => r0 W (X5.out.trans h)
      have r1 := fun W (h : Ext W5 W) => r1 W (X5.out.trans h)
      have r2 := fun W (h : Ext W5 W) => r2 W (X5.out.trans h)
      refine wp_region_held_drew (S := fun w' => Ext W5 w') (by kernel_rfl) (by (try dsimp only); (exact eX)) (fun hHeld => ?_)
      refine tK 0 (v := ?_) ?_ ?_;rotate_left;(focus (intro w hSw;(try dsimp only at hSw);go_simp;(try with_reducible rfl)));try simp only [Act.put,pA,pB,pC]
      refine tK 1 (v := ?_) ?_ ?_;rotate_left;(focus (intro w hSw;(try dsimp only at hSw);go_simp;(try with_reducible rfl)));try simp only [Act.put,pA,pB,pC]
      refine tK 2 (v := ?_) ?_ ?_;rotate_left;(focus (intro w hSw;(try dsimp only at hSw);go_simp;(try with_reducible rfl)));try simp only [Act.put,pA,pB,pC]
      refine tK 3 (v := ?_) ?_ ?_;rotate_left;(focus (intro w hSw;(try dsimp only at hSw);go_simp;(try with_reducible rfl)));try simp only [Act.put,pA,pB,pC]
      refine held_do 4 rfl (by kernel_rfl) (by rfl) (fun K hK => ?_); go_simp; (first | (go_at_call 42; (with_reducible refine (KM.out _ (X5.out.trans (by (exact eX)))).mono ?_); rintro e w6 ⟨rfl, x6⟩; have y6 : Ext W5 w6 := Ext.trans (by (exact eX)) x6)); (try (focus (go_wp2_with fail))); refine hK.out _ _ (by (try dsimp only); (exact eX)) (fun hHeld => ?_); clear hK K; try simp only [Act.put,pA,pB,pC]
      refine tK 5 (v := ?_) ?_ ?_;rotate_left;(focus (intro w hSw;(try dsimp only at hSw);go_simp;(try with_reducible rfl)));try simp only [Act.put,pA,pB,pC]
      refine wpAnyH_done (by kernel_rfl) ?_ _
      have HY := Lib.hid (HX.out.trans (X5.out.trans y6))
      clear p0 p1 p2 r0 r1 r2 hHeld x6 y6
      go_wp2_with fail
      go_roundg (len - (j + 1))
      case rel =>
        have hlt := HLT.out
        exact ⟨j + 1, rfl, by go_num, by omega, HY.out⟩
      case measure =>
        have hlt := HLT.out
        omega
    · obtain rfl : j = len := by omega
      go_wp2_with fail
      go_ret
      exact ⟨rfl, hx⟩
set_option maxRecDepth 8000 in
set_option maxHeartbeats 2000000 in
/-- A book that is none: same types can be the same if they have no variables. -/
theorem nil_Join {w : World} (l : List Ty) (a : Option Addr) (len cap : Nat) (h1 : len ≤ cap) (h2 : cap ≤ 9223372036854775807) (hl : IsTys w l a len) (he : ∀ t u, t ∈ l → u ∈ l → t = u) :
    Calls Try.prog 17 #[.pointer none, .slice a len cap] w fun e w' => e = .returned (.bool (knows 0 l)) ∧ Ext w w' := by
  have KK := Lib.hid (book_knows (.pointer none) 0 l w a len cap h1 h2 hl (nil_tells w))
  have KS := Lib.hid fun W (h : Ext w W) => nil_same (w := W) l a len cap h1 h2 (hl.ext h) fun t u ht hu => (Ty.same_iff t u).2 (he t u ht hu)
  have hnp : ∀ W, (binOp .eql 28 (.pointer none) (.pointer none)).run Try.prog W = .ok (.bool true) W := fun W => by kernel_rfl
  clear hl he
  cases hk : knows 0 l with
  | false =>
    rw [hk] at KK
    clear hk
    go_enter Try.func17, Try.ntmps17
    go_wp2_with (go_at_call 29; refine (KK.out).mono ?_; rintro e w1 ⟨rfl, x1⟩)
    go_ret
    exact ⟨rfl, x1⟩
  | true =>
    rw [hk] at KK
    clear hk
    go_enter Try.func17, Try.ntmps17
    go_wp2_with (first | (go_at_call 29; refine (KK.out).mono ?_; rintro e w1 ⟨rfl, x1⟩) | (go_at_call 30; refine (KS.out _ x1).mono ?_; rintro e w2 ⟨rfl, x2⟩))
    go_ret
    exact ⟨rfl, x1.trans x2⟩
end Go.Proofs.Ytkjjbackkipfdaa
