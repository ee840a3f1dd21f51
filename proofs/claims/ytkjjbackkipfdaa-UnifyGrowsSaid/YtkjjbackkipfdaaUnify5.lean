/- The walk of package unify: link. -/
import Derived.Test.YtkjjbackkipfdaaUnify4
namespace Go.Proofs.Ytkjjbackkipfdaa
open Go Go.RowKit Go.Sort
variable {A : Nat → Prop}

/-- What join does, for so much fuel. -/
def JoinC (A : Nat → Prop) (n bb mb : Nat) (f : Nat) : Prop := ∀ (S S' : St) (r : Bool) (x y : Ty) (w : World) (a : Option Addr) (len cap : Nat) (a' : Option Addr) (len' cap' : Nat), BookAtA A w bb mb n S → Good n S → Fit n x → Fit n y → IsTyA A w x (.agg #[.int .u8 x.kind, .int .i64 x.var, .slice a len cap]) → IsTyA A w y (.agg #[.int .u8 y.kind, .int .i64 y.var, .slice a' len' cap']) → joinF f S x y = some (S', r) →
  Calls Try.prog 32 #[.pointer (some ⟨bb, 0, none⟩), .agg #[.int .u8 x.kind, .int .i64 x.var, .slice a len cap], .agg #[.int .u8 y.kind, .int .i64 y.var, .slice a' len' cap']] w fun e w' => e = .returned (.bool r) ∧ BookAtA A w' bb mb n S' ∧ ExtX (· = mb) w w'
def RetJ (A : Nat → Prop) (n bb mb : Nat) (S' : St) (r : Bool) (w : World) (e : Ending) (w' : World) : Prop := e = .returned (.bool r) ∧ BookAtA A w' bb mb n S' ∧ ExtX (· = mb) w w'
set_option maxRecDepth 8000 in
set_option maxHeartbeats 8000000 in
theorem book_link {n bb mb f : Nat} (hJ : JoinC A n bb mb f) {w : World} {S : St} (hB : BookAtA A w bb mb n S) (g : Good n S) (x y : Int) (hne : x ≠ y) (hx : 0 ≤ x ∧ x < n) (hy : 0 ≤ y ∧ y < n) (lx : ∀ t, S x = some t → t.kind ≠ 5) (ly : ∀ t, S y = some t → t.kind ≠ 5) (S' : St) (r : Bool) (h : linkW (joinF f) S x y = some (S', r)) :
    Calls Try.prog 45 #[.pointer (some ⟨bb, 0, none⟩), .int .i64 x, .int .i64 y] w (RetJ A n bb mb S' r w) := by
  have hsm := hB.small
  have hbb := hB.blk.lt
  have hmb := hB.map.lt
  have hnm := hB.ne
  have HB := Lib.hid hB
  have c1 := hB.c1
  have hxr : -9223372036854775808 ≤ x ∧ x ≤ 9223372036854775807 := by omega
  have hyr : -9223372036854775808 ≤ y ∧ y ≤ 9223372036854775807 := by omega
  have hx0 := hx.1
  have hx1 := hx.2
  have hy0 := hy.1
  have hy1 := hy.2
  have hmx0 : 0 ≤ max x y := by omega
  have hmx1 : max x y < n := by omega
  have hmn0 : -9223372036854775808 ≤ min x y := by omega
  have hmn1 : min x y ≤ 9223372036854775807 := by omega
  have hmm := @run_makeMap Try.prog
  unfold linkW at h
  cases ex : S x with
  | none =>
    have lx1 := hB.none_ hxr ex w (Ext.refl w)
    cases ey : S y with
    | none =>
      have ly1 := hB.none_ hyr ey (w.alloc (.cells #[.int .u8 0, .int .i64 0, .slice none 0 0] 25)) ((Ext.refl w).alloc _)
      rw [ex, ey] at h
      simp only [Option.some.injEq, Prod.mk.injEq] at h
      obtain ⟨rfl, rfl⟩ := h
      have X2 : Hid (Ext w ((w.alloc (.cells #[.int .u8 0, .int .i64 0, .slice none 0 0] 25)).alloc (.cells #[.int .u8 0, .int .i64 0, .slice none 0 0] 25))) := Lib.hid (((Ext.refl _).alloc _).alloc _)
      rcases Int.lt_or_gt_of_ne hne with hlt | hlt
      · rw [show max x y = y from by omega, show min x y = x from by omega]
        clear hB g hne lx ly ex ey hJ hx hy
        have hd1 : ¬ y < x := by omega
        go_enter Try.func45, Try.ntmps45
        go_upto_region 13 with fail
        clear c1 lx1 ly1
        generalize (w.alloc (.cells #[.int .u8 0, .int .i64 0, .slice none 0 0] 25)).alloc (.cells #[.int .u8 0, .int .i64 0, .slice none 0 0] 25) = W2 at *
        have hb2 := HB.out.ext X2.out
        have c1 := hb2.c1
        have d1 := fun W' (h : ExtX (fun b => b = mb) W2 W') => h.cell (show ¬ bb = mb from hnm) c1
        have HB2 := Lib.hid hb2
        have lb2 := hb2.blk.lt
        clear c1 hb2
        refine wp_region_held_drew (S := fun w' => ExtX (fun b => b = mb) W2 w') (by kernel_rfl) (by (try dsimp only); (exact xX)) (fun hHeld => ?_)
        refine tK 0 (v := ?_) ?_ ?_;rotate_left;(focus (intro w hSw;(try dsimp only at hSw);go_simp;(try with_reducible rfl)));try simp only [Act.put,pA,pB,pC]
        refine tK 1 (v := ?_) ?_ ?_;rotate_left;(focus (intro w hSw;(try dsimp only at hSw);go_simp;(try with_reducible rfl)));try simp only [Act.put,pA,pB,pC]
        refine tK 2 (v := ?_) ?_ ?_;rotate_left;(focus (intro w hSw;(try dsimp only at hSw);go_simp;(try with_reducible rfl)));try simp only [Act.put,pA,pB,pC]
        refine tK 3 (v := ?_) ?_ ?_;rotate_left;(focus (intro w hSw;(try dsimp only at hSw);go_simp;(try with_reducible rfl)));try simp only [Act.put,pA,pB,pC]
        refine tK 4 (v := ?_) ?_ ?_;rotate_left;(focus (intro w hSw;(try dsimp only at hSw);go_simp;(try with_reducible rfl)));try simp only [Act.put,pA,pB,pC]
        refine tK 5 (v := ?_) ?_ ?_;rotate_left;(focus (intro w hSw;(try dsimp only at hSw);go_simp;(try with_reducible rfl)));try simp only [Act.put,pA,pB,pC]
        refine tK 6 (v := ?_) ?_ ?_;rotate_left;(focus (intro w hSw;(try dsimp only at hSw);go_simp;(try with_reducible rfl)));try simp only [Act.put,pA,pB,pC]
        refine tK 7 (v := ?_) ?_ ?_;rotate_left;(focus (intro w hSw;(try dsimp only at hSw);go_simp;(try with_reducible rfl)));try simp only [Act.put,pA,pB,pC]
        refine tK 8 (v := ?_) ?_ ?_;rotate_left;(focus (intro w hSw;(try dsimp only at hSw);go_simp;(try with_reducible rfl)));try simp only [Act.put,pA,pB,pC]
        refine tK 9 (v := ?_) ?_ ?_;rotate_left;(focus (intro w hSw;(try dsimp only at hSw);go_simp;(try with_reducible rfl)));try simp only [Act.put,pA,pB,pC]
        refine tK 10 (v := ?_) ?_ ?_;rotate_left;(focus (intro w hSw;(try dsimp only at hSw);go_simp;(try with_reducible rfl)));try simp only [Act.put,pA,pB,pC]
        refine held_do 11 rfl (by kernel_rfl) (by rfl) (fun K hK => ?_); go_simp; (first | (go_at_call 51; refine (book_link1 _ _).mono ?_; rintro e w6 ⟨rfl, x6⟩; have y6 := ExtX.then_ (ExtX.drew (ExtX.refl W2) : ExtX (fun b => b = mb) W2 W2.drew) x6)); (try (focus (go_wp2_with fail))); refine hK.out _ _ (by (try dsimp only); (exact xX)) (fun hHeld => ?_); clear hK K; try simp only [Act.put,pA,pB,pC]
        refine held_do 12 rfl (by kernel_rfl) (by rfl) (fun K hK => ?_); (first | (refine wp_book (.tmp 78) (.tmp 81) (.tmp 86) 56 rfl 3 25 Try.underlying3 Try.underlying56 mb n S rfl (HB2.out.map.ext (((Ext.refl W2).drew).trans x6)) hsm y _ (vr x) rfl rfl hy0 hy1 (vr_ty hxr.1 hxr.2) ?_; intro w9 hM9 x9; have y9 := ExtX.trans y6 x9)); refine hK.out _ _ (by (try dsimp only); (exact xX)) (fun hHeld => ?_); clear hK K; try simp only [Act.put,pA,pB,pC]
        refine wpAnyH_done (by kernel_rfl) ?_ _
        have HM9 := Lib.hid hM9
        have Y9 := Lib.hid y9
        clear hM9 y9 x9 y6 x6 hHeld
        go_wp2_with fail
        go_ret
        exact ⟨rfl, HB2.out.turn Y9.out HM9.out, (ExtX.of X2.out).trans Y9.out⟩
      · rw [show max x y = x from by omega, show min x y = y from by omega]
        clear hB g hne lx ly ex ey hJ hx hy
        have hd1 : ¬ x < y := by omega
        go_enter Try.func45, Try.ntmps45
        go_upto_region 13 with fail
        clear c1 lx1 ly1
        generalize (w.alloc (.cells #[.int .u8 0, .int .i64 0, .slice none 0 0] 25)).alloc (.cells #[.int .u8 0, .int .i64 0, .slice none 0 0] 25) = W2 at *
        have hb2 := HB.out.ext X2.out
        have c1 := hb2.c1
        have d1 := fun W' (h : ExtX (fun b => b = mb) W2 W') => h.cell (show ¬ bb = mb from hnm) c1
        have HB2 := Lib.hid hb2
        have lb2 := hb2.blk.lt
        clear c1 hb2
        refine wp_region_held_drew (S := fun w' => ExtX (fun b => b = mb) W2 w') (by kernel_rfl) (by (try dsimp only); (exact xX)) (fun hHeld => ?_)
        refine tK 0 (v := ?_) ?_ ?_;rotate_left;(focus (intro w hSw;(try dsimp only at hSw);go_simp;(try with_reducible rfl)));try simp only [Act.put,pA,pB,pC]
        refine tK 1 (v := ?_) ?_ ?_;rotate_left;(focus (intro w hSw;(try dsimp only at hSw);go_simp;(try with_reducible rfl)));try simp only [Act.put,pA,pB,pC]
        refine tK 2 (v := ?_) ?_ ?_;rotate_left;(focus (intro w hSw;(try dsimp only at hSw);go_simp;(try with_reducible rfl)));try simp only [Act.put,pA,pB,pC]
        refine tK 3 (v := ?_) ?_ ?_;rotate_left;(focus (intro w hSw;(try dsimp only at hSw);go_simp;(try with_reducible rfl)));try simp only [Act.put,pA,pB,pC]
        refine tK 4 (v := ?_) ?_ ?_;rotate_left;(focus (intro w hSw;(try dsimp only at hSw);go_simp;(try with_reducible rfl)));try simp only [Act.put,pA,pB,pC]
        refine tK 5 (v := ?_) ?_ ?_;rotate_left;(focus (intro w hSw;(try dsimp only at hSw);go_simp;(try with_reducible rfl)));try simp only [Act.put,pA,pB,pC]
        refine tK 6 (v := ?_) ?_ ?_;rotate_left;(focus (intro w hSw;(try dsimp only at hSw);go_simp;(try with_reducible rfl)));try simp only [Act.put,pA,pB,pC]
        refine tK 7 (v := ?_) ?_ ?_;rotate_left;(focus (intro w hSw;(try dsimp only at hSw);go_simp;(try with_reducible rfl)));try simp only [Act.put,pA,pB,pC]
        refine tK 8 (v := ?_) ?_ ?_;rotate_left;(focus (intro w hSw;(try dsimp only at hSw);go_simp;(try with_reducible rfl)));try simp only [Act.put,pA,pB,pC]
        refine tK 9 (v := ?_) ?_ ?_;rotate_left;(focus (intro w hSw;(try dsimp only at hSw);go_simp;(try with_reducible rfl)));try simp only [Act.put,pA,pB,pC]
        refine tK 10 (v := ?_) ?_ ?_;rotate_left;(focus (intro w hSw;(try dsimp only at hSw);go_simp;(try with_reducible rfl)));try simp only [Act.put,pA,pB,pC]
        refine held_do 11 rfl (by kernel_rfl) (by rfl) (fun K hK => ?_); go_simp; (first | (go_at_call 51; refine (book_link1 _ _).mono ?_; rintro e w6 ⟨rfl, x6⟩; have y6 := ExtX.then_ (ExtX.drew (ExtX.refl W2) : ExtX (fun b => b = mb) W2 W2.drew) x6)); (try (focus (go_wp2_with fail))); refine hK.out _ _ (by (try dsimp only); (exact xX)) (fun hHeld => ?_); clear hK K; try simp only [Act.put,pA,pB,pC]
        refine held_do 12 rfl (by kernel_rfl) (by rfl) (fun K hK => ?_); (first | (refine wp_book (.tmp 78) (.tmp 81) (.tmp 86) 56 rfl 3 25 Try.underlying3 Try.underlying56 mb n S rfl (HB2.out.map.ext (((Ext.refl W2).drew).trans x6)) hsm x _ (vr y) rfl rfl hx0 hx1 (vr_ty hyr.1 hyr.2) ?_; intro w9 hM9 x9; have y9 := ExtX.trans y6 x9)); refine hK.out _ _ (by (try dsimp only); (exact xX)) (fun hHeld => ?_); clear hK K; try simp only [Act.put,pA,pB,pC]
        refine wpAnyH_done (by kernel_rfl) ?_ _
        have HM9 := Lib.hid hM9
        have Y9 := Lib.hid y9
        clear hM9 y9 x9 y6 x6 hHeld
        go_wp2_with fail
        go_ret
        exact ⟨rfl, HB2.out.turn Y9.out HM9.out, (ExtX.of X2.out).trans Y9.out⟩
    | some other =>
      obtain ⟨oa, ol, oc, hot, ly0⟩ := hB.some_ hyr ey
      have ly1 := ly0 (w.alloc (.cells #[.int .u8 0, .int .i64 0, .slice none 0 0] 25)) ((Ext.refl w).alloc _)
      rw [ex, ey] at h
      simp only [Option.some.injEq] at h
      have KS := Lib.hid fun W (h : Ext w W) => book_stand hB g x hx (vr y) (Fit.vr_ hy.1 hy.2) W h none 0 0 (vr_ty hyr.1 hyr.2)
      rw [h] at KS
      have KS : Hid (∀ W, Ext w W → Calls Try.prog 47 #[.pointer (some ⟨bb, 0, none⟩), .int .i64 x, .agg #[.int .u8 5, .int .i64 y, .slice none 0 0]] W fun e w' => e = .returned (.bool r) ∧ BookAtA A w' bb mb n S' ∧ ExtX (· = mb) W w') := Lib.hid KS.out
      clear hB g hne lx ly ex ey hJ hx hy ly0 hot h
      go_enter Try.func45, Try.ntmps45
      go_wp2_with (first | (go_at_call 51; refine (book_link1 _ _).mono ?_; rintro e w6 ⟨rfl, x6⟩) | (go_at_call 47; refine (KS.out _ (by (exact eX))).mono ?_; rintro e w7 ⟨rfl, hb7, x7⟩))
      go_ret
      exact ⟨rfl, hb7, (ExtX.of (by (exact eX) : Ext w _)).trans x7⟩
  | some tx =>
    obtain ⟨ta, tl, tc, htt, lx0⟩ := hB.some_ hxr ex
    have lx1 := lx0 w (Ext.refl w)
    cases ey : S y with
    | none =>
      have ly1 := hB.none_ hyr ey (w.alloc (.cells #[.int .u8 tx.kind, .int .i64 tx.var, .slice ta tl tc] 25)) ((Ext.refl w).alloc _)
      rw [ex, ey] at h
      simp only [Option.some.injEq] at h
      have KS := Lib.hid fun W (h : Ext w W) => book_stand hB g y hy (vr x) (Fit.vr_ hx.1 hx.2) W h none 0 0 (vr_ty hxr.1 hxr.2)
      rw [h] at KS
      have KS : Hid (∀ W, Ext w W → Calls Try.prog 47 #[.pointer (some ⟨bb, 0, none⟩), .int .i64 y, .agg #[.int .u8 5, .int .i64 x, .slice none 0 0]] W fun e w' => e = .returned (.bool r) ∧ BookAtA A w' bb mb n S' ∧ ExtX (· = mb) W w') := Lib.hid KS.out
      clear hB g hne lx ly ex ey hJ hx hy lx0 htt h
      go_enter Try.func45, Try.ntmps45
      go_wp2_with (first | (go_at_call 51; refine (book_link1 _ _).mono ?_; rintro e w6 ⟨rfl, x6⟩) | (go_at_call 47; refine (KS.out _ (by (exact eX))).mono ?_; rintro e w7 ⟨rfl, hb7, x7⟩))
      go_ret
      exact ⟨rfl, hb7, (ExtX.of (by (exact eX) : Ext w _)).trans x7⟩
    | some other =>
      obtain ⟨oa, ol, oc, hot, ly0⟩ := hB.some_ hyr ey
      have ly1 := ly0 (w.alloc (.cells #[.int .u8 tx.kind, .int .i64 tx.var, .slice ta tl tc] 25)) ((Ext.refl w).alloc _)
      rw [ex, ey] at h
      simp only at h
      have fo := (g.fit _ _ ey).2.2
      have ft := (g.fit _ _ ex).2.2
      have KI1 := Lib.hid fun (W : World) (qb : Nat) (h : Ext w W) (hq : w.heap.size ≤ qb) (hM : Met1 W qb n []) => book_in hB g x qb hq (unmet [] n) other [] W oa ol oc (Nat.le_refl _) h hM fo hot
      have KI2 := Lib.hid fun (W : World) (qb : Nat) (h : Ext w W) (hq : w.heap.size ≤ qb) (hM : Met1 W qb n []) => book_in hB g y qb hq (unmet [] n) tx [] W ta tl tc (Nat.le_refl _) h hM ft htt
      have HNO : Hid (In S x other ∨ In S y tx → S' = S ∧ r = false) := Lib.hid fun hi => by rw [if_pos hi] at h; cases h; exact ⟨rfl, rfl⟩
      have HYES : Hid (¬ In S x other → ¬ In S y tx → Good n (S.put x (vr y)) ∧ joinF f (S.put x (vr y)) tx other = some (S', r)) := Lib.hid fun h1 h2 => by
        rw [if_neg (by rintro (h | h); exact h1 h; exact h2 h)] at h
        refine ⟨g.put hx.1 hx.2 (Fit.vr_ hy.1 hy.2) (fun hi => ?_) fun u l e => ?_, h⟩
        · rcases In.var.1 hi with e | ⟨t, e, h⟩
          · exact hne e.symm
          · rw [ey] at e; cases e; exact h1 h
        · cases e
          exact ⟨other, ey, ly _ ey, fun e => hne e.symm⟩
      have HJ := Lib.hid fun (W : World) hb g' h1 h2 hj => hJ (S.put x (vr y)) S' r tx other W ta tl tc oa ol oc hb g' ft fo h1 h2 hj
      have HOT := Lib.hid hot
      have HTT := Lib.hid htt
      have B7 := Lib.hid ((Blk.new w 25 #[.int .u8 tx.kind, .int .i64 tx.var, .slice ta tl tc]).alloc (.cells #[.int .u8 other.kind, .int .i64 other.var, .slice oa ol oc] 25))
      have B9 : Hid (Blk ((w.alloc (.cells #[.int .u8 tx.kind, .int .i64 tx.var, .slice ta tl tc] 25)).alloc (.cells #[.int .u8 other.kind, .int .i64 other.var, .slice oa ol oc] 25)) (w.heap.size + 1) 25 #[.int .u8 other.kind, .int .i64 other.var, .slice oa ol oc]) := Lib.hid (by
        have h := Blk.new (w.alloc (.cells #[.int .u8 tx.kind, .int .i64 tx.var, .slice ta tl tc] 25)) 25 #[.int .u8 other.kind, .int .i64 other.var, .slice oa ol oc]
        rw [World.size_alloc] at h
        exact h)
      have X2 : Hid (Ext w ((w.alloc (.cells #[.int .u8 tx.kind, .int .i64 tx.var, .slice ta tl tc] 25)).alloc (.cells #[.int .u8 other.kind, .int .i64 other.var, .slice oa ol oc] 25))) := Lib.hid (((Ext.refl _).alloc _).alloc _)
      clear hB g hne lx ly ex ey hJ hx hy lx0 ly0 htt hot h fo ft
      go_enter Try.func45, Try.ntmps45
      go_upto_region 5 with fail
      clear c1 lx1 ly1
      generalize (w.alloc (.cells #[.int .u8 tx.kind, .int .i64 tx.var, .slice ta tl tc] 25)).alloc (.cells #[.int .u8 other.kind, .int .i64 other.var, .slice oa ol oc] 25) = W2 at *
      obtain ⟨p0, p1, p2⟩ := B7.out.three
      obtain ⟨q0, q1, q2⟩ := B9.out.three
      have lq := B9.out.lt
      have HM1 := Lib.hid (MetAt.made W2 Try.prog 3 n)
      have hws := X2.out.size
      go_wp2_with fail
      refine (KI1.out _ _ (X2.out.alloc _) hws HM1.out).mono ?_
      rintro e w5 ⟨r1, M1, rfl, hS1, -, x5⟩
      have hx5 : Ext W2 w5 := ExtX.ext ((Ext.refl W2).alloc _) x5 (fun b e => Nat.le_of_eq (show b = W2.heap.size from e).symm)
      have X5 := Lib.hid (X2.out.trans hx5)
      have HT1 := Lib.hid hS1.tells
      have B75 := Lib.hid (B7.out.ext hx5)
      have B95 := Lib.hid (B9.out.ext hx5)
      clear hS1 x5 hx5 p0 p1 p2 q0 q1 q2 lq hws
      cases r1 with
      | true =>
        have hs := HNO.out (.inl (HT1.out.1 rfl))
        have HS := Lib.hid hs
        clear hs
        go_wp2_with fail
        go_ret
        exact ⟨by rw [HS.out.2]; rfl, by rw [HS.out.1]; exact HB.out.ext X5.out, ExtX.of X5.out⟩
      | false =>
        obtain ⟨p0, p1, p2⟩ := B75.out.three
        obtain ⟨q0, q1, q2⟩ := B95.out.three
        have lq := B95.out.lt
        have HM2 := Lib.hid (MetAt.made w5 Try.prog 3 n)
        have hws := X5.out.size
        go_wp2_with fail
        refine (KI2.out _ _ (X5.out.alloc _) hws HM2.out).mono ?_
        rintro e w6 ⟨r2, M2, rfl, hS2, -, x6⟩
        have hx6 : Ext w5 w6 := ExtX.ext ((Ext.refl w5).alloc _) x6 (fun b e => Nat.le_of_eq (show b = w5.heap.size from e).symm)
        have X6 := Lib.hid (X5.out.trans hx6)
        have HT2 := Lib.hid hS2.tells
        have B76 := Lib.hid (B75.out.ext hx6)
        have B96 := Lib.hid (B95.out.ext hx6)
        clear hS2 x6 hx6 p0 p1 p2 q0 q1 q2 lq hws
        cases r2 with
        | true =>
          have HS := Lib.hid (HNO.out (.inr (HT2.out.1 rfl)))
          go_wp2_with fail
          go_ret
          exact ⟨by rw [HS.out.2]; rfl, by rw [HS.out.1]; exact HB.out.ext X6.out, ExtX.of X6.out⟩
        | false =>
          have HY := Lib.hid (HYES.out (fun h => by have := HT1.out.2 h; cases this) (fun h => by have := HT2.out.2 h; cases this))
          go_upto_region 7 with fail
          have hb6 := HB.out.ext X6.out
          have c1 := hb6.c1
          have d1 := fun W' (h : ExtX (fun b => b = mb) w6 W') => h.cell (show ¬ bb = mb from hnm) c1
          have HB6 := Lib.hid hb6
          have lb6 := hb6.blk.lt
          clear c1 hb6
          refine wp_region_held_drew (S := fun w' => ExtX (fun b => b = mb) w6 w') (by kernel_rfl) (by (try dsimp only); (exact xX)) (fun hHeld => ?_)
          refine tK 0 (v := ?_) ?_ ?_;rotate_left;(focus (intro w hSw;(try dsimp only at hSw);go_simp;(try with_reducible rfl)));try simp only [Act.put,pA,pB,pC]
          refine tK 1 (v := ?_) ?_ ?_;rotate_left;(focus (intro w hSw;(try dsimp only at hSw);go_simp;(try with_reducible rfl)));try simp only [Act.put,pA,pB,pC]
          refine tK 2 (v := ?_) ?_ ?_;rotate_left;(focus (intro w hSw;(try dsimp only at hSw);go_simp;(try with_reducible rfl)));try simp only [Act.put,pA,pB,pC]
          refine tK 3 (v := ?_) ?_ ?_;rotate_left;(focus (intro w hSw;(try dsimp only at hSw);go_simp;(try with_reducible rfl)));try simp only [Act.put,pA,pB,pC]
          refine tK 4 (v := ?_) ?_ ?_;rotate_left;(focus (intro w hSw;(try dsimp only at hSw);go_simp;(try with_reducible rfl)));try simp only [Act.put,pA,pB,pC]
          refine tK 5 (v := ?_) ?_ ?_;rotate_left;(focus (intro w hSw;(try dsimp only at hSw);go_simp;(try with_reducible rfl)));try simp only [Act.put,pA,pB,pC]
          refine tK 6 (v := ?_) ?_ ?_;rotate_left;(focus (intro w hSw;(try dsimp only at hSw);go_simp;(try with_reducible rfl)));try simp only [Act.put,pA,pB,pC]
          refine held_do 7 rfl (by kernel_rfl) (by rfl) (fun K hK => ?_); go_simp; (first | (go_at_call 51; refine (book_link1 _ _).mono ?_; rintro e w7 ⟨rfl, x7⟩; have y7 := ExtX.then_ (ExtX.drew (ExtX.refl w6) : ExtX (fun b => b = mb) w6 w6.drew) x7; have z7 := ((Ext.refl w6).drew).trans x7)); (try (focus (go_wp2_with fail))); refine hK.out _ _ (by (try dsimp only); (exact xX)) (fun hHeld => ?_); clear hK K; try simp only [Act.put,pA,pB,pC]
          refine held_do 8 rfl (by kernel_rfl) (by rfl) (fun K hK => ?_); (first | (refine wp_book (.tmp 50) (.tmp 51) (.tmp 54) 56 rfl 3 25 Try.underlying3 Try.underlying56 mb n S rfl (HB6.out.map.ext z7) hsm x _ (vr y) rfl rfl hx0 hx1 (vr_ty hyr.1 hyr.2) ?_; intro w9 hM9 x9; have y9 := ExtX.trans y7 x9)); refine hK.out _ _ (by (try dsimp only); (exact xX)) (fun hHeld => ?_); clear hK K; try simp only [Act.put,pA,pB,pC]
          refine wpAnyH_done (by kernel_rfl) ?_ _
          have HM9 := Lib.hid hM9
          have Y9 := Lib.hid y9
          clear hM9 y9 x9 y7 z7 x7 hHeld d1
          have hw6 := X6.out.size
          have b7 := (Y9.out.block _ B76.out.lt (show ¬ w.heap.size = mb by omega)).trans B76.out
          have b9 := (Y9.out.block _ B96.out.lt (show ¬ w.heap.size + 1 = mb by omega)).trans B96.out
          obtain ⟨p0, p1, p2⟩ := Blk.three b7
          obtain ⟨q0, q1, q2⟩ := Blk.three b9
          have l7 := Blk.lt b7
          have l9 := Blk.lt b9
          obtain ⟨es, ck, hblk⟩ := HB6.out.map.block
          have KJ := Lib.hid (HJ.out w9 (HB6.out.turn Y9.out HM9.out) HY.out.1 ((HTT.out.ext X6.out).mapX hblk Y9.out) ((HOT.out.ext X6.out).mapX hblk Y9.out) HY.out.2)
          clear b7 b9 hblk
          go_wp2_with (go_at_call 32; refine (KJ.out).mono ?_; rintro e w10 ⟨rfl, hb10, x10⟩)
          go_ret
          exact ⟨rfl, hb10, ((ExtX.of X6.out).trans Y9.out).trans x10⟩
end Go.Proofs.Ytkjjbackkipfdaa
