/- The walk of package unify: join. -/
import Derived.Test.YtkjjbackkipfdaaUnify5
namespace Go.Proofs.Ytkjjbackkipfdaa
open Go Go.RowKit Go.Sort
variable {A : Nat → Prop}

/-- What a region ends in, if it ends well. -/
def OnlyN (Φ : Act → World → Prop) : Exit → Act → World → Prop
  | .normal, a, w => Φ a w
  | _, _, _ => False
/-- A region's ways are led together. -/
theorem region_via {P : Program} {c : Code} {Q : Exit → Act → World → Prop} {a : Act} {w : World} (Φ : Act → World → Prop) (h : c.wp P (OnlyN Φ) a w) (hq : ∀ a w, Φ a w → Q .normal a w) : c.wp P Q a w :=
  wp_mono h fun e a w h => by
    cases e with
    | normal => exact hq a w h
    | _ => exact h.elim
theorem region_via2 {P : Program} {c : Code} {Q : Exit → Act → World → Prop} {a : Act} {w : World} (Φ : Act → Act → World → Prop) (h : c.wp P (OnlyN (Φ a)) a w) (hq : ∀ b w, Φ a b w → Q .normal b w) : c.wp P Q a w := region_via (Φ a) h hq
theorem rootD_last {S : St} {r : Ty} (h : r.kind = 5 → ∀ t, S r.var = some t → t.kind ≠ 5) : rootD S r = r := by
  by_cases h5 : r.kind = 5
  · cases e : S r.var with
    | none => exact rootD_free h5 e
    | some t => exact rootD_head h5 e (h h5 t e)
  · exact rootD_other h5
/-- One round of the kids. -/
theorem joinsW_step {J : St → Ty → Ty → Option (St × Bool)} {S S' : St} {r : Bool} {l l' : List Ty} {j : Nat} {t u : Ty} (ht : l[j]? = some t) (hu : l'[j]? = some u) (h : joinsW J S (l.drop j) (l'.drop j) = some (S', r)) :
    ∃ S1 r1, J S t u = some (S1, r1) ∧ (r1 = true → joinsW J S1 (l.drop (j + 1)) (l'.drop (j + 1)) = some (S', r)) ∧ (r1 = false → S' = S1 ∧ r = false) := by
  obtain ⟨h1, e1⟩ := List.getElem?_eq_some_iff.1 ht
  obtain ⟨h2, e2⟩ := List.getElem?_eq_some_iff.1 hu
  rw [List.drop_eq_getElem_cons h1, List.drop_eq_getElem_cons h2, e1, e2] at h
  simp only [joinsW] at h
  cases hj : J S t u with
  | none => rw [hj] at h; cases h
  | some q =>
    obtain ⟨S1, r1⟩ := q
    rw [hj] at h
    simp only [Option.bind_some] at h
    refine ⟨S1, r1, rfl, fun e => ?_, fun e => ?_⟩
    · subst e; simpa using h
    · subst e
      simp at h
      exact ⟨h.1.symm, h.2⟩
set_option maxRecDepth 8000 in
set_option maxHeartbeats 8000000 in
theorem book_join (n bb mb : Nat) (f : Nat) : JoinC A n bb mb f := by
  induction f with
  | zero => intro S S' r x y w a len cap a' len' cap' _ _ _ _ _ _ h; cases h
  | succ f ih =>
    intro S S' r x y w a len cap a' len' cap' hB g fx fy hx hy h
    have rx := rootD_root g.acy x
    have ry := rootD_root g.acy y
    have fX := rx.fit g fx
    have fY := ry.fit g fy
    have lX := rx.last
    have lY := ry.last
    have KX := Lib.hid fun W (h : Ext w W) => book_root hB g.acy W h x a len cap hx
    have KY := Lib.hid fun W (h : Ext w W) => book_root hB g.acy W h y a' len' cap' hy
    have h : joinR (joinF f) S (rootD S x) (rootD S y) = some (S', r) := h
    generalize rootD S x = X at *
    generalize rootD S y = Y at *
    have hbb := hB.blk.lt
    have hmb := hB.map.lt
    have HB := Lib.hid hB
    have HG := Lib.hid g
    have HLX := Lib.hid lX
    have HLY := Lib.hid lY
    have HFX := Lib.hid fX
    have HFY := Lib.hid fY
    have IH := Lib.hid ih
    clear hB g lX lY fX fY ih rx ry fx fy hx hy
    obtain ⟨kx, mx, lx⟩ := X
    obtain ⟨ky, my, ly⟩ := Y
    have KX : Hid (∀ W, Ext w W → Calls Try.prog 44 #[.pointer (some ⟨bb, 0, none⟩), .agg #[.int .u8 x.kind, .int .i64 x.var, .slice a len cap]] W fun e w' => ∃ ra rl rc, e = .returned (.agg #[.int .u8 kx, .int .i64 mx, .slice ra rl rc]) ∧ IsTyA A w (.mk kx mx lx) (.agg #[.int .u8 kx, .int .i64 mx, .slice ra rl rc]) ∧ Ext W w') := Lib.hid KX.out
    have KY : Hid (∀ W, Ext w W → Calls Try.prog 44 #[.pointer (some ⟨bb, 0, none⟩), .agg #[.int .u8 y.kind, .int .i64 y.var, .slice a' len' cap']] W fun e w' => ∃ ra rl rc, e = .returned (.agg #[.int .u8 ky, .int .i64 my, .slice ra rl rc]) ∧ IsTyA A w (.mk ky my ly) (.agg #[.int .u8 ky, .int .i64 my, .slice ra rl rc]) ∧ Ext W w') := Lib.hid KY.out
    go_enter Try.func32, Try.ntmps32
    go_upto_region 1 with fail
    refine region_via2 (fun a1 a2 w2 => ∃ ra rl rc sa sl sc, a2 = (((((a1.put (some 10) (.pointer (some ⟨bb, 0, none⟩))).put (some 11) (.agg #[.int .u8 x.kind, .int .i64 x.var, .slice a len cap])).put (some 12) (.agg #[.int .u8 kx, .int .i64 mx, .slice ra rl rc])).put (some 13) (.pointer (some ⟨bb, 0, none⟩))).put (some 14) (.agg #[.int .u8 y.kind, .int .i64 y.var, .slice a' len' cap'])).put (some 15) (.agg #[.int .u8 ky, .int .i64 my, .slice sa sl sc]) ∧ IsTyA A w (.mk kx mx lx) (.agg #[.int .u8 kx, .int .i64 mx, .slice ra rl rc]) ∧ IsTyA A w (.mk ky my ly) (.agg #[.int .u8 ky, .int .i64 my, .slice sa sl sc]) ∧ Blk w2 w.heap.size 25 #[.int .u8 kx, .int .i64 mx, .slice ra rl rc] ∧ Blk w2 (w.heap.size + 1) 25 #[.int .u8 ky, .int .i64 my, .slice sa sl sc] ∧ Ext w w2) ?_ ?_
    · have BX := Lib.hid ((Blk.new w 25 #[.int .u8 x.kind, .int .i64 x.var, .slice a len cap]).alloc (.cells #[.int .u8 y.kind, .int .i64 y.var, .slice a' len' cap'] 25))
      have BY : Hid (Blk ((w.alloc (.cells #[.int .u8 x.kind, .int .i64 x.var, .slice a len cap] 25)).alloc (.cells #[.int .u8 y.kind, .int .i64 y.var, .slice a' len' cap'] 25)) (w.heap.size + 1) 25 #[.int .u8 y.kind, .int .i64 y.var, .slice a' len' cap']) := Lib.hid (by
        have h := Blk.new (w.alloc (.cells #[.int .u8 x.kind, .int .i64 x.var, .slice a len cap] 25)) 25 #[.int .u8 y.kind, .int .i64 y.var, .slice a' len' cap']
        rw [World.size_alloc] at h
        exact h)
      have X0 : Hid (Ext w ((w.alloc (.cells #[.int .u8 x.kind, .int .i64 x.var, .slice a len cap] 25)).alloc (.cells #[.int .u8 y.kind, .int .i64 y.var, .slice a' len' cap'] 25))) := Lib.hid (((Ext.refl _).alloc _).alloc _)
      generalize (w.alloc (.cells #[.int .u8 x.kind, .int .i64 x.var, .slice a len cap] 25)).alloc (.cells #[.int .u8 y.kind, .int .i64 y.var, .slice a' len' cap'] 25) = W0 at *
      have HLE1 : Hid (w.heap.size ≤ w.heap.size) := Lib.hid (Nat.le_refl _)
      have HLE2 : Hid (w.heap.size ≤ w.heap.size + 1) := Lib.hid (Nat.le_succ _)
      have hn12 : ¬ w.heap.size = w.heap.size + 1 := by omega
      have hn21 : ¬ w.heap.size + 1 = w.heap.size := by omega
      obtain ⟨b1, hb1⟩ : ∃ b, b = w.heap.size := ⟨_, rfl⟩
      obtain ⟨b2, hb2⟩ : ∃ b, b = w.heap.size + 1 := ⟨_, rfl⟩
      have HLE1 : Hid (w.heap.size ≤ b1) := Lib.hid (by omega)
      have HLE2 : Hid (w.heap.size ≤ b2) := Lib.hid (by omega)
      rw [← hb2, ← hb1] at hn12 hn21
      rw [← hb2] at BY
      rw [← hb1] at BX
      rw [← hb2, ← hb1]
      clear hb1 hb2
      obtain ⟨p0, p1, p2⟩ := BX.out.three
      obtain ⟨q0, q1, q2⟩ := BY.out.three
      refine wp_region_held_drew (S := fun w' => ExtX (fun b => b = b1 ∨ b = b2) W0 w') (by kernel_rfl) (by (try dsimp only); (exact xX)) (fun hHeld => ?_)
      refine tK 0 (v := ?_) ?_ ?_;rotate_left;(focus (intro w hSw;(try dsimp only at hSw);go_simp;(try with_reducible rfl)));try simp only [Act.put,pA,pB,pC]
      refine tK 3 (v := ?_) ?_ ?_;rotate_left;(focus (intro w hSw;(try dsimp only at hSw);go_simp;(try with_reducible rfl)));try simp only [Act.put,pA,pB,pC]
      refine wpAnyH_ready (rs := [1, 4]) (by kernel_rfl) (by simp) ?_
      refine held_cons 1 rfl (by rfl) (fun K hK => ?_) (held_cons 4 rfl (by rfl) (fun K hK => ?_) AllReadyH.nil)
      go_simp; refine hK.out _ _ (by (try dsimp only); (exact xX)) (fun hHeld => ?_); clear hK K; try simp only [Act.put,pA,pB,pC]
      refine wpAnyH_ready (rs := [2, 4]) (by kernel_rfl) (by simp) ?_
      refine held_cons 2 rfl (by rfl) (fun K hK => ?_) (held_cons 4 rfl (by rfl) (fun K hK => ?_) AllReadyH.nil)
      go_simp; (first | (go_at_call 44; with_reducible refine (KX.out _ (X0.out.trans (by (exact eX)))).mono ?_; rintro e w3 ⟨ra, rl, rc, rfl, hr, x3⟩; have y3 : Ext W0 w3 := Ext.trans (by (exact eX)) x3; obtain ⟨q0, q1, q2⟩ := (BY.out.ext y3).three) | (go_at_call 44; with_reducible refine (KY.out _ (X0.out.trans (by (exact eX)))).mono ?_; rintro e w4 ⟨sa, sl, sc, rfl, hs, x4⟩; have y4 : Ext W0 w4 := y3.trans x4; have hb4 := BX.out.ext y4; have hd4 := BY.out.ext y4; have lb4 := hb4.lt; have ld4 := hd4.lt; have g0 := hb4.frozen 0; have g1 := hb4.frozen 1; have g2 := hb4.frozen 2; have f0 := hd4.frozen 0; have f1 := hd4.frozen 1; have f2 := hd4.frozen 2; obtain ⟨p0, p1, p2⟩ := hb4.three; obtain ⟨q0, q1, q2⟩ := hd4.three)); (try (focus (go_wp2_with fail))); refine hK.out _ _ (by (try dsimp only); (exact xX)) (fun hHeld => ?_); clear hK K; try simp only [Act.put,pA,pB,pC]
      refine held_do 4 rfl (by kernel_rfl) (by rfl) (fun K hK => ?_); go_simp; refine hK.out _ _ (by (try dsimp only); (exact xX)) (fun hHeld => ?_); clear hK K; try simp only [Act.put,pA,pB,pC]
      refine held_do 5 rfl (by kernel_rfl) (by rfl) (fun K hK => ?_); go_simp; (first | (go_at_call 44; with_reducible refine (KX.out _ (X0.out.trans (by (exact eX)))).mono ?_; rintro e w3 ⟨ra, rl, rc, rfl, hr, x3⟩; have y3 : Ext W0 w3 := Ext.trans (by (exact eX)) x3; obtain ⟨q0, q1, q2⟩ := (BY.out.ext y3).three) | (go_at_call 44; with_reducible refine (KY.out _ (X0.out.trans (by (exact eX)))).mono ?_; rintro e w4 ⟨sa, sl, sc, rfl, hs, x4⟩; have y4 : Ext W0 w4 := y3.trans x4; have hb4 := BX.out.ext y4; have hd4 := BY.out.ext y4; have lb4 := hb4.lt; have ld4 := hd4.lt; have g0 := hb4.frozen 0; have g1 := hb4.frozen 1; have g2 := hb4.frozen 2; have f0 := hd4.frozen 0; have f1 := hd4.frozen 1; have f2 := hd4.frozen 2; obtain ⟨p0, p1, p2⟩ := hb4.three; obtain ⟨q0, q1, q2⟩ := hd4.three)); (try (focus (go_wp2_with fail))); refine hK.out _ _ (by (try dsimp only); (exact xX)) (fun hHeld => ?_); clear hK K; try simp only [Act.put,pA,pB,pC]
      refine held_do 6 rfl (by kernel_rfl) (by rfl) (fun K hK => ?_); go_simp; refine hK.out _ _ (by (try dsimp only); (exact xX)) (fun hHeld => ?_); clear hK K; try simp only [Act.put,pA,pB,pC]
      refine held_do 7 rfl (by kernel_rfl) (by rfl) (fun K hK => ?_); go_simp; refine hK.out _ _ (by (try dsimp only); (exact xX)) (fun hHeld => ?_); clear hK K; try simp only [Act.put,pA,pB,pC]
      refine wpAnyH_done (by kernel_rfl) ?_ _
      rotate_left 1
      go_simp; refine hK.out _ _ (by (try dsimp only); (exact xX)) (fun hHeld => ?_); clear hK K; try simp only [Act.put,pA,pB,pC]
      refine held_do 2 rfl (by kernel_rfl) (by rfl) (fun K hK => ?_); go_simp; (first | (go_at_call 44; with_reducible refine (KX.out _ (X0.out.trans (by (exact eX)))).mono ?_; rintro e w3 ⟨ra, rl, rc, rfl, hr, x3⟩; have y3 : Ext W0 w3 := Ext.trans (by (exact eX)) x3; obtain ⟨q0, q1, q2⟩ := (BY.out.ext y3).three) | (go_at_call 44; with_reducible refine (KY.out _ (X0.out.trans (by (exact eX)))).mono ?_; rintro e w4 ⟨sa, sl, sc, rfl, hs, x4⟩; have y4 : Ext W0 w4 := y3.trans x4; have hb4 := BX.out.ext y4; have hd4 := BY.out.ext y4; have lb4 := hb4.lt; have ld4 := hd4.lt; have g0 := hb4.frozen 0; have g1 := hb4.frozen 1; have g2 := hb4.frozen 2; have f0 := hd4.frozen 0; have f1 := hd4.frozen 1; have f2 := hd4.frozen 2; obtain ⟨p0, p1, p2⟩ := hb4.three; obtain ⟨q0, q1, q2⟩ := hd4.three)); (try (focus (go_wp2_with fail))); refine hK.out _ _ (by (try dsimp only); (exact xX)) (fun hHeld => ?_); clear hK K; try simp only [Act.put,pA,pB,pC]
      refine held_do 5 rfl (by kernel_rfl) (by rfl) (fun K hK => ?_); go_simp; (first | (go_at_call 44; with_reducible refine (KX.out _ (X0.out.trans (by (exact eX)))).mono ?_; rintro e w3 ⟨ra, rl, rc, rfl, hr, x3⟩; have y3 : Ext W0 w3 := Ext.trans (by (exact eX)) x3; obtain ⟨q0, q1, q2⟩ := (BY.out.ext y3).three) | (go_at_call 44; with_reducible refine (KY.out _ (X0.out.trans (by (exact eX)))).mono ?_; rintro e w4 ⟨sa, sl, sc, rfl, hs, x4⟩; have y4 : Ext W0 w4 := y3.trans x4; have hb4 := BX.out.ext y4; have hd4 := BY.out.ext y4; have lb4 := hb4.lt; have ld4 := hd4.lt; have g0 := hb4.frozen 0; have g1 := hb4.frozen 1; have g2 := hb4.frozen 2; have f0 := hd4.frozen 0; have f1 := hd4.frozen 1; have f2 := hd4.frozen 2; obtain ⟨p0, p1, p2⟩ := hb4.three; obtain ⟨q0, q1, q2⟩ := hd4.three)); (try (focus (go_wp2_with fail))); refine hK.out _ _ (by (try dsimp only); (exact xX)) (fun hHeld => ?_); clear hK K; try simp only [Act.put,pA,pB,pC]
      refine held_do 6 rfl (by kernel_rfl) (by rfl) (fun K hK => ?_); go_simp; refine hK.out _ _ (by (try dsimp only); (exact xX)) (fun hHeld => ?_); clear hK K; try simp only [Act.put,pA,pB,pC]
      refine held_do 7 rfl (by kernel_rfl) (by rfl) (fun K hK => ?_); go_simp; refine hK.out _ _ (by (try dsimp only); (exact xX)) (fun hHeld => ?_); clear hK K; try simp only [Act.put,pA,pB,pC]
      refine wpAnyH_done (by kernel_rfl) ?_ _
      rotate_left 1
      go_simp; refine hK.out _ _ (by (try dsimp only); (exact xX)) (fun hHeld => ?_); clear hK K; try simp only [Act.put,pA,pB,pC]
      refine held_do 1 rfl (by kernel_rfl) (by rfl) (fun K hK => ?_); go_simp; refine hK.out _ _ (by (try dsimp only); (exact xX)) (fun hHeld => ?_); clear hK K; try simp only [Act.put,pA,pB,pC]
      refine held_do 2 rfl (by kernel_rfl) (by rfl) (fun K hK => ?_); go_simp; (first | (go_at_call 44; with_reducible refine (KX.out _ (X0.out.trans (by (exact eX)))).mono ?_; rintro e w3 ⟨ra, rl, rc, rfl, hr, x3⟩; have y3 : Ext W0 w3 := Ext.trans (by (exact eX)) x3; obtain ⟨q0, q1, q2⟩ := (BY.out.ext y3).three) | (go_at_call 44; with_reducible refine (KY.out _ (X0.out.trans (by (exact eX)))).mono ?_; rintro e w4 ⟨sa, sl, sc, rfl, hs, x4⟩; have y4 : Ext W0 w4 := y3.trans x4; have hb4 := BX.out.ext y4; have hd4 := BY.out.ext y4; have lb4 := hb4.lt; have ld4 := hd4.lt; have g0 := hb4.frozen 0; have g1 := hb4.frozen 1; have g2 := hb4.frozen 2; have f0 := hd4.frozen 0; have f1 := hd4.frozen 1; have f2 := hd4.frozen 2; obtain ⟨p0, p1, p2⟩ := hb4.three; obtain ⟨q0, q1, q2⟩ := hd4.three)); (try (focus (go_wp2_with fail))); refine hK.out _ _ (by (try dsimp only); (exact xX)) (fun hHeld => ?_); clear hK K; try simp only [Act.put,pA,pB,pC]
      refine held_do 5 rfl (by kernel_rfl) (by rfl) (fun K hK => ?_); go_simp; (first | (go_at_call 44; with_reducible refine (KX.out _ (X0.out.trans (by (exact eX)))).mono ?_; rintro e w3 ⟨ra, rl, rc, rfl, hr, x3⟩; have y3 : Ext W0 w3 := Ext.trans (by (exact eX)) x3; obtain ⟨q0, q1, q2⟩ := (BY.out.ext y3).three) | (go_at_call 44; with_reducible refine (KY.out _ (X0.out.trans (by (exact eX)))).mono ?_; rintro e w4 ⟨sa, sl, sc, rfl, hs, x4⟩; have y4 : Ext W0 w4 := y3.trans x4; have hb4 := BX.out.ext y4; have hd4 := BY.out.ext y4; have lb4 := hb4.lt; have ld4 := hd4.lt; have g0 := hb4.frozen 0; have g1 := hb4.frozen 1; have g2 := hb4.frozen 2; have f0 := hd4.frozen 0; have f1 := hd4.frozen 1; have f2 := hd4.frozen 2; obtain ⟨p0, p1, p2⟩ := hb4.three; obtain ⟨q0, q1, q2⟩ := hd4.three)); (try (focus (go_wp2_with fail))); refine hK.out _ _ (by (try dsimp only); (exact xX)) (fun hHeld => ?_); clear hK K; try simp only [Act.put,pA,pB,pC]
      refine held_do 6 rfl (by kernel_rfl) (by rfl) (fun K hK => ?_); go_simp; refine hK.out _ _ (by (try dsimp only); (exact xX)) (fun hHeld => ?_); clear hK K; try simp only [Act.put,pA,pB,pC]
      refine held_do 7 rfl (by kernel_rfl) (by rfl) (fun K hK => ?_); go_simp; refine hK.out _ _ (by (try dsimp only); (exact xX)) (fun hHeld => ?_); clear hK K; try simp only [Act.put,pA,pB,pC]
      refine wpAnyH_done (by kernel_rfl) ?_ _
      rotate_left 1
      all_goals exact ⟨ra, rl, rc, sa, sl, sc, rfl, hr, hs, hb4.lay3.far3 hn12, (hd4.far3 hn21).lay3, ((X0.out.trans y4).lay3 HLE1.out).lay3 HLE2.out⟩
    rintro a2 w2 ⟨ra, rl, rc, sa, sl, sc, rfl, hr, hs, hb2, hd2, x2⟩
    obtain ⟨-, -, -, -, e1, e2, -, -, e3, e4, -⟩ := hr.open_
    obtain ⟨-, -, -, -, e1', e2', -, -, e3', e4', -⟩ := hs.open_
    have HR := Lib.hid hr
    have HS := Lib.hid hs
    have X2 := Lib.hid x2
    have B2 := Lib.hid hb2
    have D2 := Lib.hid hd2
    obtain ⟨p0, p1, p2⟩ := hb2.three
    obtain ⟨q0, q1, q2⟩ := hd2.three
    have lb2 := hb2.lt
    have ld2 := hd2.lt
    have HG := HG.out
    unfold joinR at h
    clear hr hs x2 hb2 hd2
    by_cases hv : kx = 5 ∧ ky = 5
    · obtain ⟨rfl, rfl⟩ := hv
      rw [if_pos ⟨rfl, rfl⟩] at h
      have h : (if mx = my then some (S, true) else linkW (joinF f) S mx my) = some (S', r) := h
      by_cases he : mx = my
      · subst he
        rw [if_pos rfl] at h
        simp only [Option.some.injEq, Prod.mk.injEq] at h
        obtain ⟨rfl, rfl⟩ := h
        go_wp2_with fail
        go_ret
        exact ⟨rfl, HB.out.ext X2.out, ExtX.of X2.out⟩
      · rw [if_neg he] at h
        have KL := Lib.hid (book_link IH.out (HB.out.ext X2.out) HG mx my he (HFX.out.range rfl) (HFY.out.range rfl) (HLX.out rfl) (HLY.out rfl) S' r h)
        have heb : (mx == my) = false := by simpa using he
        clear HG h he
        go_wp2_with (go_at_call 45; refine (KL.out).mono ?_; rintro e w3 ⟨rfl, hb3, x3⟩)
        go_ret
        exact ⟨rfl, hb3, (ExtX.of X2.out).trans x3⟩
    · have h : (if (hd S (.mk kx mx lx)).kind = 5 then some (standW S (hd S (.mk kx mx lx)).var (hd S (.mk ky my ly))) else if (hd S (.mk ky my ly)).kind = 5 then some (standW S (hd S (.mk ky my ly)).var (hd S (.mk kx mx lx))) else if (hd S (.mk kx mx lx)).kind ≠ (hd S (.mk ky my ly)).kind then some (S, false) else joinsW (joinF f) S (hd S (.mk kx mx lx)).kids (hd S (.mk ky my ly)).kids) = some (S', r) := by
        rw [if_neg (show ¬ ((Ty.mk kx mx lx).kind = 5 ∧ (Ty.mk ky my ly).kind = 5) from hv)] at h
        exact h
      have KX2 := Lib.hid fun W (h : Ext w W) => book_head HB.out HG.acy W h (.mk kx mx lx) ra rl rc HR.out
      have KY2 := Lib.hid fun W (h : Ext w W) => book_head HB.out HG.acy W h (.mk ky my ly) sa sl sc HS.out
      rw [rootD_last HLX.out] at KX2
      rw [rootD_last HLY.out] at KY2
      have FA := Lib.hid (hd_fit HG HFX.out)
      have FC := Lib.hid (hd_fit HG HFY.out)
      generalize hd S (.mk kx mx lx) = A at *
      generalize hd S (.mk ky my ly) = C at *
      obtain ⟨ka, ma, la⟩ := A
      obtain ⟨kc, mc, lc⟩ := C
      replace KX2 : Hid (∀ W, Ext w W → Calls Try.prog 46 #[.pointer (some ⟨bb, 0, none⟩), .agg #[.int .u8 kx, .int .i64 mx, .slice ra rl rc]] W fun e w' => ∃ va vl vc, e = .returned (.agg #[.int .u8 ka, .int .i64 ma, .slice va vl vc]) ∧ IsTyA A w (.mk ka ma la) (.agg #[.int .u8 ka, .int .i64 ma, .slice va vl vc]) ∧ Ext W w') := Lib.hid KX2.out
      replace KY2 : Hid (∀ W, Ext w W → Calls Try.prog 46 #[.pointer (some ⟨bb, 0, none⟩), .agg #[.int .u8 ky, .int .i64 my, .slice sa sl sc]] W fun e w' => ∃ va vl vc, e = .returned (.agg #[.int .u8 kc, .int .i64 mc, .slice va vl vc]) ∧ IsTyA A w (.mk kc mc lc) (.agg #[.int .u8 kc, .int .i64 mc, .slice va vl vc]) ∧ Ext W w') := Lib.hid KY2.out
      have h : (if ka = 5 then some (standW S ma (.mk kc mc lc)) else if kc = 5 then some (standW S mc (.mk ka ma la)) else if ka ≠ kc then some (S, false) else joinsW (joinF f) S la lc) = some (S', r) := h
      have HH := Lib.hid h
      have HG := Lib.hid HG
      have hor : (kx = 5 ∧ (ky == 5) = false) ∨ (kx == 5) = false := by
        by_cases h5 : kx = 5
        · exact .inl ⟨h5, by simpa using fun e => hv ⟨h5, e⟩⟩
        · exact .inr (by simpa using h5)
      have c0 := fun W' (h : Ext w2 W') => h.cell p0
      have c1 := fun W' (h : Ext w2 W') => h.cell p1
      have c2 := fun W' (h : Ext w2 W') => h.cell p2
      have d0 := fun W' (h : Ext w2 W') => h.cell q0
      have d1 := fun W' (h : Ext w2 W') => h.cell q1
      have d2 := fun W' (h : Ext w2 W') => h.cell q2
      have hlw := X2.out.size
      have HLW := Lib.hid hlw
      clear h hv HLX HLY HFX HFY KX KY hlw
      rcases hor with ⟨rfl, hy5⟩ | hx5
      all_goals
        go_upto_region 4 with fail
        clear p0 p1 p2 q0 q1 q2
        refine region_via2 (fun a1 a3 w3 => ∃ g7 g8 va vl vc ua ul uc, a3 = (((((((a1.put (some 37) (.pointer (some ⟨bb, 0, none⟩))).put (some 38) (a1.eval (.tmp 12))).put (some 39) (.agg #[.int .u8 ka, .int .i64 ma, .slice va vl vc])).put (some 40) (.pointer (some ⟨bb, 0, none⟩))).put (some 41) (a1.eval (.tmp 15))).put (some 42) (.agg #[.int .u8 kc, .int .i64 mc, .slice ua ul uc])).put (some 7) (.pointer (some ⟨g7, 0, none⟩))).put (some 8) (.pointer (some ⟨g8, 0, none⟩)) ∧ IsTyA A w (.mk ka ma la) (.agg #[.int .u8 ka, .int .i64 ma, .slice va vl vc]) ∧ IsTyA A w (.mk kc mc lc) (.agg #[.int .u8 kc, .int .i64 mc, .slice ua ul uc]) ∧ w2.heap.size ≤ g7 ∧ w2.heap.size ≤ g8 ∧ Blk w3 g7 25 #[.int .u8 ka, .int .i64 ma, .slice va vl vc] ∧ Blk w3 g8 25 #[.int .u8 kc, .int .i64 mc, .slice ua ul uc] ∧ Ext w2 w3) ?_ ?_
        rotate_left
        · rintro a3 w3 ⟨g7, g8, va, vl, vc, ua, ul, uc, rfl, hva, hua, hg7, hg8, hb7, hb8, x3⟩
          have h := HH.out
          have hlw := HLW.out
          have hg7m : ¬ g7 = mb := by omega
          have hg8m : ¬ g8 = mb := by omega
          have B7 := Lib.hid hb7
          have B8 := Lib.hid hb8
          have X3 := Lib.hid (X2.out.trans x3)
          have HVA := Lib.hid hva
          have HUA := Lib.hid hua
          obtain ⟨k70, k71, k72⟩ := hb7.three
          obtain ⟨k80, k81, k82⟩ := hb8.three
          have lk7 := hb7.lt
          have lk8 := hb8.lt
          obtain ⟨-, -, -, -, z1, z2, -, -, z3, z4, -⟩ := hva.open_
          obtain ⟨-, -, -, -, z5, z6, -, -, z7, z8, -⟩ := hua.open_
          clear c0 c1 c2 d0 d1 d2 hb7 hb8 hlw hg7 hg8 x3 hua hva HH KX2 KY2 lb2 ld2
          by_cases ha5 : ka = 5
          · rw [if_pos ha5] at h
            have KS := Lib.hid (book_stand HB.out HG.out ma (FA.out.range ha5) (.mk kc mc lc) FC.out w3 X3.out ua ul uc HUA.out)
            simp only [Option.some.injEq] at h
            rw [h] at KS
            have KS : Hid (Calls Try.prog 47 #[.pointer (some ⟨bb, 0, none⟩), .int .i64 ma, .agg #[.int .u8 kc, .int .i64 mc, .slice ua ul uc]] w3 fun e w' => e = .returned (.bool r) ∧ BookAtA A w' bb mb n S' ∧ ExtX (· = mb) w3 w') := Lib.hid KS.out
            subst ha5
            clear h HUA HVA FA FC
            go_wp2_with (go_at_call 47; refine (KS.out).mono ?_; rintro e w7 ⟨rfl, hb7, x7⟩)
            go_ret
            exact ⟨rfl, hb7, (ExtX.of X3.out).trans x7⟩
          · rw [if_neg ha5] at h
            have ha5b : (ka == 5) = false := by simpa using ha5
            by_cases hc5 : kc = 5
            · rw [if_pos hc5] at h
              have KS := Lib.hid (book_stand HB.out HG.out mc (FC.out.range hc5) (.mk ka ma la) FA.out w3 X3.out va vl vc HVA.out)
              simp only [Option.some.injEq] at h
              rw [h] at KS
              have KS : Hid (Calls Try.prog 47 #[.pointer (some ⟨bb, 0, none⟩), .int .i64 mc, .agg #[.int .u8 ka, .int .i64 ma, .slice va vl vc]] w3 fun e w' => e = .returned (.bool r) ∧ BookAtA A w' bb mb n S' ∧ ExtX (· = mb) w3 w') := Lib.hid KS.out
              subst hc5
              clear h HUA HVA FA FC ha5
              go_wp2_with (go_at_call 47; refine (KS.out).mono ?_; rintro e w7 ⟨rfl, hb7, x7⟩)
              go_ret
              exact ⟨rfl, hb7, (ExtX.of X3.out).trans x7⟩
            · rw [if_neg hc5] at h
              have hc5b : (kc == 5) = false := by simpa using hc5
              by_cases hkk : ka = kc
              · subst hkk
                rw [if_neg (fun e => e rfl)] at h
                have hlen : la.length = lc.length := FA.out.kids_eq FC.out rfl
                obtain ⟨_, _, _, ev, v1, v2, -, -, -, -, hla⟩ := HVA.out.open_
                injection ev with ev
                simp at ev
                obtain ⟨rfl, rfl, rfl⟩ := ev
                obtain ⟨_, _, _, ev, -, -, -, -, -, -, hlc⟩ := HUA.out.open_
                injection ev with ev
                simp at ev
                obtain ⟨rfl, rfl, rfl⟩ := ev
                have hvl := hla.length
                have hul := hlc.length
                have hvu : vl = ul := by omega
                subst hvu
                obtain ⟨es0, ec0, hmbk⟩ := HB.out.map.block
                have HLA := Lib.hid hla
                have HLC := Lib.hid hlc
                have HMB := Lib.hid hmbk
                have HFA : Hid (∀ t, t ∈ la → Fit n t) := Lib.hid fun t ht => FA.out.kid (t := .mk ka ma la) ha5 ht
                have HFC : Hid (∀ t, t ∈ lc → Fit n t) := Lib.hid fun t ht => FC.out.kid (t := .mk ka mc lc) ha5 ht
                have HJ := Lib.hid h
                have HB3 := Lib.hid (HB.out.ext X3.out)
                have HLEN : Hid (vl = la.length ∧ vl = lc.length) := Lib.hid ⟨hvl, hul⟩
                have HXA := Lib.hid hg7m
                have HXC := Lib.hid hg8m
                clear HUA HVA FA FC ha5 hc5 h hla hlc hmbk hvl hul hlen hc5b
                go_wp2_with fail
                go_loopg [70] vl (fun g i wr => ∃ (j : Nat) (Sj : St), g = vl - j ∧ i = .int .i64 j ∧ j ≤ vl ∧ BookAtA A wr bb mb n Sj ∧ Good n Sj ∧ ExtX (fun b => b = mb) w3 wr ∧ joinsW (joinF f) Sj (la.drop j) (lc.drop j) = some (S', r))
                case atStart => exact ⟨0, S, by omega, rfl, by omega, HB3.out, HG.out, ExtX.refl w3, HJ.out⟩
                case round =>
                  obtain ⟨j, Sj, rfl, rfl, hj, hBj, hGj, hxj, hJj⟩ := hrel
                  have HBJ := Lib.hid hBj
                  have HXJ := Lib.hid hxj
                  have r7 : Hid (Blk wr g7 25 #[.int .u8 ka, .int .i64 ma, .slice va vl vc]) := Lib.hid ((hxj.block g7 lk7 hg7m).trans B7.out)
                  have r8 : Hid (Blk wr g8 25 #[.int .u8 ka, .int .i64 mc, .slice ua vl uc]) := Lib.hid ((hxj.block g8 lk8 hg8m).trans B8.out)
                  obtain ⟨e70, e71, e72⟩ := r7.out.three
                  obtain ⟨e80, e81, e82⟩ := r8.out.three
                  have lw7 := r7.out.lt
                  have lw8 := r8.out.lt
                  by_cases hlt : j < vl
                  · obtain ⟨u, ub, uo, p0, p1, p2, gu, rfl, q0, q1, q2, qt⟩ := HLA.out.at3 (Ext.refl w) hlt
                    obtain ⟨v, vb, vo, s0, s1, s2, gv, rfl, t0, t1, t2, tt⟩ := HLC.out.at3 (Ext.refl w) hlt
                    have hxw : ExtX (fun b => b = mb) w wr := (ExtX.of X3.out).trans hxj
                    obtain ⟨S1, r1, hS1, hyes, hno⟩ := joinsW_step gu gv hJj
                    have fu := HFA.out u (List.mem_of_getElem? gu)
                    have fv := HFC.out v (List.mem_of_getElem? gv)
                    have HG1 : Hid (r1 = true → Good n S1) := Lib.hid (joinF_ok n f Sj u v S1 r1 hGj fu fv hS1).good
                    have HYES := Lib.hid hyes
                    have HNO := Lib.hid hno
                    obtain ⟨uk, um, ul⟩ := u
                    obtain ⟨vk, vm, vs⟩ := v
                    obtain ⟨xa, xl, xc, e, -, -, -, -, -, -, -⟩ := qt.open_
                    simp at e
                    obtain ⟨rfl, rfl, rfl⟩ := e
                    obtain ⟨ya, yl, yc, e, -, -, -, -, -, -, -⟩ := tt.open_
                    simp at e
                    obtain ⟨rfl, rfl, rfl⟩ := e
                    have qt := qt.mapX HMB.out hxw
                    have tt := tt.mapX HMB.out hxw
                    have KJ := Lib.hid fun W (hW : Ext wr W) => IH.out Sj S1 r1 (.mk uk um ul) (.mk vk vm vs) W xa xl xc ya yl yc (HBJ.out.ext hW) hGj fu fv (qt.ext hW) (tt.ext hW) hS1
                    have KJ : Hid (∀ W, Ext wr W → Calls Try.prog 32 #[.pointer (some ⟨bb, 0, none⟩), .agg #[.int .u8 uk, .int .i64 um, .slice xa xl xc], .agg #[.int .u8 vk, .int .i64 vm, .slice ya yl yc]] W fun e w' => e = .returned (.bool r1) ∧ BookAtA A w' bb mb n S1 ∧ ExtX (fun b => b = mb) W w') := Lib.hid KJ.out
                    have q0 := fun W' (h : ExtX (fun b => b = mb) wr W') => (hxw.trans h).cell (map_nocell HMB.out q0) q0
                    have q1 := fun W' (h : ExtX (fun b => b = mb) wr W') => (hxw.trans h).cell (map_nocell HMB.out q1) q1
                    have q2 := fun W' (h : ExtX (fun b => b = mb) wr W') => (hxw.trans h).cell (map_nocell HMB.out q2) q2
                    have t0 := fun W' (h : ExtX (fun b => b = mb) wr W') => (hxw.trans h).cell (map_nocell HMB.out t0) t0
                    have t1 := fun W' (h : ExtX (fun b => b = mb) wr W') => (hxw.trans h).cell (map_nocell HMB.out t1) t1
                    have t2 := fun W' (h : ExtX (fun b => b = mb) wr W') => (hxw.trans h).cell (map_nocell HMB.out t2) t2
                    have m72 := fun W' (h : ExtX (fun b => b = mb) wr W') => h.cell HXA.out e72
                    have m82 := fun W' (h : ExtX (fun b => b = mb) wr W') => h.cell HXC.out e82
                    clear hBj hxj hJj hyes hno hGj fu fv gu gv hS1 qt tt hxw k70 k71 k72 k80 k81 k82
                    go_upto_region 14 with fail
                    clear e70 e71 e72 e80 e81 e82
                    refine wp_region_held_drew (S := fun w' => ExtX (fun b => b = mb) wr w') (by kernel_rfl) (by (try dsimp only); (exact xX)) (fun hHeld => ?_)
                    refine tK 0 (v := ?_) ?_ ?_;rotate_left;(focus (intro w hSw;(try dsimp only at hSw);go_simp;(try with_reducible rfl)));try simp only [Act.put,pA,pB,pC]
                    refine tK 1 (v := ?_) ?_ ?_;rotate_left;(focus (intro w hSw;(try dsimp only at hSw);go_simp;(try with_reducible rfl)));try simp only [Act.put,pA,pB,pC]
                    refine tK 2 (v := ?_) ?_ ?_;rotate_left;(focus (intro w hSw;(try dsimp only at hSw);go_simp;(try with_reducible rfl)));try simp only [Act.put,pA,pB,pC]
                    refine tK 3 (v := ?_) ?_ ?_;rotate_left;(focus (intro w hSw;(try dsimp only at hSw);go_simp;(try with_reducible rfl)));try simp only [Act.put,pA,pB,pC]
                    refine tK 4 (v := ?_) ?_ ?_;rotate_left;(focus (intro w hSw;(try dsimp only at hSw);go_simp;(try with_reducible rfl)));try simp only [Act.put,pA,pB,pC]
                    refine tK 5 (v := ?_) ?_ ?_;rotate_left;(focus (intro w hSw;(try dsimp only at hSw);go_simp;(try with_reducible rfl)));try simp only [Act.put,pA,pB,pC]
                    refine tK 6 (v := ?_) ?_ ?_;rotate_left;(focus (intro w hSw;(try dsimp only at hSw);go_simp;(try with_reducible rfl)));try simp only [Act.put,pA,pB,pC]
                    refine tK 7 (v := ?_) ?_ ?_;rotate_left;(focus (intro w hSw;(try dsimp only at hSw);go_simp;(try with_reducible rfl)));try simp only [Act.put,pA,pB,pC]
                    refine tK 8 (v := ?_) ?_ ?_;rotate_left;(focus (intro w hSw;(try dsimp only at hSw);go_simp;(try with_reducible rfl)));try simp only [Act.put,pA,pB,pC]
                    refine tK 9 (v := ?_) ?_ ?_;rotate_left;(focus (intro w hSw;(try dsimp only at hSw);go_simp;(try with_reducible rfl)));try simp only [Act.put,pA,pB,pC]
                    refine tK 10 (v := ?_) ?_ ?_;rotate_left;(focus (intro w hSw;(try dsimp only at hSw);go_simp;(try with_reducible rfl)));try simp only [Act.put,pA,pB,pC]
                    refine held_do 11 rfl (by kernel_rfl) (by rfl) (fun K hK => ?_); go_simp; (first | (go_at_call 32; with_reducible refine (KJ.out _ (by (exact eX))).mono ?_; rintro e w5 ⟨rfl, hb5, x5⟩; have y5 : ExtX (fun b => b = mb) wr w5 := ExtX.trans (ExtX.drew (ExtX.refl wr)) x5)); (try (focus (go_wp2_with fail))); refine hK.out _ _ (by (try dsimp only); (exact xX)) (fun hHeld => ?_); clear hK K; try simp only [Act.put,pA,pB,pC]
                    refine tK 12 (v := ?_) ?_ ?_;rotate_left;(focus (intro w hSw;(try dsimp only at hSw);go_simp;(try with_reducible rfl)));try simp only [Act.put,pA,pB,pC]
                    refine wpAnyH_done (by kernel_rfl) ?_ _
                    have HB5 := Lib.hid hb5
                    have Y5 := Lib.hid (HXJ.out.trans y5)
                    clear q0 q1 q2 t0 t1 t2 m72 m82 x5 y5 hb5 hHeld
                    cases r1 with
                    | false =>
                      obtain ⟨rfl, rfl⟩ := HNO.out rfl
                      go_wp2_with fail
                      go_ret
                      exact ⟨rfl, HB5.out, (ExtX.of X3.out).trans Y5.out⟩
                    | true =>
                      have HG2 := Lib.hid (HG1.out rfl)
                      have HJ2 := Lib.hid (HYES.out rfl)
                      have HLT := Lib.hid hlt
                      clear HG1 HYES HNO
                      go_wp2_with fail
                      go_roundg (vl - (j + 1))
                      case rel =>
                        have hlt := HLT.out
                        exact ⟨j + 1, S1, rfl, by go_num, by omega, HB5.out, HG2.out, Y5.out, HJ2.out⟩
                      case measure =>
                        have hlt := HLT.out
                        omega
                  · obtain rfl : j = vl := by omega
                    have e1 : la.drop j = [] := List.drop_eq_nil_of_le (by rw [← HLEN.out.1]; exact Nat.le_refl _)
                    rw [e1] at hJj
                    simp only [joinsW, Option.some.injEq, Prod.mk.injEq] at hJj
                    obtain ⟨rfl, rfl⟩ := hJj
                    clear hBj hxj e1 hGj
                    go_wp2_with fail
                    go_ret
                    exact ⟨rfl, HBJ.out, (ExtX.of X3.out).trans HXJ.out⟩
              · rw [if_pos hkk] at h
                simp only [Option.some.injEq, Prod.mk.injEq] at h
                obtain ⟨rfl, rfl⟩ := h
                have hkb : (ka == kc) = false := by simpa using hkk
                have HB' := Lib.hid (HB.out.ext X3.out)
                clear HUA HVA FA FC ha5 hc5 hkk
                go_wp2_with fail
                go_ret
                exact ⟨rfl, HB'.out, ExtX.of X3.out⟩
        refine wp_region_held_drew (S := fun w' => Ext w2 w') (by kernel_rfl) (by (try dsimp only); (exact eX)) (fun hHeld => ?_)
        (have yc : Ext w2 w2.drew := (by (exact eX)); generalize w2.drew = wc at *)
        refine tK 0 (v := ?_) ?_ ?_;rotate_left;(focus (intro w hSw;(try dsimp only at hSw);go_simp;(try with_reducible rfl)));try simp only [Act.put,pA,pB,pC]
        refine tK 1 (v := ?_) ?_ ?_;rotate_left;(focus (intro w hSw;(try dsimp only at hSw);go_simp;(try with_reducible rfl)));try simp only [Act.put,pA,pB,pC]
        refine tK 3 (v := ?_) ?_ ?_;rotate_left;(focus (intro w hSw;(try dsimp only at hSw);go_simp;(try with_reducible rfl)));try simp only [Act.put,pA,pB,pC]
        refine tK 4 (v := ?_) ?_ ?_;rotate_left;(focus (intro w hSw;(try dsimp only at hSw);go_simp;(try with_reducible rfl)));try simp only [Act.put,pA,pB,pC]
        refine wpAnyH_ready (rs := [2, 6, 7]) (by kernel_rfl) (by simp) ?_
        refine held_cons 2 rfl (by rfl) (fun K hK => ?_) (held_cons 6 rfl (by rfl) (fun K hK => ?_) (held_cons 7 rfl (by rfl) (fun K hK => ?_) AllReadyH.nil))
        go_simp; (first | (go_at_call 46; with_reducible refine (KX2.out _ (X2.out.trans yc)).mono ?_; rintro e wd ⟨va, vl, vc, rfl, hva, xd⟩; (first | have HB7 := Lib.hid (HB7.out.ext xd) | skip); (first | have HB8 := Lib.hid (HB8.out.ext xd) | skip); replace yc := Ext.trans yc xd; clear xd; rename World => wc) | (go_at_call 46; with_reducible refine (KY2.out _ (X2.out.trans yc)).mono ?_; rintro e wd ⟨ua, ul, uc, rfl, hua, xd⟩; (first | have HB7 := Lib.hid (HB7.out.ext xd) | skip); (first | have HB8 := Lib.hid (HB8.out.ext xd) | skip); replace yc := Ext.trans yc xd; clear xd; rename World => wc)); (try (focus (go_wp2_with fail))); refine hK.out _ _ (by (try dsimp only); (exact eX)) (fun hHeld => ?_); clear hK K; try simp only [Act.put,pA,pB,pC]
        refine wpAnyH_ready (rs := [5, 6, 7]) (by kernel_rfl) (by simp) ?_
        refine held_cons 5 rfl (by rfl) (fun K hK => ?_) (held_cons 6 rfl (by rfl) (fun K hK => ?_) (held_cons 7 rfl (by rfl) (fun K hK => ?_) AllReadyH.nil))
        go_simp; (first | (go_at_call 46; with_reducible refine (KX2.out _ (X2.out.trans yc)).mono ?_; rintro e wd ⟨va, vl, vc, rfl, hva, xd⟩; (first | have HB7 := Lib.hid (HB7.out.ext xd) | skip); (first | have HB8 := Lib.hid (HB8.out.ext xd) | skip); replace yc := Ext.trans yc xd; clear xd; rename World => wc) | (go_at_call 46; with_reducible refine (KY2.out _ (X2.out.trans yc)).mono ?_; rintro e wd ⟨ua, ul, uc, rfl, hua, xd⟩; (first | have HB7 := Lib.hid (HB7.out.ext xd) | skip); (first | have HB8 := Lib.hid (HB8.out.ext xd) | skip); replace yc := Ext.trans yc xd; clear xd; rename World => wc)); (try (focus (go_wp2_with fail))); refine hK.out _ _ (by (try dsimp only); (exact eX)) (fun hHeld => ?_); clear hK K; try simp only [Act.put,pA,pB,pC]
        refine wpAnyH_ready (rs := [6, 7]) (by kernel_rfl) (by simp) ?_
        refine held_cons 6 rfl (by rfl) (fun K hK => ?_) (held_cons 7 rfl (by rfl) (fun K hK => ?_) AllReadyH.nil)
        go_simp; refine hK.out _ _ (by (try dsimp only); (exact eX)) (fun hHeld => ?_); clear hK K; try simp only [Act.put,pA,pB,pC]
        (have hnew := Blk.new wc 25 #[.int .u8 0, .int .i64 0, .slice none 0 0]; have xe : Ext wc (wc.alloc (.cells #[.int .u8 0, .int .i64 0, .slice none 0 0] 25)) := (Ext.refl _).alloc _; have l7 : w2.heap.size ≤ wc.heap.size := yc.size; (first | have n87 := Nat.ne_of_lt HB8.out.lt | skip); generalize wc.alloc (.cells #[.int .u8 0, .int .i64 0, .slice none 0 0] 25) = wd at hnew xe hHeld ⊢; (first | generalize wc.heap.size = g7 at hnew l7 n87 ⊢ | generalize wc.heap.size = g7 at hnew l7 ⊢); (first | have HB8 := Lib.hid (HB8.out.ext xe) | skip); have HB7 := Lib.hid hnew; replace yc := Ext.trans yc xe; clear hnew xe; (try clear hHeld); rename World => wc; have hHeld := yc)
        refine held_do 7 rfl (by kernel_rfl) (by rfl) (fun K hK => ?_); go_simp; refine hK.out _ _ (by (try dsimp only); (exact eX)) (fun hHeld => ?_); clear hK K; try simp only [Act.put,pA,pB,pC]
        (have hnew := Blk.new wc 25 #[.int .u8 0, .int .i64 0, .slice none 0 0]; have xe : Ext wc (wc.alloc (.cells #[.int .u8 0, .int .i64 0, .slice none 0 0] 25)) := (Ext.refl _).alloc _; have l8 : w2.heap.size ≤ wc.heap.size := yc.size; (first | have n78 := Nat.ne_of_lt HB7.out.lt | skip); generalize wc.alloc (.cells #[.int .u8 0, .int .i64 0, .slice none 0 0] 25) = wd at hnew xe hHeld ⊢; (first | generalize wc.heap.size = g8 at hnew l8 n78 ⊢ | generalize wc.heap.size = g8 at hnew l8 ⊢); (first | have HB7 := Lib.hid (HB7.out.ext xe) | skip); have HB8 := Lib.hid hnew; replace yc := Ext.trans yc xe; clear hnew xe; (try clear hHeld); rename World => wc; have hHeld := yc)
        ((first | (have n87 := fun e => n78 (Eq.symm e)) | (have n78 := fun e => n87 (Eq.symm e))); have lk7 := HB7.out.lt; have lk8 := HB8.out.lt; have f70 := HB7.out.frozen 0; have f71 := HB7.out.frozen 1; have f72 := HB7.out.frozen 2; have f80 := HB8.out.frozen 0; have f81 := HB8.out.frozen 1; have f82 := HB8.out.frozen 2; obtain ⟨k70, k71, k72⟩ := HB7.out.three; obtain ⟨k80, k81, k82⟩ := HB8.out.three)
        refine held_do 8 rfl (by kernel_rfl) (by rfl) (fun K hK => ?_); go_simp; refine hK.out _ _ (by (try dsimp only); (exact eX)) (fun hHeld => ?_); clear hK K; try simp only [Act.put,pA,pB,pC]
        refine held_do 9 rfl (by kernel_rfl) (by rfl) (fun K hK => ?_); go_simp; refine hK.out _ _ (by (try dsimp only); (exact eX)) (fun hHeld => ?_); clear hK K; try simp only [Act.put,pA,pB,pC]
        refine wpAnyH_done (by kernel_rfl) ?_ _
        rotate_left 1
        go_simp; refine hK.out _ _ (by (try dsimp only); (exact eX)) (fun hHeld => ?_); clear hK K; try simp only [Act.put,pA,pB,pC]
        (have hnew := Blk.new wc 25 #[.int .u8 0, .int .i64 0, .slice none 0 0]; have xe : Ext wc (wc.alloc (.cells #[.int .u8 0, .int .i64 0, .slice none 0 0] 25)) := (Ext.refl _).alloc _; have l8 : w2.heap.size ≤ wc.heap.size := yc.size; (first | have n78 := Nat.ne_of_lt HB7.out.lt | skip); generalize wc.alloc (.cells #[.int .u8 0, .int .i64 0, .slice none 0 0] 25) = wd at hnew xe hHeld ⊢; (first | generalize wc.heap.size = g8 at hnew l8 n78 ⊢ | generalize wc.heap.size = g8 at hnew l8 ⊢); (first | have HB7 := Lib.hid (HB7.out.ext xe) | skip); have HB8 := Lib.hid hnew; replace yc := Ext.trans yc xe; clear hnew xe; (try clear hHeld); rename World => wc; have hHeld := yc)
        refine held_do 6 rfl (by kernel_rfl) (by rfl) (fun K hK => ?_); go_simp; refine hK.out _ _ (by (try dsimp only); (exact eX)) (fun hHeld => ?_); clear hK K; try simp only [Act.put,pA,pB,pC]
        (have hnew := Blk.new wc 25 #[.int .u8 0, .int .i64 0, .slice none 0 0]; have xe : Ext wc (wc.alloc (.cells #[.int .u8 0, .int .i64 0, .slice none 0 0] 25)) := (Ext.refl _).alloc _; have l7 : w2.heap.size ≤ wc.heap.size := yc.size; (first | have n87 := Nat.ne_of_lt HB8.out.lt | skip); generalize wc.alloc (.cells #[.int .u8 0, .int .i64 0, .slice none 0 0] 25) = wd at hnew xe hHeld ⊢; (first | generalize wc.heap.size = g7 at hnew l7 n87 ⊢ | generalize wc.heap.size = g7 at hnew l7 ⊢); (first | have HB8 := Lib.hid (HB8.out.ext xe) | skip); have HB7 := Lib.hid hnew; replace yc := Ext.trans yc xe; clear hnew xe; (try clear hHeld); rename World => wc; have hHeld := yc)
        ((first | (have n87 := fun e => n78 (Eq.symm e)) | (have n78 := fun e => n87 (Eq.symm e))); have lk7 := HB7.out.lt; have lk8 := HB8.out.lt; have f70 := HB7.out.frozen 0; have f71 := HB7.out.frozen 1; have f72 := HB7.out.frozen 2; have f80 := HB8.out.frozen 0; have f81 := HB8.out.frozen 1; have f82 := HB8.out.frozen 2; obtain ⟨k70, k71, k72⟩ := HB7.out.three; obtain ⟨k80, k81, k82⟩ := HB8.out.three)
        refine held_do 8 rfl (by kernel_rfl) (by rfl) (fun K hK => ?_); go_simp; refine hK.out _ _ (by (try dsimp only); (exact eX)) (fun hHeld => ?_); clear hK K; try simp only [Act.put,pA,pB,pC]
        refine held_do 9 rfl (by kernel_rfl) (by rfl) (fun K hK => ?_); go_simp; refine hK.out _ _ (by (try dsimp only); (exact eX)) (fun hHeld => ?_); clear hK K; try simp only [Act.put,pA,pB,pC]
        refine wpAnyH_done (by kernel_rfl) ?_ _
        rotate_left 1
        go_simp; refine hK.out _ _ (by (try dsimp only); (exact eX)) (fun hHeld => ?_); clear hK K; try simp only [Act.put,pA,pB,pC]
        (have hnew := Blk.new wc 25 #[.int .u8 0, .int .i64 0, .slice none 0 0]; have xe : Ext wc (wc.alloc (.cells #[.int .u8 0, .int .i64 0, .slice none 0 0] 25)) := (Ext.refl _).alloc _; have l7 : w2.heap.size ≤ wc.heap.size := yc.size; (first | have n87 := Nat.ne_of_lt HB8.out.lt | skip); generalize wc.alloc (.cells #[.int .u8 0, .int .i64 0, .slice none 0 0] 25) = wd at hnew xe hHeld ⊢; (first | generalize wc.heap.size = g7 at hnew l7 n87 ⊢ | generalize wc.heap.size = g7 at hnew l7 ⊢); (first | have HB8 := Lib.hid (HB8.out.ext xe) | skip); have HB7 := Lib.hid hnew; replace yc := Ext.trans yc xe; clear hnew xe; (try clear hHeld); rename World => wc; have hHeld := yc)
        refine wpAnyH_ready (rs := [5, 7]) (by kernel_rfl) (by simp) ?_
        refine held_cons 5 rfl (by rfl) (fun K hK => ?_) (held_cons 7 rfl (by rfl) (fun K hK => ?_) AllReadyH.nil)
        go_simp; (first | (go_at_call 46; with_reducible refine (KX2.out _ (X2.out.trans yc)).mono ?_; rintro e wd ⟨va, vl, vc, rfl, hva, xd⟩; (first | have HB7 := Lib.hid (HB7.out.ext xd) | skip); (first | have HB8 := Lib.hid (HB8.out.ext xd) | skip); replace yc := Ext.trans yc xd; clear xd; rename World => wc) | (go_at_call 46; with_reducible refine (KY2.out _ (X2.out.trans yc)).mono ?_; rintro e wd ⟨ua, ul, uc, rfl, hua, xd⟩; (first | have HB7 := Lib.hid (HB7.out.ext xd) | skip); (first | have HB8 := Lib.hid (HB8.out.ext xd) | skip); replace yc := Ext.trans yc xd; clear xd; rename World => wc)); (try (focus (go_wp2_with fail))); refine hK.out _ _ (by (try dsimp only); (exact eX)) (fun hHeld => ?_); clear hK K; try simp only [Act.put,pA,pB,pC]
        refine held_do 7 rfl (by kernel_rfl) (by rfl) (fun K hK => ?_); go_simp; refine hK.out _ _ (by (try dsimp only); (exact eX)) (fun hHeld => ?_); clear hK K; try simp only [Act.put,pA,pB,pC]
        (have hnew := Blk.new wc 25 #[.int .u8 0, .int .i64 0, .slice none 0 0]; have xe : Ext wc (wc.alloc (.cells #[.int .u8 0, .int .i64 0, .slice none 0 0] 25)) := (Ext.refl _).alloc _; have l8 : w2.heap.size ≤ wc.heap.size := yc.size; (first | have n78 := Nat.ne_of_lt HB7.out.lt | skip); generalize wc.alloc (.cells #[.int .u8 0, .int .i64 0, .slice none 0 0] 25) = wd at hnew xe hHeld ⊢; (first | generalize wc.heap.size = g8 at hnew l8 n78 ⊢ | generalize wc.heap.size = g8 at hnew l8 ⊢); (first | have HB7 := Lib.hid (HB7.out.ext xe) | skip); have HB8 := Lib.hid hnew; replace yc := Ext.trans yc xe; clear hnew xe; (try clear hHeld); rename World => wc; have hHeld := yc)
        ((first | (have n87 := fun e => n78 (Eq.symm e)) | (have n78 := fun e => n87 (Eq.symm e))); have lk7 := HB7.out.lt; have lk8 := HB8.out.lt; have f70 := HB7.out.frozen 0; have f71 := HB7.out.frozen 1; have f72 := HB7.out.frozen 2; have f80 := HB8.out.frozen 0; have f81 := HB8.out.frozen 1; have f82 := HB8.out.frozen 2; obtain ⟨k70, k71, k72⟩ := HB7.out.three; obtain ⟨k80, k81, k82⟩ := HB8.out.three)
        refine held_do 8 rfl (by kernel_rfl) (by rfl) (fun K hK => ?_); go_simp; refine hK.out _ _ (by (try dsimp only); (exact eX)) (fun hHeld => ?_); clear hK K; try simp only [Act.put,pA,pB,pC]
        refine held_do 9 rfl (by kernel_rfl) (by rfl) (fun K hK => ?_); go_simp; refine hK.out _ _ (by (try dsimp only); (exact eX)) (fun hHeld => ?_); clear hK K; try simp only [Act.put,pA,pB,pC]
        refine wpAnyH_done (by kernel_rfl) ?_ _
        rotate_left 1
        go_simp; refine hK.out _ _ (by (try dsimp only); (exact eX)) (fun hHeld => ?_); clear hK K; try simp only [Act.put,pA,pB,pC]
        (have hnew := Blk.new wc 25 #[.int .u8 0, .int .i64 0, .slice none 0 0]; have xe : Ext wc (wc.alloc (.cells #[.int .u8 0, .int .i64 0, .slice none 0 0] 25)) := (Ext.refl _).alloc _; have l8 : w2.heap.size ≤ wc.heap.size := yc.size; (first | have n78 := Nat.ne_of_lt HB7.out.lt | skip); generalize wc.alloc (.cells #[.int .u8 0, .int .i64 0, .slice none 0 0] 25) = wd at hnew xe hHeld ⊢; (first | generalize wc.heap.size = g8 at hnew l8 n78 ⊢ | generalize wc.heap.size = g8 at hnew l8 ⊢); (first | have HB7 := Lib.hid (HB7.out.ext xe) | skip); have HB8 := Lib.hid hnew; replace yc := Ext.trans yc xe; clear hnew xe; (try clear hHeld); rename World => wc; have hHeld := yc)
        refine held_do 5 rfl (by kernel_rfl) (by rfl) (fun K hK => ?_); go_simp; (first | (go_at_call 46; with_reducible refine (KX2.out _ (X2.out.trans yc)).mono ?_; rintro e wd ⟨va, vl, vc, rfl, hva, xd⟩; (first | have HB7 := Lib.hid (HB7.out.ext xd) | skip); (first | have HB8 := Lib.hid (HB8.out.ext xd) | skip); replace yc := Ext.trans yc xd; clear xd; rename World => wc) | (go_at_call 46; with_reducible refine (KY2.out _ (X2.out.trans yc)).mono ?_; rintro e wd ⟨ua, ul, uc, rfl, hua, xd⟩; (first | have HB7 := Lib.hid (HB7.out.ext xd) | skip); (first | have HB8 := Lib.hid (HB8.out.ext xd) | skip); replace yc := Ext.trans yc xd; clear xd; rename World => wc)); (try (focus (go_wp2_with fail))); refine hK.out _ _ (by (try dsimp only); (exact eX)) (fun hHeld => ?_); clear hK K; try simp only [Act.put,pA,pB,pC]
        ((first | (have n87 := fun e => n78 (Eq.symm e)) | (have n78 := fun e => n87 (Eq.symm e))); have lk7 := HB7.out.lt; have lk8 := HB8.out.lt; have f70 := HB7.out.frozen 0; have f71 := HB7.out.frozen 1; have f72 := HB7.out.frozen 2; have f80 := HB8.out.frozen 0; have f81 := HB8.out.frozen 1; have f82 := HB8.out.frozen 2; obtain ⟨k70, k71, k72⟩ := HB7.out.three; obtain ⟨k80, k81, k82⟩ := HB8.out.three)
        refine held_do 8 rfl (by kernel_rfl) (by rfl) (fun K hK => ?_); go_simp; refine hK.out _ _ (by (try dsimp only); (exact eX)) (fun hHeld => ?_); clear hK K; try simp only [Act.put,pA,pB,pC]
        refine held_do 9 rfl (by kernel_rfl) (by rfl) (fun K hK => ?_); go_simp; refine hK.out _ _ (by (try dsimp only); (exact eX)) (fun hHeld => ?_); clear hK K; try simp only [Act.put,pA,pB,pC]
        refine wpAnyH_done (by kernel_rfl) ?_ _
        rotate_left 1
        go_simp; refine hK.out _ _ (by (try dsimp only); (exact eX)) (fun hHeld => ?_); clear hK K; try simp only [Act.put,pA,pB,pC]
        (have hnew := Blk.new wc 25 #[.int .u8 0, .int .i64 0, .slice none 0 0]; have xe : Ext wc (wc.alloc (.cells #[.int .u8 0, .int .i64 0, .slice none 0 0] 25)) := (Ext.refl _).alloc _; have l8 : w2.heap.size ≤ wc.heap.size := yc.size; (first | have n78 := Nat.ne_of_lt HB7.out.lt | skip); generalize wc.alloc (.cells #[.int .u8 0, .int .i64 0, .slice none 0 0] 25) = wd at hnew xe hHeld ⊢; (first | generalize wc.heap.size = g8 at hnew l8 n78 ⊢ | generalize wc.heap.size = g8 at hnew l8 ⊢); (first | have HB7 := Lib.hid (HB7.out.ext xe) | skip); have HB8 := Lib.hid hnew; replace yc := Ext.trans yc xe; clear hnew xe; (try clear hHeld); rename World => wc; have hHeld := yc)
        refine wpAnyH_ready (rs := [5, 6]) (by kernel_rfl) (by simp) ?_
        refine held_cons 5 rfl (by rfl) (fun K hK => ?_) (held_cons 6 rfl (by rfl) (fun K hK => ?_) AllReadyH.nil)
        go_simp; (first | (go_at_call 46; with_reducible refine (KX2.out _ (X2.out.trans yc)).mono ?_; rintro e wd ⟨va, vl, vc, rfl, hva, xd⟩; (first | have HB7 := Lib.hid (HB7.out.ext xd) | skip); (first | have HB8 := Lib.hid (HB8.out.ext xd) | skip); replace yc := Ext.trans yc xd; clear xd; rename World => wc) | (go_at_call 46; with_reducible refine (KY2.out _ (X2.out.trans yc)).mono ?_; rintro e wd ⟨ua, ul, uc, rfl, hua, xd⟩; (first | have HB7 := Lib.hid (HB7.out.ext xd) | skip); (first | have HB8 := Lib.hid (HB8.out.ext xd) | skip); replace yc := Ext.trans yc xd; clear xd; rename World => wc)); (try (focus (go_wp2_with fail))); refine hK.out _ _ (by (try dsimp only); (exact eX)) (fun hHeld => ?_); clear hK K; try simp only [Act.put,pA,pB,pC]
        refine held_do 6 rfl (by kernel_rfl) (by rfl) (fun K hK => ?_); go_simp; refine hK.out _ _ (by (try dsimp only); (exact eX)) (fun hHeld => ?_); clear hK K; try simp only [Act.put,pA,pB,pC]
        (have hnew := Blk.new wc 25 #[.int .u8 0, .int .i64 0, .slice none 0 0]; have xe : Ext wc (wc.alloc (.cells #[.int .u8 0, .int .i64 0, .slice none 0 0] 25)) := (Ext.refl _).alloc _; have l7 : w2.heap.size ≤ wc.heap.size := yc.size; (first | have n87 := Nat.ne_of_lt HB8.out.lt | skip); generalize wc.alloc (.cells #[.int .u8 0, .int .i64 0, .slice none 0 0] 25) = wd at hnew xe hHeld ⊢; (first | generalize wc.heap.size = g7 at hnew l7 n87 ⊢ | generalize wc.heap.size = g7 at hnew l7 ⊢); (first | have HB8 := Lib.hid (HB8.out.ext xe) | skip); have HB7 := Lib.hid hnew; replace yc := Ext.trans yc xe; clear hnew xe; (try clear hHeld); rename World => wc; have hHeld := yc)
        ((first | (have n87 := fun e => n78 (Eq.symm e)) | (have n78 := fun e => n87 (Eq.symm e))); have lk7 := HB7.out.lt; have lk8 := HB8.out.lt; have f70 := HB7.out.frozen 0; have f71 := HB7.out.frozen 1; have f72 := HB7.out.frozen 2; have f80 := HB8.out.frozen 0; have f81 := HB8.out.frozen 1; have f82 := HB8.out.frozen 2; obtain ⟨k70, k71, k72⟩ := HB7.out.three; obtain ⟨k80, k81, k82⟩ := HB8.out.three)
        refine held_do 8 rfl (by kernel_rfl) (by rfl) (fun K hK => ?_); go_simp; refine hK.out _ _ (by (try dsimp only); (exact eX)) (fun hHeld => ?_); clear hK K; try simp only [Act.put,pA,pB,pC]
        refine held_do 9 rfl (by kernel_rfl) (by rfl) (fun K hK => ?_); go_simp; refine hK.out _ _ (by (try dsimp only); (exact eX)) (fun hHeld => ?_); clear hK K; try simp only [Act.put,pA,pB,pC]
        refine wpAnyH_done (by kernel_rfl) ?_ _
        rotate_left 1
        go_simp; refine hK.out _ _ (by (try dsimp only); (exact eX)) (fun hHeld => ?_); clear hK K; try simp only [Act.put,pA,pB,pC]
        (have hnew := Blk.new wc 25 #[.int .u8 0, .int .i64 0, .slice none 0 0]; have xe : Ext wc (wc.alloc (.cells #[.int .u8 0, .int .i64 0, .slice none 0 0] 25)) := (Ext.refl _).alloc _; have l7 : w2.heap.size ≤ wc.heap.size := yc.size; (first | have n87 := Nat.ne_of_lt HB8.out.lt | skip); generalize wc.alloc (.cells #[.int .u8 0, .int .i64 0, .slice none 0 0] 25) = wd at hnew xe hHeld ⊢; (first | generalize wc.heap.size = g7 at hnew l7 n87 ⊢ | generalize wc.heap.size = g7 at hnew l7 ⊢); (first | have HB8 := Lib.hid (HB8.out.ext xe) | skip); have HB7 := Lib.hid hnew; replace yc := Ext.trans yc xe; clear hnew xe; (try clear hHeld); rename World => wc; have hHeld := yc)
        refine held_do 5 rfl (by kernel_rfl) (by rfl) (fun K hK => ?_); go_simp; (first | (go_at_call 46; with_reducible refine (KX2.out _ (X2.out.trans yc)).mono ?_; rintro e wd ⟨va, vl, vc, rfl, hva, xd⟩; (first | have HB7 := Lib.hid (HB7.out.ext xd) | skip); (first | have HB8 := Lib.hid (HB8.out.ext xd) | skip); replace yc := Ext.trans yc xd; clear xd; rename World => wc) | (go_at_call 46; with_reducible refine (KY2.out _ (X2.out.trans yc)).mono ?_; rintro e wd ⟨ua, ul, uc, rfl, hua, xd⟩; (first | have HB7 := Lib.hid (HB7.out.ext xd) | skip); (first | have HB8 := Lib.hid (HB8.out.ext xd) | skip); replace yc := Ext.trans yc xd; clear xd; rename World => wc)); (try (focus (go_wp2_with fail))); refine hK.out _ _ (by (try dsimp only); (exact eX)) (fun hHeld => ?_); clear hK K; try simp only [Act.put,pA,pB,pC]
        ((first | (have n87 := fun e => n78 (Eq.symm e)) | (have n78 := fun e => n87 (Eq.symm e))); have lk7 := HB7.out.lt; have lk8 := HB8.out.lt; have f70 := HB7.out.frozen 0; have f71 := HB7.out.frozen 1; have f72 := HB7.out.frozen 2; have f80 := HB8.out.frozen 0; have f81 := HB8.out.frozen 1; have f82 := HB8.out.frozen 2; obtain ⟨k70, k71, k72⟩ := HB7.out.three; obtain ⟨k80, k81, k82⟩ := HB8.out.three)
        refine held_do 8 rfl (by kernel_rfl) (by rfl) (fun K hK => ?_); go_simp; refine hK.out _ _ (by (try dsimp only); (exact eX)) (fun hHeld => ?_); clear hK K; try simp only [Act.put,pA,pB,pC]
        refine held_do 9 rfl (by kernel_rfl) (by rfl) (fun K hK => ?_); go_simp; refine hK.out _ _ (by (try dsimp only); (exact eX)) (fun hHeld => ?_); clear hK K; try simp only [Act.put,pA,pB,pC]
        refine wpAnyH_done (by kernel_rfl) ?_ _
        rotate_left 1
        go_simp; refine hK.out _ _ (by (try dsimp only); (exact eX)) (fun hHeld => ?_); clear hK K; try simp only [Act.put,pA,pB,pC]
        (have hnew := Blk.new wc 25 #[.int .u8 0, .int .i64 0, .slice none 0 0]; have xe : Ext wc (wc.alloc (.cells #[.int .u8 0, .int .i64 0, .slice none 0 0] 25)) := (Ext.refl _).alloc _; have l7 : w2.heap.size ≤ wc.heap.size := yc.size; (first | have n87 := Nat.ne_of_lt HB8.out.lt | skip); generalize wc.alloc (.cells #[.int .u8 0, .int .i64 0, .slice none 0 0] 25) = wd at hnew xe hHeld ⊢; (first | generalize wc.heap.size = g7 at hnew l7 n87 ⊢ | generalize wc.heap.size = g7 at hnew l7 ⊢); (first | have HB8 := Lib.hid (HB8.out.ext xe) | skip); have HB7 := Lib.hid hnew; replace yc := Ext.trans yc xe; clear hnew xe; (try clear hHeld); rename World => wc; have hHeld := yc)
        refine wpAnyH_ready (rs := [2, 7]) (by kernel_rfl) (by simp) ?_
        refine held_cons 2 rfl (by rfl) (fun K hK => ?_) (held_cons 7 rfl (by rfl) (fun K hK => ?_) AllReadyH.nil)
        go_simp; (first | (go_at_call 46; with_reducible refine (KX2.out _ (X2.out.trans yc)).mono ?_; rintro e wd ⟨va, vl, vc, rfl, hva, xd⟩; (first | have HB7 := Lib.hid (HB7.out.ext xd) | skip); (first | have HB8 := Lib.hid (HB8.out.ext xd) | skip); replace yc := Ext.trans yc xd; clear xd; rename World => wc) | (go_at_call 46; with_reducible refine (KY2.out _ (X2.out.trans yc)).mono ?_; rintro e wd ⟨ua, ul, uc, rfl, hua, xd⟩; (first | have HB7 := Lib.hid (HB7.out.ext xd) | skip); (first | have HB8 := Lib.hid (HB8.out.ext xd) | skip); replace yc := Ext.trans yc xd; clear xd; rename World => wc)); (try (focus (go_wp2_with fail))); refine hK.out _ _ (by (try dsimp only); (exact eX)) (fun hHeld => ?_); clear hK K; try simp only [Act.put,pA,pB,pC]
        refine wpAnyH_ready (rs := [5, 7]) (by kernel_rfl) (by simp) ?_
        refine held_cons 5 rfl (by rfl) (fun K hK => ?_) (held_cons 7 rfl (by rfl) (fun K hK => ?_) AllReadyH.nil)
        go_simp; (first | (go_at_call 46; with_reducible refine (KX2.out _ (X2.out.trans yc)).mono ?_; rintro e wd ⟨va, vl, vc, rfl, hva, xd⟩; (first | have HB7 := Lib.hid (HB7.out.ext xd) | skip); (first | have HB8 := Lib.hid (HB8.out.ext xd) | skip); replace yc := Ext.trans yc xd; clear xd; rename World => wc) | (go_at_call 46; with_reducible refine (KY2.out _ (X2.out.trans yc)).mono ?_; rintro e wd ⟨ua, ul, uc, rfl, hua, xd⟩; (first | have HB7 := Lib.hid (HB7.out.ext xd) | skip); (first | have HB8 := Lib.hid (HB8.out.ext xd) | skip); replace yc := Ext.trans yc xd; clear xd; rename World => wc)); (try (focus (go_wp2_with fail))); refine hK.out _ _ (by (try dsimp only); (exact eX)) (fun hHeld => ?_); clear hK K; try simp only [Act.put,pA,pB,pC]
        refine held_do 7 rfl (by kernel_rfl) (by rfl) (fun K hK => ?_); go_simp; refine hK.out _ _ (by (try dsimp only); (exact eX)) (fun hHeld => ?_); clear hK K; try simp only [Act.put,pA,pB,pC]
        (have hnew := Blk.new wc 25 #[.int .u8 0, .int .i64 0, .slice none 0 0]; have xe : Ext wc (wc.alloc (.cells #[.int .u8 0, .int .i64 0, .slice none 0 0] 25)) := (Ext.refl _).alloc _; have l8 : w2.heap.size ≤ wc.heap.size := yc.size; (first | have n78 := Nat.ne_of_lt HB7.out.lt | skip); generalize wc.alloc (.cells #[.int .u8 0, .int .i64 0, .slice none 0 0] 25) = wd at hnew xe hHeld ⊢; (first | generalize wc.heap.size = g8 at hnew l8 n78 ⊢ | generalize wc.heap.size = g8 at hnew l8 ⊢); (first | have HB7 := Lib.hid (HB7.out.ext xe) | skip); have HB8 := Lib.hid hnew; replace yc := Ext.trans yc xe; clear hnew xe; (try clear hHeld); rename World => wc; have hHeld := yc)
        ((first | (have n87 := fun e => n78 (Eq.symm e)) | (have n78 := fun e => n87 (Eq.symm e))); have lk7 := HB7.out.lt; have lk8 := HB8.out.lt; have f70 := HB7.out.frozen 0; have f71 := HB7.out.frozen 1; have f72 := HB7.out.frozen 2; have f80 := HB8.out.frozen 0; have f81 := HB8.out.frozen 1; have f82 := HB8.out.frozen 2; obtain ⟨k70, k71, k72⟩ := HB7.out.three; obtain ⟨k80, k81, k82⟩ := HB8.out.three)
        refine held_do 8 rfl (by kernel_rfl) (by rfl) (fun K hK => ?_); go_simp; refine hK.out _ _ (by (try dsimp only); (exact eX)) (fun hHeld => ?_); clear hK K; try simp only [Act.put,pA,pB,pC]
        refine held_do 9 rfl (by kernel_rfl) (by rfl) (fun K hK => ?_); go_simp; refine hK.out _ _ (by (try dsimp only); (exact eX)) (fun hHeld => ?_); clear hK K; try simp only [Act.put,pA,pB,pC]
        refine wpAnyH_done (by kernel_rfl) ?_ _
        rotate_left 1
        go_simp; refine hK.out _ _ (by (try dsimp only); (exact eX)) (fun hHeld => ?_); clear hK K; try simp only [Act.put,pA,pB,pC]
        (have hnew := Blk.new wc 25 #[.int .u8 0, .int .i64 0, .slice none 0 0]; have xe : Ext wc (wc.alloc (.cells #[.int .u8 0, .int .i64 0, .slice none 0 0] 25)) := (Ext.refl _).alloc _; have l8 : w2.heap.size ≤ wc.heap.size := yc.size; (first | have n78 := Nat.ne_of_lt HB7.out.lt | skip); generalize wc.alloc (.cells #[.int .u8 0, .int .i64 0, .slice none 0 0] 25) = wd at hnew xe hHeld ⊢; (first | generalize wc.heap.size = g8 at hnew l8 n78 ⊢ | generalize wc.heap.size = g8 at hnew l8 ⊢); (first | have HB7 := Lib.hid (HB7.out.ext xe) | skip); have HB8 := Lib.hid hnew; replace yc := Ext.trans yc xe; clear hnew xe; (try clear hHeld); rename World => wc; have hHeld := yc)
        refine held_do 5 rfl (by kernel_rfl) (by rfl) (fun K hK => ?_); go_simp; (first | (go_at_call 46; with_reducible refine (KX2.out _ (X2.out.trans yc)).mono ?_; rintro e wd ⟨va, vl, vc, rfl, hva, xd⟩; (first | have HB7 := Lib.hid (HB7.out.ext xd) | skip); (first | have HB8 := Lib.hid (HB8.out.ext xd) | skip); replace yc := Ext.trans yc xd; clear xd; rename World => wc) | (go_at_call 46; with_reducible refine (KY2.out _ (X2.out.trans yc)).mono ?_; rintro e wd ⟨ua, ul, uc, rfl, hua, xd⟩; (first | have HB7 := Lib.hid (HB7.out.ext xd) | skip); (first | have HB8 := Lib.hid (HB8.out.ext xd) | skip); replace yc := Ext.trans yc xd; clear xd; rename World => wc)); (try (focus (go_wp2_with fail))); refine hK.out _ _ (by (try dsimp only); (exact eX)) (fun hHeld => ?_); clear hK K; try simp only [Act.put,pA,pB,pC]
        ((first | (have n87 := fun e => n78 (Eq.symm e)) | (have n78 := fun e => n87 (Eq.symm e))); have lk7 := HB7.out.lt; have lk8 := HB8.out.lt; have f70 := HB7.out.frozen 0; have f71 := HB7.out.frozen 1; have f72 := HB7.out.frozen 2; have f80 := HB8.out.frozen 0; have f81 := HB8.out.frozen 1; have f82 := HB8.out.frozen 2; obtain ⟨k70, k71, k72⟩ := HB7.out.three; obtain ⟨k80, k81, k82⟩ := HB8.out.three)
        refine held_do 8 rfl (by kernel_rfl) (by rfl) (fun K hK => ?_); go_simp; refine hK.out _ _ (by (try dsimp only); (exact eX)) (fun hHeld => ?_); clear hK K; try simp only [Act.put,pA,pB,pC]
        refine held_do 9 rfl (by kernel_rfl) (by rfl) (fun K hK => ?_); go_simp; refine hK.out _ _ (by (try dsimp only); (exact eX)) (fun hHeld => ?_); clear hK K; try simp only [Act.put,pA,pB,pC]
        refine wpAnyH_done (by kernel_rfl) ?_ _
        rotate_left 1
        go_simp; refine hK.out _ _ (by (try dsimp only); (exact eX)) (fun hHeld => ?_); clear hK K; try simp only [Act.put,pA,pB,pC]
        (have hnew := Blk.new wc 25 #[.int .u8 0, .int .i64 0, .slice none 0 0]; have xe : Ext wc (wc.alloc (.cells #[.int .u8 0, .int .i64 0, .slice none 0 0] 25)) := (Ext.refl _).alloc _; have l8 : w2.heap.size ≤ wc.heap.size := yc.size; (first | have n78 := Nat.ne_of_lt HB7.out.lt | skip); generalize wc.alloc (.cells #[.int .u8 0, .int .i64 0, .slice none 0 0] 25) = wd at hnew xe hHeld ⊢; (first | generalize wc.heap.size = g8 at hnew l8 n78 ⊢ | generalize wc.heap.size = g8 at hnew l8 ⊢); (first | have HB7 := Lib.hid (HB7.out.ext xe) | skip); have HB8 := Lib.hid hnew; replace yc := Ext.trans yc xe; clear hnew xe; (try clear hHeld); rename World => wc; have hHeld := yc)
        refine held_do 2 rfl (by kernel_rfl) (by rfl) (fun K hK => ?_); go_simp; (first | (go_at_call 46; with_reducible refine (KX2.out _ (X2.out.trans yc)).mono ?_; rintro e wd ⟨va, vl, vc, rfl, hva, xd⟩; (first | have HB7 := Lib.hid (HB7.out.ext xd) | skip); (first | have HB8 := Lib.hid (HB8.out.ext xd) | skip); replace yc := Ext.trans yc xd; clear xd; rename World => wc) | (go_at_call 46; with_reducible refine (KY2.out _ (X2.out.trans yc)).mono ?_; rintro e wd ⟨ua, ul, uc, rfl, hua, xd⟩; (first | have HB7 := Lib.hid (HB7.out.ext xd) | skip); (first | have HB8 := Lib.hid (HB8.out.ext xd) | skip); replace yc := Ext.trans yc xd; clear xd; rename World => wc)); (try (focus (go_wp2_with fail))); refine hK.out _ _ (by (try dsimp only); (exact eX)) (fun hHeld => ?_); clear hK K; try simp only [Act.put,pA,pB,pC]
        refine held_do 5 rfl (by kernel_rfl) (by rfl) (fun K hK => ?_); go_simp; (first | (go_at_call 46; with_reducible refine (KX2.out _ (X2.out.trans yc)).mono ?_; rintro e wd ⟨va, vl, vc, rfl, hva, xd⟩; (first | have HB7 := Lib.hid (HB7.out.ext xd) | skip); (first | have HB8 := Lib.hid (HB8.out.ext xd) | skip); replace yc := Ext.trans yc xd; clear xd; rename World => wc) | (go_at_call 46; with_reducible refine (KY2.out _ (X2.out.trans yc)).mono ?_; rintro e wd ⟨ua, ul, uc, rfl, hua, xd⟩; (first | have HB7 := Lib.hid (HB7.out.ext xd) | skip); (first | have HB8 := Lib.hid (HB8.out.ext xd) | skip); replace yc := Ext.trans yc xd; clear xd; rename World => wc)); (try (focus (go_wp2_with fail))); refine hK.out _ _ (by (try dsimp only); (exact eX)) (fun hHeld => ?_); clear hK K; try simp only [Act.put,pA,pB,pC]
        ((first | (have n87 := fun e => n78 (Eq.symm e)) | (have n78 := fun e => n87 (Eq.symm e))); have lk7 := HB7.out.lt; have lk8 := HB8.out.lt; have f70 := HB7.out.frozen 0; have f71 := HB7.out.frozen 1; have f72 := HB7.out.frozen 2; have f80 := HB8.out.frozen 0; have f81 := HB8.out.frozen 1; have f82 := HB8.out.frozen 2; obtain ⟨k70, k71, k72⟩ := HB7.out.three; obtain ⟨k80, k81, k82⟩ := HB8.out.three)
        refine held_do 8 rfl (by kernel_rfl) (by rfl) (fun K hK => ?_); go_simp; refine hK.out _ _ (by (try dsimp only); (exact eX)) (fun hHeld => ?_); clear hK K; try simp only [Act.put,pA,pB,pC]
        refine held_do 9 rfl (by kernel_rfl) (by rfl) (fun K hK => ?_); go_simp; refine hK.out _ _ (by (try dsimp only); (exact eX)) (fun hHeld => ?_); clear hK K; try simp only [Act.put,pA,pB,pC]
        refine wpAnyH_done (by kernel_rfl) ?_ _
        rotate_left 1
        go_simp; refine hK.out _ _ (by (try dsimp only); (exact eX)) (fun hHeld => ?_); clear hK K; try simp only [Act.put,pA,pB,pC]
        (have hnew := Blk.new wc 25 #[.int .u8 0, .int .i64 0, .slice none 0 0]; have xe : Ext wc (wc.alloc (.cells #[.int .u8 0, .int .i64 0, .slice none 0 0] 25)) := (Ext.refl _).alloc _; have l8 : w2.heap.size ≤ wc.heap.size := yc.size; (first | have n78 := Nat.ne_of_lt HB7.out.lt | skip); generalize wc.alloc (.cells #[.int .u8 0, .int .i64 0, .slice none 0 0] 25) = wd at hnew xe hHeld ⊢; (first | generalize wc.heap.size = g8 at hnew l8 n78 ⊢ | generalize wc.heap.size = g8 at hnew l8 ⊢); (first | have HB7 := Lib.hid (HB7.out.ext xe) | skip); have HB8 := Lib.hid hnew; replace yc := Ext.trans yc xe; clear hnew xe; (try clear hHeld); rename World => wc; have hHeld := yc)
        refine wpAnyH_ready (rs := [2, 6]) (by kernel_rfl) (by simp) ?_
        refine held_cons 2 rfl (by rfl) (fun K hK => ?_) (held_cons 6 rfl (by rfl) (fun K hK => ?_) AllReadyH.nil)
        go_simp; (first | (go_at_call 46; with_reducible refine (KX2.out _ (X2.out.trans yc)).mono ?_; rintro e wd ⟨va, vl, vc, rfl, hva, xd⟩; (first | have HB7 := Lib.hid (HB7.out.ext xd) | skip); (first | have HB8 := Lib.hid (HB8.out.ext xd) | skip); replace yc := Ext.trans yc xd; clear xd; rename World => wc) | (go_at_call 46; with_reducible refine (KY2.out _ (X2.out.trans yc)).mono ?_; rintro e wd ⟨ua, ul, uc, rfl, hua, xd⟩; (first | have HB7 := Lib.hid (HB7.out.ext xd) | skip); (first | have HB8 := Lib.hid (HB8.out.ext xd) | skip); replace yc := Ext.trans yc xd; clear xd; rename World => wc)); (try (focus (go_wp2_with fail))); refine hK.out _ _ (by (try dsimp only); (exact eX)) (fun hHeld => ?_); clear hK K; try simp only [Act.put,pA,pB,pC]
        refine wpAnyH_ready (rs := [5, 6]) (by kernel_rfl) (by simp) ?_
        refine held_cons 5 rfl (by rfl) (fun K hK => ?_) (held_cons 6 rfl (by rfl) (fun K hK => ?_) AllReadyH.nil)
        go_simp; (first | (go_at_call 46; with_reducible refine (KX2.out _ (X2.out.trans yc)).mono ?_; rintro e wd ⟨va, vl, vc, rfl, hva, xd⟩; (first | have HB7 := Lib.hid (HB7.out.ext xd) | skip); (first | have HB8 := Lib.hid (HB8.out.ext xd) | skip); replace yc := Ext.trans yc xd; clear xd; rename World => wc) | (go_at_call 46; with_reducible refine (KY2.out _ (X2.out.trans yc)).mono ?_; rintro e wd ⟨ua, ul, uc, rfl, hua, xd⟩; (first | have HB7 := Lib.hid (HB7.out.ext xd) | skip); (first | have HB8 := Lib.hid (HB8.out.ext xd) | skip); replace yc := Ext.trans yc xd; clear xd; rename World => wc)); (try (focus (go_wp2_with fail))); refine hK.out _ _ (by (try dsimp only); (exact eX)) (fun hHeld => ?_); clear hK K; try simp only [Act.put,pA,pB,pC]
        refine held_do 6 rfl (by kernel_rfl) (by rfl) (fun K hK => ?_); go_simp; refine hK.out _ _ (by (try dsimp only); (exact eX)) (fun hHeld => ?_); clear hK K; try simp only [Act.put,pA,pB,pC]
        (have hnew := Blk.new wc 25 #[.int .u8 0, .int .i64 0, .slice none 0 0]; have xe : Ext wc (wc.alloc (.cells #[.int .u8 0, .int .i64 0, .slice none 0 0] 25)) := (Ext.refl _).alloc _; have l7 : w2.heap.size ≤ wc.heap.size := yc.size; (first | have n87 := Nat.ne_of_lt HB8.out.lt | skip); generalize wc.alloc (.cells #[.int .u8 0, .int .i64 0, .slice none 0 0] 25) = wd at hnew xe hHeld ⊢; (first | generalize wc.heap.size = g7 at hnew l7 n87 ⊢ | generalize wc.heap.size = g7 at hnew l7 ⊢); (first | have HB8 := Lib.hid (HB8.out.ext xe) | skip); have HB7 := Lib.hid hnew; replace yc := Ext.trans yc xe; clear hnew xe; (try clear hHeld); rename World => wc; have hHeld := yc)
        ((first | (have n87 := fun e => n78 (Eq.symm e)) | (have n78 := fun e => n87 (Eq.symm e))); have lk7 := HB7.out.lt; have lk8 := HB8.out.lt; have f70 := HB7.out.frozen 0; have f71 := HB7.out.frozen 1; have f72 := HB7.out.frozen 2; have f80 := HB8.out.frozen 0; have f81 := HB8.out.frozen 1; have f82 := HB8.out.frozen 2; obtain ⟨k70, k71, k72⟩ := HB7.out.three; obtain ⟨k80, k81, k82⟩ := HB8.out.three)
        refine held_do 8 rfl (by kernel_rfl) (by rfl) (fun K hK => ?_); go_simp; refine hK.out _ _ (by (try dsimp only); (exact eX)) (fun hHeld => ?_); clear hK K; try simp only [Act.put,pA,pB,pC]
        refine held_do 9 rfl (by kernel_rfl) (by rfl) (fun K hK => ?_); go_simp; refine hK.out _ _ (by (try dsimp only); (exact eX)) (fun hHeld => ?_); clear hK K; try simp only [Act.put,pA,pB,pC]
        refine wpAnyH_done (by kernel_rfl) ?_ _
        rotate_left 1
        go_simp; refine hK.out _ _ (by (try dsimp only); (exact eX)) (fun hHeld => ?_); clear hK K; try simp only [Act.put,pA,pB,pC]
        (have hnew := Blk.new wc 25 #[.int .u8 0, .int .i64 0, .slice none 0 0]; have xe : Ext wc (wc.alloc (.cells #[.int .u8 0, .int .i64 0, .slice none 0 0] 25)) := (Ext.refl _).alloc _; have l7 : w2.heap.size ≤ wc.heap.size := yc.size; (first | have n87 := Nat.ne_of_lt HB8.out.lt | skip); generalize wc.alloc (.cells #[.int .u8 0, .int .i64 0, .slice none 0 0] 25) = wd at hnew xe hHeld ⊢; (first | generalize wc.heap.size = g7 at hnew l7 n87 ⊢ | generalize wc.heap.size = g7 at hnew l7 ⊢); (first | have HB8 := Lib.hid (HB8.out.ext xe) | skip); have HB7 := Lib.hid hnew; replace yc := Ext.trans yc xe; clear hnew xe; (try clear hHeld); rename World => wc; have hHeld := yc)
        refine held_do 5 rfl (by kernel_rfl) (by rfl) (fun K hK => ?_); go_simp; (first | (go_at_call 46; with_reducible refine (KX2.out _ (X2.out.trans yc)).mono ?_; rintro e wd ⟨va, vl, vc, rfl, hva, xd⟩; (first | have HB7 := Lib.hid (HB7.out.ext xd) | skip); (first | have HB8 := Lib.hid (HB8.out.ext xd) | skip); replace yc := Ext.trans yc xd; clear xd; rename World => wc) | (go_at_call 46; with_reducible refine (KY2.out _ (X2.out.trans yc)).mono ?_; rintro e wd ⟨ua, ul, uc, rfl, hua, xd⟩; (first | have HB7 := Lib.hid (HB7.out.ext xd) | skip); (first | have HB8 := Lib.hid (HB8.out.ext xd) | skip); replace yc := Ext.trans yc xd; clear xd; rename World => wc)); (try (focus (go_wp2_with fail))); refine hK.out _ _ (by (try dsimp only); (exact eX)) (fun hHeld => ?_); clear hK K; try simp only [Act.put,pA,pB,pC]
        ((first | (have n87 := fun e => n78 (Eq.symm e)) | (have n78 := fun e => n87 (Eq.symm e))); have lk7 := HB7.out.lt; have lk8 := HB8.out.lt; have f70 := HB7.out.frozen 0; have f71 := HB7.out.frozen 1; have f72 := HB7.out.frozen 2; have f80 := HB8.out.frozen 0; have f81 := HB8.out.frozen 1; have f82 := HB8.out.frozen 2; obtain ⟨k70, k71, k72⟩ := HB7.out.three; obtain ⟨k80, k81, k82⟩ := HB8.out.three)
        refine held_do 8 rfl (by kernel_rfl) (by rfl) (fun K hK => ?_); go_simp; refine hK.out _ _ (by (try dsimp only); (exact eX)) (fun hHeld => ?_); clear hK K; try simp only [Act.put,pA,pB,pC]
        refine held_do 9 rfl (by kernel_rfl) (by rfl) (fun K hK => ?_); go_simp; refine hK.out _ _ (by (try dsimp only); (exact eX)) (fun hHeld => ?_); clear hK K; try simp only [Act.put,pA,pB,pC]
        refine wpAnyH_done (by kernel_rfl) ?_ _
        rotate_left 1
        go_simp; refine hK.out _ _ (by (try dsimp only); (exact eX)) (fun hHeld => ?_); clear hK K; try simp only [Act.put,pA,pB,pC]
        (have hnew := Blk.new wc 25 #[.int .u8 0, .int .i64 0, .slice none 0 0]; have xe : Ext wc (wc.alloc (.cells #[.int .u8 0, .int .i64 0, .slice none 0 0] 25)) := (Ext.refl _).alloc _; have l7 : w2.heap.size ≤ wc.heap.size := yc.size; (first | have n87 := Nat.ne_of_lt HB8.out.lt | skip); generalize wc.alloc (.cells #[.int .u8 0, .int .i64 0, .slice none 0 0] 25) = wd at hnew xe hHeld ⊢; (first | generalize wc.heap.size = g7 at hnew l7 n87 ⊢ | generalize wc.heap.size = g7 at hnew l7 ⊢); (first | have HB8 := Lib.hid (HB8.out.ext xe) | skip); have HB7 := Lib.hid hnew; replace yc := Ext.trans yc xe; clear hnew xe; (try clear hHeld); rename World => wc; have hHeld := yc)
        refine held_do 2 rfl (by kernel_rfl) (by rfl) (fun K hK => ?_); go_simp; (first | (go_at_call 46; with_reducible refine (KX2.out _ (X2.out.trans yc)).mono ?_; rintro e wd ⟨va, vl, vc, rfl, hva, xd⟩; (first | have HB7 := Lib.hid (HB7.out.ext xd) | skip); (first | have HB8 := Lib.hid (HB8.out.ext xd) | skip); replace yc := Ext.trans yc xd; clear xd; rename World => wc) | (go_at_call 46; with_reducible refine (KY2.out _ (X2.out.trans yc)).mono ?_; rintro e wd ⟨ua, ul, uc, rfl, hua, xd⟩; (first | have HB7 := Lib.hid (HB7.out.ext xd) | skip); (first | have HB8 := Lib.hid (HB8.out.ext xd) | skip); replace yc := Ext.trans yc xd; clear xd; rename World => wc)); (try (focus (go_wp2_with fail))); refine hK.out _ _ (by (try dsimp only); (exact eX)) (fun hHeld => ?_); clear hK K; try simp only [Act.put,pA,pB,pC]
        refine held_do 5 rfl (by kernel_rfl) (by rfl) (fun K hK => ?_); go_simp; (first | (go_at_call 46; with_reducible refine (KX2.out _ (X2.out.trans yc)).mono ?_; rintro e wd ⟨va, vl, vc, rfl, hva, xd⟩; (first | have HB7 := Lib.hid (HB7.out.ext xd) | skip); (first | have HB8 := Lib.hid (HB8.out.ext xd) | skip); replace yc := Ext.trans yc xd; clear xd; rename World => wc) | (go_at_call 46; with_reducible refine (KY2.out _ (X2.out.trans yc)).mono ?_; rintro e wd ⟨ua, ul, uc, rfl, hua, xd⟩; (first | have HB7 := Lib.hid (HB7.out.ext xd) | skip); (first | have HB8 := Lib.hid (HB8.out.ext xd) | skip); replace yc := Ext.trans yc xd; clear xd; rename World => wc)); (try (focus (go_wp2_with fail))); refine hK.out _ _ (by (try dsimp only); (exact eX)) (fun hHeld => ?_); clear hK K; try simp only [Act.put,pA,pB,pC]
        ((first | (have n87 := fun e => n78 (Eq.symm e)) | (have n78 := fun e => n87 (Eq.symm e))); have lk7 := HB7.out.lt; have lk8 := HB8.out.lt; have f70 := HB7.out.frozen 0; have f71 := HB7.out.frozen 1; have f72 := HB7.out.frozen 2; have f80 := HB8.out.frozen 0; have f81 := HB8.out.frozen 1; have f82 := HB8.out.frozen 2; obtain ⟨k70, k71, k72⟩ := HB7.out.three; obtain ⟨k80, k81, k82⟩ := HB8.out.three)
        refine held_do 8 rfl (by kernel_rfl) (by rfl) (fun K hK => ?_); go_simp; refine hK.out _ _ (by (try dsimp only); (exact eX)) (fun hHeld => ?_); clear hK K; try simp only [Act.put,pA,pB,pC]
        refine held_do 9 rfl (by kernel_rfl) (by rfl) (fun K hK => ?_); go_simp; refine hK.out _ _ (by (try dsimp only); (exact eX)) (fun hHeld => ?_); clear hK K; try simp only [Act.put,pA,pB,pC]
        refine wpAnyH_done (by kernel_rfl) ?_ _
        rotate_left 1
        all_goals exact ⟨g7, g8, va, vl, vc, ua, ul, uc, rfl, hva, hua, l7, l8, HB7.out.lay3.far3 n78, (HB8.out.far3 n87).lay3, (yc.lay3 l7).lay3 l8⟩
end Go.Proofs.Ytkjjbackkipfdaa
