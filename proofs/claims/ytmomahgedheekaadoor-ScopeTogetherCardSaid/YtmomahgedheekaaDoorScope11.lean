/- Whether a program is closed: the walk of scope.Closed. -/
import Derived.Test.YtmomahgedheekaaDoorScope10
namespace Go.Proofs.YtmomahgedheekaaDoor
open Go Go.RowKit Go.Sort

theorem closedR_no {t : Tm} {l : List (ByteArray × Int)} (h : t.may = false) : closedR t l = (0, 1) := by unfold closedR; rw [if_pos h]
theorem closedR_long {t : Tm} {l : List (ByteArray × Int)} {q : ByteArray × Int} (h : t.may = true) (h1 : 64 < l.length) (h2 : l[64]? = some q) : closedR t l = (q.2, 3) := by
  unfold closedR; rw [if_neg (by simp [h]), if_pos h1, h2]; rfl
theorem closedR_twice {t : Tm} {l : List (ByteArray × Int)} {q : Int} (h : t.may = true) (h1 : l.length ≤ 64) (h2 : firstTwice [] l = some q) : closedR t l = (q, 4) := by
  unfold closedR; rw [if_neg (by simp [h]), if_neg (by omega), h2]
theorem closedR_bad {t : Tm} {l : List (ByteArray × Int)} {q : Int} (h : t.may = true) (h1 : l.length ≤ 64) (h2 : firstTwice [] l = none) (h3 : t.bad (l.map Prod.fst) [] = some q) : closedR t l = (q, 4) := by
  unfold closedR; rw [if_neg (by simp [h]), if_neg (by omega), h2]; simp only; rw [h3]
theorem closedR_ok {t : Tm} {l : List (ByteArray × Int)} (h : t.may = true) (h1 : l.length ≤ 64) (h2 : firstTwice [] l = none) (h3 : t.bad (l.map Prod.fst) [] = none) : closedR t l = (0, 0) := by
  unfold closedR; rw [if_neg (by simp [h]), if_neg (by omega), h2]; simp only; rw [h3]
def RetC (r : Int × Int) (w : World) (e : Ending) (w' : World) : Prop := e = .returned (.tuple #[.int .i64 r.1, .int .i64 r.2]) ∧ Ext w w'
set_option maxRecDepth 8000 in
set_option maxHeartbeats 4000000 in
theorem scope_closed (p : Pg) (w : World) (v : Value) (hp : IsPg w p v) (hs : p.body.size ≤ 100000) (hkn : Knob w) : Calls Tryd.prog 26 #[v] w (RetC (closedR p.body p.ps) w) := by
  have hp0 := hp
  obtain ⟨a, n, c, x, l, ak, lenk, capk, hb, rfl, h1, h2, ht, hf, h3, h4, hl⟩ := hp
  unfold pgval at hp0 ⊢
  obtain ⟨W0, hW0⟩ : ∃ W0, W0 = w.alloc (.cells #[.slice a n c, .int .u8 x.k, .int .u8 x.op, .int .i64 x.pos, .int .i64 x.n, .string x.name, .string x.arg, .string x.exn, .slice ak lenk capk] 43) := ⟨_, rfl⟩
  have x0 : Ext w W0 := by rw [hW0]; exact (Ext.refl _).alloc _
  have hs0 : w.heap.size < W0.heap.size := by rw [hW0]; simp
  have q0 : W0.cell? ⟨w.heap.size, 0, none⟩ = some (.slice a n c) := by rw [hW0]; simp [go_sem]
  have q1 : W0.cell? ⟨w.heap.size, 1, none⟩ = some (.int .u8 x.k) := by rw [hW0]; simp [go_sem]
  have q2 : W0.cell? ⟨w.heap.size, 2, none⟩ = some (.int .u8 x.op) := by rw [hW0]; simp [go_sem]
  have q3 : W0.cell? ⟨w.heap.size, 3, none⟩ = some (.int .i64 x.pos) := by rw [hW0]; simp [go_sem]
  have q4 : W0.cell? ⟨w.heap.size, 4, none⟩ = some (.int .i64 x.n) := by rw [hW0]; simp [go_sem]
  have q5 : W0.cell? ⟨w.heap.size, 5, none⟩ = some (.string x.name) := by rw [hW0]; simp [go_sem]
  have q6 : W0.cell? ⟨w.heap.size, 6, none⟩ = some (.string x.arg) := by rw [hW0]; simp [go_sem]
  have q7 : W0.cell? ⟨w.heap.size, 7, none⟩ = some (.string x.exn) := by rw [hW0]; simp [go_sem]
  have q8 : W0.cell? ⟨w.heap.size, 8, none⟩ = some (.slice ak lenk capk) := by rw [hW0]; simp [go_sem]
  have CM : Hid (∀ W, Ext w W → Calls Tryd.prog 54 #[tval x ak lenk capk] W fun e w' => e = .returned (.bool p.body.may) ∧ Ext W w') := Lib.hid fun W h => term_may p.body W (tval x ak lenk capk) (by rw [hb]; exact IsTmA.mk_ (hl.ext h) h3 h4 hf) (hkn.ext h) (by omega)
  have CD : Hid (∀ W, Ext w W → Calls Tryd.prog 55 #[.agg #[.slice a n c, .int .u8 x.k, .int .u8 x.op, .int .i64 x.pos, .int .i64 x.n, .string x.name, .string x.arg, .string x.exn, .slice ak lenk capk]] W (Decl p.ps W)) := Lib.hid fun W h => scope_declared p W _ (hp0.ext h)
  have HB := Lib.hid hb
  have HTL := Lib.hid hl
  have HF := Lib.hid hf
  have HW0 := Lib.hid hW0
  unfold tval at CM
  clear hp0 hb ht hf hl hkn hW0
  cases hm : p.body.may
  · rw [hm] at CM
    have HM := Lib.hid hm
    clear hm
    go_enter Tryd.func26, Tryd.ntmps26
    go_wp2_with fail
    rw [← HW0.out]
    refine (CM.out _ x0).mono ?_
    rintro e w1 ⟨rfl, x1⟩
    go_wp2_with fail
    exact bodyPost_ret (v := .tuple #[.int .i64 0, .int .i64 1]) (by simp [results, Tryd.results26, go_sem]) rfl ⟨by rw [closedR_no HM.out], x0.trans x1⟩
  · rw [hm] at CM
    have HM := Lib.hid hm
    clear hm
    go_enter Tryd.func26, Tryd.ntmps26
    go_wp2_with fail
    rw [← HW0.out]
    refine (CM.out _ x0).mono ?_
    rintro e w1 ⟨rfl, x1⟩
    have d0 := x1.cell q0
    have d1 := x1.cell q1
    have d2 := x1.cell q2
    have d3 := x1.cell q3
    have d4 := x1.cell q4
    have d5 := x1.cell q5
    have d6 := x1.cell q6
    have d7 := x1.cell q7
    have d8 := x1.cell q8
    go_wp2_with fail
    refine (CD.out _ (x0.trans x1)).mono ?_
    intro e w2 hd
    have hs1 := x1.size
    cases hd with
    | long g1 g2 x2 =>
      rename_i q
      have HQ := Lib.hid (closedR_long HM.out g1 g2)
      clear g1 g2
      obtain ⟨W3, hW3⟩ : ∃ W3, W3 = ((w2.alloc (.cells #[.slice none 0 0] 51)).alloc (.cells #[.int .i64 q.2] 3)).alloc (.cells #[.int .i64 3] 26) := ⟨_, rfl⟩
      have x3 : Ext w2 W3 := by rw [hW3]; exact (((Ext.refl _).alloc _).alloc _).alloc _
      have k1 : W3.cell? ⟨w2.heap.size + 1, 0, none⟩ = some (.int .i64 q.2) := by rw [hW3]; simp [go_sem]
      have k2 : W3.cell? ⟨w2.heap.size + 1 + 1, 0, none⟩ = some (.int .i64 3) := by rw [hW3]; simp [go_sem]
      have m1 := fun W (h : Ext W3 W) => h.cell k1
      have m2 := fun W (h : Ext W3 W) => h.cell k2
      have HW3 := Lib.hid hW3
      clear hW3
      go_wp2_with fail
      rw [← HW3.out]
      refine wp_region_held_drew (S := fun w' => Ext W3 w') (by kernel_rfl) (by (try dsimp only); (repeat (first | exact Ext.refl _ | assumption | refine Ext.alloc ?_ _ | refine Ext.drew ?_ | refine Ext.setCell ?_ (by first | (simp; done) | (simp; omega) | omega) _ | refine Ext.trans ?_ (by assumption)))) (fun hHeld => ?_)
      refine held_take 0 (v := ?_) rfl (by kernel_rfl) (by kernel_rfl) (by kernel_rfl) (fun _ _ _ h => h) (by assumption) (by rfl) ?_ ?_; rotate_left; (focus (intro w hSw; (try dsimp only at hSw); go_simp; (try with_reducible rfl))); try simp only [Act.put, List.setIfInBounds_toArray, List.set_cons_zero, List.set_cons_succ]
      refine held_take 1 (v := ?_) rfl (by kernel_rfl) (by kernel_rfl) (by kernel_rfl) (fun _ _ _ h => h) (by assumption) (by rfl) ?_ ?_; rotate_left; (focus (intro w hSw; (try dsimp only at hSw); go_simp; (try with_reducible rfl))); try simp only [Act.put, List.setIfInBounds_toArray, List.set_cons_zero, List.set_cons_succ]
      refine held_take 2 (v := ?_) rfl (by kernel_rfl) (by kernel_rfl) (by kernel_rfl) (fun _ _ _ h => h) (by assumption) (by rfl) ?_ ?_; rotate_left; (focus (intro w hSw; (try dsimp only at hSw); go_simp; (try with_reducible rfl))); try simp only [Act.put, List.setIfInBounds_toArray, List.set_cons_zero, List.set_cons_succ]
      refine held_take 3 (v := ?_) rfl (by kernel_rfl) (by kernel_rfl) (by kernel_rfl) (fun _ _ _ h => h) (by assumption) (by rfl) ?_ ?_; rotate_left; (focus (intro w hSw; (try dsimp only at hSw); go_simp; (try with_reducible rfl))); try simp only [Act.put, List.setIfInBounds_toArray, List.set_cons_zero, List.set_cons_succ]
      refine wpAnyH_done (by kernel_rfl) ?_ _
      go_wp2_with fail
      have hfin := hHeld
      exact bodyPost_ret (v := .tuple #[.int .i64 q.2, .int .i64 3]) (by simp [results, Tryd.results26, go_sem]) rfl ⟨by rw [HQ.out], x0.trans (x1.trans (x2.trans (x3.trans hfin)))⟩
    | twice g1 g2 x2 =>
      rename_i q
      have HQ := Lib.hid (closedR_twice HM.out g1 g2)
      clear g1 g2
      obtain ⟨W3, hW3⟩ : ∃ W3, W3 = ((w2.alloc (.cells #[.slice none 0 0] 51)).alloc (.cells #[.int .i64 q] 3)).alloc (.cells #[.int .i64 4] 26) := ⟨_, rfl⟩
      have x3 : Ext w2 W3 := by rw [hW3]; exact (((Ext.refl _).alloc _).alloc _).alloc _
      have k1 : W3.cell? ⟨w2.heap.size + 1, 0, none⟩ = some (.int .i64 q) := by rw [hW3]; simp [go_sem]
      have k2 : W3.cell? ⟨w2.heap.size + 1 + 1, 0, none⟩ = some (.int .i64 4) := by rw [hW3]; simp [go_sem]
      have m1 := fun W (h : Ext W3 W) => h.cell k1
      have m2 := fun W (h : Ext W3 W) => h.cell k2
      have HW3 := Lib.hid hW3
      clear hW3
      go_wp2_with fail
      rw [← HW3.out]
      refine wp_region_held_drew (S := fun w' => Ext W3 w') (by kernel_rfl) (by (try dsimp only); (repeat (first | exact Ext.refl _ | assumption | refine Ext.alloc ?_ _ | refine Ext.drew ?_ | refine Ext.setCell ?_ (by first | (simp; done) | (simp; omega) | omega) _ | refine Ext.trans ?_ (by assumption)))) (fun hHeld => ?_)
      refine held_take 0 (v := ?_) rfl (by kernel_rfl) (by kernel_rfl) (by kernel_rfl) (fun _ _ _ h => h) (by assumption) (by rfl) ?_ ?_; rotate_left; (focus (intro w hSw; (try dsimp only at hSw); go_simp; (try with_reducible rfl))); try simp only [Act.put, List.setIfInBounds_toArray, List.set_cons_zero, List.set_cons_succ]
      refine held_take 1 (v := ?_) rfl (by kernel_rfl) (by kernel_rfl) (by kernel_rfl) (fun _ _ _ h => h) (by assumption) (by rfl) ?_ ?_; rotate_left; (focus (intro w hSw; (try dsimp only at hSw); go_simp; (try with_reducible rfl))); try simp only [Act.put, List.setIfInBounds_toArray, List.set_cons_zero, List.set_cons_succ]
      refine held_take 2 (v := ?_) rfl (by kernel_rfl) (by kernel_rfl) (by kernel_rfl) (fun _ _ _ h => h) (by assumption) (by rfl) ?_ ?_; rotate_left; (focus (intro w hSw; (try dsimp only at hSw); go_simp; (try with_reducible rfl))); try simp only [Act.put, List.setIfInBounds_toArray, List.set_cons_zero, List.set_cons_succ]
      refine held_take 3 (v := ?_) rfl (by kernel_rfl) (by kernel_rfl) (by kernel_rfl) (fun _ _ _ h => h) (by assumption) (by rfl) ?_ ?_; rotate_left; (focus (intro w hSw; (try dsimp only at hSw); go_simp; (try with_reducible rfl))); try simp only [Act.put, List.setIfInBounds_toArray, List.set_cons_zero, List.set_cons_succ]
      refine wpAnyH_done (by kernel_rfl) ?_ _
      go_wp2_with fail
      have hfin := hHeld
      exact bodyPost_ret (v := .tuple #[.int .i64 q, .int .i64 4]) (by simp [results, Tryd.results26, go_sem]) rfl ⟨by rw [HQ.out], x0.trans (x1.trans (x2.trans (x3.trans hfin)))⟩
    | ok g1 g2 g3 x2 =>
      rename_i ae ne ce
      have z1 := x2.cell d1
      have z2 := x2.cell d2
      have z3 := x2.cell d3
      have z4 := x2.cell d4
      have z5 := x2.cell d5
      have z6 := x2.cell d6
      have z7 := x2.cell d7
      have z8 := x2.cell d8
      have hs2 := x2.size
      have hs3 : w.heap.size < w2.heap.size := by omega
      have hs4 : w.heap.size < w2.heap.size + 1 := by omega
      have hs5 : w.heap.size < w2.heap.size + 1 + 1 := by omega
      obtain ⟨W3, hW3⟩ : ∃ W3, W3 = ((w2.alloc (.cells #[.slice ae ne ce] 51)).alloc (.cells #[.int .i64 0] 3)).alloc (.cells #[.int .i64 0] 26) := ⟨_, rfl⟩
      have x3 : Ext w2 W3 := by rw [hW3]; exact (((Ext.refl _).alloc _).alloc _).alloc _
      have b0 : Blk W3 w2.heap.size 51 #[.slice ae ne ce] := by rw [hW3]; exact ((Blk.new w2 _ _).alloc _).alloc _
      have b1 : Blk W3 (w2.heap.size + 1) 3 #[.int .i64 0] := by
        rw [hW3]
        have h := (Blk.new (w2.alloc (.cells #[.slice ae ne ce] 51)) 3 #[.int .i64 0]).alloc (.cells #[.int .i64 0] 26)
        rw [World.size_alloc] at h
        exact h
      have b2 : Blk W3 (w2.heap.size + 2) 26 #[.int .i64 0] := by
        rw [hW3]
        have h := Blk.new ((w2.alloc (.cells #[.slice ae ne ce] 51)).alloc (.cells #[.int .i64 0] 3)) 26 #[.int .i64 0]
        rw [World.size_alloc, World.size_alloc] at h
        exact h
      have hN : Nm (Two w2.heap.size) W3 (p.ps.map Prod.fst) ae ne ce :=
        ⟨g3.le, g3.max, g3.nil, g3.row.ext x3, fun q hq => ⟨fun h => by have := (g3.off q hq).2.1; rcases h with h | h <;> omega, Nat.lt_of_lt_of_le (g3.off q hq).2.1 x3.size, (g3.off q hq).2.2⟩⟩
      have hR0 : (gClosed w2.heap.size (p.ps.map Prod.fst)).R (0, 0) W3 := ⟨⟨ae, ne, ce, b0, hN⟩, b1, b2⟩
      have xw : Ext w W3 := x0.trans (x1.trans (x2.trans x3))
      have CW := names_walk (gClosed w2.heap.size (p.ps.map Prod.fst)) (closedF (p.ps.map Prod.fst)) (fun _ _ => True) (fun _ _ _ _ _ => trivial) (fun _ _ _ _ _ => trivial) 57 (.pointer (some ⟨w2.heap.size, 0, none⟩)) (.pointer (some ⟨w2.heap.size + 1, 0, none⟩)) (.pointer (some ⟨w2.heap.size + 2, 0, none⟩)) enters_closed1 (closed_steps _ _) _ p.body [] (0, 0) W3 none 0 0 (tval x ak lenk capk) (Nat.le_refl _) (by simp; omega) hR0 trivial (Nm.none_ _ _) (by
        rw [HB.out]
        exact IsTmA.mk_ (HTL.out.fresh xw (fun k hk => by
          have : w2.heap.size < k := by rcases hk with hk | hk <;> omega
          omega)) h3 h4 HF.out)
      rw [Tm.nwalk_closed] at CW
      unfold tval at CW
      have HW3 := Lib.hid hW3
      have hle : w.heap.size ≤ w2.heap.size := by omega
      clear hW3 b0 b1 b2 hN hR0 g3
      have fin : ∀ (r : Int × Int) (w9 : World), OExt (gClosed w2.heap.size (p.ps.map Prod.fst)).own W3 w9 → Ext w w9 := fun r w9 hx =>
        ExtX.ext xw (oext_x (A := Two w2.heap.size) hx) fun k hk => by rcases hk with rfl | rfl <;> omega
      cases hbad : p.body.bad (p.ps.map Prod.fst) [] with
      | none =>
        rw [hbad] at CW
        have HQ := Lib.hid (closedR_ok HM.out g1 g2 hbad)
        have CWH := Lib.hid CW
        have FIN := Lib.hid fin
        clear g1 g2 hbad CW fin
        go_wp2_with fail
        rw [← HW3.out]
        refine (CWH.out).mono ?_
        rintro e w9 ⟨rfl, ⟨_, r1, r2⟩, hx9⟩
        have k1 := r1.cell 0
        have k2 := r2.cell 0
        simp at k1 k2
        have m1 := fun W (h : Ext w9 W) => h.cell k1
        have m2 := fun W (h : Ext w9 W) => h.cell k2
        clear r1 r2
        go_wp2_with fail
        refine wp_region_held_drew (S := fun w' => Ext w9 w') (by kernel_rfl) (by (try dsimp only); (repeat (first | exact Ext.refl _ | assumption | refine Ext.alloc ?_ _ | refine Ext.drew ?_ | refine Ext.setCell ?_ (by first | (simp; done) | (simp; omega) | omega) _ | refine Ext.trans ?_ (by assumption)))) (fun hHeld => ?_)
        refine held_take 0 (v := ?_) rfl (by kernel_rfl) (by kernel_rfl) (by kernel_rfl) (fun _ _ _ h => h) (by assumption) (by rfl) ?_ ?_; rotate_left; (focus (intro w hSw; (try dsimp only at hSw); go_simp; (try with_reducible rfl))); try simp only [Act.put, List.setIfInBounds_toArray, List.set_cons_zero, List.set_cons_succ]
        refine held_take 1 (v := ?_) rfl (by kernel_rfl) (by kernel_rfl) (by kernel_rfl) (fun _ _ _ h => h) (by assumption) (by rfl) ?_ ?_; rotate_left; (focus (intro w hSw; (try dsimp only at hSw); go_simp; (try with_reducible rfl))); try simp only [Act.put, List.setIfInBounds_toArray, List.set_cons_zero, List.set_cons_succ]
        refine held_take 2 (v := ?_) rfl (by kernel_rfl) (by kernel_rfl) (by kernel_rfl) (fun _ _ _ h => h) (by assumption) (by rfl) ?_ ?_; rotate_left; (focus (intro w hSw; (try dsimp only at hSw); go_simp; (try with_reducible rfl))); try simp only [Act.put, List.setIfInBounds_toArray, List.set_cons_zero, List.set_cons_succ]
        refine held_take 3 (v := ?_) rfl (by kernel_rfl) (by kernel_rfl) (by kernel_rfl) (fun _ _ _ h => h) (by assumption) (by rfl) ?_ ?_; rotate_left; (focus (intro w hSw; (try dsimp only at hSw); go_simp; (try with_reducible rfl))); try simp only [Act.put, List.setIfInBounds_toArray, List.set_cons_zero, List.set_cons_succ]
        refine wpAnyH_done (by kernel_rfl) ?_ _
        go_wp2_with fail
        have hfin := hHeld
        exact bodyPost_ret (v := .tuple #[.int .i64 0, .int .i64 0]) (by simp [results, Tryd.results26, go_sem]) rfl ⟨by rw [HQ.out], (FIN.out (0, 0) _ hx9).trans hfin⟩
      | some q =>
        rw [hbad] at CW
        have HQ := Lib.hid (closedR_bad HM.out g1 g2 hbad)
        have CWH := Lib.hid CW
        have FIN := Lib.hid fin
        clear g1 g2 hbad CW fin
        go_wp2_with fail
        rw [← HW3.out]
        refine (CWH.out).mono ?_
        rintro e w9 ⟨rfl, ⟨_, r1, r2⟩, hx9⟩
        have k1 := r1.cell 0
        have k2 := r2.cell 0
        simp at k1 k2
        have m1 := fun W (h : Ext w9 W) => h.cell k1
        have m2 := fun W (h : Ext w9 W) => h.cell k2
        clear r1 r2
        go_wp2_with fail
        refine wp_region_held_drew (S := fun w' => Ext w9 w') (by kernel_rfl) (by (try dsimp only); (repeat (first | exact Ext.refl _ | assumption | refine Ext.alloc ?_ _ | refine Ext.drew ?_ | refine Ext.setCell ?_ (by first | (simp; done) | (simp; omega) | omega) _ | refine Ext.trans ?_ (by assumption)))) (fun hHeld => ?_)
        refine held_take 0 (v := ?_) rfl (by kernel_rfl) (by kernel_rfl) (by kernel_rfl) (fun _ _ _ h => h) (by assumption) (by rfl) ?_ ?_; rotate_left; (focus (intro w hSw; (try dsimp only at hSw); go_simp; (try with_reducible rfl))); try simp only [Act.put, List.setIfInBounds_toArray, List.set_cons_zero, List.set_cons_succ]
        refine held_take 1 (v := ?_) rfl (by kernel_rfl) (by kernel_rfl) (by kernel_rfl) (fun _ _ _ h => h) (by assumption) (by rfl) ?_ ?_; rotate_left; (focus (intro w hSw; (try dsimp only at hSw); go_simp; (try with_reducible rfl))); try simp only [Act.put, List.setIfInBounds_toArray, List.set_cons_zero, List.set_cons_succ]
        refine held_take 2 (v := ?_) rfl (by kernel_rfl) (by kernel_rfl) (by kernel_rfl) (fun _ _ _ h => h) (by assumption) (by rfl) ?_ ?_; rotate_left; (focus (intro w hSw; (try dsimp only at hSw); go_simp; (try with_reducible rfl))); try simp only [Act.put, List.setIfInBounds_toArray, List.set_cons_zero, List.set_cons_succ]
        refine held_take 3 (v := ?_) rfl (by kernel_rfl) (by kernel_rfl) (by kernel_rfl) (fun _ _ _ h => h) (by assumption) (by rfl) ?_ ?_; rotate_left; (focus (intro w hSw; (try dsimp only at hSw); go_simp; (try with_reducible rfl))); try simp only [Act.put, List.setIfInBounds_toArray, List.set_cons_zero, List.set_cons_succ]
        refine wpAnyH_done (by kernel_rfl) ?_ _
        go_wp2_with fail
        have hfin := hHeld
        exact bodyPost_ret (v := .tuple #[.int .i64 q, .int .i64 4]) (by simp [results, Tryd.results26, go_sem]) rfl ⟨by rw [HQ.out], (FIN.out (0, 0) _ hx9).trans hfin⟩
end Go.Proofs.YtmomahgedheekaaDoor
