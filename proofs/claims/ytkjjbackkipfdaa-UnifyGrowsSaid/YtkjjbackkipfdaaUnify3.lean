/- The walks of package unify: in, stand. -/
import Derived.Test.YtkjjbackkipfdaaUnify2
namespace Go.Proofs.Ytkjjbackkipfdaa
open Go Go.RowKit Go.Sort
variable {A : Nat → Prop}

theorem zeroBo : ∀ W : World, (zeroValue 4).run Try.prog W = .ok (.bool false) W := fun W => by kernel_rfl
theorem unmet_mono {M M' : List Int} (h : ∀ u, u ∈ M → u ∈ M') (n : Nat) : unmet M' n ≤ unmet M n := by
  induction n with
  | zero => exact Nat.le_refl _
  | succ n ih =>
    rw [unmet_succ, unmet_succ]
    by_cases h1 : (n : Int) ∈ M
    · rw [if_pos h1, if_pos (h _ h1)]; exact ih
    · rw [if_neg h1]
      split <;> omega
abbrev Met1 (w : World) (b n : Nat) (M : List Int) : Prop := MetAt Try.prog 3 w b n M
/-- What a search hands back. -/
def RetIn (S : St) (v : Int) (n qb : Nat) (M : List Int) (l : List Ty) (W : World) (e : Ending) (w' : World) : Prop :=
  ∃ r M', e = .returned (.bool r) ∧ Searched S v M l r M' ∧ Met1 w' qb n M' ∧ ExtX (· = qb) W w'
set_option maxRecDepth 8000 in
set_option maxHeartbeats 8000000 in
theorem book_in {w : World} {bb mb n : Nat} {S : St} (hB : BookAtA A w bb mb n S) (gS : Good n S) (v : Int) (qb : Nat) (hq : w.heap.size ≤ qb) (z : Nat) :
    ∀ (t : Ty) (M : List Int) (W : World) (a : Option Addr) (len cap : Nat), unmet M n ≤ z → Ext w W → Met1 W qb n M → Fit n t → IsTyA A w t (.agg #[.int .u8 t.kind, .int .i64 t.var, .slice a len cap]) →
    Calls Try.prog 52 #[.pointer (some ⟨bb, 0, none⟩), .int .i64 v, .agg #[.int .u8 t.kind, .int .i64 t.var, .slice a len cap], .map (some qb)] W (RetIn S v n qb M [t] W) := by
  induction z using Nat.strongRecOn with
  | _ z ihz =>
  intro t
  induction t using Ty.ind with
  | h k m l iht =>
  intro M W a len cap hz hW hM hf ht
  simp only [Ty.kind, Ty.var] at ht ⊢
  have HB := Lib.hid hB
  have HW := Lib.hid hW
  have hbb : bb < W.heap.size := Nat.lt_of_lt_of_le hB.blk.lt hW.size
  have hqb : qb < W.heap.size := hM.lt
  have hsm := hB.small
  obtain ⟨_, _, _, ev, g1, g2, -, -, e3, e4, hl⟩ := ht.open_
  injection ev with ev
  simp at ev
  obtain ⟨rfl, rfl, rfl⟩ := ev
  have HM := Lib.hid hM
  have B1 := Lib.hid (Blk.new W 25 #[.int .u8 k, .int .i64 m, .slice a len cap])
  have X1 : Hid (Ext W (W.alloc (.cells #[.int .u8 k, .int .i64 m, .slice a len cap] 25))) := Lib.hid ((Ext.refl _).alloc _)
  have hs1 : (W.alloc (.cells #[.int .u8 k, .int .i64 m, .slice a len cap] 25)).heap.size = W.heap.size + 1 := by simp
  obtain ⟨W1, hW1⟩ : ∃ W1, W1 = W.alloc (.cells #[.int .u8 k, .int .i64 m, .slice a len cap] 25) := ⟨_, rfl⟩
  rw [← hW1] at B1 X1 hs1
  have HW1 := Lib.hid hW1
  clear hW1
  obtain ⟨b0, b1, b2⟩ := B1.out.three
  have lb1 := B1.out.lt
  by_cases h5 : k = 5
  · subst h5
    obtain ⟨r0, r1⟩ := hf.range rfl
    have r0 : 0 ≤ m := r0
    have r1 : m < n := r1
    clear iht hl hM ht hf
    by_cases hmv : m = v
    · have hb : (m == v) = true := by simpa using hmv
      have HS : Hid (Searched S v M [.mk 5 m l] true M) := Lib.hid (by rw [hmv]; exact Searched.here M l)
      clear hmv ihz hW hB
      go_enter Try.func52, Try.ntmps52
      go_upto_region 1 with fail
      rw [← HW1.out]
      go_wp2_with fail
      go_ret
      exact ⟨true, M, rfl, HS.out, HM.out.ext X1.out, ExtX.of X1.out⟩
    · have hb : (m == v) = false := by simpa using hmv
      have HV := Lib.hid hmv
      have c1 := (hB.ext (hW.trans X1.out)).c1
      have d1 := fun W' (h : Ext W1 W') => h.cell c1
      have p0 := fun W' (h : Ext W1 W') => h.cell b0
      have p1 := fun W' (h : Ext W1 W') => h.cell b1
      clear hmv c1
      cases hS : S m with
      | none =>
        have hl0 := hB.none_ ⟨e3, e4⟩ hS
        have hl := fun W' (h : Ext W1 W') => hl0 W' ((hW.trans X1.out).trans h)
        have HS : Hid (Searched S v M [.mk 5 m l] false M) := Lib.hid (Searched.stop l HV.out (.inl hS))
        clear hl0 hS ihz hW hB
        go_enter Try.func52, Try.ntmps52
        go_upto_region 1 with fail
        rw [← HW1.out]
        go_upto_region 4 with fail
        clear b0 b1 b2
        refine wp_region_held_drew (S := fun w' => Ext W1 w') (by kernel_rfl) (by (try dsimp only); (exact eX)) (fun hHeld => ?_)
        refine tK 0 (v := ?_) ?_ ?_;rotate_left;(focus (intro w hSw;(try dsimp only at hSw);go_simp;(try with_reducible rfl)));try simp only [Act.put,pA,pB,pC]
        refine tK 1 (v := ?_) ?_ ?_;rotate_left;(focus (intro w hSw;(try dsimp only at hSw);go_simp;(try with_reducible rfl)));try simp only [Act.put,pA,pB,pC]
        refine tK 2 (v := ?_) ?_ ?_;rotate_left;(focus (intro w hSw;(try dsimp only at hSw);go_simp;(try with_reducible rfl)));try simp only [Act.put,pA,pB,pC]
        refine tK 3 (v := ?_) ?_ ?_;rotate_left;(focus (intro w hSw;(try dsimp only at hSw);go_simp;(try with_reducible rfl)));try simp only [Act.put,pA,pB,pC]
        refine tK 4 (v := ?_) ?_ ?_;rotate_left;(focus (intro w hSw;(try dsimp only at hSw);go_simp;(try with_reducible rfl)));try simp only [Act.put,pA,pB,pC]
        refine tK 5 (v := ?_) ?_ ?_;rotate_left;(focus (intro w hSw;(try dsimp only at hSw);go_simp;(try with_reducible rfl)));try simp only [Act.put,pA,pB,pC]
        refine tK 6 (v := ?_) ?_ ?_;rotate_left;(focus (intro w hSw;(try dsimp only at hSw);go_simp;(try with_reducible rfl)));try simp only [Act.put,pA,pB,pC]
        refine tK 7 (v := ?_) ?_ ?_;rotate_left;(focus (intro w hSw;(try dsimp only at hSw);go_simp;(try with_reducible rfl)));try simp only [Act.put,pA,pB,pC]
        refine tK 8 (v := ?_) ?_ ?_;rotate_left;(focus (intro w hSw;(try dsimp only at hSw);go_simp;(try with_reducible rfl)));try simp only [Act.put,pA,pB,pC]
        refine tK 9 (v := ?_) ?_ ?_;rotate_left;(focus (intro w hSw;(try dsimp only at hSw);go_simp;(try with_reducible rfl)));try simp only [Act.put,pA,pB,pC]
        refine held_do 10 rfl (by kernel_rfl) (by rfl) (fun K hK => ?_); go_simp; refine hK.out _ _ (by (try dsimp only); (exact eX)) (fun hHeld => ?_); clear hK K; try simp only [Act.put,pA,pB,pC]
        refine held_do 11 rfl (by kernel_rfl) (by rfl) (fun K hK => ?_); go_simp; refine hK.out _ _ (by (try dsimp only); (exact eX)) (fun hHeld => ?_); clear hK K; try simp only [Act.put,pA,pB,pC]
        refine tK 12 (v := ?_) ?_ ?_;rotate_left;(focus (intro w hSw;(try dsimp only at hSw);go_simp;(try with_reducible rfl)));try simp only [Act.put,pA,pB,pC]
        refine wpAnyH_done (by kernel_rfl) ?_ _
        obtain ⟨W3, hW3⟩ : ∃ W3, W3 = (W1.alloc (.cells #[.int .u8 0, .int .i64 0, .slice none 0 0] 25)).drew := ⟨_, rfl⟩
        rw [← hW3]
        have xW : Ext W1 W3 := by rw [hW3]; exact ((Ext.refl _).alloc _).drew
        clear hW3 hHeld d1 p0 p1 hl
        go_wp2_with fail
        go_ret
        exact ⟨false, M, rfl, HS.out, HM.out.ext (X1.out.trans xW), ExtX.of (X1.out.trans xW)⟩
      | some x =>
        obtain ⟨xa, xl, xc, hxt, hl0⟩ := hB.some_ ⟨e3, e4⟩ hS
        have hl := fun W' (h : Ext W1 W') => hl0 W' ((hW.trans X1.out).trans h)
        have hfx := (gS.fit _ _ hS).2.2
        have HSM := Lib.hid hS
        by_cases hmm : m ∈ M
        · have HS : Hid (Searched S v M [.mk 5 m l] false M) := Lib.hid (Searched.stop l HV.out (.inr hmm))
          have hmet0 := HM.out.look (T := 79) Try.underlying3 Try.underlying79 zeroBo ⟨e3, e4⟩
          rw [decide_eq_true hmm] at hmet0
          have HMET := Lib.hid hmet0
          clear hl0 hS ihz hW hB hmm hmet0 hfx hxt
          go_enter Try.func52, Try.ntmps52
          go_upto_region 1 with fail
          rw [← HW1.out]
          go_upto_region 4 with fail
          clear b0 b1 b2
          refine wp_region_held_drew (S := fun w' => Ext W1 w') (by kernel_rfl) (by (try dsimp only); (exact eX)) (fun hHeld => ?_)
          refine tK 0 (v := ?_) ?_ ?_;rotate_left;(focus (intro w hSw;(try dsimp only at hSw);go_simp;(try with_reducible rfl)));try simp only [Act.put,pA,pB,pC]
          refine tK 1 (v := ?_) ?_ ?_;rotate_left;(focus (intro w hSw;(try dsimp only at hSw);go_simp;(try with_reducible rfl)));try simp only [Act.put,pA,pB,pC]
          refine tK 2 (v := ?_) ?_ ?_;rotate_left;(focus (intro w hSw;(try dsimp only at hSw);go_simp;(try with_reducible rfl)));try simp only [Act.put,pA,pB,pC]
          refine tK 3 (v := ?_) ?_ ?_;rotate_left;(focus (intro w hSw;(try dsimp only at hSw);go_simp;(try with_reducible rfl)));try simp only [Act.put,pA,pB,pC]
          refine tK 4 (v := ?_) ?_ ?_;rotate_left;(focus (intro w hSw;(try dsimp only at hSw);go_simp;(try with_reducible rfl)));try simp only [Act.put,pA,pB,pC]
          refine tK 5 (v := ?_) ?_ ?_;rotate_left;(focus (intro w hSw;(try dsimp only at hSw);go_simp;(try with_reducible rfl)));try simp only [Act.put,pA,pB,pC]
          refine tK 6 (v := ?_) ?_ ?_;rotate_left;(focus (intro w hSw;(try dsimp only at hSw);go_simp;(try with_reducible rfl)));try simp only [Act.put,pA,pB,pC]
          refine tK 7 (v := ?_) ?_ ?_;rotate_left;(focus (intro w hSw;(try dsimp only at hSw);go_simp;(try with_reducible rfl)));try simp only [Act.put,pA,pB,pC]
          refine tK 8 (v := ?_) ?_ ?_;rotate_left;(focus (intro w hSw;(try dsimp only at hSw);go_simp;(try with_reducible rfl)));try simp only [Act.put,pA,pB,pC]
          refine tK 9 (v := ?_) ?_ ?_;rotate_left;(focus (intro w hSw;(try dsimp only at hSw);go_simp;(try with_reducible rfl)));try simp only [Act.put,pA,pB,pC]
          refine held_do 10 rfl (by kernel_rfl) (by rfl) (fun K hK => ?_); go_simp; refine hK.out _ _ (by (try dsimp only); (exact eX)) (fun hHeld => ?_); clear hK K; try simp only [Act.put,pA,pB,pC]
          refine held_do 11 rfl (by kernel_rfl) (by rfl) (fun K hK => ?_); go_simp; refine hK.out _ _ (by (try dsimp only); (exact eX)) (fun hHeld => ?_); clear hK K; try simp only [Act.put,pA,pB,pC]
          refine tK 12 (v := ?_) ?_ ?_;rotate_left;(focus (intro w hSw;(try dsimp only at hSw);go_simp;(try with_reducible rfl)));try simp only [Act.put,pA,pB,pC]
          refine wpAnyH_done (by kernel_rfl) ?_ _
          obtain ⟨W3, hW3⟩ : ∃ W3, W3 = (W1.alloc (.cells #[.int .u8 x.kind, .int .i64 x.var, .slice xa xl xc] 25)).drew := ⟨_, rfl⟩
          rw [← hW3]
          have xW : Ext W1 W3 := by rw [hW3]; exact ((Ext.refl _).alloc _).drew
          have hmet := HMET.out W3 (X1.out.trans xW)
          have q1 := p1 W3 xW
          clear hW3 hHeld d1 p0 p1 hl
          go_wp2_with fail
          go_ret
          exact ⟨false, M, rfl, HS.out, HM.out.ext (X1.out.trans xW), ExtX.of (X1.out.trans xW)⟩
        · have hmet0 := HM.out.look (T := 79) Try.underlying3 Try.underlying79 zeroBo ⟨e3, e4⟩
          rw [decide_eq_false hmm] at hmet0
          have HMET := Lib.hid hmet0
          have hu := unmet_put (M := M) r0 r1 hmm
          have KI := Lib.hid fun W' (h : Ext w W') (hM' : Met1 W' qb n (m :: M)) => ihz (unmet (m :: M) n) (by omega) x (m :: M) W' xa xl xc (Nat.le_refl _) h hM' hfx hxt
          have HST := Lib.hid fun r M' (h : Searched S v (m :: M) [x] r M') => Searched.step (l := l) HV.out HSM.out h
          have HMM := Lib.hid hmm
          clear hl0 hS ihz hW hB hmm hmet0 hfx hxt hu
          go_enter Try.func52, Try.ntmps52
          go_upto_region 1 with fail
          rw [← HW1.out]
          go_upto_region 4 with fail
          clear b0 b1 b2
          refine wp_region_held_drew (S := fun w' => Ext W1 w') (by kernel_rfl) (by (try dsimp only); (exact eX)) (fun hHeld => ?_)
          refine tK 0 (v := ?_) ?_ ?_;rotate_left;(focus (intro w hSw;(try dsimp only at hSw);go_simp;(try with_reducible rfl)));try simp only [Act.put,pA,pB,pC]
          refine tK 1 (v := ?_) ?_ ?_;rotate_left;(focus (intro w hSw;(try dsimp only at hSw);go_simp;(try with_reducible rfl)));try simp only [Act.put,pA,pB,pC]
          refine tK 2 (v := ?_) ?_ ?_;rotate_left;(focus (intro w hSw;(try dsimp only at hSw);go_simp;(try with_reducible rfl)));try simp only [Act.put,pA,pB,pC]
          refine tK 3 (v := ?_) ?_ ?_;rotate_left;(focus (intro w hSw;(try dsimp only at hSw);go_simp;(try with_reducible rfl)));try simp only [Act.put,pA,pB,pC]
          refine tK 4 (v := ?_) ?_ ?_;rotate_left;(focus (intro w hSw;(try dsimp only at hSw);go_simp;(try with_reducible rfl)));try simp only [Act.put,pA,pB,pC]
          refine tK 5 (v := ?_) ?_ ?_;rotate_left;(focus (intro w hSw;(try dsimp only at hSw);go_simp;(try with_reducible rfl)));try simp only [Act.put,pA,pB,pC]
          refine tK 6 (v := ?_) ?_ ?_;rotate_left;(focus (intro w hSw;(try dsimp only at hSw);go_simp;(try with_reducible rfl)));try simp only [Act.put,pA,pB,pC]
          refine tK 7 (v := ?_) ?_ ?_;rotate_left;(focus (intro w hSw;(try dsimp only at hSw);go_simp;(try with_reducible rfl)));try simp only [Act.put,pA,pB,pC]
          refine tK 8 (v := ?_) ?_ ?_;rotate_left;(focus (intro w hSw;(try dsimp only at hSw);go_simp;(try with_reducible rfl)));try simp only [Act.put,pA,pB,pC]
          refine tK 9 (v := ?_) ?_ ?_;rotate_left;(focus (intro w hSw;(try dsimp only at hSw);go_simp;(try with_reducible rfl)));try simp only [Act.put,pA,pB,pC]
          refine held_do 10 rfl (by kernel_rfl) (by rfl) (fun K hK => ?_); go_simp; refine hK.out _ _ (by (try dsimp only); (exact eX)) (fun hHeld => ?_); clear hK K; try simp only [Act.put,pA,pB,pC]
          refine held_do 11 rfl (by kernel_rfl) (by rfl) (fun K hK => ?_); go_simp; refine hK.out _ _ (by (try dsimp only); (exact eX)) (fun hHeld => ?_); clear hK K; try simp only [Act.put,pA,pB,pC]
          refine tK 12 (v := ?_) ?_ ?_;rotate_left;(focus (intro w hSw;(try dsimp only at hSw);go_simp;(try with_reducible rfl)));try simp only [Act.put,pA,pB,pC]
          refine wpAnyH_done (by kernel_rfl) ?_ _
          obtain ⟨W3, hW3⟩ : ∃ W3, W3 = (W1.alloc (.cells #[.int .u8 x.kind, .int .i64 x.var, .slice xa xl xc] 25)).drew := ⟨_, rfl⟩
          rw [← hW3]
          have xW : Ext W1 W3 := by rw [hW3]; exact ((Ext.refl _).alloc _).drew
          have hmet := HMET.out W3 (X1.out.trans xW)
          have q1 := p1 W3 xW
          have N3 := Lib.hid (show Blk W3 W1.heap.size 25 #[.int .u8 x.kind, .int .i64 x.var, .slice xa xl xc] from by rw [hW3]; exact (Blk.new W1 _ _).drew)
          rw [hs1] at N3
          have M3 := Lib.hid (HM.out.ext (X1.out.trans xW))
          have X3 := Lib.hid (X1.out.trans xW)
          clear hW3 hHeld d1 p0 p1 hl xW
          go_upto_region 8 with (at_mapUpdate; refine wpList_met _ rfl (.tmp 38) (.tmp 40) (.const (.bool true)) 79 rfl 3 4 Try.underlying3 Try.underlying79 qb n M rfl M3.out hsm m rfl rfl r0 r1 HMM.out ?_; intro w4 hM4 x4)
          obtain ⟨n0, n1, n2⟩ := (show Blk w4 (W.heap.size + 1) 25 #[.int .u8 x.kind, .int .i64 x.var, .slice xa xl xc] from (x4.block _ N3.out.lt (by omega)).trans N3.out).three
          have X4 : Ext w w4 := ExtX.ext (HW.out.trans X3.out) x4 (fun b e => by have e : b = qb := e; omega)
          have KI := Lib.hid (KI.out w4 X4 hM4)
          have Y4 := Lib.hid ((ExtX.of (A := (· = qb)) X3.out).trans x4)
          clear hM4 x4 X4 q1 hmet
          go_wp2_with (go_at_call 52; refine (KI.out).mono ?_; rintro e w5 ⟨r, M', rfl, hS5, hM5, x5⟩)
          go_ret
          exact ⟨r, M', rfl, HST.out r M' hS5, hM5, Y4.out.trans x5⟩
  · have h5b : (k == 5) = false := by simpa using h5
    have HF : Hid (∀ t, t ∈ l → Fit n t) := Lib.hid fun t ht => hf.kid (t := .mk k m l) h5 ht
    have HLEN := Lib.hid hl.length
    have HL := Lib.hid hl
    have IHT := Lib.hid iht
    have HND : Hid (∀ r M', Searched S v M l r M' → Searched S v M [.mk k m l] r M') := Lib.hid fun r M' h => Searched.node h5 h
    clear ihz iht hB ht hf hW hl h5 hM
    go_enter Try.func52, Try.ntmps52
    go_upto_region 1 with fail
    rw [← HW1.out]
    go_wp2_with fail
    go_loopg [49] len (fun g i wr => ∃ (j : Nat) (M1 : List Int), g = len - j ∧ i = .int .i64 j ∧ j ≤ len ∧ Searched S v M (l.take j) false M1 ∧ Met1 wr qb n M1 ∧ ExtX (· = qb) W wr)
    case atStart => exact ⟨0, M, by omega, rfl, by omega, by simpa using Searched.nil S v M, HM.out.ext X1.out, ExtX.of X1.out⟩
    case round =>
      obtain ⟨j, M1, rfl, rfl, hj, hS1, hM1, hx1⟩ := hrel
      have HS1 := Lib.hid hS1
      have HM1 := Lib.hid hM1
      have HX1 := Lib.hid hx1
      have hwx : Ext w wr := ExtX.ext HW.out hx1 (fun b e => by have e : b = qb := e; omega)
      have HWX := Lib.hid hwx
      by_cases hlt : j < len
      · obtain ⟨u, b, o, c0, c1, c2, g, rfl, q0, q1, q2, qt⟩ := HL.out.at3 (Ext.refl w) hlt
        have q0 := hwx.cell q0
        have q1 := hwx.cell q1
        have q2 := hwx.cell q2
        have hz1 := unmet_mono hS1.sub n
        obtain ⟨k', m', l'⟩ := u
        obtain ⟨a', len', cap', e, -, -, -, -, -, -, -⟩ := qt.open_
        simp at e
        obtain ⟨rfl, rfl, rfl⟩ := e
        have HG := Lib.hid g
        have KI := Lib.hid fun W' (h : Ext w W') (hM' : Met1 W' qb n M1) => IHT.out _ (List.mem_of_getElem? g) M1 W' a' len' cap' (by omega) h hM' (HF.out _ (List.mem_of_getElem? g)) qt
        have KI := Lib.hid (KI.out (wr.alloc (.cells #[.int .u8 k', .int .i64 m', .slice a' len' cap'] 25)) (hwx.alloc _) (hM1.ext ((Ext.refl _).alloc _)))
        simp only [Ty.kind, Ty.var] at KI
        clear hS1 hM1 hx1 hwx g qt hz1
        go_wp2_with fail
        refine (KI.out).mono ?_
        rintro e w5 ⟨r, M', rfl, hS5, hM5, x5⟩
        have X5 := Lib.hid (HX1.out.trans ((ExtX.of ((Ext.refl wr).alloc (.cells #[.int .u8 k', .int .i64 m', .slice a' len' cap'] 25))).trans x5))
        have HS5 := Lib.hid (HS1.out.more hS5)
        have HM5 := Lib.hid hM5
        have HT5 : Hid (l.take (j + 1) = l.take j ++ [.mk k' m' l']) := Lib.hid (by rw [List.take_add_one, HG.out]; rfl)
        clear hS5 hM5 x5
        cases r with
        | true =>
          have HE : Hid (Searched S v M l true M') := Lib.hid (by
            have h := HS5.out
            rw [← HT5.out] at h
            have := h.early (m := l.drop (j + 1))
            rwa [List.take_append_drop] at this)
          go_wp2_with fail
          go_ret
          exact ⟨true, M', rfl, HND.out _ _ HE.out, HM5.out, X5.out⟩
        | false =>
          go_wp2_with fail
          go_roundg (len - (j + 1))
          case rel => exact ⟨j + 1, M', rfl, by go_num, by omega, by rw [HT5.out]; exact HS5.out, HM5.out, X5.out⟩
          case measure => omega
      · obtain rfl : j = len := by omega
        have e1 : l.take j = l := List.take_of_length_le (by rw [← HLEN.out]; exact Nat.le_refl _)
        rw [e1] at hS1
        have HS1 := Lib.hid hS1
        clear hS1 hM1 hx1 hwx e1
        go_wp2_with fail
        go_ret
        exact ⟨false, M1, rfl, HND.out _ _ HS1.out, HM1.out, HX1.out⟩
set_option maxRecDepth 8000 in
set_option maxHeartbeats 4000000 in
theorem book_stand {w : World} {bb mb n : Nat} {S : St} (hB : BookAtA A w bb mb n S) (gS : Good n S) (v : Int) (hv : 0 ≤ v ∧ v < n) (t : Ty) (hf : Fit n t) (W : World) (hW : Ext w W) (a : Option Addr) (len cap : Nat) (ht : IsTyA A w t (.agg #[.int .u8 t.kind, .int .i64 t.var, .slice a len cap])) :
    Calls Try.prog 47 #[.pointer (some ⟨bb, 0, none⟩), .int .i64 v, .agg #[.int .u8 t.kind, .int .i64 t.var, .slice a len cap]] W fun e w' => e = .returned (.bool (standW S v t).2) ∧ BookAtA A w' bb mb n (standW S v t).1 ∧ ExtX (· = mb) W w' := by
  have hBW := hB.ext hW
  have KI := Lib.hid fun (W' : World) (qb : Nat) (h : Ext w W') (hq : w.heap.size ≤ qb) (hM : Met1 W' qb n []) => book_in hB gS v qb hq (unmet [] n) t [] W' a len cap (Nat.le_refl _) h hM hf ht
  have HB := Lib.hid hBW
  have HW := Lib.hid hW
  have HTY := Lib.hid ht
  have hbb := hBW.blk.lt
  have hmb := hBW.map.lt
  have hsm := hB.small
  have HTELL : Hid (∀ r M', Searched S v [] [t] r M' → standW S v t = if r then (S, false) else (S.put v t, true)) := Lib.hid fun r M' h => by
    have := h.tells
    unfold standW
    by_cases hi : In S v t
    · rw [if_pos hi, if_pos (this.2 hi)]
    · rw [if_neg hi, if_neg (fun e => hi (this.1 e))]
  generalize standW S v t = sv at *
  clear hB gS ht hBW hW
  have hmm := @run_makeMap Try.prog
  go_enter Try.func47, Try.ntmps47
  go_upto_region 1 with fail
  have B1 := Lib.hid (Blk.new W 25 #[.int .u8 t.kind, .int .i64 t.var, .slice a len cap])
  have X1 : Hid (Ext W (W.alloc (.cells #[.int .u8 t.kind, .int .i64 t.var, .slice a len cap] 25))) := Lib.hid ((Ext.refl _).alloc _)
  have hs1 : (W.alloc (.cells #[.int .u8 t.kind, .int .i64 t.var, .slice a len cap] 25)).heap.size = W.heap.size + 1 := by simp
  generalize W.alloc (.cells #[.int .u8 t.kind, .int .i64 t.var, .slice a len cap] 25) = W1 at *
  obtain ⟨b0, b1, b2⟩ := B1.out.three
  have HMD : Hid (Met1 (W1.alloc (.map #[] 0)) (W.heap.size + 1) n []) := Lib.hid (by have h := MetAt.made W1 Try.prog 3 n; rw [hs1] at h; exact h)
  go_wp2_with fail
  refine (KI.out _ _ ((HW.out.trans X1.out).alloc _) (by have := HW.out.size; omega) HMD.out).mono ?_
  rintro e w5 ⟨r, M', rfl, hS5, -, x5⟩
  have htl := HTELL.out r M' hS5
  have hX5 : Ext W1 w5 := ExtX.ext ((Ext.refl W1).alloc _) x5 (fun b e => by have e : b = W.heap.size + 1 := e; omega)
  have X5 := Lib.hid (X1.out.trans hX5)
  have B5 := Lib.hid (B1.out.ext hX5)
  clear hS5 x5 hX5 b0 b1 b2
  cases r with
  | true =>
    have HS : Hid (sv = (S, false)) := Lib.hid (by simpa using htl)
    clear htl
    go_wp2_with fail
    go_ret
    exact ⟨by rw [HS.out]; rfl, by rw [HS.out]; exact HB.out.ext X5.out, ExtX.of X5.out⟩
  | false =>
    have HS : Hid (sv = (S.put v t, true)) := Lib.hid (by simpa using htl)
    clear htl
    have hb5 := HB.out.ext X5.out
    have hne := hb5.ne
    obtain ⟨b0, b1, b2⟩ := B5.out.three
    have c1 := hb5.c1
    have lb5 := B5.out.lt
    have d1 := fun W' (h : ExtX (fun b => b = mb) w5 W') => h.cell (show ¬ bb = mb from hne) c1
    have p0 := fun W' (h : ExtX (fun b => b = mb) w5 W') => h.cell (show ¬ W.heap.size = mb by omega) b0
    have p1 := fun W' (h : ExtX (fun b => b = mb) w5 W') => h.cell (show ¬ W.heap.size = mb by omega) b1
    have p2 := fun W' (h : ExtX (fun b => b = mb) w5 W') => h.cell (show ¬ W.heap.size = mb by omega) b2
    have HB5 := Lib.hid hb5
    have hv0 := hv.1
    have hv1 := hv.2
    clear b0 b1 b2 c1 hb5
    go_upto_region 3 with fail
    refine wp_region_held_drew (S := fun w' => ExtX (fun b => b = mb) w5 w') (by kernel_rfl) (by (try dsimp only); (exact xX)) (fun hHeld => ?_)
    refine tK 0 (v := ?_) ?_ ?_;rotate_left;(focus (intro w hSw;(try dsimp only at hSw);go_simp;(try with_reducible rfl)));try simp only [Act.put,pA,pB,pC]
    refine tK 1 (v := ?_) ?_ ?_;rotate_left;(focus (intro w hSw;(try dsimp only at hSw);go_simp;(try with_reducible rfl)));try simp only [Act.put,pA,pB,pC]
    refine tK 2 (v := ?_) ?_ ?_;rotate_left;(focus (intro w hSw;(try dsimp only at hSw);go_simp;(try with_reducible rfl)));try simp only [Act.put,pA,pB,pC]
    refine tK 3 (v := ?_) ?_ ?_;rotate_left;(focus (intro w hSw;(try dsimp only at hSw);go_simp;(try with_reducible rfl)));try simp only [Act.put,pA,pB,pC]
    refine tK 4 (v := ?_) ?_ ?_;rotate_left;(focus (intro w hSw;(try dsimp only at hSw);go_simp;(try with_reducible rfl)));try simp only [Act.put,pA,pB,pC]
    refine tK 5 (v := ?_) ?_ ?_;rotate_left;(focus (intro w hSw;(try dsimp only at hSw);go_simp;(try with_reducible rfl)));try simp only [Act.put,pA,pB,pC]
    refine held_do 6 rfl (by kernel_rfl) (by rfl) (fun K hK => ?_); (first | (refine wp_book (.tmp 15) (.tmp 16) (.tmp 17) 56 rfl 3 25 Try.underlying3 Try.underlying56 mb n S rfl (HB5.out.map.ext ((Ext.refl w5).drew)) hsm v _ t rfl rfl hv0 hv1 (HTY.out.ext ((HW.out.trans X5.out).drew)) ?_; intro w9 hM9 x9; have y9 := ExtX.trans (ExtX.drew (ExtX.refl w5) : ExtX (fun b => b = mb) w5 w5.drew) x9)); refine hK.out _ _ (by (try dsimp only); (exact xX)) (fun hHeld => ?_); clear hK K; try simp only [Act.put,pA,pB,pC]
    refine wpAnyH_done (by kernel_rfl) ?_ _
    have HM9 := Lib.hid hM9
    have Y9 := Lib.hid y9
    clear hM9 y9 x9 hHeld
    go_wp2_with fail
    go_ret
    exact ⟨by rw [HS.out]; rfl, by rw [HS.out]; exact HB5.out.turn Y9.out HM9.out, (ExtX.of X5.out).trans Y9.out⟩
end Go.Proofs.Ytkjjbackkipfdaa
