/- The walks of package unify: New, Fresh, root, head. -/
import Derived.Test.YtkjjbackkipfdaaUnify1
namespace Go.Proofs.Ytkjjbackkipfdaa
open Go Go.RowKit Go.Sort
variable {A : Nat → Prop}

theorem zeroTy : ∀ W : World, (zeroValue 25).run Try.prog W = .ok (.agg #[.int .u8 0, .int .i64 0, .slice none 0 0]) W := fun W => by kernel_rfl
theorem BookAtA.none_ {w : World} {bb mb n : Nat} {S : St} (h : BookAtA A w bb mb n S) {x : Int} (hx : -9223372036854775808 ≤ x ∧ x ≤ 9223372036854775807) (hS : S x = none) : ∀ W, Ext w W → (Instr.lookup 56 (.map (some mb)) (.int .i64 x) true).run Try.prog W = .ok (.tuple #[.agg #[.int .u8 0, .int .i64 0, .slice none 0 0], .bool false]) W :=
  h.map.look_none Try.underlying3 Try.underlying56 zeroTy hx hS
theorem BookAtA.some_ {w : World} {bb mb n : Nat} {S : St} (h : BookAtA A w bb mb n S) {x : Int} (hx : -9223372036854775808 ≤ x ∧ x ≤ 9223372036854775807) {t : Ty} (hS : S x = some t) : ∃ a len cap, IsTyA A w t (.agg #[.int .u8 t.kind, .int .i64 t.var, .slice a len cap]) ∧ ∀ W, Ext w W → (Instr.lookup 56 (.map (some mb)) (.int .i64 x) true).run Try.prog W = .ok (.tuple #[.agg #[.int .u8 t.kind, .int .i64 t.var, .slice a len cap], .bool true]) W := by
  obtain ⟨v, h1, h2⟩ := h.map.look_some Try.underlying3 Try.underlying56 zeroTy hx hS
  obtain ⟨k, m, l⟩ := t
  obtain ⟨a, len, cap, rfl, -⟩ := h1.open_
  exact ⟨a, len, cap, h1, h2⟩
/-- A type's box. -/
def BoxT (w : World) (b : Nat) (t : Ty) (a : Option Addr) (len cap : Nat) : Prop := Blk w b 25 #[.int .u8 t.kind, .int .i64 t.var, .slice a len cap]
theorem Blk.three {w : World} {g : Nat} {t : TypeId} {c0 c1 c2 : Value} (h : Blk w g t #[c0, c1, c2]) : w.cell? ⟨g, 0, none⟩ = some c0 ∧ w.cell? ⟨g, 1, none⟩ = some c1 ∧ w.cell? ⟨g, 2, none⟩ = some c2 :=
  ⟨by simpa using h.cell 0, by simpa using h.cell 1, by simpa using h.cell 2⟩
theorem Blk.lay3 {w : World} {g : Nat} {t : TypeId} {c0 c1 c2 u0 u1 u2 : Value} (h : Blk w g t #[c0, c1, c2]) : Blk (((w.setCell ⟨g, 0, none⟩ u0).setCell ⟨g, 1, none⟩ u1).setCell ⟨g, 2, none⟩ u2) g t #[u0, u1, u2] := by
  have h0 := h.set_ 0 u0
  simp only [List.setIfInBounds_toArray, List.set_cons_zero] at h0
  have h1 := h0.set_ 1 u1
  simp only [List.setIfInBounds_toArray, List.set_cons_zero, List.set_cons_succ] at h1
  have h2 := h1.set_ 2 u2
  simp only [List.setIfInBounds_toArray, List.set_cons_zero, List.set_cons_succ] at h2
  exact h2
theorem Blk.far3 {w : World} {b g : Nat} {t : TypeId} {cs : Array Value} {u0 u1 u2 : Value} (h : Blk w b t cs) (hne : b ≠ g) : Blk (((w.setCell ⟨g, 0, none⟩ u0).setCell ⟨g, 1, none⟩ u1).setCell ⟨g, 2, none⟩ u2) b t cs := ((h.far (p := ⟨g, 0, none⟩) hne u0).far (p := ⟨g, 1, none⟩) hne u1).far (p := ⟨g, 2, none⟩) hne u2
theorem Ext.lay3 {a w : World} {g : Nat} {u0 u1 u2 : Value} (h : Ext a w) (hg : a.heap.size ≤ g) : Ext a (((w.setCell ⟨g, 0, none⟩ u0).setCell ⟨g, 1, none⟩ u1).setCell ⟨g, 2, none⟩ u2) := ((h.setCell (p := ⟨g, 0, none⟩) hg u0).setCell (p := ⟨g, 1, none⟩) hg u1).setCell (p := ⟨g, 2, none⟩) hg u2
theorem IsTyA.eta {A : Nat → Prop} {w : World} {t : Ty} {v : Value} (h : IsTyA A w t v) : ∃ a len cap, v = .agg #[.int .u8 t.kind, .int .i64 t.var, .slice a len cap] ∧ len ≤ cap ∧ cap ≤ 9223372036854775807 ∧ 0 ≤ t.kind ∧ t.kind ≤ 255 ∧ -9223372036854775808 ≤ t.var ∧ t.var ≤ 9223372036854775807 ∧ IsTysA A w t.kids a len := by
  obtain ⟨k, m, l⟩ := t
  exact h.open_
theorem rootD_other {S : St} {t : Ty} (h : t.kind ≠ 5) : rootD S t = t := rootD_eq (.other h)
theorem rootD_free {S : St} {t : Ty} (h : t.kind = 5) (e : S t.var = none) : rootD S t = t := rootD_eq (.free h e)
theorem rootD_head {S : St} {t x : Ty} (h : t.kind = 5) (e : S t.var = some x) (hx : x.kind ≠ 5) : rootD S t = t := rootD_eq (.head h e hx)
theorem rootD_step {S : St} (ha : Acy S) {t x : Ty} (h : t.kind = 5) (e : S t.var = some x) (hx : x.kind = 5) : rootD S t = rootD S x := rootD_eq (.step h e hx (rootD_root ha x))
/-- What hands back a type that lies in memory already, and turns nothing. -/
def RetT (A : Nat → Prop) (w W : World) (t : Ty) (e : Ending) (w' : World) : Prop := ∃ a len cap, e = .returned (.agg #[.int .u8 t.kind, .int .i64 t.var, .slice a len cap]) ∧ IsTyA A w t (.agg #[.int .u8 t.kind, .int .i64 t.var, .slice a len cap]) ∧ Ext W w'
set_option maxRecDepth 8000 in
set_option maxHeartbeats 4000000 in
theorem book_root {w : World} {bb mb n : Nat} {S : St} (hB : BookAtA A w bb mb n S) (ha : Acy S) (W : World) (hW : Ext w W) (t : Ty) (a : Option Addr) (len cap : Nat) (ht : IsTyA A w t (.agg #[.int .u8 t.kind, .int .i64 t.var, .slice a len cap])) :
    Calls Try.prog 44 #[.pointer (some ⟨bb, 0, none⟩), .agg #[.int .u8 t.kind, .int .i64 t.var, .slice a len cap]] W (RetT A w W (rootD S t)) := by
  obtain ⟨rk, hrk⟩ := id ha
  have HRK := Lib.hid hrk
  have HB := Lib.hid hB
  have HT := Lib.hid ht
  have HA := Lib.hid ha
  have hbb : bb < W.heap.size := Nat.lt_of_lt_of_le hB.blk.lt hW.size
  have HW := Lib.hid hW
  clear hB ha ht hrk hW
  go_enter Try.func44, Try.ntmps44
  go_wp2_with fail
  go_loopg [] (if t.kind = 5 then rk t.var + 1 else 0) (fun g wr => ∃ (u : Ty) (ua : Option Addr) (ul uc : Nat), g = (if u.kind = 5 then rk u.var + 1 else 0) ∧ IsTyA A w u (.agg #[.int .u8 u.kind, .int .i64 u.var, .slice ua ul uc]) ∧ BoxT wr W.heap.size u ua ul uc ∧ Blk wr (W.heap.size + 1) 25 #[.int .u8 0, .int .i64 0, .slice none 0 0] ∧ rootD S u = rootD S t ∧ Ext W wr)
  case atStart =>
    exact ⟨t, a, len, cap, rfl, HT.out, (Blk.new W _ _).alloc _, by have h := Blk.new (W.alloc (.cells #[.int .u8 t.kind, .int .i64 t.var, .slice a len cap] 25)) 25 #[.int .u8 0, .int .i64 0, .slice none 0 0]; rw [World.size_alloc] at h; exact h, rfl, ((Ext.refl _).alloc _).alloc _⟩
  case round =>
    obtain ⟨⟨k, m, l⟩, ua, ul, uc, rfl, hu, hb, hz, hr, hx⟩ := hrel
    simp only [Ty.kind, Ty.var] at hu
    obtain ⟨-, -, -, -, -, -, -, -, e3, e4, -⟩ := hu.open_
    have HU := Lib.hid hu
    have hb : Blk wr W.heap.size 25 #[.int .u8 k, .int .i64 m, .slice ua ul uc] := hb
    have HBX := Lib.hid hb
    have HZ := Lib.hid hz
    have HR := Lib.hid hr
    have HX := Lib.hid hx
    obtain ⟨b0, b1, b2⟩ := hb.three
    have hlb := hb.lt
    have hlz := hz.lt
    have c1 := (HB.out.ext (HW.out.trans hx)).c1
    have hlbb : bb < wr.heap.size := Nat.lt_of_lt_of_le hbb hx.size
    clear hu hb hz hr
    by_cases h5 : k = 5
    · subst h5
      have d1 := fun W' (h : Ext wr W') => h.cell c1
      have p0 := fun W' (h : Ext wr W') => h.cell b0
      have p1 := fun W' (h : Ext wr W') => h.cell b1
      have p2 := fun W' (h : Ext wr W') => h.cell b2
      cases hS : S m with
      | none =>
        have hl0 := HB.out.none_ ⟨e3, e4⟩ hS
        have hl := fun W' (h : Ext wr W') => hl0 W' ((HW.out.trans hx).trans h)
        have HS := Lib.hid hS
        clear hx hl0 hS
        go_upto_region 2 with fail
        clear c1
        refine wp_region_held_drew (S := fun w' => Ext wr w') (by kernel_rfl) (by (try dsimp only); (exact eX)) (fun hHeld => ?_)
        refine tK 0 (v := ?_) ?_ ?_;rotate_left;(focus (intro w hSw;(try dsimp only at hSw);go_simp;(try with_reducible rfl)));try simp only [Act.put,pA,pB,pC]
        refine tK 1 (v := ?_) ?_ ?_;rotate_left;(focus (intro w hSw;(try dsimp only at hSw);go_simp;(try with_reducible rfl)));try simp only [Act.put,pA,pB,pC]
        refine tK 2 (v := ?_) ?_ ?_;rotate_left;(focus (intro w hSw;(try dsimp only at hSw);go_simp;(try with_reducible rfl)));try simp only [Act.put,pA,pB,pC]
        refine tK 3 (v := ?_) ?_ ?_;rotate_left;(focus (intro w hSw;(try dsimp only at hSw);go_simp;(try with_reducible rfl)));try simp only [Act.put,pA,pB,pC]
        refine tK 4 (v := ?_) ?_ ?_;rotate_left;(focus (intro w hSw;(try dsimp only at hSw);go_simp;(try with_reducible rfl)));try simp only [Act.put,pA,pB,pC]
        refine tK 5 (v := ?_) ?_ ?_;rotate_left;(focus (intro w hSw;(try dsimp only at hSw);go_simp;(try with_reducible rfl)));try simp only [Act.put,pA,pB,pC]
        refine tK 6 (v := ?_) ?_ ?_;rotate_left;(focus (intro w hSw;(try dsimp only at hSw);go_simp;(try with_reducible rfl)));try simp only [Act.put,pA,pB,pC]
        refine tK 7 (v := ?_) ?_ ?_;rotate_left;(focus (intro w hSw;(try dsimp only at hSw);go_simp;(try with_reducible rfl)));try simp only [Act.put,pA,pB,pC]
        refine tK 8 (v := ?_) ?_ ?_;rotate_left;(focus (intro w hSw;(try dsimp only at hSw);go_simp;(try with_reducible rfl)));try simp only [Act.put,pA,pB,pC]
        refine tK 9 (v := ?_) ?_ ?_;rotate_left;(focus (intro w hSw;(try dsimp only at hSw);go_simp;(try with_reducible rfl)));try simp only [Act.put,pA,pB,pC]
        refine held_do 10 rfl (by kernel_rfl) (by rfl) (fun K hK => ?_); go_simp; refine hK.out _ _ (by (try dsimp only); (exact eX)) (fun hHeld => ?_); clear hK K; try simp only [Act.put,pA,pB,pC]
        refine held_do 11 rfl (by kernel_rfl) (by rfl) (fun K hK => ?_); go_simp; refine hK.out _ _ (by (try dsimp only); (exact eX)) (fun hHeld => ?_); clear hK K; try simp only [Act.put,pA,pB,pC]
        refine tK 12 (v := ?_) ?_ ?_;rotate_left;(focus (intro w hSw;(try dsimp only at hSw);go_simp;(try with_reducible rfl)));try simp only [Act.put,pA,pB,pC]
        refine wpAnyH_done (by kernel_rfl) ?_ _
        obtain ⟨W1, hW1⟩ : ∃ W1, W1 = (wr.alloc (.cells #[.int .u8 0, .int .i64 0, .slice none 0 0] 25)).drew := ⟨_, rfl⟩
        rw [← hW1]
        have xW : Ext wr W1 := by rw [hW1]; exact ((Ext.refl _).alloc _).drew
        obtain ⟨n0, n1, n2⟩ := (show Blk W1 wr.heap.size 25 #[.int .u8 0, .int .i64 0, .slice none 0 0] from by rw [hW1]; exact (Blk.new wr _ _).drew).three
        clear hW1 hHeld
        clear d1 p0 p1 p2 hl
        have hz1 := HZ.out.ext xW
        obtain ⟨q0, q1, q2⟩ := (HBX.out.ext xW).three
        have lz1 := hz1.lt
        obtain ⟨z0, z1, z2⟩ := hz1.three
        have fz0 := hz1.frozen 0
        have fz1 := hz1.frozen 1
        have fz2 := hz1.frozen 2
        have BF := Lib.hid (hz1.lay3 (u0 := .int .u8 5) (u1 := .int .i64 m) (u2 := .slice ua ul uc))
        have XF := Lib.hid ((HX.out.trans xW).lay3 (g := W.heap.size + 1) (u0 := .int .u8 5) (u1 := .int .i64 m) (u2 := .slice ua ul uc) (Nat.le_succ _))
        have HE : Hid (rootD S t = .mk 5 m l) := Lib.hid (HR.out.symm.trans (rootD_free rfl HS.out))
        clear hz1
        go_wp2_with fail
        obtain ⟨r0, r1, r2⟩ := BF.out.three
        exact bodyPost_ret (v := .agg #[.int .u8 5, .int .i64 m, .slice ua ul uc]) (by simp [results, Try.results44, go_sem, r0, r1, r2]) rfl (by rw [HE.out]; exact ⟨ua, ul, uc, rfl, HU.out, XF.out⟩)
      | some x =>
        obtain ⟨xa, xl, xc, hxt, hl0⟩ := HB.out.some_ ⟨e3, e4⟩ hS
        have hl := fun W' (h : Ext wr W') => hl0 W' ((HW.out.trans hx).trans h)
        have HS := Lib.hid hS
        have HXT := Lib.hid hxt
        clear hx hl0 hS hxt
        obtain ⟨k', m', l'⟩ := x
        simp only [Ty.kind, Ty.var] at hl
        by_cases h5' : k' = 5
        · subst h5'
          go_upto_region 2 with fail
          clear c1
          refine wp_region_held_drew (S := fun w' => Ext wr w') (by kernel_rfl) (by (try dsimp only); (exact eX)) (fun hHeld => ?_)
          refine tK 0 (v := ?_) ?_ ?_;rotate_left;(focus (intro w hSw;(try dsimp only at hSw);go_simp;(try with_reducible rfl)));try simp only [Act.put,pA,pB,pC]
          refine tK 1 (v := ?_) ?_ ?_;rotate_left;(focus (intro w hSw;(try dsimp only at hSw);go_simp;(try with_reducible rfl)));try simp only [Act.put,pA,pB,pC]
          refine tK 2 (v := ?_) ?_ ?_;rotate_left;(focus (intro w hSw;(try dsimp only at hSw);go_simp;(try with_reducible rfl)));try simp only [Act.put,pA,pB,pC]
          refine tK 3 (v := ?_) ?_ ?_;rotate_left;(focus (intro w hSw;(try dsimp only at hSw);go_simp;(try with_reducible rfl)));try simp only [Act.put,pA,pB,pC]
          refine tK 4 (v := ?_) ?_ ?_;rotate_left;(focus (intro w hSw;(try dsimp only at hSw);go_simp;(try with_reducible rfl)));try simp only [Act.put,pA,pB,pC]
          refine tK 5 (v := ?_) ?_ ?_;rotate_left;(focus (intro w hSw;(try dsimp only at hSw);go_simp;(try with_reducible rfl)));try simp only [Act.put,pA,pB,pC]
          refine tK 6 (v := ?_) ?_ ?_;rotate_left;(focus (intro w hSw;(try dsimp only at hSw);go_simp;(try with_reducible rfl)));try simp only [Act.put,pA,pB,pC]
          refine tK 7 (v := ?_) ?_ ?_;rotate_left;(focus (intro w hSw;(try dsimp only at hSw);go_simp;(try with_reducible rfl)));try simp only [Act.put,pA,pB,pC]
          refine tK 8 (v := ?_) ?_ ?_;rotate_left;(focus (intro w hSw;(try dsimp only at hSw);go_simp;(try with_reducible rfl)));try simp only [Act.put,pA,pB,pC]
          refine tK 9 (v := ?_) ?_ ?_;rotate_left;(focus (intro w hSw;(try dsimp only at hSw);go_simp;(try with_reducible rfl)));try simp only [Act.put,pA,pB,pC]
          refine held_do 10 rfl (by kernel_rfl) (by rfl) (fun K hK => ?_); go_simp; refine hK.out _ _ (by (try dsimp only); (exact eX)) (fun hHeld => ?_); clear hK K; try simp only [Act.put,pA,pB,pC]
          refine held_do 11 rfl (by kernel_rfl) (by rfl) (fun K hK => ?_); go_simp; refine hK.out _ _ (by (try dsimp only); (exact eX)) (fun hHeld => ?_); clear hK K; try simp only [Act.put,pA,pB,pC]
          refine tK 12 (v := ?_) ?_ ?_;rotate_left;(focus (intro w hSw;(try dsimp only at hSw);go_simp;(try with_reducible rfl)));try simp only [Act.put,pA,pB,pC]
          refine wpAnyH_done (by kernel_rfl) ?_ _
          obtain ⟨W1, hW1⟩ : ∃ W1, W1 = (wr.alloc (.cells #[.int .u8 5, .int .i64 m', .slice xa xl xc] 25)).drew := ⟨_, rfl⟩
          rw [← hW1]
          have xW : Ext wr W1 := by rw [hW1]; exact ((Ext.refl _).alloc _).drew
          obtain ⟨n0, n1, n2⟩ := (show Blk W1 wr.heap.size 25 #[.int .u8 5, .int .i64 m', .slice xa xl xc] from by rw [hW1]; exact (Blk.new wr _ _).drew).three
          clear hW1 hHeld
          clear d1 p0 p1 p2 hl
          obtain ⟨q0, q1, q2⟩ := (HBX.out.ext xW).three
          have hb1 := HBX.out.ext xW
          have lb1 := hb1.lt
          have fb0 := hb1.frozen 0
          have fb1 := hb1.frozen 1
          have fb2 := hb1.frozen 2
          have BF := Lib.hid (hb1.lay3 (u0 := .int .u8 5) (u1 := .int .i64 m') (u2 := .slice xa xl xc))
          have ZF := Lib.hid ((HZ.out.ext xW).far3 (g := W.heap.size) (u0 := .int .u8 5) (u1 := .int .i64 m') (u2 := .slice xa xl xc) (by omega))
          have XF := Lib.hid ((HX.out.trans xW).lay3 (g := W.heap.size) (u0 := .int .u8 5) (u1 := .int .i64 m') (u2 := .slice xa xl xc) (Nat.le_refl _))
          have HE : Hid (rootD S (.mk 5 m' l') = rootD S t) := Lib.hid ((rootD_step HA.out (t := .mk 5 m l) rfl HS.out rfl).symm.trans HR.out)
          have HM := Lib.hid (HRK.out m _ HS.out m' (by rw [Ty.vs_five]; simp))
          clear hb1
          go_wp2_with fail
          go_roundg (rk m' + 1)
          case rel => exact ⟨.mk 5 m' l', xa, xl, xc, by simp [Ty.kind, Ty.var], HXT.out, BF.out, ZF.out, HE.out, XF.out⟩
          case measure => have := HM.out; simp [Ty.kind, Ty.var]; omega
        · have h5b : (k' == 5) = false := by simpa using h5'
          have HK := Lib.hid h5'
          clear h5'
          go_upto_region 2 with fail
          clear c1
          refine wp_region_held_drew (S := fun w' => Ext wr w') (by kernel_rfl) (by (try dsimp only); (exact eX)) (fun hHeld => ?_)
          refine tK 0 (v := ?_) ?_ ?_;rotate_left;(focus (intro w hSw;(try dsimp only at hSw);go_simp;(try with_reducible rfl)));try simp only [Act.put,pA,pB,pC]
          refine tK 1 (v := ?_) ?_ ?_;rotate_left;(focus (intro w hSw;(try dsimp only at hSw);go_simp;(try with_reducible rfl)));try simp only [Act.put,pA,pB,pC]
          refine tK 2 (v := ?_) ?_ ?_;rotate_left;(focus (intro w hSw;(try dsimp only at hSw);go_simp;(try with_reducible rfl)));try simp only [Act.put,pA,pB,pC]
          refine tK 3 (v := ?_) ?_ ?_;rotate_left;(focus (intro w hSw;(try dsimp only at hSw);go_simp;(try with_reducible rfl)));try simp only [Act.put,pA,pB,pC]
          refine tK 4 (v := ?_) ?_ ?_;rotate_left;(focus (intro w hSw;(try dsimp only at hSw);go_simp;(try with_reducible rfl)));try simp only [Act.put,pA,pB,pC]
          refine tK 5 (v := ?_) ?_ ?_;rotate_left;(focus (intro w hSw;(try dsimp only at hSw);go_simp;(try with_reducible rfl)));try simp only [Act.put,pA,pB,pC]
          refine tK 6 (v := ?_) ?_ ?_;rotate_left;(focus (intro w hSw;(try dsimp only at hSw);go_simp;(try with_reducible rfl)));try simp only [Act.put,pA,pB,pC]
          refine tK 7 (v := ?_) ?_ ?_;rotate_left;(focus (intro w hSw;(try dsimp only at hSw);go_simp;(try with_reducible rfl)));try simp only [Act.put,pA,pB,pC]
          refine tK 8 (v := ?_) ?_ ?_;rotate_left;(focus (intro w hSw;(try dsimp only at hSw);go_simp;(try with_reducible rfl)));try simp only [Act.put,pA,pB,pC]
          refine tK 9 (v := ?_) ?_ ?_;rotate_left;(focus (intro w hSw;(try dsimp only at hSw);go_simp;(try with_reducible rfl)));try simp only [Act.put,pA,pB,pC]
          refine held_do 10 rfl (by kernel_rfl) (by rfl) (fun K hK => ?_); go_simp; refine hK.out _ _ (by (try dsimp only); (exact eX)) (fun hHeld => ?_); clear hK K; try simp only [Act.put,pA,pB,pC]
          refine held_do 11 rfl (by kernel_rfl) (by rfl) (fun K hK => ?_); go_simp; refine hK.out _ _ (by (try dsimp only); (exact eX)) (fun hHeld => ?_); clear hK K; try simp only [Act.put,pA,pB,pC]
          refine tK 12 (v := ?_) ?_ ?_;rotate_left;(focus (intro w hSw;(try dsimp only at hSw);go_simp;(try with_reducible rfl)));try simp only [Act.put,pA,pB,pC]
          refine wpAnyH_done (by kernel_rfl) ?_ _
          obtain ⟨W1, hW1⟩ : ∃ W1, W1 = (wr.alloc (.cells #[.int .u8 k', .int .i64 m', .slice xa xl xc] 25)).drew := ⟨_, rfl⟩
          rw [← hW1]
          have xW : Ext wr W1 := by rw [hW1]; exact ((Ext.refl _).alloc _).drew
          obtain ⟨n0, n1, n2⟩ := (show Blk W1 wr.heap.size 25 #[.int .u8 k', .int .i64 m', .slice xa xl xc] from by rw [hW1]; exact (Blk.new wr _ _).drew).three
          clear hW1 hHeld
          clear d1 p0 p1 p2 hl
          have hz1 := HZ.out.ext xW
          obtain ⟨q0, q1, q2⟩ := (HBX.out.ext xW).three
          have lz1 := hz1.lt
          obtain ⟨z0, z1, z2⟩ := hz1.three
          have fz0 := hz1.frozen 0
          have fz1 := hz1.frozen 1
          have fz2 := hz1.frozen 2
          have BF := Lib.hid (hz1.lay3 (u0 := .int .u8 5) (u1 := .int .i64 m) (u2 := .slice ua ul uc))
          have XF := Lib.hid ((HX.out.trans xW).lay3 (g := W.heap.size + 1) (u0 := .int .u8 5) (u1 := .int .i64 m) (u2 := .slice ua ul uc) (Nat.le_succ _))
          have HE : Hid (rootD S t = .mk 5 m l) := Lib.hid (HR.out.symm.trans (rootD_head rfl HS.out HK.out))
          clear hz1
          go_wp2_with fail
          obtain ⟨r0, r1, r2⟩ := BF.out.three
          exact bodyPost_ret (v := .agg #[.int .u8 5, .int .i64 m, .slice ua ul uc]) (by simp [results, Try.results44, go_sem, r0, r1, r2]) rfl (by rw [HE.out]; exact ⟨ua, ul, uc, rfl, HU.out, XF.out⟩)
    · have h5b : (k == 5) = false := by simpa using h5
      have HK := Lib.hid h5
      have xW : Ext wr wr := Ext.refl _
      clear h5 hx c1
      have hz1 := HZ.out.ext xW
      obtain ⟨q0, q1, q2⟩ := (HBX.out.ext xW).three
      have lz1 := hz1.lt
      obtain ⟨z0, z1, z2⟩ := hz1.three
      have fz0 := hz1.frozen 0
      have fz1 := hz1.frozen 1
      have fz2 := hz1.frozen 2
      have BF := Lib.hid (hz1.lay3 (u0 := .int .u8 k) (u1 := .int .i64 m) (u2 := .slice ua ul uc))
      have XF := Lib.hid ((HX.out.trans xW).lay3 (g := W.heap.size + 1) (u0 := .int .u8 k) (u1 := .int .i64 m) (u2 := .slice ua ul uc) (Nat.le_succ _))
      have HE : Hid (rootD S t = .mk k m l) := Lib.hid (HR.out.symm.trans (rootD_other HK.out))
      clear hz1
      go_wp2_with fail
      obtain ⟨r0, r1, r2⟩ := BF.out.three
      exact bodyPost_ret (v := .agg #[.int .u8 k, .int .i64 m, .slice ua ul uc]) (by simp [results, Try.results44, go_sem, r0, r1, r2]) rfl (by rw [HE.out]; exact ⟨ua, ul, uc, rfl, HU.out, XF.out⟩)
theorem hd_none {S : St} {r : Ty} (h : S r.var = none) : hd S r = r := by
  unfold hd
  split
  · rw [h]; rfl
  · rfl
theorem hd_some {S : St} {r x : Ty} (h5 : r.kind = 5) (h : S r.var = some x) : hd S r = x := by
  unfold hd
  rw [if_pos h5, h]
  rfl
set_option maxRecDepth 8000 in
set_option maxHeartbeats 4000000 in
theorem book_head {w : World} {bb mb n : Nat} {S : St} (hB : BookAtA A w bb mb n S) (ha : Acy S) (W : World) (hW : Ext w W) (t : Ty) (a : Option Addr) (len cap : Nat) (ht : IsTyA A w t (.agg #[.int .u8 t.kind, .int .i64 t.var, .slice a len cap])) :
    Calls Try.prog 46 #[.pointer (some ⟨bb, 0, none⟩), .agg #[.int .u8 t.kind, .int .i64 t.var, .slice a len cap]] W (RetT A w W (hd S (rootD S t))) := by
  have KR := Lib.hid fun W' (h : Ext W W') => book_root hB ha W' (hW.trans h) t a len cap ht
  have HB := Lib.hid hB
  have HW := Lib.hid hW
  have hbb : bb < W.heap.size := Nat.lt_of_lt_of_le hB.blk.lt hW.size
  generalize rootD S t = r at *
  clear hB ha ht hW
  go_enter Try.func46, Try.ntmps46
  go_upto_region 1 with fail
  have BX := Lib.hid ((Blk.new W 25 #[.int .u8 t.kind, .int .i64 t.var, .slice a len cap]).alloc (.cells #[.int .u8 0, .int .i64 0, .slice none 0 0] 25))
  have BZ : Hid (Blk ((W.alloc (.cells #[.int .u8 t.kind, .int .i64 t.var, .slice a len cap] 25)).alloc (.cells #[.int .u8 0, .int .i64 0, .slice none 0 0] 25)) (W.heap.size + 1) 25 #[.int .u8 0, .int .i64 0, .slice none 0 0]) := Lib.hid (by
    have h := Blk.new (W.alloc (.cells #[.int .u8 t.kind, .int .i64 t.var, .slice a len cap] 25)) 25 #[.int .u8 0, .int .i64 0, .slice none 0 0]
    rw [World.size_alloc] at h
    exact h)
  have X0 : Hid (Ext W ((W.alloc (.cells #[.int .u8 t.kind, .int .i64 t.var, .slice a len cap] 25)).alloc (.cells #[.int .u8 0, .int .i64 0, .slice none 0 0] 25))) := Lib.hid (((Ext.refl _).alloc _).alloc _)
  generalize (W.alloc (.cells #[.int .u8 t.kind, .int .i64 t.var, .slice a len cap] 25)).alloc (.cells #[.int .u8 0, .int .i64 0, .slice none 0 0] 25) = W0 at *
  obtain ⟨b0, b1, b2⟩ := BX.out.three
  obtain ⟨k, m, l⟩ := r
  replace KR : Hid (Calls Try.prog 44 #[.pointer (some ⟨bb, 0, none⟩), .agg #[.int .u8 t.kind, .int .i64 t.var, .slice a len cap]] W0 fun e w' => ∃ ra rl rc, e = .returned (.agg #[.int .u8 k, .int .i64 m, .slice ra rl rc]) ∧ IsTyA A w (.mk k m l) (.agg #[.int .u8 k, .int .i64 m, .slice ra rl rc]) ∧ Ext W0 w') := Lib.hid (KR.out W0 X0.out)
  go_upto_region 2 with (go_at_call 44; refine (KR.out).mono ?_; rintro e w1 ⟨ra, rl, rc, rfl, hr, x1⟩; have hb1 := BX.out.ext x1; have lb1 := hb1.lt; have g0 := hb1.frozen 0; have g1 := hb1.frozen 1; have g2 := hb1.frozen 2; have h0 := hb1.cell 0; have h1 := hb1.cell 1; have h2 := hb1.cell 2; simp at h0 h1 h2)
  obtain ⟨-, -, -, -, -, -, -, -, e3, e4, -⟩ := hr.open_
  have HR := Lib.hid hr
  have X1 := Lib.hid (X0.out.trans x1)
  have hl1 := X1.out.size
  have hl0 : W.heap.size + 1 < w1.heap.size := by have h := (BZ.out.ext x1).lt; exact h
  have B2 := Lib.hid (hb1.lay3 (u0 := .int .u8 k) (u1 := .int .i64 m) (u2 := .slice ra rl rc))
  have Z2 := Lib.hid ((BZ.out.ext x1).far3 (g := W.heap.size) (u0 := .int .u8 k) (u1 := .int .i64 m) (u2 := .slice ra rl rc) (by omega))
  have X2 := Lib.hid (X1.out.lay3 (g := W.heap.size) (u0 := .int .u8 k) (u1 := .int .i64 m) (u2 := .slice ra rl rc) (Nat.le_refl _))
  clear hr x1 hb1 lb1 g0 g1 g2 h0 h1 h2 b0 b1 b2 hl0 hl1
  generalize ((w1.setCell ⟨W.heap.size, 0, none⟩ (.int .u8 k)).setCell ⟨W.heap.size, 1, none⟩ (.int .i64 m)).setCell ⟨W.heap.size, 2, none⟩ (.slice ra rl rc) = W2 at *
  obtain ⟨b0, b1, b2⟩ := B2.out.three
  have c1 := (HB.out.ext (HW.out.trans X2.out)).c1
  have lbb : bb < W2.heap.size := Nat.lt_of_lt_of_le hbb X2.out.size
  have lb2 := B2.out.lt
  have d1 := fun W' (h : Ext W2 W') => h.cell c1
  have p0 := fun W' (h : Ext W2 W') => h.cell b0
  have p1 := fun W' (h : Ext W2 W') => h.cell b1
  have p2 := fun W' (h : Ext W2 W') => h.cell b2
  clear c1 b0 b1 b2
  cases hS : S m with
  | none =>
    have hl0 := HB.out.none_ ⟨e3, e4⟩ hS
    have hl := fun W' (h : Ext W2 W') => hl0 W' ((HW.out.trans X2.out).trans h)
    have HE : Hid (hd S (.mk k m l) = .mk k m l) := Lib.hid (hd_none hS)
    clear hl0 hS
    refine wp_region_held_drew (S := fun w' => Ext W2 w') (by kernel_rfl) (by (try dsimp only); (exact eX)) (fun hHeld => ?_)
    refine tK 0 (v := ?_) ?_ ?_;rotate_left;(focus (intro w hSw;(try dsimp only at hSw);go_simp;(try with_reducible rfl)));try simp only [Act.put,pA,pB,pC]
    refine tK 1 (v := ?_) ?_ ?_;rotate_left;(focus (intro w hSw;(try dsimp only at hSw);go_simp;(try with_reducible rfl)));try simp only [Act.put,pA,pB,pC]
    refine tK 2 (v := ?_) ?_ ?_;rotate_left;(focus (intro w hSw;(try dsimp only at hSw);go_simp;(try with_reducible rfl)));try simp only [Act.put,pA,pB,pC]
    refine tK 3 (v := ?_) ?_ ?_;rotate_left;(focus (intro w hSw;(try dsimp only at hSw);go_simp;(try with_reducible rfl)));try simp only [Act.put,pA,pB,pC]
    refine tK 4 (v := ?_) ?_ ?_;rotate_left;(focus (intro w hSw;(try dsimp only at hSw);go_simp;(try with_reducible rfl)));try simp only [Act.put,pA,pB,pC]
    refine tK 5 (v := ?_) ?_ ?_;rotate_left;(focus (intro w hSw;(try dsimp only at hSw);go_simp;(try with_reducible rfl)));try simp only [Act.put,pA,pB,pC]
    refine tK 6 (v := ?_) ?_ ?_;rotate_left;(focus (intro w hSw;(try dsimp only at hSw);go_simp;(try with_reducible rfl)));try simp only [Act.put,pA,pB,pC]
    refine tK 7 (v := ?_) ?_ ?_;rotate_left;(focus (intro w hSw;(try dsimp only at hSw);go_simp;(try with_reducible rfl)));try simp only [Act.put,pA,pB,pC]
    refine tK 8 (v := ?_) ?_ ?_;rotate_left;(focus (intro w hSw;(try dsimp only at hSw);go_simp;(try with_reducible rfl)));try simp only [Act.put,pA,pB,pC]
    refine tK 9 (v := ?_) ?_ ?_;rotate_left;(focus (intro w hSw;(try dsimp only at hSw);go_simp;(try with_reducible rfl)));try simp only [Act.put,pA,pB,pC]
    refine held_do 10 rfl (by kernel_rfl) (by rfl) (fun K hK => ?_); go_simp; refine hK.out _ _ (by (try dsimp only); (exact eX)) (fun hHeld => ?_); clear hK K; try simp only [Act.put,pA,pB,pC]
    refine held_do 11 rfl (by kernel_rfl) (by rfl) (fun K hK => ?_); go_simp; refine hK.out _ _ (by (try dsimp only); (exact eX)) (fun hHeld => ?_); clear hK K; try simp only [Act.put,pA,pB,pC]
    refine tK 12 (v := ?_) ?_ ?_;rotate_left;(focus (intro w hSw;(try dsimp only at hSw);go_simp;(try with_reducible rfl)));try simp only [Act.put,pA,pB,pC]
    refine wpAnyH_done (by kernel_rfl) ?_ _
    obtain ⟨W3, hW3⟩ : ∃ W3, W3 = (W2.alloc (.cells #[.int .u8 0, .int .i64 0, .slice none 0 0] 25)).drew := ⟨_, rfl⟩
    rw [← hW3]
    have xW : Ext W2 W3 := by rw [hW3]; exact ((Ext.refl _).alloc _).drew
    obtain ⟨n0, n1, n2⟩ := (show Blk W3 W2.heap.size 25 #[.int .u8 0, .int .i64 0, .slice none 0 0] from by rw [hW3]; exact (Blk.new W2 _ _).drew).three
    clear hW3 hHeld d1 p0 p1 p2 hl
    have hz1 := Z2.out.ext xW
    obtain ⟨q0, q1, q2⟩ := (B2.out.ext xW).three
    have lz1 := hz1.lt
    obtain ⟨z0, z1, z2⟩ := hz1.three
    have fz0 := hz1.frozen 0
    have fz1 := hz1.frozen 1
    have fz2 := hz1.frozen 2
    have BF := Lib.hid (hz1.lay3 (u0 := .int .u8 k) (u1 := .int .i64 m) (u2 := .slice ra rl rc))
    have XF := Lib.hid ((X2.out.trans xW).lay3 (g := W.heap.size + 1) (u0 := .int .u8 k) (u1 := .int .i64 m) (u2 := .slice ra rl rc) (Nat.le_succ _))
    clear hz1
    go_wp2_with fail
    obtain ⟨r0, r1, r2⟩ := BF.out.three
    exact bodyPost_ret (v := .agg #[.int .u8 k, .int .i64 m, .slice ra rl rc]) (by simp [results, Try.results46, go_sem, r0, r1, r2]) rfl (by rw [HE.out]; exact ⟨ra, rl, rc, rfl, HR.out, XF.out⟩)
  | some x =>
    obtain ⟨xa, xl, xc, hxt, hl0⟩ := HB.out.some_ ⟨e3, e4⟩ hS
    have hl := fun W' (h : Ext W2 W') => hl0 W' ((HW.out.trans X2.out).trans h)
    have HXT := Lib.hid hxt
    have HS := Lib.hid hS
    clear hl0 hS hxt
    obtain ⟨k', m', l'⟩ := x
    simp only [Ty.kind, Ty.var] at hl
    by_cases h5 : k = 5
    · subst h5
      have HE : Hid (hd S (.mk 5 m l) = .mk k' m' l') := Lib.hid (hd_some (r := .mk 5 m l) rfl HS.out)
      refine wp_region_held_drew (S := fun w' => Ext W2 w') (by kernel_rfl) (by (try dsimp only); (exact eX)) (fun hHeld => ?_)
      refine tK 0 (v := ?_) ?_ ?_;rotate_left;(focus (intro w hSw;(try dsimp only at hSw);go_simp;(try with_reducible rfl)));try simp only [Act.put,pA,pB,pC]
      refine tK 1 (v := ?_) ?_ ?_;rotate_left;(focus (intro w hSw;(try dsimp only at hSw);go_simp;(try with_reducible rfl)));try simp only [Act.put,pA,pB,pC]
      refine tK 2 (v := ?_) ?_ ?_;rotate_left;(focus (intro w hSw;(try dsimp only at hSw);go_simp;(try with_reducible rfl)));try simp only [Act.put,pA,pB,pC]
      refine tK 3 (v := ?_) ?_ ?_;rotate_left;(focus (intro w hSw;(try dsimp only at hSw);go_simp;(try with_reducible rfl)));try simp only [Act.put,pA,pB,pC]
      refine tK 4 (v := ?_) ?_ ?_;rotate_left;(focus (intro w hSw;(try dsimp only at hSw);go_simp;(try with_reducible rfl)));try simp only [Act.put,pA,pB,pC]
      refine tK 5 (v := ?_) ?_ ?_;rotate_left;(focus (intro w hSw;(try dsimp only at hSw);go_simp;(try with_reducible rfl)));try simp only [Act.put,pA,pB,pC]
      refine tK 6 (v := ?_) ?_ ?_;rotate_left;(focus (intro w hSw;(try dsimp only at hSw);go_simp;(try with_reducible rfl)));try simp only [Act.put,pA,pB,pC]
      refine tK 7 (v := ?_) ?_ ?_;rotate_left;(focus (intro w hSw;(try dsimp only at hSw);go_simp;(try with_reducible rfl)));try simp only [Act.put,pA,pB,pC]
      refine tK 8 (v := ?_) ?_ ?_;rotate_left;(focus (intro w hSw;(try dsimp only at hSw);go_simp;(try with_reducible rfl)));try simp only [Act.put,pA,pB,pC]
      refine tK 9 (v := ?_) ?_ ?_;rotate_left;(focus (intro w hSw;(try dsimp only at hSw);go_simp;(try with_reducible rfl)));try simp only [Act.put,pA,pB,pC]
      refine held_do 10 rfl (by kernel_rfl) (by rfl) (fun K hK => ?_); go_simp; refine hK.out _ _ (by (try dsimp only); (exact eX)) (fun hHeld => ?_); clear hK K; try simp only [Act.put,pA,pB,pC]
      refine held_do 11 rfl (by kernel_rfl) (by rfl) (fun K hK => ?_); go_simp; refine hK.out _ _ (by (try dsimp only); (exact eX)) (fun hHeld => ?_); clear hK K; try simp only [Act.put,pA,pB,pC]
      refine tK 12 (v := ?_) ?_ ?_;rotate_left;(focus (intro w hSw;(try dsimp only at hSw);go_simp;(try with_reducible rfl)));try simp only [Act.put,pA,pB,pC]
      refine wpAnyH_done (by kernel_rfl) ?_ _
      obtain ⟨W3, hW3⟩ : ∃ W3, W3 = (W2.alloc (.cells #[.int .u8 k', .int .i64 m', .slice xa xl xc] 25)).drew := ⟨_, rfl⟩
      rw [← hW3]
      have xW : Ext W2 W3 := by rw [hW3]; exact ((Ext.refl _).alloc _).drew
      obtain ⟨n0, n1, n2⟩ := (show Blk W3 W2.heap.size 25 #[.int .u8 k', .int .i64 m', .slice xa xl xc] from by rw [hW3]; exact (Blk.new W2 _ _).drew).three
      clear hW3 hHeld d1 p0 p1 p2 hl
      have hz1 := Z2.out.ext xW
      obtain ⟨q0, q1, q2⟩ := (B2.out.ext xW).three
      have lz1 := hz1.lt
      obtain ⟨z0, z1, z2⟩ := hz1.three
      have fz0 := hz1.frozen 0
      have fz1 := hz1.frozen 1
      have fz2 := hz1.frozen 2
      have BF := Lib.hid (hz1.lay3 (u0 := .int .u8 k') (u1 := .int .i64 m') (u2 := .slice xa xl xc))
      have XF := Lib.hid ((X2.out.trans xW).lay3 (g := W.heap.size + 1) (u0 := .int .u8 k') (u1 := .int .i64 m') (u2 := .slice xa xl xc) (Nat.le_succ _))
      clear hz1
      go_wp2_with fail
      obtain ⟨r0, r1, r2⟩ := BF.out.three
      exact bodyPost_ret (v := .agg #[.int .u8 k', .int .i64 m', .slice xa xl xc]) (by simp [results, Try.results46, go_sem, r0, r1, r2]) rfl (by rw [HE.out]; exact ⟨xa, xl, xc, rfl, HXT.out, XF.out⟩)
    · have h5b : (k == 5) = false := by simpa using h5
      have HE : Hid (hd S (.mk k m l) = .mk k m l) := Lib.hid (hd_other (r := .mk k m l) h5)
      clear h5
      refine wp_region_held_drew (S := fun w' => Ext W2 w') (by kernel_rfl) (by (try dsimp only); (exact eX)) (fun hHeld => ?_)
      refine tK 0 (v := ?_) ?_ ?_;rotate_left;(focus (intro w hSw;(try dsimp only at hSw);go_simp;(try with_reducible rfl)));try simp only [Act.put,pA,pB,pC]
      refine tK 1 (v := ?_) ?_ ?_;rotate_left;(focus (intro w hSw;(try dsimp only at hSw);go_simp;(try with_reducible rfl)));try simp only [Act.put,pA,pB,pC]
      refine tK 2 (v := ?_) ?_ ?_;rotate_left;(focus (intro w hSw;(try dsimp only at hSw);go_simp;(try with_reducible rfl)));try simp only [Act.put,pA,pB,pC]
      refine tK 3 (v := ?_) ?_ ?_;rotate_left;(focus (intro w hSw;(try dsimp only at hSw);go_simp;(try with_reducible rfl)));try simp only [Act.put,pA,pB,pC]
      refine tK 4 (v := ?_) ?_ ?_;rotate_left;(focus (intro w hSw;(try dsimp only at hSw);go_simp;(try with_reducible rfl)));try simp only [Act.put,pA,pB,pC]
      refine tK 5 (v := ?_) ?_ ?_;rotate_left;(focus (intro w hSw;(try dsimp only at hSw);go_simp;(try with_reducible rfl)));try simp only [Act.put,pA,pB,pC]
      refine tK 6 (v := ?_) ?_ ?_;rotate_left;(focus (intro w hSw;(try dsimp only at hSw);go_simp;(try with_reducible rfl)));try simp only [Act.put,pA,pB,pC]
      refine tK 7 (v := ?_) ?_ ?_;rotate_left;(focus (intro w hSw;(try dsimp only at hSw);go_simp;(try with_reducible rfl)));try simp only [Act.put,pA,pB,pC]
      refine tK 8 (v := ?_) ?_ ?_;rotate_left;(focus (intro w hSw;(try dsimp only at hSw);go_simp;(try with_reducible rfl)));try simp only [Act.put,pA,pB,pC]
      refine tK 9 (v := ?_) ?_ ?_;rotate_left;(focus (intro w hSw;(try dsimp only at hSw);go_simp;(try with_reducible rfl)));try simp only [Act.put,pA,pB,pC]
      refine held_do 10 rfl (by kernel_rfl) (by rfl) (fun K hK => ?_); go_simp; refine hK.out _ _ (by (try dsimp only); (exact eX)) (fun hHeld => ?_); clear hK K; try simp only [Act.put,pA,pB,pC]
      refine held_do 11 rfl (by kernel_rfl) (by rfl) (fun K hK => ?_); go_simp; refine hK.out _ _ (by (try dsimp only); (exact eX)) (fun hHeld => ?_); clear hK K; try simp only [Act.put,pA,pB,pC]
      refine tK 12 (v := ?_) ?_ ?_;rotate_left;(focus (intro w hSw;(try dsimp only at hSw);go_simp;(try with_reducible rfl)));try simp only [Act.put,pA,pB,pC]
      refine wpAnyH_done (by kernel_rfl) ?_ _
      obtain ⟨W3, hW3⟩ : ∃ W3, W3 = (W2.alloc (.cells #[.int .u8 k', .int .i64 m', .slice xa xl xc] 25)).drew := ⟨_, rfl⟩
      rw [← hW3]
      have xW : Ext W2 W3 := by rw [hW3]; exact ((Ext.refl _).alloc _).drew
      obtain ⟨n0, n1, n2⟩ := (show Blk W3 W2.heap.size 25 #[.int .u8 k', .int .i64 m', .slice xa xl xc] from by rw [hW3]; exact (Blk.new W2 _ _).drew).three
      clear hW3 hHeld d1 p0 p1 p2 hl
      have hz1 := Z2.out.ext xW
      obtain ⟨q0, q1, q2⟩ := (B2.out.ext xW).three
      have lz1 := hz1.lt
      obtain ⟨z0, z1, z2⟩ := hz1.three
      have fz0 := hz1.frozen 0
      have fz1 := hz1.frozen 1
      have fz2 := hz1.frozen 2
      have BF := Lib.hid (hz1.lay3 (u0 := .int .u8 k) (u1 := .int .i64 m) (u2 := .slice ra rl rc))
      have XF := Lib.hid ((X2.out.trans xW).lay3 (g := W.heap.size + 1) (u0 := .int .u8 k) (u1 := .int .i64 m) (u2 := .slice ra rl rc) (Nat.le_succ _))
      clear hz1
      go_wp2_with fail
      obtain ⟨r0, r1, r2⟩ := BF.out.three
      exact bodyPost_ret (v := .agg #[.int .u8 k, .int .i64 m, .slice ra rl rc]) (by simp [results, Try.results46, go_sem, r0, r1, r2]) rfl (by rw [HE.out]; exact ⟨ra, rl, rc, rfl, HR.out, XF.out⟩)
end Go.Proofs.Ytkjjbackkipfdaa
