/- Part 45 of the proof: Ref05c; no condition of ours. -/
import Derived.Test.YtaioeailgknfjaaGreatDoorPkp15
import Derived.Test.YtaioeailgknfjaaGreatDoorPkp44
set_option linter.unusedVariables false
set_option linter.unusedSimpArgs false
namespace Go.Proofs.YtaioeailgknfjaaGreatDoor
open Go.Lib (hid)
open Go Go.RowKit Go.Sort
def putH (x : ByteArray) (pos : Int) : Hd := if x = s_set then hd0 8 pos else { hd0 9 pos with op := opOf x }
theorem putT_H (x : ByteArray) (a b : Tm) : putT x a b = .mk (putH x a.head.pos) [a, b] := by unfold putT putH; split <;> rfl
theorem ne_beq {x y : ByteArray} (h : x ≠ y) : (x.toList == y.toList) = false := by simp only [beq_eq_false_iff_ne]; exact fun e => h (toList_inj e)
def RetPut (x : ByteArray) (ha hb : Hd) (aa ab : Option Addr) (na nb ca cb : Nat) (w : World) (e : Ending) (w' : World) : Prop :=
  ∃ g, e = .returned (.agg #[.int .u8 (putH x ha.pos).k, .int .u8 (putH x ha.pos).op, .int .i64 ha.pos, .int .i64 0, .string ⟨#[]⟩, .string ⟨#[]⟩, .string ⟨#[]⟩, .slice (some ⟨g, 0, none⟩) 2 2]) ∧ w.heap.size ≤ g ∧
    Blk w' g 28 #[.int .u8 ha.k, .int .u8 ha.op, .int .i64 ha.pos, .int .i64 ha.n, .string ha.name, .string ha.arg, .string ha.exn, .slice aa na ca, .int .u8 hb.k, .int .u8 hb.op, .int .i64 hb.pos, .int .i64 hb.n, .string hb.name, .string hb.arg, .string hb.exn, .slice ab nb cb] ∧ Ext w w'
theorem blk_at2 {w w1 : World} {o1 o2 o4 : Obj} {cs : Array Value} {T : TypeId} (x : Ext ((((w.alloc o1).alloc o2).alloc (.cells cs T)).alloc o4) w1) : Blk w1 (w.heap.size + 1 + 1) T cs := by
  have h := Blk.new ((w.alloc o1).alloc o2) T cs
  rw [World.size_alloc, World.size_alloc] at h
  exact (h.alloc o4).ext x
theorem blk_at3 {w w1 : World} {o1 o2 o3 : Obj} {cs : Array Value} {T : TypeId} (x : Ext ((((w.alloc o1).alloc o2).alloc o3).alloc (.cells cs T)) w1) : Blk w1 (w.heap.size + 1 + 1 + 1) T cs := by
  have h := Blk.new (((w.alloc o1).alloc o2).alloc o3) T cs
  rw [World.size_alloc, World.size_alloc, World.size_alloc] at h
  exact h.ext x
set_option maxRecDepth 60000 in
set_option maxHeartbeats 8000000 in
theorem ref5_put (x : ByteArray) (ha hb : Hd) (aa ab : Option Addr) (na nb ca cb : Nat) (w : World) :
    Calls Tryz.prog 98 #[.string x, .agg #[.int .u8 ha.k, .int .u8 ha.op, .int .i64 ha.pos, .int .i64 ha.n, .string ha.name, .string ha.arg, .string ha.exn, .slice aa na ca], .agg #[.int .u8 hb.k, .int .u8 hb.op, .int .i64 hb.pos, .int .i64 hb.n, .string hb.name, .string hb.arg, .string hb.exn, .slice ab nb cb]] w (RetPut x ha hb aa ab na nb ca cb w) := by
  have e1 : (x.toList == ([58, 61] : List UInt8)) = decide (x = s_set) := by rw [← toList_beq, show s_set.toList = [58, 61] from by rw [ByteArray.toList_eq]; rfl]
  have e2 : (x.toList == ([43] : List UInt8)) = decide (x = s_plus) := by rw [← toList_beq, show s_plus.toList = [43] from by rw [ByteArray.toList_eq]; rfl]
  have e3 : (x.toList == ([45] : List UInt8)) = decide (x = s_minus) := by rw [← toList_beq, show s_minus.toList = [45] from by rw [ByteArray.toList_eq]; rfl]
  have e4 : (x.toList == ([42] : List UInt8)) = decide (x = s_star) := by rw [← toList_beq, show s_star.toList = [42] from by rw [ByteArray.toList_eq]; rfl]
  have e5 : (x.toList == ([60] : List UInt8)) = decide (x = s_less) := by rw [← toList_beq, show s_less.toList = [60] from by rw [ByteArray.toList_eq]; rfl]
  have e6 : (x.toList == ([61] : List UInt8)) = decide (x = s_eq) := by rw [← toList_beq, show s_eq.toList = [61] from by rw [ByteArray.toList_eq]; rfl]
  have HH : Hid (putH x ha.pos = if decide (x = s_set) = true then hd0 8 ha.pos else { hd0 9 ha.pos with op := if decide (x = s_plus) = true then 1 else if decide (x = s_minus) = true then 2 else if decide (x = s_star) = true then 3 else if decide (x = s_less) = true then 4 else if decide (x = s_eq) = true then 5 else 0 }) := hid (by simp only [decide_eq_true_eq]; rfl)
  unfold RetPut
  generalize putH x ha.pos = H at *
  generalize decide (x = s_set) = b1 at *
  generalize decide (x = s_plus) = b2 at *
  generalize decide (x = s_minus) = b3 at *
  generalize decide (x = s_star) = b4 at *
  generalize decide (x = s_less) = b5 at *
  generalize decide (x = s_eq) = b6 at *
  go_enter Tryz.func98, Tryz.ntmps98
  go_upto_region 2 with (go_at_call 121; refine (ref5_term _ _ _ _ _ _).mono ?_; rintro e w1 ⟨rfl, x1⟩)
  have hZ1 := blk_at2 x1
  have hG1 := blk_at3 x1
  have y1 : Ext w w1 := by (exact eX)
  have hs1 : w.heap.size + 1 + 1 + 1 < w1.heap.size := hG1.lt
  have W7e : ∃ W7, W7 = w1.alloc (.cells #[.int .u8 9, .int .u8 0, .int .i64 ha.pos, .int .i64 0, .string ⟨#[]⟩, .string ⟨#[]⟩, .string ⟨#[]⟩, .slice (some ⟨w.heap.size + 1 + 1 + 1, 0, none⟩) 2 2] 28) := ⟨_, rfl⟩
  obtain ⟨W7, hW7⟩ := W7e
  have hT7 := Blk.new w1 28 #[.int .u8 9, .int .u8 0, .int .i64 ha.pos, .int .i64 0, .string ⟨#[]⟩, .string ⟨#[]⟩, .string ⟨#[]⟩, .slice (some ⟨w.heap.size + 1 + 1 + 1, 0, none⟩) 2 2]
  have hZ7 := hZ1.alloc (.cells #[.int .u8 9, .int .u8 0, .int .i64 ha.pos, .int .i64 0, .string ⟨#[]⟩, .string ⟨#[]⟩, .string ⟨#[]⟩, .slice (some ⟨w.heap.size + 1 + 1 + 1, 0, none⟩) 2 2] 28)
  have hG7 := hG1.alloc (.cells #[.int .u8 9, .int .u8 0, .int .i64 ha.pos, .int .i64 0, .string ⟨#[]⟩, .string ⟨#[]⟩, .string ⟨#[]⟩, .slice (some ⟨w.heap.size + 1 + 1 + 1, 0, none⟩) 2 2] 28)
  have y7 := y1.alloc (.cells #[.int .u8 9, .int .u8 0, .int .i64 ha.pos, .int .i64 0, .string ⟨#[]⟩, .string ⟨#[]⟩, .string ⟨#[]⟩, .slice (some ⟨w.heap.size + 1 + 1 + 1, 0, none⟩) 2 2] 28)
  rw [← hW7] at hT7 hZ7 hG7 y7
  rw [← hW7]
  clear hZ1 hG1 y1 x1 hW7
  generalize w1.heap.size = t7 at *
  obtain ⟨c0, c1, c2, c3, c4, c5, c6, c7⟩ := hT7.eight
  obtain ⟨f0, f1, f2, f3, f4, f5, f6, f7⟩ := hT7.frozen8
  obtain ⟨z0, z1, z2, z3, z4, z5, z6, z7⟩ := hZ7.eight
  obtain ⟨g0, g1, g2, g3, g4, g5, g6, g7⟩ := hZ7.frozen8
  have l1 := hT7.lt
  have l2 := hZ7.lt
  have HZ := hid hZ7
  have HG := hid hG7
  have HY := hid y7
  have hne : t7 ≠ w.heap.size + 1 + 1 := by omega
  have hne' : w.heap.size + 1 + 1 ≠ t7 := by omega
  clear hT7 hZ7 hG7 y7
  cases b1
  · cases b2
    · cases b3
      · cases b4
        · cases b5
          · cases b6
            · have B9 := (HZ.out).lay8 (u0 := .int .u8 9) (u1 := .int .u8 0) (u2 := .int .i64 ha.pos) (u3 := .int .i64 0) (u4 := .string ⟨#[]⟩) (u5 := .string ⟨#[]⟩) (u6 := .string ⟨#[]⟩) (u7 := .slice (some ⟨w.heap.size + 1 + 1 + 1, 0, none⟩) 2 2)
              have Y9 := (HY.out).set8 (g := w.heap.size + 1 + 1) (u0 := .int .u8 9) (u1 := .int .u8 0) (u2 := .int .i64 ha.pos) (u3 := .int .i64 0) (u4 := .string ⟨#[]⟩) (u5 := .string ⟨#[]⟩) (u6 := .string ⟨#[]⟩) (u7 := .slice (some ⟨w.heap.size + 1 + 1 + 1, 0, none⟩) 2 2) (by omega)
              have G9 := (HG.out).far8 (g := w.heap.size + 1 + 1) (u0 := .int .u8 9) (u1 := .int .u8 0) (u2 := .int .i64 ha.pos) (u3 := .int .i64 0) (u4 := .string ⟨#[]⟩) (u5 := .string ⟨#[]⟩) (u6 := .string ⟨#[]⟩) (u7 := .slice (some ⟨w.heap.size + 1 + 1 + 1, 0, none⟩) 2 2) (by omega)
              have HB9 := hid B9
              have HY9 := hid Y9
              have HG9 := hid G9
              clear B9 Y9 G9
              have eH := HH.out
              subst eH
              go_wp2_with fail
              exact ret8 HB9.out (fun ⟨r0, r1, r2, r3, r4, r5, r6, r7⟩ => by simp [results, Tryz.results98, go_sem, r0, r1, r2, r3, r4, r5, r6, r7]) rfl ⟨_, rfl, by omega, HG9.out, HY9.out⟩
            · have B9 := (HZ.out.far (p := ⟨t7, 1, none⟩) hne' (.int .u8 5)).lay8 (u0 := .int .u8 9) (u1 := .int .u8 5) (u2 := .int .i64 ha.pos) (u3 := .int .i64 0) (u4 := .string ⟨#[]⟩) (u5 := .string ⟨#[]⟩) (u6 := .string ⟨#[]⟩) (u7 := .slice (some ⟨w.heap.size + 1 + 1 + 1, 0, none⟩) 2 2)
              have Y9 := (HY.out.setCell (p := ⟨t7, 1, none⟩) (by show w.heap.size ≤ t7; omega) (.int .u8 5)).set8 (g := w.heap.size + 1 + 1) (u0 := .int .u8 9) (u1 := .int .u8 5) (u2 := .int .i64 ha.pos) (u3 := .int .i64 0) (u4 := .string ⟨#[]⟩) (u5 := .string ⟨#[]⟩) (u6 := .string ⟨#[]⟩) (u7 := .slice (some ⟨w.heap.size + 1 + 1 + 1, 0, none⟩) 2 2) (by omega)
              have G9 := (HG.out.far (p := ⟨t7, 1, none⟩) (by show w.heap.size + 1 + 1 + 1 ≠ t7; omega) (.int .u8 5)).far8 (g := w.heap.size + 1 + 1) (u0 := .int .u8 9) (u1 := .int .u8 5) (u2 := .int .i64 ha.pos) (u3 := .int .i64 0) (u4 := .string ⟨#[]⟩) (u5 := .string ⟨#[]⟩) (u6 := .string ⟨#[]⟩) (u7 := .slice (some ⟨w.heap.size + 1 + 1 + 1, 0, none⟩) 2 2) (by omega)
              have HB9 := hid B9
              have HY9 := hid Y9
              have HG9 := hid G9
              clear B9 Y9 G9
              have eH := HH.out
              subst eH
              go_wp2_with fail
              exact ret8 HB9.out (fun ⟨r0, r1, r2, r3, r4, r5, r6, r7⟩ => by simp [results, Tryz.results98, go_sem, r0, r1, r2, r3, r4, r5, r6, r7]) rfl ⟨_, rfl, by omega, HG9.out, HY9.out⟩
          · have B9 := (HZ.out.far (p := ⟨t7, 1, none⟩) hne' (.int .u8 4)).lay8 (u0 := .int .u8 9) (u1 := .int .u8 4) (u2 := .int .i64 ha.pos) (u3 := .int .i64 0) (u4 := .string ⟨#[]⟩) (u5 := .string ⟨#[]⟩) (u6 := .string ⟨#[]⟩) (u7 := .slice (some ⟨w.heap.size + 1 + 1 + 1, 0, none⟩) 2 2)
            have Y9 := (HY.out.setCell (p := ⟨t7, 1, none⟩) (by show w.heap.size ≤ t7; omega) (.int .u8 4)).set8 (g := w.heap.size + 1 + 1) (u0 := .int .u8 9) (u1 := .int .u8 4) (u2 := .int .i64 ha.pos) (u3 := .int .i64 0) (u4 := .string ⟨#[]⟩) (u5 := .string ⟨#[]⟩) (u6 := .string ⟨#[]⟩) (u7 := .slice (some ⟨w.heap.size + 1 + 1 + 1, 0, none⟩) 2 2) (by omega)
            have G9 := (HG.out.far (p := ⟨t7, 1, none⟩) (by show w.heap.size + 1 + 1 + 1 ≠ t7; omega) (.int .u8 4)).far8 (g := w.heap.size + 1 + 1) (u0 := .int .u8 9) (u1 := .int .u8 4) (u2 := .int .i64 ha.pos) (u3 := .int .i64 0) (u4 := .string ⟨#[]⟩) (u5 := .string ⟨#[]⟩) (u6 := .string ⟨#[]⟩) (u7 := .slice (some ⟨w.heap.size + 1 + 1 + 1, 0, none⟩) 2 2) (by omega)
            have HB9 := hid B9
            have HY9 := hid Y9
            have HG9 := hid G9
            clear B9 Y9 G9
            have eH := HH.out
            subst eH
            go_wp2_with fail
            exact ret8 HB9.out (fun ⟨r0, r1, r2, r3, r4, r5, r6, r7⟩ => by simp [results, Tryz.results98, go_sem, r0, r1, r2, r3, r4, r5, r6, r7]) rfl ⟨_, rfl, by omega, HG9.out, HY9.out⟩
        · have B9 := (HZ.out.far (p := ⟨t7, 1, none⟩) hne' (.int .u8 3)).lay8 (u0 := .int .u8 9) (u1 := .int .u8 3) (u2 := .int .i64 ha.pos) (u3 := .int .i64 0) (u4 := .string ⟨#[]⟩) (u5 := .string ⟨#[]⟩) (u6 := .string ⟨#[]⟩) (u7 := .slice (some ⟨w.heap.size + 1 + 1 + 1, 0, none⟩) 2 2)
          have Y9 := (HY.out.setCell (p := ⟨t7, 1, none⟩) (by show w.heap.size ≤ t7; omega) (.int .u8 3)).set8 (g := w.heap.size + 1 + 1) (u0 := .int .u8 9) (u1 := .int .u8 3) (u2 := .int .i64 ha.pos) (u3 := .int .i64 0) (u4 := .string ⟨#[]⟩) (u5 := .string ⟨#[]⟩) (u6 := .string ⟨#[]⟩) (u7 := .slice (some ⟨w.heap.size + 1 + 1 + 1, 0, none⟩) 2 2) (by omega)
          have G9 := (HG.out.far (p := ⟨t7, 1, none⟩) (by show w.heap.size + 1 + 1 + 1 ≠ t7; omega) (.int .u8 3)).far8 (g := w.heap.size + 1 + 1) (u0 := .int .u8 9) (u1 := .int .u8 3) (u2 := .int .i64 ha.pos) (u3 := .int .i64 0) (u4 := .string ⟨#[]⟩) (u5 := .string ⟨#[]⟩) (u6 := .string ⟨#[]⟩) (u7 := .slice (some ⟨w.heap.size + 1 + 1 + 1, 0, none⟩) 2 2) (by omega)
          have HB9 := hid B9
          have HY9 := hid Y9
          have HG9 := hid G9
          clear B9 Y9 G9
          have eH := HH.out
          subst eH
          go_wp2_with fail
          exact ret8 HB9.out (fun ⟨r0, r1, r2, r3, r4, r5, r6, r7⟩ => by simp [results, Tryz.results98, go_sem, r0, r1, r2, r3, r4, r5, r6, r7]) rfl ⟨_, rfl, by omega, HG9.out, HY9.out⟩
      · have B9 := (HZ.out.far (p := ⟨t7, 1, none⟩) hne' (.int .u8 2)).lay8 (u0 := .int .u8 9) (u1 := .int .u8 2) (u2 := .int .i64 ha.pos) (u3 := .int .i64 0) (u4 := .string ⟨#[]⟩) (u5 := .string ⟨#[]⟩) (u6 := .string ⟨#[]⟩) (u7 := .slice (some ⟨w.heap.size + 1 + 1 + 1, 0, none⟩) 2 2)
        have Y9 := (HY.out.setCell (p := ⟨t7, 1, none⟩) (by show w.heap.size ≤ t7; omega) (.int .u8 2)).set8 (g := w.heap.size + 1 + 1) (u0 := .int .u8 9) (u1 := .int .u8 2) (u2 := .int .i64 ha.pos) (u3 := .int .i64 0) (u4 := .string ⟨#[]⟩) (u5 := .string ⟨#[]⟩) (u6 := .string ⟨#[]⟩) (u7 := .slice (some ⟨w.heap.size + 1 + 1 + 1, 0, none⟩) 2 2) (by omega)
        have G9 := (HG.out.far (p := ⟨t7, 1, none⟩) (by show w.heap.size + 1 + 1 + 1 ≠ t7; omega) (.int .u8 2)).far8 (g := w.heap.size + 1 + 1) (u0 := .int .u8 9) (u1 := .int .u8 2) (u2 := .int .i64 ha.pos) (u3 := .int .i64 0) (u4 := .string ⟨#[]⟩) (u5 := .string ⟨#[]⟩) (u6 := .string ⟨#[]⟩) (u7 := .slice (some ⟨w.heap.size + 1 + 1 + 1, 0, none⟩) 2 2) (by omega)
        have HB9 := hid B9
        have HY9 := hid Y9
        have HG9 := hid G9
        clear B9 Y9 G9
        have eH := HH.out
        subst eH
        go_wp2_with fail
        exact ret8 HB9.out (fun ⟨r0, r1, r2, r3, r4, r5, r6, r7⟩ => by simp [results, Tryz.results98, go_sem, r0, r1, r2, r3, r4, r5, r6, r7]) rfl ⟨_, rfl, by omega, HG9.out, HY9.out⟩
    · have B9 := (HZ.out.far (p := ⟨t7, 1, none⟩) hne' (.int .u8 1)).lay8 (u0 := .int .u8 9) (u1 := .int .u8 1) (u2 := .int .i64 ha.pos) (u3 := .int .i64 0) (u4 := .string ⟨#[]⟩) (u5 := .string ⟨#[]⟩) (u6 := .string ⟨#[]⟩) (u7 := .slice (some ⟨w.heap.size + 1 + 1 + 1, 0, none⟩) 2 2)
      have Y9 := (HY.out.setCell (p := ⟨t7, 1, none⟩) (by show w.heap.size ≤ t7; omega) (.int .u8 1)).set8 (g := w.heap.size + 1 + 1) (u0 := .int .u8 9) (u1 := .int .u8 1) (u2 := .int .i64 ha.pos) (u3 := .int .i64 0) (u4 := .string ⟨#[]⟩) (u5 := .string ⟨#[]⟩) (u6 := .string ⟨#[]⟩) (u7 := .slice (some ⟨w.heap.size + 1 + 1 + 1, 0, none⟩) 2 2) (by omega)
      have G9 := (HG.out.far (p := ⟨t7, 1, none⟩) (by show w.heap.size + 1 + 1 + 1 ≠ t7; omega) (.int .u8 1)).far8 (g := w.heap.size + 1 + 1) (u0 := .int .u8 9) (u1 := .int .u8 1) (u2 := .int .i64 ha.pos) (u3 := .int .i64 0) (u4 := .string ⟨#[]⟩) (u5 := .string ⟨#[]⟩) (u6 := .string ⟨#[]⟩) (u7 := .slice (some ⟨w.heap.size + 1 + 1 + 1, 0, none⟩) 2 2) (by omega)
      have HB9 := hid B9
      have HY9 := hid Y9
      have HG9 := hid G9
      clear B9 Y9 G9
      have eH := HH.out
      subst eH
      go_wp2_with fail
      exact ret8 HB9.out (fun ⟨r0, r1, r2, r3, r4, r5, r6, r7⟩ => by simp [results, Tryz.results98, go_sem, r0, r1, r2, r3, r4, r5, r6, r7]) rfl ⟨_, rfl, by omega, HG9.out, HY9.out⟩
  · have B9 := (HZ.out.far (p := ⟨t7, 0, none⟩) hne' (.int .u8 8)).lay8 (u0 := .int .u8 8) (u1 := .int .u8 0) (u2 := .int .i64 ha.pos) (u3 := .int .i64 0) (u4 := .string ⟨#[]⟩) (u5 := .string ⟨#[]⟩) (u6 := .string ⟨#[]⟩) (u7 := .slice (some ⟨w.heap.size + 1 + 1 + 1, 0, none⟩) 2 2)
    have Y9 := (HY.out.setCell (p := ⟨t7, 0, none⟩) (by show w.heap.size ≤ t7; omega) (.int .u8 8)).set8 (g := w.heap.size + 1 + 1) (u0 := .int .u8 8) (u1 := .int .u8 0) (u2 := .int .i64 ha.pos) (u3 := .int .i64 0) (u4 := .string ⟨#[]⟩) (u5 := .string ⟨#[]⟩) (u6 := .string ⟨#[]⟩) (u7 := .slice (some ⟨w.heap.size + 1 + 1 + 1, 0, none⟩) 2 2) (by omega)
    have G9 := (HG.out.far (p := ⟨t7, 0, none⟩) (by show w.heap.size + 1 + 1 + 1 ≠ t7; omega) (.int .u8 8)).far8 (g := w.heap.size + 1 + 1) (u0 := .int .u8 8) (u1 := .int .u8 0) (u2 := .int .i64 ha.pos) (u3 := .int .i64 0) (u4 := .string ⟨#[]⟩) (u5 := .string ⟨#[]⟩) (u6 := .string ⟨#[]⟩) (u7 := .slice (some ⟨w.heap.size + 1 + 1 + 1, 0, none⟩) 2 2) (by omega)
    have HB9 := hid B9
    have HY9 := hid Y9
    have HG9 := hid G9
    clear B9 Y9 G9
    have eH := HH.out
    subst eH
    go_wp2_with fail
    exact ret8 HB9.out (fun ⟨r0, r1, r2, r3, r4, r5, r6, r7⟩ => by simp [results, Tryz.results98, go_sem, r0, r1, r2, r3, r4, r5, r6, r7]) rfl ⟨_, rfl, by omega, HG9.out, HY9.out⟩
end Go.Proofs.YtaioeailgknfjaaGreatDoor
