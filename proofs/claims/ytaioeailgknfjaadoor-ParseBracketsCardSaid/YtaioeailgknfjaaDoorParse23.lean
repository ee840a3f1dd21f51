/- The walk of parse.Parse. -/
import Derived.Test.YtaioeailgknfjaaDoorParse22
namespace Go.Proofs.YtaioeailgknfjaaDoor
open Go Go.RowKit Go.Sort

theorem ek_prog : ∀ args w, (callFunc 23 args).run Tryd.prog w = .ok (.enter 23 args) w := fun args w => by kernel_rfl
/-- A program as a value. -/
def IsPg (w : World) (q : List Tk × Tm) (v : Value) : Prop := ∃ ea en ec a n c, v = .agg #[.slice ea en ec, .int .u8 q.2.head.k, .int .u8 q.2.head.op, .int .i64 q.2.head.pos, .int .i64 q.2.head.n, .string q.2.head.name, .string q.2.head.arg, .string q.2.head.exn, .slice a n c] ∧ en ≤ ec ∧ ec ≤ 9223372036854775807 ∧ IsToks w q.1 ea en ∧ q.2.head.Fits ∧ n ≤ c ∧ c ≤ 9223372036854775807 ∧ IsTms w q.2.kids a n
/-- What Parse hands back. -/
def RetProg (w : World) (r : Except (Int × Int) (List Tk × Tm)) (e : Ending) (w' : World) : Prop := Ext w w' ∧ match r with
  | .error (p, f) => e = .returned (.tuple #[.agg #[.slice none 0 0, .int .u8 0, .int .u8 0, .int .i64 0, .int .i64 0, .string ⟨#[]⟩, .string ⟨#[]⟩, .string ⟨#[]⟩, .slice none 0 0], .int .i64 p, .int .i64 f])
  | .ok q => ∃ v, e = .returned (.tuple #[v, .int .i64 0, .int .i64 0]) ∧ IsPg w' q v
def progR (B : List UInt8) : Except (Int × Int) (List Tk × Tm) := runR progL B
theorem Blk.lay09 {w : World} {g : Nat} {t : TypeId} {c0 c1 c2 c3 c4 c5 c6 c7 c8 u0 u1 u2 u3 u4 u5 u6 u7 u8 : Value} (h : Blk w g t #[c0, c1, c2, c3, c4, c5, c6, c7, c8]) : Blk (Go.Proofs.YtaioeailgknfjaaDoor.lay9 (w.setCell ⟨g, 0, none⟩ u0) g u1 u2 u3 u4 u5 u6 u7 u8) g t #[u0, u1, u2, u3, u4, u5, u6, u7, u8] := by
  have h0 := h.set_ 0 u0
  simp only [List.setIfInBounds_toArray, List.set_cons_zero] at h0
  exact h0.lay9
theorem Ext.lay09 {a w : World} {g : Nat} {u0 u1 u2 u3 u4 u5 u6 u7 u8 : Value} (h : Ext a w) (hg : a.heap.size ≤ g) : Ext a (lay9 (w.setCell ⟨g, 0, none⟩ u0) g u1 u2 u3 u4 u5 u6 u7 u8) :=
  (((((((((h.setCell (p := ⟨g, 0, none⟩) hg u0).setCell (p := ⟨g, 1, none⟩) hg u1).setCell (p := ⟨g, 2, none⟩) hg u2).setCell (p := ⟨g, 3, none⟩) hg u3).setCell (p := ⟨g, 4, none⟩) hg u4).setCell (p := ⟨g, 5, none⟩) hg u5).setCell (p := ⟨g, 6, none⟩) hg u6).setCell (p := ⟨g, 7, none⟩) hg u7).setCell (p := ⟨g, 8, none⟩) hg u8)
theorem ExtX.lay09 {A : Nat → Prop} {a w : World} {g : Nat} {u0 u1 u2 u3 u4 u5 u6 u7 u8 : Value} (h : ExtX A a w) (hg : A g ∨ a.heap.size ≤ g) : ExtX A a (Go.Proofs.YtaioeailgknfjaaDoor.lay9 (w.setCell ⟨g, 0, none⟩ u0) g u1 u2 u3 u4 u5 u6 u7 u8) := (h.setCell (p := ⟨g, 0, none⟩) hg u0).lay9 hg
set_option maxRecDepth 60000 in
set_option maxHeartbeats 4000000 in
theorem parse_prog (B : List UInt8) (w : World) (a : Option Addr) (len cap : Nat) (h1 : len ≤ cap) (h2 : cap ≤ 9223372036854775807) (hr : IsBytes w B a len) (hk : Knob w) :
    Calls Tryd.prog 14 #[.slice a len cap] w (RetProg w (progR B)) := by
  have KR := Lib.hid fun (W : World) (ob : Nat) (h : Ext w W) (hO : OutPZ ob W) (hob : ob < W.heap.size) => parse_run 23 ob ek_prog progL (OutPZ ob) (OutP ob) (prog_whole ob) B W a len cap h1 h2 (hr.ext h) (hk.ext h) hO hob
  have HRE := Lib.hid fun p (h : progR B = .error p) => runR_err h
  have KR : Hid (∀ (W : World) (ob : Nat), Ext w W → OutPZ ob W → ob < W.heap.size → Calls Tryd.prog 20 #[.slice a len cap, .func (.func 23) #[] #[.pointer (some ⟨ob, 0, none⟩)]] W (RetRun ob (OutP ob) W (progR B))) := Lib.hid fun W ob h hO hob => KR.out W ob h hO hob
  generalize progR B = r at *
  clear hr hk
  have hOO : OutPZ (w.heap.size + 1) ((w.alloc (.cells #[.slice none 0 0, .int .u8 0, .int .u8 0, .int .i64 0, .int .i64 0, .string ⟨#[]⟩, .string ⟨#[]⟩, .string ⟨#[]⟩, .slice none 0 0] 44)).alloc (.cells #[.slice none 0 0, .int .u8 0, .int .u8 0, .int .i64 0, .int .i64 0, .string ⟨#[]⟩, .string ⟨#[]⟩, .string ⟨#[]⟩, .slice none 0 0] 44)) := by
    have h := Blk.new (w.alloc (.cells #[.slice none 0 0, .int .u8 0, .int .u8 0, .int .i64 0, .int .i64 0, .string ⟨#[]⟩, .string ⟨#[]⟩, .string ⟨#[]⟩, .slice none 0 0] 44)) 44 #[.slice none 0 0, .int .u8 0, .int .u8 0, .int .i64 0, .int .i64 0, .string ⟨#[]⟩, .string ⟨#[]⟩, .string ⟨#[]⟩, .slice none 0 0]
    rw [World.size_alloc] at h
    exact h
  have hZ0 := (Blk.new w 44 #[.slice none 0 0, .int .u8 0, .int .u8 0, .int .i64 0, .int .i64 0, .string ⟨#[]⟩, .string ⟨#[]⟩, .string ⟨#[]⟩, .slice none 0 0]).alloc (.cells #[.slice none 0 0, .int .u8 0, .int .u8 0, .int .i64 0, .int .i64 0, .string ⟨#[]⟩, .string ⟨#[]⟩, .string ⟨#[]⟩, .slice none 0 0] 44)
  have HOO := Lib.hid hOO
  have HZ0 := Lib.hid hZ0
  clear hOO hZ0
  go_enter Tryd.func14, Tryd.ntmps14
  go_wp2_with fail
  refine (KR.out _ _ (by (repeat (first | (with_reducible assumption) | (with_reducible exact Ext.refl _) | (with_reducible refine Ext.alloc ?_ _) | (with_reducible refine Ext.drew ?_) | ((with_reducible refine Ext.setCell ?_ ?_ _); rotate_left 1; (first | (focus (simp; done)) | (focus (simp; omega)) | omega)) | exact Ext.refl _ | assumption | refine Ext.alloc ?_ _ | refine Ext.drew ?_ | refine Ext.setCell ?_ (by (first | (focus (simp; done)) | (focus (simp; omega)) | omega)) _ | refine Ext.trans ?_ (by assumption)))) HOO.out (by simp)).mono ?_
  rintro e w1 ⟨rfl, x1, hV⟩
  have hZ1 := HZ0.out.extx x1 (show ¬ w.heap.size = w.heap.size + 1 by omega)
  obtain ⟨z0, z1, z2, z3, z4, z5, z6, z7, z8⟩ := hZ1.nine
  obtain ⟨f0, f1, f2, f3, f4, f5, f6, f7, f8⟩ := hZ1.frozen9
  have hlz := hZ1.lt
  have y1 : Ext w w1 := ExtX.ext (w0 := _) (by (repeat (first | (with_reducible assumption) | (with_reducible exact Ext.refl _) | (with_reducible refine Ext.alloc ?_ _) | (with_reducible refine Ext.drew ?_) | ((with_reducible refine Ext.setCell ?_ ?_ _); rotate_left 1; (first | (focus (simp; done)) | (focus (simp; omega)) | omega)) | exact Ext.refl _ | assumption | refine Ext.alloc ?_ _ | refine Ext.drew ?_ | refine Ext.setCell ?_ (by (first | (focus (simp; done)) | (focus (simp; omega)) | omega)) _ | refine Ext.trans ?_ (by assumption)))) x1 (fun b hb => by have hb : b = w.heap.size + 1 := hb; omega)
  have HZ1 := Lib.hid hZ1
  have HY1 := Lib.hid y1
  have HV := Lib.hid hV
  clear hZ1 y1 hV x1
  cases r with
  | error q =>
    obtain ⟨p, f⟩ := q
    have hf := HRE.out _ rfl
    have hfb : (f != 0) = true := by simpa using hf
    simp only [runE]
    clear hf
    have B9 := Lib.hid (HZ1.out.lay09 (u0 := .slice none 0 0) (u1 := .int .u8 0) (u2 := .int .u8 0) (u3 := .int .i64 0) (u4 := .int .i64 0) (u5 := .string ⟨#[]⟩) (u6 := .string ⟨#[]⟩) (u7 := .string ⟨#[]⟩) (u8 := .slice none 0 0))
    have Y9 := Lib.hid (HY1.out.lay09 (g := w.heap.size) (u0 := .slice none 0 0) (u1 := .int .u8 0) (u2 := .int .u8 0) (u3 := .int .i64 0) (u4 := .int .i64 0) (u5 := .string ⟨#[]⟩) (u6 := .string ⟨#[]⟩) (u7 := .string ⟨#[]⟩) (u8 := .slice none 0 0) (Nat.le_refl _))
    unfold lay9 at B9 Y9
    go_wp2_with fail
    obtain ⟨r0, r1, r2, r3, r4, r5, r6, r7, r8⟩ := B9.out.nine
    exact bodyPost_ret (v := .tuple #[.agg #[.slice none 0 0, .int .u8 0, .int .u8 0, .int .i64 0, .int .i64 0, .string ⟨#[]⟩, .string ⟨#[]⟩, .string ⟨#[]⟩, .slice none 0 0], .int .i64 p, .int .i64 f]) (by simp [results, Tryd.results14, go_sem, r0, r1, r2, r3, r4, r5, r6, r7, r8]) rfl ⟨Y9.out, rfl⟩
  | ok t =>
    obtain ⟨B0, hB0, ea, en, ec, ta, tn, tc, hB, k1, k2, hTk, hf, g1, g2, hT⟩ := HV.out t rfl
    obtain ⟨es, x, ks⟩ := t
    simp only [Tm.head, Tm.kids] at hB hf hT hTk
    simp only [runE]
    obtain ⟨c0, c1, c2, c3, c4, c5, c6, c7, c8⟩ := hB.nine
    have hlb := hB.lt
    have B9 := Lib.hid (HZ1.out.lay09 (u0 := .slice ea en ec) (u1 := .int .u8 x.k) (u2 := .int .u8 x.op) (u3 := .int .i64 x.pos) (u4 := .int .i64 x.n) (u5 := .string x.name) (u6 := .string x.arg) (u7 := .string x.exn) (u8 := .slice ta tn tc))
    have Y9 := Lib.hid (HY1.out.lay09 (g := w.heap.size) (u0 := .slice ea en ec) (u1 := .int .u8 x.k) (u2 := .int .u8 x.op) (u3 := .int .i64 x.pos) (u4 := .int .i64 x.n) (u5 := .string x.name) (u6 := .string x.arg) (u7 := .string x.exn) (u8 := .slice ta tn tc) (Nat.le_refl _))
    have hB1 : w.heap.size < B0 := by simp at hB0; omega
    have X9 := (ExtX.refl (A := (· = w.heap.size)) w1).lay09 (g := w.heap.size) (u0 := .slice ea en ec) (u1 := .int .u8 x.k) (u2 := .int .u8 x.op) (u3 := .int .i64 x.pos) (u4 := .int .i64 x.n) (u5 := .string x.name) (u6 := .string x.arg) (u7 := .string x.exn) (u8 := .slice ta tn tc) (.inl rfl)
    have T9 := Lib.hid (hT.extx X9 (fun b (e : b = w.heap.size) => by subst e; exact hB1))
    have TK9 := Lib.hid (hTk.keep X9 (fun b hb (e : b = w.heap.size) => by omega))
    have HF := Lib.hid hf
    unfold lay9 at B9 Y9 T9 TK9
    clear hB hf hT hTk X9
    go_wp2_with fail
    obtain ⟨r0, r1, r2, r3, r4, r5, r6, r7, r8⟩ := B9.out.nine
    exact bodyPost_ret (v := .tuple #[.agg #[.slice ea en ec, .int .u8 x.k, .int .u8 x.op, .int .i64 x.pos, .int .i64 x.n, .string x.name, .string x.arg, .string x.exn, .slice ta tn tc], .int .i64 0, .int .i64 0]) (by simp [results, Tryd.results14, go_sem, r0, r1, r2, r3, r4, r5, r6, r7, r8]) rfl ⟨Y9.out, _, rfl, ea, en, ec, ta, tn, tc, rfl, k1, k2, TK9.out.1, HF.out, g1, g2, T9.out.any⟩
end Go.Proofs.YtaioeailgknfjaaDoor
