/- The walks of package types, third part: what makes types; Same. -/
import Derived.Test.YtopkjocdeolbmaaDoorTypes2
import Derived.Deep.RegionHeld3
namespace Go.Proofs.YtopkjocdeolbmaaDoor
open Go Go.RowKit Go.Sort

/-- A call hands back a type. -/
def RetTy (A : Nat → Prop) (w : World) (t : Ty) (e : Ending) (w' : World) : Prop := ∃ v, e = .returned v ∧ IsTyA A w' t v ∧ Ext w w'
/-- All of these blocks are there. -/
def There (A : Nat → Prop) (w : World) : Prop := ∀ b, A b → b < w.heap.size
theorem There.not_ {A : Nat → Prop} {w : World} (h : There A w) {b : Nat} (hb : w.heap.size ≤ b) : ¬ A b := fun ha => by have := h b ha; omega
theorem There.ext {A : Nat → Prop} {w w' : World} (h : There A w) (hx : Ext w w') : There A w' := fun b hb => Nat.lt_of_lt_of_le (h b hb) hx.size
theorem There.none_ (w : World) : There NoA w := fun _ h => h.elim
/-- A's blocks and one more. -/
def plus (A : Nat → Prop) (g : Nat) : Nat → Prop := fun b => A b ∨ b = g
theorem There.plus {A : Nat → Prop} {w : World} {g : Nat} (h : There A w) (hg : g < w.heap.size) : There (plus A g) w := fun b hb => by
  rcases hb with hb | rfl
  · exact h b hb
  · exact hg
theorem IsTyA.plus {A : Nat → Prop} {w : World} {g : Nat} (hg : w.heap.size ≤ g) {t : Ty} {v : Value} (h : IsTyA A w t v) : IsTyA (plus A g) w t v :=
  h.off fun b hb ha => by
    rcases ha with ha | rfl
    · exact ha
    · omega
theorem IsTysA.plus {A : Nat → Prop} {w : World} {g : Nat} (hg : w.heap.size ≤ g) {l : List Ty} {a : Option Addr} {len : Nat} (h : IsTysA A w l a len) : IsTysA (plus A g) w l a len :=
  h.off fun b hb ha => by
    rcases ha with ha | rfl
    · exact ha
    · omega
theorem IsTyA.minus {A : Nat → Prop} {w : World} {g : Nat} {t : Ty} {v : Value} (h : IsTyA (Go.Proofs.YtopkjocdeolbmaaDoor.plus A g) w t v) : IsTyA A w t v := h.off fun _ _ ha => .inl ha
theorem IsTysA.minus {A : Nat → Prop} {w : World} {g : Nat} {l : List Ty} {a : Option Addr} {len : Nat} (h : IsTysA (Go.Proofs.YtopkjocdeolbmaaDoor.plus A g) w l a len) : IsTysA A w l a len := h.off fun _ _ ha => .inl ha

set_option maxHeartbeats 400000 in
theorem types_int (A : Nat → Prop) (w : World) : Calls Tryd.prog 13 #[] w (RetTy A w (.mk 1 0 [])) := by
  go_enter Tryd.func13, Tryd.ntmps13
  go_wp2_with fail
  exact bodyPost_ret (v := .agg #[.int .u8 1, .int .i64 0, .slice none 0 0]) (by simp [results, Tryd.results13, go_sem]) rfl
    ⟨_, rfl, IsTyA.mk_ (IsTysA.nil _) (by omega) (by omega) (by omega) (by omega) (by omega) (by omega), (Ext.refl w).alloc _⟩

set_option maxHeartbeats 400000 in
theorem types_pair {A : Nat → Prop} (t t' : Ty) (w : World) (v v' : Value) (hA : There A w) (ht : IsTyA A w t v) (ht' : IsTyA A w t' v') : Calls Tryd.prog 14 #[v, v'] w (RetTy A w (.mk 2 0 [t, t'])) := by
  have ht0 := ht
  have ht0' := ht'
  obtain ⟨k, n, l⟩ := t
  obtain ⟨k', n', l'⟩ := t'
  obtain ⟨a, len, cap, rfl, h1, h2, h3, h4, h5, h6, hl⟩ := ht.open_
  obtain ⟨a', len', cap', rfl, h1', h2', h3', h4', h5', h6', hl'⟩ := ht'.open_
  go_enter Tryd.func14, Tryd.ntmps14
  go_wp2_with fail
  have x : Ext w ((((w.alloc (.cells #[.int .u8 k, .int .i64 n, .slice a len cap] 25)).alloc (.cells #[.int .u8 k', .int .i64 n', .slice a' len' cap'] 25)).alloc
    (.cells #[.int .u8 2, .int .i64 0, .slice (some ⟨w.heap.size + 1 + 1 + 1, 0, none⟩) 2 2] 25)).alloc (.cells #[.int .u8 k, .int .i64 n, .slice a len cap, .int .u8 k', .int .i64 n', .slice a' len' cap'] 25)) := ((((Ext.refl w).alloc _).alloc _).alloc _).alloc _
  exact bodyPost_ret (v := .agg #[.int .u8 2, .int .i64 0, .slice (some ⟨w.heap.size + 1 + 1 + 1, 0, none⟩) 2 2]) (by simp [results, Tryd.results14, go_sem]) rfl
    ⟨_, rfl, IsTyA.mk_ (IsTysA.two (hA.not_ (by omega)) (ht0.ext x) (ht0'.ext x) (by simp [go_sem]) (by simp [go_sem]) (by simp [go_sem]) (by simp [go_sem]) (by simp [go_sem]) (by simp [go_sem])) (by omega) (by omega) (by omega) (by omega) (by omega) (by omega), x⟩

set_option maxHeartbeats 400000 in
theorem types_ref {A : Nat → Prop} (t : Ty) (w : World) (v : Value) (hA : There A w) (ht : IsTyA A w t v) : Calls Tryd.prog 15 #[v] w (RetTy A w (.mk 3 0 [t])) := by
  have ht0 := ht
  obtain ⟨k, n, l⟩ := t
  obtain ⟨a, len, cap, rfl, h1, h2, h3, h4, h5, h6, hl⟩ := ht.open_
  go_enter Tryd.func15, Tryd.ntmps15
  go_wp2_with fail
  have x : Ext w (((w.alloc (.cells #[.int .u8 k, .int .i64 n, .slice a len cap] 25)).alloc
    (.cells #[.int .u8 3, .int .i64 0, .slice (some ⟨w.heap.size + 1 + 1, 0, none⟩) 1 1] 25)).alloc (.cells #[.int .u8 k, .int .i64 n, .slice a len cap] 25)) := (((Ext.refl w).alloc _).alloc _).alloc _
  exact bodyPost_ret (v := .agg #[.int .u8 3, .int .i64 0, .slice (some ⟨w.heap.size + 1 + 1, 0, none⟩) 1 1]) (by simp [results, Tryd.results15, go_sem]) rfl
    ⟨_, rfl, IsTyA.mk_ (IsTysA.one (hA.not_ (by omega)) (ht0.ext x) (by simp [go_sem]) (by simp [go_sem]) (by simp [go_sem])) (by omega) (by omega) (by omega) (by omega) (by omega) (by omega), x⟩

set_option maxHeartbeats 400000 in
theorem ref_of {A : Nat → Prop} (k : Int) (l : List Ty) (w : World) (a : Option Addr) (len cap : Nat) (h1 : len ≤ cap) (h2 : cap ≤ 9223372036854775807) (hk0 : 0 ≤ k) (hk1 : k ≤ 255) (hl : IsTysA A w l a len) :
    Calls Tryd.prog 9 #[.int .u8 k, .slice a len cap] w (RetTy A w (.mk k 0 l)) := by
  go_enter Tryd.func9, Tryd.ntmps9
  go_wp2_with fail
  have x : Ext w (w.alloc (.cells #[.int .u8 k, .int .i64 0, .slice a len cap] 25)) := (Ext.refl w).alloc _
  exact bodyPost_ret (v := .agg #[.int .u8 k, .int .i64 0, .slice a len cap]) (by simp [results, Tryd.results9, go_sem]) rfl
    ⟨_, rfl, IsTyA.mk_ (hl.ext x) (by omega) (by omega) (by omega) (by omega) (by omega) (by omega), x⟩
def Ty.fn : List Ty → Ty
  | [] => .mk 1 0 []
  | [t] => t
  | t :: t' :: l => .mk 4 0 [t, Ty.fn (t' :: l)]

set_option maxHeartbeats 1000000 in
theorem types_fn : ∀ (l : List Ty) (A : Nat → Prop) (w : World) (a : Option Addr) (len cap : Nat), There A w → len ≤ cap → cap ≤ 9223372036854775807 → IsTysA A w l a len →
    Calls Tryd.prog 12 #[.slice a len cap] w (RetTy A w (Ty.fn l)) := by
  intro l
  induction l with
  | nil =>
    intro A w a len cap hA h1 h2 hl
    obtain rfl := hl.length
    go_enter Tryd.func12, Tryd.ntmps12
    go_wp2_with fail
    refine (types_int NoA _).mono ?_
    rintro e w1 ⟨v, rfl, hv, x1⟩
    obtain ⟨a', len', cap', rfl, g1, g2, _, _, _, _, gl⟩ := hv.open_
    obtain rfl := gl.length
    have B := (Blk.new w 25 #[.int .u8 0, .int .i64 0, .slice none 0 0]).ext x1
    have f0 := B.frozen 0
    have f1 := B.frozen 1
    have f2 := B.frozen 2
    have d0 := B.cell 0
    have d1 := B.cell 1
    have d2 := B.cell 2
    have hsz := B.lt
    have B3 := ((B.set_ 0 (.int .u8 1)).set_ 1 (.int .i64 0)).set_ 2 (.slice a' 0 cap')
    go_wp2_with fail
    have r0 := B3.cell 0
    have r1 := B3.cell 1
    have r2 := B3.cell 2
    exact bodyPost_ret (v := .agg #[.int .u8 1, .int .i64 0, .slice a' 0 cap']) (by simp [results, Tryd.results12, go_sem, r0, r1, r2]) rfl
      ⟨_, rfl, IsTyA.mk_ (IsTysA.nil _) (by omega) (by omega) (by omega) (by omega) (by omega) (by omega), (((((Ext.refl w).alloc _).trans x1).setCell (Nat.le_refl _) _).setCell (Nat.le_refl _) _).setCell (Nat.le_refl _) _⟩
  | cons t l ih =>
    intro A w a len cap hA h1 h2 hl
    have hlen := hl.length
    obtain ⟨b, o, c0, c1, c2, rfl, q0, q1, q2, qt, hbA⟩ := hl.at_ (i := 0) (t := t) rfl
    simp at q0 q1 q2
    have e0 := block_lt_of_cell q0
    simp at e0
    obtain ⟨k, n, lk⟩ := t
    obtain ⟨ak, lenk, capk, e, p1, p2, p3, p4, p5, p6, pl⟩ := qt.open_
    simp at e
    obtain ⟨rfl, rfl, rfl⟩ := e
    cases l with
    | nil =>
      simp at hlen
      subst hlen
      go_enter Tryd.func12, Tryd.ntmps12
      go_wp2_with fail
      exact bodyPost_ret (v := .agg #[.int .u8 k, .int .i64 n, .slice ak lenk capk]) (by simp [results, Tryd.results12, go_sem]) rfl
        ⟨_, rfl, qt.ext ((Ext.refl w).alloc _), (Ext.refl w).alloc _⟩
    | cons t' l =>
      simp at hlen
      have hl1 := hl.tail_
      have n0 : ((len : Int) == 0) = false := by simp; omega
      have n1 : ((len : Int) == 1) = false := by simp; omega
      have n2 : (1 : Int) ≤ (len : Int) := by omega
      have m0 : (0 : Int) < (len : Int) := by omega
      have m2 : (len : Int) ≤ (cap : Int) := by omega
      have n3 : ((len : Int) ≤ cap) := by omega
      have n4 : ¬ cap = 1 := by omega
      have m3 : 0 < len := by omega
      have hP : ∀ W, Ext (w.alloc (.cells #[.int .u8 0, .int .i64 0, .slice none 0 0] 25)) W → Calls Tryd.prog 12 #[.slice (some ⟨b, o + 3, none⟩) (len - 1) (cap - 1)] W (RetTy (plus A w.heap.size) W (Ty.fn (t' :: l))) :=
        fun W hx => ih (plus A w.heap.size) W _ _ _ ((hA.ext (((Ext.refl w).alloc _).trans hx)).plus (by have := hx.size; simp at this; omega)) (by omega) (by omega) ((hl1.plus (Nat.le_refl _)).ext (((Ext.refl w).alloc _).trans hx))
      obtain ⟨tf, hF⟩ : ∃ tf, Ty.fn (t' :: l) = tf := ⟨_, rfl⟩
      rw [hF] at hP
      have HF : Hid (Ty.fn (.mk k n lk :: t' :: l) = .mk 4 0 [.mk k n lk, tf]) := by show _ = _; rw [← hF]; rfl
      obtain ⟨kf, nf, lf⟩ := tf
      have HP := Lib.hid hP
      have HLEN := Lib.hid hlen
      clear hlen hP ih hF
      have k0 := fun W (h : Ext w W) => h.cell q0
      have k1 := fun W (h : Ext w W) => h.cell q1
      have k2 := fun W (h : Ext w W) => h.cell q2
      go_enter Tryd.func12, Tryd.ntmps12
      go_wp2_with fail
      go_region_held3 (fun w' => Ext w w') ((repeat (first | exact Ext.refl _ | assumption | refine Ext.alloc ?_ _ | refine Ext.drew ?_ | refine Ext.setCell ?_ (by first | (simp; done) | (simp; omega) | omega) _ | refine Ext.trans ?_ (by assumption)))) ((first | (go_at_call 12; refine (HP.out _ ((Ext.refl _).drew)).mono ?_; rintro e w1 ⟨v, rfl, hv, x1⟩; obtain ⟨af, lenf, capf, rfl, f1, f2, f3, f4, f5, f6, fl⟩ := hv.open_; have hxw := (((Ext.refl w).alloc _).drew).trans x1; have B := (Blk.new w 25 #[.int .u8 0, .int .i64 0, .slice none 0 0]).drew.ext x1; have hsz := B.lt; have B1 := B.frozen; have B2 := B.cell)))
      rename_i hfin
      have B3 := (((B.set_ 0 (.int .u8 4)).set_ 1 (.int .i64 0)).set_ 2 (.slice (some ⟨w1.heap.size, 0, none⟩) 2 2)).alloc (.cells #[.int .u8 k, .int .i64 n, .slice ak lenk capk, .int .u8 kf, .int .i64 nf, .slice af lenf capf] 25)
      have r0 := B3.cell 0
      have r1 := B3.cell 1
      have r2 := B3.cell 2
      have hv3 := (((hv.setCell (p := ⟨w.heap.size, 0, none⟩) (.inr rfl) (.int .u8 4)).setCell (p := ⟨w.heap.size, 1, none⟩) (.inr rfl) (.int .i64 0)).setCell (p := ⟨w.heap.size, 2, none⟩) (.inr rfl) (.slice (some ⟨w1.heap.size, 0, none⟩) 2 2)).ext ((Ext.refl _).alloc (.cells #[.int .u8 k, .int .i64 n, .slice ak lenk capk, .int .u8 kf, .int .i64 nf, .slice af lenf capf] 25))
      have qtf := qt.ext hfin
      clear B B1 B2 hv fl k0 k1 k2 x1
      go_wp2_with fail
      refine bodyPost_ret (v := .agg #[.int .u8 4, .int .i64 0, .slice (some ⟨w1.heap.size, 0, none⟩) 2 2]) (by simp [results, Tryd.results12, go_sem, r0, r1, r2]) rfl
        ⟨_, rfl, ?_, hfin⟩
      rw [HF.out]
      exact IsTyA.mk_ (IsTysA.two (hA.not_ (by omega)) qtf hv3.minus (by simp [go_sem]) (by simp [go_sem]) (by simp [go_sem]) (by simp [go_sem]) (by simp [go_sem]) (by simp [go_sem])) (by omega) (by omega) (by omega) (by omega) (by omega) (by omega)
end Go.Proofs.YtopkjocdeolbmaaDoor
