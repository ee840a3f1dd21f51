/- Part 15 of the proof: Parse3; no condition of ours. -/
import Derived.Test.YtaioeailgknfjaaGreatDoorPkp13
import Derived.Test.YtaioeailgknfjaaGreatDoorPkp14
set_option linter.unusedVariables false
set_option linter.unusedSimpArgs false
namespace Go.Proofs.YtaioeailgknfjaaGreatDoor
open Go.Lib (hid)
open Go Go.RowKit Go.Sort
theorem ExtX.mono {A A' : Nat → Prop} {w w' : World} (h : ExtX A w w') (hA : ∀ b, A b → A' b) : ExtX A' w w' := ⟨h.os, h.tape, h.output, h.size, fun k hk ha => h.block k hk fun g => ha (hA k g)⟩
theorem IsTmA.extx {A X : Nat → Prop} {w w' : World} (hx : ExtX X w w') (hA : ∀ b, X b → A b) {t : Tm} {v : Value} (h : IsTmA A w t v) : IsTmA A w' t v :=
  h.move (fun _ _ h => h) fun _ _ hq hv => hx.cell (fun g => hq (hA _ g)) hv
theorem IsTmsA.extx {A X : Nat → Prop} {w w' : World} (hx : ExtX X w w') (hA : ∀ b, X b → A b) {l : List Tm} {a : Option Addr} {len : Nat} (h : IsTmsA A w l a len) : IsTmsA A w' l a len :=
  h.move (fun _ _ h => h) fun _ _ hq hv => hx.cell (fun g => hq (hA _ g)) hv
theorem blk_top {w w1 : World} {cs : Array Value} {T : TypeId} (x : Ext (w.alloc (.cells cs T)) w1) : Blk w1 w.heap.size T cs := (Blk.new w T cs).ext x
theorem blk_under {w w1 : World} {cs : Array Value} {T : TypeId} {o : Obj} (x : Ext ((w.alloc (.cells cs T)).alloc o) w1) : Blk w1 w.heap.size T cs := ((Blk.new w T cs).alloc o).ext x
theorem blk_under2 {w w1 : World} {cs : Array Value} {T : TypeId} {o o2 : Obj} (x : Ext (((w.alloc (.cells cs T)).alloc o).alloc o2) w1) : Blk w1 w.heap.size T cs := (((Blk.new w T cs).alloc o).alloc o2).ext x
theorem Blk.eight {w : World} {g : Nat} {t : TypeId} {c0 c1 c2 c3 c4 c5 c6 c7 : Value} (h : Blk w g t #[c0, c1, c2, c3, c4, c5, c6, c7]) :
    w.cell? ⟨g, 0, none⟩ = some c0 ∧ w.cell? ⟨g, 1, none⟩ = some c1 ∧ w.cell? ⟨g, 2, none⟩ = some c2 ∧ w.cell? ⟨g, 3, none⟩ = some c3 ∧ w.cell? ⟨g, 4, none⟩ = some c4 ∧ w.cell? ⟨g, 5, none⟩ = some c5 ∧ w.cell? ⟨g, 6, none⟩ = some c6 ∧ w.cell? ⟨g, 7, none⟩ = some c7 :=
  ⟨h.cell 0, h.cell 1, h.cell 2, h.cell 3, h.cell 4, h.cell 5, h.cell 6, h.cell 7⟩
theorem Blk.frozen8 {w : World} {g : Nat} {t : TypeId} {cs : Array Value} (h : Blk w g t cs) :
    w.frozen? ⟨g, 0, none⟩ = false ∧ w.frozen? ⟨g, 1, none⟩ = false ∧ w.frozen? ⟨g, 2, none⟩ = false ∧ w.frozen? ⟨g, 3, none⟩ = false ∧ w.frozen? ⟨g, 4, none⟩ = false ∧ w.frozen? ⟨g, 5, none⟩ = false ∧ w.frozen? ⟨g, 6, none⟩ = false ∧ w.frozen? ⟨g, 7, none⟩ = false :=
  ⟨h.frozen 0, h.frozen 1, h.frozen 2, h.frozen 3, h.frozen 4, h.frozen 5, h.frozen 6, h.frozen 7⟩
theorem Blk.lay8 {w : World} {g : Nat} {t : TypeId} {c0 c1 c2 c3 c4 c5 c6 c7 u0 u1 u2 u3 u4 u5 u6 u7 : Value} (h : Blk w g t #[c0, c1, c2, c3, c4, c5, c6, c7]) :
    Blk ((((((((w.setCell ⟨g, 0, none⟩ u0).setCell ⟨g, 1, none⟩ u1).setCell ⟨g, 2, none⟩ u2).setCell ⟨g, 3, none⟩ u3).setCell ⟨g, 4, none⟩ u4).setCell ⟨g, 5, none⟩ u5).setCell ⟨g, 6, none⟩ u6).setCell ⟨g, 7, none⟩ u7) g t #[u0, u1, u2, u3, u4, u5, u6, u7] := by
  have H := (((((((h.set_ 0 u0).set_ 1 u1).set_ 2 u2).set_ 3 u3).set_ 4 u4).set_ 5 u5).set_ 6 u6).set_ 7 u7
  have e : ((((((((#[c0, c1, c2, c3, c4, c5, c6, c7] : Array Value).setIfInBounds 0 u0).setIfInBounds 1 u1).setIfInBounds 2 u2).setIfInBounds 3 u3).setIfInBounds 4 u4).setIfInBounds 5 u5).setIfInBounds 6 u6).setIfInBounds 7 u7 = #[u0, u1, u2, u3, u4, u5, u6, u7] := by simp
  rw [e] at H
  exact H
theorem Blk.far8 {w : World} {b g : Nat} {t : TypeId} {cs : Array Value} {u0 u1 u2 u3 u4 u5 u6 u7 : Value} (h : Blk w b t cs) (hne : b ≠ g) :
    Blk ((((((((w.setCell ⟨g, 0, none⟩ u0).setCell ⟨g, 1, none⟩ u1).setCell ⟨g, 2, none⟩ u2).setCell ⟨g, 3, none⟩ u3).setCell ⟨g, 4, none⟩ u4).setCell ⟨g, 5, none⟩ u5).setCell ⟨g, 6, none⟩ u6).setCell ⟨g, 7, none⟩ u7) b t cs :=
  (((((((h.far (p := ⟨g, 0, none⟩) hne u0).far (p := ⟨g, 1, none⟩) hne u1).far (p := ⟨g, 2, none⟩) hne u2).far (p := ⟨g, 3, none⟩) hne u3).far (p := ⟨g, 4, none⟩) hne u4).far (p := ⟨g, 5, none⟩) hne u5).far (p := ⟨g, 6, none⟩) hne u6).far (p := ⟨g, 7, none⟩) hne u7
theorem Ext.set8 {a w : World} {g : Nat} {u0 u1 u2 u3 u4 u5 u6 u7 : Value} (h : Ext a w) (hg : a.heap.size ≤ g) :
    Ext a ((((((((w.setCell ⟨g, 0, none⟩ u0).setCell ⟨g, 1, none⟩ u1).setCell ⟨g, 2, none⟩ u2).setCell ⟨g, 3, none⟩ u3).setCell ⟨g, 4, none⟩ u4).setCell ⟨g, 5, none⟩ u5).setCell ⟨g, 6, none⟩ u6).setCell ⟨g, 7, none⟩ u7) :=
  (((((((h.setCell (p := ⟨g, 0, none⟩) hg u0).setCell (p := ⟨g, 1, none⟩) hg u1).setCell (p := ⟨g, 2, none⟩) hg u2).setCell (p := ⟨g, 3, none⟩) hg u3).setCell (p := ⟨g, 4, none⟩) hg u4).setCell (p := ⟨g, 5, none⟩) hg u5).setCell (p := ⟨g, 6, none⟩) hg u6).setCell (p := ⟨g, 7, none⟩) hg u7
theorem ExtX.set8 {A : Nat → Prop} {a w : World} {g : Nat} {u0 u1 u2 u3 u4 u5 u6 u7 : Value} (h : ExtX A a w) (hg : A g ∨ a.heap.size ≤ g) :
    ExtX A a ((((((((w.setCell ⟨g, 0, none⟩ u0).setCell ⟨g, 1, none⟩ u1).setCell ⟨g, 2, none⟩ u2).setCell ⟨g, 3, none⟩ u3).setCell ⟨g, 4, none⟩ u4).setCell ⟨g, 5, none⟩ u5).setCell ⟨g, 6, none⟩ u6).setCell ⟨g, 7, none⟩ u7) :=
  (((((((h.setCell (p := ⟨g, 0, none⟩) hg u0).setCell (p := ⟨g, 1, none⟩) hg u1).setCell (p := ⟨g, 2, none⟩) hg u2).setCell (p := ⟨g, 3, none⟩) hg u3).setCell (p := ⟨g, 4, none⟩) hg u4).setCell (p := ⟨g, 5, none⟩) hg u5).setCell (p := ⟨g, 6, none⟩) hg u6).setCell (p := ⟨g, 7, none⟩) hg u7
theorem Prs.set8 {w : World} {pb : Nat} {l : List Tk} {g : Nat} {u0 u1 u2 u3 u4 u5 u6 u7 : Value} (h : Prs w pb l) (hg : pb < g) :
    Prs ((((((((w.setCell ⟨g, 0, none⟩ u0).setCell ⟨g, 1, none⟩ u1).setCell ⟨g, 2, none⟩ u2).setCell ⟨g, 3, none⟩ u3).setCell ⟨g, 4, none⟩ u4).setCell ⟨g, 5, none⟩ u5).setCell ⟨g, 6, none⟩ u6).setCell ⟨g, 7, none⟩ u7) pb l :=
  (((((((h.far (p := ⟨g, 0, none⟩) hg u0).far (p := ⟨g, 1, none⟩) hg u1).far (p := ⟨g, 2, none⟩) hg u2).far (p := ⟨g, 3, none⟩) hg u3).far (p := ⟨g, 4, none⟩) hg u4).far (p := ⟨g, 5, none⟩) hg u5).far (p := ⟨g, 6, none⟩) hg u6).far (p := ⟨g, 7, none⟩) hg u7
theorem IsTmsA.set8 {A : Nat → Prop} {w : World} {g : Nat} {u0 u1 u2 u3 u4 u5 u6 u7 : Value} {l : List Tm} {a : Option Addr} {len : Nat} (h : IsTmsA A w l a len) (hg : A g) :
    IsTmsA A ((((((((w.setCell ⟨g, 0, none⟩ u0).setCell ⟨g, 1, none⟩ u1).setCell ⟨g, 2, none⟩ u2).setCell ⟨g, 3, none⟩ u3).setCell ⟨g, 4, none⟩ u4).setCell ⟨g, 5, none⟩ u5).setCell ⟨g, 6, none⟩ u6).setCell ⟨g, 7, none⟩ u7) l a len :=
  (((((((h.setCell (p := ⟨g, 0, none⟩) hg u0).setCell (p := ⟨g, 1, none⟩) hg u1).setCell (p := ⟨g, 2, none⟩) hg u2).setCell (p := ⟨g, 3, none⟩) hg u3).setCell (p := ⟨g, 4, none⟩) hg u4).setCell (p := ⟨g, 5, none⟩) hg u5).setCell (p := ⟨g, 6, none⟩) hg u6).setCell (p := ⟨g, 7, none⟩) hg u7
theorem ret8 {P : Program} {fn : Func} {R : Ending → World → Prop} {a : Act} {w : World} {g : Nat} {t : TypeId} {c0 c1 c2 c3 c4 c5 c6 c7 : Value} (h : Blk w g t #[c0, c1, c2, c3, c4, c5, c6, c7])
    (hr : w.cell? ⟨g, 0, none⟩ = some c0 ∧ w.cell? ⟨g, 1, none⟩ = some c1 ∧ w.cell? ⟨g, 2, none⟩ = some c2 ∧ w.cell? ⟨g, 3, none⟩ = some c3 ∧ w.cell? ⟨g, 4, none⟩ = some c4 ∧ w.cell? ⟨g, 5, none⟩ = some c5 ∧ w.cell? ⟨g, 6, none⟩ = some c6 ∧ w.cell? ⟨g, 7, none⟩ = some c7 → (results fn a.tmps).run P w = .ok (.agg #[c0, c1, c2, c3, c4, c5, c6, c7]) w)
    (hd : a.defers = []) (hR : R (.returned (.agg #[c0, c1, c2, c3, c4, c5, c6, c7])) w) : bodyPost P fn R .ret a w := ⟨hd, _, hr h.eight, hR⟩
def zeroT : Array Value := #[.int .u8 0, .int .u8 0, .int .i64 0, .int .i64 0, .string ⟨#[]⟩, .string ⟨#[]⟩, .string ⟨#[]⟩, .slice none 0 0]
set_option maxRecDepth 8000 in
set_option maxHeartbeats 1000000 in
theorem parse_node (k pos : Int) (a : Option Addr) (len cap : Nat) (w : World) :
    Calls Tryz.prog 58 #[.int .u8 k, .int .i64 pos, .slice a len cap] w fun e w' => e = .returned (.agg #[.int .u8 k, .int .u8 0, .int .i64 pos, .int .i64 0, .string ByteArray.empty, .string ByteArray.empty, .string ByteArray.empty, .slice a len cap]) ∧ Ext w w' := by
  go_enter Tryz.func58, Tryz.ntmps58
  go_wp2_with fail
  exact bodyPost_ret (v := .agg #[.int .u8 k, .int .u8 0, .int .i64 pos, .int .i64 0, .string ByteArray.empty, .string ByteArray.empty, .string ByteArray.empty, .slice a len cap]) (by simp [results, Tryz.results58, go_sem]; try rfl) rfl ⟨rfl, by (exact eX)⟩
theorem toList_beq (x y : ByteArray) : (x.toList == y.toList) = decide (x = y) := by
  rw [Bool.eq_iff_iff, decide_eq_true_iff, beq_iff_eq]
  constructor
  · intro h
    rw [ByteArray.toList_eq, ByteArray.toList_eq] at h
    cases x; cases y
    simp at h
    simp [h]
  · rintro rfl; rfl
theorem row_keep {A : Nat → Prop} {w w' : World} (hx : ExtX A w w') {l : List Value} {a : Option Addr} {len : Nat} (hA : ∀ p, a = some p → ¬ A p.block) (h : IsRow w l a len) : IsRow w' l a len :=
  ⟨h.1, fun i v hi => by
    obtain ⟨b, o, e, q⟩ := h.2 i v hi
    exact ⟨b, o, e, hx.cell (show ¬ A b from hA _ e) q⟩⟩
set_option maxRecDepth 8000 in
set_option maxHeartbeats 1000000 in
theorem parse_begins (pb : Nat) (t : Tk) (l : List Tk) (w : World) (h : Prs w pb (t :: l)) :
    Calls Tryz.prog 140 #[.pointer (some ⟨pb, 0, none⟩)] w fun e w' => e = .returned (.bool (beginsT (t :: l))) ∧ Ext w w' := by
  have KN := hid fun W (x : Ext w W) => parse_now pb t l W (h.ext x)
  have KI := hid fun W (x : Ext w W) => parse_is [s_bang, w_ref, w_fst, w_snd, w_raise, s_open] pb t l (W.alloc (.cells #[.string ⟨#[33]⟩, .string ⟨#[114, 101, 102]⟩, .string ⟨#[102, 115, 116]⟩, .string ⟨#[115, 110, 100]⟩, .string ⟨#[114, 97, 105, 115, 101]⟩, .string ⟨#[40]⟩] 9)) (some ⟨W.heap.size, 0, none⟩) 6 6 (Nat.le_refl _) (by omega) (IsRow.new W 9 (vstr [s_bang, w_ref, w_fst, w_snd, w_raise, s_open])) (h.ext (x.alloc _))
  have HT : Hid (beginsT (t :: l) = (t.k == 1 || (t.k == 2 || isT [s_bang, w_ref, w_fst, w_snd, w_raise, s_open] (t :: l)))) := hid rfl
  have F0 := field_tk0
  clear h
  have hc : t.k = 1 ∨ t.k = 2 ∨ (t.k ≠ 1 ∧ t.k ≠ 2) := by omega
  generalize beginsT (t :: l) = r at *
  generalize isT [s_bang, w_ref, w_fst, w_snd, w_raise, s_open] (t :: l) = c at *
  obtain ⟨k, s, p⟩ := t
  simp only at *
  rcases hc with rfl | rfl | ⟨n4, n5⟩
  · have HR : Hid (r = true) := hid (by rw [HT.out]; simp)
    go_enter Tryz.func140, Tryz.ntmps140
    go_wp2_with (first | (go_at_call 69; refine (KN.out _ (by (exact eX))).mono ?_; rintro e w1 ⟨rfl, x1⟩) | (go_at_call 36; refine (KI.out _ (by (exact eX))).mono ?_; rintro e w2 ⟨rfl, x2⟩))
    go_ret
    exact ⟨by rw [HR.out]; rfl, by (exact eX)⟩
  · have HR : Hid (r = true) := hid (by rw [HT.out]; simp)
    go_enter Tryz.func140, Tryz.ntmps140
    go_wp2_with (first | (go_at_call 69; refine (KN.out _ (by (exact eX))).mono ?_; rintro e w1 ⟨rfl, x1⟩) | (go_at_call 36; refine (KI.out _ (by (exact eX))).mono ?_; rintro e w2 ⟨rfl, x2⟩))
    go_ret
    exact ⟨by rw [HR.out]; rfl, by (exact eX)⟩
  · have b4 : (k == 1) = false := by simpa using n4
    have b5 : (k == 2) = false := by simpa using n5
    have HR : Hid (r = c) := hid (by rw [HT.out, b4, b5]; rfl)
    clear n4 n5
    go_enter Tryz.func140, Tryz.ntmps140
    go_wp2_with (first | (go_at_call 69; refine (KN.out _ (by (exact eX))).mono ?_; rintro e w1 ⟨rfl, x1⟩) | (go_at_call 36; refine (KI.out _ (by (exact eX))).mono ?_; rintro e w2 ⟨rfl, x2⟩))
    go_ret
    exact ⟨by rw [HR.out]; rfl, by (exact eX)⟩
theorem pair_row {A : Nat → Prop} {w w' : World} {ha hb : Hd} {la lb : List Tm} {aa ab : Option Addr} {na nb ca cb g : Nat} (hx : Ext w w') (h1 : na ≤ ca) (h2 : ca ≤ 9223372036854775807) (h3 : nb ≤ cb) (h4 : cb ≤ 9223372036854775807)
    (fa : ha.Fits) (fb : hb.Fits) (ia : IsTmsA A w la aa na) (ib : IsTmsA A w lb ab nb) (hg : ¬ A g) (hB : Blk w' g 28 #[.int .u8 ha.k, .int .u8 ha.op, .int .i64 ha.pos, .int .i64 ha.n, .string ha.name, .string ha.arg, .string ha.exn, .slice aa na ca, .int .u8 hb.k, .int .u8 hb.op, .int .i64 hb.pos, .int .i64 hb.n, .string hb.name, .string hb.arg, .string hb.exn, .slice ab nb cb]) :
    IsTmsA A w' [.mk ha la, .mk hb lb] (some ⟨g, 0, none⟩) 2 := by
  refine IsTmsA.of_places [.mk ha la, .mk hb lb] g 0 hg fun i t hi => ?_
  match i, hi with
  | 0, hi =>
    simp at hi
    subst hi
    simp only [TmAt]
    exact ⟨⟨hB.cell 0, hB.cell 1, hB.cell 2, hB.cell 3, hB.cell 4, hB.cell 5, hB.cell 6⟩, fa, aa, na, ca, hB.cell 7, h1, h2, ia.ext hx⟩
  | 1, hi =>
    simp at hi
    subst hi
    simp only [TmAt]
    exact ⟨⟨hB.cell 8, hB.cell 9, hB.cell 10, hB.cell 11, hB.cell 12, hB.cell 13, hB.cell 14⟩, fb, ab, nb, cb, hB.cell 15, h3, h4, ib.ext hx⟩
theorem one_row {A : Nat → Prop} {w w' : World} {ha : Hd} {la : List Tm} {aa : Option Addr} {na ca g : Nat} (hx : Ext w w') (h1 : na ≤ ca) (h2 : ca ≤ 9223372036854775807)
    (fa : ha.Fits) (ia : IsTmsA A w la aa na) (hg : ¬ A g) (hB : Blk w' g 28 #[.int .u8 ha.k, .int .u8 ha.op, .int .i64 ha.pos, .int .i64 ha.n, .string ha.name, .string ha.arg, .string ha.exn, .slice aa na ca]) :
    IsTmsA A w' [.mk ha la] (some ⟨g, 0, none⟩) 1 := by
  refine IsTmsA.of_places [.mk ha la] g 0 hg fun i t hi => ?_
  match i, hi with
  | 0, hi =>
    simp at hi
    subst hi
    simp only [TmAt]
    exact ⟨⟨hB.cell 0, hB.cell 1, hB.cell 2, hB.cell 3, hB.cell 4, hB.cell 5, hB.cell 6⟩, fa, aa, na, ca, hB.cell 7, h1, h2, ia.ext hx⟩
theorem row_new1 (w : World) (o : Obj) (t : TypeId) (l : List Value) : IsRow ((w.alloc o).alloc (.cells l.toArray t)) l (some ⟨w.heap.size + 1, 0, none⟩) l.length := by
  have := IsRow.new (w.alloc o) t l
  rw [World.size_alloc] at this
  exact this
theorem u8_in (n : Int) (h0 : 0 ≤ n) (h1 : n ≤ 255) : IntKind.u8.wrap n = n := IntWalk.u8_in _ ⟨h0, h1⟩
set_option maxRecDepth 8000 in
set_option maxHeartbeats 4000000 in
theorem parse_op (A : Nat → Prop) (x : ByteArray) (j : Nat) (hj : j ≤ 4) (hx : fidx (fun y : ByteArray => x.toList == y.toList) [s_plus, s_minus, s_star, s_less, s_eq] = (j : Int)) (ha hb : Hd) (la lb : List Tm) (aa ab : Option Addr) (na nb ca cb : Nat) (w : World)
    (h1 : na ≤ ca) (h2 : ca ≤ 9223372036854775807) (h3 : nb ≤ cb) (h4 : cb ≤ 9223372036854775807) (fa : ha.Fits) (fb : hb.Fits) (ia : IsTmsA A w la aa na) (ib : IsTmsA A w lb ab nb) (hb0 : ∀ b, A b → b < w.heap.size) :
    Calls Tryz.prog 118 #[.string x, .agg #[.int .u8 ha.k, .int .u8 ha.op, .int .i64 ha.pos, .int .i64 ha.n, .string ha.name, .string ha.arg, .string ha.exn, .slice aa na ca], .agg #[.int .u8 hb.k, .int .u8 hb.op, .int .i64 hb.pos, .int .i64 hb.n, .string hb.name, .string hb.arg, .string hb.exn, .slice ab nb cb]] w fun e w' =>
      ∃ g, e = .returned (.agg #[.int .u8 9, .int .u8 ((j : Int) + 1), .int .i64 ha.pos, .int .i64 0, .string ByteArray.empty, .string ByteArray.empty, .string ByteArray.empty, .slice (some ⟨g, 0, none⟩) 2 2]) ∧ IsTmsA A w' [.mk ha la, .mk hb lb] (some ⟨g, 0, none⟩) 2 ∧ Ext w w' := by
  have KI := hid fun (W : World) (o : Obj) => strs_index x [s_plus, s_minus, s_star, s_less, s_eq] ((W.alloc o).alloc (.cells #[.string ⟨#[43]⟩, .string ⟨#[45]⟩, .string ⟨#[42]⟩, .string ⟨#[60]⟩, .string ⟨#[61]⟩] 9)) (some ⟨W.heap.size + 1, 0, none⟩) 5 5 (Nat.le_refl _) (by omega) (row_new1 W o 9 (vstr [s_plus, s_minus, s_star, s_less, s_eq]))
  rw [hx] at KI
  have HR := hid fun (w' : World) (g : Nat) (hx : Ext w w') (hg : ¬ A g) (hB : Blk w' g 28 _) => pair_row (A := A) (g := g) hx h1 h2 h3 h4 fa fb ia ib hg hB
  have hw0 : IntKind.u8.wrap (j : Int) = j := u8_in _ (by omega) (by omega)
  have hw1 : IntKind.u8.wrap ((j : Int) + 1) = (j : Int) + 1 := u8_in _ (by omega) (by omega)
  have HA := hid hb0
  clear ia ib fa fb hx hb0
  go_enter Tryz.func118, Tryz.ntmps118
  go_wp2_with fail
  refine (parse_node _ _ _ _ _ _).mono ?_
  rintro e w1 ⟨rfl, x1⟩
  have hG := blk_top x1
  have hZ := blk_under x1
  simp only [World.size_alloc] at hG hZ
  have y1 : Ext w w1 := by (exact eX)
  have hlz := hZ.lt
  have hlg := hG.lt
  have HG := hid hG
  have HZ := hid hZ
  have Y1 := hid y1
  clear hG hZ y1 x1
  go_wp2_with fail
  trace "1"
  refine (KI.out _ _).mono ?_
  trace "2"
  rintro e w2 ⟨rfl, x2⟩
  have hT := blk_under x2
  have hZ := HZ.out.ext ((Ext.refl w1 |>.alloc _ |>.alloc _).trans x2)
  obtain ⟨c0, c1, c2, c3, c4, c5, c6, c7⟩ := hT.eight
  obtain ⟨f0, f1, f2, f3, f4, f5, f6, f7⟩ := hT.frozen8
  obtain ⟨z0, z1, z2, z3, z4, z5, z6, z7⟩ := hZ.eight
  obtain ⟨g0, g1, g2, g3, g4, g5, g6, g7⟩ := hZ.frozen8
  have hlt := hT.lt
  have hlz2 := hZ.lt
  have Y2 := hid (Y1.out.trans ((Ext.refl w1 |>.alloc _ |>.alloc _).trans x2))
  have HZ2 := hid hZ
  have HG2 := hid (HG.out.ext ((Ext.refl w1 |>.alloc _ |>.alloc _).trans x2))
  have hne : w1.heap.size ≠ w.heap.size + 1 + 1 := by omega
  have hne' : w.heap.size + 1 + 1 ≠ w1.heap.size := by omega
  clear hT hZ x2
  go_wp2_with fail
  have hF := hne'
  have HZ9 := (HZ2.out.far (p := ⟨w1.heap.size, 1, none⟩) hF (.int .u8 ((j : Int) + 1))).lay8 (u0 := .int .u8 9) (u1 := .int .u8 ((j : Int) + 1)) (u2 := .int .i64 ha.pos) (u3 := .int .i64 0) (u4 := .string ByteArray.empty) (u5 := .string ByteArray.empty) (u6 := .string ByteArray.empty) (u7 := .slice (some ⟨w.heap.size + 1 + 1 + 1, 0, none⟩) 2 2)
  have Y9 := ((Y2.out.setCell (p := ⟨w1.heap.size, 1, none⟩) (by show w.heap.size ≤ w1.heap.size; omega) (.int .u8 ((j : Int) + 1))).set8 (g := w.heap.size + 1 + 1) (u0 := .int .u8 9) (u1 := .int .u8 ((j : Int) + 1)) (u2 := .int .i64 ha.pos) (u3 := .int .i64 0) (u4 := .string ByteArray.empty) (u5 := .string ByteArray.empty) (u6 := .string ByteArray.empty) (u7 := .slice (some ⟨w.heap.size + 1 + 1 + 1, 0, none⟩) 2 2) (by omega))
  have HG9 := (HG2.out.far (p := ⟨w1.heap.size, 1, none⟩) (by show w.heap.size + 1 + 1 + 1 ≠ w1.heap.size; omega) (.int .u8 ((j : Int) + 1))).far8 (g := w.heap.size + 1 + 1) (u0 := .int .u8 9) (u1 := .int .u8 ((j : Int) + 1)) (u2 := .int .i64 ha.pos) (u3 := .int .i64 0) (u4 := .string ByteArray.empty) (u5 := .string ByteArray.empty) (u6 := .string ByteArray.empty) (u7 := .slice (some ⟨w.heap.size + 1 + 1 + 1, 0, none⟩) 2 2) (by omega)
  refine ret8 HZ9 (fun ⟨r0, r1, r2, r3, r4, r5, r6, r7⟩ => by simp [results, Tryz.results118, go_sem, r0, r1, r2, r3, r4, r5, r6, r7]) rfl ⟨_, rfl, HR.out _ _ Y9 (fun h => by have := HA.out _ h; omega) HG9, Y9⟩
end Go.Proofs.YtaioeailgknfjaaGreatDoor
