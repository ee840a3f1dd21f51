/- The walk of the law ScopeTogether. -/
import Derived.Test.YtmomahgedheekaaDoorLaw07
import Derived.Test.YtmomahgedheekaaDoorGrow
import Derived.Test.YtmomahgedheekaaDoorPureS
namespace Go.Proofs.YtmomahgedheekaaDoor
open Go Go.RowKit Go.Sort

/-- A term's box, cell by cell. -/
structure TBox (w : World) (b : Nat) (x : Hd) (a : Option Addr) (len cap : Nat) : Prop where
  c0 : w.cell? ⟨b, 0, none⟩ = some (.int .u8 x.k)
  c1 : w.cell? ⟨b, 1, none⟩ = some (.int .u8 x.op)
  c2 : w.cell? ⟨b, 2, none⟩ = some (.int .i64 x.pos)
  c3 : w.cell? ⟨b, 3, none⟩ = some (.int .i64 x.n)
  c4 : w.cell? ⟨b, 4, none⟩ = some (.string x.name)
  c5 : w.cell? ⟨b, 5, none⟩ = some (.string x.arg)
  c6 : w.cell? ⟨b, 6, none⟩ = some (.string x.exn)
  c7 : w.cell? ⟨b, 7, none⟩ = some (.slice a len cap)
theorem TBox.ext {w w' : World} {b : Nat} {x : Hd} {a : Option Addr} {len cap : Nat} (h : TBox w b x a len cap) (hx : Ext w w') : TBox w' b x a len cap :=
  ⟨hx.cell h.c0, hx.cell h.c1, hx.cell h.c2, hx.cell h.c3, hx.cell h.c4, hx.cell h.c5, hx.cell h.c6, hx.cell h.c7⟩
theorem TBox.extx {A : Nat → Prop} {w w' : World} {b : Nat} {x : Hd} {a : Option Addr} {len cap : Nat} (h : TBox w b x a len cap) (hx : ExtX A w w') (hb : ¬ A b) : TBox w' b x a len cap :=
  ⟨hx.cell hb h.c0, hx.cell hb h.c1, hx.cell hb h.c2, hx.cell hb h.c3, hx.cell hb h.c4, hx.cell hb h.c5, hx.cell hb h.c6, hx.cell hb h.c7⟩
theorem TBox.new (w : World) (x : Hd) (a : Option Addr) (len cap : Nat) (T : TypeId) : TBox (w.alloc (.cells #[.int .u8 x.k, .int .u8 x.op, .int .i64 x.pos, .int .i64 x.n, .string x.name, .string x.arg, .string x.exn, .slice a len cap] T)) w.heap.size x a len cap := by
  constructor <;> (rw [World.cell?_alloc_new]; rfl)
theorem TBox.lt {w : World} {b : Nat} {x : Hd} {a : Option Addr} {len cap : Nat} (h : TBox w b x a len cap) : b < w.heap.size := block_lt_of_cell h.c0
/-- A new block of two terms is a row of them. -/
theorem IsTms.new2 {w : World} {h h' : Hd} {l l' : List Tm} {a a' : Option Addr} {len cap len' cap' : Nat} (T : TypeId) (hl : IsTms w l a len) (h1 : len ≤ cap) (h2 : cap ≤ 9223372036854775807) (hf : h.Fits) (hl' : IsTms w l' a' len') (h1' : len' ≤ cap') (h2' : cap' ≤ 9223372036854775807) (hf' : h'.Fits) :
    IsTms (w.alloc (.cells #[.int .u8 h.k, .int .u8 h.op, .int .i64 h.pos, .int .i64 h.n, .string h.name, .string h.arg, .string h.exn, .slice a len cap, .int .u8 h'.k, .int .u8 h'.op, .int .i64 h'.pos, .int .i64 h'.n, .string h'.name, .string h'.arg, .string h'.exn, .slice a' len' cap'] T)) [.mk h l, .mk h' l'] (some ⟨w.heap.size, 0, none⟩) 2 :=
  IsTmsA.of_places [.mk h l, .mk h' l'] _ _ id fun i t g => by
    cases i with
    | zero =>
      simp at g
      subst g
      simp only [TmAt]
      exact ⟨⟨by rw [World.cell?_alloc_new]; rfl, by rw [World.cell?_alloc_new]; rfl, by rw [World.cell?_alloc_new]; rfl, by rw [World.cell?_alloc_new]; rfl, by rw [World.cell?_alloc_new]; rfl, by rw [World.cell?_alloc_new]; rfl, by rw [World.cell?_alloc_new]; rfl⟩, hf, a, len, cap, by rw [World.cell?_alloc_new]; rfl, h1, h2, hl.ext ((Ext.refl _).alloc _)⟩
    | succ i =>
      cases i with
      | zero =>
        simp at g
        subst g
        simp only [TmAt]
        exact ⟨⟨by rw [World.cell?_alloc_new]; rfl, by rw [World.cell?_alloc_new]; rfl, by rw [World.cell?_alloc_new]; rfl, by rw [World.cell?_alloc_new]; rfl, by rw [World.cell?_alloc_new]; rfl, by rw [World.cell?_alloc_new]; rfl, by rw [World.cell?_alloc_new]; rfl⟩, hf', a', len', cap', by rw [World.cell?_alloc_new]; rfl, h1', h2', hl'.ext ((Ext.refl _).alloc _)⟩
      | succ i => simp at g
theorem own_block {w : World} {base : Nat} {e : TypeId} {size n : Nat} {p : Addr} {c : Nat} {xs : List Value} (h : w.ownsRow base e size (.slice (some p) n c) n xs) : (Value.slice (some p) n c).ownBlock = some p.block := by
  rcases h.2 with ⟨e, _⟩ | ⟨g, c', cur, e, _⟩
  · cases e
  · cases e; rfl
theorem or5 (a b c d : Bool) : a = true ∨ (a = false ∧ b = true) ∨ (a = false ∧ b = false ∧ c = false) ∨ (a = false ∧ b = false ∧ c = true ∧ d = false) ∨ (a = false ∧ b = false ∧ c = true ∧ d = true) := by cases a <;> cases b <;> cases c <;> cases d <;> simp

set_option maxRecDepth 8000 in
set_option maxHeartbeats 8000000 in
theorem law_scopeTogether (s t : Tm) (w : World) (v v' : Value) (hs : IsTm w s v) (ht : IsTm w t v') (hkn : Knob w) : Calls Tryd.prog 9 #[v, v'] w (Yes7 w) := by
  have KA := Lib.hid fun W (h : Ext w W) => law07_awake W (hkn.ext h)
  have KG1 := Lib.hid fun W (h : Ext w W) => ref4_great s W v (hs.ext h)
  have KG2 := Lib.hid fun W (h : Ext w W) => ref4_great t W v' (ht.ext h)
  have hsz1 : s.great = false → s.size ≤ 400 := fun h => (Tm.not_great h).1
  have hsz2 : t.great = false → t.size ≤ 400 := fun h => (Tm.not_great h).1
  have KM1 := Lib.hid fun W (h : Ext w W) (hz : s.size ≤ 400) => ref4_may s W v (hs.ext h) (by omega)
  have KM2 := Lib.hid fun W (h : Ext w W) (hz : t.size ≤ 400) => ref4_may t W v' (ht.ext h) (by omega)
  have HSZ1 := Lib.hid hsz1
  have HSZ2 := Lib.hid hsz2
  have HKN := Lib.hid hkn
  have FR2 := Lib.hid (fun h h' => freesR_two (a := s) (b := t) h h')
  have EX2 := Lib.hid (fun h h' => exnsR_two (a := s) (b := t) h h')
  have FR1 := Lib.hid (fun h => freesR_one (t := s) h)
  have FR1' := Lib.hid (fun h => freesR_one (t := t) h)
  have EX1 := Lib.hid (fun h => exnsR_one (t := s) h)
  have EX1' := Lib.hid (fun h => exnsR_one (t := t) h)
  have LN := Lib.hid (And.intro (free_len s) (And.intro (free_len t) (And.intro (exns1_len s) (exns1_len t))))
  have SZ := Lib.hid (show Tm.sizes [s] = s.size ∧ Tm.sizes [t] = t.size ∧ Tm.sizes [s, t] = s.size + t.size from by simp [Tm.sizes])
  have hcases := or5 s.great t.great s.may t.may
  obtain ⟨x, l⟩ := s
  obtain ⟨y, l'⟩ := t
  obtain ⟨a, len, cap, rfl, h1, h2, hf, hl⟩ := hs.open_
  obtain ⟨a', len', cap', rfl, h1', h2', hf', hl'⟩ := ht.open_
  obtain ⟨W0, hW0⟩ : ∃ W0, W0 = (w.alloc (.cells #[.int .u8 x.k, .int .u8 x.op, .int .i64 x.pos, .int .i64 x.n, .string x.name, .string x.arg, .string x.exn, .slice a len cap] 41)).alloc (.cells #[.int .u8 y.k, .int .u8 y.op, .int .i64 y.pos, .int .i64 y.n, .string y.name, .string y.arg, .string y.exn, .slice a' len' cap'] 41) := ⟨_, rfl⟩
  have y0 : Ext w W0 := by rw [hW0]; exact ((Ext.refl _).alloc _).alloc _
  have TA : TBox W0 w.heap.size x a len cap := by rw [hW0]; exact (TBox.new w x a len cap 41).ext ((Ext.refl _).alloc _)
  have TB : TBox W0 (w.heap.size + 1) y a' len' cap' := by
    rw [hW0]
    have h := TBox.new (w.alloc (.cells #[.int .u8 x.k, .int .u8 x.op, .int .i64 x.pos, .int .i64 x.n, .string x.name, .string x.arg, .string x.exn, .slice a len cap] 41)) y a' len' cap' 41
    rw [World.size_alloc] at h
    exact h
  have HL := Lib.hid hl
  have HL' := Lib.hid hl'
  have HF := Lib.hid hf
  have HF' := Lib.hid hf'
  have HW0 := Lib.hid hW0
  have HTA := Lib.hid TA
  have HTB := Lib.hid TB
  have HY0 := Lib.hid y0
  have HBL0 : w.heap.size + 1 < W0.heap.size := TB.lt
  clear hs ht hf hf' hl hl' hkn hW0 TA TB y0 hsz1 hsz2
  generalize hgs : (Tm.mk x l).great = gs at *
  generalize hgt : (Tm.mk y l').great = gt at *
  generalize hms : (Tm.mk x l).may = ms at *
  generalize hmt : (Tm.mk y l').may = mt at *
  clear hgs hgt
  have HMS := Lib.hid hms
  have HMT := Lib.hid hmt
  clear hms hmt
  rcases hcases with rfl | ⟨rfl, rfl⟩ | ⟨rfl, rfl, rfl⟩ | ⟨rfl, rfl, rfl, rfl⟩ | ⟨rfl, rfl, rfl, rfl⟩
  case inr.inr.inr.inr =>
    have hz1 := HSZ1.out rfl
    have hz2 := HSZ2.out rfl
    have y0 := HY0.out
    go_enter Tryd.func9, Tryd.ntmps9
    go_upto_region 1 with fail
    rw [← HW0.out]
    obtain ⟨a0, a1, a2, a3, a4, a5, a6, a7⟩ := HTA.out
    obtain ⟨b0, b1, b2, b3, b4, b5, b6, b7⟩ := HTB.out
    go_upto_region 3 with (first | (go_at_call 28; (first | (with_reducible refine (KG1.out _ y0).mono ?_) | (with_reducible refine (KG2.out _ y0).mono ?_)); rintro e wn ⟨rfl, xn⟩; have y0 := y0.trans xn; have a0 := xn.cell a0; have a1 := xn.cell a1; have a2 := xn.cell a2; have a3 := xn.cell a3; have a4 := xn.cell a4; have a5 := xn.cell a5; have a6 := xn.cell a6; have a7 := xn.cell a7; have b0 := xn.cell b0; have b1 := xn.cell b1; have b2 := xn.cell b2; have b3 := xn.cell b3; have b4 := xn.cell b4; have b5 := xn.cell b5; have b6 := xn.cell b6; have b7 := xn.cell b7) | (go_at_call 29; (first | (with_reducible refine (KM1.out _ y0 hz1).mono ?_) | (with_reducible refine (KM2.out _ y0 hz2).mono ?_)); rintro e wn ⟨rfl, xn⟩; have y0 := y0.trans xn; have a0 := xn.cell a0; have a1 := xn.cell a1; have a2 := xn.cell a2; have a3 := xn.cell a3; have a4 := xn.cell a4; have a5 := xn.cell a5; have a6 := xn.cell a6; have a7 := xn.cell a7; have b0 := xn.cell b0; have b1 := xn.cell b1; have b2 := xn.cell b2; have b3 := xn.cell b3; have b4 := xn.cell b4; have b5 := xn.cell b5; have b6 := xn.cell b6; have b7 := xn.cell b7))
    obtain ⟨W1, hW1⟩ : ∃ W1, W1 = wn := ⟨_, rfl⟩
    have y1 : Ext w W1 := by rw [hW1]; exact y0
    have TA1 : TBox W1 w.heap.size x a len cap := by rw [hW1]; exact ⟨a0, a1, a2, a3, a4, a5, a6, a7⟩
    have TB1 : TBox W1 (w.heap.size + 1) y a' len' cap' := by rw [hW1]; exact ⟨b0, b1, b2, b3, b4, b5, b6, b7⟩
    have HBL := Lib.hid (show w.heap.size + 1 < W1.heap.size from TB1.lt)
    have HW1 := Lib.hid hW1
    clear hW1 y0 a0 a1 a2 a3 a4 a5 a6 a7 b0 b1 b2 b3 b4 b5 b6 b7
    rw [← HW1.out]
    have hfr1 := FR1.out (by trivial)
    have hfr1' := FR1'.out (by trivial)
    have hex1 := EX1.out (by trivial)
    have hex1' := EX1'.out (by trivial)
    have hfr2 := FR2.out (by trivial) (by trivial)
    have hex2 := EX2.out (by trivial) (by trivial)
    have KF := Lib.hid fun W b (h : Ext w W) (hi : IsTms W [.mk x l] b 1) => scope_free_own [.mk x l] W b 1 1 (by rw [SZ.out.1]; omega) (Nat.le_refl _) (by omega) hi (HKN.out.ext h)
    have KE := Lib.hid fun W b (h : Ext w W) (hi : IsTms W [.mk x l] b 1) => scope_exns_own [.mk x l] W b 1 1 (by rw [SZ.out.1]; omega) (Nat.le_refl _) (by omega) hi (HKN.out.ext h)
    have KF' := Lib.hid fun W b (h : Ext w W) (hi : IsTms W [.mk y l'] b 1) => scope_free_own [.mk y l'] W b 1 1 (by rw [SZ.out.2.1]; omega) (Nat.le_refl _) (by omega) hi (HKN.out.ext h)
    have KE' := Lib.hid fun W b (h : Ext w W) (hi : IsTms W [.mk y l'] b 1) => scope_exns_own [.mk y l'] W b 1 1 (by rw [SZ.out.2.1]; omega) (Nat.le_refl _) (by omega) hi (HKN.out.ext h)
    have KF2 := Lib.hid fun W b (h : Ext w W) (hi : IsTms W [.mk x l, .mk y l'] b 2) => scope_free [.mk x l, .mk y l'] W b 2 2 (by rw [SZ.out.2.2]; omega) (Nat.le_refl _) (by omega) hi (HKN.out.ext h)
    have KE2 := Lib.hid fun W b (h : Ext w W) (hi : IsTms W [.mk x l, .mk y l'] b 2) => scope_exns [.mk x l, .mk y l'] W b 2 2 (by rw [SZ.out.2.2]; omega) (Nat.le_refl _) (by omega) hi (HKN.out.ext h)
    rw [hfr1] at KF
    rw [hfr1'] at KF'
    rw [hex1] at KE
    rw [hex1'] at KE'
    rw [hfr2] at KF2
    rw [hex2] at KE2
    obtain ⟨ln1, ln2, ln3, ln4⟩ := LN.out
    generalize (Tm.mk x l).free = na at *
    generalize (Tm.mk y l').free = nb at *
    generalize Tm.exns [.mk x l] = ea at *
    generalize Tm.exns [.mk y l'] = eb at *
    clear hfr1 hfr1' hex1 hex1' hfr2 hex2
    have HN1 : Hid (∀ W n, Ext w W → n = W.heap.size → IsTms (W.alloc (.cells #[.int .u8 x.k, .int .u8 x.op, .int .i64 x.pos, .int .i64 x.n, .string x.name, .string x.arg, .string x.exn, .slice a len cap] 41)) [.mk x l] (some ⟨n, 0, none⟩) 1) := Lib.hid fun W n h e => by
      subst e
      exact IsTms.new 41 (HL.out.ext h) h1 h2 HF.out
    have HN2 : Hid (∀ W n, Ext w W → n = W.heap.size → IsTms (W.alloc (.cells #[.int .u8 y.k, .int .u8 y.op, .int .i64 y.pos, .int .i64 y.n, .string y.name, .string y.arg, .string y.exn, .slice a' len' cap'] 41)) [.mk y l'] (some ⟨n, 0, none⟩) 1) := Lib.hid fun W n h e => by
      subst e
      exact IsTms.new 41 (HL'.out.ext h) h1' h2' HF'.out
    go_cut [5, 6] (fun s5 s6 wx => ∃ v5 v6, s5 = v5 ∧ s6 = v6 ∧ wx.ownsRow W1.heap.size 9 1 v5 na.length (vstr na) ∧ wx.ownsRow W1.heap.size 9 1 v6 ea.length (vstr ea) ∧ (∀ k, v5.ownBlock = some k → v6.ownBlock ≠ some k) ∧ Ext W1 wx)
    case first =>
      have HP1 : IsTms (W1.alloc (.cells #[.int .u8 x.k, .int .u8 x.op, .int .i64 x.pos, .int .i64 x.n, .string x.name, .string x.arg, .string x.exn, .slice a len cap] 41)) [.mk x l] (some ⟨W1.heap.size, 0, none⟩) 1 := HN1.out W1 _ y1 rfl
      have HP2 : IsTms ((W1.alloc (.cells #[.int .u8 x.k, .int .u8 x.op, .int .i64 x.pos, .int .i64 x.n, .string x.name, .string x.arg, .string x.exn, .slice a len cap] 41)).alloc (.cells #[.int .u8 x.k, .int .u8 x.op, .int .i64 x.pos, .int .i64 x.n, .string x.name, .string x.arg, .string x.exn, .slice a len cap] 41)) [.mk x l] (some ⟨W1.heap.size + 1, 0, none⟩) 1 := HN1.out (W1.alloc (.cells #[.int .u8 x.k, .int .u8 x.op, .int .i64 x.pos, .int .i64 x.n, .string x.name, .string x.arg, .string x.exn, .slice a len cap] 41)) _ (y1.alloc _) (by simp)
      have HP1 := Lib.hid HP1
      have HP2 := Lib.hid HP2
      obtain ⟨a0, a1, a2, a3, a4, a5, a6, a7⟩ := TA1
      have d0 := fun W (h : Ext W1 W) => h.cell a0
      have d1 := fun W (h : Ext W1 W) => h.cell a1
      have d2 := fun W (h : Ext W1 W) => h.cell a2
      have d3 := fun W (h : Ext W1 W) => h.cell a3
      have d4 := fun W (h : Ext W1 W) => h.cell a4
      have d5 := fun W (h : Ext W1 W) => h.cell a5
      have d6 := fun W (h : Ext W1 W) => h.cell a6
      have d7 := fun W (h : Ext W1 W) => h.cell a7
      refine wp_region_held_drew (S := fun w' => Ext W1 w') (by kernel_rfl) (by (try dsimp only); (repeat (first | exact Ext.refl _ | assumption | refine Ext.alloc ?_ _ | refine Ext.drew ?_ | refine Ext.setCell ?_ (by first | (simp; done) | (simp; omega) | omega) _ | refine Ext.trans ?_ (by assumption)))) (fun hHeld => ?_)
      refine held_take 0 (v := ?_) rfl (by kernel_rfl) (by kernel_rfl) (by kernel_rfl) (fun _ _ _ h => h) (by assumption) (by rfl) ?_ ?_; rotate_left; (focus (intro w hSw; (try dsimp only at hSw); go_simp; (try with_reducible rfl))); try simp only [Act.put, List.setIfInBounds_toArray, List.set_cons_zero, List.set_cons_succ]
      refine held_take 3 (v := ?_) rfl (by kernel_rfl) (by kernel_rfl) (by kernel_rfl) (fun _ _ _ h => h) (by assumption) (by rfl) ?_ ?_; rotate_left; (focus (intro w hSw; (try dsimp only at hSw); go_simp; (try with_reducible rfl))); try simp only [Act.put, List.setIfInBounds_toArray, List.set_cons_zero, List.set_cons_succ]
      refine wpAnyH_ready (rs := [1, 4]) (by kernel_rfl) (by simp) ?_
      refine held_cons 1 rfl (by rfl) (fun K hK => ?_) (held_cons 4 rfl (by rfl) (fun K hK => ?_) AllReadyH.nil)
      go_simp; refine hK.out _ _ (by (try dsimp only); (repeat (first | exact Ext.refl _ | assumption | refine Ext.alloc ?_ _ | refine Ext.drew ?_ | refine Ext.setCell ?_ (by first | (simp; done) | (simp; omega) | omega) _ | refine Ext.trans ?_ (by assumption)))) (fun hHeld => ?_); clear hK K; try simp only [Act.put, List.setIfInBounds_toArray, List.set_cons_zero, List.set_cons_succ]
      refine wpAnyH_ready (rs := [2, 4]) (by kernel_rfl) (by simp) ?_
      refine held_cons 2 rfl (by rfl) (fun K hK => ?_) (held_cons 4 rfl (by rfl) (fun K hK => ?_) AllReadyH.nil)
      go_simp; (first | (go_at_call 31; refine (KF.out _ _ (y1.trans (by (repeat (first | exact Ext.refl _ | assumption | refine Ext.alloc ?_ _ | refine Ext.drew ?_ | refine Ext.setCell ?_ (by first | (simp; done) | (simp; omega) | omega) _ | refine Ext.trans ?_ (by assumption))))) (by first | (refine IsTmsA.ext ?_ HP1.out; (repeat (first | exact Ext.refl _ | assumption | refine Ext.alloc ?_ _ | refine Ext.drew ?_ | refine Ext.setCell ?_ (by first | (simp; done) | (simp; omega) | omega) _ | refine Ext.trans ?_ (by assumption)))) | (refine IsTmsA.ext ?_ HP2.out; (repeat (first | exact Ext.refl _ | assumption | refine Ext.alloc ?_ _ | refine Ext.drew ?_ | refine Ext.setCell ?_ (by first | (simp; done) | (simp; omega) | omega) _ | refine Ext.trans ?_ (by assumption)))))).mono ?_; rintro e w5 ⟨v5, rfl, ho5, x5⟩; have HQ1 := IsTmsA.ext (show Ext (W1.alloc (.cells #[.int .u8 x.k, .int .u8 x.op, .int .i64 x.pos, .int .i64 x.n, .string x.name, .string x.arg, .string x.exn, .slice a len cap] 41)) w5 from Ext.trans (by (repeat (first | exact Ext.refl _ | assumption | refine Ext.alloc ?_ _ | refine Ext.drew ?_ | refine Ext.setCell ?_ (by first | (simp; done) | (simp; omega) | omega) _ | refine Ext.trans ?_ (by assumption)))) x5) HP1.out; (first | (have HQ2 : IsTms w5 [.mk x l] (some ⟨W1.heap.size + 1, 0, none⟩) 1 := (by refine IsTmsA.ext (Ext.trans ?_ x5) HP2.out; (refine Ext.drew ?_; exact Ext.refl _))) | skip); have X5 := Lib.hid (show Ext W1 w5 from Ext.trans (by (repeat (first | exact Ext.refl _ | assumption | refine Ext.alloc ?_ _ | refine Ext.drew ?_ | refine Ext.setCell ?_ (by first | (simp; done) | (simp; omega) | omega) _ | refine Ext.trans ?_ (by assumption)))) x5); have h5 := owns_base (base' := W1.heap.size) (Ext.size (by (repeat (first | exact Ext.refl _ | assumption | refine Ext.alloc ?_ _ | refine Ext.drew ?_ | refine Ext.setCell ?_ (by first | (simp; done) | (simp; omega) | omega) _ | refine Ext.trans ?_ (by assumption))))) ho5) | (go_at_call 34; refine (KE.out _ _ (y1.trans (by (repeat (first | exact Ext.refl _ | assumption | refine Ext.alloc ?_ _ | refine Ext.drew ?_ | refine Ext.setCell ?_ (by first | (simp; done) | (simp; omega) | omega) _ | refine Ext.trans ?_ (by assumption))))) (by first | (refine IsTmsA.ext ?_ HQ1; (first | exact Ext.refl _ | exact Ext.drew (Ext.refl _))) | (refine IsTmsA.ext ?_ HQ2; (first | exact Ext.refl _ | exact Ext.drew (Ext.refl _))) | (refine HN1.out _ _ (y1.trans ?_) ?_; (· (repeat (first | exact Ext.refl _ | assumption | refine Ext.alloc ?_ _ | refine Ext.drew ?_ | refine Ext.setCell ?_ (by first | (simp; done) | (simp; omega) | omega) _ | refine Ext.trans ?_ (by assumption)))); (· simp)))).mono ?_; rintro e w6 ⟨v6, rfl, ho6, x6⟩; have h6 := owns_base (base' := w5.heap.size) (Ext.size (by (repeat (first | exact Ext.refl _ | assumption | refine Ext.alloc ?_ _ | refine Ext.drew ?_ | refine Ext.setCell ?_ (by first | (simp; done) | (simp; omega) | omega) _ | refine Ext.trans ?_ (by assumption))))) ho6; have X6 := Lib.hid (show Ext w5 w6 from Ext.trans (by (repeat (first | exact Ext.refl _ | assumption | refine Ext.alloc ?_ _ | refine Ext.drew ?_ | refine Ext.setCell ?_ (by first | (simp; done) | (simp; omega) | omega) _ | refine Ext.trans ?_ (by assumption)))) x6))); (try (focus (go_wp2_with fail))); refine hK.out _ _ (by (try dsimp only); (repeat (first | exact Ext.refl _ | assumption | refine Ext.alloc ?_ _ | refine Ext.drew ?_ | refine Ext.setCell ?_ (by first | (simp; done) | (simp; omega) | omega) _ | refine Ext.trans ?_ (by assumption)))) (fun hHeld => ?_); clear hK K; try simp only [Act.put, List.setIfInBounds_toArray, List.set_cons_zero, List.set_cons_succ]
      refine held_do 4 rfl (by kernel_rfl) (by rfl) (fun K hK => ?_); go_simp; refine hK.out _ _ (by (try dsimp only); (repeat (first | exact Ext.refl _ | assumption | refine Ext.alloc ?_ _ | refine Ext.drew ?_ | refine Ext.setCell ?_ (by first | (simp; done) | (simp; omega) | omega) _ | refine Ext.trans ?_ (by assumption)))) (fun hHeld => ?_); clear hK K; try simp only [Act.put, List.setIfInBounds_toArray, List.set_cons_zero, List.set_cons_succ]
      refine held_do 5 rfl (by kernel_rfl) (by rfl) (fun K hK => ?_); go_simp; (first | (go_at_call 31; refine (KF.out _ _ (y1.trans (by (repeat (first | exact Ext.refl _ | assumption | refine Ext.alloc ?_ _ | refine Ext.drew ?_ | refine Ext.setCell ?_ (by first | (simp; done) | (simp; omega) | omega) _ | refine Ext.trans ?_ (by assumption))))) (by first | (refine IsTmsA.ext ?_ HP1.out; (repeat (first | exact Ext.refl _ | assumption | refine Ext.alloc ?_ _ | refine Ext.drew ?_ | refine Ext.setCell ?_ (by first | (simp; done) | (simp; omega) | omega) _ | refine Ext.trans ?_ (by assumption)))) | (refine IsTmsA.ext ?_ HP2.out; (repeat (first | exact Ext.refl _ | assumption | refine Ext.alloc ?_ _ | refine Ext.drew ?_ | refine Ext.setCell ?_ (by first | (simp; done) | (simp; omega) | omega) _ | refine Ext.trans ?_ (by assumption)))))).mono ?_; rintro e w5 ⟨v5, rfl, ho5, x5⟩; have HQ1 := IsTmsA.ext (show Ext (W1.alloc (.cells #[.int .u8 x.k, .int .u8 x.op, .int .i64 x.pos, .int .i64 x.n, .string x.name, .string x.arg, .string x.exn, .slice a len cap] 41)) w5 from Ext.trans (by (repeat (first | exact Ext.refl _ | assumption | refine Ext.alloc ?_ _ | refine Ext.drew ?_ | refine Ext.setCell ?_ (by first | (simp; done) | (simp; omega) | omega) _ | refine Ext.trans ?_ (by assumption)))) x5) HP1.out; (first | (have HQ2 : IsTms w5 [.mk x l] (some ⟨W1.heap.size + 1, 0, none⟩) 1 := (by refine IsTmsA.ext (Ext.trans ?_ x5) HP2.out; (refine Ext.drew ?_; exact Ext.refl _))) | skip); have X5 := Lib.hid (show Ext W1 w5 from Ext.trans (by (repeat (first | exact Ext.refl _ | assumption | refine Ext.alloc ?_ _ | refine Ext.drew ?_ | refine Ext.setCell ?_ (by first | (simp; done) | (simp; omega) | omega) _ | refine Ext.trans ?_ (by assumption)))) x5); have h5 := owns_base (base' := W1.heap.size) (Ext.size (by (repeat (first | exact Ext.refl _ | assumption | refine Ext.alloc ?_ _ | refine Ext.drew ?_ | refine Ext.setCell ?_ (by first | (simp; done) | (simp; omega) | omega) _ | refine Ext.trans ?_ (by assumption))))) ho5) | (go_at_call 34; refine (KE.out _ _ (y1.trans (by (repeat (first | exact Ext.refl _ | assumption | refine Ext.alloc ?_ _ | refine Ext.drew ?_ | refine Ext.setCell ?_ (by first | (simp; done) | (simp; omega) | omega) _ | refine Ext.trans ?_ (by assumption))))) (by first | (refine IsTmsA.ext ?_ HQ1; (first | exact Ext.refl _ | exact Ext.drew (Ext.refl _))) | (refine IsTmsA.ext ?_ HQ2; (first | exact Ext.refl _ | exact Ext.drew (Ext.refl _))) | (refine HN1.out _ _ (y1.trans ?_) ?_; (· (repeat (first | exact Ext.refl _ | assumption | refine Ext.alloc ?_ _ | refine Ext.drew ?_ | refine Ext.setCell ?_ (by first | (simp; done) | (simp; omega) | omega) _ | refine Ext.trans ?_ (by assumption)))); (· simp)))).mono ?_; rintro e w6 ⟨v6, rfl, ho6, x6⟩; have h6 := owns_base (base' := w5.heap.size) (Ext.size (by (repeat (first | exact Ext.refl _ | assumption | refine Ext.alloc ?_ _ | refine Ext.drew ?_ | refine Ext.setCell ?_ (by first | (simp; done) | (simp; omega) | omega) _ | refine Ext.trans ?_ (by assumption))))) ho6; have X6 := Lib.hid (show Ext w5 w6 from Ext.trans (by (repeat (first | exact Ext.refl _ | assumption | refine Ext.alloc ?_ _ | refine Ext.drew ?_ | refine Ext.setCell ?_ (by first | (simp; done) | (simp; omega) | omega) _ | refine Ext.trans ?_ (by assumption)))) x6))); (try (focus (go_wp2_with fail))); refine hK.out _ _ (by (try dsimp only); (repeat (first | exact Ext.refl _ | assumption | refine Ext.alloc ?_ _ | refine Ext.drew ?_ | refine Ext.setCell ?_ (by first | (simp; done) | (simp; omega) | omega) _ | refine Ext.trans ?_ (by assumption)))) (fun hHeld => ?_); clear hK K; try simp only [Act.put, List.setIfInBounds_toArray, List.set_cons_zero, List.set_cons_succ]
      refine held_take 6 (v := ?_) rfl (by kernel_rfl) (by kernel_rfl) (by kernel_rfl) (fun _ _ _ h => h) (by assumption) (by rfl) ?_ ?_; rotate_left; (focus (intro w hSw; (try dsimp only at hSw); go_simp; (try with_reducible rfl))); try simp only [Act.put, List.setIfInBounds_toArray, List.set_cons_zero, List.set_cons_succ]
      refine held_take 7 (v := ?_) rfl (by kernel_rfl) (by kernel_rfl) (by kernel_rfl) (fun _ _ _ h => h) (by assumption) (by rfl) ?_ ?_; rotate_left; (focus (intro w hSw; (try dsimp only at hSw); go_simp; (try with_reducible rfl))); try simp only [Act.put, List.setIfInBounds_toArray, List.set_cons_zero, List.set_cons_succ]
      refine wpAnyH_done (by kernel_rfl) ?_ _
      rotate_left 1
      go_simp; refine hK.out _ _ (by (try dsimp only); (repeat (first | exact Ext.refl _ | assumption | refine Ext.alloc ?_ _ | refine Ext.drew ?_ | refine Ext.setCell ?_ (by first | (simp; done) | (simp; omega) | omega) _ | refine Ext.trans ?_ (by assumption)))) (fun hHeld => ?_); clear hK K; try simp only [Act.put, List.setIfInBounds_toArray, List.set_cons_zero, List.set_cons_succ]
      refine held_do 2 rfl (by kernel_rfl) (by rfl) (fun K hK => ?_); go_simp; (first | (go_at_call 31; refine (KF.out _ _ (y1.trans (by (repeat (first | exact Ext.refl _ | assumption | refine Ext.alloc ?_ _ | refine Ext.drew ?_ | refine Ext.setCell ?_ (by first | (simp; done) | (simp; omega) | omega) _ | refine Ext.trans ?_ (by assumption))))) (by first | (refine IsTmsA.ext ?_ HP1.out; (repeat (first | exact Ext.refl _ | assumption | refine Ext.alloc ?_ _ | refine Ext.drew ?_ | refine Ext.setCell ?_ (by first | (simp; done) | (simp; omega) | omega) _ | refine Ext.trans ?_ (by assumption)))) | (refine IsTmsA.ext ?_ HP2.out; (repeat (first | exact Ext.refl _ | assumption | refine Ext.alloc ?_ _ | refine Ext.drew ?_ | refine Ext.setCell ?_ (by first | (simp; done) | (simp; omega) | omega) _ | refine Ext.trans ?_ (by assumption)))))).mono ?_; rintro e w5 ⟨v5, rfl, ho5, x5⟩; have HQ1 := IsTmsA.ext (show Ext (W1.alloc (.cells #[.int .u8 x.k, .int .u8 x.op, .int .i64 x.pos, .int .i64 x.n, .string x.name, .string x.arg, .string x.exn, .slice a len cap] 41)) w5 from Ext.trans (by (repeat (first | exact Ext.refl _ | assumption | refine Ext.alloc ?_ _ | refine Ext.drew ?_ | refine Ext.setCell ?_ (by first | (simp; done) | (simp; omega) | omega) _ | refine Ext.trans ?_ (by assumption)))) x5) HP1.out; (first | (have HQ2 : IsTms w5 [.mk x l] (some ⟨W1.heap.size + 1, 0, none⟩) 1 := (by refine IsTmsA.ext (Ext.trans ?_ x5) HP2.out; (refine Ext.drew ?_; exact Ext.refl _))) | skip); have X5 := Lib.hid (show Ext W1 w5 from Ext.trans (by (repeat (first | exact Ext.refl _ | assumption | refine Ext.alloc ?_ _ | refine Ext.drew ?_ | refine Ext.setCell ?_ (by first | (simp; done) | (simp; omega) | omega) _ | refine Ext.trans ?_ (by assumption)))) x5); have h5 := owns_base (base' := W1.heap.size) (Ext.size (by (repeat (first | exact Ext.refl _ | assumption | refine Ext.alloc ?_ _ | refine Ext.drew ?_ | refine Ext.setCell ?_ (by first | (simp; done) | (simp; omega) | omega) _ | refine Ext.trans ?_ (by assumption))))) ho5) | (go_at_call 34; refine (KE.out _ _ (y1.trans (by (repeat (first | exact Ext.refl _ | assumption | refine Ext.alloc ?_ _ | refine Ext.drew ?_ | refine Ext.setCell ?_ (by first | (simp; done) | (simp; omega) | omega) _ | refine Ext.trans ?_ (by assumption))))) (by first | (refine IsTmsA.ext ?_ HQ1; (first | exact Ext.refl _ | exact Ext.drew (Ext.refl _))) | (refine IsTmsA.ext ?_ HQ2; (first | exact Ext.refl _ | exact Ext.drew (Ext.refl _))) | (refine HN1.out _ _ (y1.trans ?_) ?_; (· (repeat (first | exact Ext.refl _ | assumption | refine Ext.alloc ?_ _ | refine Ext.drew ?_ | refine Ext.setCell ?_ (by first | (simp; done) | (simp; omega) | omega) _ | refine Ext.trans ?_ (by assumption)))); (· simp)))).mono ?_; rintro e w6 ⟨v6, rfl, ho6, x6⟩; have h6 := owns_base (base' := w5.heap.size) (Ext.size (by (repeat (first | exact Ext.refl _ | assumption | refine Ext.alloc ?_ _ | refine Ext.drew ?_ | refine Ext.setCell ?_ (by first | (simp; done) | (simp; omega) | omega) _ | refine Ext.trans ?_ (by assumption))))) ho6; have X6 := Lib.hid (show Ext w5 w6 from Ext.trans (by (repeat (first | exact Ext.refl _ | assumption | refine Ext.alloc ?_ _ | refine Ext.drew ?_ | refine Ext.setCell ?_ (by first | (simp; done) | (simp; omega) | omega) _ | refine Ext.trans ?_ (by assumption)))) x6))); (try (focus (go_wp2_with fail))); refine hK.out _ _ (by (try dsimp only); (repeat (first | exact Ext.refl _ | assumption | refine Ext.alloc ?_ _ | refine Ext.drew ?_ | refine Ext.setCell ?_ (by first | (simp; done) | (simp; omega) | omega) _ | refine Ext.trans ?_ (by assumption)))) (fun hHeld => ?_); clear hK K; try simp only [Act.put, List.setIfInBounds_toArray, List.set_cons_zero, List.set_cons_succ]
      refine held_do 5 rfl (by kernel_rfl) (by rfl) (fun K hK => ?_); go_simp; (first | (go_at_call 31; refine (KF.out _ _ (y1.trans (by (repeat (first | exact Ext.refl _ | assumption | refine Ext.alloc ?_ _ | refine Ext.drew ?_ | refine Ext.setCell ?_ (by first | (simp; done) | (simp; omega) | omega) _ | refine Ext.trans ?_ (by assumption))))) (by first | (refine IsTmsA.ext ?_ HP1.out; (repeat (first | exact Ext.refl _ | assumption | refine Ext.alloc ?_ _ | refine Ext.drew ?_ | refine Ext.setCell ?_ (by first | (simp; done) | (simp; omega) | omega) _ | refine Ext.trans ?_ (by assumption)))) | (refine IsTmsA.ext ?_ HP2.out; (repeat (first | exact Ext.refl _ | assumption | refine Ext.alloc ?_ _ | refine Ext.drew ?_ | refine Ext.setCell ?_ (by first | (simp; done) | (simp; omega) | omega) _ | refine Ext.trans ?_ (by assumption)))))).mono ?_; rintro e w5 ⟨v5, rfl, ho5, x5⟩; have HQ1 := IsTmsA.ext (show Ext (W1.alloc (.cells #[.int .u8 x.k, .int .u8 x.op, .int .i64 x.pos, .int .i64 x.n, .string x.name, .string x.arg, .string x.exn, .slice a len cap] 41)) w5 from Ext.trans (by (repeat (first | exact Ext.refl _ | assumption | refine Ext.alloc ?_ _ | refine Ext.drew ?_ | refine Ext.setCell ?_ (by first | (simp; done) | (simp; omega) | omega) _ | refine Ext.trans ?_ (by assumption)))) x5) HP1.out; (first | (have HQ2 : IsTms w5 [.mk x l] (some ⟨W1.heap.size + 1, 0, none⟩) 1 := (by refine IsTmsA.ext (Ext.trans ?_ x5) HP2.out; (refine Ext.drew ?_; exact Ext.refl _))) | skip); have X5 := Lib.hid (show Ext W1 w5 from Ext.trans (by (repeat (first | exact Ext.refl _ | assumption | refine Ext.alloc ?_ _ | refine Ext.drew ?_ | refine Ext.setCell ?_ (by first | (simp; done) | (simp; omega) | omega) _ | refine Ext.trans ?_ (by assumption)))) x5); have h5 := owns_base (base' := W1.heap.size) (Ext.size (by (repeat (first | exact Ext.refl _ | assumption | refine Ext.alloc ?_ _ | refine Ext.drew ?_ | refine Ext.setCell ?_ (by first | (simp; done) | (simp; omega) | omega) _ | refine Ext.trans ?_ (by assumption))))) ho5) | (go_at_call 34; refine (KE.out _ _ (y1.trans (by (repeat (first | exact Ext.refl _ | assumption | refine Ext.alloc ?_ _ | refine Ext.drew ?_ | refine Ext.setCell ?_ (by first | (simp; done) | (simp; omega) | omega) _ | refine Ext.trans ?_ (by assumption))))) (by first | (refine IsTmsA.ext ?_ HQ1; (first | exact Ext.refl _ | exact Ext.drew (Ext.refl _))) | (refine IsTmsA.ext ?_ HQ2; (first | exact Ext.refl _ | exact Ext.drew (Ext.refl _))) | (refine HN1.out _ _ (y1.trans ?_) ?_; (· (repeat (first | exact Ext.refl _ | assumption | refine Ext.alloc ?_ _ | refine Ext.drew ?_ | refine Ext.setCell ?_ (by first | (simp; done) | (simp; omega) | omega) _ | refine Ext.trans ?_ (by assumption)))); (· simp)))).mono ?_; rintro e w6 ⟨v6, rfl, ho6, x6⟩; have h6 := owns_base (base' := w5.heap.size) (Ext.size (by (repeat (first | exact Ext.refl _ | assumption | refine Ext.alloc ?_ _ | refine Ext.drew ?_ | refine Ext.setCell ?_ (by first | (simp; done) | (simp; omega) | omega) _ | refine Ext.trans ?_ (by assumption))))) ho6; have X6 := Lib.hid (show Ext w5 w6 from Ext.trans (by (repeat (first | exact Ext.refl _ | assumption | refine Ext.alloc ?_ _ | refine Ext.drew ?_ | refine Ext.setCell ?_ (by first | (simp; done) | (simp; omega) | omega) _ | refine Ext.trans ?_ (by assumption)))) x6))); (try (focus (go_wp2_with fail))); refine hK.out _ _ (by (try dsimp only); (repeat (first | exact Ext.refl _ | assumption | refine Ext.alloc ?_ _ | refine Ext.drew ?_ | refine Ext.setCell ?_ (by first | (simp; done) | (simp; omega) | omega) _ | refine Ext.trans ?_ (by assumption)))) (fun hHeld => ?_); clear hK K; try simp only [Act.put, List.setIfInBounds_toArray, List.set_cons_zero, List.set_cons_succ]
      refine held_take 6 (v := ?_) rfl (by kernel_rfl) (by kernel_rfl) (by kernel_rfl) (fun _ _ _ h => h) (by assumption) (by rfl) ?_ ?_; rotate_left; (focus (intro w hSw; (try dsimp only at hSw); go_simp; (try with_reducible rfl))); try simp only [Act.put, List.setIfInBounds_toArray, List.set_cons_zero, List.set_cons_succ]
      refine held_take 7 (v := ?_) rfl (by kernel_rfl) (by kernel_rfl) (by kernel_rfl) (fun _ _ _ h => h) (by assumption) (by rfl) ?_ ?_; rotate_left; (focus (intro w hSw; (try dsimp only at hSw); go_simp; (try with_reducible rfl))); try simp only [Act.put, List.setIfInBounds_toArray, List.set_cons_zero, List.set_cons_succ]
      refine wpAnyH_done (by kernel_rfl) ?_ _
      rotate_left 1
      go_simp; refine hK.out _ _ (by (try dsimp only); (repeat (first | exact Ext.refl _ | assumption | refine Ext.alloc ?_ _ | refine Ext.drew ?_ | refine Ext.setCell ?_ (by first | (simp; done) | (simp; omega) | omega) _ | refine Ext.trans ?_ (by assumption)))) (fun hHeld => ?_); clear hK K; try simp only [Act.put, List.setIfInBounds_toArray, List.set_cons_zero, List.set_cons_succ]
      refine held_do 1 rfl (by kernel_rfl) (by rfl) (fun K hK => ?_); go_simp; refine hK.out _ _ (by (try dsimp only); (repeat (first | exact Ext.refl _ | assumption | refine Ext.alloc ?_ _ | refine Ext.drew ?_ | refine Ext.setCell ?_ (by first | (simp; done) | (simp; omega) | omega) _ | refine Ext.trans ?_ (by assumption)))) (fun hHeld => ?_); clear hK K; try simp only [Act.put, List.setIfInBounds_toArray, List.set_cons_zero, List.set_cons_succ]
      refine held_do 2 rfl (by kernel_rfl) (by rfl) (fun K hK => ?_); go_simp; (first | (go_at_call 31; refine (KF.out _ _ (y1.trans (by (repeat (first | exact Ext.refl _ | assumption | refine Ext.alloc ?_ _ | refine Ext.drew ?_ | refine Ext.setCell ?_ (by first | (simp; done) | (simp; omega) | omega) _ | refine Ext.trans ?_ (by assumption))))) (by first | (refine IsTmsA.ext ?_ HP1.out; (repeat (first | exact Ext.refl _ | assumption | refine Ext.alloc ?_ _ | refine Ext.drew ?_ | refine Ext.setCell ?_ (by first | (simp; done) | (simp; omega) | omega) _ | refine Ext.trans ?_ (by assumption)))) | (refine IsTmsA.ext ?_ HP2.out; (repeat (first | exact Ext.refl _ | assumption | refine Ext.alloc ?_ _ | refine Ext.drew ?_ | refine Ext.setCell ?_ (by first | (simp; done) | (simp; omega) | omega) _ | refine Ext.trans ?_ (by assumption)))))).mono ?_; rintro e w5 ⟨v5, rfl, ho5, x5⟩; have HQ1 := IsTmsA.ext (show Ext (W1.alloc (.cells #[.int .u8 x.k, .int .u8 x.op, .int .i64 x.pos, .int .i64 x.n, .string x.name, .string x.arg, .string x.exn, .slice a len cap] 41)) w5 from Ext.trans (by (repeat (first | exact Ext.refl _ | assumption | refine Ext.alloc ?_ _ | refine Ext.drew ?_ | refine Ext.setCell ?_ (by first | (simp; done) | (simp; omega) | omega) _ | refine Ext.trans ?_ (by assumption)))) x5) HP1.out; (first | (have HQ2 : IsTms w5 [.mk x l] (some ⟨W1.heap.size + 1, 0, none⟩) 1 := (by refine IsTmsA.ext (Ext.trans ?_ x5) HP2.out; (refine Ext.drew ?_; exact Ext.refl _))) | skip); have X5 := Lib.hid (show Ext W1 w5 from Ext.trans (by (repeat (first | exact Ext.refl _ | assumption | refine Ext.alloc ?_ _ | refine Ext.drew ?_ | refine Ext.setCell ?_ (by first | (simp; done) | (simp; omega) | omega) _ | refine Ext.trans ?_ (by assumption)))) x5); have h5 := owns_base (base' := W1.heap.size) (Ext.size (by (repeat (first | exact Ext.refl _ | assumption | refine Ext.alloc ?_ _ | refine Ext.drew ?_ | refine Ext.setCell ?_ (by first | (simp; done) | (simp; omega) | omega) _ | refine Ext.trans ?_ (by assumption))))) ho5) | (go_at_call 34; refine (KE.out _ _ (y1.trans (by (repeat (first | exact Ext.refl _ | assumption | refine Ext.alloc ?_ _ | refine Ext.drew ?_ | refine Ext.setCell ?_ (by first | (simp; done) | (simp; omega) | omega) _ | refine Ext.trans ?_ (by assumption))))) (by first | (refine IsTmsA.ext ?_ HQ1; (first | exact Ext.refl _ | exact Ext.drew (Ext.refl _))) | (refine IsTmsA.ext ?_ HQ2; (first | exact Ext.refl _ | exact Ext.drew (Ext.refl _))) | (refine HN1.out _ _ (y1.trans ?_) ?_; (· (repeat (first | exact Ext.refl _ | assumption | refine Ext.alloc ?_ _ | refine Ext.drew ?_ | refine Ext.setCell ?_ (by first | (simp; done) | (simp; omega) | omega) _ | refine Ext.trans ?_ (by assumption)))); (· simp)))).mono ?_; rintro e w6 ⟨v6, rfl, ho6, x6⟩; have h6 := owns_base (base' := w5.heap.size) (Ext.size (by (repeat (first | exact Ext.refl _ | assumption | refine Ext.alloc ?_ _ | refine Ext.drew ?_ | refine Ext.setCell ?_ (by first | (simp; done) | (simp; omega) | omega) _ | refine Ext.trans ?_ (by assumption))))) ho6; have X6 := Lib.hid (show Ext w5 w6 from Ext.trans (by (repeat (first | exact Ext.refl _ | assumption | refine Ext.alloc ?_ _ | refine Ext.drew ?_ | refine Ext.setCell ?_ (by first | (simp; done) | (simp; omega) | omega) _ | refine Ext.trans ?_ (by assumption)))) x6))); (try (focus (go_wp2_with fail))); refine hK.out _ _ (by (try dsimp only); (repeat (first | exact Ext.refl _ | assumption | refine Ext.alloc ?_ _ | refine Ext.drew ?_ | refine Ext.setCell ?_ (by first | (simp; done) | (simp; omega) | omega) _ | refine Ext.trans ?_ (by assumption)))) (fun hHeld => ?_); clear hK K; try simp only [Act.put, List.setIfInBounds_toArray, List.set_cons_zero, List.set_cons_succ]
      refine held_do 5 rfl (by kernel_rfl) (by rfl) (fun K hK => ?_); go_simp; (first | (go_at_call 31; refine (KF.out _ _ (y1.trans (by (repeat (first | exact Ext.refl _ | assumption | refine Ext.alloc ?_ _ | refine Ext.drew ?_ | refine Ext.setCell ?_ (by first | (simp; done) | (simp; omega) | omega) _ | refine Ext.trans ?_ (by assumption))))) (by first | (refine IsTmsA.ext ?_ HP1.out; (repeat (first | exact Ext.refl _ | assumption | refine Ext.alloc ?_ _ | refine Ext.drew ?_ | refine Ext.setCell ?_ (by first | (simp; done) | (simp; omega) | omega) _ | refine Ext.trans ?_ (by assumption)))) | (refine IsTmsA.ext ?_ HP2.out; (repeat (first | exact Ext.refl _ | assumption | refine Ext.alloc ?_ _ | refine Ext.drew ?_ | refine Ext.setCell ?_ (by first | (simp; done) | (simp; omega) | omega) _ | refine Ext.trans ?_ (by assumption)))))).mono ?_; rintro e w5 ⟨v5, rfl, ho5, x5⟩; have HQ1 := IsTmsA.ext (show Ext (W1.alloc (.cells #[.int .u8 x.k, .int .u8 x.op, .int .i64 x.pos, .int .i64 x.n, .string x.name, .string x.arg, .string x.exn, .slice a len cap] 41)) w5 from Ext.trans (by (repeat (first | exact Ext.refl _ | assumption | refine Ext.alloc ?_ _ | refine Ext.drew ?_ | refine Ext.setCell ?_ (by first | (simp; done) | (simp; omega) | omega) _ | refine Ext.trans ?_ (by assumption)))) x5) HP1.out; (first | (have HQ2 : IsTms w5 [.mk x l] (some ⟨W1.heap.size + 1, 0, none⟩) 1 := (by refine IsTmsA.ext (Ext.trans ?_ x5) HP2.out; (refine Ext.drew ?_; exact Ext.refl _))) | skip); have X5 := Lib.hid (show Ext W1 w5 from Ext.trans (by (repeat (first | exact Ext.refl _ | assumption | refine Ext.alloc ?_ _ | refine Ext.drew ?_ | refine Ext.setCell ?_ (by first | (simp; done) | (simp; omega) | omega) _ | refine Ext.trans ?_ (by assumption)))) x5); have h5 := owns_base (base' := W1.heap.size) (Ext.size (by (repeat (first | exact Ext.refl _ | assumption | refine Ext.alloc ?_ _ | refine Ext.drew ?_ | refine Ext.setCell ?_ (by first | (simp; done) | (simp; omega) | omega) _ | refine Ext.trans ?_ (by assumption))))) ho5) | (go_at_call 34; refine (KE.out _ _ (y1.trans (by (repeat (first | exact Ext.refl _ | assumption | refine Ext.alloc ?_ _ | refine Ext.drew ?_ | refine Ext.setCell ?_ (by first | (simp; done) | (simp; omega) | omega) _ | refine Ext.trans ?_ (by assumption))))) (by first | (refine IsTmsA.ext ?_ HQ1; (first | exact Ext.refl _ | exact Ext.drew (Ext.refl _))) | (refine IsTmsA.ext ?_ HQ2; (first | exact Ext.refl _ | exact Ext.drew (Ext.refl _))) | (refine HN1.out _ _ (y1.trans ?_) ?_; (· (repeat (first | exact Ext.refl _ | assumption | refine Ext.alloc ?_ _ | refine Ext.drew ?_ | refine Ext.setCell ?_ (by first | (simp; done) | (simp; omega) | omega) _ | refine Ext.trans ?_ (by assumption)))); (· simp)))).mono ?_; rintro e w6 ⟨v6, rfl, ho6, x6⟩; have h6 := owns_base (base' := w5.heap.size) (Ext.size (by (repeat (first | exact Ext.refl _ | assumption | refine Ext.alloc ?_ _ | refine Ext.drew ?_ | refine Ext.setCell ?_ (by first | (simp; done) | (simp; omega) | omega) _ | refine Ext.trans ?_ (by assumption))))) ho6; have X6 := Lib.hid (show Ext w5 w6 from Ext.trans (by (repeat (first | exact Ext.refl _ | assumption | refine Ext.alloc ?_ _ | refine Ext.drew ?_ | refine Ext.setCell ?_ (by first | (simp; done) | (simp; omega) | omega) _ | refine Ext.trans ?_ (by assumption)))) x6))); (try (focus (go_wp2_with fail))); refine hK.out _ _ (by (try dsimp only); (repeat (first | exact Ext.refl _ | assumption | refine Ext.alloc ?_ _ | refine Ext.drew ?_ | refine Ext.setCell ?_ (by first | (simp; done) | (simp; omega) | omega) _ | refine Ext.trans ?_ (by assumption)))) (fun hHeld => ?_); clear hK K; try simp only [Act.put, List.setIfInBounds_toArray, List.set_cons_zero, List.set_cons_succ]
      refine held_take 6 (v := ?_) rfl (by kernel_rfl) (by kernel_rfl) (by kernel_rfl) (fun _ _ _ h => h) (by assumption) (by rfl) ?_ ?_; rotate_left; (focus (intro w hSw; (try dsimp only at hSw); go_simp; (try with_reducible rfl))); try simp only [Act.put, List.setIfInBounds_toArray, List.set_cons_zero, List.set_cons_succ]
      refine held_take 7 (v := ?_) rfl (by kernel_rfl) (by kernel_rfl) (by kernel_rfl) (fun _ _ _ h => h) (by assumption) (by rfl) ?_ ?_; rotate_left; (focus (intro w hSw; (try dsimp only at hSw); go_simp; (try with_reducible rfl))); try simp only [Act.put, List.setIfInBounds_toArray, List.set_cons_zero, List.set_cons_succ]
      refine wpAnyH_done (by kernel_rfl) ?_ _
      rotate_left 1
      all_goals
        go_wp2_with fail
        go_meet
        have hfin := hHeld
        refine ⟨_, _, rfl, rfl, owns_ext X6.out h5, owns_base X5.out.size h6, fun k hk hk' => ?_, hHeld⟩
        have p1 := (ho5.lt k hk).2
        have p2 := (h6.lt k hk').1
        omega
    case rest =>
    obtain ⟨v5, v6, rfl, rfl, ho5, ho6, hdj, xc⟩ := hcut
    obtain ⟨wA, rfl⟩ : ∃ wA, wA = wc := ⟨_, rfl⟩
    have yc : Ext w wA := y1.trans xc
    have TAc := TA1.ext xc
    have TBc := TB1.ext xc
    have HO5 := Lib.hid ho5
    have HO6 := Lib.hid ho6
    have HDJ := Lib.hid hdj
    have XC := Lib.hid xc
    have Y1 := Lib.hid y1
    clear ho5 ho6 hdj xc TA1 TB1 y1 KF KE
    go_upto_region 4 with fail
    go_cut [7, 8] (fun s7 s8 wx => ∃ a7 n7 c7 a8 n8 c8, s7 = .slice a7 n7 c7 ∧ s8 = .slice a8 n8 c8 ∧ Nm (fun k => k < wA.heap.size) wx nb a7 n7 c7 ∧ Nm (fun k => k < wA.heap.size) wx eb a8 n8 c8 ∧ Ext wA wx)
    case first =>
      have HP1 : IsTms (wA.alloc (.cells #[.int .u8 y.k, .int .u8 y.op, .int .i64 y.pos, .int .i64 y.n, .string y.name, .string y.arg, .string y.exn, .slice a' len' cap'] 41)) [.mk y l'] (some ⟨wA.heap.size, 0, none⟩) 1 := HN2.out wA _ yc rfl
      have HP2 : IsTms ((wA.alloc (.cells #[.int .u8 y.k, .int .u8 y.op, .int .i64 y.pos, .int .i64 y.n, .string y.name, .string y.arg, .string y.exn, .slice a' len' cap'] 41)).alloc (.cells #[.int .u8 y.k, .int .u8 y.op, .int .i64 y.pos, .int .i64 y.n, .string y.name, .string y.arg, .string y.exn, .slice a' len' cap'] 41)) [.mk y l'] (some ⟨wA.heap.size + 1, 0, none⟩) 1 := HN2.out (wA.alloc (.cells #[.int .u8 y.k, .int .u8 y.op, .int .i64 y.pos, .int .i64 y.n, .string y.name, .string y.arg, .string y.exn, .slice a' len' cap'] 41)) _ (yc.alloc _) (by simp)
      have HP1 := Lib.hid HP1
      have HP2 := Lib.hid HP2
      obtain ⟨a0, a1, a2, a3, a4, a5, a6, a7⟩ := TBc
      have d0 := fun W (h : Ext wA W) => h.cell a0
      have d1 := fun W (h : Ext wA W) => h.cell a1
      have d2 := fun W (h : Ext wA W) => h.cell a2
      have d3 := fun W (h : Ext wA W) => h.cell a3
      have d4 := fun W (h : Ext wA W) => h.cell a4
      have d5 := fun W (h : Ext wA W) => h.cell a5
      have d6 := fun W (h : Ext wA W) => h.cell a6
      have d7 := fun W (h : Ext wA W) => h.cell a7
      refine wp_region_held_drew (S := fun w' => Ext wA w') (by kernel_rfl) (by (try dsimp only); (repeat (first | exact Ext.refl _ | assumption | refine Ext.alloc ?_ _ | refine Ext.drew ?_ | refine Ext.setCell ?_ (by first | (simp; done) | (simp; omega) | omega) _ | refine Ext.trans ?_ (by assumption)))) (fun hHeld => ?_)
      refine held_take 0 (v := ?_) rfl (by kernel_rfl) (by kernel_rfl) (by kernel_rfl) (fun _ _ _ h => h) (by assumption) (by rfl) ?_ ?_; rotate_left; (focus (intro w hSw; (try dsimp only at hSw); go_simp; (try with_reducible rfl))); try simp only [Act.put, List.setIfInBounds_toArray, List.set_cons_zero, List.set_cons_succ]
      refine held_take 3 (v := ?_) rfl (by kernel_rfl) (by kernel_rfl) (by kernel_rfl) (fun _ _ _ h => h) (by assumption) (by rfl) ?_ ?_; rotate_left; (focus (intro w hSw; (try dsimp only at hSw); go_simp; (try with_reducible rfl))); try simp only [Act.put, List.setIfInBounds_toArray, List.set_cons_zero, List.set_cons_succ]
      refine wpAnyH_ready (rs := [1, 4]) (by kernel_rfl) (by simp) ?_
      refine held_cons 1 rfl (by rfl) (fun K hK => ?_) (held_cons 4 rfl (by rfl) (fun K hK => ?_) AllReadyH.nil)
      go_simp; refine hK.out _ _ (by (try dsimp only); (repeat (first | exact Ext.refl _ | assumption | refine Ext.alloc ?_ _ | refine Ext.drew ?_ | refine Ext.setCell ?_ (by first | (simp; done) | (simp; omega) | omega) _ | refine Ext.trans ?_ (by assumption)))) (fun hHeld => ?_); clear hK K; try simp only [Act.put, List.setIfInBounds_toArray, List.set_cons_zero, List.set_cons_succ]
      refine wpAnyH_ready (rs := [2, 4]) (by kernel_rfl) (by simp) ?_
      refine held_cons 2 rfl (by rfl) (fun K hK => ?_) (held_cons 4 rfl (by rfl) (fun K hK => ?_) AllReadyH.nil)
      go_simp; (first | (go_at_call 31; refine (KF'.out _ _ (yc.trans (by (repeat (first | exact Ext.refl _ | assumption | refine Ext.alloc ?_ _ | refine Ext.drew ?_ | refine Ext.setCell ?_ (by first | (simp; done) | (simp; omega) | omega) _ | refine Ext.trans ?_ (by assumption))))) (by first | (refine IsTmsA.ext ?_ HP1.out; (repeat (first | exact Ext.refl _ | assumption | refine Ext.alloc ?_ _ | refine Ext.drew ?_ | refine Ext.setCell ?_ (by first | (simp; done) | (simp; omega) | omega) _ | refine Ext.trans ?_ (by assumption)))) | (refine IsTmsA.ext ?_ HP2.out; (repeat (first | exact Ext.refl _ | assumption | refine Ext.alloc ?_ _ | refine Ext.drew ?_ | refine Ext.setCell ?_ (by first | (simp; done) | (simp; omega) | omega) _ | refine Ext.trans ?_ (by assumption)))))).mono ?_; rintro e w5 ⟨v5, rfl, ho5, x5⟩; have HQ1 := IsTmsA.ext (show Ext (wA.alloc (.cells #[.int .u8 y.k, .int .u8 y.op, .int .i64 y.pos, .int .i64 y.n, .string y.name, .string y.arg, .string y.exn, .slice a' len' cap'] 41)) w5 from Ext.trans (by (repeat (first | exact Ext.refl _ | assumption | refine Ext.alloc ?_ _ | refine Ext.drew ?_ | refine Ext.setCell ?_ (by first | (simp; done) | (simp; omega) | omega) _ | refine Ext.trans ?_ (by assumption)))) x5) HP1.out; (first | (have HQ2 : IsTms w5 [.mk y l'] (some ⟨wA.heap.size + 1, 0, none⟩) 1 := (by refine IsTmsA.ext (Ext.trans ?_ x5) HP2.out; (refine Ext.drew ?_; exact Ext.refl _))) | skip); have X5 := Lib.hid (show Ext wA w5 from Ext.trans (by (repeat (first | exact Ext.refl _ | assumption | refine Ext.alloc ?_ _ | refine Ext.drew ?_ | refine Ext.setCell ?_ (by first | (simp; done) | (simp; omega) | omega) _ | refine Ext.trans ?_ (by assumption)))) x5); have h5 := owns_base (base' := wA.heap.size) (Ext.size (by (repeat (first | exact Ext.refl _ | assumption | refine Ext.alloc ?_ _ | refine Ext.drew ?_ | refine Ext.setCell ?_ (by first | (simp; done) | (simp; omega) | omega) _ | refine Ext.trans ?_ (by assumption))))) ho5) | (go_at_call 34; refine (KE'.out _ _ (yc.trans (by (repeat (first | exact Ext.refl _ | assumption | refine Ext.alloc ?_ _ | refine Ext.drew ?_ | refine Ext.setCell ?_ (by first | (simp; done) | (simp; omega) | omega) _ | refine Ext.trans ?_ (by assumption))))) (by first | (refine IsTmsA.ext ?_ HQ1; (first | exact Ext.refl _ | exact Ext.drew (Ext.refl _))) | (refine IsTmsA.ext ?_ HQ2; (first | exact Ext.refl _ | exact Ext.drew (Ext.refl _))) | (refine HN2.out _ _ (yc.trans ?_) ?_; (· (repeat (first | exact Ext.refl _ | assumption | refine Ext.alloc ?_ _ | refine Ext.drew ?_ | refine Ext.setCell ?_ (by first | (simp; done) | (simp; omega) | omega) _ | refine Ext.trans ?_ (by assumption)))); (· simp)))).mono ?_; rintro e w6 ⟨v6, rfl, ho6, x6⟩; have h6 := owns_base (base' := w5.heap.size) (Ext.size (by (repeat (first | exact Ext.refl _ | assumption | refine Ext.alloc ?_ _ | refine Ext.drew ?_ | refine Ext.setCell ?_ (by first | (simp; done) | (simp; omega) | omega) _ | refine Ext.trans ?_ (by assumption))))) ho6; have X6 := Lib.hid (show Ext w5 w6 from Ext.trans (by (repeat (first | exact Ext.refl _ | assumption | refine Ext.alloc ?_ _ | refine Ext.drew ?_ | refine Ext.setCell ?_ (by first | (simp; done) | (simp; omega) | omega) _ | refine Ext.trans ?_ (by assumption)))) x6))); (try (focus (go_wp2_with fail))); refine hK.out _ _ (by (try dsimp only); (repeat (first | exact Ext.refl _ | assumption | refine Ext.alloc ?_ _ | refine Ext.drew ?_ | refine Ext.setCell ?_ (by first | (simp; done) | (simp; omega) | omega) _ | refine Ext.trans ?_ (by assumption)))) (fun hHeld => ?_); clear hK K; try simp only [Act.put, List.setIfInBounds_toArray, List.set_cons_zero, List.set_cons_succ]
      refine held_do 4 rfl (by kernel_rfl) (by rfl) (fun K hK => ?_); go_simp; refine hK.out _ _ (by (try dsimp only); (repeat (first | exact Ext.refl _ | assumption | refine Ext.alloc ?_ _ | refine Ext.drew ?_ | refine Ext.setCell ?_ (by first | (simp; done) | (simp; omega) | omega) _ | refine Ext.trans ?_ (by assumption)))) (fun hHeld => ?_); clear hK K; try simp only [Act.put, List.setIfInBounds_toArray, List.set_cons_zero, List.set_cons_succ]
      refine held_do 5 rfl (by kernel_rfl) (by rfl) (fun K hK => ?_); go_simp; (first | (go_at_call 31; refine (KF'.out _ _ (yc.trans (by (repeat (first | exact Ext.refl _ | assumption | refine Ext.alloc ?_ _ | refine Ext.drew ?_ | refine Ext.setCell ?_ (by first | (simp; done) | (simp; omega) | omega) _ | refine Ext.trans ?_ (by assumption))))) (by first | (refine IsTmsA.ext ?_ HP1.out; (repeat (first | exact Ext.refl _ | assumption | refine Ext.alloc ?_ _ | refine Ext.drew ?_ | refine Ext.setCell ?_ (by first | (simp; done) | (simp; omega) | omega) _ | refine Ext.trans ?_ (by assumption)))) | (refine IsTmsA.ext ?_ HP2.out; (repeat (first | exact Ext.refl _ | assumption | refine Ext.alloc ?_ _ | refine Ext.drew ?_ | refine Ext.setCell ?_ (by first | (simp; done) | (simp; omega) | omega) _ | refine Ext.trans ?_ (by assumption)))))).mono ?_; rintro e w5 ⟨v5, rfl, ho5, x5⟩; have HQ1 := IsTmsA.ext (show Ext (wA.alloc (.cells #[.int .u8 y.k, .int .u8 y.op, .int .i64 y.pos, .int .i64 y.n, .string y.name, .string y.arg, .string y.exn, .slice a' len' cap'] 41)) w5 from Ext.trans (by (repeat (first | exact Ext.refl _ | assumption | refine Ext.alloc ?_ _ | refine Ext.drew ?_ | refine Ext.setCell ?_ (by first | (simp; done) | (simp; omega) | omega) _ | refine Ext.trans ?_ (by assumption)))) x5) HP1.out; (first | (have HQ2 : IsTms w5 [.mk y l'] (some ⟨wA.heap.size + 1, 0, none⟩) 1 := (by refine IsTmsA.ext (Ext.trans ?_ x5) HP2.out; (refine Ext.drew ?_; exact Ext.refl _))) | skip); have X5 := Lib.hid (show Ext wA w5 from Ext.trans (by (repeat (first | exact Ext.refl _ | assumption | refine Ext.alloc ?_ _ | refine Ext.drew ?_ | refine Ext.setCell ?_ (by first | (simp; done) | (simp; omega) | omega) _ | refine Ext.trans ?_ (by assumption)))) x5); have h5 := owns_base (base' := wA.heap.size) (Ext.size (by (repeat (first | exact Ext.refl _ | assumption | refine Ext.alloc ?_ _ | refine Ext.drew ?_ | refine Ext.setCell ?_ (by first | (simp; done) | (simp; omega) | omega) _ | refine Ext.trans ?_ (by assumption))))) ho5) | (go_at_call 34; refine (KE'.out _ _ (yc.trans (by (repeat (first | exact Ext.refl _ | assumption | refine Ext.alloc ?_ _ | refine Ext.drew ?_ | refine Ext.setCell ?_ (by first | (simp; done) | (simp; omega) | omega) _ | refine Ext.trans ?_ (by assumption))))) (by first | (refine IsTmsA.ext ?_ HQ1; (first | exact Ext.refl _ | exact Ext.drew (Ext.refl _))) | (refine IsTmsA.ext ?_ HQ2; (first | exact Ext.refl _ | exact Ext.drew (Ext.refl _))) | (refine HN2.out _ _ (yc.trans ?_) ?_; (· (repeat (first | exact Ext.refl _ | assumption | refine Ext.alloc ?_ _ | refine Ext.drew ?_ | refine Ext.setCell ?_ (by first | (simp; done) | (simp; omega) | omega) _ | refine Ext.trans ?_ (by assumption)))); (· simp)))).mono ?_; rintro e w6 ⟨v6, rfl, ho6, x6⟩; have h6 := owns_base (base' := w5.heap.size) (Ext.size (by (repeat (first | exact Ext.refl _ | assumption | refine Ext.alloc ?_ _ | refine Ext.drew ?_ | refine Ext.setCell ?_ (by first | (simp; done) | (simp; omega) | omega) _ | refine Ext.trans ?_ (by assumption))))) ho6; have X6 := Lib.hid (show Ext w5 w6 from Ext.trans (by (repeat (first | exact Ext.refl _ | assumption | refine Ext.alloc ?_ _ | refine Ext.drew ?_ | refine Ext.setCell ?_ (by first | (simp; done) | (simp; omega) | omega) _ | refine Ext.trans ?_ (by assumption)))) x6))); (try (focus (go_wp2_with fail))); refine hK.out _ _ (by (try dsimp only); (repeat (first | exact Ext.refl _ | assumption | refine Ext.alloc ?_ _ | refine Ext.drew ?_ | refine Ext.setCell ?_ (by first | (simp; done) | (simp; omega) | omega) _ | refine Ext.trans ?_ (by assumption)))) (fun hHeld => ?_); clear hK K; try simp only [Act.put, List.setIfInBounds_toArray, List.set_cons_zero, List.set_cons_succ]
      refine held_take 6 (v := ?_) rfl (by kernel_rfl) (by kernel_rfl) (by kernel_rfl) (fun _ _ _ h => h) (by assumption) (by rfl) ?_ ?_; rotate_left; (focus (intro w hSw; (try dsimp only at hSw); go_simp; (try with_reducible rfl))); try simp only [Act.put, List.setIfInBounds_toArray, List.set_cons_zero, List.set_cons_succ]
      refine held_take 7 (v := ?_) rfl (by kernel_rfl) (by kernel_rfl) (by kernel_rfl) (fun _ _ _ h => h) (by assumption) (by rfl) ?_ ?_; rotate_left; (focus (intro w hSw; (try dsimp only at hSw); go_simp; (try with_reducible rfl))); try simp only [Act.put, List.setIfInBounds_toArray, List.set_cons_zero, List.set_cons_succ]
      refine wpAnyH_done (by kernel_rfl) ?_ _
      rotate_left 1
      go_simp; refine hK.out _ _ (by (try dsimp only); (repeat (first | exact Ext.refl _ | assumption | refine Ext.alloc ?_ _ | refine Ext.drew ?_ | refine Ext.setCell ?_ (by first | (simp; done) | (simp; omega) | omega) _ | refine Ext.trans ?_ (by assumption)))) (fun hHeld => ?_); clear hK K; try simp only [Act.put, List.setIfInBounds_toArray, List.set_cons_zero, List.set_cons_succ]
      refine held_do 2 rfl (by kernel_rfl) (by rfl) (fun K hK => ?_); go_simp; (first | (go_at_call 31; refine (KF'.out _ _ (yc.trans (by (repeat (first | exact Ext.refl _ | assumption | refine Ext.alloc ?_ _ | refine Ext.drew ?_ | refine Ext.setCell ?_ (by first | (simp; done) | (simp; omega) | omega) _ | refine Ext.trans ?_ (by assumption))))) (by first | (refine IsTmsA.ext ?_ HP1.out; (repeat (first | exact Ext.refl _ | assumption | refine Ext.alloc ?_ _ | refine Ext.drew ?_ | refine Ext.setCell ?_ (by first | (simp; done) | (simp; omega) | omega) _ | refine Ext.trans ?_ (by assumption)))) | (refine IsTmsA.ext ?_ HP2.out; (repeat (first | exact Ext.refl _ | assumption | refine Ext.alloc ?_ _ | refine Ext.drew ?_ | refine Ext.setCell ?_ (by first | (simp; done) | (simp; omega) | omega) _ | refine Ext.trans ?_ (by assumption)))))).mono ?_; rintro e w5 ⟨v5, rfl, ho5, x5⟩; have HQ1 := IsTmsA.ext (show Ext (wA.alloc (.cells #[.int .u8 y.k, .int .u8 y.op, .int .i64 y.pos, .int .i64 y.n, .string y.name, .string y.arg, .string y.exn, .slice a' len' cap'] 41)) w5 from Ext.trans (by (repeat (first | exact Ext.refl _ | assumption | refine Ext.alloc ?_ _ | refine Ext.drew ?_ | refine Ext.setCell ?_ (by first | (simp; done) | (simp; omega) | omega) _ | refine Ext.trans ?_ (by assumption)))) x5) HP1.out; (first | (have HQ2 : IsTms w5 [.mk y l'] (some ⟨wA.heap.size + 1, 0, none⟩) 1 := (by refine IsTmsA.ext (Ext.trans ?_ x5) HP2.out; (refine Ext.drew ?_; exact Ext.refl _))) | skip); have X5 := Lib.hid (show Ext wA w5 from Ext.trans (by (repeat (first | exact Ext.refl _ | assumption | refine Ext.alloc ?_ _ | refine Ext.drew ?_ | refine Ext.setCell ?_ (by first | (simp; done) | (simp; omega) | omega) _ | refine Ext.trans ?_ (by assumption)))) x5); have h5 := owns_base (base' := wA.heap.size) (Ext.size (by (repeat (first | exact Ext.refl _ | assumption | refine Ext.alloc ?_ _ | refine Ext.drew ?_ | refine Ext.setCell ?_ (by first | (simp; done) | (simp; omega) | omega) _ | refine Ext.trans ?_ (by assumption))))) ho5) | (go_at_call 34; refine (KE'.out _ _ (yc.trans (by (repeat (first | exact Ext.refl _ | assumption | refine Ext.alloc ?_ _ | refine Ext.drew ?_ | refine Ext.setCell ?_ (by first | (simp; done) | (simp; omega) | omega) _ | refine Ext.trans ?_ (by assumption))))) (by first | (refine IsTmsA.ext ?_ HQ1; (first | exact Ext.refl _ | exact Ext.drew (Ext.refl _))) | (refine IsTmsA.ext ?_ HQ2; (first | exact Ext.refl _ | exact Ext.drew (Ext.refl _))) | (refine HN2.out _ _ (yc.trans ?_) ?_; (· (repeat (first | exact Ext.refl _ | assumption | refine Ext.alloc ?_ _ | refine Ext.drew ?_ | refine Ext.setCell ?_ (by first | (simp; done) | (simp; omega) | omega) _ | refine Ext.trans ?_ (by assumption)))); (· simp)))).mono ?_; rintro e w6 ⟨v6, rfl, ho6, x6⟩; have h6 := owns_base (base' := w5.heap.size) (Ext.size (by (repeat (first | exact Ext.refl _ | assumption | refine Ext.alloc ?_ _ | refine Ext.drew ?_ | refine Ext.setCell ?_ (by first | (simp; done) | (simp; omega) | omega) _ | refine Ext.trans ?_ (by assumption))))) ho6; have X6 := Lib.hid (show Ext w5 w6 from Ext.trans (by (repeat (first | exact Ext.refl _ | assumption | refine Ext.alloc ?_ _ | refine Ext.drew ?_ | refine Ext.setCell ?_ (by first | (simp; done) | (simp; omega) | omega) _ | refine Ext.trans ?_ (by assumption)))) x6))); (try (focus (go_wp2_with fail))); refine hK.out _ _ (by (try dsimp only); (repeat (first | exact Ext.refl _ | assumption | refine Ext.alloc ?_ _ | refine Ext.drew ?_ | refine Ext.setCell ?_ (by first | (simp; done) | (simp; omega) | omega) _ | refine Ext.trans ?_ (by assumption)))) (fun hHeld => ?_); clear hK K; try simp only [Act.put, List.setIfInBounds_toArray, List.set_cons_zero, List.set_cons_succ]
      refine held_do 5 rfl (by kernel_rfl) (by rfl) (fun K hK => ?_); go_simp; (first | (go_at_call 31; refine (KF'.out _ _ (yc.trans (by (repeat (first | exact Ext.refl _ | assumption | refine Ext.alloc ?_ _ | refine Ext.drew ?_ | refine Ext.setCell ?_ (by first | (simp; done) | (simp; omega) | omega) _ | refine Ext.trans ?_ (by assumption))))) (by first | (refine IsTmsA.ext ?_ HP1.out; (repeat (first | exact Ext.refl _ | assumption | refine Ext.alloc ?_ _ | refine Ext.drew ?_ | refine Ext.setCell ?_ (by first | (simp; done) | (simp; omega) | omega) _ | refine Ext.trans ?_ (by assumption)))) | (refine IsTmsA.ext ?_ HP2.out; (repeat (first | exact Ext.refl _ | assumption | refine Ext.alloc ?_ _ | refine Ext.drew ?_ | refine Ext.setCell ?_ (by first | (simp; done) | (simp; omega) | omega) _ | refine Ext.trans ?_ (by assumption)))))).mono ?_; rintro e w5 ⟨v5, rfl, ho5, x5⟩; have HQ1 := IsTmsA.ext (show Ext (wA.alloc (.cells #[.int .u8 y.k, .int .u8 y.op, .int .i64 y.pos, .int .i64 y.n, .string y.name, .string y.arg, .string y.exn, .slice a' len' cap'] 41)) w5 from Ext.trans (by (repeat (first | exact Ext.refl _ | assumption | refine Ext.alloc ?_ _ | refine Ext.drew ?_ | refine Ext.setCell ?_ (by first | (simp; done) | (simp; omega) | omega) _ | refine Ext.trans ?_ (by assumption)))) x5) HP1.out; (first | (have HQ2 : IsTms w5 [.mk y l'] (some ⟨wA.heap.size + 1, 0, none⟩) 1 := (by refine IsTmsA.ext (Ext.trans ?_ x5) HP2.out; (refine Ext.drew ?_; exact Ext.refl _))) | skip); have X5 := Lib.hid (show Ext wA w5 from Ext.trans (by (repeat (first | exact Ext.refl _ | assumption | refine Ext.alloc ?_ _ | refine Ext.drew ?_ | refine Ext.setCell ?_ (by first | (simp; done) | (simp; omega) | omega) _ | refine Ext.trans ?_ (by assumption)))) x5); have h5 := owns_base (base' := wA.heap.size) (Ext.size (by (repeat (first | exact Ext.refl _ | assumption | refine Ext.alloc ?_ _ | refine Ext.drew ?_ | refine Ext.setCell ?_ (by first | (simp; done) | (simp; omega) | omega) _ | refine Ext.trans ?_ (by assumption))))) ho5) | (go_at_call 34; refine (KE'.out _ _ (yc.trans (by (repeat (first | exact Ext.refl _ | assumption | refine Ext.alloc ?_ _ | refine Ext.drew ?_ | refine Ext.setCell ?_ (by first | (simp; done) | (simp; omega) | omega) _ | refine Ext.trans ?_ (by assumption))))) (by first | (refine IsTmsA.ext ?_ HQ1; (first | exact Ext.refl _ | exact Ext.drew (Ext.refl _))) | (refine IsTmsA.ext ?_ HQ2; (first | exact Ext.refl _ | exact Ext.drew (Ext.refl _))) | (refine HN2.out _ _ (yc.trans ?_) ?_; (· (repeat (first | exact Ext.refl _ | assumption | refine Ext.alloc ?_ _ | refine Ext.drew ?_ | refine Ext.setCell ?_ (by first | (simp; done) | (simp; omega) | omega) _ | refine Ext.trans ?_ (by assumption)))); (· simp)))).mono ?_; rintro e w6 ⟨v6, rfl, ho6, x6⟩; have h6 := owns_base (base' := w5.heap.size) (Ext.size (by (repeat (first | exact Ext.refl _ | assumption | refine Ext.alloc ?_ _ | refine Ext.drew ?_ | refine Ext.setCell ?_ (by first | (simp; done) | (simp; omega) | omega) _ | refine Ext.trans ?_ (by assumption))))) ho6; have X6 := Lib.hid (show Ext w5 w6 from Ext.trans (by (repeat (first | exact Ext.refl _ | assumption | refine Ext.alloc ?_ _ | refine Ext.drew ?_ | refine Ext.setCell ?_ (by first | (simp; done) | (simp; omega) | omega) _ | refine Ext.trans ?_ (by assumption)))) x6))); (try (focus (go_wp2_with fail))); refine hK.out _ _ (by (try dsimp only); (repeat (first | exact Ext.refl _ | assumption | refine Ext.alloc ?_ _ | refine Ext.drew ?_ | refine Ext.setCell ?_ (by first | (simp; done) | (simp; omega) | omega) _ | refine Ext.trans ?_ (by assumption)))) (fun hHeld => ?_); clear hK K; try simp only [Act.put, List.setIfInBounds_toArray, List.set_cons_zero, List.set_cons_succ]
      refine held_take 6 (v := ?_) rfl (by kernel_rfl) (by kernel_rfl) (by kernel_rfl) (fun _ _ _ h => h) (by assumption) (by rfl) ?_ ?_; rotate_left; (focus (intro w hSw; (try dsimp only at hSw); go_simp; (try with_reducible rfl))); try simp only [Act.put, List.setIfInBounds_toArray, List.set_cons_zero, List.set_cons_succ]
      refine held_take 7 (v := ?_) rfl (by kernel_rfl) (by kernel_rfl) (by kernel_rfl) (fun _ _ _ h => h) (by assumption) (by rfl) ?_ ?_; rotate_left; (focus (intro w hSw; (try dsimp only at hSw); go_simp; (try with_reducible rfl))); try simp only [Act.put, List.setIfInBounds_toArray, List.set_cons_zero, List.set_cons_succ]
      refine wpAnyH_done (by kernel_rfl) ?_ _
      rotate_left 1
      go_simp; refine hK.out _ _ (by (try dsimp only); (repeat (first | exact Ext.refl _ | assumption | refine Ext.alloc ?_ _ | refine Ext.drew ?_ | refine Ext.setCell ?_ (by first | (simp; done) | (simp; omega) | omega) _ | refine Ext.trans ?_ (by assumption)))) (fun hHeld => ?_); clear hK K; try simp only [Act.put, List.setIfInBounds_toArray, List.set_cons_zero, List.set_cons_succ]
      refine held_do 1 rfl (by kernel_rfl) (by rfl) (fun K hK => ?_); go_simp; refine hK.out _ _ (by (try dsimp only); (repeat (first | exact Ext.refl _ | assumption | refine Ext.alloc ?_ _ | refine Ext.drew ?_ | refine Ext.setCell ?_ (by first | (simp; done) | (simp; omega) | omega) _ | refine Ext.trans ?_ (by assumption)))) (fun hHeld => ?_); clear hK K; try simp only [Act.put, List.setIfInBounds_toArray, List.set_cons_zero, List.set_cons_succ]
      refine held_do 2 rfl (by kernel_rfl) (by rfl) (fun K hK => ?_); go_simp; (first | (go_at_call 31; refine (KF'.out _ _ (yc.trans (by (repeat (first | exact Ext.refl _ | assumption | refine Ext.alloc ?_ _ | refine Ext.drew ?_ | refine Ext.setCell ?_ (by first | (simp; done) | (simp; omega) | omega) _ | refine Ext.trans ?_ (by assumption))))) (by first | (refine IsTmsA.ext ?_ HP1.out; (repeat (first | exact Ext.refl _ | assumption | refine Ext.alloc ?_ _ | refine Ext.drew ?_ | refine Ext.setCell ?_ (by first | (simp; done) | (simp; omega) | omega) _ | refine Ext.trans ?_ (by assumption)))) | (refine IsTmsA.ext ?_ HP2.out; (repeat (first | exact Ext.refl _ | assumption | refine Ext.alloc ?_ _ | refine Ext.drew ?_ | refine Ext.setCell ?_ (by first | (simp; done) | (simp; omega) | omega) _ | refine Ext.trans ?_ (by assumption)))))).mono ?_; rintro e w5 ⟨v5, rfl, ho5, x5⟩; have HQ1 := IsTmsA.ext (show Ext (wA.alloc (.cells #[.int .u8 y.k, .int .u8 y.op, .int .i64 y.pos, .int .i64 y.n, .string y.name, .string y.arg, .string y.exn, .slice a' len' cap'] 41)) w5 from Ext.trans (by (repeat (first | exact Ext.refl _ | assumption | refine Ext.alloc ?_ _ | refine Ext.drew ?_ | refine Ext.setCell ?_ (by first | (simp; done) | (simp; omega) | omega) _ | refine Ext.trans ?_ (by assumption)))) x5) HP1.out; (first | (have HQ2 : IsTms w5 [.mk y l'] (some ⟨wA.heap.size + 1, 0, none⟩) 1 := (by refine IsTmsA.ext (Ext.trans ?_ x5) HP2.out; (refine Ext.drew ?_; exact Ext.refl _))) | skip); have X5 := Lib.hid (show Ext wA w5 from Ext.trans (by (repeat (first | exact Ext.refl _ | assumption | refine Ext.alloc ?_ _ | refine Ext.drew ?_ | refine Ext.setCell ?_ (by first | (simp; done) | (simp; omega) | omega) _ | refine Ext.trans ?_ (by assumption)))) x5); have h5 := owns_base (base' := wA.heap.size) (Ext.size (by (repeat (first | exact Ext.refl _ | assumption | refine Ext.alloc ?_ _ | refine Ext.drew ?_ | refine Ext.setCell ?_ (by first | (simp; done) | (simp; omega) | omega) _ | refine Ext.trans ?_ (by assumption))))) ho5) | (go_at_call 34; refine (KE'.out _ _ (yc.trans (by (repeat (first | exact Ext.refl _ | assumption | refine Ext.alloc ?_ _ | refine Ext.drew ?_ | refine Ext.setCell ?_ (by first | (simp; done) | (simp; omega) | omega) _ | refine Ext.trans ?_ (by assumption))))) (by first | (refine IsTmsA.ext ?_ HQ1; (first | exact Ext.refl _ | exact Ext.drew (Ext.refl _))) | (refine IsTmsA.ext ?_ HQ2; (first | exact Ext.refl _ | exact Ext.drew (Ext.refl _))) | (refine HN2.out _ _ (yc.trans ?_) ?_; (· (repeat (first | exact Ext.refl _ | assumption | refine Ext.alloc ?_ _ | refine Ext.drew ?_ | refine Ext.setCell ?_ (by first | (simp; done) | (simp; omega) | omega) _ | refine Ext.trans ?_ (by assumption)))); (· simp)))).mono ?_; rintro e w6 ⟨v6, rfl, ho6, x6⟩; have h6 := owns_base (base' := w5.heap.size) (Ext.size (by (repeat (first | exact Ext.refl _ | assumption | refine Ext.alloc ?_ _ | refine Ext.drew ?_ | refine Ext.setCell ?_ (by first | (simp; done) | (simp; omega) | omega) _ | refine Ext.trans ?_ (by assumption))))) ho6; have X6 := Lib.hid (show Ext w5 w6 from Ext.trans (by (repeat (first | exact Ext.refl _ | assumption | refine Ext.alloc ?_ _ | refine Ext.drew ?_ | refine Ext.setCell ?_ (by first | (simp; done) | (simp; omega) | omega) _ | refine Ext.trans ?_ (by assumption)))) x6))); (try (focus (go_wp2_with fail))); refine hK.out _ _ (by (try dsimp only); (repeat (first | exact Ext.refl _ | assumption | refine Ext.alloc ?_ _ | refine Ext.drew ?_ | refine Ext.setCell ?_ (by first | (simp; done) | (simp; omega) | omega) _ | refine Ext.trans ?_ (by assumption)))) (fun hHeld => ?_); clear hK K; try simp only [Act.put, List.setIfInBounds_toArray, List.set_cons_zero, List.set_cons_succ]
      refine held_do 5 rfl (by kernel_rfl) (by rfl) (fun K hK => ?_); go_simp; (first | (go_at_call 31; refine (KF'.out _ _ (yc.trans (by (repeat (first | exact Ext.refl _ | assumption | refine Ext.alloc ?_ _ | refine Ext.drew ?_ | refine Ext.setCell ?_ (by first | (simp; done) | (simp; omega) | omega) _ | refine Ext.trans ?_ (by assumption))))) (by first | (refine IsTmsA.ext ?_ HP1.out; (repeat (first | exact Ext.refl _ | assumption | refine Ext.alloc ?_ _ | refine Ext.drew ?_ | refine Ext.setCell ?_ (by first | (simp; done) | (simp; omega) | omega) _ | refine Ext.trans ?_ (by assumption)))) | (refine IsTmsA.ext ?_ HP2.out; (repeat (first | exact Ext.refl _ | assumption | refine Ext.alloc ?_ _ | refine Ext.drew ?_ | refine Ext.setCell ?_ (by first | (simp; done) | (simp; omega) | omega) _ | refine Ext.trans ?_ (by assumption)))))).mono ?_; rintro e w5 ⟨v5, rfl, ho5, x5⟩; have HQ1 := IsTmsA.ext (show Ext (wA.alloc (.cells #[.int .u8 y.k, .int .u8 y.op, .int .i64 y.pos, .int .i64 y.n, .string y.name, .string y.arg, .string y.exn, .slice a' len' cap'] 41)) w5 from Ext.trans (by (repeat (first | exact Ext.refl _ | assumption | refine Ext.alloc ?_ _ | refine Ext.drew ?_ | refine Ext.setCell ?_ (by first | (simp; done) | (simp; omega) | omega) _ | refine Ext.trans ?_ (by assumption)))) x5) HP1.out; (first | (have HQ2 : IsTms w5 [.mk y l'] (some ⟨wA.heap.size + 1, 0, none⟩) 1 := (by refine IsTmsA.ext (Ext.trans ?_ x5) HP2.out; (refine Ext.drew ?_; exact Ext.refl _))) | skip); have X5 := Lib.hid (show Ext wA w5 from Ext.trans (by (repeat (first | exact Ext.refl _ | assumption | refine Ext.alloc ?_ _ | refine Ext.drew ?_ | refine Ext.setCell ?_ (by first | (simp; done) | (simp; omega) | omega) _ | refine Ext.trans ?_ (by assumption)))) x5); have h5 := owns_base (base' := wA.heap.size) (Ext.size (by (repeat (first | exact Ext.refl _ | assumption | refine Ext.alloc ?_ _ | refine Ext.drew ?_ | refine Ext.setCell ?_ (by first | (simp; done) | (simp; omega) | omega) _ | refine Ext.trans ?_ (by assumption))))) ho5) | (go_at_call 34; refine (KE'.out _ _ (yc.trans (by (repeat (first | exact Ext.refl _ | assumption | refine Ext.alloc ?_ _ | refine Ext.drew ?_ | refine Ext.setCell ?_ (by first | (simp; done) | (simp; omega) | omega) _ | refine Ext.trans ?_ (by assumption))))) (by first | (refine IsTmsA.ext ?_ HQ1; (first | exact Ext.refl _ | exact Ext.drew (Ext.refl _))) | (refine IsTmsA.ext ?_ HQ2; (first | exact Ext.refl _ | exact Ext.drew (Ext.refl _))) | (refine HN2.out _ _ (yc.trans ?_) ?_; (· (repeat (first | exact Ext.refl _ | assumption | refine Ext.alloc ?_ _ | refine Ext.drew ?_ | refine Ext.setCell ?_ (by first | (simp; done) | (simp; omega) | omega) _ | refine Ext.trans ?_ (by assumption)))); (· simp)))).mono ?_; rintro e w6 ⟨v6, rfl, ho6, x6⟩; have h6 := owns_base (base' := w5.heap.size) (Ext.size (by (repeat (first | exact Ext.refl _ | assumption | refine Ext.alloc ?_ _ | refine Ext.drew ?_ | refine Ext.setCell ?_ (by first | (simp; done) | (simp; omega) | omega) _ | refine Ext.trans ?_ (by assumption))))) ho6; have X6 := Lib.hid (show Ext w5 w6 from Ext.trans (by (repeat (first | exact Ext.refl _ | assumption | refine Ext.alloc ?_ _ | refine Ext.drew ?_ | refine Ext.setCell ?_ (by first | (simp; done) | (simp; omega) | omega) _ | refine Ext.trans ?_ (by assumption)))) x6))); (try (focus (go_wp2_with fail))); refine hK.out _ _ (by (try dsimp only); (repeat (first | exact Ext.refl _ | assumption | refine Ext.alloc ?_ _ | refine Ext.drew ?_ | refine Ext.setCell ?_ (by first | (simp; done) | (simp; omega) | omega) _ | refine Ext.trans ?_ (by assumption)))) (fun hHeld => ?_); clear hK K; try simp only [Act.put, List.setIfInBounds_toArray, List.set_cons_zero, List.set_cons_succ]
      refine held_take 6 (v := ?_) rfl (by kernel_rfl) (by kernel_rfl) (by kernel_rfl) (fun _ _ _ h => h) (by assumption) (by rfl) ?_ ?_; rotate_left; (focus (intro w hSw; (try dsimp only at hSw); go_simp; (try with_reducible rfl))); try simp only [Act.put, List.setIfInBounds_toArray, List.set_cons_zero, List.set_cons_succ]
      refine held_take 7 (v := ?_) rfl (by kernel_rfl) (by kernel_rfl) (by kernel_rfl) (fun _ _ _ h => h) (by assumption) (by rfl) ?_ ?_; rotate_left; (focus (intro w hSw; (try dsimp only at hSw); go_simp; (try with_reducible rfl))); try simp only [Act.put, List.setIfInBounds_toArray, List.set_cons_zero, List.set_cons_succ]
      refine wpAnyH_done (by kernel_rfl) ?_ _
      rotate_left 1
      all_goals
        obtain ⟨a7', c7', rfl, N7⟩ := nm_owned_at (A := fun k => k < wA.heap.size) (owns_ext X6.out h5) (fun k hk => hk)
        obtain ⟨a8', c8', rfl, N8⟩ := nm_owned_at (A := fun k => k < wA.heap.size) (owns_base X5.out.size h6) (fun k hk => hk)
        have N7 := Lib.hid N7
        have N8 := Lib.hid N8
        go_wp2_with fail
        go_meet
        exact ⟨_, _, _, _, _, _, rfl, rfl, N7.out, N8.out, hHeld⟩
    case rest =>
    obtain ⟨a7, n7, c7, a8, n8, c8, rfl, rfl, hn7, hn8, xd⟩ := hcut
    obtain ⟨W2, rfl⟩ : ∃ W2, W2 = wc := ⟨_, rfl⟩
    have low5 : ∀ k, u5.ownBlock = some k → W1.heap.size ≤ k ∧ k < wA.heap.size := fun k hk => HO5.out.lt k hk
    have low6 : ∀ k, u6.ownBlock = some k → W1.heap.size ≤ k ∧ k < wA.heap.size := fun k hk => HO6.out.lt k hk
    have hA1 := TAc.lt
    have hbA := (TBox.lt TBc)
    have hw1 : w.heap.size + 1 < W1.heap.size := HBL.out
    have G0 : Grow W2 u5 na u5 W2 := Grow.start (owns_ext xd HO5.out)
    have G6 : W2.ownsRow W1.heap.size 9 1 u6 ea.length (vstr ea) := owns_ext xd HO6.out
    have y2 : Ext w W2 := yc.trans xd
    have TA2 := TAc.ext xd
    have TB2 := TBc.ext xd
    have hl7 := hn7.length
    have hl8 := hn8.length
    have hs2 := xd.size
    have hw2 := y2.size
    have HN7 := Lib.hid hn7
    have HN8 := Lib.hid hn8
    have HG0 := Lib.hid G0
    have HG6 := Lib.hid G6
    have HY2 := Lib.hid y2
    have HTA2 := Lib.hid TA2
    have HTB2 := Lib.hid TB2
    have HLOW5 := Lib.hid low5
    have HLOW6 := Lib.hid low6
    have HL7 := Lib.hid hl7
    have HL8 := Lib.hid hl8
    have g7a := hn7.le
    have g7b := hn7.max
    have g8a := hn8.le
    have g8b := hn8.max
    obtain ⟨i0, hi, hz0, hz1', hz2'⟩ := infoStr1
    have HIN := Lib.hid (And.intro hi (And.intro hz0 (And.intro hz1' hz2')))
    clear hn7 hn8 G0 G6 y2 TA2 TB2 low5 low6 hl7 hl8 xd yc TAc TBc hi hz0 hz1' hz2'
    go_wp2_with fail
    go_loopg [5, 9] n7 (fun g s i wr => ∃ j : Nat, g = n7 - j ∧ j ≤ n7 ∧ i = .int .i64 j ∧ Grow W2 u5 (puts na (nb.take j)) s wr)
    case atStart => exact ⟨0, by omega, by omega, rfl, by simpa [puts_nil] using HG0.out⟩
    case round =>
      obtain ⟨j, rfl, hj, rfl, hG⟩ := hrel
      have HG := Lib.hid hG
      obtain ⟨ar5, cs, rfl, f1, f2, f3⟩ := hG.open_
      have hr7 : IsRow wr (vstr nb) a7 n7 := row_extx hG.ext (fun p e h => (HN7.out.off p e).1 ((HLOW5.out _ h).2)) HN7.out.row
      have HR7 := Lib.hid hr7
      have F3 := Lib.hid f3
      have hsx := hG.ext.size
      have hpl := puts_length (nb.take j) na
      have htl : (nb.take j).length ≤ nb.length := by rw [List.length_take]; omega
      clear hG f3 hr7
      by_cases hlt : j < n7
      · obtain ⟨z, b, o, g, rfl, q⟩ := HR7.out.str hlt
        have HP := Lib.hid (puts_at na nb j z g)
        have KI := Lib.hid (ref7_in z (puts na (nb.take j)) wr ar5 (puts na (nb.take j)).length cs f1 f2 F3.out)
        generalize puts na (nb.take j) = Lj at *
        clear g
        cases hin : inB Lj z
        · rw [hin] at KI HP
          clear hin
          go_wp2_with (first | (go_at_call 36; refine (KI.out).mono ?_; rintro e w2 ⟨rfl, x2⟩; have q2 := x2.cell q; have hb2 := block_lt_of_cell q2; simp only at hb2) | (at_builtin; refine wpList_append_mine rfl (.tmp 53) (.tmp 58) 51 rfl 0 9 i0 (.string ByteArray.empty) 1 16 Tryd.underlying51 HIN.out.1 HIN.out.2.1 HIN.out.2.2.1 HIN.out.2.2.2 rfl (by decide) (Value.slice ar5 Lj.length cs) Lj.length (vstr Lj) rfl (HG.out.later (x2.alloc _)).own ⟨w2.heap.size, 0, none⟩ 1 1 [.string z] rfl rfl (fun i u hu => by rw [Addr.add_lit, Nat.zero_add]; exact (World.cell?_alloc_new w2 _ _ _).trans (by simpa using hu)) (fun u hu => by simp at hu; subst hu; rfl) (by unfold maxLen; omega) (by omega) (Nat.zero_le _) ?_; intro v9 w9 ho9 hg9 hw9; have HG9 := Lib.hid ((HG.out.later (x2.alloc _)).more ho9 hg9 hw9); obtain ⟨a9, c9, rfl, _, _, _⟩ := owns_row1 ho9; clear ho9 hg9 hw9))
          go_roundg (n7 - (j + 1))
          case rel => exact ⟨j + 1, rfl, by omega, by go_num, by rw [HP.out]; exact HG9.out⟩
          case measure => omega
        · rw [hin] at KI HP
          clear hin
          go_wp2_with (go_at_call 36; refine (KI.out).mono ?_; rintro e w2 ⟨rfl, x2⟩)
          go_roundg (n7 - (j + 1))
          case rel => exact ⟨j + 1, rfl, by omega, by go_num, by rw [HP.out]; exact HG.out.later x2⟩
          case measure => omega
      · obtain rfl : j = n7 := by omega
        have ht7 : nb.take j = nb := List.take_of_length_le (by have := HL7.out; omega)
        obtain ⟨W3, rfl⟩ : ∃ W3, W3 = wr := ⟨_, rfl⟩
        have hL5 : puts na (nb.take j) = puts na nb := by rw [ht7]
        generalize puts na (nb.take j) = L5 at *
        have HL5 := Lib.hid hL5
        have hblk : ∀ p, ar5 = some p → (Value.slice ar5 L5.length cs).ownBlock = some p.block := fun p e => by
          subst e
          exact own_block HG.out.own
        have G6 : Grow W3 u6 ea u6 W3 := Grow.start (owns_extx HG.out.ext (fun k hk h => HDJ.out k h hk) HG6.out)
        have r8 : IsRow W3 (vstr eb) a8 n8 := row_extx HG.out.ext (fun p e h => (HN8.out.off p e).1 ((HLOW5.out _ h).2)) HN8.out.row
        have y3 : Ext w W3 := HG.out.ext_ HY2.out (fun k hk => by have := (HLOW5.out k hk).1; omega)
        have TA3 := HTA2.out.extx HG.out.ext (fun h => by have := (HLOW5.out _ h).1; omega)
        have TB3 := HTB2.out.extx HG.out.ext (fun h => by have := (HLOW5.out _ h).1; omega)
        have off5 : ∀ p, ar5 = some p → u6.ownBlock ≠ some p.block := fun p e h => by
          rcases HG.out.loc _ (hblk p e) with h' | h'
          · exact HDJ.out _ h' h
          · have := (HLOW6.out _ h).2; omega
        have HOFF5 := Lib.hid off5
        have HG6' := Lib.hid G6
        have HR8 := Lib.hid r8
        have HY3 := Lib.hid y3
        have HTA3 := Lib.hid TA3
        have HTB3 := Lib.hid TB3
        have F3 := Lib.hid F3.out
        clear hL5 ht7 hblk G6 r8 y3 TA3 TB3 off5 HG HR7 HTA2 HTB2
        go_wp2_with fail
        go_loopg [6, 10] n8 (fun g s i wr => ∃ j : Nat, g = n8 - j ∧ j ≤ n8 ∧ i = .int .i64 j ∧ Grow W3 u6 (puts ea (eb.take j)) s wr)
        case atStart => exact ⟨0, by omega, by omega, rfl, by simpa [puts_nil] using HG6'.out⟩
        case round =>
          obtain ⟨q, rfl, hq8, rfl, hG⟩ := hrel
          have HG := Lib.hid hG
          obtain ⟨ar6, c6, rfl, p1, p2, p3⟩ := hG.open_
          have hr8 : IsRow wr (vstr eb) a8 n8 := row_extx hG.ext (fun p e h => (HN8.out.off p e).1 ((HLOW6.out _ h).2)) HR8.out
          have HR8w := Lib.hid hr8
          have P3 := Lib.hid p3
          have hpl8 := puts_length (eb.take q) ea
          have htl8 : (eb.take q).length ≤ eb.length := by rw [List.length_take]; omega
          clear hG p3 hr8
          by_cases hlt8 : q < n8
          · obtain ⟨z, b, o, g, rfl, qz⟩ := HR8w.out.str hlt8
            have HP := Lib.hid (puts_at ea eb q z g)
            have KI := Lib.hid (ref7_in z (puts ea (eb.take q)) wr ar6 (puts ea (eb.take q)).length c6 p1 p2 P3.out)
            generalize puts ea (eb.take q) = Lj at *
            clear g
            cases hin : inB Lj z
            · rw [hin] at KI HP
              clear hin
              go_wp2_with (first | (go_at_call 36; refine (KI.out).mono ?_; rintro e w2 ⟨rfl, x2⟩; have q2 := x2.cell qz; have hb2 := block_lt_of_cell q2; simp only at hb2) | (at_builtin; refine wpList_append_mine rfl (.tmp 73) (.tmp 78) 51 rfl 0 9 i0 (.string ByteArray.empty) 1 16 Tryd.underlying51 HIN.out.1 HIN.out.2.1 HIN.out.2.2.1 HIN.out.2.2.2 rfl (by decide) (Value.slice ar6 Lj.length c6) Lj.length (vstr Lj) rfl (HG.out.later (x2.alloc _)).own ⟨w2.heap.size, 0, none⟩ 1 1 [.string z] rfl rfl (fun i u hu => by rw [Addr.add_lit, Nat.zero_add]; exact (World.cell?_alloc_new w2 _ _ _).trans (by simpa using hu)) (fun u hu => by simp at hu; subst hu; rfl) (by unfold maxLen; omega) (by omega) (Nat.zero_le _) ?_; intro v9 w9 ho9 hg9 hw9; have HG9 := Lib.hid ((HG.out.later (x2.alloc _)).more ho9 hg9 hw9); obtain ⟨a9, c9, rfl, _, _, _⟩ := owns_row1 ho9; clear ho9 hg9 hw9))
              go_roundg (n8 - (q + 1))
              case rel => exact ⟨q + 1, rfl, by omega, by go_num, by rw [HP.out]; exact HG9.out⟩
              case measure => omega
            · rw [hin] at KI HP
              clear hin
              go_wp2_with (go_at_call 36; refine (KI.out).mono ?_; rintro e w2 ⟨rfl, x2⟩)
              go_roundg (n8 - (q + 1))
              case rel => exact ⟨q + 1, rfl, by omega, by go_num, by rw [HP.out]; exact HG.out.later x2⟩
              case measure => omega
          · obtain rfl : q = n8 := by omega
            have ht8 : eb.take q = eb := List.take_of_length_le (by have := HL8.out; omega)
            have hL6 : puts ea (eb.take q) = puts ea eb := by rw [ht8]
            generalize puts ea (eb.take q) = L6 at *
            obtain ⟨W4, rfl⟩ : ∃ W4, W4 = wr := ⟨_, rfl⟩
            have y4 : Ext w W4 := HG.out.ext_ HY3.out (fun k hk => by have := (HLOW6.out k hk).1; omega)
            have R5 := Lib.hid (row_extx HG.out.ext (fun p e h => HOFF5.out p e h) F3.out)
            obtain ⟨a0, a1, a2, a3, a4, a5, a6, a7'⟩ := HTA3.out.extx HG.out.ext (fun h => by have := (HLOW6.out _ h).1; omega)
            obtain ⟨b0, b1, b2, b3, b4, b5, b6, b7⟩ := HTB3.out.extx HG.out.ext (fun h => by have := (HLOW6.out _ h).1; omega)
            have hsw : w.heap.size + 1 < W4.heap.size := (TBox.mk b0 b1 b2 b3 b4 b5 b6 b7).lt
            have N2 : Hid (∀ W n, Ext w W → n = W.heap.size → IsTms (W.alloc (.cells #[.int .u8 x.k, .int .u8 x.op, .int .i64 x.pos, .int .i64 x.n, .string x.name, .string x.arg, .string x.exn, .slice a len cap, .int .u8 y.k, .int .u8 y.op, .int .i64 y.pos, .int .i64 y.n, .string y.name, .string y.arg, .string y.exn, .slice a' len' cap'] 41)) [.mk x l, .mk y l'] (some ⟨n, 0, none⟩) 2) := Lib.hid fun W n h e => by
              subst e
              exact IsTms.new2 41 (HL.out.ext h) h1 h2 HF.out (HL'.out.ext h) h1' h2' HF'.out
            rw [← HL5.out] at KF2
            rw [← hL6] at KE2
            have same : ∀ L : List ByteArray, sameB L L = true := fun L => by simp [sameB]
            have S1 := Lib.hid (same L5)
            have S2 := Lib.hid (same L6)
            have hw4 : w.heap.size < W4.heap.size := by omega
            have Y4 := Lib.hid y4
            clear same hL6 ht8 HG HTA3 HTB3 HR8w HR8 y4
            go_wp2_with fail
            refine (KF2.out _ _ (Y4.out.alloc _) (N2.out _ _ Y4.out rfl)).mono ?_
            rintro e w5 ⟨b5', n5, c5, rfl, f1', f2', f3', x5⟩
            have xx5 : Ext W4 w5 := ((Ext.refl _).alloc _).trans x5
            have KS := Lib.hid (ref7_same L5 L5 w5 b5' ar5 n5 c5 L5.length cs f1' f2' f1 f2 f3' (R5.out.ext xx5))
            rw [S1.out] at KS
            clear f3'
            go_wp2_with fail
            refine (KS.out).mono ?_
            rintro e w6 ⟨rfl, x6⟩
            have xx6 := xx5.trans x6
            have a0 := xx6.cell a0
            have a1 := xx6.cell a1
            have a2 := xx6.cell a2
            have a3 := xx6.cell a3
            have a4 := xx6.cell a4
            have a5 := xx6.cell a5
            have a6 := xx6.cell a6
            have a7 := xx6.cell a7'
            have b0 := xx6.cell b0
            have b1 := xx6.cell b1
            have b2 := xx6.cell b2
            have b3 := xx6.cell b3
            have b4 := xx6.cell b4
            have b5 := xx6.cell b5
            have b6 := xx6.cell b6
            have b7 := xx6.cell b7
            go_wp2_with fail
            refine (KE2.out _ _ ((Y4.out.trans xx6).alloc _) (N2.out _ _ (Y4.out.trans xx6) rfl)).mono ?_
            rintro e w7 ⟨b7', n7', c7', rfl, k1, k2, k3, x7⟩
            have xx7 : Ext W4 w7 := xx6.trans (((Ext.refl _).alloc _).trans x7)
            have KT := Lib.hid (ref7_same L6 L6 w7 b7' ar6 n7' c7' L6.length c6 k1 k2 p1 p2 k3 (P3.out.ext xx7))
            rw [S2.out] at KT
            clear k3
            go_wp2_with fail
            refine (KT.out).mono ?_
            rintro e w8 ⟨rfl, x8⟩
            have z8 := Y4.out.trans (xx7.trans x8)
            go_wp2_with fail
            refine (KA.out _ z8).mono ?_
            rintro e w9 ⟨rfl, x9⟩
            go_wp2_with fail
            go_ret
            exact ⟨rfl, z8.trans x9⟩
  all_goals
    have y0 := HY0.out
    try have hz1 := HSZ1.out rfl
    try have hz2 := HSZ2.out rfl
    go_enter Tryd.func9, Tryd.ntmps9
    go_upto_region 1 with fail
    rw [← HW0.out]
    obtain ⟨a0, a1, a2, a3, a4, a5, a6, a7⟩ := HTA.out
    obtain ⟨b0, b1, b2, b3, b4, b5, b6, b7⟩ := HTB.out
    go_wp2_with (first | (go_at_call 25; refine (KA.out _ y0).mono ?_; rintro e wn ⟨rfl, xn⟩; have y0 := y0.trans xn) | (go_at_call 28; (first | (with_reducible refine (KG1.out _ y0).mono ?_) | (with_reducible refine (KG2.out _ y0).mono ?_)); rintro e wn ⟨rfl, xn⟩; have y0 := y0.trans xn; have a0 := xn.cell a0; have a1 := xn.cell a1; have a2 := xn.cell a2; have a3 := xn.cell a3; have a4 := xn.cell a4; have a5 := xn.cell a5; have a6 := xn.cell a6; have a7 := xn.cell a7; have b0 := xn.cell b0; have b1 := xn.cell b1; have b2 := xn.cell b2; have b3 := xn.cell b3; have b4 := xn.cell b4; have b5 := xn.cell b5; have b6 := xn.cell b6; have b7 := xn.cell b7) | (go_at_call 29; (first | (with_reducible refine (KM1.out _ y0 hz1).mono ?_) | (with_reducible refine (KM2.out _ y0 hz2).mono ?_)); rintro e wn ⟨rfl, xn⟩; have y0 := y0.trans xn; have a0 := xn.cell a0; have a1 := xn.cell a1; have a2 := xn.cell a2; have a3 := xn.cell a3; have a4 := xn.cell a4; have a5 := xn.cell a5; have a6 := xn.cell a6; have a7 := xn.cell a7; have b0 := xn.cell b0; have b1 := xn.cell b1; have b2 := xn.cell b2; have b3 := xn.cell b3; have b4 := xn.cell b4; have b5 := xn.cell b5; have b6 := xn.cell b6; have b7 := xn.cell b7))
    go_ret
    exact ⟨rfl, y0⟩
end Go.Proofs.YtmomahgedheekaaDoor
