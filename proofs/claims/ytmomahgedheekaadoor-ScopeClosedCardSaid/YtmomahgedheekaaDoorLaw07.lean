/- The walks of the laws ScopeIs, ScopeNames. -/
import Derived.Test.YtmomahgedheekaaDoorAw07
namespace Go.Proofs.YtmomahgedheekaaDoor
open Go Go.RowKit Go.Sort

/-- The cells of a program's box, in every later world. -/
structure PgBox (w : World) (b : Nat) (a : Option Addr) (n c : Nat) (x : Hd) (ak : Option Addr) (lenk capk : Nat) : Prop where
  c0 : w.cell? ⟨b, 0, none⟩ = some (.slice a n c)
  c1 : w.cell? ⟨b, 1, none⟩ = some (.int .u8 x.k)
  c2 : w.cell? ⟨b, 2, none⟩ = some (.int .u8 x.op)
  c3 : w.cell? ⟨b, 3, none⟩ = some (.int .i64 x.pos)
  c4 : w.cell? ⟨b, 4, none⟩ = some (.int .i64 x.n)
  c5 : w.cell? ⟨b, 5, none⟩ = some (.string x.name)
  c6 : w.cell? ⟨b, 6, none⟩ = some (.string x.arg)
  c7 : w.cell? ⟨b, 7, none⟩ = some (.string x.exn)
  c8 : w.cell? ⟨b, 8, none⟩ = some (.slice ak lenk capk)
theorem PgBox.ext {w w' : World} (hx : Ext w w') {b : Nat} {a : Option Addr} {n c : Nat} {x : Hd} {ak : Option Addr} {lenk capk : Nat} (h : PgBox w b a n c x ak lenk capk) : PgBox w' b a n c x ak lenk capk :=
  ⟨hx.cell h.c0, hx.cell h.c1, hx.cell h.c2, hx.cell h.c3, hx.cell h.c4, hx.cell h.c5, hx.cell h.c6, hx.cell h.c7, hx.cell h.c8⟩
theorem PgBox.new (w : World) (a : Option Addr) (n c : Nat) (x : Hd) (ak : Option Addr) (lenk capk : Nat) (T : TypeId) : PgBox (w.alloc (.cells #[.slice a n c, .int .u8 x.k, .int .u8 x.op, .int .i64 x.pos, .int .i64 x.n, .string x.name, .string x.arg, .string x.exn, .slice ak lenk capk] T)) w.heap.size a n c x ak lenk capk := by
  constructor <;> (rw [World.cell?_alloc_new]; rfl)

set_option maxRecDepth 8000 in
set_option maxHeartbeats 4000000 in
theorem law07_great (p : Pg) (w : World) (v : Value) (hp : IsPg w p v) : Calls Tryd.prog 24 #[v] w fun e w' => ∃ g : Bool, e = .returned (.bool g) ∧ Ext w w' ∧ (g = false → p.body.great = false ∧ p.exns.length ≤ 100) := by
  obtain ⟨a, n, c, x, l, ak, lenk, capk, hb, rfl, h1, h2, ht, hf, h3, h4, hl⟩ := hp
  unfold pgval
  have HLEN := Lib.hid ht.length
  obtain ⟨W0, hW0⟩ : ∃ W0, W0 = w.alloc (.cells #[.slice a n c, .int .u8 x.k, .int .u8 x.op, .int .i64 x.pos, .int .i64 x.n, .string x.name, .string x.arg, .string x.exn, .slice ak lenk capk] 43) := ⟨_, rfl⟩
  have x0 : Ext w W0 := by rw [hW0]; exact (Ext.refl _).alloc _
  have hb0 := PgBox.new w a n c x ak lenk capk 43
  rw [← hW0] at hb0
  obtain ⟨q0, q1, q2, q3, q4, q5, q6, q7, q8⟩ := hb0
  have CG : Hid (∀ W, Ext w W → Calls Tryd.prog 28 #[tval x ak lenk capk] W fun e w' => e = .returned (.bool p.body.great) ∧ Ext W w') := Lib.hid fun W h => ref4_great p.body W (tval x ak lenk capk) (by rw [hb]; exact IsTmA.mk_ (hl.ext h) h3 h4 hf)
  have HT := Lib.hid ht
  have HW0 := Lib.hid hW0
  unfold tval at CG
  clear hb ht hf hl hW0
  by_cases h100 : 100 < n
  · have hz : (100 : Int) < (n : Int) := by omega
    go_enter Tryd.func24, Tryd.ntmps24
    go_wp2_with fail
    go_ret
    exact ⟨true, rfl, by (repeat (first | exact Ext.refl _ | assumption | refine Ext.alloc ?_ _ | refine Ext.drew ?_ | refine Ext.setCell ?_ (by first | (simp; done) | (simp; omega) | omega) _ | refine Ext.trans ?_ (by assumption))), fun h => by cases h⟩
  have hz : (n : Int) ≤ 100 := by omega
  cases hg : p.body.great
  · rw [hg] at CG
    have HG := Lib.hid hg
    clear hg
    go_enter Tryd.func24, Tryd.ntmps24
    go_wp2_with fail
    rw [← HW0.out]
    refine (CG.out _ x0).mono ?_
    rintro e w1 ⟨rfl, x1⟩
    have d0 := x1.cell q0
    go_wp2_with fail
    go_loopg [3] n (fun g i wr => ∃ j : Nat, g = n - j ∧ j ≤ n ∧ i = .int .i64 j ∧ wr = w1)
    case atStart => exact ⟨0, by omega, by omega, rfl, rfl⟩
    case round =>
      obtain ⟨j, rfl, hj, rfl, rfl⟩ := hrel
      by_cases hlt : j < n
      · obtain ⟨t, b, o, g, hft, rfl, c0, c1, c2⟩ := (HT.out.ext (x0.trans x1)).at3 hlt
        clear g hft
        by_cases ht : 100 < t.text.size
        · have hz2 : (100 : Int) < (t.text.size : Int) := by omega
          go_wp2_with fail
          go_ret
          exact ⟨true, rfl, x0.trans x1, fun h => by cases h⟩
        · have hz2 : (t.text.size : Int) ≤ 100 := by omega
          go_wp2_with fail
          go_roundg (n - (j + 1))
          case rel => exact ⟨j + 1, rfl, by omega, by go_num, rfl⟩
          case measure => omega
      · obtain rfl : j = n := by omega
        go_wp2_with fail
        go_ret
        exact ⟨false, rfl, x0.trans x1, fun _ => ⟨by trivial, by rw [← HLEN.out]; omega⟩⟩
  · rw [hg] at CG
    go_enter Tryd.func24, Tryd.ntmps24
    go_wp2_with fail
    rw [← HW0.out]
    refine (CG.out _ x0).mono ?_
    rintro e w1 ⟨rfl, x1⟩
    go_wp2_with fail
    go_ret
    exact ⟨true, rfl, x0.trans x1, fun h => by cases h⟩

set_option maxRecDepth 8000 in
set_option maxHeartbeats 4000000 in
theorem law_scopeIs (p : Pg) (w : World) (v : Value) (hp : IsPg w p v) (hkn : Knob w) : Calls Tryd.prog 5 #[v] w (Yes7 w) := by
  have hp0 := hp
  obtain ⟨a, n, c, x, l, ak, lenk, capk, hb, rfl, h1, h2, ht, hf, h3, h4, hl⟩ := hp
  have KG := Lib.hid fun W (h : Ext w W) => law07_great p W _ (hp0.ext h)
  have KC := Lib.hid fun W (h : Ext w W) (hs : p.body.size ≤ 100000) => scope_closed p W _ (hp0.ext h) hs (hkn.ext h)
  have KR := Lib.hid fun W (h : Ext w W) (hs : p.body.size ≤ 100000) => ref7_closed p W _ (hp0.ext h) hs
  have KA := Lib.hid fun W (h : Ext w W) => law07_awake W (hkn.ext h)
  unfold pgval at KG KC KR ⊢
  obtain ⟨W0, hW0⟩ : ∃ W0, W0 = w.alloc (.cells #[.slice a n c, .int .u8 x.k, .int .u8 x.op, .int .i64 x.pos, .int .i64 x.n, .string x.name, .string x.arg, .string x.exn, .slice ak lenk capk] 43) := ⟨_, rfl⟩
  have x0 : Ext w W0 := by rw [hW0]; exact (Ext.refl _).alloc _
  have hb0 := PgBox.new w a n c x ak lenk capk 43
  rw [← hW0] at hb0
  have HW0 := Lib.hid hW0
  have HB0 := Lib.hid hb0
  clear hp0 hb ht hf hl hW0 hb0
  go_enter Tryd.func5, Tryd.ntmps5
  go_wp2_with fail
  rw [← HW0.out]
  refine (KG.out _ x0).mono ?_
  rintro e w1 ⟨g, rfl, x1, hg⟩
  cases g
  · obtain ⟨hg1, hg2⟩ := hg rfl
    have hsz := (Tm.not_great hg1).1
    have y1 := x0.trans x1
    obtain ⟨q0, q1, q2, q3, q4, q5, q6, q7, q8⟩ := HB0.out.ext x1
    go_wp2_with fail
    refine (KC.out _ y1 (by omega)).mono ?_
    rintro e w2 ⟨rfl, x2⟩
    have y2 := y1.trans x2
    obtain ⟨r0, r1, r2, r3, r4, r5, r6, r7, r8⟩ := HB0.out.ext (x1.trans x2)
    generalize closedR p.body p.ps = res at *
    go_wp2_with fail
    refine (KR.out _ y2 (by omega)).mono ?_
    rintro e w3 ⟨rfl, x3⟩
    have y3 := y2.trans x3
    go_wp2_with fail
    refine (KA.out _ y3).mono ?_
    rintro e w4 ⟨rfl, x4⟩
    go_wp2_with fail
    go_ret
    exact ⟨rfl, y3.trans x4⟩
  · have y1 := x0.trans x1
    go_wp2_with fail
    refine (KA.out _ y1).mono ?_
    rintro e w4 ⟨rfl, x4⟩
    go_wp2_with fail
    go_ret
    exact ⟨rfl, y1.trans x4⟩

theorem sizes_le (l : List Tm) (k : Nat) (h : ∀ t, t ∈ l → t.size ≤ k) : Tm.sizes l ≤ k * l.length := by
  induction l with
  | nil => simp [Tm.sizes]
  | cons t l ih =>
    have h1 := h t (by simp)
    have h2 := ih fun t ht => h t (by simp [ht])
    simp only [Tm.sizes, List.length_cons, Nat.mul_succ]
    omega
set_option maxRecDepth 8000 in
set_option maxHeartbeats 4000000 in
theorem law_scopeNames (l : List Tm) (w : World) (a : Option Addr) (len cap : Nat) (h1 : len ≤ cap) (h2 : cap ≤ maxLen) (hl : IsTms w l a len) (hkn : Knob w) : Calls Tryd.prog 7 #[.slice a len cap] w (Yes7 w) := by
  have KA := Lib.hid fun W (h : Ext w W) => law07_awake W (hkn.ext h)
  have hlen := hl.length
  have HTL := Lib.hid hl
  have HKN := Lib.hid hkn
  have HLEN := Lib.hid hlen
  clear hl hkn hlen
  by_cases h20 : 20 < len
  · have hz : (20 : Int) < (len : Int) := by omega
    go_enter Tryd.func7, Tryd.ntmps7
    go_wp2_with (go_at_call 25; refine (KA.out _ (Ext.refl _)).mono ?_; rintro e w4 ⟨rfl, x4⟩)
    go_ret
    exact ⟨rfl, x4⟩
  have hz : (len : Int) ≤ 20 := by omega
  go_enter Tryd.func7, Tryd.ntmps7
  go_wp2_with fail
  go_loopg [3] len (fun g i wr => ∃ j : Nat, g = len - j ∧ j ≤ len ∧ i = .int .i64 j ∧ (∀ t, t ∈ l.take j → t.size ≤ 400) ∧ Ext w wr)
  case atStart => exact ⟨0, by omega, by omega, rfl, by simp, Ext.refl _⟩
  case round =>
    obtain ⟨j, rfl, hj, rfl, hto, hx⟩ := hrel
    have HT := Lib.hid hto
    clear hto
    by_cases hlt : j < len
    · obtain ⟨x, k, b, o, ak, lenk, capk, g, rfl, hbo, hd, hq, hf, p1, p2, pl⟩ := HTL.out.at8 hx hlt
      obtain ⟨c0, c1, c2, c3, c4, c5, c6⟩ := hd
      have KG := Lib.hid (ref4_great (.mk x k) wr (tval x ak lenk capk) (IsTmA.mk_ pl p1 p2 hf))
      have G := Lib.hid g
      unfold tval at KG
      clear pl hf g
      cases hr : (Tm.mk x k).great
      all_goals
        rw [hr] at KG
        have HR := Lib.hid hr
        clear hr
      · go_wp2_with (go_at_call 28; refine (KG.out).mono ?_; rintro e w2 ⟨rfl, x2⟩)
        go_roundg (len - (j + 1))
        case rel =>
          refine ⟨j + 1, rfl, by omega, by go_num, ?_, hx.trans x2⟩
          intro t ht
          rw [List.take_add_one, G.out] at ht
          simp only [List.mem_append, Option.toList_some, List.mem_singleton] at ht
          rcases ht with ht | rfl
          · exact HT.out t ht
          · exact (Tm.not_great HR.out).1
        case measure => omega
      · go_wp2_with (first | (go_at_call 28; refine (KG.out).mono ?_; rintro e w2 ⟨rfl, x2⟩) | (go_at_call 25; refine (KA.out _ (hx.trans x2)).mono ?_; rintro e w4 ⟨rfl, x4⟩))
        go_ret
        exact ⟨rfl, (hx.trans x2).trans x4⟩
    · obtain rfl : j = len := by omega
      have hall := HT.out
      rw [List.take_of_length_le (by rw [← HLEN.out]; omega)] at hall
      have hs : Tm.sizes l ≤ 100000 := by
        have := sizes_le l 400 hall
        rw [← HLEN.out] at this
        omega
      have K1 := Lib.hid (scope_free l wr a j cap hs h1 h2 (HTL.out.ext hx) (HKN.out.ext hx))
      have K2 := Lib.hid fun W (h : Ext wr W) => ref7_frees l W a j cap hs h1 h2 (HTL.out.ext (hx.trans h))
      have K3 := Lib.hid fun W (h : Ext wr W) => scope_exns l W a j cap hs h1 h2 (HTL.out.ext (hx.trans h)) (HKN.out.ext (hx.trans h))
      have K4 := Lib.hid fun W (h : Ext wr W) => ref7_exns l W a j cap hs h1 h2 (HTL.out.ext (hx.trans h))
      generalize freesR l = L1 at *
      generalize exnsR l = L2 at *
      have same : ∀ L : List ByteArray, sameB L L = true := fun L => by simp [sameB]
      have S1 := Lib.hid (same L1)
      have S2 := Lib.hid (same L2)
      clear hall same HT
      go_wp2_with fail
      refine (K1.out).mono ?_
      rintro e w1 ⟨b1, n1, c1, rfl, f1, f2, f3, x1⟩
      have F3 := Lib.hid f3
      clear f3
      go_wp2_with fail
      refine (K2.out _ x1).mono ?_
      rintro e w2 ⟨b2, n2, c2, rfl, g1, g2, g3, x2⟩
      have KS := Lib.hid (ref7_same L1 L1 w2 b1 b2 n1 c1 n2 c2 f1 f2 g1 g2 (F3.out.ext x2) g3)
      rw [S1.out] at KS
      have y2 := x1.trans x2
      clear g3
      go_wp2_with fail
      refine (KS.out).mono ?_
      rintro e w3 ⟨rfl, x3⟩
      have y3 := y2.trans x3
      go_wp2_with fail
      refine (K3.out _ y3).mono ?_
      rintro e w4 ⟨b4, n4, c4, rfl, p1, p2, p3, x4⟩
      have P3 := Lib.hid p3
      have y4 := y3.trans x4
      clear p3
      go_wp2_with fail
      refine (K4.out _ y4).mono ?_
      rintro e w5 ⟨b5, n5, c5, rfl, q1, q2, q3, x5⟩
      have KT := Lib.hid (ref7_same L2 L2 w5 b4 b5 n4 c4 n5 c5 p1 p2 q1 q2 (P3.out.ext x5) q3)
      rw [S2.out] at KT
      have y5 := y4.trans x5
      clear q3
      go_wp2_with fail
      refine (KT.out).mono ?_
      rintro e w6 ⟨rfl, x6⟩
      have y6 := y5.trans x6
      go_wp2_with fail
      refine (KA.out _ (hx.trans y6)).mono ?_
      rintro e w7 ⟨rfl, x7⟩
      go_wp2_with fail
      go_ret
      exact ⟨rfl, (hx.trans y6).trans x7⟩
end Go.Proofs.YtmomahgedheekaaDoor
