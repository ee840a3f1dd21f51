/- The walk of law05.ParseJoins. -/
import Derived.Test.YtaioeailgknfjaaDoorLaw05c
import Derived.Test.YtaioeailgknfjaaDoorAw05
import Derived.Test.YtaioeailgknfjaaDoorRef4S
namespace Go.Proofs.YtaioeailgknfjaaDoor
open Go Go.RowKit Go.Sort

set_option maxRecDepth 60000 in
set_option maxHeartbeats 8000000 in
theorem law05_joins (A B : List UInt8) (m : Int) (k : Nat) (hm : m % 7 = k) (hk7 : k < 7) (m0 : 0 ≤ m) (m1 : m ≤ 255) (w : World) (a b : Option Addr) (la ca lb cb : Nat) (h1 : la ≤ ca) (h2 : ca ≤ 9223372036854775807) (h3 : lb ≤ cb) (h4 : cb ≤ 9223372036854775807) (hr : IsBytes w A a la) (hr' : IsBytes w B b lb) (hk : Knob w) : Calls Tryd.prog 5 #[.slice a la ca, .slice b lb cb, .int .u8 m] w (Yes5 w) := by
  have hln := hr.length
  have hln' := hr'.length
  have KA := Lib.hid fun (W : World) (h : Ext w W) => law05_awake W (hk.ext h)
  have HK := Lib.hid hk
  have HR := Lib.hid hr
  have HR' := Lib.hid hr'
  have HM := Lib.hid hm
  clear hr hr' hk hm
  by_cases hlong : 500 < la
  · have hz : (500 : Int) < (la : Int) := by omega
    clear hln hln' hlong
    go_enter Tryd.func5, Tryd.ntmps5
    go_wp2_with (go_at_call 12; refine (KA.out _ (by (repeat (first | (with_reducible assumption) | (with_reducible exact Ext.refl _) | (with_reducible refine Ext.alloc ?_ _) | (with_reducible refine Ext.drew ?_) | ((with_reducible refine Ext.setCell ?_ ?_ _); rotate_left 1; (first | (focus (simp; done)) | (focus (simp; omega)) | omega)) | exact Ext.refl _ | assumption | refine Ext.alloc ?_ _ | refine Ext.drew ?_ | refine Ext.setCell ?_ (by (first | (focus (simp; done)) | (focus (simp; omega)) | omega)) _ | refine Ext.trans ?_ (by assumption))))).mono ?_; rintro e w7 ⟨rfl, x7⟩)
    go_ret
    exact ⟨rfl, by (repeat (first | (with_reducible assumption) | (with_reducible exact Ext.refl _) | (with_reducible refine Ext.alloc ?_ _) | (with_reducible refine Ext.drew ?_) | ((with_reducible refine Ext.setCell ?_ ?_ _); rotate_left 1; (first | (focus (simp; done)) | (focus (simp; omega)) | omega)) | exact Ext.refl _ | assumption | refine Ext.alloc ?_ _ | refine Ext.drew ?_ | refine Ext.setCell ?_ (by (first | (focus (simp; done)) | (focus (simp; omega)) | omega)) _ | refine Ext.trans ?_ (by assumption)))⟩
  have hz : ¬ (500 : Int) < (la : Int) := by omega
  by_cases hlong' : 500 < lb
  · have hz' : (500 : Int) < (lb : Int) := by omega
    clear hln hln' hlong'
    go_enter Tryd.func5, Tryd.ntmps5
    go_wp2_with (go_at_call 12; refine (KA.out _ (by (repeat (first | (with_reducible assumption) | (with_reducible exact Ext.refl _) | (with_reducible refine Ext.alloc ?_ _) | (with_reducible refine Ext.drew ?_) | ((with_reducible refine Ext.setCell ?_ ?_ _); rotate_left 1; (first | (focus (simp; done)) | (focus (simp; omega)) | omega)) | exact Ext.refl _ | assumption | refine Ext.alloc ?_ _ | refine Ext.drew ?_ | refine Ext.setCell ?_ (by (first | (focus (simp; done)) | (focus (simp; omega)) | omega)) _ | refine Ext.trans ?_ (by assumption))))).mono ?_; rintro e w7 ⟨rfl, x7⟩)
    go_ret
    exact ⟨rfl, by (repeat (first | (with_reducible assumption) | (with_reducible exact Ext.refl _) | (with_reducible refine Ext.alloc ?_ _) | (with_reducible refine Ext.drew ?_) | ((with_reducible refine Ext.setCell ?_ ?_ _); rotate_left 1; (first | (focus (simp; done)) | (focus (simp; omega)) | omega)) | exact Ext.refl _ | assumption | refine Ext.alloc ?_ _ | refine Ext.drew ?_ | refine Ext.setCell ?_ (by (first | (focus (simp; done)) | (focus (simp; omega)) | omega)) _ | refine Ext.trans ?_ (by assumption)))⟩
  have hz' : ¬ (500 : Int) < (lb : Int) := by omega
  obtain ⟨f1, t1, hf1⟩ := FT.ex (B := A) (res := parseL .expr)
  obtain ⟨f2, t2, hf2⟩ := FT.ex (B := B) (res := parseL .expr)
  obtain ⟨f3, t3, hf3⟩ := FT.ex (B := textJ A B k) (res := parseL .expr)
  have hgood : f1 = 0 → f2 = 0 → f3 = 0 ∧ ∃ h x' y', t3 = .mk h [x', y'] ∧ x'.same t1 = true ∧ y'.same t2 = true ∧ h.k = kindJ k ∧ (k < 5 → h.op = (k : Int) + 1) := by
    intro h0 h0'
    cases hT : termR A with
    | error q =>
      have h := hf1
      unfold termR at hT
      rw [hT] at h
      exact (h.2 h0).elim
    | ok x =>
      cases hT' : termR B with
      | error q =>
        have h := hf2
        unfold termR at hT'
        rw [hT'] at h
        exact (h.2 h0').elim
      | ok y =>
        obtain ⟨h, x', y', e3, s1, s2, hhk, hop⟩ := termR_joins hT hT' (by omega) (by omega) k hk7
        unfold termR at hT hT' e3
        rw [hT] at hf1
        rw [hT'] at hf2
        rw [e3] at hf3
        obtain ⟨-, rfl⟩ := hf1
        obtain ⟨-, rfl⟩ := hf2
        obtain ⟨rfl, rfl⟩ := hf3
        exact ⟨rfl, h, x', y', rfl, s1, s2, hhk, hop⟩
  have HG := Lib.hid hgood
  have K1 := Lib.hid fun W (h : Ext w W) => parse_termF A f1 t1 hf1 W a la ca h1 h2 (HR.out.ext h) (HK.out.ext h)
  have K2 := Lib.hid fun W (h : Ext w W) => parse_termF B f2 t2 hf2 W b lb cb h3 h4 (HR'.out.ext h) (HK.out.ext h)
  have K3 := Lib.hid fun W (h : Ext w W) a' n' c' (g1 : n' ≤ c') (g2 : c' ≤ 9223372036854775807) (hb : IsBytes W (textJ A B k) a' n') => parse_termF _ f3 t3 hf3 W a' n' c' g1 g2 hb (HK.out.ext h)
  have CA := Lib.hid fun W (h : Ext w W) => conv_whole (cap := ca) (HR.out.ext h)
  have CB := Lib.hid fun W (h : Ext w W) => conv_whole (cap := cb) (HR'.out.ext h)
  have HL := Lib.hid (And.intro hln hln')
  clear hf1 hf2 hf3 hgood hln hln' hlong hlong'
  go_enter Tryd.func5, Tryd.ntmps5
  go_upto_region 4 with (go_at_call 11; refine (K1.out _ (by (repeat (first | (with_reducible assumption) | (with_reducible exact Ext.refl _) | (with_reducible refine Ext.alloc ?_ _) | (with_reducible refine Ext.drew ?_) | ((with_reducible refine Ext.setCell ?_ ?_ _); rotate_left 1; (first | (focus (simp; done)) | (focus (simp; omega)) | omega)) | exact Ext.refl _ | assumption | refine Ext.alloc ?_ _ | refine Ext.drew ?_ | refine Ext.setCell ?_ (by (first | (focus (simp; done)) | (focus (simp; omega)) | omega)) _ | refine Ext.trans ?_ (by assumption))))).mono ?_; rintro e w1 ⟨x1, a1, n1, c1, p1, rfl, y1, g1⟩)
  have B1 := Lib.hid (Blk.new w1 36 #[.int .u8 x1.k, .int .u8 x1.op, .int .i64 x1.pos, .int .i64 x1.n, .string x1.name, .string x1.arg, .string x1.exn, .slice a1 n1 c1])
  have Y1 : Hid (Ext w (w1.alloc (.cells #[.int .u8 x1.k, .int .u8 x1.op, .int .i64 x1.pos, .int .i64 x1.n, .string x1.name, .string x1.arg, .string x1.exn, .slice a1 n1 c1] 36))) := Lib.hid (by (repeat (first | (with_reducible assumption) | (with_reducible exact Ext.refl _) | (with_reducible refine Ext.alloc ?_ _) | (with_reducible refine Ext.drew ?_) | ((with_reducible refine Ext.setCell ?_ ?_ _); rotate_left 1; (first | (focus (simp; done)) | (focus (simp; omega)) | omega)) | exact Ext.refl _ | assumption | refine Ext.alloc ?_ _ | refine Ext.drew ?_ | refine Ext.setCell ?_ (by (first | (focus (simp; done)) | (focus (simp; omega)) | omega)) _ | refine Ext.trans ?_ (by assumption))))
  have G1 : Hid (f1 = 0 → p1 = 0 ∧ x1.Fits ∧ n1 ≤ c1 ∧ c1 ≤ 9223372036854775807 ∧ t1.head = x1 ∧ IsTms (w1.alloc (.cells #[.int .u8 x1.k, .int .u8 x1.op, .int .i64 x1.pos, .int .i64 x1.n, .string x1.name, .string x1.arg, .string x1.exn, .slice a1 n1 c1] 36)) t1.kids a1 n1) := Lib.hid fun h => by
    obtain ⟨q1, q2, q3, q4, q5, q6⟩ := g1 h
    exact ⟨q1, q2, q3, q4, q5, q6.ext ((Ext.refl _).alloc _)⟩
  clear g1 y1
  generalize w1.alloc (.cells #[.int .u8 x1.k, .int .u8 x1.op, .int .i64 x1.pos, .int .i64 x1.n, .string x1.name, .string x1.arg, .string x1.exn, .slice a1 n1 c1] 36) = W1 at *
  generalize w1.heap.size = b1 at *
  clear w1
  go_upto_region 5 with (go_at_call 11; refine (K2.out W1 Y1.out).mono ?_; rintro e w2 ⟨x2, a2, n2, c2, p2, rfl, y2, g2⟩)
  have B2 := Lib.hid (Blk.new w2 36 #[.int .u8 x2.k, .int .u8 x2.op, .int .i64 x2.pos, .int .i64 x2.n, .string x2.name, .string x2.arg, .string x2.exn, .slice a2 n2 c2])
  have Y12 : Hid (Ext W1 (w2.alloc (.cells #[.int .u8 x2.k, .int .u8 x2.op, .int .i64 x2.pos, .int .i64 x2.n, .string x2.name, .string x2.arg, .string x2.exn, .slice a2 n2 c2] 36))) := Lib.hid (y2.alloc _)
  have G2 : Hid (f2 = 0 → p2 = 0 ∧ x2.Fits ∧ n2 ≤ c2 ∧ c2 ≤ 9223372036854775807 ∧ t2.head = x2 ∧ IsTms (w2.alloc (.cells #[.int .u8 x2.k, .int .u8 x2.op, .int .i64 x2.pos, .int .i64 x2.n, .string x2.name, .string x2.arg, .string x2.exn, .slice a2 n2 c2] 36)) t2.kids a2 n2) := Lib.hid fun h => by
    obtain ⟨q1, q2, q3, q4, q5, q6⟩ := g2 h
    exact ⟨q1, q2, q3, q4, q5, q6.ext ((Ext.refl _).alloc _)⟩
  clear g2 y2
  generalize w2.alloc (.cells #[.int .u8 x2.k, .int .u8 x2.op, .int .i64 x2.pos, .int .i64 x2.n, .string x2.name, .string x2.arg, .string x2.exn, .slice a2 n2 c2] 36) = W2 at *
  generalize w2.heap.size = b2 at *
  clear w2
  have HY2 := Lib.hid (Y1.out.trans Y12.out)
  by_cases hf : f1 = 0
  case neg =>
    have hfb : (f1 != 0) = true := by simpa using hf
    clear hf
    go_wp2_with (go_at_call 12; refine (KA.out _ HY2.out).mono ?_; rintro e w7 ⟨rfl, x7⟩)
    go_ret
    exact ⟨rfl, HY2.out.trans x7⟩
  by_cases hf' : f2 = 0
  case neg =>
    have hfb : (f2 != 0) = true := by simpa using hf'
    subst hf
    clear hf'
    go_wp2_with (go_at_call 12; refine (KA.out _ HY2.out).mono ?_; rintro e w7 ⟨rfl, x7⟩)
    go_ret
    exact ⟨rfl, HY2.out.trans x7⟩
  subst hf
  subst hf'
  have hm := HM.out
  go_upto_region 9 with fail
  have hsk : ∀ h, ([.string ⟨#[43]⟩, .string ⟨#[45]⟩, .string ⟨#[42]⟩, .string ⟨#[60]⟩, .string ⟨#[61]⟩, .string ⟨#[58, 61]⟩, .string ⟨#[]⟩] : List Value)[k]'h = .string (bs (signB k)) := by
    intro h
    match k, hk7 with
    | 0, _ | 1, _ | 2, _ | 3, _ | 4, _ | 5, _ | 6, _ => rfl
  simp only [hsk]
  have Y3 := (Ext.refl W2).alloc (.cells #[.string ⟨#[43]⟩, .string ⟨#[45]⟩, .string ⟨#[42]⟩, .string ⟨#[60]⟩, .string ⟨#[61]⟩, .string ⟨#[58, 61]⟩, .string ⟨#[]⟩] 9)
  have HY3 := Lib.hid (HY2.out.trans Y3)
  have H23 := Lib.hid Y3
  have cA := CA.out _ HY3.out
  have cB := CB.out _ HY3.out
  clear hsk Y3
  generalize W2.alloc (.cells #[.string ⟨#[43]⟩, .string ⟨#[45]⟩, .string ⟨#[42]⟩, .string ⟨#[60]⟩, .string ⟨#[61]⟩, .string ⟨#[58, 61]⟩, .string ⟨#[]⟩] 9) = W3 at *
  obtain ⟨S, hS⟩ : ∃ S, S = bs (signB k) := ⟨_, rfl⟩
  rw [← hS]
  obtain ⟨sA, hsA⟩ : ∃ S, S = bs A := ⟨_, rfl⟩
  obtain ⟨sB, hsB⟩ : ∃ S, S = bs B := ⟨_, rfl⟩
  rw [← hsA] at cA
  rw [← hsB] at cB
  have HS := Lib.hid hS
  have HSA := Lib.hid hsA
  have HSB := Lib.hid hsB
  have ks := fun (w : World) (s : ByteArray) => Lib.run_convert_string_bytes (P := Tryd.prog) w 9 22 5 s Tryd.underlying9 Tryd.underlying22 Tryd.underlying5
  clear hS hsA hsB
  have lA : sA.size ≤ 500 := by rw [HSA.out, bs_size]; have := HL.out.1; omega
  have lB : sB.size ≤ 500 := by rw [HSB.out, bs_size]; have := HL.out.2; omega
  have lS : S.size ≤ 2 := by
    rw [HS.out, bs_size]
    match k, hk7 with
    | 0, _ | 1, _ | 2, _ | 3, _ | 4, _ | 5, _ | 6, _ => simp [signB]
  have htx : (⟨#[40]⟩ : ByteArray) ++ sA ++ ⟨#[41]⟩ ++ S ++ ⟨#[40]⟩ ++ sB ++ ⟨#[41]⟩ = bs (textJ A B k) := by
    rw [HS.out, HSA.out, HSB.out]
    have e1 : (⟨#[40]⟩ : ByteArray) = bs [40] := rfl
    have e2 : (⟨#[41]⟩ : ByteArray) = bs [41] := rfl
    rw [e1, e2]
    simp only [bs_append]
    congr 1
    simp [textJ]
  have hsz : (bs (textJ A B k)).size = 1 + sA.size + 1 + S.size + 1 + sB.size + 1 := by
    rw [← htx]
    simp only [ByteArray.size_append]
    rfl
  have hb := IsBytes.world W3 5 (textJ A B k)
  rw [hsz, ← htx] at hb
  have KT := Lib.hid (K3.out _ (HY3.out.trans (Lib.bytesWorld_below W3 5 _)) _ _ (grownCap W3 (1 + sA.size + 1 + S.size + 1 + sB.size + 1) 0 5) (grownCap_ge _ _ _ _) (grownCap_le_maxLen _ _ _ _ (by unfold maxLen; omega)) hb)
  clear hb hsz htx
  go_upto_region 10 with (go_at_call 11; refine (KT.out).mono ?_; rintro e w4 ⟨x3, a3, n3, c3, p3, rfl, y3, g3⟩)
  have y34 : Ext W3 w4 := (show Ext W3 _ from Lib.bytesWorld_below W3 5 _).trans y3
  have B3 := Blk.new w4 36 #[.int .u8 x3.k, .int .u8 x3.op, .int .i64 x3.pos, .int .i64 x3.n, .string x3.name, .string x3.arg, .string x3.exn, .slice a3 n3 c3]
  have Y34 := y34.alloc (.cells #[.int .u8 x3.k, .int .u8 x3.op, .int .i64 x3.pos, .int .i64 x3.n, .string x3.name, .string x3.arg, .string x3.exn, .slice a3 n3 c3] 36)
  have G3 : f3 = 0 → p3 = 0 ∧ x3.Fits ∧ n3 ≤ c3 ∧ c3 ≤ 9223372036854775807 ∧ t3.head = x3 ∧ IsTms (w4.alloc (.cells #[.int .u8 x3.k, .int .u8 x3.op, .int .i64 x3.pos, .int .i64 x3.n, .string x3.name, .string x3.arg, .string x3.exn, .slice a3 n3 c3] 36)) t3.kids a3 n3 := fun h => by
    obtain ⟨q1, q2, q3, q4, q5, q6⟩ := g3 h
    exact ⟨q1, q2, q3, q4, q5, q6.ext ((Ext.refl _).alloc _)⟩
  clear g3 y3 y34 KT
  generalize w4.alloc (.cells #[.int .u8 x3.k, .int .u8 x3.op, .int .i64 x3.pos, .int .i64 x3.n, .string x3.name, .string x3.arg, .string x3.exn, .slice a3 n3 c3] 36) = W4 at *
  generalize w4.heap.size = b3 at *
  obtain ⟨e3, hh, x', y', et, s1, s2, hhk, hop⟩ := HG.out (by trivial) (by trivial)
  subst e3
  subst et
  obtain ⟨rfl, hf1, u1, v1, r1, T1⟩ := G1.out (by trivial)
  obtain ⟨rfl, hf2, u2, v2, r2, T2⟩ := G2.out (by trivial)
  obtain ⟨rfl, hf3, u3, v3, r3, T3⟩ := G3 (by trivial)
  obtain ⟨y1, ks1⟩ := t1
  obtain ⟨y2, ks2⟩ := t2
  simp only [Tm.head, Tm.kids] at r1 r2 r3 T1 T2 T3
  subst r1
  subst r2
  subst r3
  have Y24 : Ext W2 W4 := H23.out.trans Y34
  have hn3 := T3.length
  obtain rfl : n3 = 2 := hn3
  obtain ⟨z1, k1, bb, o, ak1, lk1, ck1, gg1, rfl, -, hd1, hq1, hfz1, pz1, pz1', pl1⟩ := T3.at8 (Ext.refl _) (i := 0) (by omega)
  obtain ⟨z2, k2, bb', o', ak2, lk2, ck2, gg2, ea, -, hd2, hq2, hfz2, pz2, pz2', pl2⟩ := T3.at8 (Ext.refl _) (i := 1) (by omega)
  cases ea
  have hg1 : x' = Tm.mk z1 k1 := Option.some.inj gg1
  have hg2 : y' = Tm.mk z2 k2 := Option.some.inj gg2
  clear gg1 gg2
  subst hg1
  subst hg2
  have Q1 := quiet_ext (w := W4) fun w1 h1 => by
    have := ref4_same _ (.mk z1 k1) (.mk y1 ks1) w1 _ _ (Nat.le_refl _) ((IsTmA.mk_ pl1 pz1 pz1' hfz1).ext h1) (IsTmA.mk_ ((((T1.ext Y12.out).ext Y24)).ext h1) u1 v1 hf1)
    rw [s1] at this
    exact this
  have Q2 := quiet_ext (w := W4) fun w1 h1 => by
    have := ref4_same _ (.mk z2 k2) (.mk y2 ks2) w1 _ _ (Nat.le_refl _) ((IsTmA.mk_ pl2 pz2 pz2' hfz2).ext h1) (IsTmA.mk_ ((T2.ext Y24).ext h1) u2 v2 hf2)
    rw [s2] at this
    exact this
  have HB3 := Lib.hid B3
  have HY4 := Lib.hid ((HY2.out.trans Y24))
  obtain ⟨d0, d1, d2, d3, d4, d5, d6, d7⟩ := ((B1.out.ext Y12.out).ext Y24).eight
  obtain ⟨m0', m1', m2, m3, m4, m5, m6, m7⟩ := (B2.out.ext Y24).eight
  obtain ⟨j0, j1, j2, j3, j4, j5, j6, j7⟩ := B3.eight
  obtain ⟨c0, c1', c2', c3', c4, c5, c6⟩ := hd1
  obtain ⟨q0, q1, q2, q3, q4, q5, q6⟩ := hd2
  simp only [Nat.zero_mul, Nat.add_zero, Nat.one_mul] at c0 c1' c2' c3' c4 c5 c6 q0 q1 q2 q3 q4 q5 q6 hq1 hq2
  have Rd0 := cells_regrown d0
  have Rd1 := cells_regrown d1
  have Rd2 := cells_regrown d2
  have Rd3 := cells_regrown d3
  have Rd4 := cells_regrown d4
  have Rd5 := cells_regrown d5
  have Rd6 := cells_regrown d6
  have Rd7 := cells_regrown d7
  have Rm0p := cells_regrown m0'
  have Rm1p := cells_regrown m1'
  have Rm2 := cells_regrown m2
  have Rm3 := cells_regrown m3
  have Rm4 := cells_regrown m4
  have Rm5 := cells_regrown m5
  have Rm6 := cells_regrown m6
  have Rm7 := cells_regrown m7
  have Rj7 := cells_regrown j7
  have Rc0 := cells_regrown c0
  have Rc1p := cells_regrown c1'
  have Rc2p := cells_regrown c2'
  have Rc3p := cells_regrown c3'
  have Rc4 := cells_regrown c4
  have Rc5 := cells_regrown c5
  have Rc6 := cells_regrown c6
  have Rhq1 := cells_regrown hq1
  have Rq0 := cells_regrown q0
  have Rq1 := cells_regrown q1
  have Rq2 := cells_regrown q2
  have Rq3 := cells_regrown q3
  have Rq4 := cells_regrown q4
  have Rq5 := cells_regrown q5
  have Rq6 := cells_regrown q6
  have Rhq2 := cells_regrown hq2
  clear d0 d1 d2 d3 d4 d5 d6 d7 m0' m1' m2 m3 m4 m5 m6 m7 j0 j1 j2 j3 j4 j5 j6 j7 c0 c1' c2' c3' c4 c5 c6 hq1 q0 q1 q2 q3 q4 q5 q6 hq2 G3 T1 T2 T3 pl1 pl2 s1 s2 cA cB B3 Y34 Y24
  simp only [tval] at Q1 Q2
  refine wp_region_quiet_below (by kernel_rfl) (by kernel_rfl) ?_
  repeat (go_big_quiet_step ((first | with_reducible exact Q1 _ _ | with_reducible exact Q2 _ _)))
  refine wpQuiet_nil ?_
  intro w5 hq_w5
  have x5 := ext_of_regrown hq_w5
  clear hq_w5
  obtain ⟨j0, j1, j2, j3, j4, j5, j6, j7⟩ := (HB3.out.ext x5).eight
  have HY5 := Lib.hid (HY4.out.trans x5)
  clear x5 HB3 j2 j3 j4 j5 j6 j7 Rd0 Rd1 Rd2 Rd3 Rd4 Rd5 Rd6 Rd7 Rm0p Rm1p Rm2 Rm3 Rm4 Rm5 Rm6 Rm7 Rj7 Rc0 Rc1p Rc2p Rc3p Rc4 Rc5 Rc6 Rhq1 Rq0 Rq1 Rq2 Rq3 Rq4 Rq5 Rq6 Rhq2 Q1 Q2 lA lB lS ks
  have hkk : k = 0 ∨ k = 1 ∨ k = 2 ∨ k = 3 ∨ k = 4 ∨ k = 5 ∨ k = 6 := by omega
  clear K3 HG hk7
  rcases hkk with rfl | rfl | rfl | rfl | rfl | rfl | rfl
  · obtain rfl : S = ⟨#[43]⟩ := HS.out
    have e1 : hh.k = 9 := hhk
    rw [e1] at j0
    have e2 : hh.op = 1 := hop (by omega)
    rw [e2] at j1
    have hm : m % 7 = 0 := HM.out
    clear hop hhk
    go_wp2_with (go_at_call 12; refine (KA.out _ HY5.out).mono ?_; rintro e w7 ⟨rfl, x7⟩)
    go_ret
    exact ⟨rfl, HY5.out.trans x7⟩
  · obtain rfl : S = ⟨#[45]⟩ := HS.out
    have e1 : hh.k = 9 := hhk
    rw [e1] at j0
    have e2 : hh.op = 2 := hop (by omega)
    rw [e2] at j1
    have hm : m % 7 = 1 := HM.out
    clear hop hhk
    go_wp2_with (go_at_call 12; refine (KA.out _ HY5.out).mono ?_; rintro e w7 ⟨rfl, x7⟩)
    go_ret
    exact ⟨rfl, HY5.out.trans x7⟩
  · obtain rfl : S = ⟨#[42]⟩ := HS.out
    have e1 : hh.k = 9 := hhk
    rw [e1] at j0
    have e2 : hh.op = 3 := hop (by omega)
    rw [e2] at j1
    have hm : m % 7 = 2 := HM.out
    clear hop hhk
    go_wp2_with (go_at_call 12; refine (KA.out _ HY5.out).mono ?_; rintro e w7 ⟨rfl, x7⟩)
    go_ret
    exact ⟨rfl, HY5.out.trans x7⟩
  · obtain rfl : S = ⟨#[60]⟩ := HS.out
    have e1 : hh.k = 9 := hhk
    rw [e1] at j0
    have e2 : hh.op = 4 := hop (by omega)
    rw [e2] at j1
    have hm : m % 7 = 3 := HM.out
    clear hop hhk
    go_wp2_with (go_at_call 12; refine (KA.out _ HY5.out).mono ?_; rintro e w7 ⟨rfl, x7⟩)
    go_ret
    exact ⟨rfl, HY5.out.trans x7⟩
  · obtain rfl : S = ⟨#[61]⟩ := HS.out
    have e1 : hh.k = 9 := hhk
    rw [e1] at j0
    have e2 : hh.op = 5 := hop (by omega)
    rw [e2] at j1
    have hm : m % 7 = 4 := HM.out
    clear hop hhk
    go_wp2_with (go_at_call 12; refine (KA.out _ HY5.out).mono ?_; rintro e w7 ⟨rfl, x7⟩)
    go_ret
    exact ⟨rfl, HY5.out.trans x7⟩
  · obtain rfl : S = ⟨#[58, 61]⟩ := HS.out
    have e1 : hh.k = 8 := hhk
    rw [e1] at j0
    have hm : m % 7 = 5 := HM.out
    clear hop hhk
    go_wp2_with (go_at_call 12; refine (KA.out _ HY5.out).mono ?_; rintro e w7 ⟨rfl, x7⟩)
    go_ret
    exact ⟨rfl, HY5.out.trans x7⟩
  · obtain rfl : S = ⟨#[]⟩ := HS.out
    have e1 : hh.k = 10 := hhk
    rw [e1] at j0
    have hm : m % 7 = 6 := HM.out
    clear hop hhk
    go_wp2_with (go_at_call 12; refine (KA.out _ HY5.out).mono ?_; rintro e w7 ⟨rfl, x7⟩)
    go_ret
    exact ⟨rfl, HY5.out.trans x7⟩
theorem law_parseJoins (A B : List UInt8) (m : Int) (w : World) (a : Option Addr) (la ca : Nat) (b : Option Addr) (lb cb : Nat) (h1 : la ≤ ca) (h2 : ca ≤ 9223372036854775807) (hr : IsBytes w A a la) (h3 : lb ≤ cb) (h4 : cb ≤ 9223372036854775807) (hr' : IsBytes w B b lb) (m0 : 0 ≤ m) (m1 : m ≤ 255) (hk : Knob w) : Calls Tryd.prog 5 #[.slice a la ca, .slice b lb cb, .int .u8 m] w (Yes5 w) := by
  obtain ⟨k, hm⟩ : ∃ k : Nat, m % 7 = k := ⟨(m % 7).toNat, by omega⟩
  exact law05_joins A B m k hm (by omega) m0 m1 w a b la ca lb cb h1 h2 h3 h4 hr hr' hk
end Go.Proofs.YtaioeailgknfjaaDoor
