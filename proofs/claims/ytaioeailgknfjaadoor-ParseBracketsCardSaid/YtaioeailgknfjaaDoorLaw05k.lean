/- The walk of law05.ParseBrackets. -/
import Derived.Test.YtaioeailgknfjaaDoorLaw05c
import Derived.Test.YtaioeailgknfjaaDoorAw05
import Derived.Test.YtaioeailgknfjaaDoorRef4S
namespace Go.Proofs.YtaioeailgknfjaaDoor
open Go Go.RowKit Go.Sort

set_option maxRecDepth 60000 in
set_option maxHeartbeats 8000000 in
theorem law05_brackets (B : List UInt8) (w : World) (a : Option Addr) (len cap : Nat) (h1 : len ≤ cap) (h2 : cap ≤ 9223372036854775807) (hr : IsBytes w B a len) (hk : Knob w) : Calls Tryd.prog 6 #[.slice a len cap] w (Yes5 w) := by
  have hln := hr.length
  have KA := Lib.hid fun (W : World) (h : Ext w W) => law05_awake W (hk.ext h)
  have HK := Lib.hid hk
  have HR := Lib.hid hr
  clear hr hk
  by_cases hlong : 2000 < len
  · have hz : (2000 : Int) < (len : Int) := by omega
    clear hln hlong
    go_enter Tryd.func6, Tryd.ntmps6
    go_wp2_with (go_at_call 12; refine (KA.out _ (by (repeat (first | (with_reducible assumption) | (with_reducible exact Ext.refl _) | (with_reducible refine Ext.alloc ?_ _) | (with_reducible refine Ext.drew ?_) | ((with_reducible refine Ext.setCell ?_ ?_ _); rotate_left 1; (first | (focus (simp; done)) | (focus (simp; omega)) | omega)) | exact Ext.refl _ | assumption | refine Ext.alloc ?_ _ | refine Ext.drew ?_ | refine Ext.setCell ?_ (by (first | (focus (simp; done)) | (focus (simp; omega)) | omega)) _ | refine Ext.trans ?_ (by assumption))))).mono ?_; rintro e w7 ⟨rfl, x7⟩)
    go_ret
    exact ⟨rfl, by (repeat (first | (with_reducible assumption) | (with_reducible exact Ext.refl _) | (with_reducible refine Ext.alloc ?_ _) | (with_reducible refine Ext.drew ?_) | ((with_reducible refine Ext.setCell ?_ ?_ _); rotate_left 1; (first | (focus (simp; done)) | (focus (simp; omega)) | omega)) | exact Ext.refl _ | assumption | refine Ext.alloc ?_ _ | refine Ext.drew ?_ | refine Ext.setCell ?_ (by (first | (focus (simp; done)) | (focus (simp; omega)) | omega)) _ | refine Ext.trans ?_ (by assumption)))⟩
  have hz : ¬ (2000 : Int) < (len : Int) := by omega
  have kc := fun (w : World) (C : Array Value) (n c : Nat) => Lib.run_convert_bytes_const (P := Tryd.prog) w 22 5 C n c Tryd.underlying22 Tryd.underlying5
  obtain ⟨i0, hi, hi0, hi1, hi2⟩ := info_parts infoB6
  have HI := Lib.hid (And.intro hi (And.intro hi0 (And.intro hi1 hi2)))
  obtain ⟨f1, t1, hf1⟩ := FT.ex (B := B) (res := parseL .expr)
  obtain ⟨f2, t2, hf2⟩ := FT.ex (B := 40 :: (B ++ [41])) (res := parseL .expr)
  obtain ⟨f3, q3, hf3⟩ := FT.ex (B := exnsB ++ B) (res := progL)
  have hgood : f1 = 0 → f2 = 0 ∧ f3 = 0 ∧ t1.same t2 = true ∧ t1.same q3.2 = true ∧ q3.1 = exnsE := by
    intro h0
    cases hT : termR B with
    | error q =>
      have h := hf1
      unfold termR at hT
      rw [hT] at h
      exact (h.2 h0).elim
    | ok t =>
      obtain ⟨t', e2, s2⟩ := termR_brackets hT (by omega)
      obtain ⟨t'', e3, s3⟩ := progR_exns hT (by omega)
      unfold termR at hT e2
      unfold progR at e3
      rw [hT] at hf1
      rw [e2] at hf2
      rw [e3] at hf3
      obtain ⟨-, rfl⟩ := hf1
      obtain ⟨rfl, rfl⟩ := hf2
      obtain ⟨rfl, rfl⟩ := hf3
      exact ⟨rfl, rfl, s2, s3, rfl⟩
  have HG := Lib.hid hgood
  have K1 := Lib.hid fun W (h : Ext w W) => parse_termF B f1 t1 hf1 W a len cap h1 h2 (HR.out.ext h) (HK.out.ext h)
  have K2 := Lib.hid fun W (h : Ext w W) a' n' c' (g1 : n' ≤ c') (g2 : c' ≤ 9223372036854775807) (hb : IsBytes W (40 :: (B ++ [41])) a' n') => parse_termF _ f2 t2 hf2 W a' n' c' g1 g2 hb (HK.out.ext h)
  have K3 := Lib.hid fun W (h : Ext w W) a' n' c' (g1 : n' ≤ c') (g2 : c' ≤ 9223372036854775807) (hb : IsBytes W (exnsB ++ B) a' n') => parse_progF _ f3 q3 hf3 W a' n' c' g1 g2 hb (HK.out.ext h)
  have HL := Lib.hid hln
  have hlen2 : len ≤ 2000 := by omega
  clear hi hi0 hi1 hi2 hf1 hf2 hf3 hgood hln hlong
  go_enter Tryd.func6, Tryd.ntmps6
  go_upto_region 4 with (go_at_call 11; refine (K1.out _ (by (repeat (first | (with_reducible assumption) | (with_reducible exact Ext.refl _) | (with_reducible refine Ext.alloc ?_ _) | (with_reducible refine Ext.drew ?_) | ((with_reducible refine Ext.setCell ?_ ?_ _); rotate_left 1; (first | (focus (simp; done)) | (focus (simp; omega)) | omega)) | exact Ext.refl _ | assumption | refine Ext.alloc ?_ _ | refine Ext.drew ?_ | refine Ext.setCell ?_ (by (first | (focus (simp; done)) | (focus (simp; omega)) | omega)) _ | refine Ext.trans ?_ (by assumption))))).mono ?_; rintro e w1 ⟨x1, a1, n1, c1, p1, rfl, y1, g1⟩)
  have B1 := Lib.hid (Blk.new w1 36 #[.int .u8 x1.k, .int .u8 x1.op, .int .i64 x1.pos, .int .i64 x1.n, .string x1.name, .string x1.arg, .string x1.exn, .slice a1 n1 c1])
  have Y1 : Hid (Ext w (w1.alloc (.cells #[.int .u8 x1.k, .int .u8 x1.op, .int .i64 x1.pos, .int .i64 x1.n, .string x1.name, .string x1.arg, .string x1.exn, .slice a1 n1 c1] 36))) := Lib.hid (by (repeat (first | (with_reducible assumption) | (with_reducible exact Ext.refl _) | (with_reducible refine Ext.alloc ?_ _) | (with_reducible refine Ext.drew ?_) | ((with_reducible refine Ext.setCell ?_ ?_ _); rotate_left 1; (first | (focus (simp; done)) | (focus (simp; omega)) | omega)) | exact Ext.refl _ | assumption | refine Ext.alloc ?_ _ | refine Ext.drew ?_ | refine Ext.setCell ?_ (by (first | (focus (simp; done)) | (focus (simp; omega)) | omega)) _ | refine Ext.trans ?_ (by assumption))))
  have G1 : Hid (f1 = 0 → p1 = 0 ∧ x1.Fits ∧ n1 ≤ c1 ∧ c1 ≤ 9223372036854775807 ∧ t1.head = x1 ∧ IsTms (w1.alloc (.cells #[.int .u8 x1.k, .int .u8 x1.op, .int .i64 x1.pos, .int .i64 x1.n, .string x1.name, .string x1.arg, .string x1.exn, .slice a1 n1 c1] 36)) t1.kids a1 n1) := Lib.hid fun h => by
    obtain ⟨q1, q2, q3, q4, q5, q6⟩ := g1 h
    exact ⟨q1, q2, q3, q4, q5, q6.ext ((Ext.refl _).alloc _)⟩
  clear g1 y1
  generalize w1.alloc (.cells #[.int .u8 x1.k, .int .u8 x1.op, .int .i64 x1.pos, .int .i64 x1.n, .string x1.name, .string x1.arg, .string x1.exn, .slice a1 n1 c1] 36) = W1 at *
  generalize w1.heap.size = b1 at *
  clear w1
  go_wp2_with (at_builtin; refine wpList_append_orB rfl (.tmp 24) (.tmp 25) 22 ?r0 W1.heap.size 5 i0 ?r1 ?r2 ?r3 ?r4 ?r5 (.slice (some ⟨W1.heap.size, 0, none⟩) 1 1) 1 (byV [40]) ?r6 ?r7 a len cap (byV B) ?r8 ?r9 ?r10 ?r11 ?r12 ?r13)
  case r0 => rfl
  case r1 => exact Tryd.underlying22
  case r2 => exact HI.out.1
  case r3 => exact HI.out.2.1
  case r4 => exact HI.out.2.2.1
  case r5 => exact HI.out.2.2.2
  case r6 => rfl
  case r7 =>
    refine .inr ⟨rfl, by simp, rfl, fun j u h => ?_⟩
    rw [World.cell?_alloc_mark]
    have e : byV [40] = [.int .u8 40] := rfl
    rw [e] at h
    simpa using h
  case r8 => rfl
  case r9 => exact HR.out.ext (by have := Y1.out; (repeat (first | (with_reducible assumption) | (with_reducible exact Ext.refl _) | (with_reducible refine Ext.alloc ?_ _) | (with_reducible refine Ext.drew ?_) | ((with_reducible refine Ext.setCell ?_ ?_ _); rotate_left 1; (first | (focus (simp; done)) | (focus (simp; omega)) | omega)) | exact Ext.refl _ | assumption | refine Ext.alloc ?_ _ | refine Ext.drew ?_ | refine Ext.setCell ?_ (by (first | (focus (simp; done)) | (focus (simp; omega)) | omega)) _ | refine Ext.trans ?_ (by assumption))))
  case r10 => exact byV_one B
  case r11 => omega
  case r12 => simp
  case r13 =>
    intro v8 w8 ho8 hX8
    have X8 := hX8 W1 (by (repeat (first | (with_reducible assumption) | (with_reducible exact Ext.refl _) | (with_reducible refine Ext.alloc ?_ _) | (with_reducible refine Ext.drew ?_) | ((with_reducible refine Ext.setCell ?_ ?_ _); rotate_left 1; (first | (focus (simp; done)) | (focus (simp; omega)) | omega)) | exact Ext.refl _ | assumption | refine Ext.alloc ?_ _ | refine Ext.drew ?_ | refine Ext.setCell ?_ (by (first | (focus (simp; done)) | (focus (simp; omega)) | omega)) _ | refine Ext.trans ?_ (by assumption)))) (Nat.le_refl _)
    have HO8 := Lib.hid ho8
    rw [← byV_append] at HO8
    have hs8 := X8.below.size
    clear ho8 hX8
    obtain ⟨sa, sc, rfl, -, -, -⟩ := ownsOr.bytes HO8.out (by simp [HL.out]; omega) (by omega)
    go_wp2_with (at_builtin; refine wpList_append_orB rfl (.tmp 26) (.tmp 27) 22 ?s0 W1.heap.size 5 i0 ?s1 ?s2 ?s3 ?s4 ?s5 (.slice sa (1 + len) sc) (1 + len) (byV ([40] ++ B)) ?s6 ?s7 (some ⟨w8.heap.size, 0, none⟩) 1 1 (byV [41]) ?s8 ?s9 ?s10 ?s11 ?s12 ?s13)
    case s0 => rfl
    case s1 => exact Tryd.underlying22
    case s2 => exact HI.out.1
    case s3 => exact HI.out.2.1
    case s4 => exact HI.out.2.2.1
    case s5 => exact HI.out.2.2.2
    case s6 => rfl
    case s7 => exact ownsOr.ext (by (repeat (first | (with_reducible assumption) | (with_reducible exact Ext.refl _) | (with_reducible refine Ext.alloc ?_ _) | (with_reducible refine Ext.drew ?_) | ((with_reducible refine Ext.setCell ?_ ?_ _); rotate_left 1; (first | (focus (simp; done)) | (focus (simp; omega)) | omega)) | exact Ext.refl _ | assumption | refine Ext.alloc ?_ _ | refine Ext.drew ?_ | refine Ext.setCell ?_ (by (first | (focus (simp; done)) | (focus (simp; omega)) | omega)) _ | refine Ext.trans ?_ (by assumption)))) HO8.out
    case s8 => rfl
    case s9 => exact IsRow.new w8 _ (byV [41])
    case s10 => exact byV_one _
    case s11 => omega
    case s12 => simp; omega
    case s13 =>
      intro v9 w9 ho9 hX9
      have X9 := hX9 W1 (X8.alloc _) (Nat.le_refl _)
      have HO9 := Lib.hid ho9
      rw [← byV_append] at HO9
      clear ho9 hX9
      obtain ⟨sb, sd, rfl, k1, k2, hb⟩ := ownsOr.bytes HO9.out (by simp [HL.out]; omega) (by omega)
      have KB := Lib.hid (K2.out w9 (Y1.out.trans X9) sb _ sd k1 k2 hb)
      clear hb HO9 HO8
      go_upto_region 5 with (go_at_call 11; refine (KB.out).mono ?_; rintro e w2 ⟨x2, a2, n2, c2, p2, rfl, y2, g2⟩)
      have B2 := Lib.hid (Blk.new w2 36 #[.int .u8 x2.k, .int .u8 x2.op, .int .i64 x2.pos, .int .i64 x2.n, .string x2.name, .string x2.arg, .string x2.exn, .slice a2 n2 c2])
      have y12 : Ext W1 w2 := X9.trans y2
      have Y12 : Hid (Ext W1 (w2.alloc (.cells #[.int .u8 x2.k, .int .u8 x2.op, .int .i64 x2.pos, .int .i64 x2.n, .string x2.name, .string x2.arg, .string x2.exn, .slice a2 n2 c2] 36))) := Lib.hid (y12.alloc _)
      have G2 : Hid (f2 = 0 → p2 = 0 ∧ x2.Fits ∧ n2 ≤ c2 ∧ c2 ≤ 9223372036854775807 ∧ t2.head = x2 ∧ IsTms (w2.alloc (.cells #[.int .u8 x2.k, .int .u8 x2.op, .int .i64 x2.pos, .int .i64 x2.n, .string x2.name, .string x2.arg, .string x2.exn, .slice a2 n2 c2] 36)) t2.kids a2 n2) := Lib.hid fun h => by
        obtain ⟨q1, q2, q3, q4, q5, q6⟩ := g2 h
        exact ⟨q1, q2, q3, q4, q5, q6.ext ((Ext.refl _).alloc _)⟩
      clear g2 y2 y12 X9 X8 KB k1 k2 hs8
      generalize w2.alloc (.cells #[.int .u8 x2.k, .int .u8 x2.op, .int .i64 x2.pos, .int .i64 x2.n, .string x2.name, .string x2.arg, .string x2.exn, .slice a2 n2 c2] 36) = W2 at *
      generalize w2.heap.size = b2 at *
      have hs12 := Below.size Y12.out
      go_wp2_with (at_builtin; refine wpList_append_orB rfl (.tmp 35) (.tmp 36) 22 ?z0 W2.heap.size 5 i0 ?z1 ?z2 ?z3 ?z4 ?z5 (.slice (some ⟨W2.heap.size, 0, none⟩) 13 13) 13 (byV exnsB) ?z6 ?z7 a len cap (byV B) ?z8 ?z9 ?z10 ?z11 ?z12 ?z13)
      case z0 => rfl
      case z1 => exact Tryd.underlying22
      case z2 => exact HI.out.1
      case z3 => exact HI.out.2.1
      case z4 => exact HI.out.2.2.1
      case z5 => exact HI.out.2.2.2
      case z6 => rfl
      case z7 =>
        refine .inr ⟨rfl, by simp, rfl, fun j u h => ?_⟩
        rw [World.cell?_alloc_mark]
        have e : byV exnsB = [.int .u8 101, .int .u8 120, .int .u8 110, .int .u8 32, .int .u8 69, .int .u8 59, .int .u8 101, .int .u8 120, .int .u8 110, .int .u8 32, .int .u8 69, .int .u8 59, .int .u8 32] := rfl
        rw [e] at h
        simpa using h
      case z8 => rfl
      case z9 => exact HR.out.ext (by have := Y1.out.trans Y12.out; (repeat (first | (with_reducible assumption) | (with_reducible exact Ext.refl _) | (with_reducible refine Ext.alloc ?_ _) | (with_reducible refine Ext.drew ?_) | ((with_reducible refine Ext.setCell ?_ ?_ _); rotate_left 1; (first | (focus (simp; done)) | (focus (simp; omega)) | omega)) | exact Ext.refl _ | assumption | refine Ext.alloc ?_ _ | refine Ext.drew ?_ | refine Ext.setCell ?_ (by (first | (focus (simp; done)) | (focus (simp; omega)) | omega)) _ | refine Ext.trans ?_ (by assumption))))
      case z10 => exact byV_one B
      case z11 => omega
      case z12 => simp
      case z13 =>
        intro v8 w8 ho8 hX8
        have X8 := hX8 W2 (by (repeat (first | (with_reducible assumption) | (with_reducible exact Ext.refl _) | (with_reducible refine Ext.alloc ?_ _) | (with_reducible refine Ext.drew ?_) | ((with_reducible refine Ext.setCell ?_ ?_ _); rotate_left 1; (first | (focus (simp; done)) | (focus (simp; omega)) | omega)) | exact Ext.refl _ | assumption | refine Ext.alloc ?_ _ | refine Ext.drew ?_ | refine Ext.setCell ?_ (by (first | (focus (simp; done)) | (focus (simp; omega)) | omega)) _ | refine Ext.trans ?_ (by assumption)))) (Nat.le_refl _)
        have HO8 := Lib.hid ho8
        rw [← byV_append] at HO8
        clear ho8 hX8
        obtain ⟨sa, sc, rfl, k1, k2, hb⟩ := ownsOr.bytes HO8.out (by simp [HL.out, exnsB]; omega) (by omega)
        have KB := Lib.hid (K3.out w8 ((Y1.out.trans Y12.out).trans X8) sa _ sc k1 k2 hb)
        clear hb HO8
        go_upto_region 6 with (go_at_call 14; refine (KB.out).mono ?_; rintro e w3 ⟨ea, en, ec, x3, a3, n3, c3, p3, rfl, y3, g3⟩)
        have B3 := Blk.new w3 44 #[.slice ea en ec, .int .u8 x3.k, .int .u8 x3.op, .int .i64 x3.pos, .int .i64 x3.n, .string x3.name, .string x3.arg, .string x3.exn, .slice a3 n3 c3]
        have y23 : Ext W2 w3 := X8.trans y3
        have Y23 := y23.alloc (.cells #[.slice ea en ec, .int .u8 x3.k, .int .u8 x3.op, .int .i64 x3.pos, .int .i64 x3.n, .string x3.name, .string x3.arg, .string x3.exn, .slice a3 n3 c3] 44)
        have G3 : Hid (f3 = 0 → p3 = 0 ∧ x3.Fits ∧ n3 ≤ c3 ∧ c3 ≤ 9223372036854775807 ∧ q3.2.head = x3 ∧ IsTms (w3.alloc (.cells #[.slice ea en ec, .int .u8 x3.k, .int .u8 x3.op, .int .i64 x3.pos, .int .i64 x3.n, .string x3.name, .string x3.arg, .string x3.exn, .slice a3 n3 c3] 44)) q3.2.kids a3 n3 ∧ en ≤ ec ∧ ec ≤ 9223372036854775807 ∧ IsToks (w3.alloc (.cells #[.slice ea en ec, .int .u8 x3.k, .int .u8 x3.op, .int .i64 x3.pos, .int .i64 x3.n, .string x3.name, .string x3.arg, .string x3.exn, .slice a3 n3 c3] 44)) q3.1 ea en) := Lib.hid fun h => by
          obtain ⟨q1, q2, q3, q4, q5, q6, q7, q8, q9⟩ := g3 h
          exact ⟨q1, q2, q3, q4, q5, q6.ext ((Ext.refl _).alloc _), q7, q8, q9.ext ((Ext.refl _).alloc _)⟩
        clear g3 y3 y23 X8 KB k1 k2
        generalize w3.alloc (.cells #[.slice ea en ec, .int .u8 x3.k, .int .u8 x3.op, .int .i64 x3.pos, .int .i64 x3.n, .string x3.name, .string x3.arg, .string x3.exn, .slice a3 n3 c3] 44) = W3 at *
        generalize w3.heap.size = b3 at *
        have B1' := (B1.out.ext Y12.out).ext Y23
        have B2' := B2.out.ext Y23
        have YW : Ext w W3 := (Y1.out.trans Y12.out).trans Y23
        have HB1 := Lib.hid B1'
        have HB3 := Lib.hid B3
        have HYW := Lib.hid YW
        by_cases hf : f1 = 0
        case neg =>
          have hfb : (f1 != 0) = true := by simpa using hf
          clear hf B1' B2' B3 Y23 YW
          go_wp2_with (go_at_call 12; refine (KA.out _ HYW.out).mono ?_; rintro e w7 ⟨rfl, x7⟩)
          go_ret
          exact ⟨rfl, HYW.out.trans x7⟩
        case pos =>
          subst hf
          obtain ⟨e2, e3, s12, s13, eE⟩ := HG.out rfl
          subst e2
          subst e3
          obtain ⟨rfl, hf1, u1, v1, r1, T1⟩ := G1.out rfl
          obtain ⟨rfl, hf2, u2, v2, r2, T2⟩ := G2.out rfl
          obtain ⟨rfl, hf3, u3, v3, r3, T3, u4, v4, hTk⟩ := G3.out rfl
          obtain ⟨y1, ks1⟩ := t1
          obtain ⟨y2, ks2⟩ := t2
          obtain ⟨es, y3, ks3⟩ := q3
          simp only [Tm.head, Tm.kids] at r1 r2 r3 T1 T2 T3 eE s13 hTk
          subst r1
          subst r2
          subst r3
          subst eE
          have KS2 := Lib.hid fun W (h : Ext W3 W) => ref4_same _ (.mk y1 ks1) (.mk y2 ks2) W _ _ (Nat.le_refl _) (IsTmA.mk_ (((T1.ext Y12.out).ext Y23).ext h) u1 v1 hf1) (IsTmA.mk_ ((T2.ext Y23).ext h) u2 v2 hf2)
          have KS3 := Lib.hid fun W (h : Ext W3 W) => ref4_same _ (.mk y1 ks1) (.mk y3 ks3) W _ _ (Nat.le_refl _) (IsTmA.mk_ (((T1.ext Y12.out).ext Y23).ext h) u1 v1 hf1) (IsTmA.mk_ (T3.ext h) u3 v3 hf3)
          rw [s12] at KS2
          rw [s13] at KS3
          have hen := hTk.length
          obtain rfl : en = 2 := hen
          obtain ⟨tt, tb, tO, gt, -, rfl, -, -, q2⟩ := hTk.at3 (i := 1) (by omega)
          have ett : tt = ⟨3, ⟨#[69]⟩, 10⟩ := by simpa [exnsE] using gt.symm
          subst ett
          simp only at q2
          have Q2 := Lib.hid q2
          obtain ⟨d0, d1, d2, d3, d4, d5, d6, d7⟩ := B1'.eight
          obtain ⟨m0, m1, m2, m3, m4, m5, m6, m7⟩ := B2'.eight
          have lb1 := B1'.lt
          have lb2 := B2'.lt
          clear s12 s13 T1 T2 T3 hTk gt G1 G2 G3 HG B1' B2' Y23 YW B3 q2 hf1 hf2 hf3
          go_wp2_with (go_at_call 13; refine (KS2.out W3 (Ext.refl _)).mono ?_; rintro e w5 ⟨rfl, x5⟩; refine Hid.out ?_)
          refine Lib.hid ?_
          obtain ⟨d0, d1, d2, d3, d4, d5, d6, d7⟩ := (HB1.out.ext x5).eight
          obtain ⟨o0, o1, o2, o3, o4, o5, o6, o7, o8⟩ := (HB3.out.ext x5).nine
          go_wp2_with (go_at_call 13; refine (KS3.out w5 x5).mono ?_; rintro e w6 ⟨rfl, y6⟩; refine Hid.out ?_)
          refine Lib.hid ?_
          have x6 := x5.trans y6
          obtain ⟨o0, o1, o2, o3, o4, o5, o6, o7, o8⟩ := (HB3.out.ext x6).nine
          have q2 := x6.cell Q2.out
          go_wp2_with (go_at_call 12; refine (KA.out _ (HYW.out.trans x6)).mono ?_; rintro e w7 ⟨rfl, x7⟩)
          go_ret
          exact ⟨rfl, (HYW.out.trans x6).trans x7⟩
theorem law_parseBrackets (B : List UInt8) (w : World) (a : Option Addr) (len cap : Nat) (h1 : len ≤ cap) (h2 : cap ≤ 9223372036854775807) (hr : IsBytes w B a len) (hk : Knob w) : Calls Tryd.prog 6 #[.slice a len cap] w (Yes5 w) := law05_brackets B w a len cap h1 h2 hr hk
end Go.Proofs.YtaioeailgknfjaaDoor
