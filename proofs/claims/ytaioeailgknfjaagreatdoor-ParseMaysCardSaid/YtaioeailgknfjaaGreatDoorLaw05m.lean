/- The walk of law05.ParseMays. -/
import Derived.Test.YtaioeailgknfjaaGreatDoorLaw05a
import Derived.Test.YtaioeailgknfjaaGreatDoorAw05
import Derived.Test.YtaioeailgknfjaaGreatDoorPureP15
import Derived.Test.YtaioeailgknfjaaGreatDoorRef03e
import Derived.Test.YtaioeailgknfjaaGreatDoorRef04
namespace Go.Proofs.YtaioeailgknfjaaGreatDoor
open Go Go.RowKit Go.Sort

theorem owns_tms5 {w : World} {base n : Nat} {v : Value} {xs : List Value} {l : List Tm} (h : w.ownsRow base 28 8 v n xs) (hf : FlatTms w l xs) (hn : n = l.length) : ∃ a cap, v = .slice a n cap ∧ n ≤ cap ∧ cap ≤ 9223372036854775807 ∧ IsTms w l a n := by
  subst hn
  rcases Nat.eq_zero_or_pos l.length with h0 | h0
  · obtain rfl := List.eq_nil_of_length_eq_zero h0
    rcases h.2 with ⟨rfl, _⟩ | ⟨g, cap, cur, rfl, hg, hh, h1, h2, h3, h4⟩
    · exact ⟨none, 0, rfl, Nat.le_refl _, by omega, IsTmsA.nil _⟩
    · exact ⟨_, cap, rfl, h1, h2, IsTmsA.nil _⟩
  · obtain ⟨g, cap, rfl, hg, hl, h1, h2, hc⟩ := owns_open h h0
    exact ⟨_, cap, rfl, h1, h2, hf.tms g 0 fun j u hu => by simpa using hc j u hu⟩
/-- A token that a node begins at. -/
def metK (u : Tm) (k : Tk) : Bool := k.pos == u.head.pos && k.k != 6
set_option maxRecDepth 60000 in
set_option maxHeartbeats 8000000 in
theorem law_parseMays (B : List UInt8) (w : World) (a : Option Addr) (len cap : Nat) (h1 : len ≤ cap) (h2 : cap ≤ 9223372036854775807) (hr : IsBytes w B a len) (hk : Knob w) : Calls Tryz.prog 3 #[.slice a len cap] w (Yes5 w) := by
  have hln := hr.length
  have KA := Lib.hid fun (W : World) (h : Ext w W) => law05_awake W (hk.ext h)
  by_cases hlong : 2000 < len
  · have hz : (2000 : Int) < (len : Int) := by omega
    clear hln hlong hr hk
    go_enter Tryz.func3, Tryz.ntmps3
    go_wp2_with (go_at_call 10; refine (KA.out _ (by (repeat (first | (with_reducible assumption) | (with_reducible exact Ext.refl _) | (with_reducible refine Ext.alloc ?_ _) | (with_reducible refine Ext.drew ?_) | ((with_reducible refine Ext.setCell ?_ ?_ _); rotate_left 1; (first | (focus (simp; done)) | (focus (simp; omega)) | omega)) | exact Ext.refl _ | assumption | refine Ext.alloc ?_ _ | refine Ext.drew ?_ | refine Ext.setCell ?_ (by (first | (focus (simp; done)) | (focus (simp; omega)) | omega)) _ | refine Ext.trans ?_ (by assumption))))).mono ?_; rintro e w7 ⟨rfl, x7⟩)
    go_ret
    exact ⟨rfl, by (repeat (first | (with_reducible assumption) | (with_reducible exact Ext.refl _) | (with_reducible refine Ext.alloc ?_ _) | (with_reducible refine Ext.drew ?_) | ((with_reducible refine Ext.setCell ?_ ?_ _); rotate_left 1; (first | (focus (simp; done)) | (focus (simp; omega)) | omega)) | exact Ext.refl _ | assumption | refine Ext.alloc ?_ _ | refine Ext.drew ?_ | refine Ext.setCell ?_ (by (first | (focus (simp; done)) | (focus (simp; omega)) | omega)) _ | refine Ext.trans ?_ (by assumption)))⟩
  have hz : ¬ (2000 : Int) < (len : Int) := by omega
  have KT := Lib.hid fun W (h : Ext w W) => parse_term B W a len cap h1 h2 (hr.ext h) (hk.ext h)
  have KL := Lib.hid fun W (h : Ext w W) => ref03_lex B W a len cap h1 h2 (hr.ext h)
  cases hT : termR B with
  | error q =>
    obtain ⟨p, f⟩ := q
    have hf := runR_err hT
    have hfb : (f != 0) = true := by simpa using hf
    rw [hT] at KT
    clear hT hf hln hlong hr hk
    go_enter Tryz.func3, Tryz.ntmps3
    go_wp2_with (first | (go_at_call 11; refine (KT.out _ (by (repeat (first | (with_reducible assumption) | (with_reducible exact Ext.refl _) | (with_reducible refine Ext.alloc ?_ _) | (with_reducible refine Ext.drew ?_) | ((with_reducible refine Ext.setCell ?_ ?_ _); rotate_left 1; (first | (focus (simp; done)) | (focus (simp; omega)) | omega)) | exact Ext.refl _ | assumption | refine Ext.alloc ?_ _ | refine Ext.drew ?_ | refine Ext.setCell ?_ (by (first | (focus (simp; done)) | (focus (simp; omega)) | omega)) _ | refine Ext.trans ?_ (by assumption))))).mono ?_; rintro e w1 ⟨x1, rfl⟩) | (go_at_call 10; refine (KA.out _ (by (repeat (first | (with_reducible assumption) | (with_reducible exact Ext.refl _) | (with_reducible refine Ext.alloc ?_ _) | (with_reducible refine Ext.drew ?_) | ((with_reducible refine Ext.setCell ?_ ?_ _); rotate_left 1; (first | (focus (simp; done)) | (focus (simp; omega)) | omega)) | exact Ext.refl _ | assumption | refine Ext.alloc ?_ _ | refine Ext.drew ?_ | refine Ext.setCell ?_ (by (first | (focus (simp; done)) | (focus (simp; omega)) | omega)) _ | refine Ext.trans ?_ (by assumption))))).mono ?_; rintro e w7 ⟨rfl, x7⟩))
    go_ret
    exact ⟨rfl, by (repeat (first | (with_reducible assumption) | (with_reducible exact Ext.refl _) | (with_reducible refine Ext.alloc ?_ _) | (with_reducible refine Ext.drew ?_) | ((with_reducible refine Ext.setCell ?_ ?_ _); rotate_left 1; (first | (focus (simp; done)) | (focus (simp; omega)) | omega)) | exact Ext.refl _ | assumption | refine Ext.alloc ?_ _ | refine Ext.drew ?_ | refine Ext.setCell ?_ (by (first | (focus (simp; done)) | (focus (simp; omega)) | omega)) _ | refine Ext.trans ?_ (by assumption)))⟩
  | ok t =>
    obtain ⟨hmay, hsz, o, hl, hmet⟩ := (termR_inv hT).mays (by omega)
    have hR := lexR_ok (B := B) (by omega) hl
    rw [hT] at KT
    have KL : Hid (∀ W, Ext w W → Calls Tryz.prog 12 #[.slice a len cap] W fun e w' => ∃ a n c, e = .returned (.tuple #[.slice a n c, .int .i64 0, .int .i64 0]) ∧ n ≤ c ∧ c ≤ 9223372036854775807 ∧ IsToks w' (o.map Tok.tk) a n ∧ Ext W w') := Lib.hid fun W h => by
      have := KL.out W h
      unfold RetLex at this
      rw [hR] at this
      exact this
    generalize o.map Tok.tk = L at *
    obtain ⟨x, ks⟩ := t
    have KT2 : Hid (∀ W, Ext w W → Calls Tryz.prog 11 #[.slice a len cap] W fun e w' => ∃ (a1 : Option Addr) (n1 c1 : Nat), e = .returned (.tuple #[.agg #[.int .u8 x.k, .int .u8 x.op, .int .i64 x.pos, .int .i64 x.n, .string x.name, .string x.arg, .string x.exn, .slice a1 n1 c1], .int .i64 0, .int .i64 0]) ∧ x.Fits ∧ n1 ≤ c1 ∧ c1 ≤ 9223372036854775807 ∧ IsTms w' ks a1 n1 ∧ Ext W w') := Lib.hid fun W h => (KT.out W h).mono fun e w' ⟨hx, v, e1, hv⟩ => by
      obtain ⟨a', n', c', rfl, q1, q2, q3, q4⟩ := hv.open_
      exact ⟨a', n', c', e1, q3, q1, q2, q4, hx⟩
    clear KT
    have HAL := Lib.hid (Tm.mk x ks).all_length
    have HMET := Lib.hid hmet
    have HMAY := Lib.hid hmay
    clear hT hl hR hln hlong hr hk hmet hmay
    go_enter Tryz.func3, Tryz.ntmps3
    go_upto_region 4 with (go_at_call 11; refine (KT2.out _ (by (repeat (first | (with_reducible assumption) | (with_reducible exact Ext.refl _) | (with_reducible refine Ext.alloc ?_ _) | (with_reducible refine Ext.drew ?_) | ((with_reducible refine Ext.setCell ?_ ?_ _); rotate_left 1; (first | (focus (simp; done)) | (focus (simp; omega)) | omega)) | exact Ext.refl _ | assumption | refine Ext.alloc ?_ _ | refine Ext.drew ?_ | refine Ext.setCell ?_ (by (first | (focus (simp; done)) | (focus (simp; omega)) | omega)) _ | refine Ext.trans ?_ (by assumption))))).mono ?_; rintro e w1 ⟨a1, n1, c1, rfl, hf1, g1, g2, hT1, x1⟩)
    have y1 : Ext w w1 := by (repeat (first | (with_reducible assumption) | (with_reducible exact Ext.refl _) | (with_reducible refine Ext.alloc ?_ _) | (with_reducible refine Ext.drew ?_) | ((with_reducible refine Ext.setCell ?_ ?_ _); rotate_left 1; (first | (focus (simp; done)) | (focus (simp; omega)) | omega)) | exact Ext.refl _ | assumption | refine Ext.alloc ?_ _ | refine Ext.drew ?_ | refine Ext.setCell ?_ (by (first | (focus (simp; done)) | (focus (simp; omega)) | omega)) _ | refine Ext.trans ?_ (by assumption)))
    have B1 := Blk.new w1 28 #[.int .u8 x.k, .int .u8 x.op, .int .i64 x.pos, .int .i64 x.n, .string x.name, .string x.arg, .string x.exn, .slice a1 n1 c1]
    have Y1 : Ext w (w1.alloc (.cells #[.int .u8 x.k, .int .u8 x.op, .int .i64 x.pos, .int .i64 x.n, .string x.name, .string x.arg, .string x.exn, .slice a1 n1 c1] 28)) := y1.alloc _
    have HT1 := hT1.ext ((Ext.refl w1).alloc (.cells #[.int .u8 x.k, .int .u8 x.op, .int .i64 x.pos, .int .i64 x.n, .string x.name, .string x.arg, .string x.exn, .slice a1 n1 c1] 28))
    generalize w1.alloc (.cells #[.int .u8 x.k, .int .u8 x.op, .int .i64 x.pos, .int .i64 x.n, .string x.name, .string x.arg, .string x.exn, .slice a1 n1 c1] 28) = W1 at *
    generalize w1.heap.size = b1 at *
    have HY1 := Lib.hid Y1
    have HB1 := Lib.hid B1
    have HTT := Lib.hid (IsTmA.mk_ HT1 g1 g2 hf1)
    have KALL := Lib.hid fun W (h : Ext W1 W) => ref4_all (Tm.mk x ks).size (Tm.mk x ks) W W (.agg #[.int .u8 x.k, .int .u8 x.op, .int .i64 x.pos, .int .i64 x.n, .string x.name, .string x.arg, .string x.exn, .slice a1 n1 c1]) (Nat.le_refl _) (by omega) (Ext.refl _) (HTT.out.ext h)
    have KMAY := Lib.hid fun W (h : Ext W1 W) => ref4_may (Tm.mk x ks) W (.agg #[.int .u8 x.k, .int .u8 x.op, .int .i64 x.pos, .int .i64 x.n, .string x.name, .string x.arg, .string x.exn, .slice a1 n1 c1]) (HTT.out.ext h) (by omega)
    rw [HMAY.out] at KMAY
    clear Y1 y1 B1 HT1 hT1 hf1 x1
    go_upto_region 7 with (go_at_call 12; refine (KL.out _ HY1.out).mono ?_; rintro e w2 ⟨la, ln, lc, rfl, hl1, hl2, hTK, x2⟩)
    have HTK := Lib.hid hTK
    have HTL := Lib.hid hTK.length
    have X2 := Lib.hid x2
    obtain ⟨d0, d1, d2, d3, d4, d5, d6, d7⟩ := (HB1.out.ext x2).eight
    clear hTK x2
    go_upto_region 8 with (go_at_call 13; refine (KALL.out _ X2.out).mono ?_; rintro e w3 ⟨v3, xs, rfl, ho3, hfl, x3⟩; obtain ⟨av, cv, hve, hv1, hv2, hTms⟩ := owns_tms5 ho3 (hfl.ext x3) rfl; subst hve)
    have X3 := Lib.hid x3
    have HTMS := Lib.hid hTms
    clear ho3 hfl x3 hTms d0 d1 d2 d3 d4 d5 d6 d7
    obtain ⟨al, hal⟩ : ∃ al, al = (Tm.mk x ks).all := ⟨_, rfl⟩
    rw [← hal] at HTMS HMET HAL hv1 ⊢
    have hN : al.length ≤ 4000 := by rw [HAL.out]; exact hsz
    clear hal
    go_wp2_with fail
    go_loopg [10] (al.length) (fun g i wr => ∃ j : Nat, g = al.length - j ∧ i = .int .i64 j ∧ j ≤ al.length ∧ Ext w3 wr)
    case atStart => exact ⟨0, rfl, rfl, Nat.zero_le _, Ext.refl _⟩
    case round =>
      obtain ⟨j, rfl, rfl, hj, hx⟩ := hrel
      by_cases hlt : j < al.length
      · obtain ⟨y, k, b, bo, ak, lenk, capk, g, rfl, -, hd, -, -, -, -, -⟩ := HTMS.out.at8 (Ext.refl _) hlt
        have c2 := hd.c2
        have HANY : Hid ((L.any (metK (.mk y k))) = true) := Lib.hid (by
          obtain ⟨k', hk1, hk2, hk3⟩ := HMET.out _ (List.mem_of_getElem? g)
          refine List.any_eq_true.2 ⟨k', hk1, ?_⟩
          unfold metK
          simp [hk3, hk2])
        have hjz : (j : Int) < (al.length : Int) := by omega
        have HC2 := Lib.hid c2
        have HX := Lib.hid hx
        clear hd g hx c2
        go_wp2_with fail
        go_loopg [11, 12] ln (fun g s i wq => ∃ q : Nat, g = ln - q ∧ i = .int .i64 q ∧ q ≤ ln ∧ s = .bool ((L.take q).any (metK (.mk y k))) ∧ Ext w3 wq)
        case atStart => exact ⟨0, rfl, rfl, Nat.zero_le _, by simp, HX.out⟩
        case round =>
          obtain ⟨q, rfl, rfl, hq, rfl, hxq⟩ := hrel
          by_cases hql : q < ln
          · obtain ⟨tk, b', o', g', hft, rfl, q0, q1, q2⟩ := (HTK.out.ext (X3.out.trans hxq)).at3 hql
            have HTQ : Hid (((L.take (q + 1)).any (metK (.mk y k))) = (((L.take q).any (metK (.mk y k))) || (tk.pos == y.pos && tk.k != 6))) := Lib.hid (by rw [List.take_add_one, g']; simp [metK, Tm.head])
            have hqz : (q : Int) < (ln : Int) := by omega
            have c2 := hxq.cell HC2.out
            have k0 := cells_regrown q0
            have k2 := cells_regrown q2
            have k3 := cells_regrown c2
            clear g' hft q0 q1 q2 c2
            cases hbb : (L.take q).any (metK (.mk y k))
            · rw [hbb] at HTQ
              clear hbb
              cases hp : (tk.pos == y.pos)
              · rw [hp] at HTQ
                go_wp2_with fail
                refine wp_region_quiet_below (by kernel_rfl) (by kernel_rfl) ?_
                repeat (go_big_quiet_step (fail))
                refine wpQuiet_nil ?_
                intro wz hq_wz
                have xz := ext_of_regrown hq_wz
                clear hq_wz
                go_wp2_with fail
                go_roundg (ln - (q + 1))
                case rel => exact ⟨q + 1, rfl, by go_num, by omega, by rw [HTQ.out]; rfl, hxq.trans xz⟩
                case measure => omega
              · rw [hp] at HTQ
                cases hk6 : (tk.k != 6)
                · rw [hk6] at HTQ
                  go_wp2_with fail
                  refine wp_region_quiet_below (by kernel_rfl) (by kernel_rfl) ?_
                  repeat (go_big_quiet_step (fail))
                  refine wpQuiet_nil ?_
                  intro wz hq_wz
                  have xz := ext_of_regrown hq_wz
                  clear hq_wz
                  go_wp2_with fail
                  go_roundg (ln - (q + 1))
                  case rel => exact ⟨q + 1, rfl, by go_num, by omega, by rw [HTQ.out]; rfl, hxq.trans xz⟩
                  case measure => omega
                · rw [hk6] at HTQ
                  go_wp2_with fail
                  refine wp_region_quiet_below (by kernel_rfl) (by kernel_rfl) ?_
                  repeat (go_big_quiet_step (fail))
                  refine wpQuiet_nil ?_
                  intro wz hq_wz
                  have xz := ext_of_regrown hq_wz
                  clear hq_wz
                  go_wp2_with fail
                  go_roundg (ln - (q + 1))
                  case rel => exact ⟨q + 1, rfl, by go_num, by omega, by rw [HTQ.out]; rfl, hxq.trans xz⟩
                  case measure => omega
            · rw [hbb] at HTQ
              clear hbb
              go_wp2_with fail
              refine wp_region_quiet_below (by kernel_rfl) (by kernel_rfl) ?_
              repeat (go_big_quiet_step (fail))
              refine wpQuiet_nil ?_
              intro wz hq_wz
              have xz := ext_of_regrown hq_wz
              clear hq_wz
              go_wp2_with fail
              go_roundg (ln - (q + 1))
              case rel => exact ⟨q + 1, rfl, by go_num, by omega, by rw [HTQ.out]; rfl, hxq.trans xz⟩
              case measure => omega
          · obtain rfl : q = ln := by omega
            have htk : (L.take q).any (metK (.mk y k)) = true := by rw [List.take_of_length_le (by rw [← HTL.out]; omega)]; exact HANY.out
            rw [htk]
            clear htk
            go_wp2_with fail
            go_roundg (al.length - (j + 1))
            case rel => exact ⟨j + 1, rfl, by go_num, by omega, hxq⟩
            case measure => omega
      · obtain rfl : j = al.length := by omega
        have yx : Ext W1 wr := (X2.out.trans X3.out).trans hx
        obtain ⟨d0, d1, d2, d3, d4, d5, d6, d7⟩ := (HB1.out.ext yx).eight
        have HYX := Lib.hid yx
        clear yx hx
        go_wp2_with (first | (go_at_call 14; refine (KMAY.out _ HYX.out).mono ?_; rintro e w5 ⟨rfl, x5⟩) | (go_at_call 10; refine (KA.out _ ((HY1.out.trans HYX.out).trans x5)).mono ?_; rintro e w7 ⟨rfl, x7⟩))
        go_ret
        exact ⟨rfl, ((HY1.out.trans HYX.out).trans x5).trans x7⟩
end Go.Proofs.YtaioeailgknfjaaGreatDoor
