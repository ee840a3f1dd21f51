/- The walk of law05.ParseLong. -/
import Derived.Test.YtaioeailgknfjaaDoorLaw05a
import Derived.Test.YtaioeailgknfjaaDoorAw05
import Derived.Test.YtaioeailgknfjaaDoorAppend
namespace Go.Proofs.YtaioeailgknfjaaDoor
open Go Go.RowKit Go.Sort

theorem infoB5 : (Tryd.prog.info? 5).map (fun i => (i.zero, i.size, i.bytes)) = some (some (.int .u8 0), 1, 1) := by kernel_rfl
def rowB (j : Nat) : List Value := vby (il (bs (120 :: minusB j)))
theorem rowB_more (j : Nat) : rowB j ++ Lib.strCells ⟨#[32, 45, 32, 120]⟩ = rowB (j + 1) := by
  unfold rowB vby
  rw [minusB_more, ← List.cons_append, il_bs, il_bs, List.map_append, List.map_append]
  rfl
theorem ownsOr.row {w : World} {base n : Nat} {e : TypeId} {v : Value} {B : List UInt8} (h : ownsOr w base e v n (vby (il (bs B)))) (hl : B.length = n) (hn : n ≤ 1000000) : ∃ a c, v = .slice a n c ∧ n ≤ c ∧ c ≤ 9223372036854775807 ∧ IsBytes w B a n := by
  have hlv : n = (vby (il (bs B))).length := by rw [vby_il_length, bs_size]; exact hl.symm
  rcases h with h | ⟨hxl, hlt, rfl, holds⟩
  · rcases h.2 with ⟨rfl, rfl⟩ | ⟨g, cap, cur, rfl, hbg, hg, hnc, hcm, hcs, htake⟩
    · refine ⟨none, 0, rfl, Nat.le_refl _, by omega, hlv, fun i v hi => ?_⟩
      have : B = [] := List.eq_nil_of_length_eq_zero hl
      subst this
      simp [vby, il_bs] at hi
    · refine ⟨some ⟨g, 0, none⟩, cap, rfl, hnc, by unfold maxLen at hcm; omega, hlv, fun i v hi => ⟨g, 0, rfl, ?_⟩⟩
      have := h.cells (g := g) rfl i v hi
      rw [Addr.add_lit] at this
      exact this
  · refine ⟨some ⟨base, 0, none⟩, n, rfl, Nat.le_refl _, by omega, hlv, fun i v hi => ⟨base, 0, rfl, ?_⟩⟩
    rw [Nat.zero_add]
    exact holds i v hi
theorem row_term (j : Nat) (hj1 : 1 ≤ j) (hj2 : j ≤ 1999) (W : World) (a : Option Addr) (len cap : Nat) (h1 : len ≤ cap) (h2 : cap ≤ 9223372036854775807) (hr : IsBytes W (120 :: minusB j) a len) (hk : Knob W) :
    Calls Tryd.prog 11 #[.slice a len cap] W fun e w' => ∃ x y z s1 s2 s3 b o c, e = .returned (.tuple #[.agg #[.int .u8 9, .int .u8 x, .int .i64 y, .int .i64 z, .string s1, .string s2, .string s3, .slice (some ⟨b, o, none⟩) 2 c], .int .i64 0, .int .i64 0]) ∧ 2 ≤ c ∧ c ≤ 9223372036854775807 ∧ w'.cell? ⟨b, o + 8, none⟩ = some (.int .u8 2) ∧ b < w'.heap.size ∧ Ext W w' := by
  refine (parse_term _ _ _ len cap h1 h2 hr hk).mono ?_
  rintro e w' ⟨hx, hh⟩
  obtain ⟨h, t1, t2, hR, g9, g2⟩ := termR_row_ok j hj1 hj2
  obtain ⟨hk9, hop, hp, hn, hs1, hs2, hs3⟩ := h
  have g9 : hk9 = 9 := g9
  subst g9
  rw [hR] at hh
  obtain ⟨v, rfl, hT⟩ := hh
  obtain ⟨a, n, c, rfl, hf, q1, q2, hT⟩ := hT
  have hl := hT.length
  obtain rfl : n = 2 := hl
  obtain ⟨b, o, rfl, -, hB⟩ := hT.place (i := 1) (t := t2) rfl
  obtain ⟨xb, xk⟩ := t2
  obtain ⟨_, _, _, dB, -⟩ := hB.val
  have c0 := dB.c0
  have g2 : xb.k = 2 := g2
  rw [g2] at c0
  have c0' : w'.cell? ⟨b, o + 8, none⟩ = some (.int .u8 2) := by simpa using c0
  have hb := World.block_lt_of_cell? _ _ c0'
  exact ⟨_, _, _, _, _, _, b, o, c, rfl, q1, q2, c0', hb, hx⟩
theorem row_long (j : Nat) (hj1 : 2000 ≤ j) (hj2 : j ≤ 3000) (W : World) (a : Option Addr) (len cap : Nat) (h1 : len ≤ cap) (h2 : cap ≤ 9223372036854775807) (hr : IsBytes W (120 :: minusB j) a len) (hk : Knob W) :
    Calls Tryd.prog 11 #[.slice a len cap] W fun e w' => e = .returned (.tuple #[.agg #[.int .u8 0, .int .u8 0, .int .i64 0, .int .i64 0, .string ⟨#[]⟩, .string ⟨#[]⟩, .string ⟨#[]⟩, .slice none 0 0], .int .i64 8000, .int .i64 3]) ∧ Ext W w' := by
  refine (parse_term _ _ _ len cap h1 h2 hr hk).mono ?_
  rintro e w' ⟨hx, hh⟩
  rw [termR_row_long j hj1 hj2] at hh
  exact ⟨hh, hx⟩
set_option maxRecDepth 60000 in
set_option maxHeartbeats 4000000 in
theorem law05_long (m : Int) (k : Nat) (hm : m % 4 = k) (h4 : k < 4) (h0 : 0 ≤ m) (h1 : m ≤ 255) (w : World) (hk : Knob w) : Calls Tryd.prog 4 #[.int .u8 m] w (Yes5 w) := by
  have kc := fun (w : World) (C : Array Value) (n c : Nat) => Lib.run_convert_bytes_const (P := Tryd.prog) w 22 5 C n c Tryd.underlying22 Tryd.underlying5
  obtain ⟨i0, hi, hi0, hi1, hi2⟩ := info_parts infoB5
  have HI := Lib.hid (And.intro hi (And.intro hi0 (And.intro hi1 hi2)))
  have KA := Lib.hid fun (W : World) (h : Ext w W) => law05_awake W (hk.ext h)
  have HK := Lib.hid hk
  have HM := Lib.hid hm
  clear hi hi0 hi1 hi2 hk hm
  go_enter Tryd.func4, Tryd.ntmps4
  go_wp2_with fail
  rw [HM.out]
  go_loopg [4, 5] (1999 + k) (fun g s i wr => ∃ j : Nat, g = 1999 + k - j ∧ i = .int .i64 (2 * j) ∧ j ≤ 1999 + k ∧ ownsOr wr w.heap.size 5 s (1 + 4 * j) (rowB j) ∧ Ext w wr)
  case atStart =>
    refine ⟨0, rfl, rfl, Nat.zero_le _, .inr ⟨rfl, by simp, rfl, ?_⟩, by (repeat (first | (with_reducible assumption) | (with_reducible exact Ext.refl _) | (with_reducible refine Ext.alloc ?_ _) | (with_reducible refine Ext.drew ?_) | ((with_reducible refine Ext.setCell ?_ ?_ _); rotate_left 1; (first | (focus (simp; done)) | (focus (simp; omega)) | omega)) | exact Ext.refl _ | assumption | refine Ext.alloc ?_ _ | refine Ext.drew ?_ | refine Ext.setCell ?_ (by (first | (focus (simp; done)) | (focus (simp; omega)) | omega)) _ | refine Ext.trans ?_ (by assumption)))⟩
    intro j u h
    rw [World.cell?_alloc_mark]
    have e : rowB 0 = [.int .u8 120] := rfl
    rw [e] at h
    simpa using h
  case round =>
    obtain ⟨j, rfl, rfl, hj, hO, hx⟩ := hrel
    have hlj : (120 :: minusB j).length = 1 + 4 * j := by simp only [List.length_cons, minusB_length]; omega
    obtain ⟨sa, sc, rfl, hc1, hc2, hBB⟩ := ownsOr.row (B := 120 :: minusB j) hO hlj (by omega)
    have HO := Lib.hid hO
    have HBB := Lib.hid hBB
    clear hO hBB hlj
    by_cases hlt : j < 1999 + k
    · have hz4 : 2 * (j : Int) < 3998 + 2 * (k : Int) := by omega
      go_wp2_with (at_builtin; refine wpList_append_or rfl (.tmp 21) (.const (.string ⟨#[32, 45, 32, 120]⟩)) 22 9 ?r0 w.heap.size 5 i0 ?r1 ?r2 ?r3 ?r4 ?r5 ?r6 (.slice sa (1 + 4 * j) sc) (1 + 4 * j) (rowB j) ?r8 ?r9 ⟨#[32, 45, 32, 120]⟩ ?r10 ?r11 ?r12 ?r13 ?r17)
      case r0 => rfl
      case r1 => exact Tryd.underlying22
      case r2 => exact Tryd.underlying9
      case r3 => exact HI.out.1
      case r4 => exact HI.out.2.1
      case r5 => exact HI.out.2.2.1
      case r6 => exact HI.out.2.2.2
      case r8 => rfl
      case r9 => exact HO.out
      case r10 => rfl
      case r11 => decide
      case r12 => show 1 + 4 * j + 4 ≤ 1000000; omega
      case r13 => exact hx.size
      case r17 =>
        intro v9 w9 ho9 hX
        have hX9 := hX w hx (Nat.le_refl _)
        rw [rowB_more] at ho9
        have HO9 := Lib.hid ho9
        clear ho9 hX
        go_wp2_with fail
        go_roundg (1999 + k - (j + 1))
        case rel => exact ⟨j + 1, rfl, by go_num, by omega, .inl HO9.out, hX9⟩
        case measure => omega
    · have hz5 : ¬ 2 * (j : Int) < 3998 + 2 * (k : Int) := by omega
      by_cases hk0 : k = 0
      · subst hk0
        have hz6 : True := trivial
        have KT := Lib.hid (row_term j (by omega) (by omega) wr sa _ sc hc1 hc2 HBB.out (HK.out.ext hx))
        try clear hk0
        go_wp2_with (first | (go_at_call 11; refine (KT.out).mono ?_; rintro e w1 ⟨x, y, z, s1, s2, s3, b, o, c, rfl, g1, g2, q0, hb, x1⟩) | (go_at_call 12; refine (KA.out _ (by (repeat (first | (with_reducible assumption) | (with_reducible exact Ext.refl _) | (with_reducible refine Ext.alloc ?_ _) | (with_reducible refine Ext.drew ?_) | ((with_reducible refine Ext.setCell ?_ ?_ _); rotate_left 1; (first | (focus (simp; done)) | (focus (simp; omega)) | omega)) | exact Ext.refl _ | assumption | refine Ext.alloc ?_ _ | refine Ext.drew ?_ | refine Ext.setCell ?_ (by (first | (focus (simp; done)) | (focus (simp; omega)) | omega)) _ | refine Ext.trans ?_ (by assumption))))).mono ?_; rintro e w7 ⟨rfl, x7⟩))
        go_ret
        exact ⟨rfl, by (repeat (first | (with_reducible assumption) | (with_reducible exact Ext.refl _) | (with_reducible refine Ext.alloc ?_ _) | (with_reducible refine Ext.drew ?_) | ((with_reducible refine Ext.setCell ?_ ?_ _); rotate_left 1; (first | (focus (simp; done)) | (focus (simp; omega)) | omega)) | exact Ext.refl _ | assumption | refine Ext.alloc ?_ _ | refine Ext.drew ?_ | refine Ext.setCell ?_ (by (first | (focus (simp; done)) | (focus (simp; omega)) | omega)) _ | refine Ext.trans ?_ (by assumption)))⟩
      · have hz6 : (4000 : Int) < 3998 + 2 * (k : Int) + 1 := by omega
        have KT := Lib.hid (row_long j (by omega) (by omega) wr sa _ sc hc1 hc2 HBB.out (HK.out.ext hx))
        try clear hk0
        go_wp2_with (first | (go_at_call 11; refine (KT.out).mono ?_; rintro e w1 ⟨rfl, x1⟩) | (go_at_call 12; refine (KA.out _ (by (repeat (first | (with_reducible assumption) | (with_reducible exact Ext.refl _) | (with_reducible refine Ext.alloc ?_ _) | (with_reducible refine Ext.drew ?_) | ((with_reducible refine Ext.setCell ?_ ?_ _); rotate_left 1; (first | (focus (simp; done)) | (focus (simp; omega)) | omega)) | exact Ext.refl _ | assumption | refine Ext.alloc ?_ _ | refine Ext.drew ?_ | refine Ext.setCell ?_ (by (first | (focus (simp; done)) | (focus (simp; omega)) | omega)) _ | refine Ext.trans ?_ (by assumption))))).mono ?_; rintro e w7 ⟨rfl, x7⟩))
        go_ret
        exact ⟨rfl, by (repeat (first | (with_reducible assumption) | (with_reducible exact Ext.refl _) | (with_reducible refine Ext.alloc ?_ _) | (with_reducible refine Ext.drew ?_) | ((with_reducible refine Ext.setCell ?_ ?_ _); rotate_left 1; (first | (focus (simp; done)) | (focus (simp; omega)) | omega)) | exact Ext.refl _ | assumption | refine Ext.alloc ?_ _ | refine Ext.drew ?_ | refine Ext.setCell ?_ (by (first | (focus (simp; done)) | (focus (simp; omega)) | omega)) _ | refine Ext.trans ?_ (by assumption)))⟩
theorem law_parseLong (m : Int) (w : World) (h0 : 0 ≤ m) (h1 : m ≤ 255) (hk : Knob w) : Calls Tryd.prog 4 #[.int .u8 m] w (Yes5 w) := by
  obtain ⟨k, hm⟩ : ∃ k : Nat, m % 4 = k := ⟨(m % 4).toNat, by omega⟩
  exact law05_long m k hm (by omega) h0 h1 w hk
end Go.Proofs.YtaioeailgknfjaaDoor
