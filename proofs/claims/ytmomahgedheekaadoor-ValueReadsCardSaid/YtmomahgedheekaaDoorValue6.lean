/- The walk of value.Read, the texts of two and of three words; whole. -/
import Derived.Test.YtmomahgedheekaaDoorValue5
namespace Go.Proofs.YtmomahgedheekaaDoor
open Go Go.RowKit Go.Sort

theorem word_eq (a : List UInt8) (l : List UInt8) : ((bs a).toList == l) = decide (a = l) := by
  rw [ByteArray.toList_eq, bs_list, Bool.eq_iff_iff]
  simp

theorem two_not {a b : List UInt8} (h : ¬ a = [118, 97, 108, 117, 101]) : readW [a, b] = none := by
  unfold readW
  simp only
  rw [if_neg (show ¬ a = wValue from h)]
theorem two_none {a b : List UInt8} (h : numC b = none) : readW [a, b] = none := by
  unfold readW
  simp [h]
theorem two_some {a b : List UInt8} {n : Int} (ha : a = [118, 97, 108, 117, 101]) (h : numC b = some n) : readW [a, b] = some ⟨1, true, n, ByteArray.empty⟩ := by
  unfold readW
  simp only
  rw [if_pos (show a = wValue from ha), h]
  rfl
theorem three_not {a x b : List UInt8} (h : ¬ a = [117, 110, 99, 97, 117, 103, 104, 116]) : readW [a, x, b] = none := by
  unfold readW
  simp only
  rw [if_neg (show ¬ (a = wUncaught ∧ isExn (bs x) = true) from fun hh => h hh.1)]
theorem three_exn {a x b : List UInt8} (h : isExn (bs x) = false) : readW [a, x, b] = none := by
  unfold readW
  simp only
  rw [if_neg fun hh => by rw [h] at hh; cases hh.2]
theorem three_none {a x b : List UInt8} (h : numC b = none) : readW [a, x, b] = none := by
  unfold readW
  simp [h]
theorem three_some {a x b : List UInt8} {n : Int} (ha : a = [117, 110, 99, 97, 117, 103, 104, 116]) (hx : isExn (bs x) = true) (h : numC b = some n) : readW [a, x, b] = some ⟨2, false, n, bs x⟩ := by
  unfold readW
  simp only
  rw [if_pos (show a = wUncaught ∧ isExn (bs x) = true from ⟨ha, hx⟩), h]
  rfl

set_option maxRecDepth 8000 in
set_option maxHeartbeats 4000000 in
theorem value_read_two (s : ByteArray) (w : World) (a last : List UInt8) (hs : s.size ≤ 1000000) (hk : Knob w) (ht : Tab w) (he : Errs w) (h : ∀ k : Nat, 3 ≤ k → k < 7 → tFixed (k : Int) ≠ s.data.toList) (hc : cutL s.data.toList = [a, last]) :
    Calls Tryd.prog 38 #[.string s] w (RetR (readE s.data.toList) w) := by
  have hf := fixed_none h
  have HI := Lib.hid fun W a len cap h1 h2 (hr : IsRow W (vstr fixedT) a len) => strs_index s fixedT W a len cap h1 h2 hr
  rw [hf] at HI
  have KC := Lib.hid fun W (x : Ext w W) => strings_cut s W hs (hk.ext x)
  have hlast : (bs last).size ≤ 1000000 := by
    have := word_size (l := s.data.toList) (p := last) (by rw [hc]; simp)
    rw [list_size'] at this
    rw [bs_size]
    omega
  have KN := Lib.hid fun W (x : Ext w W) => value_number (bs last) W hlast (ht.ext x) (he.ext x)
  have HR := Lib.hid (read_none h)
  have HR' := Lib.hid (read_sign (s := s))
  rw [hc] at KC HR
  simp only [List.length_cons, List.length_nil, Nat.zero_add, Nat.reduceAdd] at KC
  have z1 : IntKind.i64.wrap 1 = 1 := by decide
  have hA := word_eq a [118, 97, 108, 117, 101]
  have HB := Lib.hid (bs_list last)
  clear hf h hlast hc
  cases h7 : (s.toList == [118, 97, 108, 117, 101, 32, 35])
  all_goals
    cases hv : ((bs a).toList == [118, 97, 108, 117, 101])
    all_goals
      have H7 := Lib.hid h7
      have HV := Lib.hid (hA.symm.trans hv)
      clear hA
      go_enter Tryd.func38, Tryd.ntmps38
      go_upto_region 6 with (first | (go_at_call 50; refine (value_fixed _).mono ?_; rintro e w1 ⟨rfl, x1, hr⟩; rw [World.size_alloc] at hr) | (go_at_call 71; refine (HI.out _ _ _ _ (by omega) (by omega) hr).mono ?_; rintro e w2 ⟨rfl, x2⟩) | (go_at_call 72; refine (KC.out _ (by (repeat (first | exact Ext.refl _ | assumption | refine Ext.alloc ?_ _ | refine Ext.drew ?_ | refine Ext.setCell ?_ (by first | (simp; done) | (simp; omega) | omega) _ | refine Ext.trans ?_ (by assumption))))).mono ?_; rintro e w3 ⟨rfl, hrow, x3⟩; have g0 := row_cell hrow 0 _ rfl; have g1 := row_cell hrow 1 _ rfl) | (go_at_call 73; refine (KN.out _ (by (repeat (first | exact Ext.refl _ | assumption | refine Ext.alloc ?_ _ | refine Ext.drew ?_ | refine Ext.setCell ?_ (by first | (simp; done) | (simp; omega) | omega) _ | refine Ext.trans ?_ (by assumption))))).mono ?_; rintro e w4 ⟨n, b, rfl, hn, x4⟩))
      rw [HB.out] at hn
      replace g0 := x4.cell g0
      replace g1 := x4.cell g1
      have hszB := x4.size
      have hszC := block_lt_of_cell g0
      simp only at hszC
      cases b
      all_goals
        first
          | have HN := Lib.hid (show numC last = some n by simpa using hn)
          | have HN := Lib.hid (show numC last = none by simpa using hn)
        clear hn
        obtain ⟨f0, f1, f2, f3, d0, d1, d2, d3, hsz, hst⟩ := slot4 (((x1.trans x2).trans x3).trans x4)
        go_wp2_with (first | (go_at_call 21; refine (value_other _).mono ?_; rintro e w5 ⟨rfl, x5⟩; obtain ⟨f0, f1, f2, f3, d0, d1, d2, d3, hsz, hst⟩ := slot4 ((((x1.trans x2).trans x3).trans x4).trans x5)) | (go_at_call 20; refine (value_int _ _).mono ?_; rintro e w5 ⟨rfl, x5⟩; obtain ⟨f0, f1, f2, f3, d0, d1, d2, d3, hsz, hst⟩ := slot4 ((((x1.trans x2).trans x3).trans x4).trans x5)))
        obtain ⟨r0, r1, r2, r3, xx⟩ := hst _ _ _ _ _ rfl
        have hv' := HV.out
        simp at hv'
        first
          | (exact bodyPost_ret (v := .tuple #[ev ⟨1, false, 0, ByteArray.empty⟩, .int .i64 0]) (by simp [results, Tryd.results38, go_sem, r0, r1, r2, r3] <;> rfl) rfl ⟨by rw [HR'.out H7.out]; rfl, xx⟩; done)
          | (refine bodyPost_ret (v := .tuple #[ev ⟨0, false, 0, ByteArray.empty⟩, .int .i64 2]) (by simp [results, Tryd.results38, go_sem, r0, r1, r2, r3] <;> rfl) rfl ⟨?_, xx⟩; rw [HR.out H7.out]; (first | rw [two_not hv'] | rw [two_none HN.out]); rfl)
          | (refine bodyPost_ret (v := .tuple #[ev ⟨1, true, n, ByteArray.empty⟩, .int .i64 0]) (by simp [results, Tryd.results38, go_sem, r0, r1, r2, r3] <;> rfl) rfl ⟨?_, xx⟩; rw [HR.out H7.out, two_some hv' HN.out]; rfl)
set_option maxRecDepth 8000 in
set_option maxHeartbeats 4000000 in
theorem value_read_three (s : ByteArray) (w : World) (a x last : List UInt8) (hs : s.size ≤ 1000000) (hk : Knob w) (ht : Tab w) (he : Errs w) (h : ∀ k : Nat, 3 ≤ k → k < 7 → tFixed (k : Int) ≠ s.data.toList) (hc : cutL s.data.toList = [a, x, last]) :
    Calls Tryd.prog 38 #[.string s] w (RetR (readE s.data.toList) w) := by
  have hf := fixed_none h
  have HI := Lib.hid fun W a len cap h1 h2 (hr : IsRow W (vstr fixedT) a len) => strs_index s fixedT W a len cap h1 h2 hr
  rw [hf] at HI
  have KC := Lib.hid fun W (x : Ext w W) => strings_cut s W hs (hk.ext x)
  have hlast : (bs last).size ≤ 1000000 := by
    have := word_size (l := s.data.toList) (p := last) (by rw [hc]; simp)
    rw [list_size'] at this
    rw [bs_size]
    omega
  have KN := Lib.hid fun W (x : Ext w W) => value_number (bs last) W hlast (ht.ext x) (he.ext x)
  have HR := Lib.hid (read_none h)
  have HR' := Lib.hid (read_sign (s := s))
  rw [hc] at KC HR
  simp only [List.length_cons, List.length_nil, Nat.zero_add, Nat.reduceAdd] at KC
  have z1 : IntKind.i64.wrap 2 = 2 := by decide
  have KX := Lib.hid fun W a (h : Ext w W) hr => words_exn [bs x] W a 1 1 (by omega) (by omega) (hk.ext h) hr
  rw [show [bs x].all isExn = isExn (bs x) from by simp] at KX
  have hA := word_eq a [117, 110, 99, 97, 117, 103, 104, 116]
  have HB := Lib.hid (bs_list last)
  clear hf h hlast hc
  cases h7 : (s.toList == [118, 97, 108, 117, 101, 32, 35])
  all_goals
    cases hxx : isExn (bs x) <;> cases hv : ((bs a).toList == [117, 110, 99, 97, 117, 103, 104, 116])
    all_goals
      have H7 := Lib.hid h7
      have HV := Lib.hid (hA.symm.trans hv)
      have HX := Lib.hid hxx
      rw [hxx] at KX
      clear hA
      go_enter Tryd.func38, Tryd.ntmps38
      go_upto_region 6 with (first | (go_at_call 50; refine (value_fixed _).mono ?_; rintro e w1 ⟨rfl, x1, hr⟩; rw [World.size_alloc] at hr) | (go_at_call 71; refine (HI.out _ _ _ _ (by omega) (by omega) hr).mono ?_; rintro e w2 ⟨rfl, x2⟩) | (go_at_call 72; refine (KC.out _ (by (repeat (first | exact Ext.refl _ | assumption | refine Ext.alloc ?_ _ | refine Ext.drew ?_ | refine Ext.setCell ?_ (by first | (simp; done) | (simp; omega) | omega) _ | refine Ext.trans ?_ (by assumption))))).mono ?_; rintro e w3 ⟨rfl, hrow, x3⟩; have g0 := row_cell hrow 0 _ rfl; have g1 := row_cell hrow 1 _ rfl; have g2 := row_cell hrow 2 _ rfl) | (go_at_call 73; refine (KN.out _ (by (repeat (first | exact Ext.refl _ | assumption | refine Ext.alloc ?_ _ | refine Ext.drew ?_ | refine Ext.setCell ?_ (by first | (simp; done) | (simp; omega) | omega) _ | refine Ext.trans ?_ (by assumption))))).mono ?_; rintro e w4 ⟨n, b, rfl, hn, x4⟩))
      rw [HB.out] at hn
      replace g0 := x4.cell g0
      replace g1 := x4.cell g1
      replace g2 := x4.cell g2
      have hszB := x4.size
      have hszC := block_lt_of_cell g0
      simp only at hszC
      cases b
      all_goals
        first
          | have HN := Lib.hid (show numC last = some n by simpa using hn)
          | have HN := Lib.hid (show numC last = none by simpa using hn)
        clear hn
        obtain ⟨f0, f1, f2, f3, d0, d1, d2, d3, hsz, hst⟩ := slot4 (((x1.trans x2).trans x3).trans x4)
        go_wp2_with (first | (go_at_call 21; refine (value_other _).mono ?_; rintro e w5 ⟨rfl, x5⟩; obtain ⟨f0, f1, f2, f3, d0, d1, d2, d3, hsz, hst⟩ := slot4 ((((x1.trans x2).trans x3).trans x4).trans x5)) | (go_at_call 70; refine (KX.out _ _ (by (repeat (first | exact Ext.refl _ | assumption | refine Ext.alloc ?_ _ | refine Ext.drew ?_ | refine Ext.setCell ?_ (by first | (simp; done) | (simp; omega) | omega) _ | refine Ext.trans ?_ (by assumption)))) (IsRow.new _ _ (vstr [bs x]))).mono ?_; rintro e w6 ⟨rfl, x6⟩; have y6 := (((((x1.trans x2).trans x3).trans x4).alloc _).trans x6); have g1' := ((Ext.refl w4).alloc _ |>.trans x6).cell g1; obtain ⟨f0, f1, f2, f3, d0, d1, d2, d3, hsz, hst⟩ := slot4 y6) | (go_at_call 22; refine (value_uncaught _ _ _).mono ?_; rintro e w5 ⟨rfl, x5⟩; obtain ⟨f0, f1, f2, f3, d0, d1, d2, d3, hsz, hst⟩ := slot4 (y6.trans x5)))
        obtain ⟨r0, r1, r2, r3, xx⟩ := hst _ _ _ _ _ rfl
        have hv' := HV.out
        simp at hv'
        first
          | (exact bodyPost_ret (v := .tuple #[ev ⟨1, false, 0, ByteArray.empty⟩, .int .i64 0]) (by simp [results, Tryd.results38, go_sem, r0, r1, r2, r3] <;> rfl) rfl ⟨by rw [HR'.out H7.out]; rfl, xx⟩; done)
          | (refine bodyPost_ret (v := .tuple #[ev ⟨0, false, 0, ByteArray.empty⟩, .int .i64 2]) (by simp [results, Tryd.results38, go_sem, r0, r1, r2, r3] <;> rfl) rfl ⟨?_, xx⟩; rw [HR.out H7.out]; (first | rw [three_not hv'] | rw [three_none HN.out] | rw [three_exn HX.out]); rfl)
          | (refine bodyPost_ret (v := .tuple #[ev ⟨2, false, n, bs x⟩, .int .i64 0]) (by simp [results, Tryd.results38, go_sem, r0, r1, r2, r3] <;> rfl) rfl ⟨?_, xx⟩; rw [HR.out H7.out, three_some hv' HX.out HN.out]; rfl)

theorem value_read (s : ByteArray) (w : World) (hs : s.size ≤ 1000000) (hk : Knob w) (ht : Tab w) (he : Errs w) : Calls Tryd.prog 38 #[.string s] w (RetR (readE s.data.toList) w) := by
  by_cases hf : ∃ k : Nat, k < 4 ∧ s.data.toList = tFixed (k + 3 : Nat)
  · obtain ⟨k, hk4, h⟩ := hf
    have := value_read_fixed s w k k rfl hk4 h
    rw [readE_fixed ((k + 3 : Nat) : Int) (by omega) (by omega) h]
    exact this
  · have h : ∀ k : Nat, 3 ≤ k → k < 7 → tFixed (k : Int) ≠ s.data.toList := fun k h3 h7 e => hf ⟨k - 3, by omega, by rw [← e]; congr 1; omega⟩
    obtain ⟨m, q, last, hS⟩ := Split.of s w hs
    by_cases h2 : m = 2
    · have hl := hS.len
      match hc : cutL s.data.toList, hl with
      | [a, b], _ => exact value_read_two s w a b hs hk ht he h hc
      | [], e => simp at e; omega
      | [_], e => simp at e; omega
      | _ :: _ :: _ :: _, e => simp at e; omega
    by_cases h3 : m = 3
    · have hl := hS.len
      match hc : cutL s.data.toList, hl with
      | [a, x, b], _ => exact value_read_three s w a x b hs hk ht he h hc
      | [], e => simp at e; omega
      | [_], e => simp at e; omega
      | [_, _], e => simp at e; omega
      | _ :: _ :: _ :: _ :: _, e => simp at e; omega
    exact value_read_more s w m q last hk ht he h hS h2 h3
end Go.Proofs.YtmomahgedheekaaDoor
