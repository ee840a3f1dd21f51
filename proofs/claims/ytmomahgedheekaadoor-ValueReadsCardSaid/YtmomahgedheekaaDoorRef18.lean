/- The walks of enclaveref18: ends, their texts. -/
import Derived.Test.YtmomahgedheekaaDoorRef02b
import Derived.Test.YtmomahgedheekaaDoorWordsN
import Derived.Test.YtmomahgedheekaaDoorDigits
import Derived.Test.YtmomahgedheekaaDoorPureM
import Derived.Test.YtmomahgedheekaaDoorRowMem
import Derived.Laws.StructEq
namespace Go.Proofs.YtmomahgedheekaaDoor
open Go Go.RowKit Go.Sort

theorem empty_beq : (ByteArray.empty.toList.isEmpty) = true := by rw [ByteArray.toList_eq]; rfl

set_option maxHeartbeats 2000000 in
theorem ref18_may (k : Int) (i : Bool) (n : Int) (x : ByteArray) (w : World) (h0 : 0 ≤ k) (h1 : k ≤ 255) :
    Calls Tryd.prog 17 #[.agg #[.int .u8 k, .bool i, .int .i64 n, .string x]] w fun e w' => e = .returned (.bool (En.may ⟨k, i, n, x⟩)) ∧ Ext w w' := by
  have KE := Lib.hid fun W => ref_exn x W
  have HE : Hid (En.may ⟨k, i, n, x⟩ = if k = 1 then (i || decide (n = 0)) && x.toList.isEmpty else if k = 2 then !i && isExn x else decide (3 ≤ k) && (decide (k ≤ 6) && (!i && (decide (n = 0) && x.toList.isEmpty)))) := rfl
  have hc : (k = 0) ∨ (6 < k) ∨ k = 1 ∨ k = 2 ∨ (3 ≤ k ∧ k ≤ 6) := by omega
  rcases hc with rfl | hc | rfl | rfl | ⟨hc, hc'⟩
  · go_enter Tryd.func17, Tryd.ntmps17
    go_wp2_with fail
    go_ret
    exact ⟨ret_bool (by rw [HE.out]; simp), by (repeat (first | exact Ext.refl _ | assumption | refine Ext.alloc ?_ _ | refine Ext.drew ?_ | refine Ext.setCell ?_ (by first | (simp; done) | (simp; omega) | omega) _ | refine Ext.trans ?_ (by assumption)))⟩
  · have d1 : decide (k < 1) = false := by simp; omega
    have d2 : decide (6 < k) = true := by simp; omega
    go_enter Tryd.func17, Tryd.ntmps17
    go_wp2_with fail
    go_ret
    exact ⟨ret_bool (by rw [HE.out, if_neg (by omega), if_neg (by omega)]; simp; omega), by (repeat (first | exact Ext.refl _ | assumption | refine Ext.alloc ?_ _ | refine Ext.drew ?_ | refine Ext.setCell ?_ (by first | (simp; done) | (simp; omega) | omega) _ | refine Ext.trans ?_ (by assumption)))⟩
  · cases hn : (n == 0) <;> cases i <;> by_cases hz : x = ByteArray.empty
    all_goals
      first | subst hz | have hb := not_empty_of hz
      have HN := Lib.hid hn
      go_enter Tryd.func17, Tryd.ntmps17
      go_wp2_with fail
      go_ret
      refine ⟨ret_bool ?_, by (repeat (first | exact Ext.refl _ | assumption | refine Ext.alloc ?_ _ | refine Ext.drew ?_ | refine Ext.setCell ?_ (by first | (simp; done) | (simp; omega) | omega) _ | refine Ext.trans ?_ (by assumption)))⟩
      rw [HE.out]
      have hn' := HN.out
      first | rw [beq_iff_eq] at hn' | rw [beq_eq_false_iff_ne] at hn'
      first | (simp only [hb]; simp [hn']; done) | (simp only [empty_beq]; simp [hn']; done)
  · cases i
    all_goals
      go_enter Tryd.func17, Tryd.ntmps17
      go_wp2_with (go_at_call 47; refine (KE.out _).mono ?_; rintro e w1 ⟨rfl, x1⟩)
      go_ret
      exact ⟨ret_bool (by rw [HE.out]; simp), by (repeat (first | exact Ext.refl _ | assumption | refine Ext.alloc ?_ _ | refine Ext.drew ?_ | refine Ext.setCell ?_ (by first | (simp; done) | (simp; omega) | omega) _ | refine Ext.trans ?_ (by assumption)))⟩
  · have d1 : decide (k < 1) = false := by simp; omega
    have d2 : decide (6 < k) = false := by simp; omega
    have d3 : (k == 2) = false := beq_false_of_ne (by omega)
    have d4 : (k == 1) = false := beq_false_of_ne (by omega)
    have HD := Lib.hid (show decide (3 ≤ k) = true ∧ decide (k ≤ 6) = true ∧ k ≠ 1 ∧ k ≠ 2 from ⟨by simp; omega, by simp; omega, by omega, by omega⟩)
    clear hc hc'
    cases hn : (n == 0) <;> cases i <;> by_cases hz : x = ByteArray.empty
    all_goals
      first | subst hz | have hb := not_empty_of hz
      have HN := Lib.hid hn
      go_enter Tryd.func17, Tryd.ntmps17
      go_wp2_with fail
      go_ret
      refine ⟨ret_bool ?_, by (repeat (first | exact Ext.refl _ | assumption | refine Ext.alloc ?_ _ | refine Ext.drew ?_ | refine Ext.setCell ?_ (by first | (simp; done) | (simp; omega) | omega) _ | refine Ext.trans ?_ (by assumption)))⟩
      obtain ⟨e1, e2, e3, e4⟩ := HD.out
      rw [HE.out, if_neg e3, if_neg e4, e1, e2]
      have hn' := HN.out
      first | rw [beq_iff_eq] at hn' | rw [beq_eq_false_iff_ne] at hn'
      first | (simp only [hb]; simp [hn']; done) | (simp only [empty_beq]; simp [hn']; done)

theorem text_stuck {k : Int} {i : Bool} {n : Int} {x : ByteArray} (d1 : (k == 1) = false) (d2 : (k == 2) = false) (d3 : (k == 3) = false) (d4 : (k == 4) = false) (d5 : (k == 5) = false) : bs (En.text ⟨k, i, n, x⟩) = ⟨#[115, 116, 117, 99, 107]⟩ := by
  simp only [beq_eq_false_iff_ne, ne_eq] at d1 d2 d3 d4 d5
  unfold En.text tFixed
  simp only [d1, d2, d3, d4, d5, if_false]
  rfl
theorem itoa_len {n : Int} (n0 : -9223372036854775808 ≤ n) (n1 : n ≤ 9223372036854775807) : (bs (Lib.itoa n)).size ≤ 20 := by
  have hd := decDigits_len n.natAbs (by omega)
  rw [bs_size]
  by_cases hn : n < 0
  · rw [itoa_neg hn]; simp; omega
  · rw [itoa_pos (by omega), show n.toNat = n.natAbs by omega]; omega
set_option maxHeartbeats 2000000 in
theorem ref18_text (k : Int) (i : Bool) (n : Int) (x : ByteArray) (w : World) (h0 : 0 ≤ k) (h1 : k ≤ 255) (n0 : -9223372036854775808 ≤ n) (n1 : n ≤ 9223372036854775807) (hx : x.size ≤ 1000000) :
    Calls Tryd.prog 39 #[.agg #[.int .u8 k, .bool i, .int .i64 n, .string x]] w fun e w' => e = .returned (.string (bs (En.text ⟨k, i, n, x⟩))) ∧ Ext w w' := by
  have KD := Lib.hid fun W => ref_digits n W n0 n1
  have hlen := itoa_len n0 n1
  have o1 : ¬ 9223372036854775807 < 6 + (bs (Lib.itoa n)).size := by omega
  have o2 : ¬ 9223372036854775807 < 9 + x.size := by omega
  have o3 : ¬ 9223372036854775807 < 9 + x.size + 1 := by omega
  have o4 : ¬ 9223372036854775807 < 9 + x.size + 1 + (bs (Lib.itoa n)).size := by omega
  clear n0 n1 hlen
  have hc : k = 1 ∨ k = 2 ∨ k = 3 ∨ k = 4 ∨ k = 5 ∨ ((k == 1) = false ∧ (k == 2) = false ∧ (k == 3) = false ∧ (k == 4) = false ∧ (k == 5) = false) := by
    simp only [beq_eq_false_iff_ne]
    omega
  rcases hc with rfl | rfl | rfl | rfl | rfl | ⟨d1, d2, d3, d4, d5⟩
  · have HT : Hid (bs (En.text ⟨1, true, n, x⟩) = ⟨#[118, 97, 108, 117, 101, 32]⟩ ++ bs (Lib.itoa n)) := by
      show _ = _
      rw [text_num, show (⟨#[118, 97, 108, 117, 101, 32]⟩ : ByteArray) = bs tValue from rfl, bs_append]
    have HF : Hid (bs (En.text ⟨1, false, n, x⟩) = ⟨#[118, 97, 108, 117, 101, 32, 35]⟩) := by
      show _ = _
      rw [text_other]; rfl
    cases i
    · go_enter Tryd.func39, Tryd.ntmps39
      go_wp2_with fail
      go_ret
      exact ⟨by rw [HF.out]; rfl, by (repeat (first | exact Ext.refl _ | assumption | refine Ext.alloc ?_ _ | refine Ext.drew ?_ | refine Ext.setCell ?_ (by first | (simp; done) | (simp; omega) | omega) _ | refine Ext.trans ?_ (by assumption)))⟩
    · go_enter Tryd.func39, Tryd.ntmps39
      go_wp2_with (go_at_call 74; refine (KD.out _).mono ?_; rintro e w1 ⟨rfl, x1⟩)
      go_ret
      exact ⟨by rw [HT.out]; rfl, by (repeat (first | exact Ext.refl _ | assumption | refine Ext.alloc ?_ _ | refine Ext.drew ?_ | refine Ext.setCell ?_ (by first | (simp; done) | (simp; omega) | omega) _ | refine Ext.trans ?_ (by assumption)))⟩
  · have HT : Hid (bs (En.text ⟨2, i, n, x⟩) = (⟨#[117, 110, 99, 97, 117, 103, 104, 116, 32]⟩ ++ x) ++ ⟨#[32]⟩ ++ bs (Lib.itoa n)) := by
      show _ = _
      rw [text_unc, show (⟨#[117, 110, 99, 97, 117, 103, 104, 116, 32]⟩ : ByteArray) = bs tUncaught from rfl, show (⟨#[32]⟩ : ByteArray) = bs [32] from rfl]
      conv => rhs; rw [bs_of x]
      rw [bs_append, bs_append, bs_append]
      simp
    go_enter Tryd.func39, Tryd.ntmps39
    go_wp2_with fail
    have bx := box_regrown w
    have cD := quiet_ext (w := w.alloc (.cells #[.int .u8 2, .bool i, .int .i64 n, .string x] 23)) fun w1 _ => KD.out w1
    refine wp_region_quiet_below (by kernel_rfl) (by kernel_rfl) ?_
    repeat (go_big_quiet_step (exact cD _ _))
    refine wpQuiet_nil ?_
    intro w1 hq_w1
    have x1 := ext_of_regrown hq_w1
    clear hq_w1
    go_wp2_with fail
    go_ret
    exact ⟨by rw [HT.out]; rfl, by (repeat (first | exact Ext.refl _ | assumption | refine Ext.alloc ?_ _ | refine Ext.drew ?_ | refine Ext.setCell ?_ (by first | (simp; done) | (simp; omega) | omega) _ | refine Ext.trans ?_ (by assumption)))⟩
  all_goals
    go_enter Tryd.func39, Tryd.ntmps39
    go_wp2_with fail
    go_ret
    refine ⟨?_, by (repeat (first | exact Ext.refl _ | assumption | refine Ext.alloc ?_ _ | refine Ext.drew ?_ | refine Ext.setCell ?_ (by first | (simp; done) | (simp; omega) | omega) _ | refine Ext.trans ?_ (by assumption)))⟩
    first | rfl | (rw [text_stuck d1 d2 d3 d4 d5]; rfl)

/-- What a call that tells a number hands back. -/
def RetM (l : List UInt8) (w : World) (e : Ending) (w' : World) : Prop := ∃ n b, e = .returned (.tuple #[.int .i64 n, .bool b]) ∧ (-9223372036854775808 ≤ n ∧ n ≤ 9223372036854775807) ∧ numC l = (if b = true then some n else none) ∧ Ext w w'
theorem cmp_bs (l : List UInt8) (s : ByteArray) : ((bs l).toList == s.toList) = decide (l = s.data.toList) := by
  rw [ByteArray.toList_eq, ByteArray.toList_eq, bs_list, Bool.eq_iff_iff]
  simp
theorem wrap_eq (n : Int) : wrap64 n = IntKind.i64.wrap n := by
  unfold wrap64
  simp only [IntKind.wrap, IntKind.bits, IntKind.signed]
  simp
  split <;> omega
theorem wrap64_bd (n : Int) : -9223372036854775808 ≤ wrap64 n ∧ wrap64 n ≤ 9223372036854775807 := by unfold wrap64; omega
theorem low_cases (s : ByteArray) : ∃ lw : Bool, (low s.data.toList = if lw = true then 1 else 0) ∧ ((s = ByteArray.empty ∧ lw = false) ∨ (∃ h : 0 < s.size, decide ((0 : Int) < (s.size : Int)) = true ∧ ((((s[0]'h).toNat : Nat) : Int) == 45) = lw)) := by
  by_cases h : 0 < s.size
  · refine ⟨_, ?_, .inr ⟨h, decide_eq_true (by omega), rfl⟩⟩
    unfold low
    rw [head_at s h]
    by_cases e : s[0] = 45
    · simp [e]
    · have : s[0].toNat ≠ 45 := fun h' => e (UInt8.toNat_inj.1 (by rw [h']; rfl))
      have e2 : ((((s[0]'h).toNat : Nat) : Int) == 45) = false := by rw [beq_eq_false_iff_ne]; omega
      rw [e2]
      simp [e]
  · refine ⟨false, ?_, .inl ⟨ByteArray.size_eq_zero_iff.1 (by omega), rfl⟩⟩
    have : s.data.toList = [] := List.eq_nil_of_length_eq_zero (by rw [list_size]; omega)
    rw [this]
    rfl

set_option maxHeartbeats 4000000 in
theorem ref18_number (s : ByteArray) (w : World) (hs : s.size ≤ 1000000) : Calls Tryd.prog 76 #[.string s] w (RetM s.data.toList w) := by
  obtain ⟨lw, hlow, hcase⟩ := low_cases s
  have HL := Lib.hid hlow
  have HLS := Lib.hid (list_size s)
  clear hlow
  go_enter Tryd.func76, Tryd.ntmps76
  go_upto_region 1 with fail
  go_cut [4] (fun x wx => x = .bool lw ∧ w = wx)
  case first =>
    rcases hcase with ⟨rfl, rfl⟩ | ⟨hpos, d0, d1⟩
    · go_wp2_with fail
      go_meet
      exact ⟨rfl, rfl⟩
    · cases lw
      all_goals
        go_wp2_with fail
        go_meet
        exact ⟨rfl, rfl⟩
  case rest =>
  clear hcase
  obtain ⟨rfl, rfl⟩ := hcut
  go_wp2_with fail
  go_loopg [5, 6] s.size (fun g n i wr => ∃ (j : Nat) (v : Int), g = s.size - j ∧ j ≤ s.size ∧ i = .int .i64 j ∧ n = .int .i64 v ∧ readAt s.data.toList j v ∧ wr = w)
  case atStart => exact ⟨0, 0, by omega, by omega, rfl, rfl, readAt_zero _, rfl⟩
  case round =>
    obtain ⟨j, v, rfl, hj, rfl, rfl, hr, rfl⟩ := hrel
    have HR := Lib.hid hr
    clear hr
    by_cases hlt : j < s.size
    · have hstep : (((j : Int) == 0) = true ∧ lw = true ∧ j = 0) ∨ (((j : Int) == 0) = true ∧ lw = false ∧ low s.data.toList ≤ j) ∨ (((j : Int) == 0) = false ∧ low s.data.toList ≤ j) := by
        have := HL.out
        by_cases h0 : j = 0
        · subst h0
          cases lw
          · exact .inr (.inl ⟨rfl, rfl, by simp at this; omega⟩)
          · exact .inl ⟨rfl, rfl, rfl⟩
        · refine .inr (.inr ⟨beq_false_of_ne (by omega), ?_⟩)
          rw [this]
          split <;> omega
      have hat : s.data.toList[j]? = some s[j] := by
        rw [List.getElem?_eq_getElem (by rw [list_size]; exact hlt)]
        rfl
      rcases hstep with ⟨A, rfl, h0⟩ | ⟨A, rfl, ho⟩ | ⟨A, ho⟩
      · have HR2 : Hid (readAt s.data.toList (j + 1) v) := by
          subst h0
          have := HL.out
          simp at this
          exact readAt_sign HR.out this
        clear h0 hat
        go_wp2_with fail
        go_roundg (s.size - (j + 1))
        case rel => exact ⟨j + 1, v, rfl, by omega, by go_num, rfl, HR2.out, rfl⟩
        case measure => omega
      all_goals
        have hbb := byte_bound s[j]
        have hDI := isD_iff s[j]
        have hstop := readAt_stop (l := s.data.toList) hat ho
        have hgo := fun hd => readAt_step HR.out hat ho hd
        rw [HLS.out] at hstop
        obtain ⟨c, hc⟩ : ∃ c : Nat, c = s[j].toNat := ⟨_, rfl⟩
        rw [← hc] at hDI hgo
        have hcb : c ≤ 255 := by have := s[j].toNat_lt; omega
        have cases : (decide ((c : Int) < 48) = true ∧ numC s.data.toList = none) ∨ (decide ((c : Int) < 48) = false ∧ decide ((57 : Int) < (c : Int)) = true ∧ numC s.data.toList = none) ∨ (decide ((c : Int) < 48) = false ∧ decide ((57 : Int) < (c : Int)) = false ∧ decide ((20 : Int) < (s.size : Int)) = true ∧ numC s.data.toList = none)
            ∨ (decide ((c : Int) < 48) = false ∧ decide ((57 : Int) < (c : Int)) = false ∧ decide ((20 : Int) < (s.size : Int)) = false ∧ 48 ≤ c ∧ c ≤ 57 ∧ readAt s.data.toList (j + 1) (IntKind.i64.wrap (IntKind.i64.wrap (10 * v) - ((c : Nat) - 48 : Int)))) := by
          by_cases a1 : c < 48
          · exact .inl ⟨by simp; omega, hstop fun h => by have := hDI.1 h.1; omega⟩
          by_cases a2 : 57 < c
          · exact .inr (.inl ⟨by simp; omega, by simp; omega, hstop fun h => by have := hDI.1 h.1; omega⟩)
          by_cases a3 : 20 < s.size
          · exact .inr (.inr (.inl ⟨by simp; omega, by simp; omega, by simp; omega, hstop fun h => by omega⟩))
          · exact .inr (.inr (.inr ⟨by simp; omega, by simp; omega, by simp; omega, by omega, by omega, hgo (hDI.2 ⟨by omega, by omega⟩)⟩))
        have ec : ((s[j].toNat : Nat) : Int) = (c : Int) := by rw [hc]
        clear hstop hgo hDI hbb hc hat ho
        rcases cases with ⟨B, H⟩ | ⟨B, C, H⟩ | ⟨B, C, D, H⟩ | ⟨B, C, D, c1, c2, H⟩
        case' inr.inr.inr =>
          have HN := Lib.hid H
          clear H
          have hsub : (0 : Int) ≤ (c : Int) - 48 := by omega
          go_wp2_with fail
          go_roundg (s.size - (j + 1))
          case rel => exact ⟨j + 1, _, rfl, by omega, by go_num, rfl, by rw [wrap_eq, wrap_eq]; exact HN.out, rfl⟩
          case measure => omega
        all_goals
          have HN := Lib.hid H
          clear H
          go_wp2_with fail
          go_ret2
          exact ⟨0, false, rfl, by omega, by rw [HN.out]; rfl, Ext.refl _⟩
    · obtain rfl : j = s.size := by omega
      have HE : Hid (∀ v', v' = (if low s.data.toList = 1 then v else IntKind.i64.wrap (-v)) → (-9223372036854775808 ≤ v' ∧ v' ≤ 9223372036854775807) ∧ numC s.data.toList = if Lib.itoa v' = s.data.toList then some v' else none) := by
        show _
        intro v' hv'
        refine readAt_end (n := v) ?_ hv'
        rw [HLS.out]
        exact HR.out
      have hb := HR.out.1
      cases lw
      all_goals
        go_wp2_with (go_at_call 74; refine (ref_digits _ _ (by first | exact hb.1 | exact (wrap64_bd _).1) (by first | exact hb.2 | exact (wrap64_bd _).2)).mono ?_; rintro e w2 ⟨rfl, x2⟩)
        go_ret2
        first
          | (have h := HE.out v (by rw [HL.out]; rfl); exact ⟨v, _, rfl, h.1, by rw [h.2, cmp_bs]; simp, x2⟩)
          | (have h := HE.out (wrap64 (-v)) (by rw [HL.out, wrap_eq]; rfl); exact ⟨wrap64 (-v), _, rfl, h.1, by rw [h.2, cmp_bs]; simp, x2⟩)
end Go.Proofs.YtmomahgedheekaaDoor
