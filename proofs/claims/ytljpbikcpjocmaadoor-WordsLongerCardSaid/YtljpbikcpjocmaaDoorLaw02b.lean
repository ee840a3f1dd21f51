/- The walk of the law WordsLonger. -/
import Derived.Test.YtljpbikcpjocmaaDoorLaw02
import Derived.WalkSmall
namespace Go.Proofs.YtljpbikcpjocmaaDoor
open Go Go.RowKit Go.Sort

/-- A string of one byte. -/
theorem one_byte_of (w : World) (c : Int) (h0 : 0 ≤ c) (h1 : c ≤ 255) : (convert 27 9 (.slice (some ⟨w.heap.size, 0, none⟩) 1 1)).run Tryd.prog (w.alloc (.cells #[.int .u8 c] 5)) = .ok (.string (bs [UInt8.ofNat c.toNat])) (w.alloc (.cells #[.int .u8 c] 5)) := by
  have h := run_convert_bytes_arg (P := Tryd.prog) (w := w.alloc (.cells #[.int .u8 c] 5)) 27 5 Tryd.underlying27 Tryd.underlying5 w.heap.size 0 1 1 [c] rfl (fun i hi => by
    obtain rfl : i = 0 := by omega
    simp [go_sem]) 9 Tryd.underlying9
  rw [h]
  rfl
theorem il_append (s t : ByteArray) : il (s ++ t) = il s ++ il t := by simp [il]
theorem il_one (c : Int) (h0 : 0 ≤ c) (h1 : c ≤ 255) : il (bs [UInt8.ofNat c.toNat]) = [c] := by
  simp only [il, bs_list, List.map_cons, List.map_nil, UInt8.toNat_ofNat']
  have : ((c.toNat % 2 ^ 8 : Nat) : Int) = c := by omega
  rw [this]

set_option maxHeartbeats 4000000 in
theorem law_wordsLonger (s : ByteArray) (c : Int) (w : World) (_ : s.size ≤ maxLen) (h0 : 0 ≤ c) (h255 : c ≤ 255) (hk : Knob w) :
    Calls Tryd.prog 4 #[.string s, .int .u8 c] w (Yes w) := by
  have KA := Lib.hid fun W (h : Ext w W) => law02_awake W (hk.ext h)
  by_cases h100 : 100 < s.size
  · have hd : decide ((100 : Int) < (s.size : Int)) = true := by simp; omega
    go_enter Tryd.func4, Tryd.ntmps4
    go_wp2_with (go_at_call 13; refine (KA.out _ (Ext.refl _)).mono ?_; rintro e w2 ⟨rfl, x2⟩)
    go_ret
    exact ⟨rfl, x2⟩
  have hd : decide ((100 : Int) < (s.size : Int)) = false := by simp; omega
  have hb := one_byte_of w c h0 h255
  have hlet := inner_iff c
  obtain ⟨L, hL⟩ : ∃ L, L = inner c := ⟨_, rfl⟩
  obtain ⟨x, hx⟩ : ∃ x, x = bs [UInt8.ofNat c.toNat] := ⟨_, rfl⟩
  rw [← hx] at hb
  have hxs : x.size = 1 := by rw [hx, bs_size]; rfl
  have hsum : ¬ 9223372036854775807 < s.size + x.size := by omega
  have hsum2 : s.size + x.size ≤ 9223372036854775807 := by omega
  have HN : Hid (isName s = true → isName (s ++ x) = (L && decide ((s ++ x).size ≤ 16) && (kwd (s ++ x) == 0))) := by
    intro h
    unfold isName at h ⊢
    rw [Bool.and_eq_true] at h
    rw [il_append, hx, il_one c h0 h255, shapely_snoc c h.1, ← hL, ← il_one c h0 h255, ← il_append, il_length]
  have HE : Hid (isExn s = true → isExn (s ++ x) = (L && decide ((s ++ x).size ≤ 16))) := by
    intro h
    unfold isExn at h ⊢
    rw [il_append, hx, il_one c h0 h255, shapely_snoc c h, ← hL, ← il_one c h0 h255, ← il_append, il_length]
  have K1 := Lib.hid fun W a h hr => words_name [s] W a 1 1 (by omega) (by omega) h hr
  have K2 := Lib.hid fun W a h hr => words_name [s ++ x] W a 1 1 (by omega) (by omega) h hr
  have K3 := Lib.hid fun W a h hr => words_exn [s] W a 1 1 (by omega) (by omega) h hr
  have K4 := Lib.hid fun W a h hr => words_exn [s ++ x] W a 1 1 (by omega) (by omega) h hr
  have K5 := Lib.hid fun W h => words_keyword (s ++ x) W h
  rw [show [s].all isName = isName s from by simp] at K1
  rw [show [s ++ x].all isName = isName (s ++ x) from by simp] at K2
  rw [show [s].all isExn = isExn s from by simp] at K3
  rw [show [s ++ x].all isExn = isExn (s ++ x) from by simp] at K4
  have HLT : Hid (L = (((decide (48 ≤ c) && decide (c ≤ 57)) || (decide (97 ≤ c) && decide (c ≤ 122))) || (decide (65 ≤ c) && decide (c ≤ 90)))) := hL.trans hlet
  have hadd := run_string_add_sum (P := Tryd.prog) w s x hsum2
  obtain ⟨y, hy⟩ : ∃ y, s ++ x = y := ⟨_, rfl⟩
  rw [hy] at HN HE K2 K4 K5
  have HY := Lib.hid hy
  clear hlet hL hx hxs h100 hy
  go_enter Tryd.func4, Tryd.ntmps4
  go_upto_region 4 with fail
  go_cut [5, 6] (fun t b wx => t = .string y ∧ b = .bool L ∧ Ext w wx)
  case first =>
    clear hadd hsum hsum2 hb hd HN HE K1 K2 K3 K4 K5 KA
    go_wp2_with fail
    all_goals
      go_meet
      refine ⟨by rw [← HY.out], congrArg Value.bool ?_, (Ext.refl _).alloc _⟩
      rw [HLT.out, Bool.eq_iff_iff]
      simp only [Bool.or_eq_true, Bool.and_eq_true, decide_eq_true_eq, Bool.false_eq_true, true_iff, iff_true, false_iff, iff_false, eq_self_iff_true]
      omega
  case rest =>
    obtain ⟨rfl, rfl, x0⟩ := hcut
    have cases : (isName s = false) ∨ (isName s = true ∧ L = false ∧ isName y = false) ∨ (isName s = true ∧ L = true ∧ decide ((y.size : Int) ≤ 16) = false ∧ isName y = false) ∨ (isName s = true ∧ L = true ∧ decide ((y.size : Int) ≤ 16) = true ∧ ((kwd y : Int) == 0) = false ∧ isName y = false) ∨ (isName s = true ∧ L = true ∧ decide ((y.size : Int) ≤ 16) = true ∧ ((kwd y : Int) == 0) = true ∧ isName y = true) := by
      cases hn : isName s
      · exact .inl rfl
      have := HN.out hn
      rw [nat_beq_zero]
      have e : decide ((y.size : Int) ≤ 16) = decide (y.size ≤ 16) := by simp; omega
      rw [e]
      cases hl : L <;> cases h16 : decide (y.size ≤ 16) <;> cases hk : kwd y == 0 <;> rw [hl, h16, hk] at this <;> simp [this]
    have casee : (isExn s = false) ∨ (isExn s = true ∧ L = false ∧ isExn y = false) ∨ (isExn s = true ∧ L = true ∧ decide ((y.size : Int) ≤ 16) = false ∧ isExn y = false) ∨ (isExn s = true ∧ L = true ∧ decide ((y.size : Int) ≤ 16) = true ∧ isExn y = true) := by
      cases hn : isExn s
      · exact .inl rfl
      have := HE.out hn
      have e : decide ((y.size : Int) ≤ 16) = decide (y.size ≤ 16) := by simp; omega
      rw [e]
      cases hl : L <;> cases h16 : decide (y.size ≤ 16) <;> rw [hl, h16] at this <;> simp [this]
    clear HN HE HLT hadd hb
    generalize isName s = ns at *
    generalize isExn s = es at *
    generalize isName y = ny at *
    generalize isExn y = ey at *
    rcases cases with rfl | ⟨rfl, rfl, rfl⟩ | ⟨rfl, rfl, A, rfl⟩ | ⟨rfl, rfl, A, B, rfl⟩ | ⟨rfl, rfl, A, B, rfl⟩ <;> rcases casee with rfl | ⟨rfl, C, rfl⟩ | ⟨rfl, C, D, rfl⟩ | ⟨rfl, C, D, rfl⟩
    all_goals first
      | (exfalso; first | exact absurd C (by decide) | exact absurd (A.symm.trans D) (by decide))
      | skip
    all_goals try subst C
    all_goals
      go_wp2_with fail
      refine (K1.out _ _ (hk.ext (x0.trans ((Ext.refl _).alloc _))) (row_one _ _ _)).mono ?_
      rintro e w1 ⟨rfl, x1⟩
      have y1 := x0.trans (((Ext.refl _).alloc _).trans x1)
      go_wp2_with (first | (go_at_call 16; refine (K2.out _ _ (hk.ext (y1.trans ((Ext.refl _).alloc _))) (row_one _ _ _)).mono ?_; rintro e w2 ⟨rfl, x2⟩; have y2 := y1.trans (((Ext.refl _).alloc _).trans x2)) | (go_at_call 18; refine (K5.out _ (hk.ext y2)).mono ?_; rintro e w3 ⟨rfl, x3⟩; have y3 := y2.trans x3))
    all_goals
      refine (K3.out _ _ (hk.ext (Ext.alloc (by first | exact y3 | exact y2 | exact y1) _)) (row_one _ _ _)).mono ?_
      rintro e w4 ⟨rfl, x4⟩
      have y4 : Ext w w4 := Ext.trans (Ext.alloc (by first | exact y3 | exact y2 | exact y1) _) x4
      go_wp2_with (first | (go_at_call 17; refine (K4.out _ _ (hk.ext (y4.trans ((Ext.refl _).alloc _))) (row_one _ _ _)).mono ?_; rintro e w5 ⟨rfl, x5⟩; have y5 := y4.trans (((Ext.refl _).alloc _).trans x5)) | (go_at_call 13; refine (KA.out _ (by first | exact y5 | exact y4)).mono ?_; rintro e w6 ⟨rfl, x6⟩))
      go_ret
      exact ⟨rfl, Ext.trans (by first | exact y5 | exact y4) x6⟩
end Go.Proofs.YtljpbikcpjocmaaDoor
