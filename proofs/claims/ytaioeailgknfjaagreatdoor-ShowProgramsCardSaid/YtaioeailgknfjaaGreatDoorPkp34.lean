/- Part 34 of the proof: Ref02; no condition of ours. -/
import Derived.Test.YtaioeailgknfjaaGreatDoorPkp1
set_option linter.unusedVariables false
set_option linter.unusedSimpArgs false
namespace Go.Proofs.YtaioeailgknfjaaGreatDoor
open Go.Lib (hid)
open Go Go.RowKit Go.Sort
set_option maxHeartbeats 1000000 in
theorem ref_class (c : Int) (w : World) (h0 : 0 ≤ c) (h1 : c ≤ 255) :
    Calls Tryz.prog 32 #[.int .u8 c] w fun e w' => e = .returned (.int .u8 (cls c)) ∧ Ext w w' := by
  obtain ⟨k, hk⟩ : ∃ k, k = cls c := ⟨_, rfl⟩
  rw [← hk]
  have HK := hid hk
  clear hk
  go_enter Tryz.func32, Tryz.ntmps32
  go_wp2
  all_goals first
    | (go_ret
       refine ⟨?_, Ext.refl _⟩
       rw [HK.out]
       unfold cls
       simp only [beq_iff_eq, beq_eq_false_iff_ne, decide_eq_true_eq, decide_eq_false_iff_not, ne_eq] at *
       repeat' split
       all_goals first | rfl | (exfalso; omega))
    | (exfalso
       simp only [beq_iff_eq, beq_eq_false_iff_ne, decide_eq_true_eq, decide_eq_false_iff_not, ne_eq] at *
       omega)
    | skip
  all_goals
    have HR : Hid (cls c = if c ∈ signs then 5 else 0) := by
      show _ = _
      unfold cls
      simp only [beq_iff_eq, beq_eq_false_iff_ne, decide_eq_true_eq, decide_eq_false_iff_not, ne_eq] at *
      rw [if_neg (by omega), if_neg (by omega), if_neg (by omega), if_neg (by omega)]
    go_loopg [36] 12 (fun g i wr => ∃ j : Nat, g = 12 - j ∧ j ≤ 12 ∧ i = .int .i64 j ∧ (∀ x, x ∈ signs.take j → x ≠ c) ∧ Ext w wr ∧ ∀ (j : Nat) x, signs[j]? = some x → wr.cell? ⟨w.heap.size, j, none⟩ = some (.int .u8 x))
    case atStart =>
      refine ⟨0, by omega, by omega, rfl, by simp, (Ext.refl _).alloc _, ?_⟩
      intro j x hx
      rw [World.cell?_alloc_new]
      have hj : j < 12 := by
        rcases Nat.lt_or_ge j 12 with h | h
        · exact h
        · rw [List.getElem?_eq_none (by simpa [signs] using h)] at hx; cases hx
      match j, hj, hx with
      | 0, _, hx | 1, _, hx | 2, _, hx | 3, _, hx | 4, _, hx | 5, _, hx | 6, _, hx | 7, _, hx | 8, _, hx | 9, _, hx | 10, _, hx | 11, _, hx => simp [signs] at hx; subst hx; rfl
    case round =>
      obtain ⟨j, rfl, hj, rfl, hto, hx, hcs⟩ := hrel
      have HT := hid hto
      have HCS := hid hcs
      clear hto hcs
      by_cases hlt : j < 12
      · obtain ⟨x, hsx⟩ : ∃ x, signs[j]? = some x := ⟨_, List.getElem?_eq_getElem (by simpa [signs] using hlt)⟩
        have q := HCS.out j x hsx
        have HS := hid hsx
        clear hsx
        by_cases hxc : x = c
        · have hb : (x == c) = true := by simpa using hxc
          have HX := hid hxc
          clear hxc
          go_wp2_with fail
          go_ret
          refine ⟨ret_int ?_, hx⟩
          rw [HK.out, HR.out, if_pos (by rw [← HX.out]; exact List.mem_of_getElem? HS.out)]
        · have hb : (x == c) = false := by simpa using hxc
          have HX := hid hxc
          clear hxc
          go_wp2_with fail
          go_roundg (12 - (j + 1))
          case rel =>
            refine ⟨j + 1, rfl, by omega, by go_num, ?_, hx, HCS.out⟩
            intro y hy
            rw [List.take_add_one, HS.out] at hy
            simp at hy
            rcases hy with hy | rfl
            · exact HT.out y hy
            · exact HX.out
          case measure => omega
      · obtain rfl : j = 12 := by omega
        go_wp2_with fail
        go_ret
        refine ⟨ret_int ?_, hx⟩
        rw [HK.out, HR.out, if_neg (show ¬ c ∈ signs from fun h => HT.out c h rfl)]
set_option maxHeartbeats 1000000 in
theorem ref_keywords (w : World) : Calls Tryz.prog 93 #[] w fun e w' => e = .returned (.slice (some ⟨w.heap.size, 0, none⟩) 14 14) ∧ Ext w w' ∧ ∀ (j : Nat) x, keyw[j]? = some x → w'.cell? ⟨w.heap.size, j, none⟩ = some (.string (bs x)) := by
  go_enter Tryz.func93, Tryz.ntmps93
  go_wp2
  go_ret
  refine ⟨rfl, (Ext.refl _).alloc _, ?_⟩
  intro j x hx
  rw [World.cell?_alloc_new]
  have hj : j < 14 := by
    rcases Nat.lt_or_ge j 14 with h | h
    · exact h
    · rw [List.getElem?_eq_none (by simpa [keyw] using h)] at hx; cases hx
  match j, hj, hx with
  | 0, _, hx | 1, _, hx | 2, _, hx | 3, _, hx | 4, _, hx | 5, _, hx | 6, _, hx | 7, _, hx | 8, _, hx | 9, _, hx | 10, _, hx | 11, _, hx | 12, _, hx | 13, _, hx => simp [keyw] at hx; subst hx; rfl
set_option maxHeartbeats 1000000 in
theorem ref_keyword (s : ByteArray) (w : World) :
    Calls Tryz.prog 65 #[.string s] w fun e w' => e = .returned (.int .i64 (kwd s : Nat)) ∧ Ext w w' := by
  obtain ⟨k, hk⟩ : ∃ k, k = kwd s := ⟨_, rfl⟩
  rw [← hk]
  have HK := hid hk
  clear hk
  go_enter Tryz.func65, Tryz.ntmps65
  go_wp2_with (go_at_call 93; refine (ref_keywords _).mono ?_; rintro e w1 ⟨rfl, x1, hcs⟩; have HCS := hid hcs; clear hcs)
  go_loopg [8] 14 (fun g i wr => ∃ j : Nat, g = 14 - j ∧ j ≤ 14 ∧ i = .int .i64 j ∧ (∀ x, x ∈ keyw.take j → x ≠ s.data.toList) ∧ Ext w1 wr)
  case atStart => exact ⟨0, by omega, by omega, rfl, by simp, Ext.refl _⟩
  case round =>
    obtain ⟨j, rfl, hj, rfl, hto, hx⟩ := hrel
    have HT := hid hto
    clear hto
    by_cases hlt : j < 14
    · obtain ⟨x, hsx⟩ : ∃ x, keyw[j]? = some x := ⟨_, List.getElem?_eq_getElem (by simpa [keyw] using hlt)⟩
      have q := hx.cell (HCS.out j x hsx)
      have HS := hid hsx
      clear hsx
      by_cases hxc : x = s.data.toList
      · have hb : ((bs x).toList == s.toList) = true := by rw [ByteArray.toList_eq, ByteArray.toList_eq, bs_list]; simpa using hxc
        have HX := hid hxc
        clear hxc
        go_wp2_with fail
        go_ret
        refine ⟨ret_int ?_, x1.trans hx⟩
        rw [HK.out]
        unfold kwd
        rw [placeOf_at HS.out HX.out HT.out]
        omega
      · have hb : ((bs x).toList == s.toList) = false := by rw [ByteArray.toList_eq, ByteArray.toList_eq, bs_list]; simpa using hxc
        have HX := hid hxc
        clear hxc
        go_wp2_with fail
        go_roundg (14 - (j + 1))
        case rel =>
          refine ⟨j + 1, rfl, by omega, by go_num, ?_, hx⟩
          intro y hy
          rw [List.take_add_one, HS.out] at hy
          simp at hy
          rcases hy with hy | rfl
          · exact HT.out y hy
          · exact HX.out
        case measure => omega
    · obtain rfl : j = 14 := by omega
      go_wp2_with fail
      go_ret
      refine ⟨ret_int ?_, x1.trans hx⟩
      rw [HK.out]
      unfold kwd
      rw [placeOf_none (l := keyw) HT.out]
      rfl
set_option maxHeartbeats 1000000 in
theorem ref_shape (s : ByteArray) (f : Int) (w : World) (h0 : 0 ≤ f) (h1 : f ≤ 255) :
    Calls Tryz.prog 89 #[.string s, .int .u8 f] w fun e w' => e = .returned (.bool (shapely (il s) f)) ∧ Ext w w' := by
  by_cases hz : s.size = 0
  · obtain rfl : s = ByteArray.empty := ByteArray.size_eq_zero_iff.1 hz
    go_enter Tryz.func89, Tryz.ntmps89
    go_wp2_with fail
    go_ret
    exact ⟨rfl, Ext.refl _⟩
  have hpos : 0 < s.size := by omega
  have HE := hid (shapely_eq s f hpos)
  have hz1 : ((s.size : Int) == 0) = false := beq_false_of_ne (by omega)
  by_cases h16 : 16 < s.size
  · have hd : decide ((16 : Int) < (s.size : Int)) = true := by simp; omega
    go_enter Tryz.func89, Tryz.ntmps89
    go_wp2_with fail
    go_ret
    exact ⟨ret_bool (by rw [HE.out]; simp; omega), Ext.refl _⟩
  have hd : decide ((16 : Int) < (s.size : Int)) = false := by simp; omega
  have hbb := byte_bound s[0]
  have HC := hid fun W => ref_class ((s[0].toNat : Nat) : Int) W hbb.1 hbb.2
  obtain ⟨c0, hc0⟩ : ∃ c0, c0 = cls ((s[0].toNat : Nat) : Int) := ⟨_, rfl⟩
  rw [← hc0] at HE HC
  clear hc0
  by_cases hcf : c0 = f
  case neg =>
    have hb : (c0 != f) = true := by simpa using hcf
    have HX := hid hcf
    clear hcf
    go_enter Tryz.func89, Tryz.ntmps89
    go_wp2_with (go_at_call 32; refine (HC.out _).mono ?_; rintro e w1 ⟨rfl, x1⟩)
    go_ret
    refine ⟨ret_bool ?_, x1⟩
    rw [HE.out]
    simp [HX.out]
  have hb : (c0 != f) = false := by simpa using hcf
  have HX := hid hcf
  have H16 := hid h16
  clear hcf
  go_enter Tryz.func89, Tryz.ntmps89
  go_wp2_with (go_at_call 32; refine (HC.out _).mono ?_; rintro e w1 ⟨rfl, x1⟩)
  go_loopg [5] s.size (fun g i wr => ∃ j : Nat, g = s.size - j ∧ j ≤ s.size ∧ i = .int .i64 j ∧ (∀ x, x ∈ (il s).take j → inner x = true) ∧ Ext w wr)
  case atStart => exact ⟨0, by omega, by omega, rfl, by simp, x1⟩
  case round =>
    obtain ⟨j, rfl, hj, rfl, hto, hx⟩ := hrel
    have HT := hid hto
    clear hto
    by_cases hlt : j < s.size
    · have hbb := byte_bound s[j]
      have KC := hid fun W => ref_class ((s[j].toNat : Nat) : Int) W hbb.1 hbb.2
      have HI := hid (il_at s hlt)
      have hin : inner ((s[j].toNat : Nat) : Int) = (decide (2 ≤ cls ((s[j].toNat : Nat) : Int)) && decide (cls ((s[j].toNat : Nat) : Int) ≤ 4)) := rfl
      have HIN := hid hin
      clear hin
      obtain ⟨x, hx⟩ : ∃ x, x = cls ((s[j].toNat : Nat) : Int) := ⟨_, rfl⟩
      rw [← hx] at HIN KC
      clear hx
      have cases : (decide (x < 2) = true ∧ inner ((s[j].toNat : Nat) : Int) = false) ∨ (decide (x < 2) = false ∧ decide (4 < x) = true ∧ inner ((s[j].toNat : Nat) : Int) = false) ∨ (decide (x < 2) = false ∧ decide (4 < x) = false ∧ inner ((s[j].toNat : Nat) : Int) = true) := by
        rw [HIN.out]
        by_cases A : x < 2
        · exact .inl ⟨by simpa using A, by simp; omega⟩
        · by_cases B : 4 < x
          · exact .inr (.inl ⟨by simpa using A, by simpa using B, by simp; omega⟩)
          · exact .inr (.inr ⟨by simpa using A, by simpa using B, by simp; omega⟩)
      rcases cases with ⟨A, B⟩ | ⟨A, A', B⟩ | ⟨A, A', B⟩
      case' inr.inr =>
        have HB := hid B
        clear B HIN
        go_wp2_with (go_at_call 32; refine (KC.out _).mono ?_; rintro e w2 ⟨rfl, x2⟩)
        go_roundg (s.size - (j + 1))
        case rel =>
          refine ⟨j + 1, rfl, by omega, by go_num, ?_, hx.trans x2⟩
          intro y hy
          rw [List.take_add_one, HI.out] at hy
          simp only [List.mem_append, Option.toList_some, List.mem_singleton] at hy
          rcases hy with hy | rfl
          · exact HT.out y hy
          · exact HB.out
        case measure => omega
      all_goals
        have HB := hid B
        clear B HIN
        go_wp2_with (go_at_call 32; refine (KC.out _).mono ?_; rintro e w2 ⟨rfl, x2⟩)
        go_ret
        refine ⟨ret_bool ?_, hx.trans x2⟩
        rw [HE.out]
        have : (il s).all inner = false := by
          rw [List.all_eq_false]
          exact ⟨_, List.mem_of_getElem? HI.out, by rw [HB.out]; simp⟩
        rw [this]
        simp
    · obtain rfl : j = s.size := by omega
      go_wp2_with fail
      go_ret
      have h0 := HT.out
      rw [List.take_of_length_le (by rw [il_length]; omega)] at h0
      refine ⟨ret_bool ?_, hx⟩
      rw [HE.out, HX.out]
      simp
      exact ⟨by omega, h0⟩
set_option maxHeartbeats 1000000 in
theorem ref_name (s : ByteArray) (w : World) : Calls Tryz.prog 66 #[.string s] w fun e w' => e = .returned (.bool (isName s)) ∧ Ext w w' := by
  have K1 := hid fun W => ref_shape s 3 W (by omega) (by omega)
  have K2 := hid fun W => ref_keyword s W
  cases hsh : shapely (il s) 3
  all_goals
    have HS := hid hsh
    rw [hsh] at K1
    clear hsh
    go_enter Tryz.func66, Tryz.ntmps66
    go_wp2_with (first | (go_at_call 89; refine (K1.out _).mono ?_; rintro e w1 ⟨rfl, x1⟩) | (go_at_call 65; refine (K2.out _).mono ?_; rintro e w2 ⟨rfl, x2⟩))
    go_ret
    exact ⟨ret_bool (by simp [isName, HS.out, nat_beq_zero]), by (exact eX)⟩
set_option maxHeartbeats 1000000 in
theorem ref_exn (s : ByteArray) (w : World) : Calls Tryz.prog 54 #[.string s] w fun e w' => e = .returned (.bool (isExn s)) ∧ Ext w w' := by
  go_enter Tryz.func54, Tryz.ntmps54
  go_wp2_with (go_at_call 89; refine (ref_shape s 4 _ (by omega) (by omega)).mono ?_; rintro e w1 ⟨rfl, x1⟩)
  go_ret
  exact ⟨rfl, x1⟩
end Go.Proofs.YtaioeailgknfjaaGreatDoor
