/- The walks of enclaveref01 and enclaveref02: classes of bytes, words. -/
import Derived.Test.YtaioeailgknfjaaDoorHeld
import Derived.Test.YtaioeailgknfjaaDoorPureW
import Derived.Test.YtaioeailgknfjaaDoorProg
import Derived.Deep.DeepCutAuto
import Derived.Deep.CutBlock
import Derived.Deep.LoopGhost
namespace Go.Proofs.YtaioeailgknfjaaDoor
open Go Go.RowKit Go.Sort

set_option maxHeartbeats 1000000 in
theorem ref_class (c : Int) (w : World) (h0 : 0 ≤ c) (h1 : c ≤ 255) :
    Calls Tryd.prog 18 #[.int .u8 c] w fun e w' => e = .returned (.int .u8 (cls c)) ∧ Ext w w' := by
  obtain ⟨k, hk⟩ : ∃ k, k = cls c := ⟨_, rfl⟩
  rw [← hk]
  have HK := Lib.hid hk
  clear hk
  go_enter Tryd.func18, Tryd.ntmps18
  go_wp2
  all_goals first
    | (go_ret
       refine ⟨?_, Ext.refl _⟩
       rw [HK.out]
       unfold cls
       simp only [beq_iff_eq, beq_eq_false_iff_ne, decide_eq_true_eq, decide_eq_false_iff_not, ne_eq] at *
       repeat' split
       all_goals first | rfl | (exfalso; omega))
    | (exfalso
       simp only [beq_iff_eq, beq_eq_false_iff_ne, decide_eq_true_eq, decide_eq_false_iff_not, ne_eq] at *
       omega)
    | skip
  all_goals
    have HR : Hid (cls c = if c ∈ signs then 5 else 0) := by
      show _ = _
      unfold cls
      simp only [beq_iff_eq, beq_eq_false_iff_ne, decide_eq_true_eq, decide_eq_false_iff_not, ne_eq] at *
      rw [if_neg (by omega), if_neg (by omega), if_neg (by omega), if_neg (by omega)]
    go_loopg [36] 12 (fun g i wr => ∃ j : Nat, g = 12 - j ∧ j ≤ 12 ∧ i = .int .i64 j ∧ (∀ x, x ∈ signs.take j → x ≠ c) ∧ Ext w wr ∧ ∀ (j : Nat) x, signs[j]? = some x → wr.cell? ⟨w.heap.size, j, none⟩ = some (.int .u8 x))
    case atStart =>
      refine ⟨0, by omega, by omega, rfl, by simp, (Ext.refl _).alloc _, ?_⟩
      intro j x hx
      rw [World.cell?_alloc_new]
      have hj : j < 12 := by
        rcases Nat.lt_or_ge j 12 with h | h
        · exact h
        · rw [List.getElem?_eq_none (by simpa [signs] using h)] at hx; cases hx
      match j, hj, hx with
      | 0, _, hx | 1, _, hx | 2, _, hx | 3, _, hx | 4, _, hx | 5, _, hx | 6, _, hx | 7, _, hx | 8, _, hx | 9, _, hx | 10, _, hx | 11, _, hx => simp [signs] at hx; subst hx; rfl
    case round =>
      obtain ⟨j, rfl, hj, rfl, hto, hx, hcs⟩ := hrel
      have HT := Lib.hid hto
      have HCS := Lib.hid hcs
      clear hto hcs
      by_cases hlt : j < 12
      · obtain ⟨x, hsx⟩ : ∃ x, signs[j]? = some x := ⟨_, List.getElem?_eq_getElem (by simpa [signs] using hlt)⟩
        have q := HCS.out j x hsx
        have HS := Lib.hid hsx
        clear hsx
        by_cases hxc : x = c
        · have hb : (x == c) = true := by simpa using hxc
          have HX := Lib.hid hxc
          clear hxc
          go_wp2_with fail
          go_ret
          refine ⟨ret_int ?_, hx⟩
          rw [HK.out, HR.out, if_pos (by rw [← HX.out]; exact List.mem_of_getElem? HS.out)]
        · have hb : (x == c) = false := by simpa using hxc
          have HX := Lib.hid hxc
          clear hxc
          go_wp2_with fail
          go_roundg (12 - (j + 1))
          case rel =>
            refine ⟨j + 1, rfl, by omega, by go_num, ?_, hx, HCS.out⟩
            intro y hy
            rw [List.take_add_one, HS.out] at hy
            simp at hy
            rcases hy with hy | rfl
            · exact HT.out y hy
            · exact HX.out
          case measure => omega
      · obtain rfl : j = 12 := by omega
        go_wp2_with fail
        go_ret
        refine ⟨ret_int ?_, hx⟩
        rw [HK.out, HR.out, if_neg (show ¬ c ∈ signs from fun h => HT.out c h rfl)]

set_option maxHeartbeats 1000000 in
theorem ref_keywords (w : World) : Calls Tryd.prog 59 #[] w fun e w' => e = .returned (.slice (some ⟨w.heap.size, 0, none⟩) 14 14) ∧ Ext w w' ∧ ∀ (j : Nat) x, keyw[j]? = some x → w'.cell? ⟨w.heap.size, j, none⟩ = some (.string (bs x)) := by
  go_enter Tryd.func59, Tryd.ntmps59
  go_wp2
  go_ret
  refine ⟨rfl, (Ext.refl _).alloc _, ?_⟩
  intro j x hx
  rw [World.cell?_alloc_new]
  have hj : j < 14 := by
    rcases Nat.lt_or_ge j 14 with h | h
    · exact h
    · rw [List.getElem?_eq_none (by simpa [keyw] using h)] at hx; cases hx
  match j, hj, hx with
  | 0, _, hx | 1, _, hx | 2, _, hx | 3, _, hx | 4, _, hx | 5, _, hx | 6, _, hx | 7, _, hx | 8, _, hx | 9, _, hx | 10, _, hx | 11, _, hx | 12, _, hx | 13, _, hx => simp [keyw] at hx; subst hx; rfl

set_option maxHeartbeats 1000000 in
theorem ref_keyword (s : ByteArray) (w : World) :
    Calls Tryd.prog 38 #[.string s] w fun e w' => e = .returned (.int .i64 (kwd s : Nat)) ∧ Ext w w' := by
  obtain ⟨k, hk⟩ : ∃ k, k = kwd s := ⟨_, rfl⟩
  rw [← hk]
  have HK := Lib.hid hk
  clear hk
  go_enter Tryd.func38, Tryd.ntmps38
  go_wp2_with (go_at_call 59; refine (ref_keywords _).mono ?_; rintro e w1 ⟨rfl, x1, hcs⟩; have HCS := Lib.hid hcs; clear hcs)
  go_loopg [8] 14 (fun g i wr => ∃ j : Nat, g = 14 - j ∧ j ≤ 14 ∧ i = .int .i64 j ∧ (∀ x, x ∈ keyw.take j → x ≠ s.data.toList) ∧ Ext w1 wr)
  case atStart => exact ⟨0, by omega, by omega, rfl, by simp, Ext.refl _⟩
  case round =>
    obtain ⟨j, rfl, hj, rfl, hto, hx⟩ := hrel
    have HT := Lib.hid hto
    clear hto
    by_cases hlt : j < 14
    · obtain ⟨x, hsx⟩ : ∃ x, keyw[j]? = some x := ⟨_, List.getElem?_eq_getElem (by simpa [keyw] using hlt)⟩
      have q := hx.cell (HCS.out j x hsx)
      have HS := Lib.hid hsx
      clear hsx
      by_cases hxc : x = s.data.toList
      · have hb : ((bs x).toList == s.toList) = true := by rw [ByteArray.toList_eq, ByteArray.toList_eq, bs_list]; simpa using hxc
        have HX := Lib.hid hxc
        clear hxc
        go_wp2_with fail
        go_ret
        refine ⟨ret_int ?_, x1.trans hx⟩
        rw [HK.out]
        unfold kwd
        rw [placeOf_at HS.out HX.out HT.out]
        omega
      · have hb : ((bs x).toList == s.toList) = false := by rw [ByteArray.toList_eq, ByteArray.toList_eq, bs_list]; simpa using hxc
        have HX := Lib.hid hxc
        clear hxc
        go_wp2_with fail
        go_roundg (14 - (j + 1))
        case rel =>
          refine ⟨j + 1, rfl, by omega, by go_num, ?_, hx⟩
          intro y hy
          rw [List.take_add_one, HS.out] at hy
          simp at hy
          rcases hy with hy | rfl
          · exact HT.out y hy
          · exact HX.out
        case measure => omega
    · obtain rfl : j = 14 := by omega
      go_wp2_with fail
      go_ret
      refine ⟨ret_int ?_, x1.trans hx⟩
      rw [HK.out]
      unfold kwd
      rw [placeOf_none (l := keyw) HT.out]
      rfl
end Go.Proofs.YtaioeailgknfjaaDoor
