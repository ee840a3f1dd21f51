/- The walks of enclaveref02: names. -/
import Derived.Test.YtaioeailgknfjaaDoorRef02
namespace Go.Proofs.YtaioeailgknfjaaDoor
open Go Go.RowKit Go.Sort

set_option maxHeartbeats 1000000 in
theorem ref_shape (s : ByteArray) (f : Int) (w : World) (h0 : 0 ≤ f) (h1 : f ≤ 255) :
    Calls Tryd.prog 60 #[.string s, .int .u8 f] w fun e w' => e = .returned (.bool (shapely (il s) f)) ∧ Ext w w' := by
  by_cases hz : s.size = 0
  · obtain rfl : s = ByteArray.empty := ByteArray.size_eq_zero_iff.1 hz
    go_enter Tryd.func60, Tryd.ntmps60
    go_wp2_with fail
    go_ret
    exact ⟨rfl, Ext.refl _⟩
  have hpos : 0 < s.size := by omega
  have HE := Lib.hid (shapely_eq s f hpos)
  have hz1 : ((s.size : Int) == 0) = false := beq_false_of_ne (by omega)
  by_cases h16 : 16 < s.size
  · have hd : decide ((16 : Int) < (s.size : Int)) = true := by simp; omega
    go_enter Tryd.func60, Tryd.ntmps60
    go_wp2_with fail
    go_ret
    exact ⟨ret_bool (by rw [HE.out]; simp; omega), Ext.refl _⟩
  have hd : decide ((16 : Int) < (s.size : Int)) = false := by simp; omega
  have hbb := byte_bound s[0]
  have HC := Lib.hid fun W => ref_class ((s[0].toNat : Nat) : Int) W hbb.1 hbb.2
  obtain ⟨c0, hc0⟩ : ∃ c0, c0 = cls ((s[0].toNat : Nat) : Int) := ⟨_, rfl⟩
  rw [← hc0] at HE HC
  clear hc0
  by_cases hcf : c0 = f
  case neg =>
    have hb : (c0 != f) = true := by simpa using hcf
    have HX := Lib.hid hcf
    clear hcf
    go_enter Tryd.func60, Tryd.ntmps60
    go_wp2_with (go_at_call 18; refine (HC.out _).mono ?_; rintro e w1 ⟨rfl, x1⟩)
    go_ret
    refine ⟨ret_bool ?_, x1⟩
    rw [HE.out]
    simp [HX.out]
  have hb : (c0 != f) = false := by simpa using hcf
  have HX := Lib.hid hcf
  have H16 := Lib.hid h16
  clear hcf
  go_enter Tryd.func60, Tryd.ntmps60
  go_wp2_with (go_at_call 18; refine (HC.out _).mono ?_; rintro e w1 ⟨rfl, x1⟩)
  go_loopg [5] s.size (fun g i wr => ∃ j : Nat, g = s.size - j ∧ j ≤ s.size ∧ i = .int .i64 j ∧ (∀ x, x ∈ (il s).take j → inner x = true) ∧ Ext w wr)
  case atStart => exact ⟨0, by omega, by omega, rfl, by simp, x1⟩
  case round =>
    obtain ⟨j, rfl, hj, rfl, hto, hx⟩ := hrel
    have HT := Lib.hid hto
    clear hto
    by_cases hlt : j < s.size
    · have hbb := byte_bound s[j]
      have KC := Lib.hid fun W => ref_class ((s[j].toNat : Nat) : Int) W hbb.1 hbb.2
      have HI := Lib.hid (il_at s hlt)
      have hin : inner ((s[j].toNat : Nat) : Int) = (decide (2 ≤ cls ((s[j].toNat : Nat) : Int)) && decide (cls ((s[j].toNat : Nat) : Int) ≤ 4)) := rfl
      have HIN := Lib.hid hin
      clear hin
      obtain ⟨x, hx⟩ : ∃ x, x = cls ((s[j].toNat : Nat) : Int) := ⟨_, rfl⟩
      rw [← hx] at HIN KC
      clear hx
      have cases : (decide (x < 2) = true ∧ inner ((s[j].toNat : Nat) : Int) = false) ∨ (decide (x < 2) = false ∧ decide (4 < x) = true ∧ inner ((s[j].toNat : Nat) : Int) = false) ∨ (decide (x < 2) = false ∧ decide (4 < x) = false ∧ inner ((s[j].toNat : Nat) : Int) = true) := by
        rw [HIN.out]
        by_cases A : x < 2
        · exact .inl ⟨by simpa using A, by simp; omega⟩
        · by_cases B : 4 < x
          · exact .inr (.inl ⟨by simpa using A, by simpa using B, by simp; omega⟩)
          · exact .inr (.inr ⟨by simpa using A, by simpa using B, by simp; omega⟩)
      rcases cases with ⟨A, B⟩ | ⟨A, A', B⟩ | ⟨A, A', B⟩
      case' inr.inr =>
        have HB := Lib.hid B
        clear B HIN
        go_wp2_with (go_at_call 18; refine (KC.out _).mono ?_; rintro e w2 ⟨rfl, x2⟩)
        go_roundg (s.size - (j + 1))
        case rel =>
          refine ⟨j + 1, rfl, by omega, by go_num, ?_, hx.trans x2⟩
          intro y hy
          rw [List.take_add_one, HI.out] at hy
          simp only [List.mem_append, Option.toList_some, List.mem_singleton] at hy
          rcases hy with hy | rfl
          · exact HT.out y hy
          · exact HB.out
        case measure => omega
      all_goals
        have HB := Lib.hid B
        clear B HIN
        go_wp2_with (go_at_call 18; refine (KC.out _).mono ?_; rintro e w2 ⟨rfl, x2⟩)
        go_ret
        refine ⟨ret_bool ?_, hx.trans x2⟩
        rw [HE.out]
        have : (il s).all inner = false := by
          rw [List.all_eq_false]
          exact ⟨_, List.mem_of_getElem? HI.out, by rw [HB.out]; simp⟩
        rw [this]
        simp
    · obtain rfl : j = s.size := by omega
      go_wp2_with fail
      go_ret
      have h0 := HT.out
      rw [List.take_of_length_le (by rw [il_length]; omega)] at h0
      refine ⟨ret_bool ?_, hx⟩
      rw [HE.out, HX.out]
      simp
      exact ⟨by omega, h0⟩

set_option maxHeartbeats 1000000 in
theorem ref_name (s : ByteArray) (w : World) : Calls Tryd.prog 39 #[.string s] w fun e w' => e = .returned (.bool (isName s)) ∧ Ext w w' := by
  have K1 := Lib.hid fun W => ref_shape s 3 W (by omega) (by omega)
  have K2 := Lib.hid fun W => ref_keyword s W
  cases hsh : shapely (il s) 3
  all_goals
    have HS := Lib.hid hsh
    rw [hsh] at K1
    clear hsh
    go_enter Tryd.func39, Tryd.ntmps39
    go_wp2_with (first | (go_at_call 60; refine (K1.out _).mono ?_; rintro e w1 ⟨rfl, x1⟩) | (go_at_call 38; refine (K2.out _).mono ?_; rintro e w2 ⟨rfl, x2⟩))
    go_ret
    exact ⟨ret_bool (by simp [isName, HS.out, nat_beq_zero]), by (repeat (first | exact Ext.refl _ | assumption | refine Ext.alloc ?_ _ | refine Ext.drew ?_ | refine Ext.setCell ?_ (by first | (simp; done) | (simp; omega) | omega) _ | refine Ext.trans ?_ (by assumption)))⟩

set_option maxHeartbeats 1000000 in
theorem ref_exn (s : ByteArray) (w : World) : Calls Tryd.prog 40 #[.string s] w fun e w' => e = .returned (.bool (isExn s)) ∧ Ext w w' := by
  go_enter Tryd.func40, Tryd.ntmps40
  go_wp2_with (go_at_call 60; refine (ref_shape s 4 _ (by omega) (by omega)).mono ?_; rintro e w1 ⟨rfl, x1⟩)
  go_ret
  exact ⟨rfl, x1⟩
end Go.Proofs.YtaioeailgknfjaaDoor
