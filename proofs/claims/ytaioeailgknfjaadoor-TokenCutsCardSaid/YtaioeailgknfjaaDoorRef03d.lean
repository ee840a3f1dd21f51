/- The walk of enclaveref03.take: words. -/
import Derived.Test.YtaioeailgknfjaaDoorRef03c
namespace Go.Proofs.YtaioeailgknfjaaDoor
open Go Go.RowKit Go.Sort

theorem takeOf_letter {B : List UInt8} {i : Nat} {c : UInt8} (h : B[i]? = some c) (hc : clsU c = 3 ∨ clsU c = 4) : takeOf (B.drop i) = if 0 < kwd (bs ((B.drop i).take (spanU [2, 3, 4] (B.drop i)))) then (bs ((B.drop i).take (spanU [2, 3, 4] (B.drop i))), 4) else if isName (bs ((B.drop i).take (spanU [2, 3, 4] (B.drop i)))) then (bs ((B.drop i).take (spanU [2, 3, 4] (B.drop i))), 2) else if isExn (bs ((B.drop i).take (spanU [2, 3, 4] (B.drop i)))) then (bs ((B.drop i).take (spanU [2, 3, 4] (B.drop i))), 3) else (ByteArray.empty, 0) := by
  rw [drop_cons_at h]
  unfold takeOf tokAt
  simp only [if_neg (show ¬ clsU c = 2 from by omega), if_pos hc]
  by_cases h1 : 0 < kwd (bs ((c :: B.drop (i + 1)).take (spanU [2, 3, 4] (c :: B.drop (i + 1)))))
  · simp only [if_pos h1]
  simp only [if_neg h1]
  by_cases h2 : isName (bs ((c :: B.drop (i + 1)).take (spanU [2, 3, 4] (c :: B.drop (i + 1))))) = true
  · simp only [if_pos h2]
  simp only [if_neg h2]
  by_cases h3 : isExn (bs ((c :: B.drop (i + 1)).take (spanU [2, 3, 4] (c :: B.drop (i + 1))))) = true
  · simp only [if_pos h3]
  · simp only [if_neg h3]
/-- A byte's class, as digit and letter tell it. -/
theorem in_234 {c : UInt8} {b : Bool} (h : [2, 3, 4].contains (clsU c) = b) : (decide (cls ((c.toNat : Nat) : Int) = 2) = true ∧ b = true) ∨ (decide (cls ((c.toNat : Nat) : Int) = 2) = false ∧ decide (cls ((c.toNat : Nat) : Int) = 3 ∨ cls ((c.toNat : Nat) : Int) = 4) = b) := by
  subst h
  have e : clsU c = cls ((c.toNat : Nat) : Int) := rfl
  rw [← e]
  by_cases h2 : clsU c = 2
  · left; rw [h2]; exact ⟨rfl, rfl⟩
  · right
    refine ⟨by simp [h2], ?_⟩
    rw [Bool.eq_iff_iff]
    simp [h2]
set_option maxRecDepth 8000 in
set_option maxHeartbeats 8000000 in
theorem ref03_take_letter (B : List UInt8) (at_ : Nat) (c : UInt8) (w : World) (b o len cap : Nat) (h1 : len ≤ cap) (h2 : cap ≤ 9223372036854775807) (hr : IsBytes w B (some ⟨b, o, none⟩) len) (hat : at_ < len) (hg : B[at_]? = some c) (hcl : clsU c = 3 ∨ clsU c = 4) :
    Calls Tryd.prog 19 #[.slice (some ⟨b, o, none⟩) len cap, .int .i64 (at_ : Int)] w (RetTake (B.drop at_) w) := by
  have hlen := hr.length
  have q : w.cell? ⟨b, o + at_, none⟩ = some (.int .u8 (c.toNat : Int)) := by
    obtain ⟨c', b', o', g, e, q⟩ := hr.at_ hat
    cases e
    rw [hg] at g
    cases g
    exact q
  have hbb := byte_bound c
  have KD0 := Lib.hid fun W => ref03_digit ((c.toNat : Nat) : Int) W hbb.1 hbb.2
  have KL0 := Lib.hid fun W => ref03_letter ((c.toNat : Nat) : Int) W hbb.1 hbb.2
  have hcc : decide (cls ((c.toNat : Nat) : Int) = 2) = false := (by have h2 : clsU c ≠ 2 := (by omega); simpa [clsU] using h2)
  have hcc' : decide (cls ((c.toNat : Nat) : Int) = 3 ∨ cls ((c.toNat : Nat) : Int) = 4) = true := by simpa [clsU] using hcl
  rw [hcc] at KD0
  rw [hcc'] at KL0
  obtain ⟨hrun, hend⟩ := run_at [2, 3, 4] B at_
  have hT := takeOf_letter hg hcl
  have hsl := spanU_le [2, 3, 4] (B.drop at_)
  rw [List.length_drop] at hsl
  obtain ⟨n, hn⟩ : ∃ n, n = spanU [2, 3, 4] (B.drop at_) := ⟨_, rfl⟩
  rw [← hn] at hrun hend hsl hT
  have HCV := Lib.hid fun W (h : Ext w W) k => conv_bytes (hr.ext h) at_ n k (by omega)
  have HR := Lib.hid hr
  have HRUN := Lib.hid hrun
  have HEND := Lib.hid hend
  have HLEN := Lib.hid hlen
  have hz1 : (at_ : Int) < (len : Int) := by omega
  have hnl : at_ + n ≤ len := by omega
  have HT := Lib.hid hT
  generalize bs ((B.drop at_).take n) = s at *
  have KK := Lib.hid fun W => ref_keyword s W
  have KN := Lib.hid fun W => ref_name s W
  have KE := Lib.hid fun W => ref_exn s W
  generalize isName s = bn at *
  generalize isExn s = be at *
  generalize kwd s = kw at *
  clear hT hn hrun hend hr hcc hcc' hg hcl hlen
  go_enter Tryd.func19, Tryd.ntmps19
  go_wp2_with (first | (go_at_call 35; refine (KD0.out _).mono ?_; rintro e w1 ⟨rfl, x1⟩) | (go_at_call 37; refine (KL0.out _).mono ?_; rintro e w2 ⟨rfl, x2⟩))
  go_loopg [7] n (fun g i wr => ∃ j : Nat, g = n - j ∧ i = .int .i64 ((at_ + j : Nat) : Int) ∧ j ≤ n ∧ Ext w wr)
  case atStart => exact ⟨0, rfl, rfl, Nat.zero_le _, by (repeat (first | exact Ext.refl _ | assumption | refine Ext.alloc ?_ _ | refine Ext.drew ?_ | refine Ext.setCell ?_ (by first | (simp; done) | (simp; omega) | omega) _ | refine Ext.trans ?_ (by assumption)))⟩
  case round =>
    obtain ⟨j, rfl, rfl, hj, hx⟩ := hrel
    by_cases hlt : j < n
    · obtain ⟨c2, hc2, hk2⟩ := HRUN.out j hlt
      obtain ⟨c', b', o', g, e, q2⟩ := (HR.out.ext hx).at_ (i := at_ + j) (by omega)
      cases e
      rw [hc2] at g
      cases g
      have hb2 := byte_bound c2
      have KD := Lib.hid fun W => ref03_digit ((c2.toNat : Nat) : Int) W hb2.1 hb2.2
      have KL := Lib.hid fun W => ref03_letter ((c2.toNat : Nat) : Int) W hb2.1 hb2.2
      have hz2 : (at_ : Int) + (j : Int) < (len : Int) := by omega
      have hz3 : at_ + j < len := by omega
      have hw : IntKind.i64.wrap ((at_ : Int) + (j : Int) + 1) = (at_ : Int) + j + 1 := IntWalk.i64_in _ ⟨by omega, by omega⟩
      rcases in_234 hk2 with ⟨a1, -⟩ | ⟨a1, a2⟩
      · rw [a1] at KD
        clear hc2 hk2 a1
        go_wp2_with (first | (go_at_call 35; refine (KD.out _).mono ?_; rintro e w2 ⟨rfl, x2⟩))
        go_roundg (n - (j + 1))
        case rel => exact ⟨j + 1, rfl, by go_num, by omega, by (repeat (first | exact Ext.refl _ | assumption | refine Ext.alloc ?_ _ | refine Ext.drew ?_ | refine Ext.setCell ?_ (by first | (simp; done) | (simp; omega) | omega) _ | refine Ext.trans ?_ (by assumption)))⟩
        case measure => omega
      · rw [a1] at KD
        rw [a2] at KL
        clear hc2 hk2 a1 a2
        go_wp2_with (first | (go_at_call 35; refine (KD.out _).mono ?_; rintro e w2 ⟨rfl, x2⟩; have q3 := x2.cell q2) | (go_at_call 37; refine (KL.out _).mono ?_; rintro e w3 ⟨rfl, x3⟩))
        go_roundg (n - (j + 1))
        case rel => exact ⟨j + 1, rfl, by go_num, by omega, by (repeat (first | exact Ext.refl _ | assumption | refine Ext.alloc ?_ _ | refine Ext.drew ?_ | refine Ext.setCell ?_ (by first | (simp; done) | (simp; omega) | omega) _ | refine Ext.trans ?_ (by assumption)))⟩
        case measure => omega
    · obtain rfl : j = n := by omega
      have KR : Hid (∀ W, Ext w W → takeOf (B.drop at_) = takeOf (B.drop at_)) := Lib.hid fun _ _ => rfl
      have hkk : (0 < kw) ∨ (kw = 0 ∧ bn = true) ∨ (kw = 0 ∧ bn = false ∧ be = true) ∨ (kw = 0 ∧ bn = false ∧ be = false) := (by cases bn <;> cases be <;> simp <;> omega)
      by_cases hle : at_ + j < len
      · obtain ⟨c', b', o', g, e, q2⟩ := (HR.out.ext hx).at_ hle
        cases e
        have hk2 := HEND.out c' g
        have hb2 := byte_bound c'
        have KD := Lib.hid fun W => ref03_digit ((c'.toNat : Nat) : Int) W hb2.1 hb2.2
        have KL := Lib.hid fun W => ref03_letter ((c'.toNat : Nat) : Int) W hb2.1 hb2.2
        rcases in_234 hk2 with ⟨-, a0⟩ | ⟨a1, a2⟩
        · cases a0
        rw [a1] at KD
        rw [a2] at KL
        have hz2 : (at_ : Int) + (j : Int) < (len : Int) := by omega
        clear hk2 a1 a2 g KR
        rcases hkk with h | ⟨rfl, rfl⟩ | ⟨rfl, rfl, rfl⟩ | ⟨rfl, rfl, rfl⟩
        · have h' : (0 : Int) < (kw : Int) := by omega
          have HF : Hid (takeOf (B.drop at_) = (s, 4)) := Lib.hid (by rw [HT.out, if_pos h])
          go_wp2_with (first | (go_at_call 35; refine (KD.out _).mono ?_; rintro e w2 ⟨rfl, x2⟩; have q3 := x2.cell q2) | (go_at_call 37; refine (KL.out _).mono ?_; rintro e w3 ⟨rfl, x3⟩; have hcv := fun k => HCV.out w3 (by (repeat (first | exact Ext.refl _ | assumption | refine Ext.alloc ?_ _ | refine Ext.drew ?_ | refine Ext.setCell ?_ (by first | (simp; done) | (simp; omega) | omega) _ | refine Ext.trans ?_ (by assumption)))) k) | (go_at_call 38; refine (KK.out _).mono ?_; rintro e w4 ⟨rfl, x4⟩) | (go_at_call 39; refine (KN.out _).mono ?_; rintro e w5 ⟨rfl, x5⟩) | (go_at_call 40; refine (KE.out _).mono ?_; rintro e w6 ⟨rfl, x6⟩))
          go_ret2
          exact ⟨by rw [HF.out]; rfl, by (repeat (first | exact Ext.refl _ | assumption | refine Ext.alloc ?_ _ | refine Ext.drew ?_ | refine Ext.setCell ?_ (by first | (simp; done) | (simp; omega) | omega) _ | refine Ext.trans ?_ (by assumption)))⟩
        all_goals
          have HF := Lib.hid HT.out
          go_wp2_with (first | (go_at_call 35; refine (KD.out _).mono ?_; rintro e w2 ⟨rfl, x2⟩; have q3 := x2.cell q2) | (go_at_call 37; refine (KL.out _).mono ?_; rintro e w3 ⟨rfl, x3⟩; have hcv := fun k => HCV.out w3 (by (repeat (first | exact Ext.refl _ | assumption | refine Ext.alloc ?_ _ | refine Ext.drew ?_ | refine Ext.setCell ?_ (by first | (simp; done) | (simp; omega) | omega) _ | refine Ext.trans ?_ (by assumption)))) k) | (go_at_call 38; refine (KK.out _).mono ?_; rintro e w4 ⟨rfl, x4⟩) | (go_at_call 39; refine (KN.out _).mono ?_; rintro e w5 ⟨rfl, x5⟩) | (go_at_call 40; refine (KE.out _).mono ?_; rintro e w6 ⟨rfl, x6⟩))
          go_ret2
          exact ⟨by rw [HF.out]; rfl, by (repeat (first | exact Ext.refl _ | assumption | refine Ext.alloc ?_ _ | refine Ext.drew ?_ | refine Ext.setCell ?_ (by first | (simp; done) | (simp; omega) | omega) _ | refine Ext.trans ?_ (by assumption)))⟩
      · have hz2 : ¬ (at_ : Int) + (j : Int) < (len : Int) := by omega
        have hcv := fun k => HCV.out wr hx k
        clear KR
        rcases hkk with h | ⟨rfl, rfl⟩ | ⟨rfl, rfl, rfl⟩ | ⟨rfl, rfl, rfl⟩
        · have h' : (0 : Int) < (kw : Int) := by omega
          have HF : Hid (takeOf (B.drop at_) = (s, 4)) := Lib.hid (by rw [HT.out, if_pos h])
          go_wp2_with (first | (go_at_call 38; refine (KK.out _).mono ?_; rintro e w4 ⟨rfl, x4⟩) | (go_at_call 39; refine (KN.out _).mono ?_; rintro e w5 ⟨rfl, x5⟩) | (go_at_call 40; refine (KE.out _).mono ?_; rintro e w6 ⟨rfl, x6⟩))
          go_ret2
          exact ⟨by rw [HF.out]; rfl, by (repeat (first | exact Ext.refl _ | assumption | refine Ext.alloc ?_ _ | refine Ext.drew ?_ | refine Ext.setCell ?_ (by first | (simp; done) | (simp; omega) | omega) _ | refine Ext.trans ?_ (by assumption)))⟩
        all_goals
          have HF := Lib.hid HT.out
          go_wp2_with (first | (go_at_call 38; refine (KK.out _).mono ?_; rintro e w4 ⟨rfl, x4⟩) | (go_at_call 39; refine (KN.out _).mono ?_; rintro e w5 ⟨rfl, x5⟩) | (go_at_call 40; refine (KE.out _).mono ?_; rintro e w6 ⟨rfl, x6⟩))
          go_ret2
          exact ⟨by rw [HF.out]; rfl, by (repeat (first | exact Ext.refl _ | assumption | refine Ext.alloc ?_ _ | refine Ext.drew ?_ | refine Ext.setCell ?_ (by first | (simp; done) | (simp; omega) | omega) _ | refine Ext.trans ?_ (by assumption)))⟩
end Go.Proofs.YtaioeailgknfjaaDoor
