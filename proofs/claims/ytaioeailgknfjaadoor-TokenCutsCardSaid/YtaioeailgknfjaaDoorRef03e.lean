/- The walk of enclaveref03.take: signs, and what is none. -/
import Derived.Test.YtaioeailgknfjaaDoorRef03d
namespace Go.Proofs.YtaioeailgknfjaaDoor
open Go Go.RowKit Go.Sort

theorem takeOf_sign {B : List UInt8} {i : Nat} {c : UInt8} (h : B[i]? = some c) (hc : clsU c = 5) : takeOf (B.drop i) = if signOf (B.drop i) = 0 then (ByteArray.empty, 0) else (bs ((B.drop i).take (signOf (B.drop i))), 5) := by
  rw [drop_cons_at h]
  unfold takeOf
  rw [tokAt_sign hc]
  by_cases h1 : signOf (c :: B.drop (i + 1)) = 0
  · simp only [if_pos h1]
  · simp only [if_neg h1]
theorem takeOf_none {B : List UInt8} {i : Nat} {c : UInt8} (h : B[i]? = some c) (hc : clsU c = 0 ∨ clsU c = 1) : takeOf (B.drop i) = (ByteArray.empty, 0) := by
  rw [drop_cons_at h]
  unfold takeOf
  rw [tokAt_other hc]
theorem toNat_eq {c : UInt8} {n : Nat} (h : ((c.toNat : Nat) : Int) = (n : Int)) (hn : n < 256) : c = UInt8.ofNat n := by
  have : c.toNat = n := by omega
  subst this
  exact (UInt8.ofNat_toNat).symm
/-- What a sign is, by its byte and the next one. -/
theorem takeOf_two {B : List UInt8} {i : Nat} {c d : UInt8} (h : B[i]? = some c) (h' : B[i + 1]? = some d) (hc : clsU c = 5) :
    takeOf (B.drop i) = if (((c.toNat : Nat) : Int) = 58 ∧ ((d.toNat : Nat) : Int) = 61) ∨ (((c.toNat : Nat) : Int) = 61 ∧ ((d.toNat : Nat) : Int) = 62) then (bs ((B.drop i).take 2), 5) else if ((c.toNat : Nat) : Int) = 58 ∨ ((c.toNat : Nat) : Int) = 62 then (ByteArray.empty, 0) else (bs ((B.drop i).take 1), 5) := by
  rw [takeOf_sign h hc, drop_cons_at h, drop_cons_at h', sign_dec]
  have e1 : (c :: d :: B.drop (i + 1 + 1)).take 2 = [c, d] := rfl
  rw [e1]
  have a58 : ((c.toNat : Nat) : Int) = 58 ↔ c = 58 := ⟨fun h => toNat_eq (n := 58) h (by omega), fun h => by rw [h]; rfl⟩
  have a61 : ((c.toNat : Nat) : Int) = 61 ↔ c = 61 := ⟨fun h => toNat_eq (n := 61) h (by omega), fun h => by rw [h]; rfl⟩
  have b61 : ((d.toNat : Nat) : Int) = 61 ↔ d = 61 := ⟨fun h => toNat_eq (n := 61) h (by omega), fun h => by rw [h]; rfl⟩
  have b62 : ((d.toNat : Nat) : Int) = 62 ↔ d = 62 := ⟨fun h => toNat_eq (n := 62) h (by omega), fun h => by rw [h]; rfl⟩
  have k : ([c, d] = [58, 61] ∨ [c, d] = [61, 62]) ↔ (((c.toNat : Nat) : Int) = 58 ∧ ((d.toNat : Nat) : Int) = 61) ∨ (((c.toNat : Nat) : Int) = 61 ∧ ((d.toNat : Nat) : Int) = 62) := by
    rw [a58, a61, b61, b62]
    simp
  by_cases hk : (((c.toNat : Nat) : Int) = 58 ∧ ((d.toNat : Nat) : Int) = 61) ∨ (((c.toNat : Nat) : Int) = 61 ∧ ((d.toNat : Nat) : Int) = 62)
  · simp only [if_pos hk, if_pos (k.2 hk)]
    simp [e1]
  · simp only [if_neg hk, if_neg (fun h => hk (k.1 h))]
    by_cases hz : ((c.toNat : Nat) : Int) = 58 ∨ ((c.toNat : Nat) : Int) = 62
    · simp only [if_pos hz]
      simp
    · simp only [if_neg hz]
      simp
theorem takeOf_last {B : List UInt8} {i : Nat} {c : UInt8} (h : B[i]? = some c) (h' : B.length = i + 1) (hc : clsU c = 5) :
    takeOf (B.drop i) = if ((c.toNat : Nat) : Int) = 58 ∨ ((c.toNat : Nat) : Int) = 62 then (ByteArray.empty, 0) else (bs ((B.drop i).take 1), 5) := by
  have e : B.drop (i + 1) = [] := List.drop_eq_nil_of_le (by omega)
  rw [takeOf_sign h hc, drop_cons_at h, e, sign_dec]
  have k : ¬ ([c].take 2 = [58, 61] ∨ [c].take 2 = [61, 62]) := by simp
  simp only [if_neg k]
  by_cases hz : ((c.toNat : Nat) : Int) = 58 ∨ ((c.toNat : Nat) : Int) = 62
  · simp only [if_pos hz]
    simp
  · simp only [if_neg hz]
    simp
theorem cls_58 : cls 58 = 5 := by decide +kernel
theorem cls_61 : cls 61 = 5 := by decide +kernel
set_option maxRecDepth 8000 in
set_option maxHeartbeats 8000000 in
theorem ref03_take_sign (B : List UInt8) (at_ : Nat) (c : UInt8) (w : World) (b o len cap : Nat) (h1 : len ≤ cap) (h2 : cap ≤ 9223372036854775807) (hr : IsBytes w B (some ⟨b, o, none⟩) len) (hat : at_ < len) (hg : B[at_]? = some c) (hcl : clsU c = 5) :
    Calls Tryd.prog 19 #[.slice (some ⟨b, o, none⟩) len cap, .int .i64 (at_ : Int)] w (RetTake (B.drop at_) w) := by
  have hlen := hr.length
  have q : w.cell? ⟨b, o + at_, none⟩ = some (.int .u8 (c.toNat : Int)) := by
    obtain ⟨c', b', o', g, e, q⟩ := hr.at_ hat
    cases e
    rw [hg] at g
    cases g
    exact q
  have hbb := byte_bound c
  have KD0 := Lib.hid fun W => ref03_digit ((c.toNat : Nat) : Int) W hbb.1 hbb.2
  have KL0 := Lib.hid fun W => ref03_letter ((c.toNat : Nat) : Int) W hbb.1 hbb.2
  have KC0 := Lib.hid fun W => ref_class ((c.toNat : Nat) : Int) W hbb.1 hbb.2
  have e5 : cls ((c.toNat : Nat) : Int) = 5 := hcl
  have hcc : decide (cls ((c.toNat : Nat) : Int) = 2) = false := by rw [e5]; rfl
  have hcc' : decide (cls ((c.toNat : Nat) : Int) = 3 ∨ cls ((c.toNat : Nat) : Int) = 4) = false := by rw [e5]; rfl
  rw [hcc] at KD0
  rw [hcc'] at KL0
  rw [e5] at KC0
  have hz1 : (at_ : Int) < (len : Int) := by omega
  have hw1 : IntKind.i64.wrap ((at_ : Int) + 1) = (at_ : Int) + 1 := IntWalk.i64_in _ ⟨by omega, by omega⟩
  have hw2 : at_ + 1 < len → IntKind.i64.wrap ((at_ : Int) + 2) = (at_ : Int) + 2 := fun h => IntWalk.i64_in _ ⟨by omega, by omega⟩
  by_cases hl : at_ + 1 < len
  · obtain ⟨d, b', o', g, e, q2⟩ := hr.at_ hl
    cases e
    have HT := Lib.hid (takeOf_two hg g hcl)
    have HCV2 := Lib.hid fun W (h : Ext w W) k => conv_bytes (hr.ext h) at_ 2 k (by omega)
    have HCV1 := Lib.hid fun W (h : Ext w W) k => conv_bytes (hr.ext h) at_ 1 k (by omega)
    have hz2 : (at_ : Int) + 1 < (len : Int) := by omega
    have hw2 := hw2 hl
    generalize bs ((B.drop at_).take 2) = s2 at *
    generalize bs ((B.drop at_).take 1) = s1 at *
    generalize ((c.toNat : Nat) : Int) = C at *
    generalize ((d.toNat : Nat) : Int) = D at *
    clear hr hcc hcc' hg hcl hlen e5 g
    have hcs : (C = 58 ∧ D = 61) ∨ (C = 61 ∧ D = 62) ∨ (C = 58 ∧ D ≠ 61) ∨ (C = 61 ∧ D ≠ 62) ∨ C = 62 ∨ (C ≠ 58 ∧ C ≠ 61 ∧ C ≠ 62) := by omega
    rcases hcs with ⟨rfl, rfl⟩ | ⟨rfl, rfl⟩ | ⟨rfl, hd⟩ | ⟨rfl, hd⟩ | rfl | ⟨n1, n2, n3⟩
    · have HF : Hid (takeOf (B.drop at_) = (s2, 5)) := Lib.hid (by rw [HT.out]; simp)
      go_enter Tryd.func19, Tryd.ntmps19
      go_wp2_with (first | (go_at_call 35; refine (KD0.out _).mono ?_; rintro e w1 ⟨rfl, x1⟩) | (go_at_call 37; refine (KL0.out _).mono ?_; rintro e w2 ⟨rfl, x2⟩; have hcv2 := fun k => HCV2.out w2 (by (repeat (first | exact Ext.refl _ | assumption | refine Ext.alloc ?_ _ | refine Ext.drew ?_ | refine Ext.setCell ?_ (by first | (simp; done) | (simp; omega) | omega) _ | refine Ext.trans ?_ (by assumption)))) k; have q3 := (x1.trans x2).cell q2) | (go_at_call 18; refine (KC0.out _).mono ?_; rintro e w3 ⟨rfl, x3⟩; have hcv1 := fun k => HCV1.out w3 (by (repeat (first | exact Ext.refl _ | assumption | refine Ext.alloc ?_ _ | refine Ext.drew ?_ | refine Ext.setCell ?_ (by first | (simp; done) | (simp; omega) | omega) _ | refine Ext.trans ?_ (by assumption)))) k))
      go_ret2
      exact ⟨by rw [HF.out]; rfl, by (repeat (first | exact Ext.refl _ | assumption | refine Ext.alloc ?_ _ | refine Ext.drew ?_ | refine Ext.setCell ?_ (by first | (simp; done) | (simp; omega) | omega) _ | refine Ext.trans ?_ (by assumption)))⟩
    · have HF : Hid (takeOf (B.drop at_) = (s2, 5)) := Lib.hid (by rw [HT.out]; simp)
      go_enter Tryd.func19, Tryd.ntmps19
      go_wp2_with (first | (go_at_call 35; refine (KD0.out _).mono ?_; rintro e w1 ⟨rfl, x1⟩) | (go_at_call 37; refine (KL0.out _).mono ?_; rintro e w2 ⟨rfl, x2⟩; have hcv2 := fun k => HCV2.out w2 (by (repeat (first | exact Ext.refl _ | assumption | refine Ext.alloc ?_ _ | refine Ext.drew ?_ | refine Ext.setCell ?_ (by first | (simp; done) | (simp; omega) | omega) _ | refine Ext.trans ?_ (by assumption)))) k; have q3 := (x1.trans x2).cell q2) | (go_at_call 18; refine (KC0.out _).mono ?_; rintro e w3 ⟨rfl, x3⟩; have hcv1 := fun k => HCV1.out w3 (by (repeat (first | exact Ext.refl _ | assumption | refine Ext.alloc ?_ _ | refine Ext.drew ?_ | refine Ext.setCell ?_ (by first | (simp; done) | (simp; omega) | omega) _ | refine Ext.trans ?_ (by assumption)))) k))
      go_ret2
      exact ⟨by rw [HF.out]; rfl, by (repeat (first | exact Ext.refl _ | assumption | refine Ext.alloc ?_ _ | refine Ext.drew ?_ | refine Ext.setCell ?_ (by first | (simp; done) | (simp; omega) | omega) _ | refine Ext.trans ?_ (by assumption)))⟩
    · have HF : Hid (takeOf (B.drop at_) = (ByteArray.empty, 0)) := Lib.hid (by rw [HT.out]; simp [hd])
      have hdb : (D == 61) = false := by simpa using hd
      clear hd
      go_enter Tryd.func19, Tryd.ntmps19
      go_wp2_with (first | (go_at_call 35; refine (KD0.out _).mono ?_; rintro e w1 ⟨rfl, x1⟩) | (go_at_call 37; refine (KL0.out _).mono ?_; rintro e w2 ⟨rfl, x2⟩; have hcv2 := fun k => HCV2.out w2 (by (repeat (first | exact Ext.refl _ | assumption | refine Ext.alloc ?_ _ | refine Ext.drew ?_ | refine Ext.setCell ?_ (by first | (simp; done) | (simp; omega) | omega) _ | refine Ext.trans ?_ (by assumption)))) k; have q3 := (x1.trans x2).cell q2) | (go_at_call 18; refine (KC0.out _).mono ?_; rintro e w3 ⟨rfl, x3⟩; have hcv1 := fun k => HCV1.out w3 (by (repeat (first | exact Ext.refl _ | assumption | refine Ext.alloc ?_ _ | refine Ext.drew ?_ | refine Ext.setCell ?_ (by first | (simp; done) | (simp; omega) | omega) _ | refine Ext.trans ?_ (by assumption)))) k))
      go_ret2
      exact ⟨by rw [HF.out]; rfl, by (repeat (first | exact Ext.refl _ | assumption | refine Ext.alloc ?_ _ | refine Ext.drew ?_ | refine Ext.setCell ?_ (by first | (simp; done) | (simp; omega) | omega) _ | refine Ext.trans ?_ (by assumption)))⟩
    · have HF : Hid (takeOf (B.drop at_) = (s1, 5)) := Lib.hid (by rw [HT.out]; simp [hd])
      have hdb : (D == 62) = false := by simpa using hd
      clear hd
      go_enter Tryd.func19, Tryd.ntmps19
      go_wp2_with (first | (go_at_call 35; refine (KD0.out _).mono ?_; rintro e w1 ⟨rfl, x1⟩) | (go_at_call 37; refine (KL0.out _).mono ?_; rintro e w2 ⟨rfl, x2⟩; have hcv2 := fun k => HCV2.out w2 (by (repeat (first | exact Ext.refl _ | assumption | refine Ext.alloc ?_ _ | refine Ext.drew ?_ | refine Ext.setCell ?_ (by first | (simp; done) | (simp; omega) | omega) _ | refine Ext.trans ?_ (by assumption)))) k; have q3 := (x1.trans x2).cell q2) | (go_at_call 18; refine (KC0.out _).mono ?_; rintro e w3 ⟨rfl, x3⟩; have hcv1 := fun k => HCV1.out w3 (by (repeat (first | exact Ext.refl _ | assumption | refine Ext.alloc ?_ _ | refine Ext.drew ?_ | refine Ext.setCell ?_ (by first | (simp; done) | (simp; omega) | omega) _ | refine Ext.trans ?_ (by assumption)))) k))
      go_ret2
      exact ⟨by rw [HF.out]; rfl, by (repeat (first | exact Ext.refl _ | assumption | refine Ext.alloc ?_ _ | refine Ext.drew ?_ | refine Ext.setCell ?_ (by first | (simp; done) | (simp; omega) | omega) _ | refine Ext.trans ?_ (by assumption)))⟩
    · have HF : Hid (takeOf (B.drop at_) = (ByteArray.empty, 0)) := Lib.hid (by rw [HT.out]; simp)
      go_enter Tryd.func19, Tryd.ntmps19
      go_wp2_with (first | (go_at_call 35; refine (KD0.out _).mono ?_; rintro e w1 ⟨rfl, x1⟩) | (go_at_call 37; refine (KL0.out _).mono ?_; rintro e w2 ⟨rfl, x2⟩; have hcv2 := fun k => HCV2.out w2 (by (repeat (first | exact Ext.refl _ | assumption | refine Ext.alloc ?_ _ | refine Ext.drew ?_ | refine Ext.setCell ?_ (by first | (simp; done) | (simp; omega) | omega) _ | refine Ext.trans ?_ (by assumption)))) k; have q3 := (x1.trans x2).cell q2) | (go_at_call 18; refine (KC0.out _).mono ?_; rintro e w3 ⟨rfl, x3⟩; have hcv1 := fun k => HCV1.out w3 (by (repeat (first | exact Ext.refl _ | assumption | refine Ext.alloc ?_ _ | refine Ext.drew ?_ | refine Ext.setCell ?_ (by first | (simp; done) | (simp; omega) | omega) _ | refine Ext.trans ?_ (by assumption)))) k))
      go_ret2
      exact ⟨by rw [HF.out]; rfl, by (repeat (first | exact Ext.refl _ | assumption | refine Ext.alloc ?_ _ | refine Ext.drew ?_ | refine Ext.setCell ?_ (by first | (simp; done) | (simp; omega) | omega) _ | refine Ext.trans ?_ (by assumption)))⟩
    · have HF : Hid (takeOf (B.drop at_) = (s1, 5)) := Lib.hid (by rw [HT.out]; simp [n1, n2, n3])
      have c58 : (C == 58) = false := by simpa using n1
      have c61 : (C == 61) = false := by simpa using n2
      have d58 : (C != 58) = true := by simpa using n1
      have d62 : (C != 62) = true := by simpa using n3
      clear n1 n2 n3
      go_enter Tryd.func19, Tryd.ntmps19
      go_wp2_with (first | (go_at_call 35; refine (KD0.out _).mono ?_; rintro e w1 ⟨rfl, x1⟩) | (go_at_call 37; refine (KL0.out _).mono ?_; rintro e w2 ⟨rfl, x2⟩; have hcv2 := fun k => HCV2.out w2 (by (repeat (first | exact Ext.refl _ | assumption | refine Ext.alloc ?_ _ | refine Ext.drew ?_ | refine Ext.setCell ?_ (by first | (simp; done) | (simp; omega) | omega) _ | refine Ext.trans ?_ (by assumption)))) k; have q3 := (x1.trans x2).cell q2) | (go_at_call 18; refine (KC0.out _).mono ?_; rintro e w3 ⟨rfl, x3⟩; have hcv1 := fun k => HCV1.out w3 (by (repeat (first | exact Ext.refl _ | assumption | refine Ext.alloc ?_ _ | refine Ext.drew ?_ | refine Ext.setCell ?_ (by first | (simp; done) | (simp; omega) | omega) _ | refine Ext.trans ?_ (by assumption)))) k))
      go_ret2
      exact ⟨by rw [HF.out]; rfl, by (repeat (first | exact Ext.refl _ | assumption | refine Ext.alloc ?_ _ | refine Ext.drew ?_ | refine Ext.setCell ?_ (by first | (simp; done) | (simp; omega) | omega) _ | refine Ext.trans ?_ (by assumption)))⟩
  · have HT := Lib.hid (takeOf_last hg (by omega) hcl)
    have HCV1 := Lib.hid fun W (h : Ext w W) k => conv_bytes (hr.ext h) at_ 1 k (by omega)
    have hz2 : ¬ (at_ : Int) + 1 < (len : Int) := by omega
    clear hw2
    generalize bs ((B.drop at_).take 1) = s1 at *
    generalize ((c.toNat : Nat) : Int) = C at *
    clear hr hcc hcc' hg hcl hlen e5
    have hcs : C = 58 ∨ C = 62 ∨ (C ≠ 58 ∧ C ≠ 62) := by omega
    rcases hcs with rfl | rfl | ⟨n1, n3⟩
    · have HF : Hid (takeOf (B.drop at_) = (ByteArray.empty, 0)) := Lib.hid (by rw [HT.out]; simp)
      go_enter Tryd.func19, Tryd.ntmps19
      go_wp2_with (first | (go_at_call 35; refine (KD0.out _).mono ?_; rintro e w1 ⟨rfl, x1⟩) | (go_at_call 37; refine (KL0.out _).mono ?_; rintro e w2 ⟨rfl, x2⟩) | (go_at_call 18; refine (KC0.out _).mono ?_; rintro e w3 ⟨rfl, x3⟩; have hcv1 := fun k => HCV1.out w3 (by (repeat (first | exact Ext.refl _ | assumption | refine Ext.alloc ?_ _ | refine Ext.drew ?_ | refine Ext.setCell ?_ (by first | (simp; done) | (simp; omega) | omega) _ | refine Ext.trans ?_ (by assumption)))) k))
      go_ret2
      exact ⟨by rw [HF.out]; rfl, by (repeat (first | exact Ext.refl _ | assumption | refine Ext.alloc ?_ _ | refine Ext.drew ?_ | refine Ext.setCell ?_ (by first | (simp; done) | (simp; omega) | omega) _ | refine Ext.trans ?_ (by assumption)))⟩
    · have HF : Hid (takeOf (B.drop at_) = (ByteArray.empty, 0)) := Lib.hid (by rw [HT.out]; simp)
      go_enter Tryd.func19, Tryd.ntmps19
      go_wp2_with (first | (go_at_call 35; refine (KD0.out _).mono ?_; rintro e w1 ⟨rfl, x1⟩) | (go_at_call 37; refine (KL0.out _).mono ?_; rintro e w2 ⟨rfl, x2⟩) | (go_at_call 18; refine (KC0.out _).mono ?_; rintro e w3 ⟨rfl, x3⟩; have hcv1 := fun k => HCV1.out w3 (by (repeat (first | exact Ext.refl _ | assumption | refine Ext.alloc ?_ _ | refine Ext.drew ?_ | refine Ext.setCell ?_ (by first | (simp; done) | (simp; omega) | omega) _ | refine Ext.trans ?_ (by assumption)))) k))
      go_ret2
      exact ⟨by rw [HF.out]; rfl, by (repeat (first | exact Ext.refl _ | assumption | refine Ext.alloc ?_ _ | refine Ext.drew ?_ | refine Ext.setCell ?_ (by first | (simp; done) | (simp; omega) | omega) _ | refine Ext.trans ?_ (by assumption)))⟩
    · have HF : Hid (takeOf (B.drop at_) = (s1, 5)) := Lib.hid (by rw [HT.out]; simp [n1, n3])
      have d58 : (C != 58) = true := by simpa using n1
      have d62 : (C != 62) = true := by simpa using n3
      clear n1 n3
      go_enter Tryd.func19, Tryd.ntmps19
      go_wp2_with (first | (go_at_call 35; refine (KD0.out _).mono ?_; rintro e w1 ⟨rfl, x1⟩) | (go_at_call 37; refine (KL0.out _).mono ?_; rintro e w2 ⟨rfl, x2⟩) | (go_at_call 18; refine (KC0.out _).mono ?_; rintro e w3 ⟨rfl, x3⟩; have hcv1 := fun k => HCV1.out w3 (by (repeat (first | exact Ext.refl _ | assumption | refine Ext.alloc ?_ _ | refine Ext.drew ?_ | refine Ext.setCell ?_ (by first | (simp; done) | (simp; omega) | omega) _ | refine Ext.trans ?_ (by assumption)))) k))
      go_ret2
      exact ⟨by rw [HF.out]; rfl, by (repeat (first | exact Ext.refl _ | assumption | refine Ext.alloc ?_ _ | refine Ext.drew ?_ | refine Ext.setCell ?_ (by first | (simp; done) | (simp; omega) | omega) _ | refine Ext.trans ?_ (by assumption)))⟩
set_option maxRecDepth 8000 in
set_option maxHeartbeats 8000000 in
theorem ref03_take_none (B : List UInt8) (at_ : Nat) (c : UInt8) (w : World) (b o len cap : Nat) (h1 : len ≤ cap) (h2 : cap ≤ 9223372036854775807) (hr : IsBytes w B (some ⟨b, o, none⟩) len) (hat : at_ < len) (hg : B[at_]? = some c) (hcl : clsU c = 0 ∨ clsU c = 1) :
    Calls Tryd.prog 19 #[.slice (some ⟨b, o, none⟩) len cap, .int .i64 (at_ : Int)] w (RetTake (B.drop at_) w) := by
  have q : w.cell? ⟨b, o + at_, none⟩ = some (.int .u8 (c.toNat : Int)) := by
    obtain ⟨c', b', o', g, e, q⟩ := hr.at_ hat
    cases e
    rw [hg] at g
    cases g
    exact q
  have hbb := byte_bound c
  have KD0 := Lib.hid fun W => ref03_digit ((c.toNat : Nat) : Int) W hbb.1 hbb.2
  have KL0 := Lib.hid fun W => ref03_letter ((c.toNat : Nat) : Int) W hbb.1 hbb.2
  have KC0 := Lib.hid fun W => ref_class ((c.toNat : Nat) : Int) W hbb.1 hbb.2
  have hz1 : (at_ : Int) < (len : Int) := by omega
  have hw1 : IntKind.i64.wrap ((at_ : Int) + 1) = (at_ : Int) + 1 := IntWalk.i64_in _ ⟨by omega, by omega⟩
  have HT := Lib.hid (takeOf_none hg hcl)
  have hcl' : cls ((c.toNat : Nat) : Int) = 0 ∨ cls ((c.toNat : Nat) : Int) = 1 := hcl
  have n58 : ((c.toNat : Nat) : Int) ≠ 58 := fun e => by rw [e, cls_58] at hcl'; omega
  have n61 : ((c.toNat : Nat) : Int) ≠ 61 := fun e => by rw [e, cls_61] at hcl'; omega
  generalize ((c.toNat : Nat) : Int) = C at *
  have hcc : decide (cls C = 2) = false := by simp; omega
  have hcc' : decide (cls C = 3 ∨ cls C = 4) = false := by simp; omega
  rw [hcc] at KD0
  rw [hcc'] at KL0
  have c58 : (C == 58) = false := by simpa using n58
  have c61 : (C == 61) = false := by simpa using n61
  generalize cls C = K at *
  clear hcc hcc' hg hcl n58 n61
  have hr' := Lib.hid hr
  clear hr
  by_cases hl : at_ + 1 < len
  · have hz2 : (at_ : Int) + 1 < (len : Int) := by omega
    rcases hcl' with rfl | rfl
    all_goals
      go_enter Tryd.func19, Tryd.ntmps19
      go_wp2_with (first | (go_at_call 35; refine (KD0.out _).mono ?_; rintro e w1 ⟨rfl, x1⟩) | (go_at_call 37; refine (KL0.out _).mono ?_; rintro e w2 ⟨rfl, x2⟩) | (go_at_call 18; refine (KC0.out _).mono ?_; rintro e w3 ⟨rfl, x3⟩))
      go_ret2
      exact ⟨by rw [HT.out]; rfl, by (repeat (first | exact Ext.refl _ | assumption | refine Ext.alloc ?_ _ | refine Ext.drew ?_ | refine Ext.setCell ?_ (by first | (simp; done) | (simp; omega) | omega) _ | refine Ext.trans ?_ (by assumption)))⟩
  · have hz2 : ¬ (at_ : Int) + 1 < (len : Int) := by omega
    rcases hcl' with rfl | rfl
    all_goals
      go_enter Tryd.func19, Tryd.ntmps19
      go_wp2_with (first | (go_at_call 35; refine (KD0.out _).mono ?_; rintro e w1 ⟨rfl, x1⟩) | (go_at_call 37; refine (KL0.out _).mono ?_; rintro e w2 ⟨rfl, x2⟩) | (go_at_call 18; refine (KC0.out _).mono ?_; rintro e w3 ⟨rfl, x3⟩))
      go_ret2
      exact ⟨by rw [HT.out]; rfl, by (repeat (first | exact Ext.refl _ | assumption | refine Ext.alloc ?_ _ | refine Ext.drew ?_ | refine Ext.setCell ?_ (by first | (simp; done) | (simp; omega) | omega) _ | refine Ext.trans ?_ (by assumption)))⟩
/-- The token at a place. -/
theorem ref03_take (B : List UInt8) (at_ : Nat) (w : World) (b o len cap : Nat) (h1 : len ≤ cap) (h2 : cap ≤ 9223372036854775807) (hr : IsBytes w B (some ⟨b, o, none⟩) len) (hat : at_ < len) :
    Calls Tryd.prog 19 #[.slice (some ⟨b, o, none⟩) len cap, .int .i64 (at_ : Int)] w (RetTake (B.drop at_) w) := by
  obtain ⟨c, b', o', g, e, q⟩ := hr.at_ hat
  cases e
  have hb : 0 ≤ clsU c ∧ clsU c ≤ 5 := cls_bound _
  have : clsU c = 2 ∨ (clsU c = 3 ∨ clsU c = 4) ∨ clsU c = 5 ∨ (clsU c = 0 ∨ clsU c = 1) := by omega
  rcases this with h | h | h | h
  · exact ref03_take_digit B at_ c w b o len cap h1 h2 hr hat g h
  · exact ref03_take_letter B at_ c w b o len cap h1 h2 hr hat g h
  · exact ref03_take_sign B at_ c w b o len cap h1 h2 hr hat g h
  · exact ref03_take_none B at_ c w b o len cap h1 h2 hr hat g h
end Go.Proofs.YtaioeailgknfjaaDoor
