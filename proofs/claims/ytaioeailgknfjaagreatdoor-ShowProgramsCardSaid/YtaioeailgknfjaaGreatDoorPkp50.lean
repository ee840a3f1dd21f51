/- Part 50 of the proof: Ref03e; no condition of ours. -/
import Derived.Test.YtaioeailgknfjaaGreatDoorPkp49
set_option linter.unusedVariables false
set_option linter.unusedSimpArgs false
namespace Go.Proofs.YtaioeailgknfjaaGreatDoor
open Go.Lib (hid)
open Go Go.RowKit Go.Sort
theorem takeOf_sign {B : List UInt8} {i : Nat} {c : UInt8} (h : B[i]? = some c) (hc : clsU c = 5) : takeOf (B.drop i) = if signOf (B.drop i) = 0 then (ByteArray.empty, 0) else (bs ((B.drop i).take (signOf (B.drop i))), 5) := by
  rw [drop_cons_at h]
  unfold takeOf
  rw [tokAt_sign hc]
  by_cases h1 : signOf (c :: B.drop (i + 1)) = 0
  · simp only [if_pos h1]
  · simp only [if_neg h1]
theorem takeOf_none {B : List UInt8} {i : Nat} {c : UInt8} (h : B[i]? = some c) (hc : clsU c = 0 ∨ clsU c = 1) : takeOf (B.drop i) = (ByteArray.empty, 0) := by
  rw [drop_cons_at h]
  unfold takeOf
  rw [tokAt_other hc]
theorem toNat_eq {c : UInt8} {n : Nat} (h : ((c.toNat : Nat) : Int) = (n : Int)) (hn : n < 256) : c = UInt8.ofNat n := by
  have : c.toNat = n := by omega
  subst this
  exact (UInt8.ofNat_toNat).symm
theorem takeOf_two {B : List UInt8} {i : Nat} {c d : UInt8} (h : B[i]? = some c) (h' : B[i + 1]? = some d) (hc : clsU c = 5) :
    takeOf (B.drop i) = if (((c.toNat : Nat) : Int) = 58 ∧ ((d.toNat : Nat) : Int) = 61) ∨ (((c.toNat : Nat) : Int) = 61 ∧ ((d.toNat : Nat) : Int) = 62) then (bs ((B.drop i).take 2), 5) else if ((c.toNat : Nat) : Int) = 58 ∨ ((c.toNat : Nat) : Int) = 62 then (ByteArray.empty, 0) else (bs ((B.drop i).take 1), 5) := by
  rw [takeOf_sign h hc, drop_cons_at h, drop_cons_at h', sign_dec]
  have e1 : (c :: d :: B.drop (i + 1 + 1)).take 2 = [c, d] := rfl
  rw [e1]
  have a58 : ((c.toNat : Nat) : Int) = 58 ↔ c = 58 := ⟨fun h => toNat_eq (n := 58) h (by omega), fun h => by rw [h]; rfl⟩
  have a61 : ((c.toNat : Nat) : Int) = 61 ↔ c = 61 := ⟨fun h => toNat_eq (n := 61) h (by omega), fun h => by rw [h]; rfl⟩
  have b61 : ((d.toNat : Nat) : Int) = 61 ↔ d = 61 := ⟨fun h => toNat_eq (n := 61) h (by omega), fun h => by rw [h]; rfl⟩
  have b62 : ((d.toNat : Nat) : Int) = 62 ↔ d = 62 := ⟨fun h => toNat_eq (n := 62) h (by omega), fun h => by rw [h]; rfl⟩
  have k : ([c, d] = [58, 61] ∨ [c, d] = [61, 62]) ↔ (((c.toNat : Nat) : Int) = 58 ∧ ((d.toNat : Nat) : Int) = 61) ∨ (((c.toNat : Nat) : Int) = 61 ∧ ((d.toNat : Nat) : Int) = 62) := by
    rw [a58, a61, b61, b62]
    simp
  by_cases hk : (((c.toNat : Nat) : Int) = 58 ∧ ((d.toNat : Nat) : Int) = 61) ∨ (((c.toNat : Nat) : Int) = 61 ∧ ((d.toNat : Nat) : Int) = 62)
  · simp only [if_pos hk, if_pos (k.2 hk)]
    simp [e1]
  · simp only [if_neg hk, if_neg (fun h => hk (k.1 h))]
    by_cases hz : ((c.toNat : Nat) : Int) = 58 ∨ ((c.toNat : Nat) : Int) = 62
    · simp only [if_pos hz]
      simp
    · simp only [if_neg hz]
      simp
theorem takeOf_last {B : List UInt8} {i : Nat} {c : UInt8} (h : B[i]? = some c) (h' : B.length = i + 1) (hc : clsU c = 5) :
    takeOf (B.drop i) = if ((c.toNat : Nat) : Int) = 58 ∨ ((c.toNat : Nat) : Int) = 62 then (ByteArray.empty, 0) else (bs ((B.drop i).take 1), 5) := by
  have e : B.drop (i + 1) = [] := List.drop_eq_nil_of_le (by omega)
  rw [takeOf_sign h hc, drop_cons_at h, e, sign_dec]
  have k : ¬ ([c].take 2 = [58, 61] ∨ [c].take 2 = [61, 62]) := by simp
  simp only [if_neg k]
  by_cases hz : ((c.toNat : Nat) : Int) = 58 ∨ ((c.toNat : Nat) : Int) = 62
  · simp only [if_pos hz]
    simp
  · simp only [if_neg hz]
    simp
theorem cls_58 : cls 58 = 5 := by decide +kernel
theorem cls_61 : cls 61 = 5 := by decide +kernel
set_option maxRecDepth 8000 in
set_option maxHeartbeats 8000000 in
theorem ref03_take_sign (B : List UInt8) (at_ : Nat) (c : UInt8) (w : World) (b o len cap : Nat) (h1 : len ≤ cap) (h2 : cap ≤ 9223372036854775807) (hr : IsBytes w B (some ⟨b, o, none⟩) len) (hat : at_ < len) (hg : B[at_]? = some c) (hcl : clsU c = 5) :
    Calls Tryz.prog 33 #[.slice (some ⟨b, o, none⟩) len cap, .int .i64 (at_ : Int)] w (RetTake (B.drop at_) w) := by
  have hlen := hr.length
  have q : w.cell? ⟨b, o + at_, none⟩ = some (.int .u8 (c.toNat : Int)) := by
    obtain ⟨c', b', o', g, e, q⟩ := hr.at_ hat
    cases e
    rw [hg] at g
    cases g
    exact q
  have hbb := byte_bound c
  have KD0 := hid fun W => ref03_digit ((c.toNat : Nat) : Int) W hbb.1 hbb.2
  have KL0 := hid fun W => ref03_letter ((c.toNat : Nat) : Int) W hbb.1 hbb.2
  have KC0 := hid fun W => ref_class ((c.toNat : Nat) : Int) W hbb.1 hbb.2
  have e5 : cls ((c.toNat : Nat) : Int) = 5 := hcl
  have hcc : decide (cls ((c.toNat : Nat) : Int) = 2) = false := by rw [e5]; rfl
  have hcc' : decide (cls ((c.toNat : Nat) : Int) = 3 ∨ cls ((c.toNat : Nat) : Int) = 4) = false := by rw [e5]; rfl
  rw [hcc] at KD0
  rw [hcc'] at KL0
  rw [e5] at KC0
  have hz1 : (at_ : Int) < (len : Int) := by omega
  have hw1 : IntKind.i64.wrap ((at_ : Int) + 1) = (at_ : Int) + 1 := IntWalk.i64_in _ ⟨by omega, by omega⟩
  have hw2 : at_ + 1 < len → IntKind.i64.wrap ((at_ : Int) + 2) = (at_ : Int) + 2 := fun h => IntWalk.i64_in _ ⟨by omega, by omega⟩
  by_cases hl : at_ + 1 < len
  · obtain ⟨d, b', o', g, e, q2⟩ := hr.at_ hl
    cases e
    have HT := hid (takeOf_two hg g hcl)
    have HCV2 := hid fun W (h : Ext w W) k => conv_bytes (hr.ext h) at_ 2 k (by omega)
    have HCV1 := hid fun W (h : Ext w W) k => conv_bytes (hr.ext h) at_ 1 k (by omega)
    have hz2 : (at_ : Int) + 1 < (len : Int) := by omega
    have hw2 := hw2 hl
    generalize bs ((B.drop at_).take 2) = s2 at *
    generalize bs ((B.drop at_).take 1) = s1 at *
    generalize ((c.toNat : Nat) : Int) = C at *
    generalize ((d.toNat : Nat) : Int) = D at *
    clear hr hcc hcc' hg hcl hlen e5 g
    have hcs : (C = 58 ∧ D = 61) ∨ (C = 61 ∧ D = 62) ∨ (C = 58 ∧ D ≠ 61) ∨ (C = 61 ∧ D ≠ 62) ∨ C = 62 ∨ (C ≠ 58 ∧ C ≠ 61 ∧ C ≠ 62) := by omega
    rcases hcs with ⟨rfl, rfl⟩ | ⟨rfl, rfl⟩ | ⟨rfl, hd⟩ | ⟨rfl, hd⟩ | rfl | ⟨n1, n2, n3⟩
    · have HF : Hid (takeOf (B.drop at_) = (s2, 5)) := hid (by rw [HT.out]; simp)
      go_enter Tryz.func33, Tryz.ntmps33
      go_wp2_with (first | (go_at_call 62; refine (KD0.out _).mono ?_; rintro e w1 ⟨rfl, x1⟩) | (go_at_call 64; refine (KL0.out _).mono ?_; rintro e w2 ⟨rfl, x2⟩; have hcv2 := fun k => HCV2.out w2 (by (exact eX)) k; have q3 := (x1.trans x2).cell q2) | (go_at_call 32; refine (KC0.out _).mono ?_; rintro e w3 ⟨rfl, x3⟩; have hcv1 := fun k => HCV1.out w3 (by (exact eX)) k))
      go_ret2
      exact ⟨by rw [HF.out]; rfl, by (exact eX)⟩
    · have HF : Hid (takeOf (B.drop at_) = (s2, 5)) := hid (by rw [HT.out]; simp)
      go_enter Tryz.func33, Tryz.ntmps33
      go_wp2_with (first | (go_at_call 62; refine (KD0.out _).mono ?_; rintro e w1 ⟨rfl, x1⟩) | (go_at_call 64; refine (KL0.out _).mono ?_; rintro e w2 ⟨rfl, x2⟩; have hcv2 := fun k => HCV2.out w2 (by (exact eX)) k; have q3 := (x1.trans x2).cell q2) | (go_at_call 32; refine (KC0.out _).mono ?_; rintro e w3 ⟨rfl, x3⟩; have hcv1 := fun k => HCV1.out w3 (by (exact eX)) k))
      go_ret2
      exact ⟨by rw [HF.out]; rfl, by (exact eX)⟩
    · have HF : Hid (takeOf (B.drop at_) = (ByteArray.empty, 0)) := hid (by rw [HT.out]; simp [hd])
      have hdb : (D == 61) = false := by simpa using hd
      clear hd
      go_enter Tryz.func33, Tryz.ntmps33
      go_wp2_with (first | (go_at_call 62; refine (KD0.out _).mono ?_; rintro e w1 ⟨rfl, x1⟩) | (go_at_call 64; refine (KL0.out _).mono ?_; rintro e w2 ⟨rfl, x2⟩; have hcv2 := fun k => HCV2.out w2 (by (exact eX)) k; have q3 := (x1.trans x2).cell q2) | (go_at_call 32; refine (KC0.out _).mono ?_; rintro e w3 ⟨rfl, x3⟩; have hcv1 := fun k => HCV1.out w3 (by (exact eX)) k))
      go_ret2
      exact ⟨by rw [HF.out]; rfl, by (exact eX)⟩
    · have HF : Hid (takeOf (B.drop at_) = (s1, 5)) := hid (by rw [HT.out]; simp [hd])
      have hdb : (D == 62) = false := by simpa using hd
      clear hd
      go_enter Tryz.func33, Tryz.ntmps33
      go_wp2_with (first | (go_at_call 62; refine (KD0.out _).mono ?_; rintro e w1 ⟨rfl, x1⟩) | (go_at_call 64; refine (KL0.out _).mono ?_; rintro e w2 ⟨rfl, x2⟩; have hcv2 := fun k => HCV2.out w2 (by (exact eX)) k; have q3 := (x1.trans x2).cell q2) | (go_at_call 32; refine (KC0.out _).mono ?_; rintro e w3 ⟨rfl, x3⟩; have hcv1 := fun k => HCV1.out w3 (by (exact eX)) k))
      go_ret2
      exact ⟨by rw [HF.out]; rfl, by (exact eX)⟩
    · have HF : Hid (takeOf (B.drop at_) = (ByteArray.empty, 0)) := hid (by rw [HT.out]; simp)
      go_enter Tryz.func33, Tryz.ntmps33
      go_wp2_with (first | (go_at_call 62; refine (KD0.out _).mono ?_; rintro e w1 ⟨rfl, x1⟩) | (go_at_call 64; refine (KL0.out _).mono ?_; rintro e w2 ⟨rfl, x2⟩; have hcv2 := fun k => HCV2.out w2 (by (exact eX)) k; have q3 := (x1.trans x2).cell q2) | (go_at_call 32; refine (KC0.out _).mono ?_; rintro e w3 ⟨rfl, x3⟩; have hcv1 := fun k => HCV1.out w3 (by (exact eX)) k))
      go_ret2
      exact ⟨by rw [HF.out]; rfl, by (exact eX)⟩
    · have HF : Hid (takeOf (B.drop at_) = (s1, 5)) := hid (by rw [HT.out]; simp [n1, n2, n3])
      have c58 : (C == 58) = false := by simpa using n1
      have c61 : (C == 61) = false := by simpa using n2
      have d58 : (C != 58) = true := by simpa using n1
      have d62 : (C != 62) = true := by simpa using n3
      clear n1 n2 n3
      go_enter Tryz.func33, Tryz.ntmps33
      go_wp2_with (first | (go_at_call 62; refine (KD0.out _).mono ?_; rintro e w1 ⟨rfl, x1⟩) | (go_at_call 64; refine (KL0.out _).mono ?_; rintro e w2 ⟨rfl, x2⟩; have hcv2 := fun k => HCV2.out w2 (by (exact eX)) k; have q3 := (x1.trans x2).cell q2) | (go_at_call 32; refine (KC0.out _).mono ?_; rintro e w3 ⟨rfl, x3⟩; have hcv1 := fun k => HCV1.out w3 (by (exact eX)) k))
      go_ret2
      exact ⟨by rw [HF.out]; rfl, by (exact eX)⟩
  · have HT := hid (takeOf_last hg (by omega) hcl)
    have HCV1 := hid fun W (h : Ext w W) k => conv_bytes (hr.ext h) at_ 1 k (by omega)
    have hz2 : ¬ (at_ : Int) + 1 < (len : Int) := by omega
    clear hw2
    generalize bs ((B.drop at_).take 1) = s1 at *
    generalize ((c.toNat : Nat) : Int) = C at *
    clear hr hcc hcc' hg hcl hlen e5
    have hcs : C = 58 ∨ C = 62 ∨ (C ≠ 58 ∧ C ≠ 62) := by omega
    rcases hcs with rfl | rfl | ⟨n1, n3⟩
    · have HF : Hid (takeOf (B.drop at_) = (ByteArray.empty, 0)) := hid (by rw [HT.out]; simp)
      go_enter Tryz.func33, Tryz.ntmps33
      go_wp2_with (first | (go_at_call 62; refine (KD0.out _).mono ?_; rintro e w1 ⟨rfl, x1⟩) | (go_at_call 64; refine (KL0.out _).mono ?_; rintro e w2 ⟨rfl, x2⟩) | (go_at_call 32; refine (KC0.out _).mono ?_; rintro e w3 ⟨rfl, x3⟩; have hcv1 := fun k => HCV1.out w3 (by (exact eX)) k))
      go_ret2
      exact ⟨by rw [HF.out]; rfl, by (exact eX)⟩
    · have HF : Hid (takeOf (B.drop at_) = (ByteArray.empty, 0)) := hid (by rw [HT.out]; simp)
      go_enter Tryz.func33, Tryz.ntmps33
      go_wp2_with (first | (go_at_call 62; refine (KD0.out _).mono ?_; rintro e w1 ⟨rfl, x1⟩) | (go_at_call 64; refine (KL0.out _).mono ?_; rintro e w2 ⟨rfl, x2⟩) | (go_at_call 32; refine (KC0.out _).mono ?_; rintro e w3 ⟨rfl, x3⟩; have hcv1 := fun k => HCV1.out w3 (by (exact eX)) k))
      go_ret2
      exact ⟨by rw [HF.out]; rfl, by (exact eX)⟩
    · have HF : Hid (takeOf (B.drop at_) = (s1, 5)) := hid (by rw [HT.out]; simp [n1, n3])
      have d58 : (C != 58) = true := by simpa using n1
      have d62 : (C != 62) = true := by simpa using n3
      clear n1 n3
      go_enter Tryz.func33, Tryz.ntmps33
      go_wp2_with (first | (go_at_call 62; refine (KD0.out _).mono ?_; rintro e w1 ⟨rfl, x1⟩) | (go_at_call 64; refine (KL0.out _).mono ?_; rintro e w2 ⟨rfl, x2⟩) | (go_at_call 32; refine (KC0.out _).mono ?_; rintro e w3 ⟨rfl, x3⟩; have hcv1 := fun k => HCV1.out w3 (by (exact eX)) k))
      go_ret2
      exact ⟨by rw [HF.out]; rfl, by (exact eX)⟩
set_option maxRecDepth 8000 in
set_option maxHeartbeats 8000000 in
theorem ref03_take_none (B : List UInt8) (at_ : Nat) (c : UInt8) (w : World) (b o len cap : Nat) (h1 : len ≤ cap) (h2 : cap ≤ 9223372036854775807) (hr : IsBytes w B (some ⟨b, o, none⟩) len) (hat : at_ < len) (hg : B[at_]? = some c) (hcl : clsU c = 0 ∨ clsU c = 1) :
    Calls Tryz.prog 33 #[.slice (some ⟨b, o, none⟩) len cap, .int .i64 (at_ : Int)] w (RetTake (B.drop at_) w) := by
  have q : w.cell? ⟨b, o + at_, none⟩ = some (.int .u8 (c.toNat : Int)) := by
    obtain ⟨c', b', o', g, e, q⟩ := hr.at_ hat
    cases e
    rw [hg] at g
    cases g
    exact q
  have hbb := byte_bound c
  have KD0 := hid fun W => ref03_digit ((c.toNat : Nat) : Int) W hbb.1 hbb.2
  have KL0 := hid fun W => ref03_letter ((c.toNat : Nat) : Int) W hbb.1 hbb.2
  have KC0 := hid fun W => ref_class ((c.toNat : Nat) : Int) W hbb.1 hbb.2
  have hz1 : (at_ : Int) < (len : Int) := by omega
  have hw1 : IntKind.i64.wrap ((at_ : Int) + 1) = (at_ : Int) + 1 := IntWalk.i64_in _ ⟨by omega, by omega⟩
  have HT := hid (takeOf_none hg hcl)
  have hcl' : cls ((c.toNat : Nat) : Int) = 0 ∨ cls ((c.toNat : Nat) : Int) = 1 := hcl
  have n58 : ((c.toNat : Nat) : Int) ≠ 58 := fun e => by rw [e, cls_58] at hcl'; omega
  have n61 : ((c.toNat : Nat) : Int) ≠ 61 := fun e => by rw [e, cls_61] at hcl'; omega
  generalize ((c.toNat : Nat) : Int) = C at *
  have hcc : decide (cls C = 2) = false := by simp; omega
  have hcc' : decide (cls C = 3 ∨ cls C = 4) = false := by simp; omega
  rw [hcc] at KD0
  rw [hcc'] at KL0
  have c58 : (C == 58) = false := by simpa using n58
  have c61 : (C == 61) = false := by simpa using n61
  generalize cls C = K at *
  clear hcc hcc' hg hcl n58 n61
  have hr' := hid hr
  clear hr
  by_cases hl : at_ + 1 < len
  · have hz2 : (at_ : Int) + 1 < (len : Int) := by omega
    rcases hcl' with rfl | rfl
    all_goals
      go_enter Tryz.func33, Tryz.ntmps33
      go_wp2_with (first | (go_at_call 62; refine (KD0.out _).mono ?_; rintro e w1 ⟨rfl, x1⟩) | (go_at_call 64; refine (KL0.out _).mono ?_; rintro e w2 ⟨rfl, x2⟩) | (go_at_call 32; refine (KC0.out _).mono ?_; rintro e w3 ⟨rfl, x3⟩))
      go_ret2
      exact ⟨by rw [HT.out]; rfl, by (exact eX)⟩
  · have hz2 : ¬ (at_ : Int) + 1 < (len : Int) := by omega
    rcases hcl' with rfl | rfl
    all_goals
      go_enter Tryz.func33, Tryz.ntmps33
      go_wp2_with (first | (go_at_call 62; refine (KD0.out _).mono ?_; rintro e w1 ⟨rfl, x1⟩) | (go_at_call 64; refine (KL0.out _).mono ?_; rintro e w2 ⟨rfl, x2⟩) | (go_at_call 32; refine (KC0.out _).mono ?_; rintro e w3 ⟨rfl, x3⟩))
      go_ret2
      exact ⟨by rw [HT.out]; rfl, by (exact eX)⟩
theorem ref03_take (B : List UInt8) (at_ : Nat) (w : World) (b o len cap : Nat) (h1 : len ≤ cap) (h2 : cap ≤ 9223372036854775807) (hr : IsBytes w B (some ⟨b, o, none⟩) len) (hat : at_ < len) :
    Calls Tryz.prog 33 #[.slice (some ⟨b, o, none⟩) len cap, .int .i64 (at_ : Int)] w (RetTake (B.drop at_) w) := by
  obtain ⟨c, b', o', g, e, q⟩ := hr.at_ hat
  cases e
  have hb : 0 ≤ clsU c ∧ clsU c ≤ 5 := cls_bound _
  have : clsU c = 2 ∨ (clsU c = 3 ∨ clsU c = 4) ∨ clsU c = 5 ∨ (clsU c = 0 ∨ clsU c = 1) := by omega
  rcases this with h | h | h | h
  · exact ref03_take_digit B at_ c w b o len cap h1 h2 hr hat g h
  · exact ref03_take_letter B at_ c w b o len cap h1 h2 hr hat g h
  · exact ref03_take_sign B at_ c w b o len cap h1 h2 hr hat g h
  · exact ref03_take_none B at_ c w b o len cap h1 h2 hr hat g h
theorem LexAt.blank1 {B : List UInt8} {o : List Tok} {p : Nat} (h : LexAt B o p) {c : UInt8} (hg : B[p]? = some c) (hc : clsU c = 1) : LexAt B o (p + 1) := by
  have hlt := (List.getElem?_eq_some_iff.1 hg).1
  refine ⟨by omega, ?_, h.fits, by have := h.few; omega⟩
  rw [h.eq, drop_cons_at hg, lexL_blank hc]
theorem takeOf_some {l : List UInt8} {n : Nat} {k : Int} (h : tokAt l = some (n, k)) : takeOf l = (bs (l.take n), k) := by unfold takeOf; rw [h]
theorem takeOf_no {l : List UInt8} (h : tokAt l = none) : takeOf l = (ByteArray.empty, 0) := by unfold takeOf; rw [h]
theorem no_blank {B : List UInt8} {p : Nat} {c : UInt8} (hg : B[p]? = some c) (hc : clsU c ≠ 1) : ∀ c r, B.drop p = c :: r → clsU c ≠ 1 := by
  intro c' r h
  rw [drop_cons_at hg] at h
  cases h
  exact hc
theorem owns_none (w : World) (base : Nat) (e : TypeId) (size : Nat) (hb : base ≤ w.heap.size) : (w.alloc (.cells #[] e)).ownsRow base e size (.slice (some ⟨w.heap.size, 0, none⟩) 0 0) 0 [] :=
  owns_new w base e size 0 [] hb (by unfold maxLen; omega) (by simp)
set_option maxRecDepth 8000 in
set_option maxHeartbeats 8000000 in
theorem ref03_lex (B : List UInt8) (w : World) (a : Option Addr) (len cap : Nat) (h1 : len ≤ cap) (h2 : cap ≤ 9223372036854775807) (hr : IsBytes w B a len) :
    Calls Tryz.prog 12 #[.slice a len cap] w (RetLex B w) := by
  have hlen := hr.length
  have HLEN := hid hlen
  have HR := hid hr
  clear hr
  by_cases h64 : 65536 < len
  · have hz : (65536 : Int) < (len : Int) := by omega
    have HX := hid (lexR_long (B := B) (by omega))
    clear hlen
    go_enter Tryz.func12, Tryz.ntmps12
    go_wp2_with fail
    refine bodyPost_ret (v := .tuple #[.slice (some ⟨w.heap.size, 0, none⟩) 0 0, .int .i64 0, .int .i64 3]) (by simp [results, Tryz.results12, go_sem]) rfl ⟨_, 0, 0, by rw [HX.out], Nat.le_refl _, by omega, by rw [HX.out]; exact ⟨IsFlat.nil _ _ _, by simp⟩, by (exact eX)⟩
  have hz : (len : Int) ≤ 65536 := by omega
  have HNL := hid (show ¬ 65536 < B.length from by omega)
  obtain ⟨i0, hi, hz0, hz1', hz2'⟩ := infoTk1
  have HIN := hid (And.intro hi (And.intro hz0 (And.intro hz1' hz2')))
  clear hi hz0 hz1' hz2' hlen
  go_enter Tryz.func12, Tryz.ntmps12
  go_wp2_with fail
  go_loopg [5, 6] len (fun g s i wr => ∃ (p : Nat) (o : List Tok), g = len - p ∧ i = .int .i64 p ∧ LexAt B o p ∧ OwnToks wr w.heap.size s o ∧ Ext w wr)
  case atStart => exact ⟨0, [], rfl, rfl, LexAt.start B, owns_none w w.heap.size _ _ (Nat.le_refl _), by (exact eX)⟩
  case round =>
    obtain ⟨p, o, rfl, rfl, hA, hO, hx⟩ := hrel
    have HA := hid hA
    have HO := hid hO
    have hple : p ≤ len := by have := HA.out.le; have := HLEN.out; omega
    have hfew := hA.few
    clear hA hO
    by_cases hlt : p < len
    · obtain ⟨c, b, o', g, rfl, q⟩ := (HR.out.ext hx).at_ hlt
      have hz1 : (p : Int) < (len : Int) := by omega
      have hbb := byte_bound c
      have KC := hid fun W => ref_class ((c.toNat : Nat) : Int) W hbb.1 hbb.2
      by_cases hc1 : clsU c = 1
      · have hc1' : cls ((c.toNat : Nat) : Int) = 1 := hc1
        rw [hc1'] at KC
        have HA2 := hid (HA.out.blank1 g hc1)
        have hw1 : IntKind.i64.wrap ((p : Int) + 1) = (p : Int) + 1 := IntWalk.i64_in _ ⟨by omega, by omega⟩
        clear g hc1 hc1'
        go_wp2_with (go_at_call 32; refine (KC.out _).mono ?_; rintro e w1 ⟨rfl, x1⟩)
        go_roundg (len - (p + 1))
        case rel => exact ⟨p + 1, o, rfl, by go_num, HA2.out, owns_ext x1 HO.out, hx.trans x1⟩
        case measure => omega
      have hnb := no_blank g hc1
      have hcb : (cls ((c.toNat : Nat) : Int) == 1) = false := by simpa [clsU] using hc1
      have HNB := hid hnb
      generalize cls ((c.toNat : Nat) : Int) = K at *
      have KN : Hid (∀ W, Ext wr W → Calls Tryz.prog 33 #[.slice (some ⟨b, o', none⟩) len cap, .int .i64 (p : Int)] W fun e w' => e = .returned (.tuple #[.string (takeOf (B.drop p)).1, .int .u8 (takeOf (B.drop p)).2]) ∧ Ext W w') := hid fun W h => ref03_take B p W b o' len cap h1 h2 ((HR.out.ext hx).ext h) hlt
      clear g hc1 hnb
      cases ht : tokAt (B.drop p) with
      | none =>
        rw [takeOf_no ht] at KN
        have HE := hid (HA.out.none_ HNB.out (by have := HLEN.out; omega) ht)
        have HX := hid (lexR_error HNL.out HE.out)
        clear ht
        go_wp2_with (first | (go_at_call 32; refine (KC.out _).mono ?_; rintro e w1 ⟨rfl, x1⟩) | (go_at_call 33; refine (KN.out _ (by (exact eX))).mono ?_; rintro e w2 ⟨rfl, x2⟩))
        refine bodyPost_ret (v := .tuple #[.slice (some ⟨w2.heap.size, 0, none⟩) 0 0, .int .i64 p, .int .i64 2]) (by simp [results, Tryz.results12, go_sem]) rfl ⟨_, 0, 0, by rw [HX.out], Nat.le_refl _, by omega, by rw [HX.out]; exact ⟨IsFlat.nil _ _ _, by simp⟩, by (exact eX)⟩
      | some nk =>
        obtain ⟨n, k⟩ := nk
        rw [takeOf_some ht] at KN
        have hbd := tokAt_bd ht
        have A1 := HA.out.tok HNB.out ht (by have := HLEN.out; omega)
        have hsz : (bs ((B.drop p).take n)).size = n := by rw [bs_size, List.length_take]; omega
        have hpn : p + n ≤ len := by have := A1.le; have := HLEN.out; omega
        have HS := hid (show (((bs ((B.drop p).take n)).size : Nat) : Int) = (n : Int) from by rw [hsz])
        have HOT : Hid (∀ W v', Ext w W → W.ownsRow w.heap.size 37 3 v' (o.length + 1) ((o.map fun t => tkcells t.tk).flatten ++ [.int .u8 k, .string (bs ((B.drop p).take n)), .int .i64 p]) → OwnToks W w.heap.size v' (o ++ [⟨k, bs ((B.drop p).take n), p⟩])) := hid fun W v' _ h => by
          unfold OwnToks
          rw [toks_snoc, List.length_append]
          exact h
        rw [List.length_drop] at hbd
        generalize hss : bs ((B.drop p).take n) = s at *
        have HA2 := hid A1
        have hw1 : IntKind.i64.wrap ((p : Int) + (n : Int)) = (p : Int) + n := IntWalk.i64_in _ ⟨by omega, by omega⟩
        have hk0 : (k == 0) = false := by simp; omega
        clear ht A1 hss hsz
        obtain ⟨sa, sc, rfl, -, -, -⟩ := HO.out.open_ HA.out.fits
        go_wp2_with (first | (go_at_call 32; refine (KC.out _).mono ?_; rintro e w1 ⟨rfl, x1⟩) | (go_at_call 33; refine (KN.out _ (by (exact eX))).mono ?_; rintro e w2 ⟨rfl, x2⟩; have y2 := hx.trans (x1.trans x2)) | (at_builtin; refine wpList_append_mine rfl (.tmp 36) (.tmp 41) 32 ?r0 w.heap.size 37 i0 (.agg #[.int .u8 0, .string ByteArray.empty, .int .i64 0]) 3 32 ?r1 ?r2 ?r3 ?r4 ?r5 ?r6 ?r7 (Value.slice sa o.length sc) o.length (o.map fun t => tkcells t.tk).flatten ?r8 ?r9 ⟨w2.heap.size, 0, none⟩ 1 1 [.int .u8 k, .string s, .int .i64 p] ?r10 ?r11 ?r12 ?r13 ?r14 ?r15 ?r16 ?r17))
        case r0 => rfl
        case r1 => exact Tryz.underlying32
        case r2 => exact HIN.out.1
        case r3 => exact HIN.out.2.1
        case r4 => exact HIN.out.2.2.1
        case r5 => exact HIN.out.2.2.2
        case r6 => rfl
        case r7 => decide
        case r8 => rfl
        case r9 => exact owns_ext ((x1.trans x2).alloc _) HO.out
        case r10 => rfl
        case r11 => rfl
        case r12 => exact tkcells_at w2 k s p 37
        case r13 => exact tkcells_one k s p
        case r14 => unfold maxLen; omega
        case r15 => omega
        case r16 => have := y2.size; simp; omega
        case r17 =>
          intro v9 w9 ho9 hg9 _
          have hX9 := ext_grown hg9 (y2.alloc _) (fun k hk => (HO.out.lt k hk).1)
          have HO9 := hid (HOT.out w9 v9 hX9 ho9)
          have hs := HS.out
          clear ho9 hg9
          go_wp2_with fail
          go_roundg (len - (p + n))
          case rel => exact ⟨p + n, _, rfl, by go_num, HA2.out, HO9.out, hX9⟩
          case measure => omega
    · obtain rfl : p = len := by omega
      have HAE : Hid (LexAt B o B.length) := hid (by have := HA.out; rw [← HLEN.out]; exact this)
      have HX := hid (lexR_ok HNL.out HAE.out.end_)
      have HFE := hid (HAE.out.fitsEnd (by have := HNL.out; omega))
      obtain ⟨sa, sc, rfl, -, -, -⟩ := HO.out.open_ HA.out.fits
      go_wp2_with (at_builtin; refine wpList_append_mine rfl (.tmp 47) (.tmp 51) 32 ?r0 w.heap.size 37 i0 (.agg #[.int .u8 0, .string ByteArray.empty, .int .i64 0]) 3 32 ?r1 ?r2 ?r3 ?r4 ?r5 ?r6 ?r7 (Value.slice sa o.length sc) o.length (o.map fun t => tkcells t.tk).flatten ?r8 ?r9 ⟨wr.heap.size, 0, none⟩ 1 1 [.int .u8 6, .string ByteArray.empty, .int .i64 p] ?r10 ?r11 ?r12 ?r13 ?r14 ?r15 ?r16 ?r17)
      case r0 => rfl
      case r1 => exact Tryz.underlying32
      case r2 => exact HIN.out.1
      case r3 => exact HIN.out.2.1
      case r4 => exact HIN.out.2.2.1
      case r5 => exact HIN.out.2.2.2
      case r6 => rfl
      case r7 => decide
      case r8 => rfl
      case r9 => exact owns_ext ((Ext.refl _).alloc _) HO.out
      case r10 => rfl
      case r11 => rfl
      case r12 => exact tkcells_at wr 6 ByteArray.empty p _
      case r13 => exact tkcells_one 6 ByteArray.empty p
      case r14 => unfold maxLen; omega
      case r15 => omega
      case r16 => have := hx.size; simp; omega
      case r17 =>
        intro v9 w9 ho9 hg9 _
        have hX9 := ext_grown hg9 (hx.alloc _) (fun k hk => (HO.out.lt k hk).1)
        obtain ⟨na, nc, rfl, hn1, hn2, hn3⟩ := OwnToks.open_ (o := o ++ [(⟨6, ByteArray.empty, p⟩ : Tok)]) (w := w9) (base := w.heap.size) (by unfold OwnToks; rw [toks_snoc, List.length_append]; exact ho9) (by have := HFE.out; rw [← HLEN.out] at this; exact this)
        have HN3 := hid hn3
        have HXX : Hid (lexR B = ((o ++ [(⟨6, ByteArray.empty, p⟩ : Tok)]).map Tok.tk, 0, 0)) := hid (by have := HX.out; rw [← HLEN.out] at this; exact this)
        clear ho9 hg9 hn3
        go_wp2_with fail
        refine bodyPost_ret (v := .tuple #[.slice na (o ++ [(⟨6, ByteArray.empty, p⟩ : Tok)]).length nc, .int .i64 0, .int .i64 0]) (by simp [results, Tryz.results12, go_sem]) rfl ⟨na, (o ++ [(⟨6, ByteArray.empty, p⟩ : Tok)]).length, nc, by rw [HXX.out], hn1, hn2, by rw [HXX.out]; exact HN3.out, by (exact eX)⟩
end Go.Proofs.YtaioeailgknfjaaGreatDoor
