/- Part 49 of the proof: Ref03; no condition of ours. -/
import Derived.Test.YtaioeailgknfjaaGreatDoorPkp7
import Derived.Test.YtaioeailgknfjaaGreatDoorPkp10
import Derived.Test.YtaioeailgknfjaaGreatDoorPkp11
import Derived.Test.YtaioeailgknfjaaGreatDoorPkp34
set_option linter.unusedVariables false
set_option linter.unusedSimpArgs false
namespace Go.Proofs.YtaioeailgknfjaaGreatDoor
open Go.Lib (hid)
open Go Go.RowKit Go.Sort
theorem digit_cls (c : Int) (h0 : 0 ≤ c) (h1 : c ≤ 255) : (decide (48 ≤ c) && decide (c ≤ 57)) = decide (cls c = 2) := by
  obtain ⟨n, rfl⟩ : ∃ n : Nat, c = n := ⟨c.toNat, by omega⟩
  have : ∀ n : Fin 256, (decide (48 ≤ ((n.val : Nat) : Int)) && decide (((n.val : Nat) : Int) ≤ 57)) = decide (cls ((n.val : Nat) : Int) = 2) := by decide +kernel
  exact this ⟨n, by omega⟩
theorem ref03_digit (c : Int) (w : World) (h0 : 0 ≤ c) (h1 : c ≤ 255) : Calls Tryz.prog 62 #[.int .u8 c] w fun e w' => e = .returned (.bool (decide (cls c = 2))) ∧ Ext w w' := by
  have hd := digit_cls c h0 h1
  by_cases h48 : 48 ≤ c
  · have HD : Hid (decide (c ≤ 57) = decide (cls c = 2)) := hid (by rw [← hd]; simp [h48])
    clear hd
    go_enter Tryz.func62, Tryz.ntmps62
    go_wp2_with fail
    go_ret
    exact ⟨by rw [← HD.out]; rfl, by (exact eX)⟩
  · have HD : Hid (false = decide (cls c = 2)) := hid (by rw [← hd]; simp [h48])
    clear hd
    go_enter Tryz.func62, Tryz.ntmps62
    go_wp2_with fail
    go_ret
    exact ⟨by rw [← HD.out]; rfl, by (exact eX)⟩
theorem ref03_letter (c : Int) (w : World) (h0 : 0 ≤ c) (h1 : c ≤ 255) : Calls Tryz.prog 64 #[.int .u8 c] w fun e w' => e = .returned (.bool (decide (cls c = 3 ∨ cls c = 4))) ∧ Ext w w' := by
  have HC := hid fun W => ref_class c W h0 h1
  generalize cls c = k at *
  have HE : Hid ((k == 3 || k == 4) = decide (k = 3 ∨ k = 4)) := hid (by rw [Bool.eq_iff_iff]; simp)
  by_cases h3 : k = 3
  · subst h3
    clear HE
    go_enter Tryz.func64, Tryz.ntmps64
    go_wp2_with (go_at_call 32; refine (HC.out _).mono ?_; rintro e w1 ⟨rfl, x1⟩)
    go_ret
    exact ⟨rfl, by (exact eX)⟩
  · go_enter Tryz.func64, Tryz.ntmps64
    go_wp2_with (go_at_call 32; refine (HC.out _).mono ?_; rintro e w1 ⟨rfl, x1⟩)
    go_ret
    exact ⟨by rw [← HE.out]; rfl, by (exact eX)⟩
theorem span_at {cl : List Int} {l : List UInt8} {j : Nat} (hj : j < spanU cl l) : ∃ c, l[j]? = some c ∧ cl.contains (clsU c) = true := by
  have hle := spanU_le cl l
  have hc := List.getElem?_eq_getElem (l := l) (i := j) (by omega)
  refine ⟨_, hc, take_span_all cl l _ ?_⟩
  rw [List.mem_take_iff_getElem]
  exact ⟨j, by omega, rfl⟩
theorem span_end {cl : List Int} {l : List UInt8} {c : UInt8} (h : l[spanU cl l]? = some c) : cl.contains (clsU c) = false := by
  have hlt := (List.getElem?_eq_some_iff.1 h).1
  refine span_stop cl l (c := c) (r := l.drop (spanU cl l + 1)) ?_
  rw [List.drop_eq_getElem_cons hlt]
  have := (List.getElem?_eq_some_iff.1 h).2
  rw [this]
def takeOf (l : List UInt8) : ByteArray × Int := match tokAt l with
  | some (n, k) => (bs (l.take n), k)
  | none => (ByteArray.empty, 0)
def RetTake (l : List UInt8) (w : World) (e : Ending) (w' : World) : Prop := e = .returned (.tuple #[.string (takeOf l).1, .int .u8 (takeOf l).2]) ∧ Ext w w'
theorem drop_cons_at {B : List UInt8} {i : Nat} {c : UInt8} (h : B[i]? = some c) : B.drop i = c :: B.drop (i + 1) := by
  obtain ⟨hi, e⟩ := List.getElem?_eq_some_iff.1 h
  rw [List.drop_eq_getElem_cons hi, e]
theorem takeOf_digit {B : List UInt8} {i : Nat} {c : UInt8} (h : B[i]? = some c) (hc : clsU c = 2) : takeOf (B.drop i) = if numB (bs ((B.drop i).take (spanU [2] (B.drop i)))) then (bs ((B.drop i).take (spanU [2] (B.drop i))), 1) else (ByteArray.empty, 0) := by
  rw [drop_cons_at h]
  unfold takeOf tokAt
  simp only [if_pos hc]
  by_cases h : numB (bs ((c :: B.drop (i + 1)).take (spanU [2] (c :: B.drop (i + 1))))) = true
  · simp only [if_pos h]
  · simp only [if_neg h]
theorem run_at (cl : List Int) (B : List UInt8) (i : Nat) : (∀ j, j < spanU cl (B.drop i) → ∃ c, B[i + j]? = some c ∧ cl.contains (clsU c) = true) ∧ (∀ c, B[i + spanU cl (B.drop i)]? = some c → cl.contains (clsU c) = false) := by
  refine ⟨fun j hj => ?_, fun c hc => ?_⟩
  · obtain ⟨c, h, k⟩ := span_at hj
    rw [List.getElem?_drop] at h
    exact ⟨c, h, k⟩
  · exact span_end (l := B.drop i) (by rw [List.getElem?_drop]; exact hc)
set_option maxRecDepth 8000 in
set_option maxHeartbeats 4000000 in
theorem ref03_take_digit (B : List UInt8) (at_ : Nat) (c : UInt8) (w : World) (b o len cap : Nat) (h1 : len ≤ cap) (h2 : cap ≤ 9223372036854775807) (hr : IsBytes w B (some ⟨b, o, none⟩) len) (hat : at_ < len) (hg : B[at_]? = some c) (hcl : clsU c = 2) :
    Calls Tryz.prog 33 #[.slice (some ⟨b, o, none⟩) len cap, .int .i64 (at_ : Int)] w (RetTake (B.drop at_) w) := by
  have hlen := hr.length
  have q : w.cell? ⟨b, o + at_, none⟩ = some (.int .u8 (c.toNat : Int)) := by
    obtain ⟨c', b', o', g, e, q⟩ := hr.at_ hat
    cases e
    rw [hg] at g
    cases g
    exact q
  have hbb := byte_bound c
  have KD0 := hid fun W => ref03_digit ((c.toNat : Nat) : Int) W hbb.1 hbb.2
  have hcc : cls ((c.toNat : Nat) : Int) = 2 := hcl
  rw [hcc] at KD0
  obtain ⟨hrun, hend⟩ := run_at [2] B at_
  have hT := takeOf_digit hg hcl
  have hsl := spanU_le [2] (B.drop at_)
  rw [List.length_drop] at hsl
  obtain ⟨n, hn⟩ : ∃ n, n = spanU [2] (B.drop at_) := ⟨_, rfl⟩
  rw [← hn] at hrun hend hsl hT
  have HCV := hid fun W (h : Ext w W) k => conv_bytes (hr.ext h) at_ n k (by omega)
  have HR := hid hr
  have HRUN := hid hrun
  have HEND := hid hend
  have HLEN := hid hlen
  have hz1 : (at_ : Int) < (len : Int) := by omega
  have hnl : at_ + n ≤ len := by omega
  have KN : Hid (∀ W, Calls Tryz.prog 63 #[.string (bs ((B.drop at_).take n))] W fun e w' => e = .returned (.tuple #[.int .i64 (numV (bs ((B.drop at_).take n))), .bool (numB (bs ((B.drop at_).take n)))]) ∧ Ext W w') := hid fun W => ref_number (bs ((B.drop at_).take n)) W (by rw [bs_size, List.length_take, List.length_drop]; omega)
  have HT := hid hT
  generalize bs ((B.drop at_).take n) = s at *
  generalize numB s = nb at *
  generalize numV s = nv at *
  clear hT hn hrun hend hr hcc hg hcl hlen
  go_enter Tryz.func33, Tryz.ntmps33
  go_wp2_with (go_at_call 62; refine (KD0.out _).mono ?_; rintro e w1 ⟨rfl, x1⟩)
  go_loopg [7] n (fun g i wr => ∃ j : Nat, g = n - j ∧ i = .int .i64 ((at_ + j : Nat) : Int) ∧ j ≤ n ∧ Ext w wr)
  case atStart => exact ⟨0, rfl, rfl, Nat.zero_le _, x1⟩
  case round =>
    obtain ⟨j, rfl, rfl, hj, hx⟩ := hrel
    by_cases hlt : j < n
    · obtain ⟨c2, hc2, hk2⟩ := HRUN.out j hlt
      obtain ⟨c', b', o', g, e, q2⟩ := (HR.out.ext hx).at_ (i := at_ + j) (by omega)
      cases e
      rw [hc2] at g
      cases g
      have hb2 := byte_bound c2
      have KD := hid fun W => ref03_digit ((c2.toNat : Nat) : Int) W hb2.1 hb2.2
      have hcc : cls ((c2.toNat : Nat) : Int) = 2 := by simpa [clsU] using hk2
      rw [hcc] at KD
      have hz2 : (at_ : Int) + (j : Int) < (len : Int) := by omega
      have hz3 : at_ + j < len := by omega
      have hw : IntKind.i64.wrap ((at_ : Int) + (j : Int) + 1) = (at_ : Int) + j + 1 := IntWalk.i64_in _ ⟨by omega, by omega⟩
      clear hc2 hk2 hcc
      go_wp2_with (go_at_call 62; refine (KD.out _).mono ?_; rintro e w2 ⟨rfl, x2⟩)
      go_roundg (n - (j + 1))
      case rel => exact ⟨j + 1, rfl, by go_num, by omega, hx.trans x2⟩
      case measure => omega
    · obtain rfl : j = n := by omega
      cases nb
      all_goals
        by_cases hle : at_ + j < len
        · obtain ⟨c', b', o', g, e, q2⟩ := (HR.out.ext hx).at_ hle
          cases e
          have hk2 := HEND.out c' g
          have hb2 := byte_bound c'
          have KD := hid fun W => ref03_digit ((c'.toNat : Nat) : Int) W hb2.1 hb2.2
          have hcc : decide (cls ((c'.toNat : Nat) : Int) = 2) = false := by simpa [clsU] using hk2
          rw [hcc] at KD
          have hz2 : (at_ : Int) + (j : Int) < (len : Int) := by omega
          clear hk2 hcc g
          go_wp2_with (first | (go_at_call 62; refine (KD.out _).mono ?_; rintro e w2 ⟨rfl, x2⟩; have hcv := fun k => HCV.out w2 (hx.trans x2) k) | (go_at_call 63; refine (KN.out _).mono ?_; rintro e w3 ⟨rfl, x3⟩))
          go_ret2
          exact ⟨by rw [HT.out]; rfl, by (exact eX)⟩
        · have hz2 : ¬ (at_ : Int) + (j : Int) < (len : Int) := by omega
          have hcv := fun k => HCV.out wr hx k
          go_wp2_with (go_at_call 63; refine (KN.out _).mono ?_; rintro e w3 ⟨rfl, x3⟩)
          go_ret2
          exact ⟨by rw [HT.out]; rfl, by (exact eX)⟩
theorem takeOf_letter {B : List UInt8} {i : Nat} {c : UInt8} (h : B[i]? = some c) (hc : clsU c = 3 ∨ clsU c = 4) : takeOf (B.drop i) = if 0 < kwd (bs ((B.drop i).take (spanU [2, 3, 4] (B.drop i)))) then (bs ((B.drop i).take (spanU [2, 3, 4] (B.drop i))), 4) else if isName (bs ((B.drop i).take (spanU [2, 3, 4] (B.drop i)))) then (bs ((B.drop i).take (spanU [2, 3, 4] (B.drop i))), 2) else if isExn (bs ((B.drop i).take (spanU [2, 3, 4] (B.drop i)))) then (bs ((B.drop i).take (spanU [2, 3, 4] (B.drop i))), 3) else (ByteArray.empty, 0) := by
  rw [drop_cons_at h]
  unfold takeOf tokAt
  simp only [if_neg (show ¬ clsU c = 2 from by omega), if_pos hc]
  by_cases h1 : 0 < kwd (bs ((c :: B.drop (i + 1)).take (spanU [2, 3, 4] (c :: B.drop (i + 1)))))
  · simp only [if_pos h1]
  simp only [if_neg h1]
  by_cases h2 : isName (bs ((c :: B.drop (i + 1)).take (spanU [2, 3, 4] (c :: B.drop (i + 1))))) = true
  · simp only [if_pos h2]
  simp only [if_neg h2]
  by_cases h3 : isExn (bs ((c :: B.drop (i + 1)).take (spanU [2, 3, 4] (c :: B.drop (i + 1))))) = true
  · simp only [if_pos h3]
  · simp only [if_neg h3]
theorem in_234 {c : UInt8} {b : Bool} (h : [2, 3, 4].contains (clsU c) = b) : (decide (cls ((c.toNat : Nat) : Int) = 2) = true ∧ b = true) ∨ (decide (cls ((c.toNat : Nat) : Int) = 2) = false ∧ decide (cls ((c.toNat : Nat) : Int) = 3 ∨ cls ((c.toNat : Nat) : Int) = 4) = b) := by
  subst h
  have e : clsU c = cls ((c.toNat : Nat) : Int) := rfl
  rw [← e]
  by_cases h2 : clsU c = 2
  · left; rw [h2]; exact ⟨rfl, rfl⟩
  · right
    refine ⟨by simp [h2], ?_⟩
    rw [Bool.eq_iff_iff]
    simp [h2]
set_option maxRecDepth 8000 in
set_option maxHeartbeats 8000000 in
theorem ref03_take_letter (B : List UInt8) (at_ : Nat) (c : UInt8) (w : World) (b o len cap : Nat) (h1 : len ≤ cap) (h2 : cap ≤ 9223372036854775807) (hr : IsBytes w B (some ⟨b, o, none⟩) len) (hat : at_ < len) (hg : B[at_]? = some c) (hcl : clsU c = 3 ∨ clsU c = 4) :
    Calls Tryz.prog 33 #[.slice (some ⟨b, o, none⟩) len cap, .int .i64 (at_ : Int)] w (RetTake (B.drop at_) w) := by
  have hlen := hr.length
  have q : w.cell? ⟨b, o + at_, none⟩ = some (.int .u8 (c.toNat : Int)) := by
    obtain ⟨c', b', o', g, e, q⟩ := hr.at_ hat
    cases e
    rw [hg] at g
    cases g
    exact q
  have hbb := byte_bound c
  have KD0 := hid fun W => ref03_digit ((c.toNat : Nat) : Int) W hbb.1 hbb.2
  have KL0 := hid fun W => ref03_letter ((c.toNat : Nat) : Int) W hbb.1 hbb.2
  have hcc : decide (cls ((c.toNat : Nat) : Int) = 2) = false := (by have h2 : clsU c ≠ 2 := (by omega); simpa [clsU] using h2)
  have hcc' : decide (cls ((c.toNat : Nat) : Int) = 3 ∨ cls ((c.toNat : Nat) : Int) = 4) = true := by simpa [clsU] using hcl
  rw [hcc] at KD0
  rw [hcc'] at KL0
  obtain ⟨hrun, hend⟩ := run_at [2, 3, 4] B at_
  have hT := takeOf_letter hg hcl
  have hsl := spanU_le [2, 3, 4] (B.drop at_)
  rw [List.length_drop] at hsl
  obtain ⟨n, hn⟩ : ∃ n, n = spanU [2, 3, 4] (B.drop at_) := ⟨_, rfl⟩
  rw [← hn] at hrun hend hsl hT
  have HCV := hid fun W (h : Ext w W) k => conv_bytes (hr.ext h) at_ n k (by omega)
  have HR := hid hr
  have HRUN := hid hrun
  have HEND := hid hend
  have HLEN := hid hlen
  have hz1 : (at_ : Int) < (len : Int) := by omega
  have hnl : at_ + n ≤ len := by omega
  have HT := hid hT
  generalize bs ((B.drop at_).take n) = s at *
  have KK := hid fun W => ref_keyword s W
  have KN := hid fun W => ref_name s W
  have KE := hid fun W => ref_exn s W
  generalize isName s = bn at *
  generalize isExn s = be at *
  generalize kwd s = kw at *
  clear hT hn hrun hend hr hcc hcc' hg hcl hlen
  go_enter Tryz.func33, Tryz.ntmps33
  go_wp2_with (first | (go_at_call 62; refine (KD0.out _).mono ?_; rintro e w1 ⟨rfl, x1⟩) | (go_at_call 64; refine (KL0.out _).mono ?_; rintro e w2 ⟨rfl, x2⟩))
  go_loopg [7] n (fun g i wr => ∃ j : Nat, g = n - j ∧ i = .int .i64 ((at_ + j : Nat) : Int) ∧ j ≤ n ∧ Ext w wr)
  case atStart => exact ⟨0, rfl, rfl, Nat.zero_le _, by (exact eX)⟩
  case round =>
    obtain ⟨j, rfl, rfl, hj, hx⟩ := hrel
    by_cases hlt : j < n
    · obtain ⟨c2, hc2, hk2⟩ := HRUN.out j hlt
      obtain ⟨c', b', o', g, e, q2⟩ := (HR.out.ext hx).at_ (i := at_ + j) (by omega)
      cases e
      rw [hc2] at g
      cases g
      have hb2 := byte_bound c2
      have KD := hid fun W => ref03_digit ((c2.toNat : Nat) : Int) W hb2.1 hb2.2
      have KL := hid fun W => ref03_letter ((c2.toNat : Nat) : Int) W hb2.1 hb2.2
      have hz2 : (at_ : Int) + (j : Int) < (len : Int) := by omega
      have hz3 : at_ + j < len := by omega
      have hw : IntKind.i64.wrap ((at_ : Int) + (j : Int) + 1) = (at_ : Int) + j + 1 := IntWalk.i64_in _ ⟨by omega, by omega⟩
      rcases in_234 hk2 with ⟨a1, -⟩ | ⟨a1, a2⟩
      · rw [a1] at KD
        clear hc2 hk2 a1
        go_wp2_with (first | (go_at_call 62; refine (KD.out _).mono ?_; rintro e w2 ⟨rfl, x2⟩))
        go_roundg (n - (j + 1))
        case rel => exact ⟨j + 1, rfl, by go_num, by omega, by (exact eX)⟩
        case measure => omega
      · rw [a1] at KD
        rw [a2] at KL
        clear hc2 hk2 a1 a2
        go_wp2_with (first | (go_at_call 62; refine (KD.out _).mono ?_; rintro e w2 ⟨rfl, x2⟩; have q3 := x2.cell q2) | (go_at_call 64; refine (KL.out _).mono ?_; rintro e w3 ⟨rfl, x3⟩))
        go_roundg (n - (j + 1))
        case rel => exact ⟨j + 1, rfl, by go_num, by omega, by (exact eX)⟩
        case measure => omega
    · obtain rfl : j = n := by omega
      have KR : Hid (∀ W, Ext w W → takeOf (B.drop at_) = takeOf (B.drop at_)) := hid fun _ _ => rfl
      have hkk : (0 < kw) ∨ (kw = 0 ∧ bn = true) ∨ (kw = 0 ∧ bn = false ∧ be = true) ∨ (kw = 0 ∧ bn = false ∧ be = false) := (by cases bn <;> cases be <;> simp <;> omega)
      by_cases hle : at_ + j < len
      · obtain ⟨c', b', o', g, e, q2⟩ := (HR.out.ext hx).at_ hle
        cases e
        have hk2 := HEND.out c' g
        have hb2 := byte_bound c'
        have KD := hid fun W => ref03_digit ((c'.toNat : Nat) : Int) W hb2.1 hb2.2
        have KL := hid fun W => ref03_letter ((c'.toNat : Nat) : Int) W hb2.1 hb2.2
        rcases in_234 hk2 with ⟨-, a0⟩ | ⟨a1, a2⟩
        · cases a0
        rw [a1] at KD
        rw [a2] at KL
        have hz2 : (at_ : Int) + (j : Int) < (len : Int) := by omega
        clear hk2 a1 a2 g KR
        rcases hkk with h | ⟨rfl, rfl⟩ | ⟨rfl, rfl, rfl⟩ | ⟨rfl, rfl, rfl⟩
        · have h' : (0 : Int) < (kw : Int) := by omega
          have HF : Hid (takeOf (B.drop at_) = (s, 4)) := hid (by rw [HT.out, if_pos h])
          go_wp2_with (first | (go_at_call 62; refine (KD.out _).mono ?_; rintro e w2 ⟨rfl, x2⟩; have q3 := x2.cell q2) | (go_at_call 64; refine (KL.out _).mono ?_; rintro e w3 ⟨rfl, x3⟩; have hcv := fun k => HCV.out w3 (by (exact eX)) k) | (go_at_call 65; refine (KK.out _).mono ?_; rintro e w4 ⟨rfl, x4⟩) | (go_at_call 66; refine (KN.out _).mono ?_; rintro e w5 ⟨rfl, x5⟩) | (go_at_call 54; refine (KE.out _).mono ?_; rintro e w6 ⟨rfl, x6⟩))
          go_ret2
          exact ⟨by rw [HF.out]; rfl, by (exact eX)⟩
        all_goals
          have HF := hid HT.out
          go_wp2_with (first | (go_at_call 62; refine (KD.out _).mono ?_; rintro e w2 ⟨rfl, x2⟩; have q3 := x2.cell q2) | (go_at_call 64; refine (KL.out _).mono ?_; rintro e w3 ⟨rfl, x3⟩; have hcv := fun k => HCV.out w3 (by (exact eX)) k) | (go_at_call 65; refine (KK.out _).mono ?_; rintro e w4 ⟨rfl, x4⟩) | (go_at_call 66; refine (KN.out _).mono ?_; rintro e w5 ⟨rfl, x5⟩) | (go_at_call 54; refine (KE.out _).mono ?_; rintro e w6 ⟨rfl, x6⟩))
          go_ret2
          exact ⟨by rw [HF.out]; rfl, by (exact eX)⟩
      · have hz2 : ¬ (at_ : Int) + (j : Int) < (len : Int) := by omega
        have hcv := fun k => HCV.out wr hx k
        clear KR
        rcases hkk with h | ⟨rfl, rfl⟩ | ⟨rfl, rfl, rfl⟩ | ⟨rfl, rfl, rfl⟩
        · have h' : (0 : Int) < (kw : Int) := by omega
          have HF : Hid (takeOf (B.drop at_) = (s, 4)) := hid (by rw [HT.out, if_pos h])
          go_wp2_with (first | (go_at_call 65; refine (KK.out _).mono ?_; rintro e w4 ⟨rfl, x4⟩) | (go_at_call 66; refine (KN.out _).mono ?_; rintro e w5 ⟨rfl, x5⟩) | (go_at_call 54; refine (KE.out _).mono ?_; rintro e w6 ⟨rfl, x6⟩))
          go_ret2
          exact ⟨by rw [HF.out]; rfl, by (exact eX)⟩
        all_goals
          have HF := hid HT.out
          go_wp2_with (first | (go_at_call 65; refine (KK.out _).mono ?_; rintro e w4 ⟨rfl, x4⟩) | (go_at_call 66; refine (KN.out _).mono ?_; rintro e w5 ⟨rfl, x5⟩) | (go_at_call 54; refine (KE.out _).mono ?_; rintro e w6 ⟨rfl, x6⟩))
          go_ret2
          exact ⟨by rw [HF.out]; rfl, by (exact eX)⟩
end Go.Proofs.YtaioeailgknfjaaGreatDoor
