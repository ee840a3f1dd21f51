/- Part 5 of the proof of RowParseIs: walks of functions, and laws in plain Lean; no condition of ours. -/
import Derived.Test.YtaioeailgknfjaaGreatDoorPk4
/- The reference's cut of a text into tokens: the walks of enclaveref03.digit and letter. The walk of enclaveref03.take, the plain part: how far a run of bytes goes. The walk of enclaveref03.take. The walk of enclaveref03.take: words. -/
namespace Go.Proofs.YtaioeailgknfjaaGreatDoor
open Go Go.RowKit Go.Sort

theorem digit_cls (c : Int) (h0 : 0 ≤ c) (h1 : c ≤ 255) : (decide (48 ≤ c) && decide (c ≤ 57)) = decide (cls c = 2) := by
  obtain ⟨n, rfl⟩ : ∃ n : Nat, c = n := ⟨c.toNat, by omega⟩
  have : ∀ n : Fin 256, (decide (48 ≤ ((n.val : Nat) : Int)) && decide (((n.val : Nat) : Int) ≤ 57)) = decide (cls ((n.val : Nat) : Int) = 2) := by decide +kernel
  exact this ⟨n, by omega⟩
theorem ref03_digit (c : Int) (w : World) (h0 : 0 ≤ c) (h1 : c ≤ 255) : Calls Tryz.prog 62 #[.int .u8 c] w fun e w' => e = .returned (.bool (decide (cls c = 2))) ∧ Ext w w' := by
  have hd := digit_cls c h0 h1
  by_cases h48 : 48 ≤ c
  · have HD : Hid (decide (c ≤ 57) = decide (cls c = 2)) := Lib.hid (by rw [← hd]; simp [h48])
    clear hd
    go_enter Tryz.func62, Tryz.ntmps62
    go_wp2_with fail
    go_ret
    exact ⟨by rw [← HD.out]; rfl, by (exact eX)⟩
  · have HD : Hid (false = decide (cls c = 2)) := Lib.hid (by rw [← hd]; simp [h48])
    clear hd
    go_enter Tryz.func62, Tryz.ntmps62
    go_wp2_with fail
    go_ret
    exact ⟨by rw [← HD.out]; rfl, by (exact eX)⟩
theorem ref03_letter (c : Int) (w : World) (h0 : 0 ≤ c) (h1 : c ≤ 255) : Calls Tryz.prog 64 #[.int .u8 c] w fun e w' => e = .returned (.bool (decide (cls c = 3 ∨ cls c = 4))) ∧ Ext w w' := by
  have HC := Lib.hid fun W => ref_class c W h0 h1
  generalize cls c = k at *
  have HE : Hid ((k == 3 || k == 4) = decide (k = 3 ∨ k = 4)) := Lib.hid (by rw [Bool.eq_iff_iff]; simp)
  by_cases h3 : k = 3
  · subst h3
    clear HE
    go_enter Tryz.func64, Tryz.ntmps64
    go_wp2_with (go_at_call 32; refine (HC.out _).mono ?_; rintro e w1 ⟨rfl, x1⟩)
    go_ret
    exact ⟨rfl, by (exact eX)⟩
  · go_enter Tryz.func64, Tryz.ntmps64
    go_wp2_with (go_at_call 32; refine (HC.out _).mono ?_; rintro e w1 ⟨rfl, x1⟩)
    go_ret
    exact ⟨by rw [← HE.out]; rfl, by (exact eX)⟩
end Go.Proofs.YtaioeailgknfjaaGreatDoor
namespace Go.Proofs.YtaioeailgknfjaaGreatDoor
open Go Go.RowKit Go.Sort

/-- A run of bytes of some classes, from one place on: all of the ones behind it, too. -/
theorem span_at {cl : List Int} {l : List UInt8} {j : Nat} (hj : j < spanU cl l) : ∃ c, l[j]? = some c ∧ cl.contains (clsU c) = true := by
  have hle := spanU_le cl l
  have hc := List.getElem?_eq_getElem (l := l) (i := j) (by omega)
  refine ⟨_, hc, take_span_all cl l _ ?_⟩
  rw [List.mem_take_iff_getElem]
  exact ⟨j, by omega, rfl⟩
theorem span_end {cl : List Int} {l : List UInt8} {c : UInt8} (h : l[spanU cl l]? = some c) : cl.contains (clsU c) = false := by
  have hlt := (List.getElem?_eq_some_iff.1 h).1
  refine span_stop cl l (c := c) (r := l.drop (spanU cl l + 1)) ?_
  rw [List.drop_eq_getElem_cons hlt]
  have := (List.getElem?_eq_some_iff.1 h).2
  rw [this]
end Go.Proofs.YtaioeailgknfjaaGreatDoor
namespace Go.Proofs.YtaioeailgknfjaaGreatDoor
open Go Go.RowKit Go.Sort

/-- What take hands back: a text and a kind, or nothing. -/
def takeOf (l : List UInt8) : ByteArray × Int := match tokAt l with
  | some (n, k) => (bs (l.take n), k)
  | none => (ByteArray.empty, 0)
def RetTake (l : List UInt8) (w : World) (e : Ending) (w' : World) : Prop := e = .returned (.tuple #[.string (takeOf l).1, .int .u8 (takeOf l).2]) ∧ Ext w w'
theorem drop_cons_at {B : List UInt8} {i : Nat} {c : UInt8} (h : B[i]? = some c) : B.drop i = c :: B.drop (i + 1) := by
  obtain ⟨hi, e⟩ := List.getElem?_eq_some_iff.1 h
  rw [List.drop_eq_getElem_cons hi, e]
theorem takeOf_digit {B : List UInt8} {i : Nat} {c : UInt8} (h : B[i]? = some c) (hc : clsU c = 2) : takeOf (B.drop i) = if numB (bs ((B.drop i).take (spanU [2] (B.drop i)))) then (bs ((B.drop i).take (spanU [2] (B.drop i))), 1) else (ByteArray.empty, 0) := by
  rw [drop_cons_at h]
  unfold takeOf tokAt
  simp only [if_pos hc]
  by_cases h : numB (bs ((c :: B.drop (i + 1)).take (spanU [2] (c :: B.drop (i + 1))))) = true
  · simp only [if_pos h]
  · simp only [if_neg h]
theorem run_at (cl : List Int) (B : List UInt8) (i : Nat) : (∀ j, j < spanU cl (B.drop i) → ∃ c, B[i + j]? = some c ∧ cl.contains (clsU c) = true) ∧ (∀ c, B[i + spanU cl (B.drop i)]? = some c → cl.contains (clsU c) = false) := by
  refine ⟨fun j hj => ?_, fun c hc => ?_⟩
  · obtain ⟨c, h, k⟩ := span_at hj
    rw [List.getElem?_drop] at h
    exact ⟨c, h, k⟩
  · exact span_end (l := B.drop i) (by rw [List.getElem?_drop]; exact hc)
set_option maxRecDepth 8000 in
set_option maxHeartbeats 4000000 in
theorem ref03_take_digit (B : List UInt8) (at_ : Nat) (c : UInt8) (w : World) (b o len cap : Nat) (h1 : len ≤ cap) (h2 : cap ≤ 9223372036854775807) (hr : IsBytes w B (some ⟨b, o, none⟩) len) (hat : at_ < len) (hg : B[at_]? = some c) (hcl : clsU c = 2) :
    Calls Tryz.prog 33 #[.slice (some ⟨b, o, none⟩) len cap, .int .i64 (at_ : Int)] w (RetTake (B.drop at_) w) := by
  have hlen := hr.length
  have q : w.cell? ⟨b, o + at_, none⟩ = some (.int .u8 (c.toNat : Int)) := by
    obtain ⟨c', b', o', g, e, q⟩ := hr.at_ hat
    cases e
    rw [hg] at g
    cases g
    exact q
  have hbb := byte_bound c
  have KD0 := Lib.hid fun W => ref03_digit ((c.toNat : Nat) : Int) W hbb.1 hbb.2
  have hcc : cls ((c.toNat : Nat) : Int) = 2 := hcl
  rw [hcc] at KD0
  obtain ⟨hrun, hend⟩ := run_at [2] B at_
  have hT := takeOf_digit hg hcl
  have hsl := spanU_le [2] (B.drop at_)
  rw [List.length_drop] at hsl
  obtain ⟨n, hn⟩ : ∃ n, n = spanU [2] (B.drop at_) := ⟨_, rfl⟩
  rw [← hn] at hrun hend hsl hT
  have HCV := Lib.hid fun W (h : Ext w W) k => conv_bytes (hr.ext h) at_ n k (by omega)
  have HR := Lib.hid hr
  have HRUN := Lib.hid hrun
  have HEND := Lib.hid hend
  have HLEN := Lib.hid hlen
  have hz1 : (at_ : Int) < (len : Int) := by omega
  have hnl : at_ + n ≤ len := by omega
  have KN : Hid (∀ W, Calls Tryz.prog 63 #[.string (bs ((B.drop at_).take n))] W fun e w' => e = .returned (.tuple #[.int .i64 (numV (bs ((B.drop at_).take n))), .bool (numB (bs ((B.drop at_).take n)))]) ∧ Ext W w') := Lib.hid fun W => ref_number (bs ((B.drop at_).take n)) W (by rw [bs_size, List.length_take, List.length_drop]; omega)
  have HT := Lib.hid hT
  generalize bs ((B.drop at_).take n) = s at *
  generalize numB s = nb at *
  generalize numV s = nv at *
  clear hT hn hrun hend hr hcc hg hcl hlen
  go_enter Tryz.func33, Tryz.ntmps33
  go_wp2_with (go_at_call 62; refine (KD0.out _).mono ?_; rintro e w1 ⟨rfl, x1⟩)
  go_loopg [7] n (fun g i wr => ∃ j : Nat, g = n - j ∧ i = .int .i64 ((at_ + j : Nat) : Int) ∧ j ≤ n ∧ Ext w wr)
  case atStart => exact ⟨0, rfl, rfl, Nat.zero_le _, x1⟩
  case round =>
    obtain ⟨j, rfl, rfl, hj, hx⟩ := hrel
    by_cases hlt : j < n
    · obtain ⟨c2, hc2, hk2⟩ := HRUN.out j hlt
      obtain ⟨c', b', o', g, e, q2⟩ := (HR.out.ext hx).at_ (i := at_ + j) (by omega)
      cases e
      rw [hc2] at g
      cases g
      have hb2 := byte_bound c2
      have KD := Lib.hid fun W => ref03_digit ((c2.toNat : Nat) : Int) W hb2.1 hb2.2
      have hcc : cls ((c2.toNat : Nat) : Int) = 2 := by simpa [clsU] using hk2
      rw [hcc] at KD
      have hz2 : (at_ : Int) + (j : Int) < (len : Int) := by omega
      have hz3 : at_ + j < len := by omega
      have hw : IntKind.i64.wrap ((at_ : Int) + (j : Int) + 1) = (at_ : Int) + j + 1 := IntWalk.i64_in _ ⟨by omega, by omega⟩
      clear hc2 hk2 hcc
      go_wp2_with (go_at_call 62; refine (KD.out _).mono ?_; rintro e w2 ⟨rfl, x2⟩)
      go_roundg (n - (j + 1))
      case rel => exact ⟨j + 1, rfl, by go_num, by omega, hx.trans x2⟩
      case measure => omega
    · obtain rfl : j = n := by omega
      cases nb
      all_goals
        by_cases hle : at_ + j < len
        · obtain ⟨c', b', o', g, e, q2⟩ := (HR.out.ext hx).at_ hle
          cases e
          have hk2 := HEND.out c' g
          have hb2 := byte_bound c'
          have KD := Lib.hid fun W => ref03_digit ((c'.toNat : Nat) : Int) W hb2.1 hb2.2
          have hcc : decide (cls ((c'.toNat : Nat) : Int) = 2) = false := by simpa [clsU] using hk2
          rw [hcc] at KD
          have hz2 : (at_ : Int) + (j : Int) < (len : Int) := by omega
          clear hk2 hcc g
          go_wp2_with (first | (go_at_call 62; refine (KD.out _).mono ?_; rintro e w2 ⟨rfl, x2⟩; have hcv := fun k => HCV.out w2 (hx.trans x2) k) | (go_at_call 63; refine (KN.out _).mono ?_; rintro e w3 ⟨rfl, x3⟩))
          go_ret2
          exact ⟨by rw [HT.out]; rfl, by (exact eX)⟩
        · have hz2 : ¬ (at_ : Int) + (j : Int) < (len : Int) := by omega
          have hcv := fun k => HCV.out wr hx k
          go_wp2_with (go_at_call 63; refine (KN.out _).mono ?_; rintro e w3 ⟨rfl, x3⟩)
          go_ret2
          exact ⟨by rw [HT.out]; rfl, by (exact eX)⟩
end Go.Proofs.YtaioeailgknfjaaGreatDoor
namespace Go.Proofs.YtaioeailgknfjaaGreatDoor
open Go Go.RowKit Go.Sort

theorem takeOf_letter {B : List UInt8} {i : Nat} {c : UInt8} (h : B[i]? = some c) (hc : clsU c = 3 ∨ clsU c = 4) : takeOf (B.drop i) = if 0 < kwd (bs ((B.drop i).take (spanU [2, 3, 4] (B.drop i)))) then (bs ((B.drop i).take (spanU [2, 3, 4] (B.drop i))), 4) else if isName (bs ((B.drop i).take (spanU [2, 3, 4] (B.drop i)))) then (bs ((B.drop i).take (spanU [2, 3, 4] (B.drop i))), 2) else if isExn (bs ((B.drop i).take (spanU [2, 3, 4] (B.drop i)))) then (bs ((B.drop i).take (spanU [2, 3, 4] (B.drop i))), 3) else (ByteArray.empty, 0) := by
  rw [drop_cons_at h]
  unfold takeOf tokAt
  simp only [if_neg (show ¬ clsU c = 2 from by omega), if_pos hc]
  by_cases h1 : 0 < kwd (bs ((c :: B.drop (i + 1)).take (spanU [2, 3, 4] (c :: B.drop (i + 1)))))
  · simp only [if_pos h1]
  simp only [if_neg h1]
  by_cases h2 : isName (bs ((c :: B.drop (i + 1)).take (spanU [2, 3, 4] (c :: B.drop (i + 1))))) = true
  · simp only [if_pos h2]
  simp only [if_neg h2]
  by_cases h3 : isExn (bs ((c :: B.drop (i + 1)).take (spanU [2, 3, 4] (c :: B.drop (i + 1))))) = true
  · simp only [if_pos h3]
  · simp only [if_neg h3]
/-- A byte's class, as digit and letter tell it. -/
theorem in_234 {c : UInt8} {b : Bool} (h : [2, 3, 4].contains (clsU c) = b) : (decide (cls ((c.toNat : Nat) : Int) = 2) = true ∧ b = true) ∨ (decide (cls ((c.toNat : Nat) : Int) = 2) = false ∧ decide (cls ((c.toNat : Nat) : Int) = 3 ∨ cls ((c.toNat : Nat) : Int) = 4) = b) := by
  subst h
  have e : clsU c = cls ((c.toNat : Nat) : Int) := rfl
  rw [← e]
  by_cases h2 : clsU c = 2
  · left; rw [h2]; exact ⟨rfl, rfl⟩
  · right
    refine ⟨by simp [h2], ?_⟩
    rw [Bool.eq_iff_iff]
    simp [h2]
set_option maxRecDepth 8000 in
set_option maxHeartbeats 8000000 in
theorem ref03_take_letter (B : List UInt8) (at_ : Nat) (c : UInt8) (w : World) (b o len cap : Nat) (h1 : len ≤ cap) (h2 : cap ≤ 9223372036854775807) (hr : IsBytes w B (some ⟨b, o, none⟩) len) (hat : at_ < len) (hg : B[at_]? = some c) (hcl : clsU c = 3 ∨ clsU c = 4) :
    Calls Tryz.prog 33 #[.slice (some ⟨b, o, none⟩) len cap, .int .i64 (at_ : Int)] w (RetTake (B.drop at_) w) := by
  have hlen := hr.length
  have q : w.cell? ⟨b, o + at_, none⟩ = some (.int .u8 (c.toNat : Int)) := by
    obtain ⟨c', b', o', g, e, q⟩ := hr.at_ hat
    cases e
    rw [hg] at g
    cases g
    exact q
  have hbb := byte_bound c
  have KD0 := Lib.hid fun W => ref03_digit ((c.toNat : Nat) : Int) W hbb.1 hbb.2
  have KL0 := Lib.hid fun W => ref03_letter ((c.toNat : Nat) : Int) W hbb.1 hbb.2
  have hcc : decide (cls ((c.toNat : Nat) : Int) = 2) = false := (by have h2 : clsU c ≠ 2 := (by omega); simpa [clsU] using h2)
  have hcc' : decide (cls ((c.toNat : Nat) : Int) = 3 ∨ cls ((c.toNat : Nat) : Int) = 4) = true := by simpa [clsU] using hcl
  rw [hcc] at KD0
  rw [hcc'] at KL0
  obtain ⟨hrun, hend⟩ := run_at [2, 3, 4] B at_
  have hT := takeOf_letter hg hcl
  have hsl := spanU_le [2, 3, 4] (B.drop at_)
  rw [List.length_drop] at hsl
  obtain ⟨n, hn⟩ : ∃ n, n = spanU [2, 3, 4] (B.drop at_) := ⟨_, rfl⟩
  rw [← hn] at hrun hend hsl hT
  have HCV := Lib.hid fun W (h : Ext w W) k => conv_bytes (hr.ext h) at_ n k (by omega)
  have HR := Lib.hid hr
  have HRUN := Lib.hid hrun
  have HEND := Lib.hid hend
  have HLEN := Lib.hid hlen
  have hz1 : (at_ : Int) < (len : Int) := by omega
  have hnl : at_ + n ≤ len := by omega
  have HT := Lib.hid hT
  generalize bs ((B.drop at_).take n) = s at *
  have KK := Lib.hid fun W => ref_keyword s W
  have KN := Lib.hid fun W => ref_name s W
  have KE := Lib.hid fun W => ref_exn s W
  generalize isName s = bn at *
  generalize isExn s = be at *
  generalize kwd s = kw at *
  clear hT hn hrun hend hr hcc hcc' hg hcl hlen
  go_enter Tryz.func33, Tryz.ntmps33
  go_wp2_with (first | (go_at_call 62; refine (KD0.out _).mono ?_; rintro e w1 ⟨rfl, x1⟩) | (go_at_call 64; refine (KL0.out _).mono ?_; rintro e w2 ⟨rfl, x2⟩))
  go_loopg [7] n (fun g i wr => ∃ j : Nat, g = n - j ∧ i = .int .i64 ((at_ + j : Nat) : Int) ∧ j ≤ n ∧ Ext w wr)
  case atStart => exact ⟨0, rfl, rfl, Nat.zero_le _, by (exact eX)⟩
  case round =>
    obtain ⟨j, rfl, rfl, hj, hx⟩ := hrel
    by_cases hlt : j < n
    · obtain ⟨c2, hc2, hk2⟩ := HRUN.out j hlt
      obtain ⟨c', b', o', g, e, q2⟩ := (HR.out.ext hx).at_ (i := at_ + j) (by omega)
      cases e
      rw [hc2] at g
      cases g
      have hb2 := byte_bound c2
      have KD := Lib.hid fun W => ref03_digit ((c2.toNat : Nat) : Int) W hb2.1 hb2.2
      have KL := Lib.hid fun W => ref03_letter ((c2.toNat : Nat) : Int) W hb2.1 hb2.2
      have hz2 : (at_ : Int) + (j : Int) < (len : Int) := by omega
      have hz3 : at_ + j < len := by omega
      have hw : IntKind.i64.wrap ((at_ : Int) + (j : Int) + 1) = (at_ : Int) + j + 1 := IntWalk.i64_in _ ⟨by omega, by omega⟩
      rcases in_234 hk2 with ⟨a1, -⟩ | ⟨a1, a2⟩
      · rw [a1] at KD
        clear hc2 hk2 a1
        go_wp2_with (first | (go_at_call 62; refine (KD.out _).mono ?_; rintro e w2 ⟨rfl, x2⟩))
        go_roundg (n - (j + 1))
        case rel => exact ⟨j + 1, rfl, by go_num, by omega, by (exact eX)⟩
        case measure => omega
      · rw [a1] at KD
        rw [a2] at KL
        clear hc2 hk2 a1 a2
        go_wp2_with (first | (go_at_call 62; refine (KD.out _).mono ?_; rintro e w2 ⟨rfl, x2⟩; have q3 := x2.cell q2) | (go_at_call 64; refine (KL.out _).mono ?_; rintro e w3 ⟨rfl, x3⟩))
        go_roundg (n - (j + 1))
        case rel => exact ⟨j + 1, rfl, by go_num, by omega, by (exact eX)⟩
        case measure => omega
    · obtain rfl : j = n := by omega
      have KR : Hid (∀ W, Ext w W → takeOf (B.drop at_) = takeOf (B.drop at_)) := Lib.hid fun _ _ => rfl
      have hkk : (0 < kw) ∨ (kw = 0 ∧ bn = true) ∨ (kw = 0 ∧ bn = false ∧ be = true) ∨ (kw = 0 ∧ bn = false ∧ be = false) := (by cases bn <;> cases be <;> simp <;> omega)
      by_cases hle : at_ + j < len
      · obtain ⟨c', b', o', g, e, q2⟩ := (HR.out.ext hx).at_ hle
        cases e
        have hk2 := HEND.out c' g
        have hb2 := byte_bound c'
        have KD := Lib.hid fun W => ref03_digit ((c'.toNat : Nat) : Int) W hb2.1 hb2.2
        have KL := Lib.hid fun W => ref03_letter ((c'.toNat : Nat) : Int) W hb2.1 hb2.2
        rcases in_234 hk2 with ⟨-, a0⟩ | ⟨a1, a2⟩
        · cases a0
        rw [a1] at KD
        rw [a2] at KL
        have hz2 : (at_ : Int) + (j : Int) < (len : Int) := by omega
        clear hk2 a1 a2 g KR
        rcases hkk with h | ⟨rfl, rfl⟩ | ⟨rfl, rfl, rfl⟩ | ⟨rfl, rfl, rfl⟩
        · have h' : (0 : Int) < (kw : Int) := by omega
          have HF : Hid (takeOf (B.drop at_) = (s, 4)) := Lib.hid (by rw [HT.out, if_pos h])
          go_wp2_with (first | (go_at_call 62; refine (KD.out _).mono ?_; rintro e w2 ⟨rfl, x2⟩; have q3 := x2.cell q2) | (go_at_call 64; refine (KL.out _).mono ?_; rintro e w3 ⟨rfl, x3⟩; have hcv := fun k => HCV.out w3 (by (exact eX)) k) | (go_at_call 65; refine (KK.out _).mono ?_; rintro e w4 ⟨rfl, x4⟩) | (go_at_call 66; refine (KN.out _).mono ?_; rintro e w5 ⟨rfl, x5⟩) | (go_at_call 54; refine (KE.out _).mono ?_; rintro e w6 ⟨rfl, x6⟩))
          go_ret2
          exact ⟨by rw [HF.out]; rfl, by (exact eX)⟩
        all_goals
          have HF := Lib.hid HT.out
          go_wp2_with (first | (go_at_call 62; refine (KD.out _).mono ?_; rintro e w2 ⟨rfl, x2⟩; have q3 := x2.cell q2) | (go_at_call 64; refine (KL.out _).mono ?_; rintro e w3 ⟨rfl, x3⟩; have hcv := fun k => HCV.out w3 (by (exact eX)) k) | (go_at_call 65; refine (KK.out _).mono ?_; rintro e w4 ⟨rfl, x4⟩) | (go_at_call 66; refine (KN.out _).mono ?_; rintro e w5 ⟨rfl, x5⟩) | (go_at_call 54; refine (KE.out _).mono ?_; rintro e w6 ⟨rfl, x6⟩))
          go_ret2
          exact ⟨by rw [HF.out]; rfl, by (exact eX)⟩
      · have hz2 : ¬ (at_ : Int) + (j : Int) < (len : Int) := by omega
        have hcv := fun k => HCV.out wr hx k
        clear KR
        rcases hkk with h | ⟨rfl, rfl⟩ | ⟨rfl, rfl, rfl⟩ | ⟨rfl, rfl, rfl⟩
        · have h' : (0 : Int) < (kw : Int) := by omega
          have HF : Hid (takeOf (B.drop at_) = (s, 4)) := Lib.hid (by rw [HT.out, if_pos h])
          go_wp2_with (first | (go_at_call 65; refine (KK.out _).mono ?_; rintro e w4 ⟨rfl, x4⟩) | (go_at_call 66; refine (KN.out _).mono ?_; rintro e w5 ⟨rfl, x5⟩) | (go_at_call 54; refine (KE.out _).mono ?_; rintro e w6 ⟨rfl, x6⟩))
          go_ret2
          exact ⟨by rw [HF.out]; rfl, by (exact eX)⟩
        all_goals
          have HF := Lib.hid HT.out
          go_wp2_with (first | (go_at_call 65; refine (KK.out _).mono ?_; rintro e w4 ⟨rfl, x4⟩) | (go_at_call 66; refine (KN.out _).mono ?_; rintro e w5 ⟨rfl, x5⟩) | (go_at_call 54; refine (KE.out _).mono ?_; rintro e w6 ⟨rfl, x6⟩))
          go_ret2
          exact ⟨by rw [HF.out]; rfl, by (exact eX)⟩
end Go.Proofs.YtaioeailgknfjaaGreatDoor

/- The walk of enclaveref03.take: signs, and what is none. The walks of enclaveref03.Lex, Same. -/
namespace Go.Proofs.YtaioeailgknfjaaGreatDoor
open Go Go.RowKit Go.Sort

theorem takeOf_sign {B : List UInt8} {i : Nat} {c : UInt8} (h : B[i]? = some c) (hc : clsU c = 5) : takeOf (B.drop i) = if signOf (B.drop i) = 0 then (ByteArray.empty, 0) else (bs ((B.drop i).take (signOf (B.drop i))), 5) := by
  rw [drop_cons_at h]
  unfold takeOf
  rw [tokAt_sign hc]
  by_cases h1 : signOf (c :: B.drop (i + 1)) = 0
  · simp only [if_pos h1]
  · simp only [if_neg h1]
theorem takeOf_none {B : List UInt8} {i : Nat} {c : UInt8} (h : B[i]? = some c) (hc : clsU c = 0 ∨ clsU c = 1) : takeOf (B.drop i) = (ByteArray.empty, 0) := by
  rw [drop_cons_at h]
  unfold takeOf
  rw [tokAt_other hc]
theorem toNat_eq {c : UInt8} {n : Nat} (h : ((c.toNat : Nat) : Int) = (n : Int)) (hn : n < 256) : c = UInt8.ofNat n := by
  have : c.toNat = n := by omega
  subst this
  exact (UInt8.ofNat_toNat).symm
/-- What a sign is, by its byte and the next one. -/
theorem takeOf_two {B : List UInt8} {i : Nat} {c d : UInt8} (h : B[i]? = some c) (h' : B[i + 1]? = some d) (hc : clsU c = 5) :
    takeOf (B.drop i) = if (((c.toNat : Nat) : Int) = 58 ∧ ((d.toNat : Nat) : Int) = 61) ∨ (((c.toNat : Nat) : Int) = 61 ∧ ((d.toNat : Nat) : Int) = 62) then (bs ((B.drop i).take 2), 5) else if ((c.toNat : Nat) : Int) = 58 ∨ ((c.toNat : Nat) : Int) = 62 then (ByteArray.empty, 0) else (bs ((B.drop i).take 1), 5) := by
  rw [takeOf_sign h hc, drop_cons_at h, drop_cons_at h', sign_dec]
  have e1 : (c :: d :: B.drop (i + 1 + 1)).take 2 = [c, d] := rfl
  rw [e1]
  have a58 : ((c.toNat : Nat) : Int) = 58 ↔ c = 58 := ⟨fun h => toNat_eq (n := 58) h (by omega), fun h => by rw [h]; rfl⟩
  have a61 : ((c.toNat : Nat) : Int) = 61 ↔ c = 61 := ⟨fun h => toNat_eq (n := 61) h (by omega), fun h => by rw [h]; rfl⟩
  have b61 : ((d.toNat : Nat) : Int) = 61 ↔ d = 61 := ⟨fun h => toNat_eq (n := 61) h (by omega), fun h => by rw [h]; rfl⟩
  have b62 : ((d.toNat : Nat) : Int) = 62 ↔ d = 62 := ⟨fun h => toNat_eq (n := 62) h (by omega), fun h => by rw [h]; rfl⟩
  have k : ([c, d] = [58, 61] ∨ [c, d] = [61, 62]) ↔ (((c.toNat : Nat) : Int) = 58 ∧ ((d.toNat : Nat) : Int) = 61) ∨ (((c.toNat : Nat) : Int) = 61 ∧ ((d.toNat : Nat) : Int) = 62) := by
    rw [a58, a61, b61, b62]
    simp
  by_cases hk : (((c.toNat : Nat) : Int) = 58 ∧ ((d.toNat : Nat) : Int) = 61) ∨ (((c.toNat : Nat) : Int) = 61 ∧ ((d.toNat : Nat) : Int) = 62)
  · simp only [if_pos hk, if_pos (k.2 hk)]
    simp [e1]
  · simp only [if_neg hk, if_neg (fun h => hk (k.1 h))]
    by_cases hz : ((c.toNat : Nat) : Int) = 58 ∨ ((c.toNat : Nat) : Int) = 62
    · simp only [if_pos hz]
      simp
    · simp only [if_neg hz]
      simp
theorem takeOf_last {B : List UInt8} {i : Nat} {c : UInt8} (h : B[i]? = some c) (h' : B.length = i + 1) (hc : clsU c = 5) :
    takeOf (B.drop i) = if ((c.toNat : Nat) : Int) = 58 ∨ ((c.toNat : Nat) : Int) = 62 then (ByteArray.empty, 0) else (bs ((B.drop i).take 1), 5) := by
  have e : B.drop (i + 1) = [] := List.drop_eq_nil_of_le (by omega)
  rw [takeOf_sign h hc, drop_cons_at h, e, sign_dec]
  have k : ¬ ([c].take 2 = [58, 61] ∨ [c].take 2 = [61, 62]) := by simp
  simp only [if_neg k]
  by_cases hz : ((c.toNat : Nat) : Int) = 58 ∨ ((c.toNat : Nat) : Int) = 62
  · simp only [if_pos hz]
    simp
  · simp only [if_neg hz]
    simp
theorem cls_58 : cls 58 = 5 := by decide +kernel
theorem cls_61 : cls 61 = 5 := by decide +kernel
set_option maxRecDepth 8000 in
set_option maxHeartbeats 8000000 in
theorem ref03_take_sign (B : List UInt8) (at_ : Nat) (c : UInt8) (w : World) (b o len cap : Nat) (h1 : len ≤ cap) (h2 : cap ≤ 9223372036854775807) (hr : IsBytes w B (some ⟨b, o, none⟩) len) (hat : at_ < len) (hg : B[at_]? = some c) (hcl : clsU c = 5) :
    Calls Tryz.prog 33 #[.slice (some ⟨b, o, none⟩) len cap, .int .i64 (at_ : Int)] w (RetTake (B.drop at_) w) := by
  have hlen := hr.length
  have q : w.cell? ⟨b, o + at_, none⟩ = some (.int .u8 (c.toNat : Int)) := by
    obtain ⟨c', b', o', g, e, q⟩ := hr.at_ hat
    cases e
    rw [hg] at g
    cases g
    exact q
  have hbb := byte_bound c
  have KD0 := Lib.hid fun W => ref03_digit ((c.toNat : Nat) : Int) W hbb.1 hbb.2
  have KL0 := Lib.hid fun W => ref03_letter ((c.toNat : Nat) : Int) W hbb.1 hbb.2
  have KC0 := Lib.hid fun W => ref_class ((c.toNat : Nat) : Int) W hbb.1 hbb.2
  have e5 : cls ((c.toNat : Nat) : Int) = 5 := hcl
  have hcc : decide (cls ((c.toNat : Nat) : Int) = 2) = false := by rw [e5]; rfl
  have hcc' : decide (cls ((c.toNat : Nat) : Int) = 3 ∨ cls ((c.toNat : Nat) : Int) = 4) = false := by rw [e5]; rfl
  rw [hcc] at KD0
  rw [hcc'] at KL0
  rw [e5] at KC0
  have hz1 : (at_ : Int) < (len : Int) := by omega
  have hw1 : IntKind.i64.wrap ((at_ : Int) + 1) = (at_ : Int) + 1 := IntWalk.i64_in _ ⟨by omega, by omega⟩
  have hw2 : at_ + 1 < len → IntKind.i64.wrap ((at_ : Int) + 2) = (at_ : Int) + 2 := fun h => IntWalk.i64_in _ ⟨by omega, by omega⟩
  by_cases hl : at_ + 1 < len
  · obtain ⟨d, b', o', g, e, q2⟩ := hr.at_ hl
    cases e
    have HT := Lib.hid (takeOf_two hg g hcl)
    have HCV2 := Lib.hid fun W (h : Ext w W) k => conv_bytes (hr.ext h) at_ 2 k (by omega)
    have HCV1 := Lib.hid fun W (h : Ext w W) k => conv_bytes (hr.ext h) at_ 1 k (by omega)
    have hz2 : (at_ : Int) + 1 < (len : Int) := by omega
    have hw2 := hw2 hl
    generalize bs ((B.drop at_).take 2) = s2 at *
    generalize bs ((B.drop at_).take 1) = s1 at *
    generalize ((c.toNat : Nat) : Int) = C at *
    generalize ((d.toNat : Nat) : Int) = D at *
    clear hr hcc hcc' hg hcl hlen e5 g
    have hcs : (C = 58 ∧ D = 61) ∨ (C = 61 ∧ D = 62) ∨ (C = 58 ∧ D ≠ 61) ∨ (C = 61 ∧ D ≠ 62) ∨ C = 62 ∨ (C ≠ 58 ∧ C ≠ 61 ∧ C ≠ 62) := by omega
    rcases hcs with ⟨rfl, rfl⟩ | ⟨rfl, rfl⟩ | ⟨rfl, hd⟩ | ⟨rfl, hd⟩ | rfl | ⟨n1, n2, n3⟩
    · have HF : Hid (takeOf (B.drop at_) = (s2, 5)) := Lib.hid (by rw [HT.out]; simp)
      go_enter Tryz.func33, Tryz.ntmps33
      go_wp2_with (first | (go_at_call 62; refine (KD0.out _).mono ?_; rintro e w1 ⟨rfl, x1⟩) | (go_at_call 64; refine (KL0.out _).mono ?_; rintro e w2 ⟨rfl, x2⟩; have hcv2 := fun k => HCV2.out w2 (by (exact eX)) k; have q3 := (x1.trans x2).cell q2) | (go_at_call 32; refine (KC0.out _).mono ?_; rintro e w3 ⟨rfl, x3⟩; have hcv1 := fun k => HCV1.out w3 (by (exact eX)) k))
      go_ret2
      exact ⟨by rw [HF.out]; rfl, by (exact eX)⟩
    · have HF : Hid (takeOf (B.drop at_) = (s2, 5)) := Lib.hid (by rw [HT.out]; simp)
      go_enter Tryz.func33, Tryz.ntmps33
      go_wp2_with (first | (go_at_call 62; refine (KD0.out _).mono ?_; rintro e w1 ⟨rfl, x1⟩) | (go_at_call 64; refine (KL0.out _).mono ?_; rintro e w2 ⟨rfl, x2⟩; have hcv2 := fun k => HCV2.out w2 (by (exact eX)) k; have q3 := (x1.trans x2).cell q2) | (go_at_call 32; refine (KC0.out _).mono ?_; rintro e w3 ⟨rfl, x3⟩; have hcv1 := fun k => HCV1.out w3 (by (exact eX)) k))
      go_ret2
      exact ⟨by rw [HF.out]; rfl, by (exact eX)⟩
    · have HF : Hid (takeOf (B.drop at_) = (ByteArray.empty, 0)) := Lib.hid (by rw [HT.out]; simp [hd])
      have hdb : (D == 61) = false := by simpa using hd
      clear hd
      go_enter Tryz.func33, Tryz.ntmps33
      go_wp2_with (first | (go_at_call 62; refine (KD0.out _).mono ?_; rintro e w1 ⟨rfl, x1⟩) | (go_at_call 64; refine (KL0.out _).mono ?_; rintro e w2 ⟨rfl, x2⟩; have hcv2 := fun k => HCV2.out w2 (by (exact eX)) k; have q3 := (x1.trans x2).cell q2) | (go_at_call 32; refine (KC0.out _).mono ?_; rintro e w3 ⟨rfl, x3⟩; have hcv1 := fun k => HCV1.out w3 (by (exact eX)) k))
      go_ret2
      exact ⟨by rw [HF.out]; rfl, by (exact eX)⟩
    · have HF : Hid (takeOf (B.drop at_) = (s1, 5)) := Lib.hid (by rw [HT.out]; simp [hd])
      have hdb : (D == 62) = false := by simpa using hd
      clear hd
      go_enter Tryz.func33, Tryz.ntmps33
      go_wp2_with (first | (go_at_call 62; refine (KD0.out _).mono ?_; rintro e w1 ⟨rfl, x1⟩) | (go_at_call 64; refine (KL0.out _).mono ?_; rintro e w2 ⟨rfl, x2⟩; have hcv2 := fun k => HCV2.out w2 (by (exact eX)) k; have q3 := (x1.trans x2).cell q2) | (go_at_call 32; refine (KC0.out _).mono ?_; rintro e w3 ⟨rfl, x3⟩; have hcv1 := fun k => HCV1.out w3 (by (exact eX)) k))
      go_ret2
      exact ⟨by rw [HF.out]; rfl, by (exact eX)⟩
    · have HF : Hid (takeOf (B.drop at_) = (ByteArray.empty, 0)) := Lib.hid (by rw [HT.out]; simp)
      go_enter Tryz.func33, Tryz.ntmps33
      go_wp2_with (first | (go_at_call 62; refine (KD0.out _).mono ?_; rintro e w1 ⟨rfl, x1⟩) | (go_at_call 64; refine (KL0.out _).mono ?_; rintro e w2 ⟨rfl, x2⟩; have hcv2 := fun k => HCV2.out w2 (by (exact eX)) k; have q3 := (x1.trans x2).cell q2) | (go_at_call 32; refine (KC0.out _).mono ?_; rintro e w3 ⟨rfl, x3⟩; have hcv1 := fun k => HCV1.out w3 (by (exact eX)) k))
      go_ret2
      exact ⟨by rw [HF.out]; rfl, by (exact eX)⟩
    · have HF : Hid (takeOf (B.drop at_) = (s1, 5)) := Lib.hid (by rw [HT.out]; simp [n1, n2, n3])
      have c58 : (C == 58) = false := by simpa using n1
      have c61 : (C == 61) = false := by simpa using n2
      have d58 : (C != 58) = true := by simpa using n1
      have d62 : (C != 62) = true := by simpa using n3
      clear n1 n2 n3
      go_enter Tryz.func33, Tryz.ntmps33
      go_wp2_with (first | (go_at_call 62; refine (KD0.out _).mono ?_; rintro e w1 ⟨rfl, x1⟩) | (go_at_call 64; refine (KL0.out _).mono ?_; rintro e w2 ⟨rfl, x2⟩; have hcv2 := fun k => HCV2.out w2 (by (exact eX)) k; have q3 := (x1.trans x2).cell q2) | (go_at_call 32; refine (KC0.out _).mono ?_; rintro e w3 ⟨rfl, x3⟩; have hcv1 := fun k => HCV1.out w3 (by (exact eX)) k))
      go_ret2
      exact ⟨by rw [HF.out]; rfl, by (exact eX)⟩
  · have HT := Lib.hid (takeOf_last hg (by omega) hcl)
    have HCV1 := Lib.hid fun W (h : Ext w W) k => conv_bytes (hr.ext h) at_ 1 k (by omega)
    have hz2 : ¬ (at_ : Int) + 1 < (len : Int) := by omega
    clear hw2
    generalize bs ((B.drop at_).take 1) = s1 at *
    generalize ((c.toNat : Nat) : Int) = C at *
    clear hr hcc hcc' hg hcl hlen e5
    have hcs : C = 58 ∨ C = 62 ∨ (C ≠ 58 ∧ C ≠ 62) := by omega
    rcases hcs with rfl | rfl | ⟨n1, n3⟩
    · have HF : Hid (takeOf (B.drop at_) = (ByteArray.empty, 0)) := Lib.hid (by rw [HT.out]; simp)
      go_enter Tryz.func33, Tryz.ntmps33
      go_wp2_with (first | (go_at_call 62; refine (KD0.out _).mono ?_; rintro e w1 ⟨rfl, x1⟩) | (go_at_call 64; refine (KL0.out _).mono ?_; rintro e w2 ⟨rfl, x2⟩) | (go_at_call 32; refine (KC0.out _).mono ?_; rintro e w3 ⟨rfl, x3⟩; have hcv1 := fun k => HCV1.out w3 (by (exact eX)) k))
      go_ret2
      exact ⟨by rw [HF.out]; rfl, by (exact eX)⟩
    · have HF : Hid (takeOf (B.drop at_) = (ByteArray.empty, 0)) := Lib.hid (by rw [HT.out]; simp)
      go_enter Tryz.func33, Tryz.ntmps33
      go_wp2_with (first | (go_at_call 62; refine (KD0.out _).mono ?_; rintro e w1 ⟨rfl, x1⟩) | (go_at_call 64; refine (KL0.out _).mono ?_; rintro e w2 ⟨rfl, x2⟩) | (go_at_call 32; refine (KC0.out _).mono ?_; rintro e w3 ⟨rfl, x3⟩; have hcv1 := fun k => HCV1.out w3 (by (exact eX)) k))
      go_ret2
      exact ⟨by rw [HF.out]; rfl, by (exact eX)⟩
    · have HF : Hid (takeOf (B.drop at_) = (s1, 5)) := Lib.hid (by rw [HT.out]; simp [n1, n3])
      have d58 : (C != 58) = true := by simpa using n1
      have d62 : (C != 62) = true := by simpa using n3
      clear n1 n3
      go_enter Tryz.func33, Tryz.ntmps33
      go_wp2_with (first | (go_at_call 62; refine (KD0.out _).mono ?_; rintro e w1 ⟨rfl, x1⟩) | (go_at_call 64; refine (KL0.out _).mono ?_; rintro e w2 ⟨rfl, x2⟩) | (go_at_call 32; refine (KC0.out _).mono ?_; rintro e w3 ⟨rfl, x3⟩; have hcv1 := fun k => HCV1.out w3 (by (exact eX)) k))
      go_ret2
      exact ⟨by rw [HF.out]; rfl, by (exact eX)⟩
set_option maxRecDepth 8000 in
set_option maxHeartbeats 8000000 in
theorem ref03_take_none (B : List UInt8) (at_ : Nat) (c : UInt8) (w : World) (b o len cap : Nat) (h1 : len ≤ cap) (h2 : cap ≤ 9223372036854775807) (hr : IsBytes w B (some ⟨b, o, none⟩) len) (hat : at_ < len) (hg : B[at_]? = some c) (hcl : clsU c = 0 ∨ clsU c = 1) :
    Calls Tryz.prog 33 #[.slice (some ⟨b, o, none⟩) len cap, .int .i64 (at_ : Int)] w (RetTake (B.drop at_) w) := by
  have q : w.cell? ⟨b, o + at_, none⟩ = some (.int .u8 (c.toNat : Int)) := by
    obtain ⟨c', b', o', g, e, q⟩ := hr.at_ hat
    cases e
    rw [hg] at g
    cases g
    exact q
  have hbb := byte_bound c
  have KD0 := Lib.hid fun W => ref03_digit ((c.toNat : Nat) : Int) W hbb.1 hbb.2
  have KL0 := Lib.hid fun W => ref03_letter ((c.toNat : Nat) : Int) W hbb.1 hbb.2
  have KC0 := Lib.hid fun W => ref_class ((c.toNat : Nat) : Int) W hbb.1 hbb.2
  have hz1 : (at_ : Int) < (len : Int) := by omega
  have hw1 : IntKind.i64.wrap ((at_ : Int) + 1) = (at_ : Int) + 1 := IntWalk.i64_in _ ⟨by omega, by omega⟩
  have HT := Lib.hid (takeOf_none hg hcl)
  have hcl' : cls ((c.toNat : Nat) : Int) = 0 ∨ cls ((c.toNat : Nat) : Int) = 1 := hcl
  have n58 : ((c.toNat : Nat) : Int) ≠ 58 := fun e => by rw [e, cls_58] at hcl'; omega
  have n61 : ((c.toNat : Nat) : Int) ≠ 61 := fun e => by rw [e, cls_61] at hcl'; omega
  generalize ((c.toNat : Nat) : Int) = C at *
  have hcc : decide (cls C = 2) = false := by simp; omega
  have hcc' : decide (cls C = 3 ∨ cls C = 4) = false := by simp; omega
  rw [hcc] at KD0
  rw [hcc'] at KL0
  have c58 : (C == 58) = false := by simpa using n58
  have c61 : (C == 61) = false := by simpa using n61
  generalize cls C = K at *
  clear hcc hcc' hg hcl n58 n61
  have hr' := Lib.hid hr
  clear hr
  by_cases hl : at_ + 1 < len
  · have hz2 : (at_ : Int) + 1 < (len : Int) := by omega
    rcases hcl' with rfl | rfl
    all_goals
      go_enter Tryz.func33, Tryz.ntmps33
      go_wp2_with (first | (go_at_call 62; refine (KD0.out _).mono ?_; rintro e w1 ⟨rfl, x1⟩) | (go_at_call 64; refine (KL0.out _).mono ?_; rintro e w2 ⟨rfl, x2⟩) | (go_at_call 32; refine (KC0.out _).mono ?_; rintro e w3 ⟨rfl, x3⟩))
      go_ret2
      exact ⟨by rw [HT.out]; rfl, by (exact eX)⟩
  · have hz2 : ¬ (at_ : Int) + 1 < (len : Int) := by omega
    rcases hcl' with rfl | rfl
    all_goals
      go_enter Tryz.func33, Tryz.ntmps33
      go_wp2_with (first | (go_at_call 62; refine (KD0.out _).mono ?_; rintro e w1 ⟨rfl, x1⟩) | (go_at_call 64; refine (KL0.out _).mono ?_; rintro e w2 ⟨rfl, x2⟩) | (go_at_call 32; refine (KC0.out _).mono ?_; rintro e w3 ⟨rfl, x3⟩))
      go_ret2
      exact ⟨by rw [HT.out]; rfl, by (exact eX)⟩
/-- The token at a place. -/
theorem ref03_take (B : List UInt8) (at_ : Nat) (w : World) (b o len cap : Nat) (h1 : len ≤ cap) (h2 : cap ≤ 9223372036854775807) (hr : IsBytes w B (some ⟨b, o, none⟩) len) (hat : at_ < len) :
    Calls Tryz.prog 33 #[.slice (some ⟨b, o, none⟩) len cap, .int .i64 (at_ : Int)] w (RetTake (B.drop at_) w) := by
  obtain ⟨c, b', o', g, e, q⟩ := hr.at_ hat
  cases e
  have hb : 0 ≤ clsU c ∧ clsU c ≤ 5 := cls_bound _
  have : clsU c = 2 ∨ (clsU c = 3 ∨ clsU c = 4) ∨ clsU c = 5 ∨ (clsU c = 0 ∨ clsU c = 1) := by omega
  rcases this with h | h | h | h
  · exact ref03_take_digit B at_ c w b o len cap h1 h2 hr hat g h
  · exact ref03_take_letter B at_ c w b o len cap h1 h2 hr hat g h
  · exact ref03_take_sign B at_ c w b o len cap h1 h2 hr hat g h
  · exact ref03_take_none B at_ c w b o len cap h1 h2 hr hat g h
end Go.Proofs.YtaioeailgknfjaaGreatDoor
namespace Go.Proofs.YtaioeailgknfjaaGreatDoor
open Go Go.RowKit Go.Sort

theorem LexAt.blank1 {B : List UInt8} {o : List Tok} {p : Nat} (h : LexAt B o p) {c : UInt8} (hg : B[p]? = some c) (hc : clsU c = 1) : LexAt B o (p + 1) := by
  have hlt := (List.getElem?_eq_some_iff.1 hg).1
  refine ⟨by omega, ?_, h.fits, by have := h.few; omega⟩
  rw [h.eq, drop_cons_at hg, lexL_blank hc]
theorem takeOf_some {l : List UInt8} {n : Nat} {k : Int} (h : tokAt l = some (n, k)) : takeOf l = (bs (l.take n), k) := by unfold takeOf; rw [h]
theorem takeOf_no {l : List UInt8} (h : tokAt l = none) : takeOf l = (ByteArray.empty, 0) := by unfold takeOf; rw [h]
theorem no_blank {B : List UInt8} {p : Nat} {c : UInt8} (hg : B[p]? = some c) (hc : clsU c ≠ 1) : ∀ c r, B.drop p = c :: r → clsU c ≠ 1 := by
  intro c' r h
  rw [drop_cons_at hg] at h
  cases h
  exact hc
theorem owns_none (w : World) (base : Nat) (e : TypeId) (size : Nat) (hb : base ≤ w.heap.size) : (w.alloc (.cells #[] e)).ownsRow base e size (.slice (some ⟨w.heap.size, 0, none⟩) 0 0) 0 [] :=
  owns_new w base e size 0 [] hb (by unfold maxLen; omega) (by simp)
set_option maxRecDepth 8000 in
set_option maxHeartbeats 8000000 in
theorem ref03_lex (B : List UInt8) (w : World) (a : Option Addr) (len cap : Nat) (h1 : len ≤ cap) (h2 : cap ≤ 9223372036854775807) (hr : IsBytes w B a len) :
    Calls Tryz.prog 12 #[.slice a len cap] w (RetLex B w) := by
  have hlen := hr.length
  have HLEN := Lib.hid hlen
  have HR := Lib.hid hr
  clear hr
  by_cases h64 : 65536 < len
  · have hz : (65536 : Int) < (len : Int) := by omega
    have HX := Lib.hid (lexR_long (B := B) (by omega))
    clear hlen
    go_enter Tryz.func12, Tryz.ntmps12
    go_wp2_with fail
    refine bodyPost_ret (v := .tuple #[.slice (some ⟨w.heap.size, 0, none⟩) 0 0, .int .i64 0, .int .i64 3]) (by simp [results, Tryz.results12, go_sem]) rfl ⟨_, 0, 0, by rw [HX.out], Nat.le_refl _, by omega, by rw [HX.out]; exact ⟨IsFlat.nil _ _ _, by simp⟩, by (exact eX)⟩
  have hz : (len : Int) ≤ 65536 := by omega
  have HNL := Lib.hid (show ¬ 65536 < B.length from by omega)
  obtain ⟨i0, hi, hz0, hz1', hz2'⟩ := infoTk1
  have HIN := Lib.hid (And.intro hi (And.intro hz0 (And.intro hz1' hz2')))
  clear hi hz0 hz1' hz2' hlen
  go_enter Tryz.func12, Tryz.ntmps12
  go_wp2_with fail
  go_loopg [5, 6] len (fun g s i wr => ∃ (p : Nat) (o : List Tok), g = len - p ∧ i = .int .i64 p ∧ LexAt B o p ∧ OwnToks wr w.heap.size s o ∧ Ext w wr)
  case atStart => exact ⟨0, [], rfl, rfl, LexAt.start B, owns_none w w.heap.size _ _ (Nat.le_refl _), by (exact eX)⟩
  case round =>
    obtain ⟨p, o, rfl, rfl, hA, hO, hx⟩ := hrel
    have HA := Lib.hid hA
    have HO := Lib.hid hO
    have hple : p ≤ len := by have := HA.out.le; have := HLEN.out; omega
    have hfew := hA.few
    clear hA hO
    by_cases hlt : p < len
    · obtain ⟨c, b, o', g, rfl, q⟩ := (HR.out.ext hx).at_ hlt
      have hz1 : (p : Int) < (len : Int) := by omega
      have hbb := byte_bound c
      have KC := Lib.hid fun W => ref_class ((c.toNat : Nat) : Int) W hbb.1 hbb.2
      by_cases hc1 : clsU c = 1
      · have hc1' : cls ((c.toNat : Nat) : Int) = 1 := hc1
        rw [hc1'] at KC
        have HA2 := Lib.hid (HA.out.blank1 g hc1)
        have hw1 : IntKind.i64.wrap ((p : Int) + 1) = (p : Int) + 1 := IntWalk.i64_in _ ⟨by omega, by omega⟩
        clear g hc1 hc1'
        go_wp2_with (go_at_call 32; refine (KC.out _).mono ?_; rintro e w1 ⟨rfl, x1⟩)
        go_roundg (len - (p + 1))
        case rel => exact ⟨p + 1, o, rfl, by go_num, HA2.out, owns_ext x1 HO.out, hx.trans x1⟩
        case measure => omega
      have hnb := no_blank g hc1
      have hcb : (cls ((c.toNat : Nat) : Int) == 1) = false := by simpa [clsU] using hc1
      have HNB := Lib.hid hnb
      generalize cls ((c.toNat : Nat) : Int) = K at *
      have KN : Hid (∀ W, Ext wr W → Calls Tryz.prog 33 #[.slice (some ⟨b, o', none⟩) len cap, .int .i64 (p : Int)] W fun e w' => e = .returned (.tuple #[.string (takeOf (B.drop p)).1, .int .u8 (takeOf (B.drop p)).2]) ∧ Ext W w') := Lib.hid fun W h => ref03_take B p W b o' len cap h1 h2 ((HR.out.ext hx).ext h) hlt
      clear g hc1 hnb
      cases ht : tokAt (B.drop p) with
      | none =>
        rw [takeOf_no ht] at KN
        have HE := Lib.hid (HA.out.none_ HNB.out (by have := HLEN.out; omega) ht)
        have HX := Lib.hid (lexR_error HNL.out HE.out)
        clear ht
        go_wp2_with (first | (go_at_call 32; refine (KC.out _).mono ?_; rintro e w1 ⟨rfl, x1⟩) | (go_at_call 33; refine (KN.out _ (by (exact eX))).mono ?_; rintro e w2 ⟨rfl, x2⟩))
        refine bodyPost_ret (v := .tuple #[.slice (some ⟨w2.heap.size, 0, none⟩) 0 0, .int .i64 p, .int .i64 2]) (by simp [results, Tryz.results12, go_sem]) rfl ⟨_, 0, 0, by rw [HX.out], Nat.le_refl _, by omega, by rw [HX.out]; exact ⟨IsFlat.nil _ _ _, by simp⟩, by (exact eX)⟩
      | some nk =>
        obtain ⟨n, k⟩ := nk
        rw [takeOf_some ht] at KN
        have hbd := tokAt_bd ht
        have A1 := HA.out.tok HNB.out ht (by have := HLEN.out; omega)
        have hsz : (bs ((B.drop p).take n)).size = n := by rw [bs_size, List.length_take]; omega
        have hpn : p + n ≤ len := by have := A1.le; have := HLEN.out; omega
        have HS := Lib.hid (show (((bs ((B.drop p).take n)).size : Nat) : Int) = (n : Int) from by rw [hsz])
        have HOT : Hid (∀ W v', Ext w W → W.ownsRow w.heap.size 37 3 v' (o.length + 1) ((o.map fun t => tkcells t.tk).flatten ++ [.int .u8 k, .string (bs ((B.drop p).take n)), .int .i64 p]) → OwnToks W w.heap.size v' (o ++ [⟨k, bs ((B.drop p).take n), p⟩])) := Lib.hid fun W v' _ h => by
          unfold OwnToks
          rw [toks_snoc, List.length_append]
          exact h
        rw [List.length_drop] at hbd
        generalize hss : bs ((B.drop p).take n) = s at *
        have HA2 := Lib.hid A1
        have hw1 : IntKind.i64.wrap ((p : Int) + (n : Int)) = (p : Int) + n := IntWalk.i64_in _ ⟨by omega, by omega⟩
        have hk0 : (k == 0) = false := by simp; omega
        clear ht A1 hss hsz
        obtain ⟨sa, sc, rfl, -, -, -⟩ := HO.out.open_ HA.out.fits
        go_wp2_with (first | (go_at_call 32; refine (KC.out _).mono ?_; rintro e w1 ⟨rfl, x1⟩) | (go_at_call 33; refine (KN.out _ (by (exact eX))).mono ?_; rintro e w2 ⟨rfl, x2⟩; have y2 := hx.trans (x1.trans x2)) | (at_builtin; refine wpList_append_mine rfl (.tmp 36) (.tmp 41) 32 ?r0 w.heap.size 37 i0 (.agg #[.int .u8 0, .string ByteArray.empty, .int .i64 0]) 3 32 ?r1 ?r2 ?r3 ?r4 ?r5 ?r6 ?r7 (Value.slice sa o.length sc) o.length (o.map fun t => tkcells t.tk).flatten ?r8 ?r9 ⟨w2.heap.size, 0, none⟩ 1 1 [.int .u8 k, .string s, .int .i64 p] ?r10 ?r11 ?r12 ?r13 ?r14 ?r15 ?r16 ?r17))
        case r0 => rfl
        case r1 => exact Tryz.underlying32
        case r2 => exact HIN.out.1
        case r3 => exact HIN.out.2.1
        case r4 => exact HIN.out.2.2.1
        case r5 => exact HIN.out.2.2.2
        case r6 => rfl
        case r7 => decide
        case r8 => rfl
        case r9 => exact owns_ext ((x1.trans x2).alloc _) HO.out
        case r10 => rfl
        case r11 => rfl
        case r12 => exact tkcells_at w2 k s p 37
        case r13 => exact tkcells_one k s p
        case r14 => unfold maxLen; omega
        case r15 => omega
        case r16 => have := y2.size; simp; omega
        case r17 =>
          intro v9 w9 ho9 hg9 _
          have hX9 := ext_grown hg9 (y2.alloc _) (fun k hk => (HO.out.lt k hk).1)
          have HO9 := Lib.hid (HOT.out w9 v9 hX9 ho9)
          have hs := HS.out
          clear ho9 hg9
          go_wp2_with fail
          go_roundg (len - (p + n))
          case rel => exact ⟨p + n, _, rfl, by go_num, HA2.out, HO9.out, hX9⟩
          case measure => omega
    · obtain rfl : p = len := by omega
      have HAE : Hid (LexAt B o B.length) := Lib.hid (by have := HA.out; rw [← HLEN.out]; exact this)
      have HX := Lib.hid (lexR_ok HNL.out HAE.out.end_)
      have HFE := Lib.hid (HAE.out.fitsEnd (by have := HNL.out; omega))
      obtain ⟨sa, sc, rfl, -, -, -⟩ := HO.out.open_ HA.out.fits
      go_wp2_with (at_builtin; refine wpList_append_mine rfl (.tmp 47) (.tmp 51) 32 ?r0 w.heap.size 37 i0 (.agg #[.int .u8 0, .string ByteArray.empty, .int .i64 0]) 3 32 ?r1 ?r2 ?r3 ?r4 ?r5 ?r6 ?r7 (Value.slice sa o.length sc) o.length (o.map fun t => tkcells t.tk).flatten ?r8 ?r9 ⟨wr.heap.size, 0, none⟩ 1 1 [.int .u8 6, .string ByteArray.empty, .int .i64 p] ?r10 ?r11 ?r12 ?r13 ?r14 ?r15 ?r16 ?r17)
      case r0 => rfl
      case r1 => exact Tryz.underlying32
      case r2 => exact HIN.out.1
      case r3 => exact HIN.out.2.1
      case r4 => exact HIN.out.2.2.1
      case r5 => exact HIN.out.2.2.2
      case r6 => rfl
      case r7 => decide
      case r8 => rfl
      case r9 => exact owns_ext ((Ext.refl _).alloc _) HO.out
      case r10 => rfl
      case r11 => rfl
      case r12 => exact tkcells_at wr 6 ByteArray.empty p _
      case r13 => exact tkcells_one 6 ByteArray.empty p
      case r14 => unfold maxLen; omega
      case r15 => omega
      case r16 => have := hx.size; simp; omega
      case r17 =>
        intro v9 w9 ho9 hg9 _
        have hX9 := ext_grown hg9 (hx.alloc _) (fun k hk => (HO.out.lt k hk).1)
        obtain ⟨na, nc, rfl, hn1, hn2, hn3⟩ := OwnToks.open_ (o := o ++ [(⟨6, ByteArray.empty, p⟩ : Tok)]) (w := w9) (base := w.heap.size) (by unfold OwnToks; rw [toks_snoc, List.length_append]; exact ho9) (by have := HFE.out; rw [← HLEN.out] at this; exact this)
        have HN3 := Lib.hid hn3
        have HXX : Hid (lexR B = ((o ++ [(⟨6, ByteArray.empty, p⟩ : Tok)]).map Tok.tk, 0, 0)) := Lib.hid (by have := HX.out; rw [← HLEN.out] at this; exact this)
        clear ho9 hg9 hn3
        go_wp2_with fail
        refine bodyPost_ret (v := .tuple #[.slice na (o ++ [(⟨6, ByteArray.empty, p⟩ : Tok)]).length nc, .int .i64 0, .int .i64 0]) (by simp [results, Tryz.results12, go_sem]) rfl ⟨na, (o ++ [(⟨6, ByteArray.empty, p⟩ : Tok)]).length, nc, by rw [HXX.out], hn1, hn2, by rw [HXX.out]; exact HN3.out, by (exact eX)⟩
set_option maxRecDepth 8000 in
set_option maxHeartbeats 1000000 in
theorem eq_toks (k : Int) (s : ByteArray) (p : Int) (w : World) : (Op.equalIn 10000 37 (.agg #[.int .u8 k, .string s, .int .i64 p]) (.agg #[.int .u8 k, .string s, .int .i64 p])).run Tryz.prog w = .ok true w := by
  have hS : Tryz.prog.underlying 37 = some (.struct (Tryz.prog.fieldsOf 37)) := by kernel_rfl
  have hp : Tryz.prog.stoodInHeld 37 = false := by kernel_rfl
  rw [show (10000 : Nat) = 9999 + 1 from rfl, run_equalIn_struct w 9999 37 _ _ hS hp]
  simp only [Program.fieldsOf, Tryz.underlying37]
  go_simp
  try simp
theorem Ext.drewN {a w : World} (h : Ext a w) (n : Nat) : Ext a (w.drewN n) := h.trans ⟨rfl, rfl, rfl, Nat.le_refl _, fun _ _ => rfl⟩
/-- Two rows of the same tokens. -/
theorem ref03_same (l : List Tk) (w : World) (a a' : Option Addr) (len len' cap cap' : Nat) (h1 : len ≤ cap) (h2 : cap ≤ 9223372036854775807) (h1' : len' ≤ cap') (h2' : cap' ≤ 9223372036854775807) (hl : IsToks w l a len) (hl' : IsToks w l a' len') :
    Calls Tryz.prog 45 #[.slice a len cap, .slice a' len' cap'] w fun e w' => e = .returned (.bool true) ∧ Ext w w' := by
  obtain rfl : len = len' := by rw [hl.length, hl'.length]
  have HL := Lib.hid hl
  have HL' := Lib.hid hl'
  clear hl hl'
  have heq := fun (w : World) k s p => eq_toks k s p w
  go_enter Tryz.func45, Tryz.ntmps45
  go_wp2_with fail
  go_loopg [13] len (fun g i wr => ∃ j : Nat, g = len - j ∧ i = .int .i64 j ∧ j ≤ len ∧ Ext w wr)
  case atStart => exact ⟨0, rfl, rfl, Nat.zero_le _, Ext.refl _⟩
  case round =>
    obtain ⟨j, rfl, rfl, hj, hx⟩ := hrel
    by_cases hlt : j < len
    · have hz1 : (j : Int) < (len : Int) := by omega
      obtain ⟨t, b, o, g, hf, rfl, q0, q1, q2⟩ := (HL.out.ext hx).at3 hlt
      obtain ⟨t', b', o', g', hf', rfl, r0, r1, r2⟩ := (HL'.out.ext hx).at3 hlt
      rw [g] at g'
      cases g'
      have hw1 : IntKind.i64.wrap ((j : Int) + 1) = (j : Int) + 1 := IntWalk.i64_in _ ⟨by omega, by omega⟩
      clear g hf hf'
      go_wp2_with fail
      go_quiet (fail)
      go_wp2_with fail
      go_roundg (len - (j + 1))
      case rel => exact ⟨j + 1, rfl, by go_num, by omega, hx.drewN _⟩
      case measure => omega
    · obtain rfl : j = len := by omega
      go_wp2_with fail
      go_ret
      exact ⟨rfl, by (exact eX)⟩
end Go.Proofs.YtaioeailgknfjaaGreatDoor

/- The walk of enclaveref05.begin. -/
namespace Go.Proofs.YtaioeailgknfjaaGreatDoor
open Go Go.RowKit Go.Sort

/-- The tokens of a text, or the place and the error. -/
def beginR (B : List UInt8) : Except (Int × Int) (List Tk) := if (lexR B).2.2 ≠ 0 then .error ((lexR B).2.1, (lexR B).2.2) else if 4001 < (lexR B).1.length then .error ((((lexR B).1[4000]?).map Tk.pos).getD 0, 3) else .ok (lexR B).1
def RetB (w : World) (r : Except (Int × Int) (List Tk)) (e : Ending) (w' : World) : Prop := Ext w w' ∧ match r with
  | .error (p, f) => e = .returned (.tuple #[.agg #[.slice none 0 0, .int .i64 0, .bool false], .int .i64 p, .int .i64 f])
  | .ok L => ∃ a n c, e = .returned (.tuple #[.agg #[.slice a n c, .int .i64 0, .bool false], .int .i64 0, .int .i64 0]) ∧ IsL w' L a n c
set_option maxRecDepth 60000 in
set_option maxHeartbeats 4000000 in
theorem ref5_begin (B : List UInt8) (w : World) (a : Option Addr) (len cap : Nat) (h1 : len ≤ cap) (h2 : cap ≤ 9223372036854775807) (hr : IsBytes w B a len) :
    Calls Tryz.prog 40 #[.slice a len cap] w (RetB w (beginR B)) := by
  have KL := Lib.hid fun W (h : Ext w W) => ref03_lex B W a len cap h1 h2 (hr.ext h)
  have HB := Lib.hid (show beginR B = if (lexR B).2.2 ≠ 0 then .error ((lexR B).2.1, (lexR B).2.2) else if 4001 < (lexR B).1.length then .error ((((lexR B).1[4000]?).map Tk.pos).getD 0, 3) else .ok (lexR B).1 from rfl)
  unfold RetLex at KL
  generalize beginR B = R at *
  generalize lexR B = LR at *
  obtain ⟨L, p, f⟩ := LR
  simp only at KL HB
  clear hr
  by_cases hf : f = 0
  case neg =>
    have hfb : (f != 0) = true := by simpa using hf
    have HR : Hid (R = .error (p, f)) := Lib.hid (by rw [HB.out, if_pos hf])
    clear hf HB
    go_enter Tryz.func40, Tryz.ntmps40
    go_wp2_with (go_at_call 12; refine (KL.out _ (by (exact eX))).mono ?_; rintro e w1 ⟨ra, rn, rc, rfl, hn1, hn2, hT, x1⟩; have hZ := blk_top x1; obtain ⟨p0, p1, p2, f0, f1, f2, l0⟩ := SBlk.open_ (show SBlk _ _ none 0 0 0 false from hZ))
    have y1 : Ext w w1 := by (exact eX)
    have hZ9 := Blk.lay3 (blk_top x1) (u0 := .slice none 0 0) (u1 := .int .i64 0) (u2 := .bool false)
    obtain ⟨r0, r1, r2, -⟩ := SBlk.open_ (show SBlk _ _ none 0 0 0 false from hZ9)
    have Y9 : Ext w (((w1.setCell ⟨w.heap.size, 0, none⟩ (.slice none 0 0)).setCell ⟨w.heap.size, 1, none⟩ (.int .i64 0)).setCell ⟨w.heap.size, 2, none⟩ (.bool false)) := ((y1.setCell (p := ⟨w.heap.size, 0, none⟩) (Nat.le_refl _) _).setCell (p := ⟨w.heap.size, 1, none⟩) (Nat.le_refl _) _).setCell (p := ⟨w.heap.size, 2, none⟩) (Nat.le_refl _) _
    rw [HR.out]
    exact bodyPost_ret (v := .tuple #[.agg #[.slice none 0 0, .int .i64 0, .bool false], .int .i64 p, .int .i64 f]) (by simp [results, Tryz.results40, go_sem, r0, r1, r2]) rfl ⟨Y9, rfl⟩
  case pos =>
    subst hf
    by_cases hl : 4001 < L.length
    · have HR : Hid (R = .error (((L[4000]?).map Tk.pos).getD 0, 3)) := Lib.hid (by rw [HB.out, if_neg (by simp), if_pos hl])
      clear HB
      go_enter Tryz.func40, Tryz.ntmps40
      go_upto_region 4 with (go_at_call 12; refine (KL.out _ (by (exact eX))).mono ?_; rintro e w1 ⟨ra, rn, rc, rfl, hn1, hn2, hT, x1⟩; have hZ := blk_top x1; obtain ⟨p0, p1, p2, f0, f1, f2, l0⟩ := SBlk.open_ (show SBlk _ _ none 0 0 0 false from hZ))
      have hln := hT.length
      have hz : (4001 : Int) < (rn : Int) := by omega
      have hz2 : (4000 : Int) < (rn : Int) := by omega
      obtain ⟨t, b, o, g, -, rfl, q0, q1, q2⟩ := hT.at3 (i := 4000) (by omega)
      rw [g] at HR
      have hbl := World.block_lt_of_cell? _ _ q2
      have hbA : b ≠ w.heap.size := by
        rintro rfl
        have := (blk_top x1).cell (o + 4000 * 3)
        rw [q0] at this
        simp at this
      have y1 : Ext w w1 := by (exact eX)
      have hZ9 := (Blk.lay3 (blk_top x1) (u0 := .slice none 0 0) (u1 := .int .i64 0) (u2 := .bool false))
      have nq := fun W (h : ExtX (· = w.heap.size) w1 W) => h.cell (show ¬ (⟨b, o + 4000 * 3 + 2, none⟩ : Addr).block = w.heap.size from hbA) q2
      have Y19 : ExtX (· = w.heap.size) w1 (((w1.setCell ⟨w.heap.size, 0, none⟩ (.slice none 0 0)).setCell ⟨w.heap.size, 1, none⟩ (.int .i64 0)).setCell ⟨w.heap.size, 2, none⟩ (.bool false)) := (((ExtX.refl (A := (· = w.heap.size)) w1).setCell (p := ⟨w.heap.size, 0, none⟩) (.inl rfl) _).setCell (p := ⟨w.heap.size, 1, none⟩) (.inl rfl) _).setCell (p := ⟨w.heap.size, 2, none⟩) (.inl rfl) _
      have HY9 := Lib.hid (ExtX.ext y1 Y19 (fun q (e : q = w.heap.size) => by omega))
      have HZ9 := Lib.hid hZ9
      clear Y19 hT x1 y1 hln g hl hZ9
      go_upto_region 5 with fail
      refine wp_region_held_drew (S := fun w' => ExtX (· = w.heap.size) w1 w') (by kernel_rfl) (by (try dsimp only); (exact xX)) (fun hHeld => ?_)
      refine tK 0 (v := ?_) ?_ ?_;rotate_left;(focus (intro w hSw;(try dsimp only at hSw);go_simp;(try with_reducible rfl)));try simp only [Act.put,pA,pB,pC]
      refine tK 1 (v := ?_) ?_ ?_;rotate_left;(focus (intro w hSw;(try dsimp only at hSw);go_simp;(try with_reducible rfl)));try simp only [Act.put,pA,pB,pC]
      refine tK 2 (v := ?_) ?_ ?_;rotate_left;(focus (intro w hSw;(try dsimp only at hSw);go_simp;(try with_reducible rfl)));try simp only [Act.put,pA,pB,pC]
      refine tK 3 (v := ?_) ?_ ?_;rotate_left;(focus (intro w hSw;(try dsimp only at hSw);go_simp;(try with_reducible rfl)));try simp only [Act.put,pA,pB,pC]
      refine tK 4 (v := ?_) ?_ ?_;rotate_left;(focus (intro w hSw;(try dsimp only at hSw);go_simp;(try with_reducible rfl)));try simp only [Act.put,pA,pB,pC]
      refine held_do 5 rfl (by kernel_rfl) (by rfl) (fun K hK => ?_); go_simp; refine hK.out _ _ (by (try dsimp only); (exact xX)) (fun hHeld => ?_); clear hK K; try simp only [Act.put,pA,pB,pC]
      refine tK 6 (v := ?_) ?_ ?_;rotate_left;(focus (intro w hSw;(try dsimp only at hSw);go_simp;(try with_reducible rfl)));try simp only [Act.put,pA,pB,pC]
      refine tK 7 (v := ?_) ?_ ?_;rotate_left;(focus (intro w hSw;(try dsimp only at hSw);go_simp;(try with_reducible rfl)));try simp only [Act.put,pA,pB,pC]
      refine wpAnyH_done (by kernel_rfl) ?_ _
      all_goals
        repeat (first | go_values | go_skip | go_guarded | go_step | go_upon)
        obtain ⟨r0, r1, r2, -⟩ := SBlk.open_ (show SBlk _ _ none 0 0 0 false from Blk.drew HZ9.out)
        rw [HR.out]
        exact bodyPost_ret (v := .tuple #[.agg #[.slice none 0 0, .int .i64 0, .bool false], .int .i64 t.pos, .int .i64 3]) (by simp [results, Tryz.results40, go_sem, r0, r1, r2]) rfl ⟨HY9.out.drew, rfl⟩
    · have HR : Hid (R = .ok L) := Lib.hid (by rw [HB.out, if_neg (by simp), if_neg hl])
      clear HB
      go_enter Tryz.func40, Tryz.ntmps40
      go_upto_region 4 with (go_at_call 12; refine (KL.out _ (by (exact eX))).mono ?_; rintro e w1 ⟨ra, rn, rc, rfl, hn1, hn2, hT, x1⟩; have hZ := blk_top x1; obtain ⟨p0, p1, p2, f0, f1, f2, l0⟩ := SBlk.open_ (show SBlk _ _ none 0 0 0 false from hZ))
      have hln := hT.length
      have hz : ¬ (4001 : Int) < (rn : Int) := by omega
      have y1 : Ext w w1 := by (exact eX)
      have hZ9 := Blk.lay3 (blk_top x1) (u0 := .slice ra rn rc) (u1 := .int .i64 0) (u2 := .bool false)
      obtain ⟨r0, r1, r2, -⟩ := SBlk.open_ (show SBlk _ _ ra rn rc 0 false from hZ9)
      have Y19 : ExtX (· = w.heap.size) w1 (((w1.setCell ⟨w.heap.size, 0, none⟩ (.slice ra rn rc)).setCell ⟨w.heap.size, 1, none⟩ (.int .i64 0)).setCell ⟨w.heap.size, 2, none⟩ (.bool false)) := (((ExtX.refl (A := (· = w.heap.size)) w1).setCell (p := ⟨w.heap.size, 0, none⟩) (.inl rfl) _).setCell (p := ⟨w.heap.size, 1, none⟩) (.inl rfl) _).setCell (p := ⟨w.heap.size, 2, none⟩) (.inl rfl) _
      have hnb : ∀ q, ra = some q → ¬ q.block = w.heap.size ∨ rn = 0 := fun q e => by
        by_cases h0 : rn = 0
        · exact .inr h0
        · left
          intro hb
          obtain ⟨t, bb, oo, -, -, e2, c0, -, -⟩ := hT.at3 (i := 0) (by omega)
          rw [e] at e2
          cases e2
          have hb : bb = w.heap.size := hb
          subst hb
          have hz3 := (blk_top x1).cell (oo + 0 * 3)
          rw [c0] at hz3
          match oo, hz3 with
          | 0, hz3 => simp at hz3
          | 1, hz3 => simp at hz3
          | 2, hz3 => simp at hz3
          | k + 3, hz3 => simp at hz3
      have HT9 : Hid (IsL (((w1.setCell ⟨w.heap.size, 0, none⟩ (.slice ra rn rc)).setCell ⟨w.heap.size, 1, none⟩ (.int .i64 0)).setCell ⟨w.heap.size, 2, none⟩ (.bool false)) L ra rn rc) := Lib.hid (by
        refine ⟨⟨⟨hT.1.1, hT.1.2.1, fun i cs hi => ?_⟩, hT.2⟩, hn1, hn2⟩
        obtain ⟨b', o', e', q⟩ := hT.1.2.2 i cs hi
        refine ⟨b', o', e', fun j v hj => Y19.cell (fun hb => ?_) (q j v hj)⟩
        rcases hnb _ e' with h | h
        · exact h hb
        · have hl2 := hT.1.1
          have : i < (L.map tkcells).length := lt_of_some_ hi
          omega)
      have Y9 := ExtX.ext y1 Y19 (fun q (e : q = w.heap.size) => by omega)
      clear Y19 hT x1 y1 hnb hln
      go_wp2_with fail
      rw [HR.out]
      exact bodyPost_ret (v := .tuple #[.agg #[.slice ra rn rc, .int .i64 0, .bool false], .int .i64 0, .int .i64 0]) (by simp [results, Tryz.results40, go_sem, r0, r1, r2]) rfl ⟨Y9, ra, rn, rc, rfl, HT9.out⟩
end Go.Proofs.YtaioeailgknfjaaGreatDoor

/- The walk of the closure of parse.expr: a word, and a kid. The walk of the closure of parse.expr: a kid alone. The walk of the closure of parse.expr: a word, and a kid. The walk of parse.expr: what is kept. -/
namespace Go.Proofs.YtaioeailgknfjaaGreatDoor
open Go Go.RowKit Go.Sort

/-- What a kid's call comes to. -/
def RetSub (pb b1 bt : Nat) (x : Hd) (ms : List Tm) (w : World) (r : Res Tm) (e : Ending) (w' : World) : Prop :=
  ExtX (fun b => b = pb ∨ bt ≤ b) w w' ∧ match r with
  | .ok (t, l) => e = .returned (.tuple #[]) ∧ Prs w' pb l ∧ ∃ a' c' xs', Sub8 pb b1 bt x (ms ++ [t]) a' c' xs' w'
  | .error l => e = thrown l
end Go.Proofs.YtaioeailgknfjaaGreatDoor
namespace Go.Proofs.YtaioeailgknfjaaGreatDoor
open Go Go.RowKit Go.Sort

set_option maxRecDepth 8000 in
set_option maxHeartbeats 8000000 in
theorem parse_sub0 (f : Nat) (hE : Does 31 .expr f) (pb b1 bt : Nat) (x : Hd) (ms : List Tm) (a : Option Addr) (c : Nat) (xs : List Value) (l : List Tk) (r : Res Tm) (w : World)  (hS : Sub8 pb b1 bt x ms a c xs w) (hms : ms.length ≤ 2) (h : Prs w pb l) (he : Ended l) (hp : (parseF f .expr l) = some r) :
    Calls Tryz.prog 59 #[.slice none 0 0, .pointer (some ⟨b1, 0, none⟩), .pointer (some ⟨bt, 0, none⟩)] w (RetSub pb b1 bt x ms w r) := by
  have o1 := hS.o1
  have o2 := hS.o2
  have p0 := hS.ptr.cell 0
  simp at p0
  obtain ⟨i0, hi, hz0, hz1', hz2'⟩ := info_parts infoTmP
  have HI := Lib.hid (And.intro hi (And.intro hz0 (And.intro hz1' hz2')))
  clear hi hz0 hz1' hz2'
  have hlp := hS.ptr.lt
  have hzL : ((ms.length : Nat) : Int) < ((ms.length : Nat) : Int) + 1 := by omega
  have HPM := Lib.hid hp
  have HE := Lib.hid hE
  have he1 := he
  have hpm := HPM.out
  obtain ⟨l1, hl1⟩ : ∃ l1, l1 = l := ⟨_, rfl⟩
  subst hl1
  obtain ⟨w2, hw2⟩ : ∃ w2, w2 = w := ⟨_, rfl⟩
  subst hw2
  have P2 := h
  have S2 := hS
  have X2 := Lib.hid (ExtX.refl (A := fun b => b = pb ∨ bt ≤ b) w2)
  clear hS hp h he hE p0
  go_enter Tryz.func59, Tryz.ntmps59
  have n1 := fun W (h : ExtX (fun b => b = pb ∨ bt ≤ b) w2 W) => (S2.ptr.extx h (show ¬ (b1 = pb ∨ bt ≤ b1) by omega)).cell 0
  simp at n1
  have k7 := S2.tm.eight.2.2.2.2.2.2.2
  have hlt2 := S2.tm.lt
  have hcl0 := S2.le
  have hcc0 := S2.cap
  have HS2 := Lib.hid S2
  have HP2 := Lib.hid P2
  have HE1 := Lib.hid he1
  have HPM2 := Lib.hid hpm
  clear S2 P2 he1 hpm HPM
  cases e5 : parseF f .expr l1 with
  | none => have := HPM2.out; rw [e5] at this; cases this
  | some r5 =>
  have KE := Lib.hid fun W (hP : Prs W pb l1) => HE.out pb W l1 r5 hP HE1.out e5
  have hpm := HPM2.out
  rw [e5] at hpm
  obtain rfl : r5 = r := Option.some.inj hpm
  clear hpm
  cases r5 with
  | error l' =>
    clear e5
    go_upto_region 2 with fail
    refine wp_region_held_drew (S := fun w' => ExtX (fun b => b = pb ∨ bt ≤ b) w2 w') (by kernel_rfl) (by (try dsimp only); (exact xX)) (fun hHeld => ?_)
    refine tK 0 (v := ?_) ?_ ?_;rotate_left;(focus (intro w hSw;(try dsimp only at hSw);go_simp;(try with_reducible rfl)));try simp only [Act.put,pA,pB,pC]
    refine tK 2 (v := ?_) ?_ ?_;rotate_left;(focus (intro w hSw;(try dsimp only at hSw);go_simp;(try with_reducible rfl)));try simp only [Act.put,pA,pB,pC]
    refine wpAnyH_ready (rs := [1, 3, 5]) (by kernel_rfl) (by simp) ?_
    refine held_cons 1 rfl (by rfl) (fun K hK => ?_) (held_cons 3 rfl (by rfl) (fun K hK => ?_) (held_cons 5 rfl (by rfl) (fun K hK => ?_) AllReadyH.nil))
    go_simp; refine hK.out _ _ (by (try dsimp only); (exact xX)) (fun hHeld => ?_); clear hK K; try simp only [Act.put,pA,pB,pC]
    refine tK 4 (v := ?_) ?_ ?_;rotate_left;(focus (intro w hSw;(try dsimp only at hSw);go_simp;(try with_reducible rfl)));try simp only [Act.put,pA,pB,pC]
    refine wpAnyH_ready (rs := [3, 5]) (by kernel_rfl) (by simp) ?_
    refine held_cons 3 rfl (by rfl) (fun K hK => ?_) (held_cons 5 rfl (by rfl) (fun K hK => ?_) AllReadyH.nil)
    go_simp; (first | (refine (KE.out _ (HP2.out.ext (by (exact eX)))).mono ?_; intro e w5 hh; obtain ⟨rfl, x5⟩ := hh.error; exact ⟨rfl, X2.out.trans ((by (exact xX) : ExtX (fun b => b = pb ∨ bt ≤ b) w2 _).trans (x5.mono (fun b hb => .inl hb))), rfl⟩))
    go_simp; refine hK.out _ _ (by (try dsimp only); (exact xX)) (fun hHeld => ?_); clear hK K; try simp only [Act.put,pA,pB,pC]
    refine held_do 3 rfl (by kernel_rfl) (by rfl) (fun K hK => ?_); go_simp; (first | (refine (KE.out _ (HP2.out.ext (by (exact eX)))).mono ?_; intro e w5 hh; obtain ⟨rfl, x5⟩ := hh.error; exact ⟨rfl, X2.out.trans ((by (exact xX) : ExtX (fun b => b = pb ∨ bt ≤ b) w2 _).trans (x5.mono (fun b hb => .inl hb))), rfl⟩))
    rotate_left 0
    go_simp; (first | (refine (KE.out _ (HP2.out.ext (by (exact eX)))).mono ?_; intro e w5 hh; obtain ⟨rfl, x5⟩ := hh.error; exact ⟨rfl, X2.out.trans ((by (exact xX) : ExtX (fun b => b = pb ∨ bt ≤ b) w2 _).trans (x5.mono (fun b hb => .inl hb))), rfl⟩))
    go_simp; refine hK.out _ _ (by (try dsimp only); (exact xX)) (fun hHeld => ?_); clear hK K; try simp only [Act.put,pA,pB,pC]
    refine wpAnyH_ready (rs := [1, 3]) (by kernel_rfl) (by simp) ?_
    refine held_cons 1 rfl (by rfl) (fun K hK => ?_) (held_cons 3 rfl (by rfl) (fun K hK => ?_) AllReadyH.nil)
    go_simp; refine hK.out _ _ (by (try dsimp only); (exact xX)) (fun hHeld => ?_); clear hK K; try simp only [Act.put,pA,pB,pC]
    refine tK 4 (v := ?_) ?_ ?_;rotate_left;(focus (intro w hSw;(try dsimp only at hSw);go_simp;(try with_reducible rfl)));try simp only [Act.put,pA,pB,pC]
    refine held_do 3 rfl (by kernel_rfl) (by rfl) (fun K hK => ?_); go_simp; (first | (refine (KE.out _ (HP2.out.ext (by (exact eX)))).mono ?_; intro e w5 hh; obtain ⟨rfl, x5⟩ := hh.error; exact ⟨rfl, X2.out.trans ((by (exact xX) : ExtX (fun b => b = pb ∨ bt ≤ b) w2 _).trans (x5.mono (fun b hb => .inl hb))), rfl⟩))
    rotate_left 0
    go_simp; (first | (refine (KE.out _ (HP2.out.ext (by (exact eX)))).mono ?_; intro e w5 hh; obtain ⟨rfl, x5⟩ := hh.error; exact ⟨rfl, X2.out.trans ((by (exact xX) : ExtX (fun b => b = pb ∨ bt ≤ b) w2 _).trans (x5.mono (fun b hb => .inl hb))), rfl⟩))
  | ok p5 =>
    obtain ⟨⟨xb, kb⟩, l3⟩ := p5
    clear e5 HPM2
    go_upto_region 2 with fail
    refine wp_region_held_drew (S := fun w' => ExtX (fun b => b = pb ∨ bt ≤ b) w2 w') (by kernel_rfl) (by (try dsimp only); (exact xX)) (fun hHeld => ?_)
    refine tK 0 (v := ?_) ?_ ?_;rotate_left;(focus (intro w hSw;(try dsimp only at hSw);go_simp;(try with_reducible rfl)));try simp only [Act.put,pA,pB,pC]
    refine tK 2 (v := ?_) ?_ ?_;rotate_left;(focus (intro w hSw;(try dsimp only at hSw);go_simp;(try with_reducible rfl)));try simp only [Act.put,pA,pB,pC]
    refine wpAnyH_ready (rs := [1, 3, 5]) (by kernel_rfl) (by simp) ?_
    refine held_cons 1 rfl (by rfl) (fun K hK => ?_) (held_cons 3 rfl (by rfl) (fun K hK => ?_) (held_cons 5 rfl (by rfl) (fun K hK => ?_) AllReadyH.nil))
    go_simp; refine hK.out _ _ (by (try dsimp only); (exact xX)) (fun hHeld => ?_); clear hK K; try simp only [Act.put,pA,pB,pC]
    refine tK 4 (v := ?_) ?_ ?_;rotate_left;(focus (intro w hSw;(try dsimp only at hSw);go_simp;(try with_reducible rfl)));try simp only [Act.put,pA,pB,pC]
    refine wpAnyH_ready (rs := [3, 5]) (by kernel_rfl) (by simp) ?_
    refine held_cons 3 rfl (by rfl) (fun K hK => ?_) (held_cons 5 rfl (by rfl) (fun K hK => ?_) AllReadyH.nil)
    go_simp; (first | (refine (KE.out _ (HP2.out.ext (by (exact eX)))).mono ?_; intro e w5 hh; obtain ⟨v5, rfl, ⟨ab, nb, cb, rfl, fb, k1, k2, hTb⟩, hp5, x5⟩ := hh.ok; have y5 : ExtX (· = pb) w2 w5 := (by first | exact ((ExtX.refl w2).drew).trans x5 | exact (((ExtX.refl w2).alloc _).drew).trans x5); have z5 := y5.mono (A' := fun b => b = pb ∨ bt ≤ b) (fun b h => .inl h); have HTb2 := Lib.hid (show IsTmsA (fun b => b < w2.heap.size) w5 kb ab nb from hTb.off (fun b _ hb => (by have hb : b < w2.heap.size := hb; simp; try omega))); have hS5 := HS2.out.extx y5; have e7 := hS5.tm.eight.2.2.2.2.2.2.2; have hl5 := hS5.tm.lt; have HS5 := Lib.hid hS5; have hs5 := y5.size; have HFB := Lib.hid fb; (try (have HQ5 := Lib.hid (show Blk w5 w2.heap.size 28 zeroT from (Blk.new w2 28 zeroT).drew.nez x5 (by omega)))); clear hTb hh hS5)); (try (focus (go_wp2_with fail))); refine hK.out _ _ (by (try dsimp only); (exact xX)) (fun hHeld => ?_); clear hK K; try simp only [Act.put,pA,pB,pC]
    refine held_do 5 rfl (by kernel_rfl) (by rfl) (fun K hK => ?_); go_simp; refine hK.out _ _ (by (try dsimp only); (exact xX)) (fun hHeld => ?_); clear hK K; try simp only [Act.put,pA,pB,pC]
    refine held_do 6 rfl (by kernel_rfl) (by rfl) (fun K hK => ?_); (first | (refine wp_append_mine (.tmp 11) (.tmp 15) 26 rfl (bt + 1) 28 i0 (.agg #[.int .u8 0, .int .u8 0, .int .i64 0, .int .i64 0, .string ⟨#[]⟩, .string ⟨#[]⟩, .string ⟨#[]⟩, .slice none 0 0]) 8 96 Tryz.underlying26 HI.out.1 HI.out.2.1 HI.out.2.2.1 HI.out.2.2.2 rfl (by decide) (Value.slice a ms.length c) ms.length xs rfl HS5.out.own ⟨w2.heap.size, 0, none⟩ 1 1 zeroT.toList rfl rfl (zero_at HQ5.out) zeroT_one (by unfold maxLen; omega) (by omega) (by first | omega | (simp; omega)) ?_; intro v9 w9 ho9 hg9 hw9; have z9 : ExtX (fun b => b = pb ∨ bt ≤ b) w2 w9 := ExtX.grow_ z5 hg9 (fun k hk => .inr (by have := (HS5.out.own.lt k hk).1; omega)); obtain ⟨g5, c5, rfl, hH⟩ := Half8.of HS2.out y5 (Ext.refl w5) HTb2.out k1 k2 HFB.out ho9 hg9 hw9; obtain ⟨q0, q1, q2, q3, q4, q5, q6, q7⟩ := hH.cells; have d7 := hH.tm.eight.2.2.2.2.2.2.2; have d8 := hH.tm.frozen 7; have m0 := hH.own.frozenAt (ms.length * 8); have m1 := hH.own.frozenAt (ms.length * 8 + 1); have m2 := hH.own.frozenAt (ms.length * 8 + 2); have m3 := hH.own.frozenAt (ms.length * 8 + 3); have m4 := hH.own.frozenAt (ms.length * 8 + 4); have m5 := hH.own.frozenAt (ms.length * 8 + 5); have m6 := hH.own.frozenAt (ms.length * 8 + 6); have m7 := hH.own.frozenAt (ms.length * 8 + 7); have hn1 : bt ≠ g5 := (by have := hH.up; omega); have hn2 : g5 ≠ bt := (by have := hH.up; omega); have hlg : g5 < w9.heap.size := block_lt_of_cell q0; have hlt9 := hH.tm.lt; have hP9 := Lib.hid ((hp5).grown_ hg9 (fun k hk => by have := (HS5.out.own.lt k hk).1; omega)); have HH := Lib.hid hH; have hup := hH.up; have hge : bt ≤ g5 := (by omega); have hcl : ms.length + 1 ≤ c5 := hH.le; have hcc := hH.cap; clear hH ho9 hg9 hw9) | (refine wp_append_mine (.tmp 11) (.tmp 15) 26 rfl (bt + 1) 28 i0 (.agg #[.int .u8 0, .int .u8 0, .int .i64 0, .int .i64 0, .string ⟨#[]⟩, .string ⟨#[]⟩, .string ⟨#[]⟩, .slice none 0 0]) 8 96 Tryz.underlying26 HI.out.1 HI.out.2.1 HI.out.2.2.1 HI.out.2.2.2 rfl (by decide) (Value.slice a ms.length c) ms.length xs rfl (HS5.out.own.alloc _) ⟨w5.heap.size, 0, none⟩ 1 1 zeroT.toList rfl rfl (zero_at (Blk.new w5 28 zeroT)) zeroT_one (by unfold maxLen; omega) (by omega) (by first | omega | (simp; omega)) ?_; intro v9 w9 ho9 hg9 hw9; have z9 : ExtX (fun b => b = pb ∨ bt ≤ b) w2 w9 := ExtX.grow_ (z5.then_ ((Ext.refl w5).alloc _)) hg9 (fun k hk => .inr (by have := (HS5.out.own.lt k hk).1; omega)); obtain ⟨g5, c5, rfl, hH⟩ := Half8.of HS2.out y5 ((Ext.refl w5).alloc _) HTb2.out k1 k2 HFB.out ho9 hg9 hw9; obtain ⟨q0, q1, q2, q3, q4, q5, q6, q7⟩ := hH.cells; have d7 := hH.tm.eight.2.2.2.2.2.2.2; have d8 := hH.tm.frozen 7; have m0 := hH.own.frozenAt (ms.length * 8); have m1 := hH.own.frozenAt (ms.length * 8 + 1); have m2 := hH.own.frozenAt (ms.length * 8 + 2); have m3 := hH.own.frozenAt (ms.length * 8 + 3); have m4 := hH.own.frozenAt (ms.length * 8 + 4); have m5 := hH.own.frozenAt (ms.length * 8 + 5); have m6 := hH.own.frozenAt (ms.length * 8 + 6); have m7 := hH.own.frozenAt (ms.length * 8 + 7); have hn1 : bt ≠ g5 := (by have := hH.up; omega); have hn2 : g5 ≠ bt := (by have := hH.up; omega); have hlg : g5 < w9.heap.size := block_lt_of_cell q0; have hlt9 := hH.tm.lt; have hP9 := Lib.hid ((hp5.ext ((Ext.refl w5).alloc _)).grown_ hg9 (fun k hk => by have := (HS5.out.own.lt k hk).1; omega)); have HH := Lib.hid hH; have hup := hH.up; have hge : bt ≤ g5 := (by omega); have hcl : ms.length + 1 ≤ c5 := hH.le; have hcc := hH.cap; clear hH ho9 hg9 hw9)); refine hK.out _ _ (by (try dsimp only); (exact xX)) (fun hHeld => ?_); clear hK K; try simp only [Act.put,pA,pB,pC]
    refine tK 7 (v := ?_) ?_ ?_;rotate_left;(focus (intro w hSw;(try dsimp only at hSw);go_simp;(try with_reducible rfl)));try simp only [Act.put,pA,pB,pC]
    refine tK 9 (v := ?_) ?_ ?_;rotate_left;(focus (intro w hSw;(try dsimp only at hSw);go_simp;(try with_reducible rfl)));try simp only [Act.put,pA,pB,pC]
    refine wpAnyH_ready (rs := [8, 10]) (by kernel_rfl) (by simp) ?_
    refine held_cons 8 rfl (by rfl) (fun K hK => ?_) (held_cons 10 rfl (by rfl) (fun K hK => ?_) AllReadyH.nil)
    go_simp; refine hK.out _ _ (by (try dsimp only); (exact xX)) (fun hHeld => ?_); clear hK K; try simp only [Act.put,pA,pB,pC]
    refine held_do 10 rfl (by kernel_rfl) (by rfl) (fun K hK => ?_); go_simp; refine hK.out _ _ (by (try dsimp only); (exact xX)) (fun hHeld => ?_); clear hK K; try simp only [Act.put,pA,pB,pC]
    refine wpAnyH_done (by kernel_rfl) ?_ _
    rotate_left 1
    go_simp; refine hK.out _ _ (by (try dsimp only); (exact xX)) (fun hHeld => ?_); clear hK K; try simp only [Act.put,pA,pB,pC]
    refine held_do 8 rfl (by kernel_rfl) (by rfl) (fun K hK => ?_); go_simp; refine hK.out _ _ (by (try dsimp only); (exact xX)) (fun hHeld => ?_); clear hK K; try simp only [Act.put,pA,pB,pC]
    refine wpAnyH_done (by kernel_rfl) ?_ _
    rotate_left 1
    go_simp; refine hK.out _ _ (by (try dsimp only); (exact xX)) (fun hHeld => ?_); clear hK K; try simp only [Act.put,pA,pB,pC]
    refine held_do 3 rfl (by kernel_rfl) (by rfl) (fun K hK => ?_); go_simp; (first | (refine (KE.out _ (HP2.out.ext (by (exact eX)))).mono ?_; intro e w5 hh; obtain ⟨v5, rfl, ⟨ab, nb, cb, rfl, fb, k1, k2, hTb⟩, hp5, x5⟩ := hh.ok; have y5 : ExtX (· = pb) w2 w5 := (by first | exact ((ExtX.refl w2).drew).trans x5 | exact (((ExtX.refl w2).alloc _).drew).trans x5); have z5 := y5.mono (A' := fun b => b = pb ∨ bt ≤ b) (fun b h => .inl h); have HTb2 := Lib.hid (show IsTmsA (fun b => b < w2.heap.size) w5 kb ab nb from hTb.off (fun b _ hb => (by have hb : b < w2.heap.size := hb; simp; try omega))); have hS5 := HS2.out.extx y5; have e7 := hS5.tm.eight.2.2.2.2.2.2.2; have hl5 := hS5.tm.lt; have HS5 := Lib.hid hS5; have hs5 := y5.size; have HFB := Lib.hid fb; (try (have HQ5 := Lib.hid (show Blk w5 w2.heap.size 28 zeroT from (Blk.new w2 28 zeroT).drew.nez x5 (by omega)))); clear hTb hh hS5)); (try (focus (go_wp2_with fail))); refine hK.out _ _ (by (try dsimp only); (exact xX)) (fun hHeld => ?_); clear hK K; try simp only [Act.put,pA,pB,pC]
    refine held_do 6 rfl (by kernel_rfl) (by rfl) (fun K hK => ?_); (first | (refine wp_append_mine (.tmp 11) (.tmp 15) 26 rfl (bt + 1) 28 i0 (.agg #[.int .u8 0, .int .u8 0, .int .i64 0, .int .i64 0, .string ⟨#[]⟩, .string ⟨#[]⟩, .string ⟨#[]⟩, .slice none 0 0]) 8 96 Tryz.underlying26 HI.out.1 HI.out.2.1 HI.out.2.2.1 HI.out.2.2.2 rfl (by decide) (Value.slice a ms.length c) ms.length xs rfl HS5.out.own ⟨w2.heap.size, 0, none⟩ 1 1 zeroT.toList rfl rfl (zero_at HQ5.out) zeroT_one (by unfold maxLen; omega) (by omega) (by first | omega | (simp; omega)) ?_; intro v9 w9 ho9 hg9 hw9; have z9 : ExtX (fun b => b = pb ∨ bt ≤ b) w2 w9 := ExtX.grow_ z5 hg9 (fun k hk => .inr (by have := (HS5.out.own.lt k hk).1; omega)); obtain ⟨g5, c5, rfl, hH⟩ := Half8.of HS2.out y5 (Ext.refl w5) HTb2.out k1 k2 HFB.out ho9 hg9 hw9; obtain ⟨q0, q1, q2, q3, q4, q5, q6, q7⟩ := hH.cells; have d7 := hH.tm.eight.2.2.2.2.2.2.2; have d8 := hH.tm.frozen 7; have m0 := hH.own.frozenAt (ms.length * 8); have m1 := hH.own.frozenAt (ms.length * 8 + 1); have m2 := hH.own.frozenAt (ms.length * 8 + 2); have m3 := hH.own.frozenAt (ms.length * 8 + 3); have m4 := hH.own.frozenAt (ms.length * 8 + 4); have m5 := hH.own.frozenAt (ms.length * 8 + 5); have m6 := hH.own.frozenAt (ms.length * 8 + 6); have m7 := hH.own.frozenAt (ms.length * 8 + 7); have hn1 : bt ≠ g5 := (by have := hH.up; omega); have hn2 : g5 ≠ bt := (by have := hH.up; omega); have hlg : g5 < w9.heap.size := block_lt_of_cell q0; have hlt9 := hH.tm.lt; have hP9 := Lib.hid ((hp5).grown_ hg9 (fun k hk => by have := (HS5.out.own.lt k hk).1; omega)); have HH := Lib.hid hH; have hup := hH.up; have hge : bt ≤ g5 := (by omega); have hcl : ms.length + 1 ≤ c5 := hH.le; have hcc := hH.cap; clear hH ho9 hg9 hw9) | (refine wp_append_mine (.tmp 11) (.tmp 15) 26 rfl (bt + 1) 28 i0 (.agg #[.int .u8 0, .int .u8 0, .int .i64 0, .int .i64 0, .string ⟨#[]⟩, .string ⟨#[]⟩, .string ⟨#[]⟩, .slice none 0 0]) 8 96 Tryz.underlying26 HI.out.1 HI.out.2.1 HI.out.2.2.1 HI.out.2.2.2 rfl (by decide) (Value.slice a ms.length c) ms.length xs rfl (HS5.out.own.alloc _) ⟨w5.heap.size, 0, none⟩ 1 1 zeroT.toList rfl rfl (zero_at (Blk.new w5 28 zeroT)) zeroT_one (by unfold maxLen; omega) (by omega) (by first | omega | (simp; omega)) ?_; intro v9 w9 ho9 hg9 hw9; have z9 : ExtX (fun b => b = pb ∨ bt ≤ b) w2 w9 := ExtX.grow_ (z5.then_ ((Ext.refl w5).alloc _)) hg9 (fun k hk => .inr (by have := (HS5.out.own.lt k hk).1; omega)); obtain ⟨g5, c5, rfl, hH⟩ := Half8.of HS2.out y5 ((Ext.refl w5).alloc _) HTb2.out k1 k2 HFB.out ho9 hg9 hw9; obtain ⟨q0, q1, q2, q3, q4, q5, q6, q7⟩ := hH.cells; have d7 := hH.tm.eight.2.2.2.2.2.2.2; have d8 := hH.tm.frozen 7; have m0 := hH.own.frozenAt (ms.length * 8); have m1 := hH.own.frozenAt (ms.length * 8 + 1); have m2 := hH.own.frozenAt (ms.length * 8 + 2); have m3 := hH.own.frozenAt (ms.length * 8 + 3); have m4 := hH.own.frozenAt (ms.length * 8 + 4); have m5 := hH.own.frozenAt (ms.length * 8 + 5); have m6 := hH.own.frozenAt (ms.length * 8 + 6); have m7 := hH.own.frozenAt (ms.length * 8 + 7); have hn1 : bt ≠ g5 := (by have := hH.up; omega); have hn2 : g5 ≠ bt := (by have := hH.up; omega); have hlg : g5 < w9.heap.size := block_lt_of_cell q0; have hlt9 := hH.tm.lt; have hP9 := Lib.hid ((hp5.ext ((Ext.refl w5).alloc _)).grown_ hg9 (fun k hk => by have := (HS5.out.own.lt k hk).1; omega)); have HH := Lib.hid hH; have hup := hH.up; have hge : bt ≤ g5 := (by omega); have hcl : ms.length + 1 ≤ c5 := hH.le; have hcc := hH.cap; clear hH ho9 hg9 hw9)); refine hK.out _ _ (by (try dsimp only); (exact xX)) (fun hHeld => ?_); clear hK K; try simp only [Act.put,pA,pB,pC]
    refine tK 7 (v := ?_) ?_ ?_;rotate_left;(focus (intro w hSw;(try dsimp only at hSw);go_simp;(try with_reducible rfl)));try simp only [Act.put,pA,pB,pC]
    refine tK 9 (v := ?_) ?_ ?_;rotate_left;(focus (intro w hSw;(try dsimp only at hSw);go_simp;(try with_reducible rfl)));try simp only [Act.put,pA,pB,pC]
    refine wpAnyH_ready (rs := [8, 10]) (by kernel_rfl) (by simp) ?_
    refine held_cons 8 rfl (by rfl) (fun K hK => ?_) (held_cons 10 rfl (by rfl) (fun K hK => ?_) AllReadyH.nil)
    go_simp; refine hK.out _ _ (by (try dsimp only); (exact xX)) (fun hHeld => ?_); clear hK K; try simp only [Act.put,pA,pB,pC]
    refine held_do 10 rfl (by kernel_rfl) (by rfl) (fun K hK => ?_); go_simp; refine hK.out _ _ (by (try dsimp only); (exact xX)) (fun hHeld => ?_); clear hK K; try simp only [Act.put,pA,pB,pC]
    refine wpAnyH_done (by kernel_rfl) ?_ _
    rotate_left 1
    go_simp; refine hK.out _ _ (by (try dsimp only); (exact xX)) (fun hHeld => ?_); clear hK K; try simp only [Act.put,pA,pB,pC]
    refine held_do 8 rfl (by kernel_rfl) (by rfl) (fun K hK => ?_); go_simp; refine hK.out _ _ (by (try dsimp only); (exact xX)) (fun hHeld => ?_); clear hK K; try simp only [Act.put,pA,pB,pC]
    refine wpAnyH_done (by kernel_rfl) ?_ _
    rotate_left 1
    go_simp; (first | (refine (KE.out _ (HP2.out.ext (by (exact eX)))).mono ?_; intro e w5 hh; obtain ⟨v5, rfl, ⟨ab, nb, cb, rfl, fb, k1, k2, hTb⟩, hp5, x5⟩ := hh.ok; have y5 : ExtX (· = pb) w2 w5 := (by first | exact ((ExtX.refl w2).drew).trans x5 | exact (((ExtX.refl w2).alloc _).drew).trans x5); have z5 := y5.mono (A' := fun b => b = pb ∨ bt ≤ b) (fun b h => .inl h); have HTb2 := Lib.hid (show IsTmsA (fun b => b < w2.heap.size) w5 kb ab nb from hTb.off (fun b _ hb => (by have hb : b < w2.heap.size := hb; simp; try omega))); have hS5 := HS2.out.extx y5; have e7 := hS5.tm.eight.2.2.2.2.2.2.2; have hl5 := hS5.tm.lt; have HS5 := Lib.hid hS5; have hs5 := y5.size; have HFB := Lib.hid fb; (try (have HQ5 := Lib.hid (show Blk w5 w2.heap.size 28 zeroT from (Blk.new w2 28 zeroT).drew.nez x5 (by omega)))); clear hTb hh hS5)); (try (focus (go_wp2_with fail))); refine hK.out _ _ (by (try dsimp only); (exact xX)) (fun hHeld => ?_); clear hK K; try simp only [Act.put,pA,pB,pC]
    refine wpAnyH_ready (rs := [1, 5]) (by kernel_rfl) (by simp) ?_
    refine held_cons 1 rfl (by rfl) (fun K hK => ?_) (held_cons 5 rfl (by rfl) (fun K hK => ?_) AllReadyH.nil)
    go_simp; refine hK.out _ _ (by (try dsimp only); (exact xX)) (fun hHeld => ?_); clear hK K; try simp only [Act.put,pA,pB,pC]
    refine tK 4 (v := ?_) ?_ ?_;rotate_left;(focus (intro w hSw;(try dsimp only at hSw);go_simp;(try with_reducible rfl)));try simp only [Act.put,pA,pB,pC]
    refine held_do 5 rfl (by kernel_rfl) (by rfl) (fun K hK => ?_); go_simp; refine hK.out _ _ (by (try dsimp only); (exact xX)) (fun hHeld => ?_); clear hK K; try simp only [Act.put,pA,pB,pC]
    refine held_do 6 rfl (by kernel_rfl) (by rfl) (fun K hK => ?_); (first | (refine wp_append_mine (.tmp 11) (.tmp 15) 26 rfl (bt + 1) 28 i0 (.agg #[.int .u8 0, .int .u8 0, .int .i64 0, .int .i64 0, .string ⟨#[]⟩, .string ⟨#[]⟩, .string ⟨#[]⟩, .slice none 0 0]) 8 96 Tryz.underlying26 HI.out.1 HI.out.2.1 HI.out.2.2.1 HI.out.2.2.2 rfl (by decide) (Value.slice a ms.length c) ms.length xs rfl HS5.out.own ⟨w2.heap.size, 0, none⟩ 1 1 zeroT.toList rfl rfl (zero_at HQ5.out) zeroT_one (by unfold maxLen; omega) (by omega) (by first | omega | (simp; omega)) ?_; intro v9 w9 ho9 hg9 hw9; have z9 : ExtX (fun b => b = pb ∨ bt ≤ b) w2 w9 := ExtX.grow_ z5 hg9 (fun k hk => .inr (by have := (HS5.out.own.lt k hk).1; omega)); obtain ⟨g5, c5, rfl, hH⟩ := Half8.of HS2.out y5 (Ext.refl w5) HTb2.out k1 k2 HFB.out ho9 hg9 hw9; obtain ⟨q0, q1, q2, q3, q4, q5, q6, q7⟩ := hH.cells; have d7 := hH.tm.eight.2.2.2.2.2.2.2; have d8 := hH.tm.frozen 7; have m0 := hH.own.frozenAt (ms.length * 8); have m1 := hH.own.frozenAt (ms.length * 8 + 1); have m2 := hH.own.frozenAt (ms.length * 8 + 2); have m3 := hH.own.frozenAt (ms.length * 8 + 3); have m4 := hH.own.frozenAt (ms.length * 8 + 4); have m5 := hH.own.frozenAt (ms.length * 8 + 5); have m6 := hH.own.frozenAt (ms.length * 8 + 6); have m7 := hH.own.frozenAt (ms.length * 8 + 7); have hn1 : bt ≠ g5 := (by have := hH.up; omega); have hn2 : g5 ≠ bt := (by have := hH.up; omega); have hlg : g5 < w9.heap.size := block_lt_of_cell q0; have hlt9 := hH.tm.lt; have hP9 := Lib.hid ((hp5).grown_ hg9 (fun k hk => by have := (HS5.out.own.lt k hk).1; omega)); have HH := Lib.hid hH; have hup := hH.up; have hge : bt ≤ g5 := (by omega); have hcl : ms.length + 1 ≤ c5 := hH.le; have hcc := hH.cap; clear hH ho9 hg9 hw9) | (refine wp_append_mine (.tmp 11) (.tmp 15) 26 rfl (bt + 1) 28 i0 (.agg #[.int .u8 0, .int .u8 0, .int .i64 0, .int .i64 0, .string ⟨#[]⟩, .string ⟨#[]⟩, .string ⟨#[]⟩, .slice none 0 0]) 8 96 Tryz.underlying26 HI.out.1 HI.out.2.1 HI.out.2.2.1 HI.out.2.2.2 rfl (by decide) (Value.slice a ms.length c) ms.length xs rfl (HS5.out.own.alloc _) ⟨w5.heap.size, 0, none⟩ 1 1 zeroT.toList rfl rfl (zero_at (Blk.new w5 28 zeroT)) zeroT_one (by unfold maxLen; omega) (by omega) (by first | omega | (simp; omega)) ?_; intro v9 w9 ho9 hg9 hw9; have z9 : ExtX (fun b => b = pb ∨ bt ≤ b) w2 w9 := ExtX.grow_ (z5.then_ ((Ext.refl w5).alloc _)) hg9 (fun k hk => .inr (by have := (HS5.out.own.lt k hk).1; omega)); obtain ⟨g5, c5, rfl, hH⟩ := Half8.of HS2.out y5 ((Ext.refl w5).alloc _) HTb2.out k1 k2 HFB.out ho9 hg9 hw9; obtain ⟨q0, q1, q2, q3, q4, q5, q6, q7⟩ := hH.cells; have d7 := hH.tm.eight.2.2.2.2.2.2.2; have d8 := hH.tm.frozen 7; have m0 := hH.own.frozenAt (ms.length * 8); have m1 := hH.own.frozenAt (ms.length * 8 + 1); have m2 := hH.own.frozenAt (ms.length * 8 + 2); have m3 := hH.own.frozenAt (ms.length * 8 + 3); have m4 := hH.own.frozenAt (ms.length * 8 + 4); have m5 := hH.own.frozenAt (ms.length * 8 + 5); have m6 := hH.own.frozenAt (ms.length * 8 + 6); have m7 := hH.own.frozenAt (ms.length * 8 + 7); have hn1 : bt ≠ g5 := (by have := hH.up; omega); have hn2 : g5 ≠ bt := (by have := hH.up; omega); have hlg : g5 < w9.heap.size := block_lt_of_cell q0; have hlt9 := hH.tm.lt; have hP9 := Lib.hid ((hp5.ext ((Ext.refl w5).alloc _)).grown_ hg9 (fun k hk => by have := (HS5.out.own.lt k hk).1; omega)); have HH := Lib.hid hH; have hup := hH.up; have hge : bt ≤ g5 := (by omega); have hcl : ms.length + 1 ≤ c5 := hH.le; have hcc := hH.cap; clear hH ho9 hg9 hw9)); refine hK.out _ _ (by (try dsimp only); (exact xX)) (fun hHeld => ?_); clear hK K; try simp only [Act.put,pA,pB,pC]
    refine tK 7 (v := ?_) ?_ ?_;rotate_left;(focus (intro w hSw;(try dsimp only at hSw);go_simp;(try with_reducible rfl)));try simp only [Act.put,pA,pB,pC]
    refine tK 9 (v := ?_) ?_ ?_;rotate_left;(focus (intro w hSw;(try dsimp only at hSw);go_simp;(try with_reducible rfl)));try simp only [Act.put,pA,pB,pC]
    refine wpAnyH_ready (rs := [8, 10]) (by kernel_rfl) (by simp) ?_
    refine held_cons 8 rfl (by rfl) (fun K hK => ?_) (held_cons 10 rfl (by rfl) (fun K hK => ?_) AllReadyH.nil)
    go_simp; refine hK.out _ _ (by (try dsimp only); (exact xX)) (fun hHeld => ?_); clear hK K; try simp only [Act.put,pA,pB,pC]
    refine held_do 10 rfl (by kernel_rfl) (by rfl) (fun K hK => ?_); go_simp; refine hK.out _ _ (by (try dsimp only); (exact xX)) (fun hHeld => ?_); clear hK K; try simp only [Act.put,pA,pB,pC]
    refine wpAnyH_done (by kernel_rfl) ?_ _
    rotate_left 1
    go_simp; refine hK.out _ _ (by (try dsimp only); (exact xX)) (fun hHeld => ?_); clear hK K; try simp only [Act.put,pA,pB,pC]
    refine held_do 8 rfl (by kernel_rfl) (by rfl) (fun K hK => ?_); go_simp; refine hK.out _ _ (by (try dsimp only); (exact xX)) (fun hHeld => ?_); clear hK K; try simp only [Act.put,pA,pB,pC]
    refine wpAnyH_done (by kernel_rfl) ?_ _
    rotate_left 1
    go_simp; refine hK.out _ _ (by (try dsimp only); (exact xX)) (fun hHeld => ?_); clear hK K; try simp only [Act.put,pA,pB,pC]
    refine held_do 1 rfl (by kernel_rfl) (by rfl) (fun K hK => ?_); go_simp; refine hK.out _ _ (by (try dsimp only); (exact xX)) (fun hHeld => ?_); clear hK K; try simp only [Act.put,pA,pB,pC]
    refine tK 4 (v := ?_) ?_ ?_;rotate_left;(focus (intro w hSw;(try dsimp only at hSw);go_simp;(try with_reducible rfl)));try simp only [Act.put,pA,pB,pC]
    refine held_do 6 rfl (by kernel_rfl) (by rfl) (fun K hK => ?_); (first | (refine wp_append_mine (.tmp 11) (.tmp 15) 26 rfl (bt + 1) 28 i0 (.agg #[.int .u8 0, .int .u8 0, .int .i64 0, .int .i64 0, .string ⟨#[]⟩, .string ⟨#[]⟩, .string ⟨#[]⟩, .slice none 0 0]) 8 96 Tryz.underlying26 HI.out.1 HI.out.2.1 HI.out.2.2.1 HI.out.2.2.2 rfl (by decide) (Value.slice a ms.length c) ms.length xs rfl HS5.out.own ⟨w2.heap.size, 0, none⟩ 1 1 zeroT.toList rfl rfl (zero_at HQ5.out) zeroT_one (by unfold maxLen; omega) (by omega) (by first | omega | (simp; omega)) ?_; intro v9 w9 ho9 hg9 hw9; have z9 : ExtX (fun b => b = pb ∨ bt ≤ b) w2 w9 := ExtX.grow_ z5 hg9 (fun k hk => .inr (by have := (HS5.out.own.lt k hk).1; omega)); obtain ⟨g5, c5, rfl, hH⟩ := Half8.of HS2.out y5 (Ext.refl w5) HTb2.out k1 k2 HFB.out ho9 hg9 hw9; obtain ⟨q0, q1, q2, q3, q4, q5, q6, q7⟩ := hH.cells; have d7 := hH.tm.eight.2.2.2.2.2.2.2; have d8 := hH.tm.frozen 7; have m0 := hH.own.frozenAt (ms.length * 8); have m1 := hH.own.frozenAt (ms.length * 8 + 1); have m2 := hH.own.frozenAt (ms.length * 8 + 2); have m3 := hH.own.frozenAt (ms.length * 8 + 3); have m4 := hH.own.frozenAt (ms.length * 8 + 4); have m5 := hH.own.frozenAt (ms.length * 8 + 5); have m6 := hH.own.frozenAt (ms.length * 8 + 6); have m7 := hH.own.frozenAt (ms.length * 8 + 7); have hn1 : bt ≠ g5 := (by have := hH.up; omega); have hn2 : g5 ≠ bt := (by have := hH.up; omega); have hlg : g5 < w9.heap.size := block_lt_of_cell q0; have hlt9 := hH.tm.lt; have hP9 := Lib.hid ((hp5).grown_ hg9 (fun k hk => by have := (HS5.out.own.lt k hk).1; omega)); have HH := Lib.hid hH; have hup := hH.up; have hge : bt ≤ g5 := (by omega); have hcl : ms.length + 1 ≤ c5 := hH.le; have hcc := hH.cap; clear hH ho9 hg9 hw9) | (refine wp_append_mine (.tmp 11) (.tmp 15) 26 rfl (bt + 1) 28 i0 (.agg #[.int .u8 0, .int .u8 0, .int .i64 0, .int .i64 0, .string ⟨#[]⟩, .string ⟨#[]⟩, .string ⟨#[]⟩, .slice none 0 0]) 8 96 Tryz.underlying26 HI.out.1 HI.out.2.1 HI.out.2.2.1 HI.out.2.2.2 rfl (by decide) (Value.slice a ms.length c) ms.length xs rfl (HS5.out.own.alloc _) ⟨w5.heap.size, 0, none⟩ 1 1 zeroT.toList rfl rfl (zero_at (Blk.new w5 28 zeroT)) zeroT_one (by unfold maxLen; omega) (by omega) (by first | omega | (simp; omega)) ?_; intro v9 w9 ho9 hg9 hw9; have z9 : ExtX (fun b => b = pb ∨ bt ≤ b) w2 w9 := ExtX.grow_ (z5.then_ ((Ext.refl w5).alloc _)) hg9 (fun k hk => .inr (by have := (HS5.out.own.lt k hk).1; omega)); obtain ⟨g5, c5, rfl, hH⟩ := Half8.of HS2.out y5 ((Ext.refl w5).alloc _) HTb2.out k1 k2 HFB.out ho9 hg9 hw9; obtain ⟨q0, q1, q2, q3, q4, q5, q6, q7⟩ := hH.cells; have d7 := hH.tm.eight.2.2.2.2.2.2.2; have d8 := hH.tm.frozen 7; have m0 := hH.own.frozenAt (ms.length * 8); have m1 := hH.own.frozenAt (ms.length * 8 + 1); have m2 := hH.own.frozenAt (ms.length * 8 + 2); have m3 := hH.own.frozenAt (ms.length * 8 + 3); have m4 := hH.own.frozenAt (ms.length * 8 + 4); have m5 := hH.own.frozenAt (ms.length * 8 + 5); have m6 := hH.own.frozenAt (ms.length * 8 + 6); have m7 := hH.own.frozenAt (ms.length * 8 + 7); have hn1 : bt ≠ g5 := (by have := hH.up; omega); have hn2 : g5 ≠ bt := (by have := hH.up; omega); have hlg : g5 < w9.heap.size := block_lt_of_cell q0; have hlt9 := hH.tm.lt; have hP9 := Lib.hid ((hp5.ext ((Ext.refl w5).alloc _)).grown_ hg9 (fun k hk => by have := (HS5.out.own.lt k hk).1; omega)); have HH := Lib.hid hH; have hup := hH.up; have hge : bt ≤ g5 := (by omega); have hcl : ms.length + 1 ≤ c5 := hH.le; have hcc := hH.cap; clear hH ho9 hg9 hw9)); refine hK.out _ _ (by (try dsimp only); (exact xX)) (fun hHeld => ?_); clear hK K; try simp only [Act.put,pA,pB,pC]
    refine tK 7 (v := ?_) ?_ ?_;rotate_left;(focus (intro w hSw;(try dsimp only at hSw);go_simp;(try with_reducible rfl)));try simp only [Act.put,pA,pB,pC]
    refine tK 9 (v := ?_) ?_ ?_;rotate_left;(focus (intro w hSw;(try dsimp only at hSw);go_simp;(try with_reducible rfl)));try simp only [Act.put,pA,pB,pC]
    refine wpAnyH_ready (rs := [8, 10]) (by kernel_rfl) (by simp) ?_
    refine held_cons 8 rfl (by rfl) (fun K hK => ?_) (held_cons 10 rfl (by rfl) (fun K hK => ?_) AllReadyH.nil)
    go_simp; refine hK.out _ _ (by (try dsimp only); (exact xX)) (fun hHeld => ?_); clear hK K; try simp only [Act.put,pA,pB,pC]
    refine held_do 10 rfl (by kernel_rfl) (by rfl) (fun K hK => ?_); go_simp; refine hK.out _ _ (by (try dsimp only); (exact xX)) (fun hHeld => ?_); clear hK K; try simp only [Act.put,pA,pB,pC]
    refine wpAnyH_done (by kernel_rfl) ?_ _
    rotate_left 1
    go_simp; refine hK.out _ _ (by (try dsimp only); (exact xX)) (fun hHeld => ?_); clear hK K; try simp only [Act.put,pA,pB,pC]
    refine held_do 8 rfl (by kernel_rfl) (by rfl) (fun K hK => ?_); go_simp; refine hK.out _ _ (by (try dsimp only); (exact xX)) (fun hHeld => ?_); clear hK K; try simp only [Act.put,pA,pB,pC]
    refine wpAnyH_done (by kernel_rfl) ?_ _
    rotate_left 1
    go_simp; refine hK.out _ _ (by (try dsimp only); (exact xX)) (fun hHeld => ?_); clear hK K; try simp only [Act.put,pA,pB,pC]
    refine wpAnyH_ready (rs := [1, 3]) (by kernel_rfl) (by simp) ?_
    refine held_cons 1 rfl (by rfl) (fun K hK => ?_) (held_cons 3 rfl (by rfl) (fun K hK => ?_) AllReadyH.nil)
    go_simp; refine hK.out _ _ (by (try dsimp only); (exact xX)) (fun hHeld => ?_); clear hK K; try simp only [Act.put,pA,pB,pC]
    refine tK 4 (v := ?_) ?_ ?_;rotate_left;(focus (intro w hSw;(try dsimp only at hSw);go_simp;(try with_reducible rfl)));try simp only [Act.put,pA,pB,pC]
    refine held_do 3 rfl (by kernel_rfl) (by rfl) (fun K hK => ?_); go_simp; (first | (refine (KE.out _ (HP2.out.ext (by (exact eX)))).mono ?_; intro e w5 hh; obtain ⟨v5, rfl, ⟨ab, nb, cb, rfl, fb, k1, k2, hTb⟩, hp5, x5⟩ := hh.ok; have y5 : ExtX (· = pb) w2 w5 := (by first | exact ((ExtX.refl w2).drew).trans x5 | exact (((ExtX.refl w2).alloc _).drew).trans x5); have z5 := y5.mono (A' := fun b => b = pb ∨ bt ≤ b) (fun b h => .inl h); have HTb2 := Lib.hid (show IsTmsA (fun b => b < w2.heap.size) w5 kb ab nb from hTb.off (fun b _ hb => (by have hb : b < w2.heap.size := hb; simp; try omega))); have hS5 := HS2.out.extx y5; have e7 := hS5.tm.eight.2.2.2.2.2.2.2; have hl5 := hS5.tm.lt; have HS5 := Lib.hid hS5; have hs5 := y5.size; have HFB := Lib.hid fb; (try (have HQ5 := Lib.hid (show Blk w5 w2.heap.size 28 zeroT from (Blk.new w2 28 zeroT).drew.nez x5 (by omega)))); clear hTb hh hS5)); (try (focus (go_wp2_with fail))); refine hK.out _ _ (by (try dsimp only); (exact xX)) (fun hHeld => ?_); clear hK K; try simp only [Act.put,pA,pB,pC]
    refine held_do 6 rfl (by kernel_rfl) (by rfl) (fun K hK => ?_); (first | (refine wp_append_mine (.tmp 11) (.tmp 15) 26 rfl (bt + 1) 28 i0 (.agg #[.int .u8 0, .int .u8 0, .int .i64 0, .int .i64 0, .string ⟨#[]⟩, .string ⟨#[]⟩, .string ⟨#[]⟩, .slice none 0 0]) 8 96 Tryz.underlying26 HI.out.1 HI.out.2.1 HI.out.2.2.1 HI.out.2.2.2 rfl (by decide) (Value.slice a ms.length c) ms.length xs rfl HS5.out.own ⟨w2.heap.size, 0, none⟩ 1 1 zeroT.toList rfl rfl (zero_at HQ5.out) zeroT_one (by unfold maxLen; omega) (by omega) (by first | omega | (simp; omega)) ?_; intro v9 w9 ho9 hg9 hw9; have z9 : ExtX (fun b => b = pb ∨ bt ≤ b) w2 w9 := ExtX.grow_ z5 hg9 (fun k hk => .inr (by have := (HS5.out.own.lt k hk).1; omega)); obtain ⟨g5, c5, rfl, hH⟩ := Half8.of HS2.out y5 (Ext.refl w5) HTb2.out k1 k2 HFB.out ho9 hg9 hw9; obtain ⟨q0, q1, q2, q3, q4, q5, q6, q7⟩ := hH.cells; have d7 := hH.tm.eight.2.2.2.2.2.2.2; have d8 := hH.tm.frozen 7; have m0 := hH.own.frozenAt (ms.length * 8); have m1 := hH.own.frozenAt (ms.length * 8 + 1); have m2 := hH.own.frozenAt (ms.length * 8 + 2); have m3 := hH.own.frozenAt (ms.length * 8 + 3); have m4 := hH.own.frozenAt (ms.length * 8 + 4); have m5 := hH.own.frozenAt (ms.length * 8 + 5); have m6 := hH.own.frozenAt (ms.length * 8 + 6); have m7 := hH.own.frozenAt (ms.length * 8 + 7); have hn1 : bt ≠ g5 := (by have := hH.up; omega); have hn2 : g5 ≠ bt := (by have := hH.up; omega); have hlg : g5 < w9.heap.size := block_lt_of_cell q0; have hlt9 := hH.tm.lt; have hP9 := Lib.hid ((hp5).grown_ hg9 (fun k hk => by have := (HS5.out.own.lt k hk).1; omega)); have HH := Lib.hid hH; have hup := hH.up; have hge : bt ≤ g5 := (by omega); have hcl : ms.length + 1 ≤ c5 := hH.le; have hcc := hH.cap; clear hH ho9 hg9 hw9) | (refine wp_append_mine (.tmp 11) (.tmp 15) 26 rfl (bt + 1) 28 i0 (.agg #[.int .u8 0, .int .u8 0, .int .i64 0, .int .i64 0, .string ⟨#[]⟩, .string ⟨#[]⟩, .string ⟨#[]⟩, .slice none 0 0]) 8 96 Tryz.underlying26 HI.out.1 HI.out.2.1 HI.out.2.2.1 HI.out.2.2.2 rfl (by decide) (Value.slice a ms.length c) ms.length xs rfl (HS5.out.own.alloc _) ⟨w5.heap.size, 0, none⟩ 1 1 zeroT.toList rfl rfl (zero_at (Blk.new w5 28 zeroT)) zeroT_one (by unfold maxLen; omega) (by omega) (by first | omega | (simp; omega)) ?_; intro v9 w9 ho9 hg9 hw9; have z9 : ExtX (fun b => b = pb ∨ bt ≤ b) w2 w9 := ExtX.grow_ (z5.then_ ((Ext.refl w5).alloc _)) hg9 (fun k hk => .inr (by have := (HS5.out.own.lt k hk).1; omega)); obtain ⟨g5, c5, rfl, hH⟩ := Half8.of HS2.out y5 ((Ext.refl w5).alloc _) HTb2.out k1 k2 HFB.out ho9 hg9 hw9; obtain ⟨q0, q1, q2, q3, q4, q5, q6, q7⟩ := hH.cells; have d7 := hH.tm.eight.2.2.2.2.2.2.2; have d8 := hH.tm.frozen 7; have m0 := hH.own.frozenAt (ms.length * 8); have m1 := hH.own.frozenAt (ms.length * 8 + 1); have m2 := hH.own.frozenAt (ms.length * 8 + 2); have m3 := hH.own.frozenAt (ms.length * 8 + 3); have m4 := hH.own.frozenAt (ms.length * 8 + 4); have m5 := hH.own.frozenAt (ms.length * 8 + 5); have m6 := hH.own.frozenAt (ms.length * 8 + 6); have m7 := hH.own.frozenAt (ms.length * 8 + 7); have hn1 : bt ≠ g5 := (by have := hH.up; omega); have hn2 : g5 ≠ bt := (by have := hH.up; omega); have hlg : g5 < w9.heap.size := block_lt_of_cell q0; have hlt9 := hH.tm.lt; have hP9 := Lib.hid ((hp5.ext ((Ext.refl w5).alloc _)).grown_ hg9 (fun k hk => by have := (HS5.out.own.lt k hk).1; omega)); have HH := Lib.hid hH; have hup := hH.up; have hge : bt ≤ g5 := (by omega); have hcl : ms.length + 1 ≤ c5 := hH.le; have hcc := hH.cap; clear hH ho9 hg9 hw9)); refine hK.out _ _ (by (try dsimp only); (exact xX)) (fun hHeld => ?_); clear hK K; try simp only [Act.put,pA,pB,pC]
    refine tK 7 (v := ?_) ?_ ?_;rotate_left;(focus (intro w hSw;(try dsimp only at hSw);go_simp;(try with_reducible rfl)));try simp only [Act.put,pA,pB,pC]
    refine tK 9 (v := ?_) ?_ ?_;rotate_left;(focus (intro w hSw;(try dsimp only at hSw);go_simp;(try with_reducible rfl)));try simp only [Act.put,pA,pB,pC]
    refine wpAnyH_ready (rs := [8, 10]) (by kernel_rfl) (by simp) ?_
    refine held_cons 8 rfl (by rfl) (fun K hK => ?_) (held_cons 10 rfl (by rfl) (fun K hK => ?_) AllReadyH.nil)
    go_simp; refine hK.out _ _ (by (try dsimp only); (exact xX)) (fun hHeld => ?_); clear hK K; try simp only [Act.put,pA,pB,pC]
    refine held_do 10 rfl (by kernel_rfl) (by rfl) (fun K hK => ?_); go_simp; refine hK.out _ _ (by (try dsimp only); (exact xX)) (fun hHeld => ?_); clear hK K; try simp only [Act.put,pA,pB,pC]
    refine wpAnyH_done (by kernel_rfl) ?_ _
    rotate_left 1
    go_simp; refine hK.out _ _ (by (try dsimp only); (exact xX)) (fun hHeld => ?_); clear hK K; try simp only [Act.put,pA,pB,pC]
    refine held_do 8 rfl (by kernel_rfl) (by rfl) (fun K hK => ?_); go_simp; refine hK.out _ _ (by (try dsimp only); (exact xX)) (fun hHeld => ?_); clear hK K; try simp only [Act.put,pA,pB,pC]
    refine wpAnyH_done (by kernel_rfl) ?_ _
    rotate_left 1
    go_simp; (first | (refine (KE.out _ (HP2.out.ext (by (exact eX)))).mono ?_; intro e w5 hh; obtain ⟨v5, rfl, ⟨ab, nb, cb, rfl, fb, k1, k2, hTb⟩, hp5, x5⟩ := hh.ok; have y5 : ExtX (· = pb) w2 w5 := (by first | exact ((ExtX.refl w2).drew).trans x5 | exact (((ExtX.refl w2).alloc _).drew).trans x5); have z5 := y5.mono (A' := fun b => b = pb ∨ bt ≤ b) (fun b h => .inl h); have HTb2 := Lib.hid (show IsTmsA (fun b => b < w2.heap.size) w5 kb ab nb from hTb.off (fun b _ hb => (by have hb : b < w2.heap.size := hb; simp; try omega))); have hS5 := HS2.out.extx y5; have e7 := hS5.tm.eight.2.2.2.2.2.2.2; have hl5 := hS5.tm.lt; have HS5 := Lib.hid hS5; have hs5 := y5.size; have HFB := Lib.hid fb; (try (have HQ5 := Lib.hid (show Blk w5 w2.heap.size 28 zeroT from (Blk.new w2 28 zeroT).drew.nez x5 (by omega)))); clear hTb hh hS5)); (try (focus (go_wp2_with fail))); refine hK.out _ _ (by (try dsimp only); (exact xX)) (fun hHeld => ?_); clear hK K; try simp only [Act.put,pA,pB,pC]
    refine held_do 1 rfl (by kernel_rfl) (by rfl) (fun K hK => ?_); go_simp; refine hK.out _ _ (by (try dsimp only); (exact xX)) (fun hHeld => ?_); clear hK K; try simp only [Act.put,pA,pB,pC]
    refine tK 4 (v := ?_) ?_ ?_;rotate_left;(focus (intro w hSw;(try dsimp only at hSw);go_simp;(try with_reducible rfl)));try simp only [Act.put,pA,pB,pC]
    refine held_do 6 rfl (by kernel_rfl) (by rfl) (fun K hK => ?_); (first | (refine wp_append_mine (.tmp 11) (.tmp 15) 26 rfl (bt + 1) 28 i0 (.agg #[.int .u8 0, .int .u8 0, .int .i64 0, .int .i64 0, .string ⟨#[]⟩, .string ⟨#[]⟩, .string ⟨#[]⟩, .slice none 0 0]) 8 96 Tryz.underlying26 HI.out.1 HI.out.2.1 HI.out.2.2.1 HI.out.2.2.2 rfl (by decide) (Value.slice a ms.length c) ms.length xs rfl HS5.out.own ⟨w2.heap.size, 0, none⟩ 1 1 zeroT.toList rfl rfl (zero_at HQ5.out) zeroT_one (by unfold maxLen; omega) (by omega) (by first | omega | (simp; omega)) ?_; intro v9 w9 ho9 hg9 hw9; have z9 : ExtX (fun b => b = pb ∨ bt ≤ b) w2 w9 := ExtX.grow_ z5 hg9 (fun k hk => .inr (by have := (HS5.out.own.lt k hk).1; omega)); obtain ⟨g5, c5, rfl, hH⟩ := Half8.of HS2.out y5 (Ext.refl w5) HTb2.out k1 k2 HFB.out ho9 hg9 hw9; obtain ⟨q0, q1, q2, q3, q4, q5, q6, q7⟩ := hH.cells; have d7 := hH.tm.eight.2.2.2.2.2.2.2; have d8 := hH.tm.frozen 7; have m0 := hH.own.frozenAt (ms.length * 8); have m1 := hH.own.frozenAt (ms.length * 8 + 1); have m2 := hH.own.frozenAt (ms.length * 8 + 2); have m3 := hH.own.frozenAt (ms.length * 8 + 3); have m4 := hH.own.frozenAt (ms.length * 8 + 4); have m5 := hH.own.frozenAt (ms.length * 8 + 5); have m6 := hH.own.frozenAt (ms.length * 8 + 6); have m7 := hH.own.frozenAt (ms.length * 8 + 7); have hn1 : bt ≠ g5 := (by have := hH.up; omega); have hn2 : g5 ≠ bt := (by have := hH.up; omega); have hlg : g5 < w9.heap.size := block_lt_of_cell q0; have hlt9 := hH.tm.lt; have hP9 := Lib.hid ((hp5).grown_ hg9 (fun k hk => by have := (HS5.out.own.lt k hk).1; omega)); have HH := Lib.hid hH; have hup := hH.up; have hge : bt ≤ g5 := (by omega); have hcl : ms.length + 1 ≤ c5 := hH.le; have hcc := hH.cap; clear hH ho9 hg9 hw9) | (refine wp_append_mine (.tmp 11) (.tmp 15) 26 rfl (bt + 1) 28 i0 (.agg #[.int .u8 0, .int .u8 0, .int .i64 0, .int .i64 0, .string ⟨#[]⟩, .string ⟨#[]⟩, .string ⟨#[]⟩, .slice none 0 0]) 8 96 Tryz.underlying26 HI.out.1 HI.out.2.1 HI.out.2.2.1 HI.out.2.2.2 rfl (by decide) (Value.slice a ms.length c) ms.length xs rfl (HS5.out.own.alloc _) ⟨w5.heap.size, 0, none⟩ 1 1 zeroT.toList rfl rfl (zero_at (Blk.new w5 28 zeroT)) zeroT_one (by unfold maxLen; omega) (by omega) (by first | omega | (simp; omega)) ?_; intro v9 w9 ho9 hg9 hw9; have z9 : ExtX (fun b => b = pb ∨ bt ≤ b) w2 w9 := ExtX.grow_ (z5.then_ ((Ext.refl w5).alloc _)) hg9 (fun k hk => .inr (by have := (HS5.out.own.lt k hk).1; omega)); obtain ⟨g5, c5, rfl, hH⟩ := Half8.of HS2.out y5 ((Ext.refl w5).alloc _) HTb2.out k1 k2 HFB.out ho9 hg9 hw9; obtain ⟨q0, q1, q2, q3, q4, q5, q6, q7⟩ := hH.cells; have d7 := hH.tm.eight.2.2.2.2.2.2.2; have d8 := hH.tm.frozen 7; have m0 := hH.own.frozenAt (ms.length * 8); have m1 := hH.own.frozenAt (ms.length * 8 + 1); have m2 := hH.own.frozenAt (ms.length * 8 + 2); have m3 := hH.own.frozenAt (ms.length * 8 + 3); have m4 := hH.own.frozenAt (ms.length * 8 + 4); have m5 := hH.own.frozenAt (ms.length * 8 + 5); have m6 := hH.own.frozenAt (ms.length * 8 + 6); have m7 := hH.own.frozenAt (ms.length * 8 + 7); have hn1 : bt ≠ g5 := (by have := hH.up; omega); have hn2 : g5 ≠ bt := (by have := hH.up; omega); have hlg : g5 < w9.heap.size := block_lt_of_cell q0; have hlt9 := hH.tm.lt; have hP9 := Lib.hid ((hp5.ext ((Ext.refl w5).alloc _)).grown_ hg9 (fun k hk => by have := (HS5.out.own.lt k hk).1; omega)); have HH := Lib.hid hH; have hup := hH.up; have hge : bt ≤ g5 := (by omega); have hcl : ms.length + 1 ≤ c5 := hH.le; have hcc := hH.cap; clear hH ho9 hg9 hw9)); refine hK.out _ _ (by (try dsimp only); (exact xX)) (fun hHeld => ?_); clear hK K; try simp only [Act.put,pA,pB,pC]
    refine tK 7 (v := ?_) ?_ ?_;rotate_left;(focus (intro w hSw;(try dsimp only at hSw);go_simp;(try with_reducible rfl)));try simp only [Act.put,pA,pB,pC]
    refine tK 9 (v := ?_) ?_ ?_;rotate_left;(focus (intro w hSw;(try dsimp only at hSw);go_simp;(try with_reducible rfl)));try simp only [Act.put,pA,pB,pC]
    refine wpAnyH_ready (rs := [8, 10]) (by kernel_rfl) (by simp) ?_
    refine held_cons 8 rfl (by rfl) (fun K hK => ?_) (held_cons 10 rfl (by rfl) (fun K hK => ?_) AllReadyH.nil)
    go_simp; refine hK.out _ _ (by (try dsimp only); (exact xX)) (fun hHeld => ?_); clear hK K; try simp only [Act.put,pA,pB,pC]
    refine held_do 10 rfl (by kernel_rfl) (by rfl) (fun K hK => ?_); go_simp; refine hK.out _ _ (by (try dsimp only); (exact xX)) (fun hHeld => ?_); clear hK K; try simp only [Act.put,pA,pB,pC]
    refine wpAnyH_done (by kernel_rfl) ?_ _
    rotate_left 1
    go_simp; refine hK.out _ _ (by (try dsimp only); (exact xX)) (fun hHeld => ?_); clear hK K; try simp only [Act.put,pA,pB,pC]
    refine held_do 8 rfl (by kernel_rfl) (by rfl) (fun K hK => ?_); go_simp; refine hK.out _ _ (by (try dsimp only); (exact xX)) (fun hHeld => ?_); clear hK K; try simp only [Act.put,pA,pB,pC]
    refine wpAnyH_done (by kernel_rfl) ?_ _
    rotate_left 1
    all_goals
      have hP := hP9.out
      have hgp : pb < g5 := by omega
      have hbp : pb < bt := by omega
      have L1 := HH.out.lay
      have L2 := HH.out.lay2
      refine bodyPost_end (v := .tuple #[]) (results_none rfl _ _ _) rfl ⟨X2.out.trans hHeld, rfl, by clear hHeld L1 L2; (exact prX), ?_⟩
      refine ⟨some ⟨g5, 0, none⟩, c5, xs ++ (tcells (Tm.mk xb kb).head ab nb cb).toList, ?_⟩
      have em : Tm.mk (Tm.mk xb kb).head kb = Tm.mk xb kb := rfl
      rw [em] at L1 L2
      first
        | (with_reducible exact L1)
        | (with_reducible exact L2)
end Go.Proofs.YtaioeailgknfjaaGreatDoor
namespace Go.Proofs.YtaioeailgknfjaaGreatDoor
open Go Go.RowKit Go.Sort

set_option maxRecDepth 8000 in
set_option maxHeartbeats 8000000 in
theorem parse_sub1 (f : Nat) (hE : Does 31 .expr f) (pb b1 bt : Nat) (x : Hd) (ms : List Tm) (a : Option Addr) (c : Nat) (xs : List Value) (l : List Tk) (r : Res Tm) (w : World) (y : ByteArray) (ar : Option Addr) (hr : IsRow w (vstr [y]) ar 1) (hS : Sub8 pb b1 bt x ms a c xs w) (hms : ms.length ≤ 2) (h : Prs w pb l) (he : Ended l) (hp : (andThen (some (getW y l)) fun _ l1 => parseF f .expr l1) = some r) :
    Calls Tryz.prog 59 #[.slice ar 1 1, .pointer (some ⟨b1, 0, none⟩), .pointer (some ⟨bt, 0, none⟩)] w (RetSub pb b1 bt x ms w r) := by
  have o1 := hS.o1
  have o2 := hS.o2
  have p0 := hS.ptr.cell 0
  simp at p0
  obtain ⟨i0, hi, hz0, hz1', hz2'⟩ := info_parts infoTmP
  have HI := Lib.hid (And.intro hi (And.intro hz0 (And.intro hz1' hz2')))
  clear hi hz0 hz1' hz2'
  have hlp := hS.ptr.lt
  have hzL : ((ms.length : Nat) : Int) < ((ms.length : Nat) : Int) + 1 := by omega
  have KW := Lib.hid (parse_word [y] pb l w ar 1 1 (Nat.le_refl _) (by omega) hr h he)
  have HS := Lib.hid hS
  have HPM := Lib.hid hp
  have HE0 := Lib.hid he
  have HE := Lib.hid hE
  clear hS hp h he hE hr
  go_enter Tryz.func59, Tryz.ntmps59
  go_wp2_with fail
  refine KW.out.mono ?_
  intro e w2 hh
  have hpm := HPM.out
  rcases getWs_one y l with ⟨l', e1, e2⟩ | ⟨l1, e1, e2, -⟩
  · rw [e1] at hh
    rw [e2] at hpm
    cases hpm
    obtain ⟨rfl, x2⟩ := hh.error
    exact ⟨rfl, x2.mono (fun b hb => .inl hb), rfl⟩
  rw [e1] at hh
  have he1 : Ended l1 := getW_ended HE0.out e2
  rw [e2, andThen_ok] at hpm
  obtain ⟨v2, rfl, ⟨k2, q2, rfl⟩, P2, x2⟩ := hh.ok
  have S2 := HS.out.extx x2
  have X2 := Lib.hid (x2.mono (A' := fun b => b = pb ∨ bt ≤ b) (fun b hb => .inl hb))
  clear hh e1 e2 x2 p0
  have n1 := fun W (h : ExtX (fun b => b = pb ∨ bt ≤ b) w2 W) => (S2.ptr.extx h (show ¬ (b1 = pb ∨ bt ≤ b1) by omega)).cell 0
  simp at n1
  have k7 := S2.tm.eight.2.2.2.2.2.2.2
  have hlt2 := S2.tm.lt
  have hcl0 := S2.le
  have hcc0 := S2.cap
  have HS2 := Lib.hid S2
  have HP2 := Lib.hid P2
  have HE1 := Lib.hid he1
  have HPM2 := Lib.hid hpm
  clear S2 P2 he1 hpm HPM
  cases e5 : parseF f .expr l1 with
  | none => have := HPM2.out; rw [e5] at this; cases this
  | some r5 =>
  have KE := Lib.hid fun W (hP : Prs W pb l1) => HE.out pb W l1 r5 hP HE1.out e5
  have hpm := HPM2.out
  rw [e5] at hpm
  obtain rfl : r5 = r := Option.some.inj hpm
  clear hpm
  cases r5 with
  | error l' =>
    clear e5
    go_upto_region 2 with fail
    refine wp_region_held_drew (S := fun w' => ExtX (fun b => b = pb ∨ bt ≤ b) w2 w') (by kernel_rfl) (by (try dsimp only); (exact xX)) (fun hHeld => ?_)
    refine tK 0 (v := ?_) ?_ ?_;rotate_left;(focus (intro w hSw;(try dsimp only at hSw);go_simp;(try with_reducible rfl)));try simp only [Act.put,pA,pB,pC]
    refine tK 2 (v := ?_) ?_ ?_;rotate_left;(focus (intro w hSw;(try dsimp only at hSw);go_simp;(try with_reducible rfl)));try simp only [Act.put,pA,pB,pC]
    refine wpAnyH_ready (rs := [1, 3, 5]) (by kernel_rfl) (by simp) ?_
    refine held_cons 1 rfl (by rfl) (fun K hK => ?_) (held_cons 3 rfl (by rfl) (fun K hK => ?_) (held_cons 5 rfl (by rfl) (fun K hK => ?_) AllReadyH.nil))
    go_simp; refine hK.out _ _ (by (try dsimp only); (exact xX)) (fun hHeld => ?_); clear hK K; try simp only [Act.put,pA,pB,pC]
    refine tK 4 (v := ?_) ?_ ?_;rotate_left;(focus (intro w hSw;(try dsimp only at hSw);go_simp;(try with_reducible rfl)));try simp only [Act.put,pA,pB,pC]
    refine wpAnyH_ready (rs := [3, 5]) (by kernel_rfl) (by simp) ?_
    refine held_cons 3 rfl (by rfl) (fun K hK => ?_) (held_cons 5 rfl (by rfl) (fun K hK => ?_) AllReadyH.nil)
    go_simp; (first | (refine (KE.out _ (HP2.out.ext (by (exact eX)))).mono ?_; intro e w5 hh; obtain ⟨rfl, x5⟩ := hh.error; exact ⟨rfl, X2.out.trans ((by (exact xX) : ExtX (fun b => b = pb ∨ bt ≤ b) w2 _).trans (x5.mono (fun b hb => .inl hb))), rfl⟩))
    go_simp; refine hK.out _ _ (by (try dsimp only); (exact xX)) (fun hHeld => ?_); clear hK K; try simp only [Act.put,pA,pB,pC]
    refine held_do 3 rfl (by kernel_rfl) (by rfl) (fun K hK => ?_); go_simp; (first | (refine (KE.out _ (HP2.out.ext (by (exact eX)))).mono ?_; intro e w5 hh; obtain ⟨rfl, x5⟩ := hh.error; exact ⟨rfl, X2.out.trans ((by (exact xX) : ExtX (fun b => b = pb ∨ bt ≤ b) w2 _).trans (x5.mono (fun b hb => .inl hb))), rfl⟩))
    rotate_left 0
    go_simp; (first | (refine (KE.out _ (HP2.out.ext (by (exact eX)))).mono ?_; intro e w5 hh; obtain ⟨rfl, x5⟩ := hh.error; exact ⟨rfl, X2.out.trans ((by (exact xX) : ExtX (fun b => b = pb ∨ bt ≤ b) w2 _).trans (x5.mono (fun b hb => .inl hb))), rfl⟩))
    go_simp; refine hK.out _ _ (by (try dsimp only); (exact xX)) (fun hHeld => ?_); clear hK K; try simp only [Act.put,pA,pB,pC]
    refine wpAnyH_ready (rs := [1, 3]) (by kernel_rfl) (by simp) ?_
    refine held_cons 1 rfl (by rfl) (fun K hK => ?_) (held_cons 3 rfl (by rfl) (fun K hK => ?_) AllReadyH.nil)
    go_simp; refine hK.out _ _ (by (try dsimp only); (exact xX)) (fun hHeld => ?_); clear hK K; try simp only [Act.put,pA,pB,pC]
    refine tK 4 (v := ?_) ?_ ?_;rotate_left;(focus (intro w hSw;(try dsimp only at hSw);go_simp;(try with_reducible rfl)));try simp only [Act.put,pA,pB,pC]
    refine held_do 3 rfl (by kernel_rfl) (by rfl) (fun K hK => ?_); go_simp; (first | (refine (KE.out _ (HP2.out.ext (by (exact eX)))).mono ?_; intro e w5 hh; obtain ⟨rfl, x5⟩ := hh.error; exact ⟨rfl, X2.out.trans ((by (exact xX) : ExtX (fun b => b = pb ∨ bt ≤ b) w2 _).trans (x5.mono (fun b hb => .inl hb))), rfl⟩))
    rotate_left 0
    go_simp; (first | (refine (KE.out _ (HP2.out.ext (by (exact eX)))).mono ?_; intro e w5 hh; obtain ⟨rfl, x5⟩ := hh.error; exact ⟨rfl, X2.out.trans ((by (exact xX) : ExtX (fun b => b = pb ∨ bt ≤ b) w2 _).trans (x5.mono (fun b hb => .inl hb))), rfl⟩))
  | ok p5 =>
    obtain ⟨⟨xb, kb⟩, l3⟩ := p5
    clear e5 HPM2
    go_upto_region 2 with fail
    refine wp_region_held_drew (S := fun w' => ExtX (fun b => b = pb ∨ bt ≤ b) w2 w') (by kernel_rfl) (by (try dsimp only); (exact xX)) (fun hHeld => ?_)
    refine tK 0 (v := ?_) ?_ ?_;rotate_left;(focus (intro w hSw;(try dsimp only at hSw);go_simp;(try with_reducible rfl)));try simp only [Act.put,pA,pB,pC]
    refine tK 2 (v := ?_) ?_ ?_;rotate_left;(focus (intro w hSw;(try dsimp only at hSw);go_simp;(try with_reducible rfl)));try simp only [Act.put,pA,pB,pC]
    refine wpAnyH_ready (rs := [1, 3, 5]) (by kernel_rfl) (by simp) ?_
    refine held_cons 1 rfl (by rfl) (fun K hK => ?_) (held_cons 3 rfl (by rfl) (fun K hK => ?_) (held_cons 5 rfl (by rfl) (fun K hK => ?_) AllReadyH.nil))
    go_simp; refine hK.out _ _ (by (try dsimp only); (exact xX)) (fun hHeld => ?_); clear hK K; try simp only [Act.put,pA,pB,pC]
    refine tK 4 (v := ?_) ?_ ?_;rotate_left;(focus (intro w hSw;(try dsimp only at hSw);go_simp;(try with_reducible rfl)));try simp only [Act.put,pA,pB,pC]
    refine wpAnyH_ready (rs := [3, 5]) (by kernel_rfl) (by simp) ?_
    refine held_cons 3 rfl (by rfl) (fun K hK => ?_) (held_cons 5 rfl (by rfl) (fun K hK => ?_) AllReadyH.nil)
    go_simp; (first | (refine (KE.out _ (HP2.out.ext (by (exact eX)))).mono ?_; intro e w5 hh; obtain ⟨v5, rfl, ⟨ab, nb, cb, rfl, fb, k1, k2, hTb⟩, hp5, x5⟩ := hh.ok; have y5 : ExtX (· = pb) w2 w5 := (by first | exact ((ExtX.refl w2).drew).trans x5 | exact (((ExtX.refl w2).alloc _).drew).trans x5); have z5 := y5.mono (A' := fun b => b = pb ∨ bt ≤ b) (fun b h => .inl h); have HTb2 := Lib.hid (show IsTmsA (fun b => b < w2.heap.size) w5 kb ab nb from hTb.off (fun b _ hb => (by have hb : b < w2.heap.size := hb; simp; try omega))); have hS5 := HS2.out.extx y5; have e7 := hS5.tm.eight.2.2.2.2.2.2.2; have hl5 := hS5.tm.lt; have HS5 := Lib.hid hS5; have hs5 := y5.size; have HFB := Lib.hid fb; (try (have HQ5 := Lib.hid (show Blk w5 w2.heap.size 28 zeroT from (Blk.new w2 28 zeroT).drew.nez x5 (by omega)))); clear hTb hh hS5)); (try (focus (go_wp2_with fail))); refine hK.out _ _ (by (try dsimp only); (exact xX)) (fun hHeld => ?_); clear hK K; try simp only [Act.put,pA,pB,pC]
    refine held_do 5 rfl (by kernel_rfl) (by rfl) (fun K hK => ?_); go_simp; refine hK.out _ _ (by (try dsimp only); (exact xX)) (fun hHeld => ?_); clear hK K; try simp only [Act.put,pA,pB,pC]
    refine held_do 6 rfl (by kernel_rfl) (by rfl) (fun K hK => ?_); (first | (refine wp_append_mine (.tmp 11) (.tmp 15) 26 rfl (bt + 1) 28 i0 (.agg #[.int .u8 0, .int .u8 0, .int .i64 0, .int .i64 0, .string ⟨#[]⟩, .string ⟨#[]⟩, .string ⟨#[]⟩, .slice none 0 0]) 8 96 Tryz.underlying26 HI.out.1 HI.out.2.1 HI.out.2.2.1 HI.out.2.2.2 rfl (by decide) (Value.slice a ms.length c) ms.length xs rfl HS5.out.own ⟨w2.heap.size, 0, none⟩ 1 1 zeroT.toList rfl rfl (zero_at HQ5.out) zeroT_one (by unfold maxLen; omega) (by omega) (by first | omega | (simp; omega)) ?_; intro v9 w9 ho9 hg9 hw9; have z9 : ExtX (fun b => b = pb ∨ bt ≤ b) w2 w9 := ExtX.grow_ z5 hg9 (fun k hk => .inr (by have := (HS5.out.own.lt k hk).1; omega)); obtain ⟨g5, c5, rfl, hH⟩ := Half8.of HS2.out y5 (Ext.refl w5) HTb2.out k1 k2 HFB.out ho9 hg9 hw9; obtain ⟨q0, q1, q2, q3, q4, q5, q6, q7⟩ := hH.cells; have d7 := hH.tm.eight.2.2.2.2.2.2.2; have d8 := hH.tm.frozen 7; have m0 := hH.own.frozenAt (ms.length * 8); have m1 := hH.own.frozenAt (ms.length * 8 + 1); have m2 := hH.own.frozenAt (ms.length * 8 + 2); have m3 := hH.own.frozenAt (ms.length * 8 + 3); have m4 := hH.own.frozenAt (ms.length * 8 + 4); have m5 := hH.own.frozenAt (ms.length * 8 + 5); have m6 := hH.own.frozenAt (ms.length * 8 + 6); have m7 := hH.own.frozenAt (ms.length * 8 + 7); have hn1 : bt ≠ g5 := (by have := hH.up; omega); have hn2 : g5 ≠ bt := (by have := hH.up; omega); have hlg : g5 < w9.heap.size := block_lt_of_cell q0; have hlt9 := hH.tm.lt; have hP9 := Lib.hid ((hp5).grown_ hg9 (fun k hk => by have := (HS5.out.own.lt k hk).1; omega)); have HH := Lib.hid hH; have hup := hH.up; have hge : bt ≤ g5 := (by omega); have hcl : ms.length + 1 ≤ c5 := hH.le; have hcc := hH.cap; clear hH ho9 hg9 hw9) | (refine wp_append_mine (.tmp 11) (.tmp 15) 26 rfl (bt + 1) 28 i0 (.agg #[.int .u8 0, .int .u8 0, .int .i64 0, .int .i64 0, .string ⟨#[]⟩, .string ⟨#[]⟩, .string ⟨#[]⟩, .slice none 0 0]) 8 96 Tryz.underlying26 HI.out.1 HI.out.2.1 HI.out.2.2.1 HI.out.2.2.2 rfl (by decide) (Value.slice a ms.length c) ms.length xs rfl (HS5.out.own.alloc _) ⟨w5.heap.size, 0, none⟩ 1 1 zeroT.toList rfl rfl (zero_at (Blk.new w5 28 zeroT)) zeroT_one (by unfold maxLen; omega) (by omega) (by first | omega | (simp; omega)) ?_; intro v9 w9 ho9 hg9 hw9; have z9 : ExtX (fun b => b = pb ∨ bt ≤ b) w2 w9 := ExtX.grow_ (z5.then_ ((Ext.refl w5).alloc _)) hg9 (fun k hk => .inr (by have := (HS5.out.own.lt k hk).1; omega)); obtain ⟨g5, c5, rfl, hH⟩ := Half8.of HS2.out y5 ((Ext.refl w5).alloc _) HTb2.out k1 k2 HFB.out ho9 hg9 hw9; obtain ⟨q0, q1, q2, q3, q4, q5, q6, q7⟩ := hH.cells; have d7 := hH.tm.eight.2.2.2.2.2.2.2; have d8 := hH.tm.frozen 7; have m0 := hH.own.frozenAt (ms.length * 8); have m1 := hH.own.frozenAt (ms.length * 8 + 1); have m2 := hH.own.frozenAt (ms.length * 8 + 2); have m3 := hH.own.frozenAt (ms.length * 8 + 3); have m4 := hH.own.frozenAt (ms.length * 8 + 4); have m5 := hH.own.frozenAt (ms.length * 8 + 5); have m6 := hH.own.frozenAt (ms.length * 8 + 6); have m7 := hH.own.frozenAt (ms.length * 8 + 7); have hn1 : bt ≠ g5 := (by have := hH.up; omega); have hn2 : g5 ≠ bt := (by have := hH.up; omega); have hlg : g5 < w9.heap.size := block_lt_of_cell q0; have hlt9 := hH.tm.lt; have hP9 := Lib.hid ((hp5.ext ((Ext.refl w5).alloc _)).grown_ hg9 (fun k hk => by have := (HS5.out.own.lt k hk).1; omega)); have HH := Lib.hid hH; have hup := hH.up; have hge : bt ≤ g5 := (by omega); have hcl : ms.length + 1 ≤ c5 := hH.le; have hcc := hH.cap; clear hH ho9 hg9 hw9)); refine hK.out _ _ (by (try dsimp only); (exact xX)) (fun hHeld => ?_); clear hK K; try simp only [Act.put,pA,pB,pC]
    refine tK 7 (v := ?_) ?_ ?_;rotate_left;(focus (intro w hSw;(try dsimp only at hSw);go_simp;(try with_reducible rfl)));try simp only [Act.put,pA,pB,pC]
    refine tK 9 (v := ?_) ?_ ?_;rotate_left;(focus (intro w hSw;(try dsimp only at hSw);go_simp;(try with_reducible rfl)));try simp only [Act.put,pA,pB,pC]
    refine wpAnyH_ready (rs := [8, 10]) (by kernel_rfl) (by simp) ?_
    refine held_cons 8 rfl (by rfl) (fun K hK => ?_) (held_cons 10 rfl (by rfl) (fun K hK => ?_) AllReadyH.nil)
    go_simp; refine hK.out _ _ (by (try dsimp only); (exact xX)) (fun hHeld => ?_); clear hK K; try simp only [Act.put,pA,pB,pC]
    refine held_do 10 rfl (by kernel_rfl) (by rfl) (fun K hK => ?_); go_simp; refine hK.out _ _ (by (try dsimp only); (exact xX)) (fun hHeld => ?_); clear hK K; try simp only [Act.put,pA,pB,pC]
    refine wpAnyH_done (by kernel_rfl) ?_ _
    rotate_left 1
    go_simp; refine hK.out _ _ (by (try dsimp only); (exact xX)) (fun hHeld => ?_); clear hK K; try simp only [Act.put,pA,pB,pC]
    refine held_do 8 rfl (by kernel_rfl) (by rfl) (fun K hK => ?_); go_simp; refine hK.out _ _ (by (try dsimp only); (exact xX)) (fun hHeld => ?_); clear hK K; try simp only [Act.put,pA,pB,pC]
    refine wpAnyH_done (by kernel_rfl) ?_ _
    rotate_left 1
    go_simp; refine hK.out _ _ (by (try dsimp only); (exact xX)) (fun hHeld => ?_); clear hK K; try simp only [Act.put,pA,pB,pC]
    refine held_do 3 rfl (by kernel_rfl) (by rfl) (fun K hK => ?_); go_simp; (first | (refine (KE.out _ (HP2.out.ext (by (exact eX)))).mono ?_; intro e w5 hh; obtain ⟨v5, rfl, ⟨ab, nb, cb, rfl, fb, k1, k2, hTb⟩, hp5, x5⟩ := hh.ok; have y5 : ExtX (· = pb) w2 w5 := (by first | exact ((ExtX.refl w2).drew).trans x5 | exact (((ExtX.refl w2).alloc _).drew).trans x5); have z5 := y5.mono (A' := fun b => b = pb ∨ bt ≤ b) (fun b h => .inl h); have HTb2 := Lib.hid (show IsTmsA (fun b => b < w2.heap.size) w5 kb ab nb from hTb.off (fun b _ hb => (by have hb : b < w2.heap.size := hb; simp; try omega))); have hS5 := HS2.out.extx y5; have e7 := hS5.tm.eight.2.2.2.2.2.2.2; have hl5 := hS5.tm.lt; have HS5 := Lib.hid hS5; have hs5 := y5.size; have HFB := Lib.hid fb; (try (have HQ5 := Lib.hid (show Blk w5 w2.heap.size 28 zeroT from (Blk.new w2 28 zeroT).drew.nez x5 (by omega)))); clear hTb hh hS5)); (try (focus (go_wp2_with fail))); refine hK.out _ _ (by (try dsimp only); (exact xX)) (fun hHeld => ?_); clear hK K; try simp only [Act.put,pA,pB,pC]
    refine held_do 6 rfl (by kernel_rfl) (by rfl) (fun K hK => ?_); (first | (refine wp_append_mine (.tmp 11) (.tmp 15) 26 rfl (bt + 1) 28 i0 (.agg #[.int .u8 0, .int .u8 0, .int .i64 0, .int .i64 0, .string ⟨#[]⟩, .string ⟨#[]⟩, .string ⟨#[]⟩, .slice none 0 0]) 8 96 Tryz.underlying26 HI.out.1 HI.out.2.1 HI.out.2.2.1 HI.out.2.2.2 rfl (by decide) (Value.slice a ms.length c) ms.length xs rfl HS5.out.own ⟨w2.heap.size, 0, none⟩ 1 1 zeroT.toList rfl rfl (zero_at HQ5.out) zeroT_one (by unfold maxLen; omega) (by omega) (by first | omega | (simp; omega)) ?_; intro v9 w9 ho9 hg9 hw9; have z9 : ExtX (fun b => b = pb ∨ bt ≤ b) w2 w9 := ExtX.grow_ z5 hg9 (fun k hk => .inr (by have := (HS5.out.own.lt k hk).1; omega)); obtain ⟨g5, c5, rfl, hH⟩ := Half8.of HS2.out y5 (Ext.refl w5) HTb2.out k1 k2 HFB.out ho9 hg9 hw9; obtain ⟨q0, q1, q2, q3, q4, q5, q6, q7⟩ := hH.cells; have d7 := hH.tm.eight.2.2.2.2.2.2.2; have d8 := hH.tm.frozen 7; have m0 := hH.own.frozenAt (ms.length * 8); have m1 := hH.own.frozenAt (ms.length * 8 + 1); have m2 := hH.own.frozenAt (ms.length * 8 + 2); have m3 := hH.own.frozenAt (ms.length * 8 + 3); have m4 := hH.own.frozenAt (ms.length * 8 + 4); have m5 := hH.own.frozenAt (ms.length * 8 + 5); have m6 := hH.own.frozenAt (ms.length * 8 + 6); have m7 := hH.own.frozenAt (ms.length * 8 + 7); have hn1 : bt ≠ g5 := (by have := hH.up; omega); have hn2 : g5 ≠ bt := (by have := hH.up; omega); have hlg : g5 < w9.heap.size := block_lt_of_cell q0; have hlt9 := hH.tm.lt; have hP9 := Lib.hid ((hp5).grown_ hg9 (fun k hk => by have := (HS5.out.own.lt k hk).1; omega)); have HH := Lib.hid hH; have hup := hH.up; have hge : bt ≤ g5 := (by omega); have hcl : ms.length + 1 ≤ c5 := hH.le; have hcc := hH.cap; clear hH ho9 hg9 hw9) | (refine wp_append_mine (.tmp 11) (.tmp 15) 26 rfl (bt + 1) 28 i0 (.agg #[.int .u8 0, .int .u8 0, .int .i64 0, .int .i64 0, .string ⟨#[]⟩, .string ⟨#[]⟩, .string ⟨#[]⟩, .slice none 0 0]) 8 96 Tryz.underlying26 HI.out.1 HI.out.2.1 HI.out.2.2.1 HI.out.2.2.2 rfl (by decide) (Value.slice a ms.length c) ms.length xs rfl (HS5.out.own.alloc _) ⟨w5.heap.size, 0, none⟩ 1 1 zeroT.toList rfl rfl (zero_at (Blk.new w5 28 zeroT)) zeroT_one (by unfold maxLen; omega) (by omega) (by first | omega | (simp; omega)) ?_; intro v9 w9 ho9 hg9 hw9; have z9 : ExtX (fun b => b = pb ∨ bt ≤ b) w2 w9 := ExtX.grow_ (z5.then_ ((Ext.refl w5).alloc _)) hg9 (fun k hk => .inr (by have := (HS5.out.own.lt k hk).1; omega)); obtain ⟨g5, c5, rfl, hH⟩ := Half8.of HS2.out y5 ((Ext.refl w5).alloc _) HTb2.out k1 k2 HFB.out ho9 hg9 hw9; obtain ⟨q0, q1, q2, q3, q4, q5, q6, q7⟩ := hH.cells; have d7 := hH.tm.eight.2.2.2.2.2.2.2; have d8 := hH.tm.frozen 7; have m0 := hH.own.frozenAt (ms.length * 8); have m1 := hH.own.frozenAt (ms.length * 8 + 1); have m2 := hH.own.frozenAt (ms.length * 8 + 2); have m3 := hH.own.frozenAt (ms.length * 8 + 3); have m4 := hH.own.frozenAt (ms.length * 8 + 4); have m5 := hH.own.frozenAt (ms.length * 8 + 5); have m6 := hH.own.frozenAt (ms.length * 8 + 6); have m7 := hH.own.frozenAt (ms.length * 8 + 7); have hn1 : bt ≠ g5 := (by have := hH.up; omega); have hn2 : g5 ≠ bt := (by have := hH.up; omega); have hlg : g5 < w9.heap.size := block_lt_of_cell q0; have hlt9 := hH.tm.lt; have hP9 := Lib.hid ((hp5.ext ((Ext.refl w5).alloc _)).grown_ hg9 (fun k hk => by have := (HS5.out.own.lt k hk).1; omega)); have HH := Lib.hid hH; have hup := hH.up; have hge : bt ≤ g5 := (by omega); have hcl : ms.length + 1 ≤ c5 := hH.le; have hcc := hH.cap; clear hH ho9 hg9 hw9)); refine hK.out _ _ (by (try dsimp only); (exact xX)) (fun hHeld => ?_); clear hK K; try simp only [Act.put,pA,pB,pC]
    refine tK 7 (v := ?_) ?_ ?_;rotate_left;(focus (intro w hSw;(try dsimp only at hSw);go_simp;(try with_reducible rfl)));try simp only [Act.put,pA,pB,pC]
    refine tK 9 (v := ?_) ?_ ?_;rotate_left;(focus (intro w hSw;(try dsimp only at hSw);go_simp;(try with_reducible rfl)));try simp only [Act.put,pA,pB,pC]
    refine wpAnyH_ready (rs := [8, 10]) (by kernel_rfl) (by simp) ?_
    refine held_cons 8 rfl (by rfl) (fun K hK => ?_) (held_cons 10 rfl (by rfl) (fun K hK => ?_) AllReadyH.nil)
    go_simp; refine hK.out _ _ (by (try dsimp only); (exact xX)) (fun hHeld => ?_); clear hK K; try simp only [Act.put,pA,pB,pC]
    refine held_do 10 rfl (by kernel_rfl) (by rfl) (fun K hK => ?_); go_simp; refine hK.out _ _ (by (try dsimp only); (exact xX)) (fun hHeld => ?_); clear hK K; try simp only [Act.put,pA,pB,pC]
    refine wpAnyH_done (by kernel_rfl) ?_ _
    rotate_left 1
    go_simp; refine hK.out _ _ (by (try dsimp only); (exact xX)) (fun hHeld => ?_); clear hK K; try simp only [Act.put,pA,pB,pC]
    refine held_do 8 rfl (by kernel_rfl) (by rfl) (fun K hK => ?_); go_simp; refine hK.out _ _ (by (try dsimp only); (exact xX)) (fun hHeld => ?_); clear hK K; try simp only [Act.put,pA,pB,pC]
    refine wpAnyH_done (by kernel_rfl) ?_ _
    rotate_left 1
    go_simp; (first | (refine (KE.out _ (HP2.out.ext (by (exact eX)))).mono ?_; intro e w5 hh; obtain ⟨v5, rfl, ⟨ab, nb, cb, rfl, fb, k1, k2, hTb⟩, hp5, x5⟩ := hh.ok; have y5 : ExtX (· = pb) w2 w5 := (by first | exact ((ExtX.refl w2).drew).trans x5 | exact (((ExtX.refl w2).alloc _).drew).trans x5); have z5 := y5.mono (A' := fun b => b = pb ∨ bt ≤ b) (fun b h => .inl h); have HTb2 := Lib.hid (show IsTmsA (fun b => b < w2.heap.size) w5 kb ab nb from hTb.off (fun b _ hb => (by have hb : b < w2.heap.size := hb; simp; try omega))); have hS5 := HS2.out.extx y5; have e7 := hS5.tm.eight.2.2.2.2.2.2.2; have hl5 := hS5.tm.lt; have HS5 := Lib.hid hS5; have hs5 := y5.size; have HFB := Lib.hid fb; (try (have HQ5 := Lib.hid (show Blk w5 w2.heap.size 28 zeroT from (Blk.new w2 28 zeroT).drew.nez x5 (by omega)))); clear hTb hh hS5)); (try (focus (go_wp2_with fail))); refine hK.out _ _ (by (try dsimp only); (exact xX)) (fun hHeld => ?_); clear hK K; try simp only [Act.put,pA,pB,pC]
    refine wpAnyH_ready (rs := [1, 5]) (by kernel_rfl) (by simp) ?_
    refine held_cons 1 rfl (by rfl) (fun K hK => ?_) (held_cons 5 rfl (by rfl) (fun K hK => ?_) AllReadyH.nil)
    go_simp; refine hK.out _ _ (by (try dsimp only); (exact xX)) (fun hHeld => ?_); clear hK K; try simp only [Act.put,pA,pB,pC]
    refine tK 4 (v := ?_) ?_ ?_;rotate_left;(focus (intro w hSw;(try dsimp only at hSw);go_simp;(try with_reducible rfl)));try simp only [Act.put,pA,pB,pC]
    refine held_do 5 rfl (by kernel_rfl) (by rfl) (fun K hK => ?_); go_simp; refine hK.out _ _ (by (try dsimp only); (exact xX)) (fun hHeld => ?_); clear hK K; try simp only [Act.put,pA,pB,pC]
    refine held_do 6 rfl (by kernel_rfl) (by rfl) (fun K hK => ?_); (first | (refine wp_append_mine (.tmp 11) (.tmp 15) 26 rfl (bt + 1) 28 i0 (.agg #[.int .u8 0, .int .u8 0, .int .i64 0, .int .i64 0, .string ⟨#[]⟩, .string ⟨#[]⟩, .string ⟨#[]⟩, .slice none 0 0]) 8 96 Tryz.underlying26 HI.out.1 HI.out.2.1 HI.out.2.2.1 HI.out.2.2.2 rfl (by decide) (Value.slice a ms.length c) ms.length xs rfl HS5.out.own ⟨w2.heap.size, 0, none⟩ 1 1 zeroT.toList rfl rfl (zero_at HQ5.out) zeroT_one (by unfold maxLen; omega) (by omega) (by first | omega | (simp; omega)) ?_; intro v9 w9 ho9 hg9 hw9; have z9 : ExtX (fun b => b = pb ∨ bt ≤ b) w2 w9 := ExtX.grow_ z5 hg9 (fun k hk => .inr (by have := (HS5.out.own.lt k hk).1; omega)); obtain ⟨g5, c5, rfl, hH⟩ := Half8.of HS2.out y5 (Ext.refl w5) HTb2.out k1 k2 HFB.out ho9 hg9 hw9; obtain ⟨q0, q1, q2, q3, q4, q5, q6, q7⟩ := hH.cells; have d7 := hH.tm.eight.2.2.2.2.2.2.2; have d8 := hH.tm.frozen 7; have m0 := hH.own.frozenAt (ms.length * 8); have m1 := hH.own.frozenAt (ms.length * 8 + 1); have m2 := hH.own.frozenAt (ms.length * 8 + 2); have m3 := hH.own.frozenAt (ms.length * 8 + 3); have m4 := hH.own.frozenAt (ms.length * 8 + 4); have m5 := hH.own.frozenAt (ms.length * 8 + 5); have m6 := hH.own.frozenAt (ms.length * 8 + 6); have m7 := hH.own.frozenAt (ms.length * 8 + 7); have hn1 : bt ≠ g5 := (by have := hH.up; omega); have hn2 : g5 ≠ bt := (by have := hH.up; omega); have hlg : g5 < w9.heap.size := block_lt_of_cell q0; have hlt9 := hH.tm.lt; have hP9 := Lib.hid ((hp5).grown_ hg9 (fun k hk => by have := (HS5.out.own.lt k hk).1; omega)); have HH := Lib.hid hH; have hup := hH.up; have hge : bt ≤ g5 := (by omega); have hcl : ms.length + 1 ≤ c5 := hH.le; have hcc := hH.cap; clear hH ho9 hg9 hw9) | (refine wp_append_mine (.tmp 11) (.tmp 15) 26 rfl (bt + 1) 28 i0 (.agg #[.int .u8 0, .int .u8 0, .int .i64 0, .int .i64 0, .string ⟨#[]⟩, .string ⟨#[]⟩, .string ⟨#[]⟩, .slice none 0 0]) 8 96 Tryz.underlying26 HI.out.1 HI.out.2.1 HI.out.2.2.1 HI.out.2.2.2 rfl (by decide) (Value.slice a ms.length c) ms.length xs rfl (HS5.out.own.alloc _) ⟨w5.heap.size, 0, none⟩ 1 1 zeroT.toList rfl rfl (zero_at (Blk.new w5 28 zeroT)) zeroT_one (by unfold maxLen; omega) (by omega) (by first | omega | (simp; omega)) ?_; intro v9 w9 ho9 hg9 hw9; have z9 : ExtX (fun b => b = pb ∨ bt ≤ b) w2 w9 := ExtX.grow_ (z5.then_ ((Ext.refl w5).alloc _)) hg9 (fun k hk => .inr (by have := (HS5.out.own.lt k hk).1; omega)); obtain ⟨g5, c5, rfl, hH⟩ := Half8.of HS2.out y5 ((Ext.refl w5).alloc _) HTb2.out k1 k2 HFB.out ho9 hg9 hw9; obtain ⟨q0, q1, q2, q3, q4, q5, q6, q7⟩ := hH.cells; have d7 := hH.tm.eight.2.2.2.2.2.2.2; have d8 := hH.tm.frozen 7; have m0 := hH.own.frozenAt (ms.length * 8); have m1 := hH.own.frozenAt (ms.length * 8 + 1); have m2 := hH.own.frozenAt (ms.length * 8 + 2); have m3 := hH.own.frozenAt (ms.length * 8 + 3); have m4 := hH.own.frozenAt (ms.length * 8 + 4); have m5 := hH.own.frozenAt (ms.length * 8 + 5); have m6 := hH.own.frozenAt (ms.length * 8 + 6); have m7 := hH.own.frozenAt (ms.length * 8 + 7); have hn1 : bt ≠ g5 := (by have := hH.up; omega); have hn2 : g5 ≠ bt := (by have := hH.up; omega); have hlg : g5 < w9.heap.size := block_lt_of_cell q0; have hlt9 := hH.tm.lt; have hP9 := Lib.hid ((hp5.ext ((Ext.refl w5).alloc _)).grown_ hg9 (fun k hk => by have := (HS5.out.own.lt k hk).1; omega)); have HH := Lib.hid hH; have hup := hH.up; have hge : bt ≤ g5 := (by omega); have hcl : ms.length + 1 ≤ c5 := hH.le; have hcc := hH.cap; clear hH ho9 hg9 hw9)); refine hK.out _ _ (by (try dsimp only); (exact xX)) (fun hHeld => ?_); clear hK K; try simp only [Act.put,pA,pB,pC]
    refine tK 7 (v := ?_) ?_ ?_;rotate_left;(focus (intro w hSw;(try dsimp only at hSw);go_simp;(try with_reducible rfl)));try simp only [Act.put,pA,pB,pC]
    refine tK 9 (v := ?_) ?_ ?_;rotate_left;(focus (intro w hSw;(try dsimp only at hSw);go_simp;(try with_reducible rfl)));try simp only [Act.put,pA,pB,pC]
    refine wpAnyH_ready (rs := [8, 10]) (by kernel_rfl) (by simp) ?_
    refine held_cons 8 rfl (by rfl) (fun K hK => ?_) (held_cons 10 rfl (by rfl) (fun K hK => ?_) AllReadyH.nil)
    go_simp; refine hK.out _ _ (by (try dsimp only); (exact xX)) (fun hHeld => ?_); clear hK K; try simp only [Act.put,pA,pB,pC]
    refine held_do 10 rfl (by kernel_rfl) (by rfl) (fun K hK => ?_); go_simp; refine hK.out _ _ (by (try dsimp only); (exact xX)) (fun hHeld => ?_); clear hK K; try simp only [Act.put,pA,pB,pC]
    refine wpAnyH_done (by kernel_rfl) ?_ _
    rotate_left 1
    go_simp; refine hK.out _ _ (by (try dsimp only); (exact xX)) (fun hHeld => ?_); clear hK K; try simp only [Act.put,pA,pB,pC]
    refine held_do 8 rfl (by kernel_rfl) (by rfl) (fun K hK => ?_); go_simp; refine hK.out _ _ (by (try dsimp only); (exact xX)) (fun hHeld => ?_); clear hK K; try simp only [Act.put,pA,pB,pC]
    refine wpAnyH_done (by kernel_rfl) ?_ _
    rotate_left 1
    go_simp; refine hK.out _ _ (by (try dsimp only); (exact xX)) (fun hHeld => ?_); clear hK K; try simp only [Act.put,pA,pB,pC]
    refine held_do 1 rfl (by kernel_rfl) (by rfl) (fun K hK => ?_); go_simp; refine hK.out _ _ (by (try dsimp only); (exact xX)) (fun hHeld => ?_); clear hK K; try simp only [Act.put,pA,pB,pC]
    refine tK 4 (v := ?_) ?_ ?_;rotate_left;(focus (intro w hSw;(try dsimp only at hSw);go_simp;(try with_reducible rfl)));try simp only [Act.put,pA,pB,pC]
    refine held_do 6 rfl (by kernel_rfl) (by rfl) (fun K hK => ?_); (first | (refine wp_append_mine (.tmp 11) (.tmp 15) 26 rfl (bt + 1) 28 i0 (.agg #[.int .u8 0, .int .u8 0, .int .i64 0, .int .i64 0, .string ⟨#[]⟩, .string ⟨#[]⟩, .string ⟨#[]⟩, .slice none 0 0]) 8 96 Tryz.underlying26 HI.out.1 HI.out.2.1 HI.out.2.2.1 HI.out.2.2.2 rfl (by decide) (Value.slice a ms.length c) ms.length xs rfl HS5.out.own ⟨w2.heap.size, 0, none⟩ 1 1 zeroT.toList rfl rfl (zero_at HQ5.out) zeroT_one (by unfold maxLen; omega) (by omega) (by first | omega | (simp; omega)) ?_; intro v9 w9 ho9 hg9 hw9; have z9 : ExtX (fun b => b = pb ∨ bt ≤ b) w2 w9 := ExtX.grow_ z5 hg9 (fun k hk => .inr (by have := (HS5.out.own.lt k hk).1; omega)); obtain ⟨g5, c5, rfl, hH⟩ := Half8.of HS2.out y5 (Ext.refl w5) HTb2.out k1 k2 HFB.out ho9 hg9 hw9; obtain ⟨q0, q1, q2, q3, q4, q5, q6, q7⟩ := hH.cells; have d7 := hH.tm.eight.2.2.2.2.2.2.2; have d8 := hH.tm.frozen 7; have m0 := hH.own.frozenAt (ms.length * 8); have m1 := hH.own.frozenAt (ms.length * 8 + 1); have m2 := hH.own.frozenAt (ms.length * 8 + 2); have m3 := hH.own.frozenAt (ms.length * 8 + 3); have m4 := hH.own.frozenAt (ms.length * 8 + 4); have m5 := hH.own.frozenAt (ms.length * 8 + 5); have m6 := hH.own.frozenAt (ms.length * 8 + 6); have m7 := hH.own.frozenAt (ms.length * 8 + 7); have hn1 : bt ≠ g5 := (by have := hH.up; omega); have hn2 : g5 ≠ bt := (by have := hH.up; omega); have hlg : g5 < w9.heap.size := block_lt_of_cell q0; have hlt9 := hH.tm.lt; have hP9 := Lib.hid ((hp5).grown_ hg9 (fun k hk => by have := (HS5.out.own.lt k hk).1; omega)); have HH := Lib.hid hH; have hup := hH.up; have hge : bt ≤ g5 := (by omega); have hcl : ms.length + 1 ≤ c5 := hH.le; have hcc := hH.cap; clear hH ho9 hg9 hw9) | (refine wp_append_mine (.tmp 11) (.tmp 15) 26 rfl (bt + 1) 28 i0 (.agg #[.int .u8 0, .int .u8 0, .int .i64 0, .int .i64 0, .string ⟨#[]⟩, .string ⟨#[]⟩, .string ⟨#[]⟩, .slice none 0 0]) 8 96 Tryz.underlying26 HI.out.1 HI.out.2.1 HI.out.2.2.1 HI.out.2.2.2 rfl (by decide) (Value.slice a ms.length c) ms.length xs rfl (HS5.out.own.alloc _) ⟨w5.heap.size, 0, none⟩ 1 1 zeroT.toList rfl rfl (zero_at (Blk.new w5 28 zeroT)) zeroT_one (by unfold maxLen; omega) (by omega) (by first | omega | (simp; omega)) ?_; intro v9 w9 ho9 hg9 hw9; have z9 : ExtX (fun b => b = pb ∨ bt ≤ b) w2 w9 := ExtX.grow_ (z5.then_ ((Ext.refl w5).alloc _)) hg9 (fun k hk => .inr (by have := (HS5.out.own.lt k hk).1; omega)); obtain ⟨g5, c5, rfl, hH⟩ := Half8.of HS2.out y5 ((Ext.refl w5).alloc _) HTb2.out k1 k2 HFB.out ho9 hg9 hw9; obtain ⟨q0, q1, q2, q3, q4, q5, q6, q7⟩ := hH.cells; have d7 := hH.tm.eight.2.2.2.2.2.2.2; have d8 := hH.tm.frozen 7; have m0 := hH.own.frozenAt (ms.length * 8); have m1 := hH.own.frozenAt (ms.length * 8 + 1); have m2 := hH.own.frozenAt (ms.length * 8 + 2); have m3 := hH.own.frozenAt (ms.length * 8 + 3); have m4 := hH.own.frozenAt (ms.length * 8 + 4); have m5 := hH.own.frozenAt (ms.length * 8 + 5); have m6 := hH.own.frozenAt (ms.length * 8 + 6); have m7 := hH.own.frozenAt (ms.length * 8 + 7); have hn1 : bt ≠ g5 := (by have := hH.up; omega); have hn2 : g5 ≠ bt := (by have := hH.up; omega); have hlg : g5 < w9.heap.size := block_lt_of_cell q0; have hlt9 := hH.tm.lt; have hP9 := Lib.hid ((hp5.ext ((Ext.refl w5).alloc _)).grown_ hg9 (fun k hk => by have := (HS5.out.own.lt k hk).1; omega)); have HH := Lib.hid hH; have hup := hH.up; have hge : bt ≤ g5 := (by omega); have hcl : ms.length + 1 ≤ c5 := hH.le; have hcc := hH.cap; clear hH ho9 hg9 hw9)); refine hK.out _ _ (by (try dsimp only); (exact xX)) (fun hHeld => ?_); clear hK K; try simp only [Act.put,pA,pB,pC]
    refine tK 7 (v := ?_) ?_ ?_;rotate_left;(focus (intro w hSw;(try dsimp only at hSw);go_simp;(try with_reducible rfl)));try simp only [Act.put,pA,pB,pC]
    refine tK 9 (v := ?_) ?_ ?_;rotate_left;(focus (intro w hSw;(try dsimp only at hSw);go_simp;(try with_reducible rfl)));try simp only [Act.put,pA,pB,pC]
    refine wpAnyH_ready (rs := [8, 10]) (by kernel_rfl) (by simp) ?_
    refine held_cons 8 rfl (by rfl) (fun K hK => ?_) (held_cons 10 rfl (by rfl) (fun K hK => ?_) AllReadyH.nil)
    go_simp; refine hK.out _ _ (by (try dsimp only); (exact xX)) (fun hHeld => ?_); clear hK K; try simp only [Act.put,pA,pB,pC]
    refine held_do 10 rfl (by kernel_rfl) (by rfl) (fun K hK => ?_); go_simp; refine hK.out _ _ (by (try dsimp only); (exact xX)) (fun hHeld => ?_); clear hK K; try simp only [Act.put,pA,pB,pC]
    refine wpAnyH_done (by kernel_rfl) ?_ _
    rotate_left 1
    go_simp; refine hK.out _ _ (by (try dsimp only); (exact xX)) (fun hHeld => ?_); clear hK K; try simp only [Act.put,pA,pB,pC]
    refine held_do 8 rfl (by kernel_rfl) (by rfl) (fun K hK => ?_); go_simp; refine hK.out _ _ (by (try dsimp only); (exact xX)) (fun hHeld => ?_); clear hK K; try simp only [Act.put,pA,pB,pC]
    refine wpAnyH_done (by kernel_rfl) ?_ _
    rotate_left 1
    go_simp; refine hK.out _ _ (by (try dsimp only); (exact xX)) (fun hHeld => ?_); clear hK K; try simp only [Act.put,pA,pB,pC]
    refine wpAnyH_ready (rs := [1, 3]) (by kernel_rfl) (by simp) ?_
    refine held_cons 1 rfl (by rfl) (fun K hK => ?_) (held_cons 3 rfl (by rfl) (fun K hK => ?_) AllReadyH.nil)
    go_simp; refine hK.out _ _ (by (try dsimp only); (exact xX)) (fun hHeld => ?_); clear hK K; try simp only [Act.put,pA,pB,pC]
    refine tK 4 (v := ?_) ?_ ?_;rotate_left;(focus (intro w hSw;(try dsimp only at hSw);go_simp;(try with_reducible rfl)));try simp only [Act.put,pA,pB,pC]
    refine held_do 3 rfl (by kernel_rfl) (by rfl) (fun K hK => ?_); go_simp; (first | (refine (KE.out _ (HP2.out.ext (by (exact eX)))).mono ?_; intro e w5 hh; obtain ⟨v5, rfl, ⟨ab, nb, cb, rfl, fb, k1, k2, hTb⟩, hp5, x5⟩ := hh.ok; have y5 : ExtX (· = pb) w2 w5 := (by first | exact ((ExtX.refl w2).drew).trans x5 | exact (((ExtX.refl w2).alloc _).drew).trans x5); have z5 := y5.mono (A' := fun b => b = pb ∨ bt ≤ b) (fun b h => .inl h); have HTb2 := Lib.hid (show IsTmsA (fun b => b < w2.heap.size) w5 kb ab nb from hTb.off (fun b _ hb => (by have hb : b < w2.heap.size := hb; simp; try omega))); have hS5 := HS2.out.extx y5; have e7 := hS5.tm.eight.2.2.2.2.2.2.2; have hl5 := hS5.tm.lt; have HS5 := Lib.hid hS5; have hs5 := y5.size; have HFB := Lib.hid fb; (try (have HQ5 := Lib.hid (show Blk w5 w2.heap.size 28 zeroT from (Blk.new w2 28 zeroT).drew.nez x5 (by omega)))); clear hTb hh hS5)); (try (focus (go_wp2_with fail))); refine hK.out _ _ (by (try dsimp only); (exact xX)) (fun hHeld => ?_); clear hK K; try simp only [Act.put,pA,pB,pC]
    refine held_do 6 rfl (by kernel_rfl) (by rfl) (fun K hK => ?_); (first | (refine wp_append_mine (.tmp 11) (.tmp 15) 26 rfl (bt + 1) 28 i0 (.agg #[.int .u8 0, .int .u8 0, .int .i64 0, .int .i64 0, .string ⟨#[]⟩, .string ⟨#[]⟩, .string ⟨#[]⟩, .slice none 0 0]) 8 96 Tryz.underlying26 HI.out.1 HI.out.2.1 HI.out.2.2.1 HI.out.2.2.2 rfl (by decide) (Value.slice a ms.length c) ms.length xs rfl HS5.out.own ⟨w2.heap.size, 0, none⟩ 1 1 zeroT.toList rfl rfl (zero_at HQ5.out) zeroT_one (by unfold maxLen; omega) (by omega) (by first | omega | (simp; omega)) ?_; intro v9 w9 ho9 hg9 hw9; have z9 : ExtX (fun b => b = pb ∨ bt ≤ b) w2 w9 := ExtX.grow_ z5 hg9 (fun k hk => .inr (by have := (HS5.out.own.lt k hk).1; omega)); obtain ⟨g5, c5, rfl, hH⟩ := Half8.of HS2.out y5 (Ext.refl w5) HTb2.out k1 k2 HFB.out ho9 hg9 hw9; obtain ⟨q0, q1, q2, q3, q4, q5, q6, q7⟩ := hH.cells; have d7 := hH.tm.eight.2.2.2.2.2.2.2; have d8 := hH.tm.frozen 7; have m0 := hH.own.frozenAt (ms.length * 8); have m1 := hH.own.frozenAt (ms.length * 8 + 1); have m2 := hH.own.frozenAt (ms.length * 8 + 2); have m3 := hH.own.frozenAt (ms.length * 8 + 3); have m4 := hH.own.frozenAt (ms.length * 8 + 4); have m5 := hH.own.frozenAt (ms.length * 8 + 5); have m6 := hH.own.frozenAt (ms.length * 8 + 6); have m7 := hH.own.frozenAt (ms.length * 8 + 7); have hn1 : bt ≠ g5 := (by have := hH.up; omega); have hn2 : g5 ≠ bt := (by have := hH.up; omega); have hlg : g5 < w9.heap.size := block_lt_of_cell q0; have hlt9 := hH.tm.lt; have hP9 := Lib.hid ((hp5).grown_ hg9 (fun k hk => by have := (HS5.out.own.lt k hk).1; omega)); have HH := Lib.hid hH; have hup := hH.up; have hge : bt ≤ g5 := (by omega); have hcl : ms.length + 1 ≤ c5 := hH.le; have hcc := hH.cap; clear hH ho9 hg9 hw9) | (refine wp_append_mine (.tmp 11) (.tmp 15) 26 rfl (bt + 1) 28 i0 (.agg #[.int .u8 0, .int .u8 0, .int .i64 0, .int .i64 0, .string ⟨#[]⟩, .string ⟨#[]⟩, .string ⟨#[]⟩, .slice none 0 0]) 8 96 Tryz.underlying26 HI.out.1 HI.out.2.1 HI.out.2.2.1 HI.out.2.2.2 rfl (by decide) (Value.slice a ms.length c) ms.length xs rfl (HS5.out.own.alloc _) ⟨w5.heap.size, 0, none⟩ 1 1 zeroT.toList rfl rfl (zero_at (Blk.new w5 28 zeroT)) zeroT_one (by unfold maxLen; omega) (by omega) (by first | omega | (simp; omega)) ?_; intro v9 w9 ho9 hg9 hw9; have z9 : ExtX (fun b => b = pb ∨ bt ≤ b) w2 w9 := ExtX.grow_ (z5.then_ ((Ext.refl w5).alloc _)) hg9 (fun k hk => .inr (by have := (HS5.out.own.lt k hk).1; omega)); obtain ⟨g5, c5, rfl, hH⟩ := Half8.of HS2.out y5 ((Ext.refl w5).alloc _) HTb2.out k1 k2 HFB.out ho9 hg9 hw9; obtain ⟨q0, q1, q2, q3, q4, q5, q6, q7⟩ := hH.cells; have d7 := hH.tm.eight.2.2.2.2.2.2.2; have d8 := hH.tm.frozen 7; have m0 := hH.own.frozenAt (ms.length * 8); have m1 := hH.own.frozenAt (ms.length * 8 + 1); have m2 := hH.own.frozenAt (ms.length * 8 + 2); have m3 := hH.own.frozenAt (ms.length * 8 + 3); have m4 := hH.own.frozenAt (ms.length * 8 + 4); have m5 := hH.own.frozenAt (ms.length * 8 + 5); have m6 := hH.own.frozenAt (ms.length * 8 + 6); have m7 := hH.own.frozenAt (ms.length * 8 + 7); have hn1 : bt ≠ g5 := (by have := hH.up; omega); have hn2 : g5 ≠ bt := (by have := hH.up; omega); have hlg : g5 < w9.heap.size := block_lt_of_cell q0; have hlt9 := hH.tm.lt; have hP9 := Lib.hid ((hp5.ext ((Ext.refl w5).alloc _)).grown_ hg9 (fun k hk => by have := (HS5.out.own.lt k hk).1; omega)); have HH := Lib.hid hH; have hup := hH.up; have hge : bt ≤ g5 := (by omega); have hcl : ms.length + 1 ≤ c5 := hH.le; have hcc := hH.cap; clear hH ho9 hg9 hw9)); refine hK.out _ _ (by (try dsimp only); (exact xX)) (fun hHeld => ?_); clear hK K; try simp only [Act.put,pA,pB,pC]
    refine tK 7 (v := ?_) ?_ ?_;rotate_left;(focus (intro w hSw;(try dsimp only at hSw);go_simp;(try with_reducible rfl)));try simp only [Act.put,pA,pB,pC]
    refine tK 9 (v := ?_) ?_ ?_;rotate_left;(focus (intro w hSw;(try dsimp only at hSw);go_simp;(try with_reducible rfl)));try simp only [Act.put,pA,pB,pC]
    refine wpAnyH_ready (rs := [8, 10]) (by kernel_rfl) (by simp) ?_
    refine held_cons 8 rfl (by rfl) (fun K hK => ?_) (held_cons 10 rfl (by rfl) (fun K hK => ?_) AllReadyH.nil)
    go_simp; refine hK.out _ _ (by (try dsimp only); (exact xX)) (fun hHeld => ?_); clear hK K; try simp only [Act.put,pA,pB,pC]
    refine held_do 10 rfl (by kernel_rfl) (by rfl) (fun K hK => ?_); go_simp; refine hK.out _ _ (by (try dsimp only); (exact xX)) (fun hHeld => ?_); clear hK K; try simp only [Act.put,pA,pB,pC]
    refine wpAnyH_done (by kernel_rfl) ?_ _
    rotate_left 1
    go_simp; refine hK.out _ _ (by (try dsimp only); (exact xX)) (fun hHeld => ?_); clear hK K; try simp only [Act.put,pA,pB,pC]
    refine held_do 8 rfl (by kernel_rfl) (by rfl) (fun K hK => ?_); go_simp; refine hK.out _ _ (by (try dsimp only); (exact xX)) (fun hHeld => ?_); clear hK K; try simp only [Act.put,pA,pB,pC]
    refine wpAnyH_done (by kernel_rfl) ?_ _
    rotate_left 1
    go_simp; (first | (refine (KE.out _ (HP2.out.ext (by (exact eX)))).mono ?_; intro e w5 hh; obtain ⟨v5, rfl, ⟨ab, nb, cb, rfl, fb, k1, k2, hTb⟩, hp5, x5⟩ := hh.ok; have y5 : ExtX (· = pb) w2 w5 := (by first | exact ((ExtX.refl w2).drew).trans x5 | exact (((ExtX.refl w2).alloc _).drew).trans x5); have z5 := y5.mono (A' := fun b => b = pb ∨ bt ≤ b) (fun b h => .inl h); have HTb2 := Lib.hid (show IsTmsA (fun b => b < w2.heap.size) w5 kb ab nb from hTb.off (fun b _ hb => (by have hb : b < w2.heap.size := hb; simp; try omega))); have hS5 := HS2.out.extx y5; have e7 := hS5.tm.eight.2.2.2.2.2.2.2; have hl5 := hS5.tm.lt; have HS5 := Lib.hid hS5; have hs5 := y5.size; have HFB := Lib.hid fb; (try (have HQ5 := Lib.hid (show Blk w5 w2.heap.size 28 zeroT from (Blk.new w2 28 zeroT).drew.nez x5 (by omega)))); clear hTb hh hS5)); (try (focus (go_wp2_with fail))); refine hK.out _ _ (by (try dsimp only); (exact xX)) (fun hHeld => ?_); clear hK K; try simp only [Act.put,pA,pB,pC]
    refine held_do 1 rfl (by kernel_rfl) (by rfl) (fun K hK => ?_); go_simp; refine hK.out _ _ (by (try dsimp only); (exact xX)) (fun hHeld => ?_); clear hK K; try simp only [Act.put,pA,pB,pC]
    refine tK 4 (v := ?_) ?_ ?_;rotate_left;(focus (intro w hSw;(try dsimp only at hSw);go_simp;(try with_reducible rfl)));try simp only [Act.put,pA,pB,pC]
    refine held_do 6 rfl (by kernel_rfl) (by rfl) (fun K hK => ?_); (first | (refine wp_append_mine (.tmp 11) (.tmp 15) 26 rfl (bt + 1) 28 i0 (.agg #[.int .u8 0, .int .u8 0, .int .i64 0, .int .i64 0, .string ⟨#[]⟩, .string ⟨#[]⟩, .string ⟨#[]⟩, .slice none 0 0]) 8 96 Tryz.underlying26 HI.out.1 HI.out.2.1 HI.out.2.2.1 HI.out.2.2.2 rfl (by decide) (Value.slice a ms.length c) ms.length xs rfl HS5.out.own ⟨w2.heap.size, 0, none⟩ 1 1 zeroT.toList rfl rfl (zero_at HQ5.out) zeroT_one (by unfold maxLen; omega) (by omega) (by first | omega | (simp; omega)) ?_; intro v9 w9 ho9 hg9 hw9; have z9 : ExtX (fun b => b = pb ∨ bt ≤ b) w2 w9 := ExtX.grow_ z5 hg9 (fun k hk => .inr (by have := (HS5.out.own.lt k hk).1; omega)); obtain ⟨g5, c5, rfl, hH⟩ := Half8.of HS2.out y5 (Ext.refl w5) HTb2.out k1 k2 HFB.out ho9 hg9 hw9; obtain ⟨q0, q1, q2, q3, q4, q5, q6, q7⟩ := hH.cells; have d7 := hH.tm.eight.2.2.2.2.2.2.2; have d8 := hH.tm.frozen 7; have m0 := hH.own.frozenAt (ms.length * 8); have m1 := hH.own.frozenAt (ms.length * 8 + 1); have m2 := hH.own.frozenAt (ms.length * 8 + 2); have m3 := hH.own.frozenAt (ms.length * 8 + 3); have m4 := hH.own.frozenAt (ms.length * 8 + 4); have m5 := hH.own.frozenAt (ms.length * 8 + 5); have m6 := hH.own.frozenAt (ms.length * 8 + 6); have m7 := hH.own.frozenAt (ms.length * 8 + 7); have hn1 : bt ≠ g5 := (by have := hH.up; omega); have hn2 : g5 ≠ bt := (by have := hH.up; omega); have hlg : g5 < w9.heap.size := block_lt_of_cell q0; have hlt9 := hH.tm.lt; have hP9 := Lib.hid ((hp5).grown_ hg9 (fun k hk => by have := (HS5.out.own.lt k hk).1; omega)); have HH := Lib.hid hH; have hup := hH.up; have hge : bt ≤ g5 := (by omega); have hcl : ms.length + 1 ≤ c5 := hH.le; have hcc := hH.cap; clear hH ho9 hg9 hw9) | (refine wp_append_mine (.tmp 11) (.tmp 15) 26 rfl (bt + 1) 28 i0 (.agg #[.int .u8 0, .int .u8 0, .int .i64 0, .int .i64 0, .string ⟨#[]⟩, .string ⟨#[]⟩, .string ⟨#[]⟩, .slice none 0 0]) 8 96 Tryz.underlying26 HI.out.1 HI.out.2.1 HI.out.2.2.1 HI.out.2.2.2 rfl (by decide) (Value.slice a ms.length c) ms.length xs rfl (HS5.out.own.alloc _) ⟨w5.heap.size, 0, none⟩ 1 1 zeroT.toList rfl rfl (zero_at (Blk.new w5 28 zeroT)) zeroT_one (by unfold maxLen; omega) (by omega) (by first | omega | (simp; omega)) ?_; intro v9 w9 ho9 hg9 hw9; have z9 : ExtX (fun b => b = pb ∨ bt ≤ b) w2 w9 := ExtX.grow_ (z5.then_ ((Ext.refl w5).alloc _)) hg9 (fun k hk => .inr (by have := (HS5.out.own.lt k hk).1; omega)); obtain ⟨g5, c5, rfl, hH⟩ := Half8.of HS2.out y5 ((Ext.refl w5).alloc _) HTb2.out k1 k2 HFB.out ho9 hg9 hw9; obtain ⟨q0, q1, q2, q3, q4, q5, q6, q7⟩ := hH.cells; have d7 := hH.tm.eight.2.2.2.2.2.2.2; have d8 := hH.tm.frozen 7; have m0 := hH.own.frozenAt (ms.length * 8); have m1 := hH.own.frozenAt (ms.length * 8 + 1); have m2 := hH.own.frozenAt (ms.length * 8 + 2); have m3 := hH.own.frozenAt (ms.length * 8 + 3); have m4 := hH.own.frozenAt (ms.length * 8 + 4); have m5 := hH.own.frozenAt (ms.length * 8 + 5); have m6 := hH.own.frozenAt (ms.length * 8 + 6); have m7 := hH.own.frozenAt (ms.length * 8 + 7); have hn1 : bt ≠ g5 := (by have := hH.up; omega); have hn2 : g5 ≠ bt := (by have := hH.up; omega); have hlg : g5 < w9.heap.size := block_lt_of_cell q0; have hlt9 := hH.tm.lt; have hP9 := Lib.hid ((hp5.ext ((Ext.refl w5).alloc _)).grown_ hg9 (fun k hk => by have := (HS5.out.own.lt k hk).1; omega)); have HH := Lib.hid hH; have hup := hH.up; have hge : bt ≤ g5 := (by omega); have hcl : ms.length + 1 ≤ c5 := hH.le; have hcc := hH.cap; clear hH ho9 hg9 hw9)); refine hK.out _ _ (by (try dsimp only); (exact xX)) (fun hHeld => ?_); clear hK K; try simp only [Act.put,pA,pB,pC]
    refine tK 7 (v := ?_) ?_ ?_;rotate_left;(focus (intro w hSw;(try dsimp only at hSw);go_simp;(try with_reducible rfl)));try simp only [Act.put,pA,pB,pC]
    refine tK 9 (v := ?_) ?_ ?_;rotate_left;(focus (intro w hSw;(try dsimp only at hSw);go_simp;(try with_reducible rfl)));try simp only [Act.put,pA,pB,pC]
    refine wpAnyH_ready (rs := [8, 10]) (by kernel_rfl) (by simp) ?_
    refine held_cons 8 rfl (by rfl) (fun K hK => ?_) (held_cons 10 rfl (by rfl) (fun K hK => ?_) AllReadyH.nil)
    go_simp; refine hK.out _ _ (by (try dsimp only); (exact xX)) (fun hHeld => ?_); clear hK K; try simp only [Act.put,pA,pB,pC]
    refine held_do 10 rfl (by kernel_rfl) (by rfl) (fun K hK => ?_); go_simp; refine hK.out _ _ (by (try dsimp only); (exact xX)) (fun hHeld => ?_); clear hK K; try simp only [Act.put,pA,pB,pC]
    refine wpAnyH_done (by kernel_rfl) ?_ _
    rotate_left 1
    go_simp; refine hK.out _ _ (by (try dsimp only); (exact xX)) (fun hHeld => ?_); clear hK K; try simp only [Act.put,pA,pB,pC]
    refine held_do 8 rfl (by kernel_rfl) (by rfl) (fun K hK => ?_); go_simp; refine hK.out _ _ (by (try dsimp only); (exact xX)) (fun hHeld => ?_); clear hK K; try simp only [Act.put,pA,pB,pC]
    refine wpAnyH_done (by kernel_rfl) ?_ _
    rotate_left 1
    all_goals
      have hP := hP9.out
      have hgp : pb < g5 := by omega
      have hbp : pb < bt := by omega
      have L1 := HH.out.lay
      have L2 := HH.out.lay2
      refine bodyPost_end (v := .tuple #[]) (results_none rfl _ _ _) rfl ⟨X2.out.trans hHeld, rfl, by clear hHeld L1 L2; (exact prX), ?_⟩
      refine ⟨some ⟨g5, 0, none⟩, c5, xs ++ (tcells (Tm.mk xb kb).head ab nb cb).toList, ?_⟩
      have em : Tm.mk (Tm.mk xb kb).head kb = Tm.mk xb kb := rfl
      rw [em] at L1 L2
      first
        | (with_reducible exact L1)
        | (with_reducible exact L2)
end Go.Proofs.YtaioeailgknfjaaGreatDoor
namespace Go.Proofs.YtaioeailgknfjaaGreatDoor
open Go Go.RowKit Go.Sort

theorem ExtX.shrink {w W0 W : World} {pb bt : Nat} (h0 : ExtX (· = pb) w W0) (h : ExtX (fun b => b = pb ∨ bt ≤ b) W0 W) (hb : w.heap.size ≤ bt) : ExtX (· = pb) w W :=
  ⟨h.os.trans h0.os, h.tape.trans h0.tape, h.output.trans h0.output, Nat.le_trans h0.size h.size, fun k hk ha => (h.block k (Nat.lt_of_lt_of_le hk h0.size) (by
    rintro (e | e)
    · exact ha e
    · omega)).trans (h0.block k hk ha)⟩
/-- Another field of the term. -/
theorem Sub8.put {pb b1 bt : Nat} {x : Hd} {ms : List Tm} {a : Option Addr} {c : Nat} {xs : List Value} {w : World} (h : Sub8 pb b1 bt x ms a c xs w) (i : Nat) (u : Value) (x' : Hd)
    (e : (#[.int .u8 x.k, .int .u8 x.op, .int .i64 x.pos, .int .i64 x.n, .string x.name, .string x.arg, .string x.exn, .slice a ms.length c] : Array Value).setIfInBounds i u = #[.int .u8 x'.k, .int .u8 x'.op, .int .i64 x'.pos, .int .i64 x'.n, .string x'.name, .string x'.arg, .string x'.exn, .slice a ms.length c]) :
    Sub8 pb b1 bt x' ms a c xs (w.setCell ⟨bt, i, none⟩ u) := by
  have o2 := h.o2
  refine ⟨h.ptr.far (p := ⟨bt, i, none⟩) (by show b1 ≠ bt; omega) u, by have := h.tm.set_ i u; rw [e] at this; exact this, ?_, ?_, h.le, h.cap, h.o1, o2⟩
  · refine h.own.kept (row := some bt) ⟨rfl, rfl, rfl, by simp [World.setCell], fun k _ hk => Below.heap_setCell _ _ _ _ (fun e => hk (by simp at e; rw [e]))⟩ ?_
    cases hv : (Value.slice a ms.length c).ownBlock with
    | none => exact .inl rfl
    | some k =>
      refine .inr ?_
      intro e
      have := (h.own.lt k hv).1
      have := Option.some.inj e
      omega
  · exact h.flat.move (fun _ _ h => h) fun p v hp hv => (World.cell?_setCell_other _ _ p _ (fun e => hp (.inl (by subst e; exact Nat.le_refl _)))).trans hv
theorem Sub8.tms {pb b1 bt : Nat} {x : Hd} {ms : List Tm} {a : Option Addr} {c : Nat} {xs : List Value} {w : World} (h : Sub8 pb b1 bt x ms a c xs w) : IsTmsA (fun b => b ≤ bt) w ms a ms.length := by
  rcases Nat.eq_zero_or_pos ms.length with h0 | h0
  · obtain rfl := List.eq_nil_of_length_eq_zero h0
    exact IsTmsA.nil _
  · obtain ⟨g, cap, e, hg, hl, h1, h2, hc⟩ := owns_open h.own h0
    simp at e
    obtain ⟨rfl, rfl⟩ := e
    exact h.flat.tms (fun b hb => .inl hb) g 0 (by omega) fun j u hu => by simpa using hc j u hu
theorem Sub8.start {pb b1 : Nat} {x : Hd} {w : World} (hp : Blk w b1 60 #[.pointer (some ⟨pb, 0, none⟩)]) (o1 : pb < b1) :
    Sub8 pb b1 w.heap.size x [] none 0 [] (w.alloc (.cells #[.int .u8 x.k, .int .u8 x.op, .int .i64 x.pos, .int .i64 x.n, .string x.name, .string x.arg, .string x.exn, .slice none 0 0] 28)) :=
  ⟨hp.alloc _, Blk.new w _ _, World.ownsRow_nil _ _ _ _, rfl, Nat.le_refl _, by omega, o1, hp.lt⟩
/-- What is left of a call that stores its result. -/
structure LaidE (pb z0 : Nat) (w w1 : World) (x : Hd) (ks : List Tm) (a : Option Addr) (n c : Nat) (l : List Tk) : Prop where
  z : Blk w1 z0 28 #[.int .u8 0, .int .u8 0, .int .i64 0, .int .i64 0, .string ⟨#[]⟩, .string ⟨#[]⟩, .string ⟨#[]⟩, .slice none 0 0]
  fits : x.Fits
  le : n ≤ c
  cap : c ≤ 9223372036854775807
  tms : IsTmsA (fun b => b ≤ z0) w1 ks a n
  prs : Prs w1 pb l
  ext : ExtX (· = pb) w w1
  lt : pb < z0
  up : w.heap.size ≤ z0
theorem LaidE.ret {pb z0 : Nat} {w w1 : World} {x : Hd} {ks : List Tm} {a : Option Addr} {n c : Nat} {l : List Tk} (h : LaidE pb z0 w w1 x ks a n c l) {fn : Func} {act : Act}
    (hr : ∀ w2 : World, w2.cell? ⟨z0, 0, none⟩ = some (.int .u8 x.k) → w2.cell? ⟨z0, 1, none⟩ = some (.int .u8 x.op) → w2.cell? ⟨z0, 2, none⟩ = some (.int .i64 x.pos) → w2.cell? ⟨z0, 3, none⟩ = some (.int .i64 x.n) → w2.cell? ⟨z0, 4, none⟩ = some (.string x.name) → w2.cell? ⟨z0, 5, none⟩ = some (.string x.arg) → w2.cell? ⟨z0, 6, none⟩ = some (.string x.exn) → w2.cell? ⟨z0, 7, none⟩ = some (.slice a n c) →
      (results fn act.tmps).run Tryz.prog w2 = .ok (.agg #[.int .u8 x.k, .int .u8 x.op, .int .i64 x.pos, .int .i64 x.n, .string x.name, .string x.arg, .string x.exn, .slice a n c]) w2) (hd : act.defers = []) :
    bodyPost Tryz.prog fn (RetP pb w (IsNew w.heap.size) (.ok (.mk x ks, l))) .ret act ((((((((w1.setCell ⟨z0, 0, none⟩ (.int .u8 x.k)).setCell ⟨z0, 1, none⟩ (.int .u8 x.op)).setCell ⟨z0, 2, none⟩ (.int .i64 x.pos)).setCell ⟨z0, 3, none⟩ (.int .i64 x.n)).setCell ⟨z0, 4, none⟩ (.string x.name)).setCell ⟨z0, 5, none⟩ (.string x.arg)).setCell ⟨z0, 6, none⟩ (.string x.exn)).setCell ⟨z0, 7, none⟩ (.slice a n c)) := by
  have hZ9 := h.z.lay8 (u0 := .int .u8 x.k) (u1 := .int .u8 x.op) (u2 := .int .i64 x.pos) (u3 := .int .i64 x.n) (u4 := .string x.name) (u5 := .string x.arg) (u6 := .string x.exn) (u7 := .slice a n c)
  have up := h.up
  refine ret8 hZ9 (fun ⟨r0, r1, r2, r3, r4, r5, r6, r7⟩ => hr _ r0 r1 r2 r3 r4 r5 r6 r7) hd ⟨h.ext.set8 (.inr up), _, rfl, ⟨a, n, c, rfl, h.fits, h.le, h.cap, ?_⟩, h.prs.set8 h.lt⟩
  exact (h.tms.set8 (Nat.le_refl _)).off fun b _ hb => (by have hb : b < w.heap.size := hb; show b ≤ z0; omega)
theorem isT_mem {x : ByteArray} {xs : List ByteArray} {l : List Tk} (hx : x ∈ xs) (h : isT [x] l = true) : isT xs l = true := by
  obtain ⟨t, r, rfl, -, ht, hk⟩ := isT_ne h
  have ht : t.text = x := by simpa using ht
  have : inB xs t.text = true := by rw [inB_iff, ht]; exact hx
  rw [isT_cons, this]
  rcases hk with hk | hk <;> simp [hk]
theorem isT_other {x y : ByteArray} {l : List Tk} (h : isT [x] l = true) (hne : x ≠ y) : isT [y] l = false := by
  obtain ⟨t, r, rfl, -, ht, hk⟩ := isT_ne h
  have ht : t.text = x := by simpa using ht
  cases hy : isT [y] (t :: r) with
  | false => rfl
  | true =>
    have := isT_text hy
    exact (hne (ht.symm.trans this)).elim
theorem sub_ended0 {f : Nat} {l l' : List Tk} {t : Tm} (he : Ended l) (h : parseF f .expr l = some (.ok (t, l'))) : Ended l' := (parseF_told he h).1
theorem sub_ended {f : Nat} {y : ByteArray} {l l' : List Tk} {t : Tm} (he : Ended l) (h : (andThen (some (getW y l)) fun _ l1 => parseF f .expr l1) = some (.ok (t, l'))) : Ended l' := by
  obtain ⟨_, l1, e1, e2⟩ := andThen_inv h
  have hw : getW y l = .ok ((), l1) := Option.some.inj e1
  exact sub_ended0 (getW_ended he hw) e2
theorem row_new2 (w : World) (o o2 : Obj) (t : TypeId) (l : List Value) : IsRow (((w.alloc o).alloc o2).alloc (.cells l.toArray t)) l (some ⟨w.heap.size + 1 + 1, 0, none⟩) l.length := by
  have := IsRow.new ((w.alloc o).alloc o2) t l
  rw [World.size_alloc, World.size_alloc] at this
  exact this
end Go.Proofs.YtaioeailgknfjaaGreatDoor

/- The walk of parse.expr: let. The walk of parse.expr: letrec. -/
namespace Go.Proofs.YtaioeailgknfjaaGreatDoor
open Go Go.RowKit Go.Sort

set_option maxRecDepth 8000 in
set_option maxHeartbeats 8000000 in
theorem parse_expr_let (f : Nat) (hE : Does 31 .expr f) (pb : Nat) (tk : Tk) (l0 : List Tk) (r : Res Tm) (w : World) (h : Prs w pb (tk :: l0)) (he : Ended (tk :: l0)) (hi : isT [w_let] (tk :: l0) = true) (hp : parseF (f + 1) .expr (tk :: l0) = some r) :
    Calls Tryz.prog 31 #[.pointer (some ⟨pb, 0, none⟩)] w (RetP pb w (IsNew w.heap.size) r) := by
  obtain ⟨tkk, s, ps⟩ := tk
  have hsx : s = w_let := isT_text hi
  subst hsx
  have hlt := h.lt
  have hfit := h.fits
  have hpos0 : -9223372036854775808 ≤ ps := hfit.p0
  have hpos1 : ps ≤ 9223372036854775807 := hfit.p1
  have hpm := hp
  unfold parseF at hpm
  rw [if_pos hi] at hpm
  simp only [List.tail_cons, posT] at hpm
  have hi5 : isT [w_let, w_letrec, w_fn, w_if, w_try] (⟨tkk, w_let, ps⟩ :: l0) = true := isT_mem (by simp) hi
  obtain ⟨hl0, he0⟩ := he.tail_ne (isT_kind hi)
  have q_let : (w_let.toList == ([108, 101, 116] : List UInt8)) = true := by rw [ByteArray.toList_eq]; rfl
  have KI := Lib.hid fun W (x : Ext w W) (a : Option Addr) (hr : IsRow W (vstr [w_let, w_letrec, w_fn, w_if, w_try]) a 5) => parse_is [w_let, w_letrec, w_fn, w_if, w_try] pb ⟨tkk, w_let, ps⟩ l0 W a 5 5 (Nat.le_refl _) (by omega) hr (h.ext x)
  rw [hi5] at KI
  have KT := Lib.hid fun W (x : Ext w W) => parse_take pb ⟨tkk, w_let, ps⟩ l0 W (h.ext x)
  have HE := Lib.hid hE
  have HPM := Lib.hid hpm
  have HL0 := Lib.hid hl0
  have E0 := Lib.hid he0
  clear hp hpm h he hi hi5 hfit hE hl0 he0
  go_enter Tryz.func31, Tryz.ntmps31
  go_wp2_with fail
  refine (KI.out _ (by (exact eX)) _ (row_new2 w _ _ _ (vstr [w_let, w_letrec, w_fn, w_if, w_try]))).mono ?_
  rintro e w2 ⟨rfl, x2⟩
  have hP2 := blk_under2 x2
  have hZ2 := blk_under x2
  rw [World.size_alloc] at hZ2
  have y2 : Ext w w2 := by (exact eX)
  have p0 := hP2.cell 0
  simp at p0
  go_wp2_with fail
  refine (KT.out _ y2).mono ?_
  rintro e w3 ⟨rfl, x3, hp3⟩
  have P3 := hp3 HL0.out
  have hP3 := hP2.nez x3 (by omega)
  have hZ3 := hZ2.nez x3 (by omega)
  have y3 : ExtX (· = pb) w w3 := (ExtX.of y2).trans x3
  have HP3 := Lib.hid P3
  have HQ3 := Lib.hid hP3
  have HZ3 := Lib.hid hZ3
  have Y3 := Lib.hid y3
  clear x2 hP2 hZ2 y2 x3 hp3 P3 hP3 hZ3 y3 p0
  go_wp2_with fail
  refine (parse_node _ _ _ _ _ _).mono ?_
  rintro e w4 ⟨rfl, x4⟩
  have hT4 := blk_top x4
  have t1 := hT4.cell 1
  simp at t1
  have hlT := hT4.lt
  have y34 : Ext w3 w4 := by (exact eX)
  have hP4 := HQ3.out.ext y34
  have hZ4 := HZ3.out.ext y34
  have hs4 := hZ4.lt
  obtain ⟨b1, hb1⟩ : ∃ b1, b1 = w.heap.size := ⟨_, rfl⟩
  obtain ⟨bt, hbt⟩ : ∃ bt, bt = w4.heap.size := ⟨_, rfl⟩
  have hS := Sub8.start (x := (⟨0, 0, ps, 0, ByteArray.empty, ByteArray.empty, ByteArray.empty⟩ : Hd)) hP4 hlt
  obtain ⟨W0, hW0⟩ : ∃ W0, W0 = w4.alloc (.cells #[.int .u8 0, .int .u8 0, .int .i64 ps, .int .i64 0, .string ByteArray.empty, .string ByteArray.empty, .string ByteArray.empty, .slice none 0 0] 28) := ⟨_, rfl⟩
  have S0 : Hid (Sub8 pb w.heap.size w4.heap.size (⟨0, 0, ps, 0, ByteArray.empty, ByteArray.empty, ByteArray.empty⟩ : Hd) [] none 0 [] W0) := Lib.hid (by rw [hW0]; exact hS)
  have yW : Ext w4 W0 := by rw [hW0]; exact (Ext.refl _).alloc _
  have Z0 := Lib.hid (hZ4.ext yW)
  have P0 := Lib.hid (HP3.out.ext (y34.trans yW))
  have Y0 := Lib.hid (Y3.out.then_ (y34.trans yW))
  have X0 := Lib.hid (ExtX.refl (A := fun b => b = pb ∨ w4.heap.size ≤ b) W0)
  have hup : w.heap.size ≤ w4.heap.size := by omega
  clear hS hP4 hZ4 x4 hT4 y34 yW hb1 hbt
  go_upto_region 8 with fail
  rw [← hW0]
  clear t1 hW0
  have hpm := HPM.out
  have p0 := S0.out.ptr.cell 0
  simp at p0
  go_wp2_with fail
  refine (parse_name pb l0 _ P0.out E0.out).mono ?_
  intro e W1 hh
  clear p0
  cases hg : getK 2 l0 with
  | error l' =>
    rw [hg] at hh hpm
    cases hpm
    obtain ⟨rfl, x'⟩ := hh.error
    exact ⟨rfl, (Y0.out.shrink X0.out hup).trans x', rfl⟩
  | ok q =>
  obtain ⟨xn, l1⟩ := q
  rw [hg] at hh hpm
  rw [andThen_ok] at hpm
  obtain ⟨v, rfl, hv, hP, x'⟩ := hh.ok
  have hv : v = .string xn := hv
  subst hv
  have hz_xn : xn.size ≤ 9223372036854775807 := by
    obtain ⟨t, e, -, rfl⟩ := getK_inv (k := 2) (l := l0) (l' := l1) (x := xn) (by rw [hg])
    have := P0.out
    rw [e] at this
    exact this.fits.text1
  have E1 : Hid (Ended l1) := Lib.hid (by have := getK_behind E0.out (show (2 : Int) ≠ 6 by omega); rw [hg] at this; exact this.1)
  have S1 := Lib.hid (S0.out.extx x')
  have Z1 := Lib.hid (Z0.out.nez x' (by omega))
  have P1 := Lib.hid hP
  have X1 := Lib.hid (X0.out.trans (x'.mono (fun b hb => .inl hb)))
  clear hh hg hP x'
  obtain ⟨c0, c1, c2, c3, c4, c5, c6, c7⟩ := S1.out.tm.eight
  obtain ⟨f0, f1, f2, f3, f4, f5, f6, f7⟩ := S1.out.tm.frozen8
  have hlb := S1.out.tm.lt
  have hSn := ((S1.out.put 0 (.int .u8 12) (⟨12, 0, ps, 0, ByteArray.empty, ByteArray.empty, ByteArray.empty⟩ : Hd) (by simp)).put 4 (.string xn) (⟨12, 0, ps, 0, xn, ByteArray.empty, ByteArray.empty⟩ : Hd) (by simp))
  have hPn := ((P1.out.far (p := ⟨w4.heap.size, 0, none⟩) (by show pb < w4.heap.size; omega) (.int .u8 12)).far (p := ⟨w4.heap.size, 4, none⟩) (by show pb < w4.heap.size; omega) (.string xn))
  have hXn := ((X1.out.setCell (p := ⟨w4.heap.size, 0, none⟩) (.inl (.inr (Nat.le_refl _))) (.int .u8 12)).setCell (p := ⟨w4.heap.size, 4, none⟩) (.inl (.inr (Nat.le_refl _))) (.string xn))
  have hZn := ((Z1.out.far (p := ⟨w4.heap.size, 0, none⟩) (by show w.heap.size + 1 ≠ w4.heap.size; omega) (.int .u8 12)).far (p := ⟨w4.heap.size, 4, none⟩) (by show w.heap.size + 1 ≠ w4.heap.size; omega) (.string xn))
  obtain ⟨W2, hWn⟩ : ∃ Wn, Wn = ((W1.setCell ⟨w4.heap.size, 0, none⟩ (.int .u8 12)).setCell ⟨w4.heap.size, 4, none⟩ (.string xn)) := ⟨_, rfl⟩
  rw [← hWn] at hSn hPn hXn hZn
  go_upto_region 9 with fail
  rw [← hWn]
  have S2 := Lib.hid hSn
  have P2 := Lib.hid hPn
  have X2 := Lib.hid hXn
  have Z2 := Lib.hid hZn
  clear hSn hPn hXn hZn hWn c0 c1 c2 c3 c4 c5 c6 c7 f0 f1 f2 f3 f4 f5 f6 f7 hlb
  rw [← andThen_assoc] at hpm
  cases eq0 : (andThen (some (getW s_eq l1)) fun _ l1 => parseF f .expr l1) with
  | none => rw [eq0] at hpm; cases hpm
  | some r0 =>
  rw [eq0] at hpm
  go_wp2_with fail
  refine (parse_sub1 f HE.out pb w.heap.size w4.heap.size (⟨12, 0, ps, 0, xn, ByteArray.empty, ByteArray.empty⟩ : Hd) [] none 0 [] l1 r0 _ s_eq _ (row_one0 W2 s_eq _) (S2.out.ext ((Ext.refl _).alloc _)) (by simp) (P2.out.alloc _) E1.out eq0).mono ?_
  intro e W3 hh
  cases r0 with
  | error l' =>
    cases hpm
    obtain ⟨x', he'⟩ := hh
    have he' : e = thrown l' := he'
    subst he'
    exact ⟨rfl, Y0.out.shrink ((X2.out.alloc _).trans x') hup, rfl⟩
  | ok q =>
  obtain ⟨t0, l2⟩ := q
  rw [andThen_ok] at hpm
  obtain ⟨x', he', hP, a0, c0, xs0, hS⟩ := hh
  have he' : e = .returned (.tuple #[]) := he'
  subst he'
  have S3 : Hid (Sub8 pb w.heap.size w4.heap.size (⟨12, 0, ps, 0, xn, ByteArray.empty, ByteArray.empty⟩ : Hd) [t0] a0 c0 xs0 W3) := Lib.hid hS
  have E2 := Lib.hid (sub_ended E1.out eq0)
  have Z3 := Lib.hid ((Z2.out.alloc _).extx x' (show ¬ (w.heap.size + 1 = pb ∨ w4.heap.size ≤ w.heap.size + 1) by omega))
  have P3 := Lib.hid hP
  have X3 := Lib.hid ((X2.out.alloc _).trans x')
  clear eq0 hP x' hS
  rw [← andThen_assoc] at hpm
  cases eq1 : (andThen (some (getW w_in l2)) fun _ l1 => parseF f .expr l1) with
  | none => rw [eq1] at hpm; cases hpm
  | some r1 =>
  rw [eq1] at hpm
  go_wp2_with fail
  refine (parse_sub1 f HE.out pb w.heap.size w4.heap.size (⟨12, 0, ps, 0, xn, ByteArray.empty, ByteArray.empty⟩ : Hd) [t0] a0 c0 xs0 l2 r1 _ w_in _ (row_one0 W3 w_in _) (S3.out.ext ((Ext.refl _).alloc _)) (by simp) (P3.out.alloc _) E2.out eq1).mono ?_
  intro e W4 hh
  cases r1 with
  | error l' =>
    cases hpm
    obtain ⟨x', he'⟩ := hh
    have he' : e = thrown l' := he'
    subst he'
    exact ⟨rfl, Y0.out.shrink ((X3.out.alloc _).trans x') hup, rfl⟩
  | ok q =>
  obtain ⟨t1, l3⟩ := q
  rw [andThen_ok] at hpm
  obtain ⟨x', he', hP, a1, c1, xs1, hS⟩ := hh
  have he' : e = .returned (.tuple #[]) := he'
  subst he'
  have S4 : Hid (Sub8 pb w.heap.size w4.heap.size (⟨12, 0, ps, 0, xn, ByteArray.empty, ByteArray.empty⟩ : Hd) [t0, t1] a1 c1 xs1 W4) := Lib.hid hS
  have E3 := Lib.hid (sub_ended E2.out eq1)
  have Z4 := Lib.hid ((Z3.out.alloc _).extx x' (show ¬ (w.heap.size + 1 = pb ∨ w4.heap.size ≤ w.heap.size + 1) by omega))
  have P4 := Lib.hid hP
  have X4 := Lib.hid ((X3.out.alloc _).trans x')
  clear eq1 hP x' hS
  have hr : r = .ok (.mk (⟨12, 0, ps, 0, xn, ByteArray.empty, ByteArray.empty⟩ : Hd) [t0, t1], l3) := by
    cases hpm
    rfl
  subst hr
  clear hpm
  have HL : Hid (LaidE pb (w.heap.size + 1) w W4 (⟨12, 0, ps, 0, xn, ByteArray.empty, ByteArray.empty⟩ : Hd) [t0, t1] a1 2 c1 l3) := Lib.hid ⟨Z4.out, ⟨by simp, by simp, by simp, by simp, hpos0, hpos1, by simp, by simp, hz_xn, by simp, by simp⟩, S4.out.le, S4.out.cap, S4.out.tms.off (fun b _ hb => by have hb : b ≤ w.heap.size + 1 := hb; show b ≤ w4.heap.size; omega), P4.out, Y0.out.shrink X4.out hup, by omega, by omega⟩
  have u0 : W4.cell? ⟨w4.heap.size, 0, none⟩ = some (.int .u8 12) := S4.out.tm.eight.1
  have u1 : W4.cell? ⟨w4.heap.size, 1, none⟩ = some (.int .u8 0) := S4.out.tm.eight.2.1
  have u2 : W4.cell? ⟨w4.heap.size, 2, none⟩ = some (.int .i64 ps) := S4.out.tm.eight.2.2.1
  have u3 : W4.cell? ⟨w4.heap.size, 3, none⟩ = some (.int .i64 0) := S4.out.tm.eight.2.2.2.1
  have u4 : W4.cell? ⟨w4.heap.size, 4, none⟩ = some (.string xn) := S4.out.tm.eight.2.2.2.2.1
  have u5 : W4.cell? ⟨w4.heap.size, 5, none⟩ = some (.string ByteArray.empty) := S4.out.tm.eight.2.2.2.2.2.1
  have u6 : W4.cell? ⟨w4.heap.size, 6, none⟩ = some (.string ByteArray.empty) := S4.out.tm.eight.2.2.2.2.2.2.1
  have u7 : W4.cell? ⟨w4.heap.size, 7, none⟩ = some (.slice a1 2 c1) := S4.out.tm.eight.2.2.2.2.2.2.2
  obtain ⟨z0, z1, z2, z3, z4, z5, z6, z7⟩ := Z4.out.eight
  obtain ⟨g0, g1, g2, g3, g4, g5, g6, g7⟩ := Z4.out.frozen8
  have hlz := Z4.out.lt
  go_wp2_with fail
  exact HL.out.ret (fun w2 r0 r1 r2 r3 r4 r5 r6 r7 => by dsimp only at r0 r1 r2 r3 r4 r5 r6 r7; simp [results, Tryz.results31, go_sem, r0, r1, r2, r3, r4, r5, r6, r7]) rfl
end Go.Proofs.YtaioeailgknfjaaGreatDoor
namespace Go.Proofs.YtaioeailgknfjaaGreatDoor
open Go Go.RowKit Go.Sort

set_option maxRecDepth 8000 in
set_option maxHeartbeats 8000000 in
theorem parse_expr_letrec (f : Nat) (hE : Does 31 .expr f) (pb : Nat) (tk : Tk) (l0 : List Tk) (r : Res Tm) (w : World) (h : Prs w pb (tk :: l0)) (he : Ended (tk :: l0)) (hi : isT [w_letrec] (tk :: l0) = true) (hp : parseF (f + 1) .expr (tk :: l0) = some r) :
    Calls Tryz.prog 31 #[.pointer (some ⟨pb, 0, none⟩)] w (RetP pb w (IsNew w.heap.size) r) := by
  obtain ⟨tkk, s, ps⟩ := tk
  have hsx : s = w_letrec := isT_text hi
  subst hsx
  have hlt := h.lt
  have hfit := h.fits
  have hpos0 : -9223372036854775808 ≤ ps := hfit.p0
  have hpos1 : ps ≤ 9223372036854775807 := hfit.p1
  have hpm := hp
  unfold parseF at hpm
  rw [if_neg (by rw [isT_other (y := w_let) hi (by decide +kernel)]; simp)] at hpm
  rw [if_pos hi] at hpm
  simp only [List.tail_cons, posT] at hpm
  have hi5 : isT [w_let, w_letrec, w_fn, w_if, w_try] (⟨tkk, w_letrec, ps⟩ :: l0) = true := isT_mem (by simp) hi
  obtain ⟨hl0, he0⟩ := he.tail_ne (isT_kind hi)
  have q_let : (w_letrec.toList == ([108, 101, 116] : List UInt8)) = false := by rw [ByteArray.toList_eq]; rfl
  have q_letrec : (w_letrec.toList == ([108, 101, 116, 114, 101, 99] : List UInt8)) = true := by rw [ByteArray.toList_eq]; rfl
  have KI := Lib.hid fun W (x : Ext w W) (a : Option Addr) (hr : IsRow W (vstr [w_let, w_letrec, w_fn, w_if, w_try]) a 5) => parse_is [w_let, w_letrec, w_fn, w_if, w_try] pb ⟨tkk, w_letrec, ps⟩ l0 W a 5 5 (Nat.le_refl _) (by omega) hr (h.ext x)
  rw [hi5] at KI
  have KT := Lib.hid fun W (x : Ext w W) => parse_take pb ⟨tkk, w_letrec, ps⟩ l0 W (h.ext x)
  have HE := Lib.hid hE
  have HPM := Lib.hid hpm
  have HL0 := Lib.hid hl0
  have E0 := Lib.hid he0
  clear hp hpm h he hi hi5 hfit hE hl0 he0
  go_enter Tryz.func31, Tryz.ntmps31
  go_wp2_with fail
  refine (KI.out _ (by (exact eX)) _ (row_new2 w _ _ _ (vstr [w_let, w_letrec, w_fn, w_if, w_try]))).mono ?_
  rintro e w2 ⟨rfl, x2⟩
  have hP2 := blk_under2 x2
  have hZ2 := blk_under x2
  rw [World.size_alloc] at hZ2
  have y2 : Ext w w2 := by (exact eX)
  have p0 := hP2.cell 0
  simp at p0
  go_wp2_with fail
  refine (KT.out _ y2).mono ?_
  rintro e w3 ⟨rfl, x3, hp3⟩
  have P3 := hp3 HL0.out
  have hP3 := hP2.nez x3 (by omega)
  have hZ3 := hZ2.nez x3 (by omega)
  have y3 : ExtX (· = pb) w w3 := (ExtX.of y2).trans x3
  have HP3 := Lib.hid P3
  have HQ3 := Lib.hid hP3
  have HZ3 := Lib.hid hZ3
  have Y3 := Lib.hid y3
  clear x2 hP2 hZ2 y2 x3 hp3 P3 hP3 hZ3 y3 p0
  go_wp2_with fail
  refine (parse_node _ _ _ _ _ _).mono ?_
  rintro e w4 ⟨rfl, x4⟩
  have hT4 := blk_top x4
  have t1 := hT4.cell 1
  simp at t1
  have hlT := hT4.lt
  have y34 : Ext w3 w4 := by (exact eX)
  have hP4 := HQ3.out.ext y34
  have hZ4 := HZ3.out.ext y34
  have hs4 := hZ4.lt
  obtain ⟨b1, hb1⟩ : ∃ b1, b1 = w.heap.size := ⟨_, rfl⟩
  obtain ⟨bt, hbt⟩ : ∃ bt, bt = w4.heap.size := ⟨_, rfl⟩
  have hS := Sub8.start (x := (⟨0, 0, ps, 0, ByteArray.empty, ByteArray.empty, ByteArray.empty⟩ : Hd)) hP4 hlt
  obtain ⟨W0, hW0⟩ : ∃ W0, W0 = w4.alloc (.cells #[.int .u8 0, .int .u8 0, .int .i64 ps, .int .i64 0, .string ByteArray.empty, .string ByteArray.empty, .string ByteArray.empty, .slice none 0 0] 28) := ⟨_, rfl⟩
  have S0 : Hid (Sub8 pb w.heap.size w4.heap.size (⟨0, 0, ps, 0, ByteArray.empty, ByteArray.empty, ByteArray.empty⟩ : Hd) [] none 0 [] W0) := Lib.hid (by rw [hW0]; exact hS)
  have yW : Ext w4 W0 := by rw [hW0]; exact (Ext.refl _).alloc _
  have Z0 := Lib.hid (hZ4.ext yW)
  have P0 := Lib.hid (HP3.out.ext (y34.trans yW))
  have Y0 := Lib.hid (Y3.out.then_ (y34.trans yW))
  have X0 := Lib.hid (ExtX.refl (A := fun b => b = pb ∨ w4.heap.size ≤ b) W0)
  have hup : w.heap.size ≤ w4.heap.size := by omega
  clear hS hP4 hZ4 x4 hT4 y34 yW hb1 hbt
  go_upto_region 12 with fail
  rw [← hW0]
  clear t1 hW0
  have hpm := HPM.out
  have p0 := S0.out.ptr.cell 0
  simp at p0
  go_wp2_with fail
  refine (parse_name pb l0 _ P0.out E0.out).mono ?_
  intro e W1 hh
  clear p0
  cases hg : getK 2 l0 with
  | error l' =>
    rw [hg] at hh hpm
    cases hpm
    obtain ⟨rfl, x'⟩ := hh.error
    exact ⟨rfl, (Y0.out.shrink X0.out hup).trans x', rfl⟩
  | ok q =>
  obtain ⟨xn, l1⟩ := q
  rw [hg] at hh hpm
  rw [andThen_ok] at hpm
  obtain ⟨v, rfl, hv, hP, x'⟩ := hh.ok
  have hv : v = .string xn := hv
  subst hv
  have hz_xn : xn.size ≤ 9223372036854775807 := by
    obtain ⟨t, e, -, rfl⟩ := getK_inv (k := 2) (l := l0) (l' := l1) (x := xn) (by rw [hg])
    have := P0.out
    rw [e] at this
    exact this.fits.text1
  have E1 : Hid (Ended l1) := Lib.hid (by have := getK_behind E0.out (show (2 : Int) ≠ 6 by omega); rw [hg] at this; exact this.1)
  have S1 := Lib.hid (S0.out.extx x')
  have Z1 := Lib.hid (Z0.out.nez x' (by omega))
  have P1 := Lib.hid hP
  have X1 := Lib.hid (X0.out.trans (x'.mono (fun b hb => .inl hb)))
  clear hh hg hP x'
  obtain ⟨c0, c1, c2, c3, c4, c5, c6, c7⟩ := S1.out.tm.eight
  obtain ⟨f0, f1, f2, f3, f4, f5, f6, f7⟩ := S1.out.tm.frozen8
  have hlb := S1.out.tm.lt
  have hSn := ((S1.out.put 0 (.int .u8 13) (⟨13, 0, ps, 0, ByteArray.empty, ByteArray.empty, ByteArray.empty⟩ : Hd) (by simp)).put 4 (.string xn) (⟨13, 0, ps, 0, xn, ByteArray.empty, ByteArray.empty⟩ : Hd) (by simp))
  have hPn := ((P1.out.far (p := ⟨w4.heap.size, 0, none⟩) (by show pb < w4.heap.size; omega) (.int .u8 13)).far (p := ⟨w4.heap.size, 4, none⟩) (by show pb < w4.heap.size; omega) (.string xn))
  have hXn := ((X1.out.setCell (p := ⟨w4.heap.size, 0, none⟩) (.inl (.inr (Nat.le_refl _))) (.int .u8 13)).setCell (p := ⟨w4.heap.size, 4, none⟩) (.inl (.inr (Nat.le_refl _))) (.string xn))
  have hZn := ((Z1.out.far (p := ⟨w4.heap.size, 0, none⟩) (by show w.heap.size + 1 ≠ w4.heap.size; omega) (.int .u8 13)).far (p := ⟨w4.heap.size, 4, none⟩) (by show w.heap.size + 1 ≠ w4.heap.size; omega) (.string xn))
  obtain ⟨W2, hWn⟩ : ∃ Wn, Wn = ((W1.setCell ⟨w4.heap.size, 0, none⟩ (.int .u8 13)).setCell ⟨w4.heap.size, 4, none⟩ (.string xn)) := ⟨_, rfl⟩
  rw [← hWn] at hSn hPn hXn hZn
  go_upto_region 13 with fail
  rw [← hWn]
  have S2 := Lib.hid hSn
  have P2 := Lib.hid hPn
  have X2 := Lib.hid hXn
  have Z2 := Lib.hid hZn
  clear hSn hPn hXn hZn hWn c0 c1 c2 c3 c4 c5 c6 c7 f0 f1 f2 f3 f4 f5 f6 f7 hlb
  have p0 := S2.out.ptr.cell 0
  simp at p0
  go_wp2_with fail
  refine (parse_name pb l1 _ P2.out E1.out).mono ?_
  intro e W3 hh
  clear p0
  cases hg : getK 2 l1 with
  | error l' =>
    rw [hg] at hh hpm
    cases hpm
    obtain ⟨rfl, x'⟩ := hh.error
    exact ⟨rfl, (Y0.out.shrink X2.out hup).trans x', rfl⟩
  | ok q =>
  obtain ⟨xa, l2⟩ := q
  rw [hg] at hh hpm
  rw [andThen_ok] at hpm
  obtain ⟨v, rfl, hv, hP, x'⟩ := hh.ok
  have hv : v = .string xa := hv
  subst hv
  have hz_xa : xa.size ≤ 9223372036854775807 := by
    obtain ⟨t, e, -, rfl⟩ := getK_inv (k := 2) (l := l1) (l' := l2) (x := xa) (by rw [hg])
    have := P2.out
    rw [e] at this
    exact this.fits.text1
  have E2 : Hid (Ended l2) := Lib.hid (by have := getK_behind E1.out (show (2 : Int) ≠ 6 by omega); rw [hg] at this; exact this.1)
  have S3 := Lib.hid (S2.out.extx x')
  have Z3 := Lib.hid (Z2.out.nez x' (by omega))
  have P3 := Lib.hid hP
  have X3 := Lib.hid (X2.out.trans (x'.mono (fun b hb => .inl hb)))
  clear hh hg hP x'
  obtain ⟨c0, c1, c2, c3, c4, c5, c6, c7⟩ := S3.out.tm.eight
  obtain ⟨f0, f1, f2, f3, f4, f5, f6, f7⟩ := S3.out.tm.frozen8
  have hlb := S3.out.tm.lt
  have hSn := (S3.out.put 5 (.string xa) (⟨13, 0, ps, 0, xn, xa, ByteArray.empty⟩ : Hd) (by simp))
  have hPn := (P3.out.far (p := ⟨w4.heap.size, 5, none⟩) (by show pb < w4.heap.size; omega) (.string xa))
  have hXn := (X3.out.setCell (p := ⟨w4.heap.size, 5, none⟩) (.inl (.inr (Nat.le_refl _))) (.string xa))
  have hZn := (Z3.out.far (p := ⟨w4.heap.size, 5, none⟩) (by show w.heap.size + 1 ≠ w4.heap.size; omega) (.string xa))
  obtain ⟨W4, hWn⟩ : ∃ Wn, Wn = (W3.setCell ⟨w4.heap.size, 5, none⟩ (.string xa)) := ⟨_, rfl⟩
  rw [← hWn] at hSn hPn hXn hZn
  go_upto_region 14 with fail
  rw [← hWn]
  have S4 := Lib.hid hSn
  have P4 := Lib.hid hPn
  have X4 := Lib.hid hXn
  have Z4 := Lib.hid hZn
  clear hSn hPn hXn hZn hWn c0 c1 c2 c3 c4 c5 c6 c7 f0 f1 f2 f3 f4 f5 f6 f7 hlb
  rw [← andThen_assoc] at hpm
  cases eq0 : (andThen (some (getW s_eq l2)) fun _ l1 => parseF f .expr l1) with
  | none => rw [eq0] at hpm; cases hpm
  | some r0 =>
  rw [eq0] at hpm
  go_wp2_with fail
  refine (parse_sub1 f HE.out pb w.heap.size w4.heap.size (⟨13, 0, ps, 0, xn, xa, ByteArray.empty⟩ : Hd) [] none 0 [] l2 r0 _ s_eq _ (row_one0 W4 s_eq _) (S4.out.ext ((Ext.refl _).alloc _)) (by simp) (P4.out.alloc _) E2.out eq0).mono ?_
  intro e W5 hh
  cases r0 with
  | error l' =>
    cases hpm
    obtain ⟨x', he'⟩ := hh
    have he' : e = thrown l' := he'
    subst he'
    exact ⟨rfl, Y0.out.shrink ((X4.out.alloc _).trans x') hup, rfl⟩
  | ok q =>
  obtain ⟨t0, l3⟩ := q
  rw [andThen_ok] at hpm
  obtain ⟨x', he', hP, a0, c0, xs0, hS⟩ := hh
  have he' : e = .returned (.tuple #[]) := he'
  subst he'
  have S5 : Hid (Sub8 pb w.heap.size w4.heap.size (⟨13, 0, ps, 0, xn, xa, ByteArray.empty⟩ : Hd) [t0] a0 c0 xs0 W5) := Lib.hid hS
  have E3 := Lib.hid (sub_ended E2.out eq0)
  have Z5 := Lib.hid ((Z4.out.alloc _).extx x' (show ¬ (w.heap.size + 1 = pb ∨ w4.heap.size ≤ w.heap.size + 1) by omega))
  have P5 := Lib.hid hP
  have X5 := Lib.hid ((X4.out.alloc _).trans x')
  clear eq0 hP x' hS
  rw [← andThen_assoc] at hpm
  cases eq1 : (andThen (some (getW w_in l3)) fun _ l1 => parseF f .expr l1) with
  | none => rw [eq1] at hpm; cases hpm
  | some r1 =>
  rw [eq1] at hpm
  go_wp2_with fail
  refine (parse_sub1 f HE.out pb w.heap.size w4.heap.size (⟨13, 0, ps, 0, xn, xa, ByteArray.empty⟩ : Hd) [t0] a0 c0 xs0 l3 r1 _ w_in _ (row_one0 W5 w_in _) (S5.out.ext ((Ext.refl _).alloc _)) (by simp) (P5.out.alloc _) E3.out eq1).mono ?_
  intro e W6 hh
  cases r1 with
  | error l' =>
    cases hpm
    obtain ⟨x', he'⟩ := hh
    have he' : e = thrown l' := he'
    subst he'
    exact ⟨rfl, Y0.out.shrink ((X5.out.alloc _).trans x') hup, rfl⟩
  | ok q =>
  obtain ⟨t1, l4⟩ := q
  rw [andThen_ok] at hpm
  obtain ⟨x', he', hP, a1, c1, xs1, hS⟩ := hh
  have he' : e = .returned (.tuple #[]) := he'
  subst he'
  have S6 : Hid (Sub8 pb w.heap.size w4.heap.size (⟨13, 0, ps, 0, xn, xa, ByteArray.empty⟩ : Hd) [t0, t1] a1 c1 xs1 W6) := Lib.hid hS
  have E4 := Lib.hid (sub_ended E3.out eq1)
  have Z6 := Lib.hid ((Z5.out.alloc _).extx x' (show ¬ (w.heap.size + 1 = pb ∨ w4.heap.size ≤ w.heap.size + 1) by omega))
  have P6 := Lib.hid hP
  have X6 := Lib.hid ((X5.out.alloc _).trans x')
  clear eq1 hP x' hS
  have hr : r = .ok (.mk (⟨13, 0, ps, 0, xn, xa, ByteArray.empty⟩ : Hd) [t0, t1], l4) := by
    cases hpm
    rfl
  subst hr
  clear hpm
  have HL : Hid (LaidE pb (w.heap.size + 1) w W6 (⟨13, 0, ps, 0, xn, xa, ByteArray.empty⟩ : Hd) [t0, t1] a1 2 c1 l4) := Lib.hid ⟨Z6.out, ⟨by simp, by simp, by simp, by simp, hpos0, hpos1, by simp, by simp, hz_xn, hz_xa, by simp⟩, S6.out.le, S6.out.cap, S6.out.tms.off (fun b _ hb => by have hb : b ≤ w.heap.size + 1 := hb; show b ≤ w4.heap.size; omega), P6.out, Y0.out.shrink X6.out hup, by omega, by omega⟩
  have u0 : W6.cell? ⟨w4.heap.size, 0, none⟩ = some (.int .u8 13) := S6.out.tm.eight.1
  have u1 : W6.cell? ⟨w4.heap.size, 1, none⟩ = some (.int .u8 0) := S6.out.tm.eight.2.1
  have u2 : W6.cell? ⟨w4.heap.size, 2, none⟩ = some (.int .i64 ps) := S6.out.tm.eight.2.2.1
  have u3 : W6.cell? ⟨w4.heap.size, 3, none⟩ = some (.int .i64 0) := S6.out.tm.eight.2.2.2.1
  have u4 : W6.cell? ⟨w4.heap.size, 4, none⟩ = some (.string xn) := S6.out.tm.eight.2.2.2.2.1
  have u5 : W6.cell? ⟨w4.heap.size, 5, none⟩ = some (.string xa) := S6.out.tm.eight.2.2.2.2.2.1
  have u6 : W6.cell? ⟨w4.heap.size, 6, none⟩ = some (.string ByteArray.empty) := S6.out.tm.eight.2.2.2.2.2.2.1
  have u7 : W6.cell? ⟨w4.heap.size, 7, none⟩ = some (.slice a1 2 c1) := S6.out.tm.eight.2.2.2.2.2.2.2
  obtain ⟨z0, z1, z2, z3, z4, z5, z6, z7⟩ := Z6.out.eight
  obtain ⟨g0, g1, g2, g3, g4, g5, g6, g7⟩ := Z6.out.frozen8
  have hlz := Z6.out.lt
  go_wp2_with fail
  exact HL.out.ret (fun w2 r0 r1 r2 r3 r4 r5 r6 r7 => by dsimp only at r0 r1 r2 r3 r4 r5 r6 r7; simp [results, Tryz.results31, go_sem, r0, r1, r2, r3, r4, r5, r6, r7]) rfl
end Go.Proofs.YtaioeailgknfjaaGreatDoor

/- The walk of parse.expr: fn. The walk of parse.expr: if. -/
namespace Go.Proofs.YtaioeailgknfjaaGreatDoor
open Go Go.RowKit Go.Sort

set_option maxRecDepth 8000 in
set_option maxHeartbeats 8000000 in
theorem parse_expr_fn (f : Nat) (hE : Does 31 .expr f) (pb : Nat) (tk : Tk) (l0 : List Tk) (r : Res Tm) (w : World) (h : Prs w pb (tk :: l0)) (he : Ended (tk :: l0)) (hi : isT [w_fn] (tk :: l0) = true) (hp : parseF (f + 1) .expr (tk :: l0) = some r) :
    Calls Tryz.prog 31 #[.pointer (some ⟨pb, 0, none⟩)] w (RetP pb w (IsNew w.heap.size) r) := by
  obtain ⟨tkk, s, ps⟩ := tk
  have hsx : s = w_fn := isT_text hi
  subst hsx
  have hlt := h.lt
  have hfit := h.fits
  have hpos0 : -9223372036854775808 ≤ ps := hfit.p0
  have hpos1 : ps ≤ 9223372036854775807 := hfit.p1
  have hpm := hp
  unfold parseF at hpm
  rw [if_neg (by rw [isT_other (y := w_let) hi (by decide +kernel)]; simp)] at hpm
  rw [if_neg (by rw [isT_other (y := w_letrec) hi (by decide +kernel)]; simp)] at hpm
  rw [if_pos hi] at hpm
  simp only [List.tail_cons, posT] at hpm
  have hi5 : isT [w_let, w_letrec, w_fn, w_if, w_try] (⟨tkk, w_fn, ps⟩ :: l0) = true := isT_mem (by simp) hi
  obtain ⟨hl0, he0⟩ := he.tail_ne (isT_kind hi)
  have q_let : (w_fn.toList == ([108, 101, 116] : List UInt8)) = false := by rw [ByteArray.toList_eq]; rfl
  have q_letrec : (w_fn.toList == ([108, 101, 116, 114, 101, 99] : List UInt8)) = false := by rw [ByteArray.toList_eq]; rfl
  have q_fn : (w_fn.toList == ([102, 110] : List UInt8)) = true := by rw [ByteArray.toList_eq]; rfl
  have KI := Lib.hid fun W (x : Ext w W) (a : Option Addr) (hr : IsRow W (vstr [w_let, w_letrec, w_fn, w_if, w_try]) a 5) => parse_is [w_let, w_letrec, w_fn, w_if, w_try] pb ⟨tkk, w_fn, ps⟩ l0 W a 5 5 (Nat.le_refl _) (by omega) hr (h.ext x)
  rw [hi5] at KI
  have KT := Lib.hid fun W (x : Ext w W) => parse_take pb ⟨tkk, w_fn, ps⟩ l0 W (h.ext x)
  have HE := Lib.hid hE
  have HPM := Lib.hid hpm
  have HL0 := Lib.hid hl0
  have E0 := Lib.hid he0
  clear hp hpm h he hi hi5 hfit hE hl0 he0
  go_enter Tryz.func31, Tryz.ntmps31
  go_wp2_with fail
  refine (KI.out _ (by (exact eX)) _ (row_new2 w _ _ _ (vstr [w_let, w_letrec, w_fn, w_if, w_try]))).mono ?_
  rintro e w2 ⟨rfl, x2⟩
  have hP2 := blk_under2 x2
  have hZ2 := blk_under x2
  rw [World.size_alloc] at hZ2
  have y2 : Ext w w2 := by (exact eX)
  have p0 := hP2.cell 0
  simp at p0
  go_wp2_with fail
  refine (KT.out _ y2).mono ?_
  rintro e w3 ⟨rfl, x3, hp3⟩
  have P3 := hp3 HL0.out
  have hP3 := hP2.nez x3 (by omega)
  have hZ3 := hZ2.nez x3 (by omega)
  have y3 : ExtX (· = pb) w w3 := (ExtX.of y2).trans x3
  have HP3 := Lib.hid P3
  have HQ3 := Lib.hid hP3
  have HZ3 := Lib.hid hZ3
  have Y3 := Lib.hid y3
  clear x2 hP2 hZ2 y2 x3 hp3 P3 hP3 hZ3 y3 p0
  go_wp2_with fail
  refine (parse_node _ _ _ _ _ _).mono ?_
  rintro e w4 ⟨rfl, x4⟩
  have hT4 := blk_top x4
  have t1 := hT4.cell 1
  simp at t1
  have hlT := hT4.lt
  have y34 : Ext w3 w4 := by (exact eX)
  have hP4 := HQ3.out.ext y34
  have hZ4 := HZ3.out.ext y34
  have hs4 := hZ4.lt
  obtain ⟨b1, hb1⟩ : ∃ b1, b1 = w.heap.size := ⟨_, rfl⟩
  obtain ⟨bt, hbt⟩ : ∃ bt, bt = w4.heap.size := ⟨_, rfl⟩
  have hS := Sub8.start (x := (⟨0, 0, ps, 0, ByteArray.empty, ByteArray.empty, ByteArray.empty⟩ : Hd)) hP4 hlt
  obtain ⟨W0, hW0⟩ : ∃ W0, W0 = w4.alloc (.cells #[.int .u8 0, .int .u8 0, .int .i64 ps, .int .i64 0, .string ByteArray.empty, .string ByteArray.empty, .string ByteArray.empty, .slice none 0 0] 28) := ⟨_, rfl⟩
  have S0 : Hid (Sub8 pb w.heap.size w4.heap.size (⟨0, 0, ps, 0, ByteArray.empty, ByteArray.empty, ByteArray.empty⟩ : Hd) [] none 0 [] W0) := Lib.hid (by rw [hW0]; exact hS)
  have yW : Ext w4 W0 := by rw [hW0]; exact (Ext.refl _).alloc _
  have Z0 := Lib.hid (hZ4.ext yW)
  have P0 := Lib.hid (HP3.out.ext (y34.trans yW))
  have Y0 := Lib.hid (Y3.out.then_ (y34.trans yW))
  have X0 := Lib.hid (ExtX.refl (A := fun b => b = pb ∨ w4.heap.size ≤ b) W0)
  have hup : w.heap.size ≤ w4.heap.size := by omega
  clear hS hP4 hZ4 x4 hT4 y34 yW hb1 hbt
  go_upto_region 17 with fail
  rw [← hW0]
  clear t1 hW0
  have hpm := HPM.out
  have p0 := S0.out.ptr.cell 0
  simp at p0
  go_wp2_with fail
  refine (parse_name pb l0 _ P0.out E0.out).mono ?_
  intro e W1 hh
  clear p0
  cases hg : getK 2 l0 with
  | error l' =>
    rw [hg] at hh hpm
    cases hpm
    obtain ⟨rfl, x'⟩ := hh.error
    exact ⟨rfl, (Y0.out.shrink X0.out hup).trans x', rfl⟩
  | ok q =>
  obtain ⟨xa, l1⟩ := q
  rw [hg] at hh hpm
  rw [andThen_ok] at hpm
  obtain ⟨v, rfl, hv, hP, x'⟩ := hh.ok
  have hv : v = .string xa := hv
  subst hv
  have hz_xa : xa.size ≤ 9223372036854775807 := by
    obtain ⟨t, e, -, rfl⟩ := getK_inv (k := 2) (l := l0) (l' := l1) (x := xa) (by rw [hg])
    have := P0.out
    rw [e] at this
    exact this.fits.text1
  have E1 : Hid (Ended l1) := Lib.hid (by have := getK_behind E0.out (show (2 : Int) ≠ 6 by omega); rw [hg] at this; exact this.1)
  have S1 := Lib.hid (S0.out.extx x')
  have Z1 := Lib.hid (Z0.out.nez x' (by omega))
  have P1 := Lib.hid hP
  have X1 := Lib.hid (X0.out.trans (x'.mono (fun b hb => .inl hb)))
  clear hh hg hP x'
  obtain ⟨c0, c1, c2, c3, c4, c5, c6, c7⟩ := S1.out.tm.eight
  obtain ⟨f0, f1, f2, f3, f4, f5, f6, f7⟩ := S1.out.tm.frozen8
  have hlb := S1.out.tm.lt
  have hSn := ((S1.out.put 0 (.int .u8 11) (⟨11, 0, ps, 0, ByteArray.empty, ByteArray.empty, ByteArray.empty⟩ : Hd) (by simp)).put 5 (.string xa) (⟨11, 0, ps, 0, ByteArray.empty, xa, ByteArray.empty⟩ : Hd) (by simp))
  have hPn := ((P1.out.far (p := ⟨w4.heap.size, 0, none⟩) (by show pb < w4.heap.size; omega) (.int .u8 11)).far (p := ⟨w4.heap.size, 5, none⟩) (by show pb < w4.heap.size; omega) (.string xa))
  have hXn := ((X1.out.setCell (p := ⟨w4.heap.size, 0, none⟩) (.inl (.inr (Nat.le_refl _))) (.int .u8 11)).setCell (p := ⟨w4.heap.size, 5, none⟩) (.inl (.inr (Nat.le_refl _))) (.string xa))
  have hZn := ((Z1.out.far (p := ⟨w4.heap.size, 0, none⟩) (by show w.heap.size + 1 ≠ w4.heap.size; omega) (.int .u8 11)).far (p := ⟨w4.heap.size, 5, none⟩) (by show w.heap.size + 1 ≠ w4.heap.size; omega) (.string xa))
  obtain ⟨W2, hWn⟩ : ∃ Wn, Wn = ((W1.setCell ⟨w4.heap.size, 0, none⟩ (.int .u8 11)).setCell ⟨w4.heap.size, 5, none⟩ (.string xa)) := ⟨_, rfl⟩
  rw [← hWn] at hSn hPn hXn hZn
  go_upto_region 18 with fail
  rw [← hWn]
  have S2 := Lib.hid hSn
  have P2 := Lib.hid hPn
  have X2 := Lib.hid hXn
  have Z2 := Lib.hid hZn
  clear hSn hPn hXn hZn hWn c0 c1 c2 c3 c4 c5 c6 c7 f0 f1 f2 f3 f4 f5 f6 f7 hlb
  rw [← andThen_assoc] at hpm
  cases eq0 : (andThen (some (getW s_to l1)) fun _ l1 => parseF f .expr l1) with
  | none => rw [eq0] at hpm; cases hpm
  | some r0 =>
  rw [eq0] at hpm
  go_wp2_with fail
  refine (parse_sub1 f HE.out pb w.heap.size w4.heap.size (⟨11, 0, ps, 0, ByteArray.empty, xa, ByteArray.empty⟩ : Hd) [] none 0 [] l1 r0 _ s_to _ (row_one0 W2 s_to _) (S2.out.ext ((Ext.refl _).alloc _)) (by simp) (P2.out.alloc _) E1.out eq0).mono ?_
  intro e W3 hh
  cases r0 with
  | error l' =>
    cases hpm
    obtain ⟨x', he'⟩ := hh
    have he' : e = thrown l' := he'
    subst he'
    exact ⟨rfl, Y0.out.shrink ((X2.out.alloc _).trans x') hup, rfl⟩
  | ok q =>
  obtain ⟨t0, l2⟩ := q
  rw [andThen_ok] at hpm
  obtain ⟨x', he', hP, a0, c0, xs0, hS⟩ := hh
  have he' : e = .returned (.tuple #[]) := he'
  subst he'
  have S3 : Hid (Sub8 pb w.heap.size w4.heap.size (⟨11, 0, ps, 0, ByteArray.empty, xa, ByteArray.empty⟩ : Hd) [t0] a0 c0 xs0 W3) := Lib.hid hS
  have E2 := Lib.hid (sub_ended E1.out eq0)
  have Z3 := Lib.hid ((Z2.out.alloc _).extx x' (show ¬ (w.heap.size + 1 = pb ∨ w4.heap.size ≤ w.heap.size + 1) by omega))
  have P3 := Lib.hid hP
  have X3 := Lib.hid ((X2.out.alloc _).trans x')
  clear eq0 hP x' hS
  have hr : r = .ok (.mk (⟨11, 0, ps, 0, ByteArray.empty, xa, ByteArray.empty⟩ : Hd) [t0], l2) := by
    cases hpm
    rfl
  subst hr
  clear hpm
  have HL : Hid (LaidE pb (w.heap.size + 1) w W3 (⟨11, 0, ps, 0, ByteArray.empty, xa, ByteArray.empty⟩ : Hd) [t0] a0 1 c0 l2) := Lib.hid ⟨Z3.out, ⟨by simp, by simp, by simp, by simp, hpos0, hpos1, by simp, by simp, by simp, hz_xa, by simp⟩, S3.out.le, S3.out.cap, S3.out.tms.off (fun b _ hb => by have hb : b ≤ w.heap.size + 1 := hb; show b ≤ w4.heap.size; omega), P3.out, Y0.out.shrink X3.out hup, by omega, by omega⟩
  have u0 : W3.cell? ⟨w4.heap.size, 0, none⟩ = some (.int .u8 11) := S3.out.tm.eight.1
  have u1 : W3.cell? ⟨w4.heap.size, 1, none⟩ = some (.int .u8 0) := S3.out.tm.eight.2.1
  have u2 : W3.cell? ⟨w4.heap.size, 2, none⟩ = some (.int .i64 ps) := S3.out.tm.eight.2.2.1
  have u3 : W3.cell? ⟨w4.heap.size, 3, none⟩ = some (.int .i64 0) := S3.out.tm.eight.2.2.2.1
  have u4 : W3.cell? ⟨w4.heap.size, 4, none⟩ = some (.string ByteArray.empty) := S3.out.tm.eight.2.2.2.2.1
  have u5 : W3.cell? ⟨w4.heap.size, 5, none⟩ = some (.string xa) := S3.out.tm.eight.2.2.2.2.2.1
  have u6 : W3.cell? ⟨w4.heap.size, 6, none⟩ = some (.string ByteArray.empty) := S3.out.tm.eight.2.2.2.2.2.2.1
  have u7 : W3.cell? ⟨w4.heap.size, 7, none⟩ = some (.slice a0 1 c0) := S3.out.tm.eight.2.2.2.2.2.2.2
  obtain ⟨z0, z1, z2, z3, z4, z5, z6, z7⟩ := Z3.out.eight
  obtain ⟨g0, g1, g2, g3, g4, g5, g6, g7⟩ := Z3.out.frozen8
  have hlz := Z3.out.lt
  go_wp2_with fail
  exact HL.out.ret (fun w2 r0 r1 r2 r3 r4 r5 r6 r7 => by dsimp only at r0 r1 r2 r3 r4 r5 r6 r7; simp [results, Tryz.results31, go_sem, r0, r1, r2, r3, r4, r5, r6, r7]) rfl
end Go.Proofs.YtaioeailgknfjaaGreatDoor
namespace Go.Proofs.YtaioeailgknfjaaGreatDoor
open Go Go.RowKit Go.Sort

set_option maxRecDepth 8000 in
set_option maxHeartbeats 8000000 in
theorem parse_expr_if (f : Nat) (hE : Does 31 .expr f) (pb : Nat) (tk : Tk) (l0 : List Tk) (r : Res Tm) (w : World) (h : Prs w pb (tk :: l0)) (he : Ended (tk :: l0)) (hi : isT [w_if] (tk :: l0) = true) (hp : parseF (f + 1) .expr (tk :: l0) = some r) :
    Calls Tryz.prog 31 #[.pointer (some ⟨pb, 0, none⟩)] w (RetP pb w (IsNew w.heap.size) r) := by
  obtain ⟨tkk, s, ps⟩ := tk
  have hsx : s = w_if := isT_text hi
  subst hsx
  have hlt := h.lt
  have hfit := h.fits
  have hpos0 : -9223372036854775808 ≤ ps := hfit.p0
  have hpos1 : ps ≤ 9223372036854775807 := hfit.p1
  have hpm := hp
  unfold parseF at hpm
  rw [if_neg (by rw [isT_other (y := w_let) hi (by decide +kernel)]; simp)] at hpm
  rw [if_neg (by rw [isT_other (y := w_letrec) hi (by decide +kernel)]; simp)] at hpm
  rw [if_neg (by rw [isT_other (y := w_fn) hi (by decide +kernel)]; simp)] at hpm
  rw [if_pos hi] at hpm
  simp only [List.tail_cons, posT] at hpm
  have hi5 : isT [w_let, w_letrec, w_fn, w_if, w_try] (⟨tkk, w_if, ps⟩ :: l0) = true := isT_mem (by simp) hi
  obtain ⟨hl0, he0⟩ := he.tail_ne (isT_kind hi)
  have q_let : (w_if.toList == ([108, 101, 116] : List UInt8)) = false := by rw [ByteArray.toList_eq]; rfl
  have q_letrec : (w_if.toList == ([108, 101, 116, 114, 101, 99] : List UInt8)) = false := by rw [ByteArray.toList_eq]; rfl
  have q_fn : (w_if.toList == ([102, 110] : List UInt8)) = false := by rw [ByteArray.toList_eq]; rfl
  have q_if : (w_if.toList == ([105, 102] : List UInt8)) = true := by rw [ByteArray.toList_eq]; rfl
  have KI := Lib.hid fun W (x : Ext w W) (a : Option Addr) (hr : IsRow W (vstr [w_let, w_letrec, w_fn, w_if, w_try]) a 5) => parse_is [w_let, w_letrec, w_fn, w_if, w_try] pb ⟨tkk, w_if, ps⟩ l0 W a 5 5 (Nat.le_refl _) (by omega) hr (h.ext x)
  rw [hi5] at KI
  have KT := Lib.hid fun W (x : Ext w W) => parse_take pb ⟨tkk, w_if, ps⟩ l0 W (h.ext x)
  have HE := Lib.hid hE
  have HPM := Lib.hid hpm
  have HL0 := Lib.hid hl0
  have E0 := Lib.hid he0
  clear hp hpm h he hi hi5 hfit hE hl0 he0
  go_enter Tryz.func31, Tryz.ntmps31
  go_wp2_with fail
  refine (KI.out _ (by (exact eX)) _ (row_new2 w _ _ _ (vstr [w_let, w_letrec, w_fn, w_if, w_try]))).mono ?_
  rintro e w2 ⟨rfl, x2⟩
  have hP2 := blk_under2 x2
  have hZ2 := blk_under x2
  rw [World.size_alloc] at hZ2
  have y2 : Ext w w2 := by (exact eX)
  have p0 := hP2.cell 0
  simp at p0
  go_wp2_with fail
  refine (KT.out _ y2).mono ?_
  rintro e w3 ⟨rfl, x3, hp3⟩
  have P3 := hp3 HL0.out
  have hP3 := hP2.nez x3 (by omega)
  have hZ3 := hZ2.nez x3 (by omega)
  have y3 : ExtX (· = pb) w w3 := (ExtX.of y2).trans x3
  have HP3 := Lib.hid P3
  have HQ3 := Lib.hid hP3
  have HZ3 := Lib.hid hZ3
  have Y3 := Lib.hid y3
  clear x2 hP2 hZ2 y2 x3 hp3 P3 hP3 hZ3 y3 p0
  go_wp2_with fail
  refine (parse_node _ _ _ _ _ _).mono ?_
  rintro e w4 ⟨rfl, x4⟩
  have hT4 := blk_top x4
  have t1 := hT4.cell 1
  simp at t1
  have hlT := hT4.lt
  have y34 : Ext w3 w4 := by (exact eX)
  have hP4 := HQ3.out.ext y34
  have hZ4 := HZ3.out.ext y34
  have hs4 := hZ4.lt
  obtain ⟨b1, hb1⟩ : ∃ b1, b1 = w.heap.size := ⟨_, rfl⟩
  obtain ⟨bt, hbt⟩ : ∃ bt, bt = w4.heap.size := ⟨_, rfl⟩
  have hS := Sub8.start (x := (⟨0, 0, ps, 0, ByteArray.empty, ByteArray.empty, ByteArray.empty⟩ : Hd)) hP4 hlt
  obtain ⟨W0, hW0⟩ : ∃ W0, W0 = w4.alloc (.cells #[.int .u8 0, .int .u8 0, .int .i64 ps, .int .i64 0, .string ByteArray.empty, .string ByteArray.empty, .string ByteArray.empty, .slice none 0 0] 28) := ⟨_, rfl⟩
  have S0 : Hid (Sub8 pb w.heap.size w4.heap.size (⟨0, 0, ps, 0, ByteArray.empty, ByteArray.empty, ByteArray.empty⟩ : Hd) [] none 0 [] W0) := Lib.hid (by rw [hW0]; exact hS)
  have yW : Ext w4 W0 := by rw [hW0]; exact (Ext.refl _).alloc _
  have Z0 := Lib.hid (hZ4.ext yW)
  have P0 := Lib.hid (HP3.out.ext (y34.trans yW))
  have Y0 := Lib.hid (Y3.out.then_ (y34.trans yW))
  have X0 := Lib.hid (ExtX.refl (A := fun b => b = pb ∨ w4.heap.size ≤ b) W0)
  have hup : w.heap.size ≤ w4.heap.size := by omega
  clear hS hP4 hZ4 x4 hT4 y34 yW hb1 hbt
  go_upto_region 20 with fail
  rw [← hW0]
  clear t1 hW0
  have hpm := HPM.out
  obtain ⟨c0, c1, c2, c3, c4, c5, c6, c7⟩ := S0.out.tm.eight
  obtain ⟨f0, f1, f2, f3, f4, f5, f6, f7⟩ := S0.out.tm.frozen8
  have hlb := S0.out.tm.lt
  have hSn := (S0.out.put 0 (.int .u8 14) (⟨14, 0, ps, 0, ByteArray.empty, ByteArray.empty, ByteArray.empty⟩ : Hd) (by simp))
  have hPn := (P0.out.far (p := ⟨w4.heap.size, 0, none⟩) (by show pb < w4.heap.size; omega) (.int .u8 14))
  have hXn := (X0.out.setCell (p := ⟨w4.heap.size, 0, none⟩) (.inl (.inr (Nat.le_refl _))) (.int .u8 14))
  have hZn := (Z0.out.far (p := ⟨w4.heap.size, 0, none⟩) (by show w.heap.size + 1 ≠ w4.heap.size; omega) (.int .u8 14))
  obtain ⟨W1, hWn⟩ : ∃ Wn, Wn = (W0.setCell ⟨w4.heap.size, 0, none⟩ (.int .u8 14)) := ⟨_, rfl⟩
  rw [← hWn] at hSn hPn hXn hZn
  go_upto_region 21 with fail
  rw [← hWn]
  have S1 := Lib.hid hSn
  have P1 := Lib.hid hPn
  have X1 := Lib.hid hXn
  have Z1 := Lib.hid hZn
  clear hSn hPn hXn hZn hWn c0 c1 c2 c3 c4 c5 c6 c7 f0 f1 f2 f3 f4 f5 f6 f7 hlb
  cases eq0 : (parseF f .expr l0) with
  | none => rw [eq0] at hpm; cases hpm
  | some r0 =>
  rw [eq0] at hpm
  go_wp2_with fail
  refine (parse_sub0 f HE.out pb w.heap.size w4.heap.size (⟨14, 0, ps, 0, ByteArray.empty, ByteArray.empty, ByteArray.empty⟩ : Hd) [] none 0 [] l0 r0 _ S1.out (by simp) P1.out E0.out eq0).mono ?_
  intro e W2 hh
  cases r0 with
  | error l' =>
    cases hpm
    obtain ⟨x', he'⟩ := hh
    have he' : e = thrown l' := he'
    subst he'
    exact ⟨rfl, Y0.out.shrink (X1.out.trans x') hup, rfl⟩
  | ok q =>
  obtain ⟨t0, l1⟩ := q
  rw [andThen_ok] at hpm
  obtain ⟨x', he', hP, a0, c0, xs0, hS⟩ := hh
  have he' : e = .returned (.tuple #[]) := he'
  subst he'
  have S2 : Hid (Sub8 pb w.heap.size w4.heap.size (⟨14, 0, ps, 0, ByteArray.empty, ByteArray.empty, ByteArray.empty⟩ : Hd) [t0] a0 c0 xs0 W2) := Lib.hid hS
  have E1 := Lib.hid (sub_ended0 E0.out eq0)
  have Z2 := Lib.hid (Z1.out.extx x' (show ¬ (w.heap.size + 1 = pb ∨ w4.heap.size ≤ w.heap.size + 1) by omega))
  have P2 := Lib.hid hP
  have X2 := Lib.hid (X1.out.trans x')
  clear eq0 hP x' hS
  rw [← andThen_assoc] at hpm
  cases eq1 : (andThen (some (getW w_then l1)) fun _ l1 => parseF f .expr l1) with
  | none => rw [eq1] at hpm; cases hpm
  | some r1 =>
  rw [eq1] at hpm
  go_wp2_with fail
  refine (parse_sub1 f HE.out pb w.heap.size w4.heap.size (⟨14, 0, ps, 0, ByteArray.empty, ByteArray.empty, ByteArray.empty⟩ : Hd) [t0] a0 c0 xs0 l1 r1 _ w_then _ (row_one0 W2 w_then _) (S2.out.ext ((Ext.refl _).alloc _)) (by simp) (P2.out.alloc _) E1.out eq1).mono ?_
  intro e W3 hh
  cases r1 with
  | error l' =>
    cases hpm
    obtain ⟨x', he'⟩ := hh
    have he' : e = thrown l' := he'
    subst he'
    exact ⟨rfl, Y0.out.shrink ((X2.out.alloc _).trans x') hup, rfl⟩
  | ok q =>
  obtain ⟨t1, l2⟩ := q
  rw [andThen_ok] at hpm
  obtain ⟨x', he', hP, a1, c1, xs1, hS⟩ := hh
  have he' : e = .returned (.tuple #[]) := he'
  subst he'
  have S3 : Hid (Sub8 pb w.heap.size w4.heap.size (⟨14, 0, ps, 0, ByteArray.empty, ByteArray.empty, ByteArray.empty⟩ : Hd) [t0, t1] a1 c1 xs1 W3) := Lib.hid hS
  have E2 := Lib.hid (sub_ended E1.out eq1)
  have Z3 := Lib.hid ((Z2.out.alloc _).extx x' (show ¬ (w.heap.size + 1 = pb ∨ w4.heap.size ≤ w.heap.size + 1) by omega))
  have P3 := Lib.hid hP
  have X3 := Lib.hid ((X2.out.alloc _).trans x')
  clear eq1 hP x' hS
  rw [← andThen_assoc] at hpm
  cases eq2 : (andThen (some (getW w_else l2)) fun _ l1 => parseF f .expr l1) with
  | none => rw [eq2] at hpm; cases hpm
  | some r2 =>
  rw [eq2] at hpm
  go_wp2_with fail
  refine (parse_sub1 f HE.out pb w.heap.size w4.heap.size (⟨14, 0, ps, 0, ByteArray.empty, ByteArray.empty, ByteArray.empty⟩ : Hd) [t0, t1] a1 c1 xs1 l2 r2 _ w_else _ (row_one0 W3 w_else _) (S3.out.ext ((Ext.refl _).alloc _)) (by simp) (P3.out.alloc _) E2.out eq2).mono ?_
  intro e W4 hh
  cases r2 with
  | error l' =>
    cases hpm
    obtain ⟨x', he'⟩ := hh
    have he' : e = thrown l' := he'
    subst he'
    exact ⟨rfl, Y0.out.shrink ((X3.out.alloc _).trans x') hup, rfl⟩
  | ok q =>
  obtain ⟨t2, l3⟩ := q
  rw [andThen_ok] at hpm
  obtain ⟨x', he', hP, a2, c2, xs2, hS⟩ := hh
  have he' : e = .returned (.tuple #[]) := he'
  subst he'
  have S4 : Hid (Sub8 pb w.heap.size w4.heap.size (⟨14, 0, ps, 0, ByteArray.empty, ByteArray.empty, ByteArray.empty⟩ : Hd) [t0, t1, t2] a2 c2 xs2 W4) := Lib.hid hS
  have E3 := Lib.hid (sub_ended E2.out eq2)
  have Z4 := Lib.hid ((Z3.out.alloc _).extx x' (show ¬ (w.heap.size + 1 = pb ∨ w4.heap.size ≤ w.heap.size + 1) by omega))
  have P4 := Lib.hid hP
  have X4 := Lib.hid ((X3.out.alloc _).trans x')
  clear eq2 hP x' hS
  have hr : r = .ok (.mk (⟨14, 0, ps, 0, ByteArray.empty, ByteArray.empty, ByteArray.empty⟩ : Hd) [t0, t1, t2], l3) := by
    cases hpm
    rfl
  subst hr
  clear hpm
  have HL : Hid (LaidE pb (w.heap.size + 1) w W4 (⟨14, 0, ps, 0, ByteArray.empty, ByteArray.empty, ByteArray.empty⟩ : Hd) [t0, t1, t2] a2 3 c2 l3) := Lib.hid ⟨Z4.out, ⟨by simp, by simp, by simp, by simp, hpos0, hpos1, by simp, by simp, by simp, by simp, by simp⟩, S4.out.le, S4.out.cap, S4.out.tms.off (fun b _ hb => by have hb : b ≤ w.heap.size + 1 := hb; show b ≤ w4.heap.size; omega), P4.out, Y0.out.shrink X4.out hup, by omega, by omega⟩
  have u0 : W4.cell? ⟨w4.heap.size, 0, none⟩ = some (.int .u8 14) := S4.out.tm.eight.1
  have u1 : W4.cell? ⟨w4.heap.size, 1, none⟩ = some (.int .u8 0) := S4.out.tm.eight.2.1
  have u2 : W4.cell? ⟨w4.heap.size, 2, none⟩ = some (.int .i64 ps) := S4.out.tm.eight.2.2.1
  have u3 : W4.cell? ⟨w4.heap.size, 3, none⟩ = some (.int .i64 0) := S4.out.tm.eight.2.2.2.1
  have u4 : W4.cell? ⟨w4.heap.size, 4, none⟩ = some (.string ByteArray.empty) := S4.out.tm.eight.2.2.2.2.1
  have u5 : W4.cell? ⟨w4.heap.size, 5, none⟩ = some (.string ByteArray.empty) := S4.out.tm.eight.2.2.2.2.2.1
  have u6 : W4.cell? ⟨w4.heap.size, 6, none⟩ = some (.string ByteArray.empty) := S4.out.tm.eight.2.2.2.2.2.2.1
  have u7 : W4.cell? ⟨w4.heap.size, 7, none⟩ = some (.slice a2 3 c2) := S4.out.tm.eight.2.2.2.2.2.2.2
  obtain ⟨z0, z1, z2, z3, z4, z5, z6, z7⟩ := Z4.out.eight
  obtain ⟨g0, g1, g2, g3, g4, g5, g6, g7⟩ := Z4.out.frozen8
  have hlz := Z4.out.lt
  go_wp2_with fail
  exact HL.out.ret (fun w2 r0 r1 r2 r3 r4 r5 r6 r7 => by dsimp only at r0 r1 r2 r3 r4 r5 r6 r7; simp [results, Tryz.results31, go_sem, r0, r1, r2, r3, r4, r5, r6, r7]) rfl
end Go.Proofs.YtaioeailgknfjaaGreatDoor

/- The walk of parse.expr: try. -/
namespace Go.Proofs.YtaioeailgknfjaaGreatDoor
open Go Go.RowKit Go.Sort

set_option maxRecDepth 8000 in
set_option maxHeartbeats 8000000 in
theorem parse_expr_try (f : Nat) (hE : Does 31 .expr f) (pb : Nat) (tk : Tk) (l0 : List Tk) (r : Res Tm) (w : World) (h : Prs w pb (tk :: l0)) (he : Ended (tk :: l0)) (hi : isT [w_try] (tk :: l0) = true) (hp : parseF (f + 1) .expr (tk :: l0) = some r) :
    Calls Tryz.prog 31 #[.pointer (some ⟨pb, 0, none⟩)] w (RetP pb w (IsNew w.heap.size) r) := by
  obtain ⟨tkk, s, ps⟩ := tk
  have hsx : s = w_try := isT_text hi
  subst hsx
  have hlt := h.lt
  have hfit := h.fits
  have hpos0 : -9223372036854775808 ≤ ps := hfit.p0
  have hpos1 : ps ≤ 9223372036854775807 := hfit.p1
  have hpm := hp
  unfold parseF at hpm
  rw [if_neg (by rw [isT_other (y := w_let) hi (by decide +kernel)]; simp)] at hpm
  rw [if_neg (by rw [isT_other (y := w_letrec) hi (by decide +kernel)]; simp)] at hpm
  rw [if_neg (by rw [isT_other (y := w_fn) hi (by decide +kernel)]; simp)] at hpm
  rw [if_neg (by rw [isT_other (y := w_if) hi (by decide +kernel)]; simp)] at hpm
  rw [if_pos hi] at hpm
  simp only [List.tail_cons, posT] at hpm
  have hi5 : isT [w_let, w_letrec, w_fn, w_if, w_try] (⟨tkk, w_try, ps⟩ :: l0) = true := isT_mem (by simp) hi
  obtain ⟨hl0, he0⟩ := he.tail_ne (isT_kind hi)
  have q_let : (w_try.toList == ([108, 101, 116] : List UInt8)) = false := by rw [ByteArray.toList_eq]; rfl
  have q_letrec : (w_try.toList == ([108, 101, 116, 114, 101, 99] : List UInt8)) = false := by rw [ByteArray.toList_eq]; rfl
  have q_fn : (w_try.toList == ([102, 110] : List UInt8)) = false := by rw [ByteArray.toList_eq]; rfl
  have q_if : (w_try.toList == ([105, 102] : List UInt8)) = false := by rw [ByteArray.toList_eq]; rfl
  have q_try : (w_try.toList == ([116, 114, 121] : List UInt8)) = true := by rw [ByteArray.toList_eq]; rfl
  have KI := Lib.hid fun W (x : Ext w W) (a : Option Addr) (hr : IsRow W (vstr [w_let, w_letrec, w_fn, w_if, w_try]) a 5) => parse_is [w_let, w_letrec, w_fn, w_if, w_try] pb ⟨tkk, w_try, ps⟩ l0 W a 5 5 (Nat.le_refl _) (by omega) hr (h.ext x)
  rw [hi5] at KI
  have KT := Lib.hid fun W (x : Ext w W) => parse_take pb ⟨tkk, w_try, ps⟩ l0 W (h.ext x)
  have HE := Lib.hid hE
  have HPM := Lib.hid hpm
  have HL0 := Lib.hid hl0
  have E0 := Lib.hid he0
  clear hp hpm h he hi hi5 hfit hE hl0 he0
  go_enter Tryz.func31, Tryz.ntmps31
  go_wp2_with fail
  refine (KI.out _ (by (exact eX)) _ (row_new2 w _ _ _ (vstr [w_let, w_letrec, w_fn, w_if, w_try]))).mono ?_
  rintro e w2 ⟨rfl, x2⟩
  have hP2 := blk_under2 x2
  have hZ2 := blk_under x2
  rw [World.size_alloc] at hZ2
  have y2 : Ext w w2 := by (exact eX)
  have p0 := hP2.cell 0
  simp at p0
  go_wp2_with fail
  refine (KT.out _ y2).mono ?_
  rintro e w3 ⟨rfl, x3, hp3⟩
  have P3 := hp3 HL0.out
  have hP3 := hP2.nez x3 (by omega)
  have hZ3 := hZ2.nez x3 (by omega)
  have y3 : ExtX (· = pb) w w3 := (ExtX.of y2).trans x3
  have HP3 := Lib.hid P3
  have HQ3 := Lib.hid hP3
  have HZ3 := Lib.hid hZ3
  have Y3 := Lib.hid y3
  clear x2 hP2 hZ2 y2 x3 hp3 P3 hP3 hZ3 y3 p0
  go_wp2_with fail
  refine (parse_node _ _ _ _ _ _).mono ?_
  rintro e w4 ⟨rfl, x4⟩
  have hT4 := blk_top x4
  have t1 := hT4.cell 1
  simp at t1
  have hlT := hT4.lt
  have y34 : Ext w3 w4 := by (exact eX)
  have hP4 := HQ3.out.ext y34
  have hZ4 := HZ3.out.ext y34
  have hs4 := hZ4.lt
  obtain ⟨b1, hb1⟩ : ∃ b1, b1 = w.heap.size := ⟨_, rfl⟩
  obtain ⟨bt, hbt⟩ : ∃ bt, bt = w4.heap.size := ⟨_, rfl⟩
  have hS := Sub8.start (x := (⟨0, 0, ps, 0, ByteArray.empty, ByteArray.empty, ByteArray.empty⟩ : Hd)) hP4 hlt
  obtain ⟨W0, hW0⟩ : ∃ W0, W0 = w4.alloc (.cells #[.int .u8 0, .int .u8 0, .int .i64 ps, .int .i64 0, .string ByteArray.empty, .string ByteArray.empty, .string ByteArray.empty, .slice none 0 0] 28) := ⟨_, rfl⟩
  have S0 : Hid (Sub8 pb w.heap.size w4.heap.size (⟨0, 0, ps, 0, ByteArray.empty, ByteArray.empty, ByteArray.empty⟩ : Hd) [] none 0 [] W0) := Lib.hid (by rw [hW0]; exact hS)
  have yW : Ext w4 W0 := by rw [hW0]; exact (Ext.refl _).alloc _
  have Z0 := Lib.hid (hZ4.ext yW)
  have P0 := Lib.hid (HP3.out.ext (y34.trans yW))
  have Y0 := Lib.hid (Y3.out.then_ (y34.trans yW))
  have X0 := Lib.hid (ExtX.refl (A := fun b => b = pb ∨ w4.heap.size ≤ b) W0)
  have hup : w.heap.size ≤ w4.heap.size := by omega
  clear hS hP4 hZ4 x4 hT4 y34 yW hb1 hbt
  go_upto_region 25 with fail
  rw [← hW0]
  clear t1 hW0
  have hpm := HPM.out
  obtain ⟨c0, c1, c2, c3, c4, c5, c6, c7⟩ := S0.out.tm.eight
  obtain ⟨f0, f1, f2, f3, f4, f5, f6, f7⟩ := S0.out.tm.frozen8
  have hlb := S0.out.tm.lt
  have hSn := (S0.out.put 0 (.int .u8 16) (⟨16, 0, ps, 0, ByteArray.empty, ByteArray.empty, ByteArray.empty⟩ : Hd) (by simp))
  have hPn := (P0.out.far (p := ⟨w4.heap.size, 0, none⟩) (by show pb < w4.heap.size; omega) (.int .u8 16))
  have hXn := (X0.out.setCell (p := ⟨w4.heap.size, 0, none⟩) (.inl (.inr (Nat.le_refl _))) (.int .u8 16))
  have hZn := (Z0.out.far (p := ⟨w4.heap.size, 0, none⟩) (by show w.heap.size + 1 ≠ w4.heap.size; omega) (.int .u8 16))
  obtain ⟨W1, hWn⟩ : ∃ Wn, Wn = (W0.setCell ⟨w4.heap.size, 0, none⟩ (.int .u8 16)) := ⟨_, rfl⟩
  rw [← hWn] at hSn hPn hXn hZn
  go_upto_region 26 with fail
  rw [← hWn]
  have S1 := Lib.hid hSn
  have P1 := Lib.hid hPn
  have X1 := Lib.hid hXn
  have Z1 := Lib.hid hZn
  clear hSn hPn hXn hZn hWn c0 c1 c2 c3 c4 c5 c6 c7 f0 f1 f2 f3 f4 f5 f6 f7 hlb
  cases eq0 : (parseF f .expr l0) with
  | none => rw [eq0] at hpm; cases hpm
  | some r0 =>
  rw [eq0] at hpm
  go_wp2_with fail
  refine (parse_sub0 f HE.out pb w.heap.size w4.heap.size (⟨16, 0, ps, 0, ByteArray.empty, ByteArray.empty, ByteArray.empty⟩ : Hd) [] none 0 [] l0 r0 _ S1.out (by simp) P1.out E0.out eq0).mono ?_
  intro e W2 hh
  cases r0 with
  | error l' =>
    cases hpm
    obtain ⟨x', he'⟩ := hh
    have he' : e = thrown l' := he'
    subst he'
    exact ⟨rfl, Y0.out.shrink (X1.out.trans x') hup, rfl⟩
  | ok q =>
  obtain ⟨t0, l1⟩ := q
  rw [andThen_ok] at hpm
  obtain ⟨x', he', hP, a0, c0, xs0, hS⟩ := hh
  have he' : e = .returned (.tuple #[]) := he'
  subst he'
  have S2 : Hid (Sub8 pb w.heap.size w4.heap.size (⟨16, 0, ps, 0, ByteArray.empty, ByteArray.empty, ByteArray.empty⟩ : Hd) [t0] a0 c0 xs0 W2) := Lib.hid hS
  have E1 := Lib.hid (sub_ended0 E0.out eq0)
  have Z2 := Lib.hid (Z1.out.extx x' (show ¬ (w.heap.size + 1 = pb ∨ w4.heap.size ≤ w.heap.size + 1) by omega))
  have P2 := Lib.hid hP
  have X2 := Lib.hid (X1.out.trans x')
  clear eq0 hP x' hS
  have p0 := S2.out.ptr.cell 0
  simp at p0
  go_wp2_with fail
  refine (parse_word [w_with] pb l1 _ _ 1 1 (Nat.le_refl _) (by omega) (row_one0 W2 w_with _) (P2.out.alloc _) E1.out).mono ?_
  intro e W3 hh
  clear p0
  rcases getWs_one w_with l1 with ⟨l', e1, e2⟩ | ⟨l2, e1, e2, -⟩
  · rw [e1] at hh
    rw [e2] at hpm
    cases hpm
    obtain ⟨rfl, x'⟩ := hh.error
    exact ⟨rfl, ((Y0.out.shrink X2.out hup).alloc _).trans x', rfl⟩
  rw [e1] at hh
  rw [e2, andThen_ok] at hpm
  have E2 := Lib.hid (getW_ended E1.out e2)
  obtain ⟨v, rfl, ⟨kk', q', rfl⟩, hP, x'⟩ := hh.ok
  have S3 := Lib.hid ((S2.out.ext ((Ext.refl _).alloc _)).extx x')
  have Z3 := Lib.hid ((Z2.out.alloc _).nez x' (by omega))
  have P3 := Lib.hid hP
  have X3 := Lib.hid ((X2.out.alloc _).trans (x'.mono (fun b hb => .inl hb)))
  clear hh e1 e2 hP x'
  have p0 := S3.out.ptr.cell 0
  simp at p0
  go_wp2_with fail
  refine (parse_exn pb l2 _ P3.out E2.out).mono ?_
  intro e W4 hh
  clear p0
  cases hg : getK 3 l2 with
  | error l' =>
    rw [hg] at hh hpm
    cases hpm
    obtain ⟨rfl, x'⟩ := hh.error
    exact ⟨rfl, (Y0.out.shrink X3.out hup).trans x', rfl⟩
  | ok q =>
  obtain ⟨xe, l3⟩ := q
  rw [hg] at hh hpm
  rw [andThen_ok] at hpm
  obtain ⟨v, rfl, hv, hP, x'⟩ := hh.ok
  have hv : v = .string xe := hv
  subst hv
  have hz_xe : xe.size ≤ 9223372036854775807 := by
    obtain ⟨t, e, -, rfl⟩ := getK_inv (k := 3) (l := l2) (l' := l3) (x := xe) (by rw [hg])
    have := P3.out
    rw [e] at this
    exact this.fits.text1
  have E3 : Hid (Ended l3) := Lib.hid (by have := getK_behind E2.out (show (3 : Int) ≠ 6 by omega); rw [hg] at this; exact this.1)
  have S4 := Lib.hid (S3.out.extx x')
  have Z4 := Lib.hid (Z3.out.nez x' (by omega))
  have P4 := Lib.hid hP
  have X4 := Lib.hid (X3.out.trans (x'.mono (fun b hb => .inl hb)))
  clear hh hg hP x'
  obtain ⟨c0, c1, c2, c3, c4, c5, c6, c7⟩ := S4.out.tm.eight
  obtain ⟨f0, f1, f2, f3, f4, f5, f6, f7⟩ := S4.out.tm.frozen8
  have hlb := S4.out.tm.lt
  have hSn := (S4.out.put 6 (.string xe) (⟨16, 0, ps, 0, ByteArray.empty, ByteArray.empty, xe⟩ : Hd) (by simp))
  have hPn := (P4.out.far (p := ⟨w4.heap.size, 6, none⟩) (by show pb < w4.heap.size; omega) (.string xe))
  have hXn := (X4.out.setCell (p := ⟨w4.heap.size, 6, none⟩) (.inl (.inr (Nat.le_refl _))) (.string xe))
  have hZn := (Z4.out.far (p := ⟨w4.heap.size, 6, none⟩) (by show w.heap.size + 1 ≠ w4.heap.size; omega) (.string xe))
  obtain ⟨W5, hWn⟩ : ∃ Wn, Wn = (W4.setCell ⟨w4.heap.size, 6, none⟩ (.string xe)) := ⟨_, rfl⟩
  rw [← hWn] at hSn hPn hXn hZn
  go_upto_region 29 with fail
  rw [← hWn]
  have S5 := Lib.hid hSn
  have P5 := Lib.hid hPn
  have X5 := Lib.hid hXn
  have Z5 := Lib.hid hZn
  clear hSn hPn hXn hZn hWn c0 c1 c2 c3 c4 c5 c6 c7 f0 f1 f2 f3 f4 f5 f6 f7 hlb
  have p0 := S5.out.ptr.cell 0
  simp at p0
  go_wp2_with fail
  refine (parse_name pb l3 _ P5.out E3.out).mono ?_
  intro e W6 hh
  clear p0
  cases hg : getK 2 l3 with
  | error l' =>
    rw [hg] at hh hpm
    cases hpm
    obtain ⟨rfl, x'⟩ := hh.error
    exact ⟨rfl, (Y0.out.shrink X5.out hup).trans x', rfl⟩
  | ok q =>
  obtain ⟨xa, l4⟩ := q
  rw [hg] at hh hpm
  rw [andThen_ok] at hpm
  obtain ⟨v, rfl, hv, hP, x'⟩ := hh.ok
  have hv : v = .string xa := hv
  subst hv
  have hz_xa : xa.size ≤ 9223372036854775807 := by
    obtain ⟨t, e, -, rfl⟩ := getK_inv (k := 2) (l := l3) (l' := l4) (x := xa) (by rw [hg])
    have := P5.out
    rw [e] at this
    exact this.fits.text1
  have E4 : Hid (Ended l4) := Lib.hid (by have := getK_behind E3.out (show (2 : Int) ≠ 6 by omega); rw [hg] at this; exact this.1)
  have S6 := Lib.hid (S5.out.extx x')
  have Z6 := Lib.hid (Z5.out.nez x' (by omega))
  have P6 := Lib.hid hP
  have X6 := Lib.hid (X5.out.trans (x'.mono (fun b hb => .inl hb)))
  clear hh hg hP x'
  obtain ⟨c0, c1, c2, c3, c4, c5, c6, c7⟩ := S6.out.tm.eight
  obtain ⟨f0, f1, f2, f3, f4, f5, f6, f7⟩ := S6.out.tm.frozen8
  have hlb := S6.out.tm.lt
  have hSn := (S6.out.put 5 (.string xa) (⟨16, 0, ps, 0, ByteArray.empty, xa, xe⟩ : Hd) (by simp))
  have hPn := (P6.out.far (p := ⟨w4.heap.size, 5, none⟩) (by show pb < w4.heap.size; omega) (.string xa))
  have hXn := (X6.out.setCell (p := ⟨w4.heap.size, 5, none⟩) (.inl (.inr (Nat.le_refl _))) (.string xa))
  have hZn := (Z6.out.far (p := ⟨w4.heap.size, 5, none⟩) (by show w.heap.size + 1 ≠ w4.heap.size; omega) (.string xa))
  obtain ⟨W7, hWn⟩ : ∃ Wn, Wn = (W6.setCell ⟨w4.heap.size, 5, none⟩ (.string xa)) := ⟨_, rfl⟩
  rw [← hWn] at hSn hPn hXn hZn
  go_upto_region 30 with fail
  rw [← hWn]
  have S7 := Lib.hid hSn
  have P7 := Lib.hid hPn
  have X7 := Lib.hid hXn
  have Z7 := Lib.hid hZn
  clear hSn hPn hXn hZn hWn c0 c1 c2 c3 c4 c5 c6 c7 f0 f1 f2 f3 f4 f5 f6 f7 hlb
  rw [← andThen_assoc] at hpm
  cases eq1 : (andThen (some (getW s_to l4)) fun _ l1 => parseF f .expr l1) with
  | none => rw [eq1] at hpm; cases hpm
  | some r1 =>
  rw [eq1] at hpm
  go_wp2_with fail
  refine (parse_sub1 f HE.out pb w.heap.size w4.heap.size (⟨16, 0, ps, 0, ByteArray.empty, xa, xe⟩ : Hd) [t0] a0 c0 xs0 l4 r1 _ s_to _ (row_one0 W7 s_to _) (S7.out.ext ((Ext.refl _).alloc _)) (by simp) (P7.out.alloc _) E4.out eq1).mono ?_
  intro e W8 hh
  cases r1 with
  | error l' =>
    cases hpm
    obtain ⟨x', he'⟩ := hh
    have he' : e = thrown l' := he'
    subst he'
    exact ⟨rfl, Y0.out.shrink ((X7.out.alloc _).trans x') hup, rfl⟩
  | ok q =>
  obtain ⟨t1, l5⟩ := q
  rw [andThen_ok] at hpm
  obtain ⟨x', he', hP, a1, c1, xs1, hS⟩ := hh
  have he' : e = .returned (.tuple #[]) := he'
  subst he'
  have S8 : Hid (Sub8 pb w.heap.size w4.heap.size (⟨16, 0, ps, 0, ByteArray.empty, xa, xe⟩ : Hd) [t0, t1] a1 c1 xs1 W8) := Lib.hid hS
  have E5 := Lib.hid (sub_ended E4.out eq1)
  have Z8 := Lib.hid ((Z7.out.alloc _).extx x' (show ¬ (w.heap.size + 1 = pb ∨ w4.heap.size ≤ w.heap.size + 1) by omega))
  have P8 := Lib.hid hP
  have X8 := Lib.hid ((X7.out.alloc _).trans x')
  clear eq1 hP x' hS
  have hr : r = .ok (.mk (⟨16, 0, ps, 0, ByteArray.empty, xa, xe⟩ : Hd) [t0, t1], l5) := by
    cases hpm
    rfl
  subst hr
  clear hpm
  have HL : Hid (LaidE pb (w.heap.size + 1) w W8 (⟨16, 0, ps, 0, ByteArray.empty, xa, xe⟩ : Hd) [t0, t1] a1 2 c1 l5) := Lib.hid ⟨Z8.out, ⟨by simp, by simp, by simp, by simp, hpos0, hpos1, by simp, by simp, by simp, hz_xa, hz_xe⟩, S8.out.le, S8.out.cap, S8.out.tms.off (fun b _ hb => by have hb : b ≤ w.heap.size + 1 := hb; show b ≤ w4.heap.size; omega), P8.out, Y0.out.shrink X8.out hup, by omega, by omega⟩
  have u0 : W8.cell? ⟨w4.heap.size, 0, none⟩ = some (.int .u8 16) := S8.out.tm.eight.1
  have u1 : W8.cell? ⟨w4.heap.size, 1, none⟩ = some (.int .u8 0) := S8.out.tm.eight.2.1
  have u2 : W8.cell? ⟨w4.heap.size, 2, none⟩ = some (.int .i64 ps) := S8.out.tm.eight.2.2.1
  have u3 : W8.cell? ⟨w4.heap.size, 3, none⟩ = some (.int .i64 0) := S8.out.tm.eight.2.2.2.1
  have u4 : W8.cell? ⟨w4.heap.size, 4, none⟩ = some (.string ByteArray.empty) := S8.out.tm.eight.2.2.2.2.1
  have u5 : W8.cell? ⟨w4.heap.size, 5, none⟩ = some (.string xa) := S8.out.tm.eight.2.2.2.2.2.1
  have u6 : W8.cell? ⟨w4.heap.size, 6, none⟩ = some (.string xe) := S8.out.tm.eight.2.2.2.2.2.2.1
  have u7 : W8.cell? ⟨w4.heap.size, 7, none⟩ = some (.slice a1 2 c1) := S8.out.tm.eight.2.2.2.2.2.2.2
  obtain ⟨z0, z1, z2, z3, z4, z5, z6, z7⟩ := Z8.out.eight
  obtain ⟨g0, g1, g2, g3, g4, g5, g6, g7⟩ := Z8.out.frozen8
  have hlz := Z8.out.lt
  go_wp2_with fail
  exact HL.out.ret (fun w2 r0 r1 r2 r3 r4 r5 r6 r7 => by dsimp only at r0 r1 r2 r3 r4 r5 r6 r7; simp [results, Tryz.results31, go_sem, r0, r1, r2, r3, r4, r5, r6, r7]) rfl
end Go.Proofs.YtaioeailgknfjaaGreatDoor

/- The walk of parse.expr, whole; all parts of the parser. The walk of parse.run's deferred closure: what was thrown is caught, and told. -/
namespace Go.Proofs.YtaioeailgknfjaaGreatDoor
open Go Go.RowKit Go.Sort

set_option maxRecDepth 8000 in
set_option maxHeartbeats 8000000 in
theorem parse_expr_set (f : Nat) (hF : Does 57 (.lvl 0) f) (pb : Nat) (tk : Tk) (l0 : List Tk) (r : Res Tm) (w : World) (h : Prs w pb (tk :: l0)) (he : Ended (tk :: l0)) (hi : isT [w_let, w_letrec, w_fn, w_if, w_try] (tk :: l0) = false) (hp : parseF f (.lvl 0) (tk :: l0) = some r) :
    Calls Tryz.prog 31 #[.pointer (some ⟨pb, 0, none⟩)] w (RetP pb w (IsNew w.heap.size) r) := by
  have hlt := h.lt
  have KI := Lib.hid fun W (x : Ext w W) (a : Option Addr) (hr : IsRow W (vstr [w_let, w_letrec, w_fn, w_if, w_try]) a 5) => parse_is [w_let, w_letrec, w_fn, w_if, w_try] pb tk l0 W a 5 5 (Nat.le_refl _) (by omega) hr (h.ext x)
  rw [hi] at KI
  have KS := Lib.hid fun W (x : Ext w W) => hF pb W (tk :: l0) r (h.ext x) he hp
  clear hF h he hi hp
  go_enter Tryz.func31, Tryz.ntmps31
  go_wp2_with fail
  refine (KI.out _ (by (exact eX)) _ (row_new2 w _ _ _ (vstr [w_let, w_letrec, w_fn, w_if, w_try]))).mono ?_
  rintro e w2 ⟨rfl, x2⟩
  have hP2 := blk_under2 x2
  have hZ2 := blk_under x2
  rw [World.size_alloc] at hZ2
  have y2 : Ext w w2 := by (exact eX)
  have p0 := hP2.cell 0
  simp at p0
  have HZ2 := Lib.hid hZ2
  have Y2 := Lib.hid y2
  clear x2 hP2 hZ2 y2
  go_wp2_with fail
  refine (KS.out _ Y2.out).mono ?_
  intro e w3 hh
  cases r with
  | error l' =>
    obtain ⟨rfl, x3⟩ := hh.error
    exact ⟨rfl, (ExtX.of Y2.out).trans x3, rfl⟩
  | ok q =>
  obtain ⟨⟨x, ks⟩, l1⟩ := q
  obtain ⟨v, rfl, ⟨a, n, c, rfl, hf, g1, g2, hT⟩, hP, x3⟩ := hh.ok
  have hZ3 := HZ2.out.nez x3 (by omega)
  obtain ⟨z0, z1, z2, z3, z4, z5, z6, z7⟩ := hZ3.eight
  obtain ⟨k0, k1, k2, k3, k4, k5, k6, k7⟩ := hZ3.frozen8
  have hlz := hZ3.lt
  have hlz2 := HZ2.out.lt
  have HL : Hid (LaidE pb (w.heap.size + 1) w w3 x ks a n c l1) := Lib.hid ⟨hZ3, hf, g1, g2, hT.off fun b _ hb => (by have hb : b ≤ w.heap.size + 1 := hb; omega), hP, (ExtX.of Y2.out).trans x3, by omega, by omega⟩
  clear hh hZ3 hf hT hP x3
  go_wp2_with fail
  exact HL.out.ret (fun w2 r0 r1 r2 r3 r4 r5 r6 r7 => by simp [results, Tryz.results31, go_sem, r0, r1, r2, r3, r4, r5, r6, r7]) rfl
theorem parse_expr (f : Nat) (hE : Does 31 .expr f) (hS : Does 57 (.lvl 0) f) : Does 31 .expr (f + 1) := by
  intro pb w l r h he hp
  cases l with
  | nil => cases he
  | cons tk l0 =>
  by_cases h1 : isT [w_let] (tk :: l0) = true
  · exact parse_expr_let f hE pb tk l0 r w h he h1 hp
  by_cases h2 : isT [w_letrec] (tk :: l0) = true
  · exact parse_expr_letrec f hE pb tk l0 r w h he h2 hp
  by_cases h3 : isT [w_fn] (tk :: l0) = true
  · exact parse_expr_fn f hE pb tk l0 r w h he h3 hp
  by_cases h4 : isT [w_if] (tk :: l0) = true
  · exact parse_expr_if f hE pb tk l0 r w h he h4 hp
  by_cases h5 : isT [w_try] (tk :: l0) = true
  · exact parse_expr_try f hE pb tk l0 r w h he h5 hp
  have hp2 : parseF f (.lvl 0) (tk :: l0) = some r := by
    unfold parseF at hp
    rw [if_neg h1, if_neg h2, if_neg h3, if_neg h4, if_neg h5] at hp
    exact hp
  refine parse_expr_set f hS pb tk l0 r w h he ?_ hp2
  have e : inB [w_let, w_letrec, w_fn, w_if, w_try] tk.text = (inB [w_let] tk.text || (inB [w_letrec] tk.text || (inB [w_fn] tk.text || (inB [w_if] tk.text || inB [w_try] tk.text)))) := by simp [inB]
  simp only [isT, Bool.not_eq_true] at h1 h2 h3 h4 h5 ⊢
  rw [e]
  cases hk : (tk.k == 4 || tk.k == 5)
  · rfl
  · rw [hk] at h1 h2 h3 h4 h5
    simp only [Bool.true_and] at h1 h2 h3 h4 h5 ⊢
    rw [h1, h2, h3, h4, h5]
    rfl
theorem does_zero (F : Nat) (nt : NT) : Does F nt 0 := fun _ _ _ _ _ _ h => by cases h
/-- All parts of the parser. -/
theorem parse_all (f : Nat) : ∀ g, g ≤ f → Does 31 .expr g ∧ Does 57 (.lvl 0) g ∧ Does 92 (.lvl 1) g ∧ Does 117 (.lvl 3) g ∧ Does 131 (.lvl 4) g ∧ Does 139 .unary g := by
  induction f with
  | zero =>
    intro g hg
    obtain rfl : g = 0 := by omega
    exact ⟨does_zero _ _, does_zero _ _, does_zero _ _, does_zero _ _, does_zero _ _, does_zero _ _⟩
  | succ f ih =>
    intro g hg
    rcases Nat.lt_or_ge g (f + 1) with h | h
    · exact ih g (by omega)
    · obtain rfl : g = f + 1 := by omega
      refine ⟨parse_expr f (ih f (Nat.le_refl _)).1 (ih f (Nat.le_refl _)).2.1, parse_set f fun g hg => (ih g hg).2.2.1, parse_rel f fun g hg => (ih g (by omega)).2.2.2.1, parse_prod f fun g hg => (ih g hg).2.2.2.2.1, parse_apply f fun g hg => (ih g hg).2.2.2.2.2, parse_unary f (ih f (Nat.le_refl _)).2.2.2.2.2 (ih f (Nat.le_refl _)).1⟩
/-- The walk of parse.expr. -/
theorem parse_walk (pb : Nat) (w : World) (l : List Tk) (h : Prs w pb l) (he : Ended l) : Calls Tryz.prog 31 #[.pointer (some ⟨pb, 0, none⟩)] w (RetP pb w (IsNew w.heap.size) (parseL .expr l)) := by
  obtain ⟨f, e, -⟩ := parseL_some (nt := .expr) he
  exact (parse_all f f (Nat.le_refl _)).1 pb w l _ h he e
end Go.Proofs.YtaioeailgknfjaaGreatDoor
namespace Go.Proofs.YtaioeailgknfjaaGreatDoor
open Go Go.RowKit Go.Sort

set_option maxRecDepth 8000 in
set_option maxHeartbeats 1000000 in
theorem run_idle (pa pe : Addr) (w : World) :
    CallsD Tryz.prog 56 #[.pointer (some pa), .pointer (some pe)] .returning w fun e u' w' => e = .returned (.tuple #[]) ∧ u' = .returning ∧ Ext w w' := by
  refine callsD_of_wpS Tryz.func56 rfl fun c₀ cs hu => ?_
  apply wpS_seq
  apply wpS_region
  simp [wpOpsS, go_sem, recoverD, hu, Tryz.ntmps56, Exit.thenS]
  simp only [show (Array.replicate 11 undef : Array Value) = #[undef, undef, undef, undef, undef, undef, undef, undef, undef, undef, undef] from rfl, List.setIfInBounds_toArray, List.set_cons_zero, List.set_cons_succ, List.append_toArray, List.cons_append, List.nil_append]
  refine wpS_of_wp ?_
  go_wp2_with fail
  exact ⟨rfl, .returning, by rw [← hu], .tuple #[], results_none rfl _ _ _, rfl, rfl, Ext.refl _⟩
theorem run_wrong (pos : Int) (w : World) : (Instr.typeAssert (.iface 94 (.agg #[.int .i64 pos])) 20 94 true).run Tryz.prog w = .ok (.tuple #[.agg #[.int .i64 pos], .bool true]) w := by kernel_rfl
set_option maxRecDepth 8000 in
set_option maxHeartbeats 1000000 in
theorem run_catch (ga ge : Nat) (pos x y : Int) (older : List PanicEntry) (w : World) (h1 : Blk w ga 3 #[.int .i64 x]) (h2 : Blk w ge 29 #[.int .i64 y]) (hne : ga ≠ ge) :
    CallsD Tryz.prog 56 #[.pointer (some ⟨ga, 0, none⟩), .pointer (some ⟨ge, 0, none⟩)] (.panicking ({ v := .iface 94 (.agg #[.int .i64 pos]), recovered := false } :: older)) w fun e u' w' =>
      e = .returned (.tuple #[]) ∧ u' = .panicking ({ v := .iface 94 (.agg #[.int .i64 pos]), recovered := true } :: older) ∧ Blk w' ga 3 #[.int .i64 pos] ∧ Blk w' ge 29 #[.int .i64 2] ∧ ExtX (fun b => b = ga ∨ b = ge) w w' := by
  have c1 := h1.cell 0
  have f1 := h1.frozen 0
  have l1 := h1.lt
  have c2 := h2.cell 0
  have f2 := h2.frozen 0
  have l2 := h2.lt
  simp at c1 c2
  refine callsD_of_wpS Tryz.func56 rfl fun c₀ cs hu => ?_
  apply wpS_seq
  apply wpS_region
  simp [wpOpsS, go_sem, recoverD, hu, Tryz.ntmps56, Exit.thenS]
  simp only [show (Array.replicate 11 undef : Array Value) = #[undef, undef, undef, undef, undef, undef, undef, undef, undef, undef, undef] from rfl, List.setIfInBounds_toArray, List.set_cons_zero, List.set_cons_succ, List.append_toArray, List.cons_append, List.nil_append]
  have hta := fun w => run_wrong pos w
  refine wpS_of_wp ?_
  go_wp2_with fail
  refine ⟨rfl, _, rfl, .tuple #[], results_none rfl _ _ _, rfl, rfl, ?_, ?_, ?_⟩
  · have h := ((h1.set_ 0 (.int .i64 pos)).far (p := ⟨ge, 0, none⟩) hne (.int .i64 2)).alloc (.cells #[.int .i64 pos] 94)
    simpa using h
  · have h := ((h2.far (p := ⟨ga, 0, none⟩) (fun e => hne e.symm) (.int .i64 pos)).set_ 0 (.int .i64 2)).alloc (.cells #[.int .i64 pos] 94)
    simpa using h
  · exact (((ExtX.refl w).setCell (p := ⟨ga, 0, none⟩) (.inl (.inl rfl)) _).setCell (p := ⟨ge, 0, none⟩) (.inl (.inr rfl)) _).alloc _
end Go.Proofs.YtaioeailgknfjaaGreatDoor

