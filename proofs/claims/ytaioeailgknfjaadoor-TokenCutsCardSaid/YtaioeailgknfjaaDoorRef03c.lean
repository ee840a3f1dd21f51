/- The walk of enclaveref03.take. -/
import Derived.Test.YtaioeailgknfjaaDoorRef03b
import Derived.Test.YtaioeailgknfjaaDoorWordsN
namespace Go.Proofs.YtaioeailgknfjaaDoor
open Go Go.RowKit Go.Sort

/-- What take hands back: a text and a kind, or nothing. -/
def takeOf (l : List UInt8) : ByteArray × Int := match tokAt l with
  | some (n, k) => (bs (l.take n), k)
  | none => (ByteArray.empty, 0)
def RetTake (l : List UInt8) (w : World) (e : Ending) (w' : World) : Prop := e = .returned (.tuple #[.string (takeOf l).1, .int .u8 (takeOf l).2]) ∧ Ext w w'
theorem drop_cons_at {B : List UInt8} {i : Nat} {c : UInt8} (h : B[i]? = some c) : B.drop i = c :: B.drop (i + 1) := by
  obtain ⟨hi, e⟩ := List.getElem?_eq_some_iff.1 h
  rw [List.drop_eq_getElem_cons hi, e]
theorem takeOf_digit {B : List UInt8} {i : Nat} {c : UInt8} (h : B[i]? = some c) (hc : clsU c = 2) : takeOf (B.drop i) = if numB (bs ((B.drop i).take (spanU [2] (B.drop i)))) then (bs ((B.drop i).take (spanU [2] (B.drop i))), 1) else (ByteArray.empty, 0) := by
  rw [drop_cons_at h]
  unfold takeOf tokAt
  simp only [if_pos hc]
  by_cases h : numB (bs ((c :: B.drop (i + 1)).take (spanU [2] (c :: B.drop (i + 1))))) = true
  · simp only [if_pos h]
  · simp only [if_neg h]
theorem run_at (cl : List Int) (B : List UInt8) (i : Nat) : (∀ j, j < spanU cl (B.drop i) → ∃ c, B[i + j]? = some c ∧ cl.contains (clsU c) = true) ∧ (∀ c, B[i + spanU cl (B.drop i)]? = some c → cl.contains (clsU c) = false) := by
  refine ⟨fun j hj => ?_, fun c hc => ?_⟩
  · obtain ⟨c, h, k⟩ := span_at hj
    rw [List.getElem?_drop] at h
    exact ⟨c, h, k⟩
  · exact span_end (l := B.drop i) (by rw [List.getElem?_drop]; exact hc)
set_option maxRecDepth 8000 in
set_option maxHeartbeats 4000000 in
theorem ref03_take_digit (B : List UInt8) (at_ : Nat) (c : UInt8) (w : World) (b o len cap : Nat) (h1 : len ≤ cap) (h2 : cap ≤ 9223372036854775807) (hr : IsBytes w B (some ⟨b, o, none⟩) len) (hat : at_ < len) (hg : B[at_]? = some c) (hcl : clsU c = 2) :
    Calls Tryd.prog 19 #[.slice (some ⟨b, o, none⟩) len cap, .int .i64 (at_ : Int)] w (RetTake (B.drop at_) w) := by
  have hlen := hr.length
  have q : w.cell? ⟨b, o + at_, none⟩ = some (.int .u8 (c.toNat : Int)) := by
    obtain ⟨c', b', o', g, e, q⟩ := hr.at_ hat
    cases e
    rw [hg] at g
    cases g
    exact q
  have hbb := byte_bound c
  have KD0 := Lib.hid fun W => ref03_digit ((c.toNat : Nat) : Int) W hbb.1 hbb.2
  have hcc : cls ((c.toNat : Nat) : Int) = 2 := hcl
  rw [hcc] at KD0
  obtain ⟨hrun, hend⟩ := run_at [2] B at_
  have hT := takeOf_digit hg hcl
  have hsl := spanU_le [2] (B.drop at_)
  rw [List.length_drop] at hsl
  obtain ⟨n, hn⟩ : ∃ n, n = spanU [2] (B.drop at_) := ⟨_, rfl⟩
  rw [← hn] at hrun hend hsl hT
  have HCV := Lib.hid fun W (h : Ext w W) k => conv_bytes (hr.ext h) at_ n k (by omega)
  have HR := Lib.hid hr
  have HRUN := Lib.hid hrun
  have HEND := Lib.hid hend
  have HLEN := Lib.hid hlen
  have hz1 : (at_ : Int) < (len : Int) := by omega
  have hnl : at_ + n ≤ len := by omega
  have KN : Hid (∀ W, Calls Tryd.prog 36 #[.string (bs ((B.drop at_).take n))] W fun e w' => e = .returned (.tuple #[.int .i64 (numV (bs ((B.drop at_).take n))), .bool (numB (bs ((B.drop at_).take n)))]) ∧ Ext W w') := Lib.hid fun W => ref_number (bs ((B.drop at_).take n)) W (by rw [bs_size, List.length_take, List.length_drop]; omega)
  have HT := Lib.hid hT
  generalize bs ((B.drop at_).take n) = s at *
  generalize numB s = nb at *
  generalize numV s = nv at *
  clear hT hn hrun hend hr hcc hg hcl hlen
  go_enter Tryd.func19, Tryd.ntmps19
  go_wp2_with (go_at_call 35; refine (KD0.out _).mono ?_; rintro e w1 ⟨rfl, x1⟩)
  go_loopg [7] n (fun g i wr => ∃ j : Nat, g = n - j ∧ i = .int .i64 ((at_ + j : Nat) : Int) ∧ j ≤ n ∧ Ext w wr)
  case atStart => exact ⟨0, rfl, rfl, Nat.zero_le _, x1⟩
  case round =>
    obtain ⟨j, rfl, rfl, hj, hx⟩ := hrel
    by_cases hlt : j < n
    · obtain ⟨c2, hc2, hk2⟩ := HRUN.out j hlt
      obtain ⟨c', b', o', g, e, q2⟩ := (HR.out.ext hx).at_ (i := at_ + j) (by omega)
      cases e
      rw [hc2] at g
      cases g
      have hb2 := byte_bound c2
      have KD := Lib.hid fun W => ref03_digit ((c2.toNat : Nat) : Int) W hb2.1 hb2.2
      have hcc : cls ((c2.toNat : Nat) : Int) = 2 := by simpa [clsU] using hk2
      rw [hcc] at KD
      have hz2 : (at_ : Int) + (j : Int) < (len : Int) := by omega
      have hz3 : at_ + j < len := by omega
      have hw : IntKind.i64.wrap ((at_ : Int) + (j : Int) + 1) = (at_ : Int) + j + 1 := IntWalk.i64_in _ ⟨by omega, by omega⟩
      clear hc2 hk2 hcc
      go_wp2_with (go_at_call 35; refine (KD.out _).mono ?_; rintro e w2 ⟨rfl, x2⟩)
      go_roundg (n - (j + 1))
      case rel => exact ⟨j + 1, rfl, by go_num, by omega, hx.trans x2⟩
      case measure => omega
    · obtain rfl : j = n := by omega
      cases nb
      all_goals
        by_cases hle : at_ + j < len
        · obtain ⟨c', b', o', g, e, q2⟩ := (HR.out.ext hx).at_ hle
          cases e
          have hk2 := HEND.out c' g
          have hb2 := byte_bound c'
          have KD := Lib.hid fun W => ref03_digit ((c'.toNat : Nat) : Int) W hb2.1 hb2.2
          have hcc : decide (cls ((c'.toNat : Nat) : Int) = 2) = false := by simpa [clsU] using hk2
          rw [hcc] at KD
          have hz2 : (at_ : Int) + (j : Int) < (len : Int) := by omega
          clear hk2 hcc g
          go_wp2_with (first | (go_at_call 35; refine (KD.out _).mono ?_; rintro e w2 ⟨rfl, x2⟩; have hcv := fun k => HCV.out w2 (hx.trans x2) k) | (go_at_call 36; refine (KN.out _).mono ?_; rintro e w3 ⟨rfl, x3⟩))
          go_ret2
          exact ⟨by rw [HT.out]; rfl, by (repeat (first | exact Ext.refl _ | assumption | refine Ext.alloc ?_ _ | refine Ext.drew ?_ | refine Ext.setCell ?_ (by first | (simp; done) | (simp; omega) | omega) _ | refine Ext.trans ?_ (by assumption)))⟩
        · have hz2 : ¬ (at_ : Int) + (j : Int) < (len : Int) := by omega
          have hcv := fun k => HCV.out wr hx k
          go_wp2_with (go_at_call 36; refine (KN.out _).mono ?_; rintro e w3 ⟨rfl, x3⟩)
          go_ret2
          exact ⟨by rw [HT.out]; rfl, by (repeat (first | exact Ext.refl _ | assumption | refine Ext.alloc ?_ _ | refine Ext.drew ?_ | refine Ext.setCell ?_ (by first | (simp; done) | (simp; omega) | omega) _ | refine Ext.trans ?_ (by assumption)))⟩
end Go.Proofs.YtaioeailgknfjaaDoor
