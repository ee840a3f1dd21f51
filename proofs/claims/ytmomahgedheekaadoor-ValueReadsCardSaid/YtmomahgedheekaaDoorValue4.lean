/- The walks of value.number, and of the library's calls that value.Read makes. -/
import Derived.Test.YtmomahgedheekaaDoorValue3
import Derived.Lib.AtoiErrMem
namespace Go.Proofs.YtmomahgedheekaaDoor
open Go Go.RowKit Go.Sort

theorem ext_bytes {w w1 : World} (h : w1 = w ∨ ∃ t, w1 = Lib.bytesWorld w 5 t) : Ext w w1 := by
  rcases h with rfl | ⟨t, rfl⟩
  · exact Ext.refl _
  · exact Lib.bytesWorld_below _ _ _
theorem parse_range {l : List UInt8} {v : Int} (h : Lib.parseIntB 64 l = .ok v) : -9223372036854775808 ≤ v ∧ v ≤ 9223372036854775807 := by
  have := Lib.parseIntB_bounds h
  have e63 : (2 : Nat) ^ (64 - 1) = 9223372036854775808 := by decide
  rw [e63] at this
  exact ⟨by omega, by omega⟩
/-- What a call that tells a number hands back. -/
def RetV (l : List UInt8) (w : World) (e : Ending) (w' : World) : Prop := ∃ n b, e = .returned (.tuple #[.int .i64 n, .bool b]) ∧ numC l = (if b = true then some n else none) ∧ Ext w w'
set_option maxHeartbeats 1000000 in
theorem value_number (s : ByteArray) (w : World) (hs : s.size ≤ 1000000) (ht : Tab w) (he : Errs w) : Calls Tryd.prog 73 #[.string s] w (RetV s.data.toList w) := by
  obtain ⟨t1, p1, t2, p2, v1, v2⟩ := he
  cases h : Lib.parseIntB 64 s.data.toList with
  | ok v =>
    have KP := Lib.hid (Tryd.strconv_ParseInt_10_at64_ok s (by omega) v h w)
    have HN : Hid (numC s.data.toList = if Lib.itoa v = s.data.toList then some v else none) := by
      show _ = _
      unfold numC
      rw [h]
    have hb := parse_range h
    have KD := Lib.hid fun W (x : Ext w W) => words_digits v W hb.1 hb.2 (ht.ext x)
    have HC : Hid (((bs (Lib.itoa v)).toList == s.toList) = decide (Lib.itoa v = s.data.toList)) := cmp_bs _ _
    clear h hb ht v1 v2
    generalize hq : ((bs (Lib.itoa v)).toList == s.toList) = q at *
    have HQ := Lib.hid hq
    cases q
    all_goals
      go_enter Tryd.func73, Tryd.ntmps73
      go_wp2_with (first | (go_at_call 102; refine KP.out.mono ?_; rintro e w1 ⟨rfl, hw⟩; have x1 : Ext w w1 := ext_bytes hw; clear hw) | (go_at_call 49; refine (KD.out _ (by (repeat (first | exact Ext.refl _ | assumption | refine Ext.alloc ?_ _ | refine Ext.drew ?_ | refine Ext.setCell ?_ (by first | (simp; done) | (simp; omega) | omega) _ | refine Ext.trans ?_ (by assumption))))).mono ?_; rintro e w2 ⟨rfl, x2⟩))
      go_ret2
      refine ⟨v, _, rfl, ?_, by (repeat (first | exact Ext.refl _ | assumption | refine Ext.alloc ?_ _ | refine Ext.drew ?_ | refine Ext.setCell ?_ (by first | (simp; done) | (simp; omega) | omega) _ | refine Ext.trans ?_ (by assumption)))⟩
      rw [HN.out]
      have := HC.out
      simp at this
      simp [this]
  | range =>
    have HN : Hid (numC s.data.toList = none) := by
      show _ = _
      unfold numC
      rw [h]
    have KP := Lib.hid (Tryd.strconv_ParseInt_10_at64_range_var s (by omega) h t2 p2 w v2)
    generalize Lib.intSat 64 s.data.toList = sat at *
    clear h ht v1 v2
    go_enter Tryd.func73, Tryd.ntmps73
    go_wp2_with (go_at_call 102; refine KP.out.mono ?_; rintro e w1 ⟨N, rfl, hN, hc, x1⟩; clear hc hN)
    go_ret2
    exact ⟨_, false, rfl, by rw [HN.out]; rfl, x1⟩
  | _ =>
    have HN : Hid (numC s.data.toList = none) := by
      show _ = _
      unfold numC
      rw [h]
    have KP := Lib.hid (Tryd.strconv_ParseInt_10_at64_syntax_var s (by omega) (by rw [h]; rfl) t1 p1 w v1)
    clear h ht v1 v2
    go_enter Tryd.func73, Tryd.ntmps73
    go_wp2_with (go_at_call 102; refine KP.out.mono ?_; rintro e w1 ⟨N, rfl, hN, hc, x1⟩; clear hc hN)
    go_ret2
    exact ⟨_, false, rfl, by rw [HN.out]; rfl, x1⟩

theorem cutL_length (l : List UInt8) : (cutL l).length = l.count 32 + 1 := by
  induction l with
  | nil => rfl
  | cons c l ih =>
    have hne := cutL_ne l
    unfold cutL
    by_cases hc : c = 32
    · subst hc
      simp [ih]
    · cases hl : cutL l with
      | nil => exact absurd hl hne
      | cons p ps =>
        rw [hl] at ih
        simp [hc] at ih ⊢
        omega
theorem strings_cut (s : ByteArray) (w : World) (hs : s.size ≤ 1000000) (hk : Knob w) :
    Calls Tryd.prog 72 #[.string s, .string ⟨#[32]⟩] w fun e w' => e = .returned (.slice (some ⟨w.heap.size, 0, none⟩) (cutL s.data.toList).length (cutL s.data.toList).length) ∧ IsRow w' (vstr ((cutL s.data.toList).map bs)) (some ⟨w.heap.size, 0, none⟩) (cutL s.data.toList).length ∧ Ext w w' := by
  obtain ⟨m, hm⟩ := hk
  have hc : Lib.countB s ⟨#[32]⟩ + 1 = (cutL s.data.toList).length := by
    rw [cutL_length]
    congr 1
    show Lib.count s.data.toList [32] = _
    exact Lib.count_one 32 _
  refine (Tryd.strings_Split s ⟨#[32]⟩ m w (by omega) hm (by decide)).mono ?_
  rintro e w' ⟨rfl, rfl⟩
  rw [hc, split_cut]
  refine ⟨rfl, ?_, (Ext.refl _).alloc _⟩
  have h := IsRow.new w 9 (vstr ((cutL s.data.toList).map bs))
  rw [vstr_length, List.length_map] at h
  exact h
end Go.Proofs.YtmomahgedheekaaDoor
