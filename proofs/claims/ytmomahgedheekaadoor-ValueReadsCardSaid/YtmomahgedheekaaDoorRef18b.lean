/- The walks of enclaveref18: cutting, reading. -/
import Derived.Test.YtmomahgedheekaaDoorRef18
import Derived.Test.YtmomahgedheekaaDoorStrs
namespace Go.Proofs.YtmomahgedheekaaDoor
open Go Go.RowKit Go.Sort

theorem byte_ne32 {c : UInt8} (h : c ≠ 32) : (((c.toNat : Nat) : Int) == 32) = false := by
  rw [beq_eq_false_iff_ne]
  intro e
  apply h
  apply UInt8.toNat_inj.1
  have : (32 : UInt8).toNat = 32 := rfl
  omega
/-- How far a text is cut. -/
def CutTo (l : List UInt8) (j f : Nat) (ps : List (List UInt8)) : Prop := f ≤ j ∧ ps.length ≤ j ∧ (32 : UInt8) ∉ (l.drop f).take (j - f) ∧ cutL l = ps ++ cutL (l.drop f)
theorem CutTo.zero (l : List UInt8) : CutTo l 0 0 [] := ⟨Nat.le_refl _, by simp, by simp, by simp⟩
theorem CutTo.step {l : List UInt8} {j f : Nat} {ps : List (List UInt8)} (h : CutTo l j f ps) {c : UInt8} (hj : l[j]? = some c) (hc : c ≠ 32) : CutTo l (j + 1) f ps := by
  obtain ⟨h1, h2, h3, h4⟩ := h
  refine ⟨by omega, by omega, ?_, h4⟩
  rw [show j + 1 - f = (j - f) + 1 by omega, List.take_add_one, List.getElem?_drop, show f + (j - f) = j by omega, hj]
  simp only [Option.toList_some, List.mem_append, List.mem_singleton, not_or]
  exact ⟨h3, fun e => hc e.symm⟩
theorem drop_split {l : List UInt8} {j f : Nat} (hf : f ≤ j) {c : UInt8} (hj : l[j]? = some c) : l.drop f = (l.drop f).take (j - f) ++ c :: l.drop (j + 1) := by
  have hlt : j < l.length := by
    rcases Nat.lt_or_ge j l.length with h | h
    · exact h
    · rw [List.getElem?_eq_none h] at hj; cases hj
  have e : l[j] = c := by rw [List.getElem?_eq_getElem hlt] at hj; exact Option.some.inj hj
  conv => lhs; rw [← List.take_append_drop (j - f) (l.drop f)]
  rw [List.drop_drop, show f + (j - f) = j by omega, List.drop_eq_getElem_cons hlt, e]
theorem CutTo.cut {l : List UInt8} {j f : Nat} {ps : List (List UInt8)} (h : CutTo l j f ps) (hj : l[j]? = some 32) : CutTo l (j + 1) (j + 1) (ps ++ [(l.drop f).take (j - f)]) := by
  obtain ⟨h1, h2, h3, h4⟩ := h
  refine ⟨Nat.le_refl _, by simp; omega, by simp, ?_⟩
  have e : cutL (l.drop f) = (l.drop f).take (j - f) :: cutL (l.drop (j + 1)) := by
    conv => lhs; rw [drop_split h1 hj]
    rw [cutL_at h3]
  rw [h4, e]
  simp
theorem CutTo.done {l : List UInt8} {f : Nat} {ps : List (List UInt8)} (h : CutTo l l.length f ps) : cutL l = ps ++ [l.drop f] := by
  obtain ⟨h1, h2, h3, h4⟩ := h
  rw [List.take_of_length_le (by rw [List.length_drop]; exact Nat.le_refl _)] at h3
  rw [h4, cutL_none h3]

set_option maxHeartbeats 2000000 in
theorem ref18_cut (s : ByteArray) (w : World) (hs : s.size ≤ 1000000) : Calls Tryd.prog 75 #[.string s] w (RetStrs ((cutL s.data.toList).map bs) w) := by
  have HLS := Lib.hid (list_size s)
  obtain ⟨i0, hi, hz0, hz1, hz2⟩ := info_parts infoStr
  have HI := Lib.hid (And.intro hi (And.intro hz0 (And.intro hz1 hz2)))
  clear hi hz0 hz1 hz2
  go_enter Tryd.func75, Tryd.ntmps75
  go_wp2_with fail
  go_loopg [3, 4, 5] s.size (fun g vo from_ i wr => ∃ (j f : Nat) (ps : List (List UInt8)), g = s.size - j ∧ j ≤ s.size ∧ i = .int .i64 j ∧ from_ = .int .i64 f ∧ f ≤ j ∧ ps.length ≤ j ∧ CutTo s.data.toList j f ps ∧ wr.ownsRow w.heap.size 9 1 vo ps.length (vstr (ps.map bs)) ∧ Ext w wr)
  case atStart =>
    refine ⟨0, 0, [], by omega, by omega, rfl, rfl, by omega, by simp, CutTo.zero _, ?_, by (repeat (first | exact Ext.refl _ | assumption | refine Ext.alloc ?_ _ | refine Ext.drew ?_ | refine Ext.setCell ?_ (by first | (simp; done) | (simp; omega) | omega) _ | refine Ext.trans ?_ (by assumption)))⟩
    exact owns_new w w.heap.size 9 1 0 [] (Nat.le_refl _) (by unfold maxLen; omega) rfl
  case round =>
    obtain ⟨j, f, ps, rfl, hj, rfl, rfl, hf, hpl, hct, hown, hx⟩ := hrel
    have HCT := Lib.hid hct
    have HOWN := Lib.hid hown
    clear hct hown
    by_cases hlt : j < s.size
    · have hat : s.data.toList[j]? = some s[j] := by
        rw [List.getElem?_eq_getElem (by rw [list_size]; exact hlt)]
        rfl
      by_cases hc : s[j] = 32
      · have hb : (((s[j].toNat : Nat) : Int) == 32) = true := by rw [hc]; rfl
        rw [hc] at hat
        have HN := Lib.hid (HCT.out.cut hat)
        have HSEG := Lib.hid (extract_bs s f j)
        clear hat hc
        have x1 : Ext wr (wr.alloc (.cells #[.string (s.extract f j)] 9)) := (Ext.refl _).alloc _
        go_wp2_with (at_builtin; refine wpList_append_mine rfl (.tmp 17) (.tmp 22) 51 rfl w.heap.size 9 i0 (.string ByteArray.empty) 1 16 Tryd.underlying51 HI.out.1 HI.out.2.1 HI.out.2.2.1 HI.out.2.2.2 rfl (by decide) _ ps.length (vstr (ps.map bs)) rfl (owns_ext x1 HOWN.out) ⟨wr.heap.size, 0, none⟩ 1 1 [.string (s.extract f j)] rfl rfl ?c1 ?c2 ?c3 ?c4 ?c5 ?_)
        case c1 =>
          intro i u hu
          cases i with
          | zero => simp at hu; subst hu; simp [go_sem]
          | succ i => simp at hu
        case c2 => intro u hu; simp at hu; subst hu; rfl
        case c3 => unfold maxLen; omega
        case c4 => omega
        case c5 => have := hx.size; simp; omega
        · intro v' w3 ho' hg hw
          have hx3 : Ext w w3 := ext_grown hg (hx.trans x1) (fun k hk => (HOWN.out.lt k hk).1)
          have HO3 := Lib.hid ho'
          clear ho' hg hw
          go_wp2_with fail
          go_roundg (s.size - (j + 1))
          case rel =>
            refine ⟨j + 1, j + 1, ps ++ [(s.data.toList.drop f).take (j - f)], rfl, by omega, by go_num, by go_num, by omega, by simp; omega, HN.out, ?_, hx3⟩
            have h3 := HO3.out
            rw [HSEG.out, ← vstr_snoc] at h3
            simpa using h3
          case measure => omega
      · have hb : (((s[j].toNat : Nat) : Int) == 32) = false := byte_ne32 hc
        have HN := Lib.hid (HCT.out.step hat hc)
        clear hat hc
        go_wp2_with fail
        go_roundg (s.size - (j + 1))
        case rel => exact ⟨j + 1, f, ps, rfl, by omega, by go_num, rfl, by omega, by omega, HN.out, HOWN.out, hx⟩
        case measure => omega
    · obtain rfl : j = s.size := by omega
      have HD : Hid (cutL s.data.toList = ps ++ [s.data.toList.drop f]) := CutTo.done (by rw [HLS.out]; exact HCT.out)
      have HSEG := Lib.hid (extract_bs' s f)
      have x1 : Ext wr (wr.alloc (.cells #[.string (s.extract f s.size)] 9)) := (Ext.refl _).alloc _
      go_wp2_with (at_builtin; refine wpList_append_mine rfl (.tmp 26) (.tmp 30) 51 rfl w.heap.size 9 i0 (.string ByteArray.empty) 1 16 Tryd.underlying51 HI.out.1 HI.out.2.1 HI.out.2.2.1 HI.out.2.2.2 rfl (by decide) _ ps.length (vstr (ps.map bs)) rfl (owns_ext x1 HOWN.out) ⟨wr.heap.size, 0, none⟩ 1 1 [.string (s.extract f s.size)] rfl rfl ?c1 ?c2 ?c3 ?c4 ?c5 ?_)
      case c1 =>
        intro i u hu
        cases i with
        | zero => simp at hu; subst hu; simp [go_sem]
        | succ i => simp at hu
      case c2 => intro u hu; simp at hu; subst hu; rfl
      case c3 => unfold maxLen; omega
      case c4 => omega
      case c5 => have := hx.size; simp; omega
      · intro v' w3 ho' hg hw
        have hx3 : Ext w w3 := ext_grown hg (hx.trans x1) (fun k hk => (HOWN.out.lt k hk).1)
        have ho3 : w3.ownsRow w.heap.size 9 1 v' (ps.length + 1) (vstr ((cutL s.data.toList).map bs)) := by
          rw [HD.out]
          rw [HSEG.out, ← vstr_snoc] at ho'
          simpa using ho'
        obtain ⟨a, cap, rfl, g1, g2, g3⟩ := owns_row1 ho3
        have G3 := Lib.hid g3
        clear ho' hg hw ho3 g3
        go_wp2_with fail
        go_ret
        exact ⟨a, _, cap, rfl, g1, g2, G3.out, hx3⟩

/-- The reference's test of two words. -/
theorem readW_two {l a b : List UInt8} {n : Int} {ok : Bool} (hc : cutL l = [a, b]) (hn : numC b = if ok = true then some n else none) :
    readW (cutL l) = if ok = true ∧ En.text ⟨1, true, n, ByteArray.empty⟩ = l then some ⟨1, true, n, ByteArray.empty⟩ else none := by
  have hl := cutL_two hc
  rw [hc]
  unfold readW
  simp only
  cases ok
  · rw [if_neg Bool.false_ne_true] at hn
    rw [hn]
    simp
  · rw [if_pos rfl] at hn
    have hb := ((numC_iff b n).1 hn).2.2
    have e : En.text ⟨1, true, n, ByteArray.empty⟩ = l ↔ a = wValue := by
      rw [text_num, hl, hb, show tValue ++ b = wValue ++ 32 :: b from rfl]
      constructor
      · intro h; exact (List.append_cancel_right h).symm
      · rintro rfl; rfl
    simp only [e, true_and]
    rw [hn]
    rfl
theorem readW_three {l a x b : List UInt8} {n : Int} {ok : Bool} (hc : cutL l = [a, x, b]) (hn : numC b = if ok = true then some n else none) :
    readW (cutL l) = if ok = true ∧ isExn (bs x) = true ∧ En.text ⟨2, false, n, bs x⟩ = l then some ⟨2, false, n, bs x⟩ else none := by
  have hl := cutL_three hc
  rw [hc]
  unfold readW
  simp only
  cases ok
  · rw [if_neg Bool.false_ne_true] at hn
    rw [hn]
    simp
  · rw [if_pos rfl] at hn
    have hb := ((numC_iff b n).1 hn).2.2
    have e : En.text ⟨2, false, n, bs x⟩ = l ↔ a = wUncaught := by
      rw [text_unc, hl, hb, bs_list, show tUncaught ++ (x ++ 32 :: b) = wUncaught ++ 32 :: (x ++ 32 :: b) from rfl]
      constructor
      · intro h; exact (List.append_cancel_right h).symm
      · rintro rfl; rfl
    simp only [e, true_and]
    rw [hn]
    simp only [and_comm]
    rfl
theorem readE_fixed {l : List UInt8} (k : Int) (h3 : 3 ≤ k) (h6 : k ≤ 6) (h : l = tFixed k) : readE l = some ⟨k, false, 0, ByteArray.empty⟩ :=
  (readE_iff _ _).2 ⟨may_fix k h3 h6, ⟨by simp, by simp⟩, by rw [text_fix k h3, h]⟩
theorem readE_sign {l : List UInt8} (h : l = tValue ++ [35]) : readE l = some ⟨1, false, 0, ByteArray.empty⟩ :=
  (readE_iff _ _).2 ⟨may_other, ⟨by simp, by simp⟩, by rw [text_other, h]⟩
theorem readE_words {l : List UInt8} (h : ∀ k : Nat, 3 ≤ k → k < 7 → tFixed (k : Int) ≠ l) (h7 : l ≠ tValue ++ [35]) : readE l = readW (cutL l) := by
  unfold readE
  rw [if_neg (fun e => h 3 (by omega) (by omega) e.symm), if_neg (fun e => h 4 (by omega) (by omega) e.symm), if_neg (fun e => h 5 (by omega) (by omega) e.symm), if_neg (fun e => h 6 (by omega) (by omega) e.symm), if_neg h7]
/-- What a call that reads an end hands back: the end, or none. -/
def RetEnd (r : Option En) (w : World) (e : Ending) (w' : World) : Prop :=
  (∀ x, r = some x → e = .returned (.tuple #[.agg #[.int .u8 x.k, .bool x.isInt, .int .i64 x.n, .string x.exn], .bool true])) ∧ (r = none → e = .returned (.tuple #[.agg #[.int .u8 0, .bool false, .int .i64 0, .string ByteArray.empty], .bool false])) ∧ Ext w w'
end Go.Proofs.YtmomahgedheekaaDoor
