/- The walks of value.Done and of the document's example. -/
import Derived.Test.YtmomahgedheekaaDoorValue2
import Derived.Test.YtmomahgedheekaaDoorMemV
import Derived.Test.YtmomahgedheekaaDoorFind
namespace Go.Proofs.YtmomahgedheekaaDoor
open Go Go.RowKit Go.Sort

/-- An end that is neither a value nor an exception. -/
def notDone (e : En) : Bool := e.k != 1 && e.k != 2
set_option maxHeartbeats 400000 in
theorem value_done1 (k : Int) (i : Bool) (n : Int) (x : ByteArray) (w : World) : Calls Tryd.prog 52 #[.agg #[.int .u8 k, .bool i, .int .i64 n, .string x]] w fun r w' => r = .returned (.bool (notDone ⟨k, i, n, x⟩)) ∧ Ext w w' := by
  have HN : Hid (notDone ⟨k, i, n, x⟩ = (k != 1 && k != 2)) := rfl
  cases h1 : (k != 1) <;> cases h2 : (k != 2)
  all_goals
    rw [h1, h2] at HN
    go_enter Tryd.func52, Tryd.ntmps52
    go_wp2_with fail
    go_ret
    exact ⟨ret_bool (by rw [HN.out]; rfl), by (repeat (first | exact Ext.refl _ | assumption | refine Ext.alloc ?_ _ | refine Ext.drew ?_ | refine Ext.setCell ?_ (by first | (simp; done) | (simp; omega) | omega) _ | refine Ext.trans ?_ (by assumption)))⟩
set_option maxRecDepth 8000 in
set_option maxHeartbeats 1000000 in
theorem ends_index (l : List En) (w : World) (a : Option Addr) (len cap : Nat) (h1 : len ≤ cap) (h2 : cap ≤ 9223372036854775807) (hl : IsEnds w l a len) :
    Calls Tryd.prog 86 #[.slice a len cap, .func (.func 52) #[] #[]] w fun e w' => e = .returned (.int .i64 (fidx notDone l)) ∧ Ext w w' := by
  have HLL := Lib.hid hl.length
  have HL := Lib.hid hl
  clear hl
  go_enter Tryd.func86, Tryd.ntmps86
  go_wp2_with fail
  go_loopg [8] len (fun g i wr => ∃ j : Nat, g = len - j ∧ j ≤ len ∧ i = .int .i64 j ∧ (∀ t, t ∈ l.take j → notDone t = false) ∧ Ext w wr)
  case atStart => exact ⟨0, by omega, by omega, rfl, by simp, Ext.refl _⟩
  case round =>
    obtain ⟨j, rfl, hj, rfl, hto, hx⟩ := hrel
    have HT := Lib.hid hto
    clear hto
    by_cases hlt : j < len
    · obtain ⟨⟨k, i, n, x⟩, b, o, g, hf, rfl, q0, q1, q2, q3⟩ := (HL.out.ext hx).at4 hlt
      have G := Lib.hid g
      have HQ := Lib.hid (value_done1 k i n x wr)
      clear g hf
      simp only at q0 q1 q2 q3
      go_wp2_with (go_at_call 52; refine (HQ.out).mono ?_; rintro e w1 ⟨rfl, x1⟩)
      · rename_i hr
        go_ret
        exact ⟨ret_int (fidx_at HT.out G.out hr).symm, hx.trans x1⟩
      · rename_i hr
        go_roundg (len - (j + 1))
        case rel =>
          refine ⟨j + 1, rfl, by omega, by go_num, ?_, hx.trans x1⟩
          intro y hy
          rw [List.take_add_one, G.out] at hy
          simp at hy
          rcases hy with hy | rfl
          · exact HT.out y hy
          · simpa using hr
        case measure => omega
    · obtain rfl : j = len := by omega
      go_wp2_with fail
      go_ret
      have h0 := HT.out
      rw [List.take_of_length_le (by rw [← HLL.out]; omega)] at h0
      exact ⟨ret_int (fidx_none h0).symm, hx⟩
set_option maxHeartbeats 400000 in
theorem value_done (l : List En) (w : World) (a : Option Addr) (len cap : Nat) (h1 : len ≤ cap) (h2 : cap ≤ 9223372036854775807) (hl : IsEnds w l a len) :
    Calls Tryd.prog 23 #[.slice a len cap] w fun e w' => e = .returned (.bool (!l.any notDone)) ∧ Ext w w' := by
  have HI := Lib.hid (ends_index l w a len cap h1 h2 hl)
  have HF := Lib.hid (fidx_nonneg notDone l)
  clear hl
  have HC : Hid (Calls Tryd.prog 51 #[.slice a len cap, .func (.func 52) #[] #[]] w fun e w' => e = .returned (.bool (l.any notDone)) ∧ Ext w w') := by
    show _
    go_enter Tryd.func51, Tryd.ntmps51
    go_wp2_with (go_at_call 86; refine (HI.out).mono ?_; rintro e w1 ⟨rfl, x1⟩)
    go_ret
    exact ⟨ret_bool HF.out, x1⟩
  clear HI HF
  go_enter Tryd.func23, Tryd.ntmps23
  go_wp2_with (go_at_call 51; refine (HC.out).mono ?_; rintro e w1 ⟨rfl, x1⟩)
  go_ret
  exact ⟨rfl, x1⟩

theorem example_text : bs (En.text ⟨2, false, 3, ⟨#[69]⟩⟩) = ⟨#[117, 110, 99, 97, 117, 103, 104, 116, 32, 69, 32, 51]⟩ := by
  rw [text_unc, itoa_pos (by decide), Lib.decDigits, dif_pos (by decide)]
  rfl
set_option maxHeartbeats 400000 in
theorem law18_awake (w : World) (hk : Knob w) (ht : Tab w) : Calls Tryd.prog 18 #[] w fun e w' => e = .returned (.bool true) ∧ Ext w w' := by
  have K := Lib.hid fun W (h : Ext w W) => value_text 2 false 3 ⟨#[69]⟩ W (by decide) (by decide) (hk.ext h) (ht.ext h) (by decide)
  rw [example_text] at K
  go_enter Tryd.func18, Tryd.ntmps18
  go_wp2_with (first | (go_at_call 22; refine (value_uncaught _ _ _).mono ?_; rintro e w1 ⟨rfl, x1⟩) | (go_at_call 19; refine (K.out _ (by (repeat (first | exact Ext.refl _ | assumption | refine Ext.alloc ?_ _ | refine Ext.drew ?_ | refine Ext.setCell ?_ (by first | (simp; done) | (simp; omega) | omega) _ | refine Ext.trans ?_ (by assumption))))).mono ?_; rintro e w2 ⟨rfl, x2⟩))
  go_ret
  exact ⟨rfl, by (repeat (first | exact Ext.refl _ | assumption | refine Ext.alloc ?_ _ | refine Ext.drew ?_ | refine Ext.setCell ?_ (by first | (simp; done) | (simp; omega) | omega) _ | refine Ext.trans ?_ (by assumption)))⟩
end Go.Proofs.YtmomahgedheekaaDoor
