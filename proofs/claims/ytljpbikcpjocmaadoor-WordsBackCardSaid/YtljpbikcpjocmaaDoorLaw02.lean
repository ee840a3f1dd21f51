/- The walks of the laws WordsAll and WordsLonger. -/
import Derived.Test.YtljpbikcpjocmaaDoorWords2
import Derived.Test.YtljpbikcpjocmaaDoorRef02b
namespace Go.Proofs.YtljpbikcpjocmaaDoor
open Go Go.RowKit Go.Sort

/-- A law's answer. -/
def Yes (w : World) (e : Ending) (w' : World) : Prop := e = .returned (.bool true) ∧ Ext w w'

theorem row_one (w : World) (t : TypeId) (s : ByteArray) : IsRow (w.alloc (.cells #[.string s] t)) (vstr [s]) (some ⟨w.heap.size, 0, none⟩) 1 := IsRow.new w t (vstr [s])

set_option maxHeartbeats 1000000 in
theorem law02_awake (w : World) (hk : Knob w) : Calls Tryd.prog 13 #[] w (Yes w) := by
  have K1 := Lib.hid fun W h => words_keyword ⟨#[105, 110]⟩ W h
  have K2 := Lib.hid fun W a h hr => words_name [⟨#[105, 110, 49]⟩] W a 1 1 (by omega) (by omega) h hr
  have K3 := Lib.hid fun W a h hr => words_name [⟨#[105, 110]⟩] W a 1 1 (by omega) (by omega) h hr
  have K4 := Lib.hid fun W a h hr => words_exn [⟨#[73, 110]⟩] W a 1 1 (by omega) (by omega) h hr
  rw [show kwd ⟨#[105, 110]⟩ = 3 from by decide +kernel] at K1
  rw [show [(⟨#[105, 110, 49]⟩ : ByteArray)].all isName = true from by decide +kernel] at K2
  rw [show [(⟨#[105, 110]⟩ : ByteArray)].all isName = false from by decide +kernel] at K3
  rw [show [(⟨#[73, 110]⟩ : ByteArray)].all isExn = true from by decide +kernel] at K4
  go_enter Tryd.func13, Tryd.ntmps13
  go_wp2_with (go_at_call 18; refine (K1.out _ hk).mono ?_; rintro e w1 ⟨rfl, x1⟩)
  refine (K2.out _ _ (hk.ext (x1.trans ((Ext.refl _).alloc _))) (row_one w1 _ _)).mono ?_
  rintro e w2 ⟨rfl, x2⟩
  have y2 := x1.trans (((Ext.refl _).alloc _).trans x2)
  go_wp2_with fail
  refine (K3.out _ _ (hk.ext (y2.trans ((Ext.refl _).alloc _))) (row_one w2 _ _)).mono ?_
  rintro e w3 ⟨rfl, x3⟩
  have y3 := y2.trans (((Ext.refl _).alloc _).trans x3)
  go_wp2_with fail
  refine (K4.out _ _ (hk.ext (y3.trans ((Ext.refl _).alloc _))) (row_one w3 _ _)).mono ?_
  rintro e w4 ⟨rfl, x4⟩
  have y4 := y3.trans (((Ext.refl _).alloc _).trans x4)
  go_wp2_with fail
  go_ret
  exact ⟨rfl, y4⟩

theorem all_take_succ {α : Type} (p : α → Bool) (l : List α) (i : Nat) (t : α) (h : l[i]? = some t) : (l.take (i + 1)).all p = ((l.take i).all p && p t) := by
  rw [List.take_add_one, h]
  simp

set_option maxHeartbeats 4000000 in
theorem law_wordsAll (l : List ByteArray) (w : World) (a : Option Addr) (len cap : Nat) (h1 : len ≤ cap) (h2' : cap ≤ maxLen) (hl : IsRow w (vstr l) a len) (hk : Knob w) :
    Calls Tryd.prog 3 #[.slice a len cap] w (Yes w) := by
  have h2 : cap ≤ 9223372036854775807 := h2'
  clear h2'
  have hll := hl.1
  simp only [vstr, List.length_map] at hll
  have HL := Lib.hid hll
  have HR := Lib.hid hl
  have KA := Lib.hid fun W (h : Ext w W) => law02_awake W (hk.ext h)
  clear hll
  by_cases h30 : 30 < len
  · have hd : decide ((30 : Int) < (len : Int)) = true := by simp; omega
    go_enter Tryd.func3, Tryd.ntmps3
    go_wp2_with (go_at_call 13; refine (KA.out _ (Ext.refl _)).mono ?_; rintro e w2 ⟨rfl, x2⟩)
    go_ret
    exact ⟨rfl, x2⟩
  have hd : decide ((30 : Int) < (len : Int)) = false := by simp; omega
  clear h30
  have KN := Lib.hid fun W (h : Ext w W) => words_name l W a len cap h1 h2 (hk.ext h) (hl.ext h)
  have KE := Lib.hid fun W (h : Ext w W) => words_exn l W a len cap h1 h2 (hk.ext h) (hl.ext h)
  clear hl
  go_enter Tryd.func3, Tryd.ntmps3
  go_wp2_with fail
  go_loopg [3, 4, 5] len (fun g n b i wr => ∃ j : Nat, g = len - j ∧ j ≤ len ∧ i = .int .i64 j ∧ n = .bool ((l.take j).all isName) ∧ b = .bool ((l.take j).all isExn) ∧ Ext w wr)
  case atStart => exact ⟨0, by omega, by omega, rfl, by simp, by simp, Ext.refl _⟩
  case round =>
    obtain ⟨j, rfl, hj, rfl, rfl, rfl, hx⟩ := hrel
    by_cases hlt : j < len
    · obtain ⟨t, b, o, g, rfl, q⟩ := (HR.out.ext hx).str hlt
      have HN := Lib.hid (all_take_succ isName l j t g)
      have HE := Lib.hid (all_take_succ isExn l j t g)
      have kq := fun W (h : Ext wr W) => h.cell q
      clear g
      by_cases hs : 100 < t.size
      · have hd1 : decide ((100 : Int) < (t.size : Int)) = true := by simp; omega
        clear hs
        go_wp2_with (go_at_call 13; refine (KA.out _ hx).mono ?_; rintro e w2 ⟨rfl, x2⟩)
        go_ret
        exact ⟨rfl, hx.trans x2⟩
      have hd1 : decide ((100 : Int) < (t.size : Int)) = false := by simp; omega
      clear hs
      have K1 := Lib.hid fun W => ref_name t W
      have K2 := Lib.hid fun W => ref_exn t W
      cases hn : (l.take j).all isName <;> cases he : (l.take j).all isExn
      all_goals
        rw [hn] at HN
        rw [he] at HE
        clear hn he
        go_wp2_with (first | (go_at_call 14; refine (K1.out _).mono ?_; rintro e w1 ⟨rfl, x1⟩; have p1 := kq _ x1) | (go_at_call 15; refine (K2.out _).mono ?_; rintro e w2 ⟨rfl, x2⟩))
        go_roundg (len - (j + 1))
        case measure => omega
        case rel => exact ⟨j + 1, rfl, by omega, by go_num, by rw [HN.out]; simp, by rw [HE.out]; simp, hx.trans (by (repeat (first | exact Ext.refl _ | assumption | refine Ext.alloc ?_ _ | refine Ext.drew ?_ | refine Ext.setCell ?_ (by first | (simp; done) | (simp; omega) | omega) _ | refine Ext.trans ?_ (by assumption))))⟩
    · obtain rfl : j = len := by omega
      have hall : l.take j = l := List.take_of_length_le (by rw [← HL.out]; omega)
      rw [hall]
      clear hall
      cases hn : l.all isName <;> cases he : l.all isExn
      all_goals
        rw [hn] at KN
        rw [he] at KE
        clear hn he
        go_wp2_with (first | (go_at_call 16; refine (KN.out _ hx).mono ?_; rintro e w1 ⟨rfl, x1⟩) | (go_at_call 17; refine (KE.out _ (hx.trans x1)).mono ?_; rintro e w2 ⟨rfl, x2⟩) | (go_at_call 13; refine (KA.out _ ((hx.trans x1).trans x2)).mono ?_; rintro e w3 ⟨rfl, x3⟩))
        go_ret
        exact ⟨rfl, ((hx.trans x1).trans x2).trans x3⟩
end Go.Proofs.YtljpbikcpjocmaaDoor
