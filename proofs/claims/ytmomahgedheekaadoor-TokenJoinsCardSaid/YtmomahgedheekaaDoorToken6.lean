/- The walk of the reference's joining of tokens. -/
import Derived.Test.YtmomahgedheekaaDoorToken5
namespace Go.Proofs.YtmomahgedheekaaDoor
open Go Go.RowKit Go.Sort

theorem join_snoc (xs : List (List UInt8)) (y sep : List UInt8) : Lib.join (xs ++ [y]) sep = if xs = [] then y else Lib.join xs sep ++ sep ++ y := by
  cases xs with
  | nil => exact Lib.join_one y sep
  | cons x xs =>
    rw [if_neg (by simp), List.cons_append, Lib.join_cons, Lib.join_cons]
    simp [Lib.joinTail]
def joinN (l : List Tk) (i : Nat) : ByteArray := bs (joinTk (l.take i))
theorem joinN_zero (l : List Tk) : joinN l 0 = ByteArray.empty := rfl
theorem joinN_first {l : List Tk} {t : Tk} (h : l[0]? = some t) : joinN l 1 = t.text := by
  cases l with
  | nil => cases h
  | cons a l =>
    cases h
    unfold joinN joinTk
    simp [Lib.join_one]
    rfl
theorem joinN_succ {l : List Tk} {i : Nat} {t : Tk} (h : l[i]? = some t) (hi : 0 < i) : joinN l (i + 1) = joinN l i ++ (⟨#[32]⟩ : ByteArray) ++ t.text := by
  unfold joinN joinTk
  rw [List.take_add_one, h]
  simp only [Option.toList_some, List.map_append, List.map_cons, List.map_nil]
  rw [join_snoc, if_neg]
  · apply ByteArray.ext
    simp [bs]
  · intro e
    have := congrArg List.length e
    have hl := (List.getElem?_eq_some_iff.1 h).1
    rw [List.length_map, List.length_take] at this
    simp only [List.length_nil] at this
    omega
set_option maxRecDepth 8000 in
set_option maxHeartbeats 1000000 in
theorem ref03_join (l : List Tk) (w : World) (a : Option Addr) (len cap : Nat) (h1 : len ≤ cap) (h2 : cap ≤ 9223372036854775807) (ht : IsToks w l a len) (hsum : ∀ i, i ≤ l.length → (joinN l i).size ≤ 1000000) :
    Calls Tryd.prog 46 #[.slice a len cap] w fun e w' => e = .returned (.string (joinN l l.length)) ∧ Ext w w' := by
  have hlen := ht.length
  have HT := Lib.hid ht
  have HS := Lib.hid hsum
  have HL := Lib.hid hlen
  clear ht hsum hlen
  go_enter Tryd.func46, Tryd.ntmps46
  go_wp2_with fail
  go_loopg [3, 7] len (fun g s i wr => ∃ j : Nat, g = len - j ∧ i = .int .i64 j ∧ j ≤ len ∧ s = .string (joinN l j) ∧ Ext w wr)
  case atStart => exact ⟨0, rfl, rfl, Nat.zero_le _, rfl, Ext.refl _⟩
  case round =>
    obtain ⟨j, rfl, rfl, hj, rfl, hx⟩ := hrel
    by_cases hlt : j < len
    · have hz : (j : Int) < (len : Int) := by omega
      obtain ⟨t, b, o, g, hf, rfl, q0, q1, q2⟩ := (HT.out.ext hx).at3 hlt
      by_cases h0 : j = 0
      · subst h0
        have HN := Lib.hid (joinN_first g)
        have hadd : ∀ W, (Op.stringOp .add (joinN l 0) t.text).run Tryd.prog W = .ok (.string (joinN l 1)) W := fun W => by
          have h := run_string_add_sum (P := Tryd.prog) W (joinN l 0) t.text (by have := hf.text1; rw [joinN_zero]; simp; omega)
          rw [h, joinN_zero, joinN_first g]
          simp
        clear g hf q0 q2
        go_wp2_with fail
        go_roundg (len - (0 + 1))
        case rel => exact ⟨0 + 1, rfl, by go_num, by omega, rfl, by (repeat (first | exact Ext.refl _ | assumption | refine Ext.alloc ?_ _ | refine Ext.drew ?_ | refine Ext.setCell ?_ (by first | (simp; done) | (simp; omega) | omega) _ | refine Ext.trans ?_ (by assumption)))⟩
        case measure => omega
      · have hz0 : (0 : Int) < (j : Int) := by omega
        have hN := joinN_succ g (by omega)
        have hs := HS.out (j + 1) (by have := HL.out; omega)
        have hs' := hs
        rw [hN] at hs'
        simp only [ByteArray.size_append] at hs'
        have e1 : (⟨#[32]⟩ : ByteArray).size = 1 := rfl
        have hadd : ∀ W, (Op.stringOp .add (joinN l j) ⟨#[32]⟩).run Tryd.prog W = .ok (.string (joinN l j ++ ⟨#[32]⟩)) W := fun W => run_string_add_sum (P := Tryd.prog) W _ _ (by omega)
        have hadd2 : ∀ W, (Op.stringOp .add (joinN l j ++ ⟨#[32]⟩) t.text).run Tryd.prog W = .ok (.string (joinN l (j + 1))) W := fun W => by
          rw [hN]
          exact run_string_add_sum (P := Tryd.prog) W _ _ (by rw [ByteArray.size_append]; omega)
        clear g hf q0 q2 hN hs hs' e1
        go_wp2_with fail
        go_roundg (len - (j + 1))
        case rel => exact ⟨j + 1, rfl, by go_num, by omega, rfl, by (repeat (first | exact Ext.refl _ | assumption | refine Ext.alloc ?_ _ | refine Ext.drew ?_ | refine Ext.setCell ?_ (by first | (simp; done) | (simp; omega) | omega) _ | refine Ext.trans ?_ (by assumption)))⟩
        case measure => omega
    · obtain rfl : j = len := by omega
      have hL := HL.out
      go_wp2_with fail
      go_ret
      exact ⟨by rw [hL]; rfl, hx⟩
end Go.Proofs.YtmomahgedheekaaDoor
