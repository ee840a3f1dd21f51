/- The walks of package words: rows of names. -/
import Derived.Test.YtaioeailgknfjaaDoorWords
import Derived.Shelf.Abstract
namespace Go.Proofs.YtaioeailgknfjaaDoor
open Go Go.RowKit Go.Sort

theorem not_any_not {α : Type} (p : α → Bool) (l : List α) : (!l.any fun s => !p s) = l.all p := by
  induction l with
  | nil => rfl
  | cons a l ih => rw [List.any_cons, List.all_cons, Bool.not_or, ih, Bool.not_not]
/-- What a function on a text tells. -/
def Tells (p : ByteArray → Bool) (K : Nat) : Prop := ∀ w s, Knob w → Calls Tryd.prog K #[.string s] w fun e w' => e = .returned (.bool (p s)) ∧ Ext w w'

set_option maxHeartbeats 400000 in
theorem words_all1 (p : ByteArray → Bool) (K : Nat) (eK : ∀ args w, (callFunc K args).run Tryd.prog w = .ok (.enter K args) w) (hp : Tells p K)
    (s : ByteArray) (w : World) (b : Nat) (hk : Knob w) (hb : w.cell? ⟨b, 0, none⟩ = some (.func (.func K) #[] #[])) :
    Calls Tryd.prog 82 #[.string s, .pointer (some ⟨b, 0, none⟩)] w fun e w' => e = .returned (.bool (!p s)) ∧ Ext w w' := by
  have hbl := block_lt_of_cell hb
  simp at hbl
  have HP := Lib.hid (hp w s hk)
  clear hp
  go_enter Tryd.func82, Tryd.ntmps82
  go_wp2_with fail
  refine (HP.out).mono ?_
  rintro e w1 ⟨rfl, x1⟩
  go_wp2_with fail
  go_ret
  exact ⟨rfl, x1⟩

set_option maxHeartbeats 400000 in
theorem strs_indexFunc (p : ByteArray → Bool) (K : Nat) (eK : ∀ args w, (callFunc K args).run Tryd.prog w = .ok (.enter K args) w) (hp : Tells p K) (l : List ByteArray) (w : World) (b : Nat) (a : Option Addr) (len cap : Nat) (h1 : len ≤ cap) (h2 : cap ≤ 9223372036854775807) (hk : Knob w) (hl : IsRow w (vstr l) a len)
    (hb : w.cell? ⟨b, 0, none⟩ = some (.func (.func K) #[] #[])) :
    Calls Tryd.prog 90 #[.slice a len cap, .func (.func 82) #[] #[.pointer (some ⟨b, 0, none⟩)]] w fun e w' => e = .returned (.int .i64 (fidx (fun s => !p s) l)) ∧ Ext w w' := by
  have hll := hl.1
  simp only [vstr, List.length_map] at hll
  have HL := Lib.hid hll
  have HR := Lib.hid hl
  have HBC := Lib.hid hb
  have KC := Lib.hid fun s W (h : Ext w W) => words_all1 p K eK hp s W b (hk.ext h) (h.cell hb)
  clear hll hl hb eK hp
  go_enter Tryd.func90, Tryd.ntmps90
  go_wp2_with fail
  go_loopg [8] len (fun g i wr => ∃ j : Nat, g = len - j ∧ j ≤ len ∧ i = .int .i64 j ∧ (∀ t, t ∈ l.take j → (!p t) = false) ∧ Ext w wr)
  case atStart => exact ⟨0, by omega, by omega, rfl, by simp, Ext.refl _⟩
  case round =>
    obtain ⟨j, rfl, hj, rfl, hto, hx⟩ := hrel
    have HT := Lib.hid hto
    clear hto
    by_cases hlt : j < len
    · obtain ⟨t, b', o, g, rfl, q⟩ := (HR.out.ext hx).str hlt
      have KD := Lib.hid (KC.out t _ hx)
      have G := Lib.hid g
      clear g
      cases hr : !p t
      · have HX := Lib.hid hr
        rw [hr] at KD
        clear hr
        go_wp2_with (go_at_call 82; refine (KD.out).mono ?_; rintro e w1 ⟨rfl, x1⟩)
        go_roundg (len - (j + 1))
        case rel =>
          refine ⟨j + 1, rfl, by omega, by go_num, ?_, hx.trans x1⟩
          intro y hy
          rw [List.take_add_one, G.out] at hy
          simp only [List.mem_append, Option.toList_some, List.mem_singleton] at hy
          rcases hy with hy | rfl
          · exact HT.out y hy
          · exact HX.out
        case measure => omega
      · have HX := Lib.hid hr
        rw [hr] at KD
        clear hr
        go_wp2_with (go_at_call 82; refine (KD.out).mono ?_; rintro e w1 ⟨rfl, x1⟩)
        go_ret
        exact ⟨ret_int (fidx_at HT.out G.out HX.out).symm, hx.trans x1⟩
    · obtain rfl : j = len := by omega
      go_wp2_with fail
      go_ret
      have h0 := HT.out
      rw [List.take_of_length_le (by rw [← HL.out]; omega)] at h0
      exact ⟨ret_int (fidx_none h0).symm, hx⟩

set_option maxHeartbeats 400000 in
theorem words_all (p : ByteArray → Bool) (K : Nat) (eK : ∀ args w, (callFunc K args).run Tryd.prog w = .ok (.enter K args) w) (hp : Tells p K) (l : List ByteArray) (w : World) (a : Option Addr) (len cap : Nat) (h1 : len ≤ cap) (h2 : cap ≤ 9223372036854775807) (hk : Knob w) (hl : IsRow w (vstr l) a len) :
    Calls Tryd.prog 68 #[.func (.func K) #[] #[], .slice a len cap] w fun e w' => e = .returned (.bool (l.all p)) ∧ Ext w w' := by
  have HF : Hid ((!decide (0 ≤ fidx (fun s => !p s) l)) = l.all p) := by
    show _ = _
    rw [fidx_nonneg, not_any_not]
  have HC : Hid (∀ W, Ext (w.alloc (.cells #[.func (.func K) #[] #[]] 73)) W → Calls Tryd.prog 81 #[.slice a len cap, .func (.func 82) #[] #[.pointer (some ⟨w.heap.size, 0, none⟩)]] W fun e w' => e = .returned (.bool (decide (0 ≤ fidx (fun s => !p s) l))) ∧ Ext W w') := by
    intro W hW
    have KI := Lib.hid (strs_indexFunc p K eK hp l W w.heap.size a len cap h1 h2 (hk.ext (((Ext.refl _).alloc _).trans hW)) (hl.ext (((Ext.refl _).alloc _).trans hW)) (hW.cell (by simp)))
    clear eK hp
    go_enter Tryd.func81, Tryd.ntmps81
    go_wp2_with (go_at_call 90; refine (KI.out).mono ?_; rintro e w1 ⟨rfl, x1⟩)
    go_ret
    exact ⟨rfl, x1⟩
  clear eK hp
  go_enter Tryd.func68, Tryd.ntmps68
  go_wp2_with (go_at_call 81; refine (HC.out _ (Ext.refl _)).mono ?_; rintro e w1 ⟨rfl, x1⟩)
  go_ret
  exact ⟨ret_bool HF.out, ((Ext.refl _).alloc _).trans x1⟩

theorem enters_name1 : ∀ args w, (callFunc 69 args).run Tryd.prog w = .ok (.enter 69 args) w := enters_of Tryd.func69 (by kernel_rfl) rfl
theorem enters_exn1 : ∀ args w, (callFunc 71 args).run Tryd.prog w = .ok (.enter 71 args) w := enters_of Tryd.func71 (by kernel_rfl) rfl

set_option maxHeartbeats 400000 in
theorem words_name (l : List ByteArray) (w : World) (a : Option Addr) (len cap : Nat) (h1 : len ≤ cap) (h2 : cap ≤ 9223372036854775807) (hk : Knob w) (hl : IsRow w (vstr l) a len) :
    Calls Tryd.prog 56 #[.slice a len cap] w fun e w' => e = .returned (.bool (l.all isName)) ∧ Ext w w' := by
  have K := Lib.hid (words_all isName 69 enters_name1 (fun w s h => words_name1 s w h) l w a len cap h1 h2 hk hl)
  go_enter Tryd.func56, Tryd.ntmps56
  go_wp2_with (go_at_call 68; refine (K.out).mono ?_; rintro e w1 ⟨rfl, x1⟩)
  go_ret
  exact ⟨rfl, x1⟩
set_option maxHeartbeats 400000 in
theorem words_exn (l : List ByteArray) (w : World) (a : Option Addr) (len cap : Nat) (h1 : len ≤ cap) (h2 : cap ≤ 9223372036854775807) (hk : Knob w) (hl : IsRow w (vstr l) a len) :
    Calls Tryd.prog 57 #[.slice a len cap] w fun e w' => e = .returned (.bool (l.all isExn)) ∧ Ext w w' := by
  have K := Lib.hid (words_all isExn 71 enters_exn1 (fun w s h => words_exn1 s w h) l w a len cap h1 h2 hk hl)
  go_enter Tryd.func57, Tryd.ntmps57
  go_wp2_with (go_at_call 68; refine (K.out).mono ?_; rintro e w1 ⟨rfl, x1⟩)
  go_ret
  exact ⟨rfl, x1⟩
end Go.Proofs.YtaioeailgknfjaaDoor
