/- The walk of the document's example of layer 3. -/
import Derived.Test.YtaioeailgknfjaaDoorToken5
import Derived.Lib.SlBytesConst
namespace Go.Proofs.YtaioeailgknfjaaDoor
open Go Go.RowKit Go.Sort

def Yes3 (w : World) (e : Ending) (w' : World) : Prop := e = .returned (.bool true) ∧ Ext w w'
def toks3 : List Tk := [⟨2, ⟨#[120]⟩, 0⟩, ⟨5, ⟨#[58, 61]⟩, 1⟩, ⟨1, ⟨#[49]⟩, 3⟩, ⟨6, ⟨#[]⟩, 4⟩]
theorem lexR3 : lexR [120, 58, 61, 49] = (toks3, 0, 0) := by kernel_rfl
theorem join3 : joinTk toks3 = [120, 32, 58, 61, 32, 49, 32] := by kernel_rfl
theorem bytes3 (w : World) (t : TypeId) : IsBytes (w.alloc (.cells #[.int .u8 120, .int .u8 58, .int .u8 61, .int .u8 49] t (4, 5))) [120, 58, 61, 49] (some ⟨w.heap.size, 0, none⟩) 4 := ⟨rfl, fun i v hi => ⟨w.heap.size, 0, rfl, by
  rw [Nat.zero_add]
  rw [World.cell?_alloc_mark]
  have e : vby (il (bs [120, 58, 61, 49])) = [.int .u8 120, .int .u8 58, .int .u8 61, .int .u8 49] := rfl
  rw [e] at hi
  simpa using hi⟩⟩
theorem lex3 (W : World) (c : Nat) (h1 : 4 ≤ c) (h2 : c ≤ 9223372036854775807) (hk : Knob W) (t : TypeId) : Calls Tryd.prog 8 #[.slice (some ⟨W.heap.size, 0, none⟩) 4 c] (W.alloc (.cells #[.int .u8 120, .int .u8 58, .int .u8 61, .int .u8 49] t (4, 5))) fun e w' =>
    ∃ b o c, e = .returned (.tuple #[.slice (some ⟨b, o, none⟩) 4 c, .int .i64 0, .int .i64 0]) ∧ 4 ≤ c ∧ c ≤ 9223372036854775807 ∧ IsToks w' toks3 (some ⟨b, o, none⟩) 4 ∧ w'.cell? ⟨b, o + 1 * 3 + 1, none⟩ = some (.string ⟨#[58, 61]⟩) ∧ w'.cell? ⟨b, o + 3 * 3, none⟩ = some (.int .u8 6) ∧ Ext W w' := by
  refine (token_lex _ _ _ 4 c h1 h2 (bytes3 W _) (hk.ext ((Ext.refl _).alloc _))).mono ?_
  rintro e w' ⟨a, n, c', rfl, hn, hc, ht, hx⟩
  rw [lexR3] at ht
  have hl := ht.length
  obtain rfl : n = 4 := hl
  obtain ⟨t1, b, o, e1, _, rfl, _, q1, _⟩ := ht.at3 (i := 1) (by omega)
  obtain ⟨t3, b', o', e3, _, e0, q3, _, _⟩ := ht.at3 (i := 3) (by omega)
  cases e0
  cases e1
  cases e3
  exact ⟨b, o, c', by rw [lexR3], hn, hc, ht, q1, q3, ((Ext.refl _).alloc _).trans hx⟩
theorem join3' (W : World) (a : Option Addr) (c : Nat) (h1 : 4 ≤ c) (h2 : c ≤ 9223372036854775807) (ht : IsToks W toks3 a 4) : Calls Tryd.prog 15 #[.slice a 4 c] W fun e w' => e = .returned (.string ⟨#[120, 32, 58, 61, 32, 49, 32]⟩) ∧ Ext W w' := by
  have h := token_join toks3 W a 4 c h1 h2 ht (by omega) (by rw [join3]; simp)
  rw [join3] at h
  exact h
set_option maxRecDepth 8000 in
set_option maxHeartbeats 2000000 in
theorem law03_awake (w : World) (hk : Knob w) : Calls Tryd.prog 7 #[] w (Yes3 w) := by
  have KL := Lib.hid (lex3 w 4 (by omega) (by omega) hk 5)
  have KJ := Lib.hid join3'
  clear hk
  have kc := fun (w : World) (C : Array Value) (n c : Nat) => Lib.run_convert_bytes_const (P := Tryd.prog) w 22 5 C n c Tryd.underlying22 Tryd.underlying5
  go_enter Tryd.func7, Tryd.ntmps7
  go_wp2_with (first | (go_at_call 8; refine (KL.out).mono ?_; rintro e w1 ⟨b, o, c, rfl, h1, h2, ht, q1, q3, x1⟩; have HT := Lib.hid ht; clear ht) | (go_at_call 15; refine (KJ.out _ _ _ h1 h2 (HT.out.ext (by (repeat (first | exact Ext.refl _ | assumption | refine Ext.alloc ?_ _ | refine Ext.drew ?_ | refine Ext.setCell ?_ (by first | (simp; done) | (simp; omega) | omega) _ | refine Ext.trans ?_ (by assumption)))))).mono ?_; rintro e w2 ⟨rfl, x2⟩))
  go_ret
  exact ⟨rfl, by (repeat (first | exact Ext.refl _ | assumption | refine Ext.alloc ?_ _ | refine Ext.drew ?_ | refine Ext.setCell ?_ (by first | (simp; done) | (simp; omega) | omega) _ | refine Ext.trans ?_ (by assumption)))⟩
end Go.Proofs.YtaioeailgknfjaaDoor
