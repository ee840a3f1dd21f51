/- The walk of the document's example of layer 5. -/
import Derived.Test.YtaioeailgknfjaaGreatDoorParse19
import Derived.Lib.SlBytesConst
namespace Go.Proofs.YtaioeailgknfjaaGreatDoor
open Go Go.RowKit Go.Sort

def Yes5 (w : World) (e : Ending) (w' : World) : Prop := e = .returned (.bool true) ∧ Ext w w'
def t5a : Tm := .mk (hd0 10 0) [.mk ⟨2, 0, 0, 0, ⟨#[102]⟩, ByteArray.empty, ByteArray.empty⟩ [], .mk ⟨2, 0, 2, 0, ⟨#[120]⟩, ByteArray.empty, ByteArray.empty⟩ []]
def t5b : Tm := .mk ⟨1, 0, 6, 1, ByteArray.empty, ByteArray.empty, ByteArray.empty⟩ []
theorem termR5 : termR [102, 32, 120, 32, 43, 32, 49] = .ok (.mk ⟨9, 1, 0, 0, ByteArray.empty, ByteArray.empty, ByteArray.empty⟩ [t5a, t5b]) := by kernel_rfl
theorem bytes5 (w : World) (t : TypeId) : IsBytes (w.alloc (.cells #[.int .u8 102, .int .u8 32, .int .u8 120, .int .u8 32, .int .u8 43, .int .u8 32, .int .u8 49] t (7, 8))) [102, 32, 120, 32, 43, 32, 49] (some ⟨w.heap.size, 0, none⟩) 7 := ⟨rfl, fun i v hi => ⟨w.heap.size, 0, rfl, by
  rw [Nat.zero_add]
  rw [World.cell?_alloc_mark]
  have e : vby (il (bs [102, 32, 120, 32, 43, 32, 49])) = [.int .u8 102, .int .u8 32, .int .u8 120, .int .u8 32, .int .u8 43, .int .u8 32, .int .u8 49] := rfl
  rw [e] at hi
  simpa using hi⟩⟩
theorem term5 (W : World) (c : Nat) (h1 : 7 ≤ c) (h2 : c ≤ 9223372036854775807) (hk : Knob W) (t : TypeId) : Calls Tryz.prog 11 #[.slice (some ⟨W.heap.size, 0, none⟩) 7 c] (W.alloc (.cells #[.int .u8 102, .int .u8 32, .int .u8 120, .int .u8 32, .int .u8 43, .int .u8 32, .int .u8 49] t (7, 8))) fun e w' =>
    ∃ b o c, e = .returned (.tuple #[.agg #[.int .u8 9, .int .u8 1, .int .i64 0, .int .i64 0, .string ByteArray.empty, .string ByteArray.empty, .string ByteArray.empty, .slice (some ⟨b, o, none⟩) 2 c], .int .i64 0, .int .i64 0]) ∧ 2 ≤ c ∧ c ≤ 9223372036854775807 ∧ w'.cell? ⟨b, o, none⟩ = some (.int .u8 10) ∧ w'.cell? ⟨b, o + 2, none⟩ = some (.int .i64 0) ∧ w'.cell? ⟨b, o + 8 + 2, none⟩ = some (.int .i64 6) ∧ Ext W w' := by
  refine (parse_term _ _ _ 7 c h1 h2 (bytes5 W _) (hk.ext ((Ext.refl _).alloc _))).mono ?_
  rintro e w' ⟨hx, hh⟩
  rw [termR5] at hh
  obtain ⟨v, rfl, a, n, c', rfl, hf, g1, g2, hT⟩ := hh
  have hl := hT.length
  obtain rfl : n = 2 := hl
  obtain ⟨b, o, rfl, -, hA⟩ := hT.place (i := 0) (t := t5a) rfl
  obtain ⟨b', o', e', -, hB⟩ := hT.place (i := 1) (t := t5b) rfl
  cases e'
  unfold t5a at hA
  unfold t5b at hB
  obtain ⟨_, _, _, dA, -⟩ := hA.val
  obtain ⟨_, _, _, dB, -⟩ := hB.val
  refine ⟨b, o, c', rfl, g1, g2, ?_, ?_, ?_, ((Ext.refl _).alloc _).trans hx⟩
  · have := dA.c0; simpa [hd0] using this
  · have := dA.c2; simpa [hd0] using this
  · have := dB.c2; simpa using this
set_option maxRecDepth 8000 in
set_option maxHeartbeats 2000000 in
theorem law05_awake (w : World) (hk : Knob w) : Calls Tryz.prog 10 #[] w (Yes5 w) := by
  have KT := Lib.hid (term5 w 7 (by omega) (by omega) hk 5)
  clear hk
  have kc := fun (w : World) (C : Array Value) (n c : Nat) => Lib.run_convert_bytes_const (P := Tryz.prog) w 22 5 C n c Tryz.underlying22 Tryz.underlying5
  go_enter Tryz.func10, Tryz.ntmps10
  go_wp2_with (go_at_call 11; refine (KT.out).mono ?_; rintro e w1 ⟨b, o, c, rfl, h1, h2, q0, q1, q2, x1⟩; have hb := World.block_lt_of_cell? _ _ q0)
  go_ret
  exact ⟨rfl, by (repeat (first | (with_reducible assumption) | (with_reducible exact Ext.refl _) | (with_reducible refine Ext.alloc ?_ _) | (with_reducible refine Ext.drew ?_) | ((with_reducible refine Ext.setCell ?_ ?_ _); rotate_left 1; (first | (focus (simp; done)) | (focus (simp; omega)) | omega)) | exact Ext.refl _ | assumption | refine Ext.alloc ?_ _ | refine Ext.drew ?_ | refine Ext.setCell ?_ (by (first | (focus (simp; done)) | (focus (simp; omega)) | omega)) _ | refine Ext.trans ?_ (by assumption)))⟩
end Go.Proofs.YtaioeailgknfjaaGreatDoor
