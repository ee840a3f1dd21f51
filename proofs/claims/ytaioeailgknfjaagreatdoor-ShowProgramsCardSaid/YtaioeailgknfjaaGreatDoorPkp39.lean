/- Part 39 of the proof: Aw05, Aw06; no condition of ours. -/
import Derived.Test.YtaioeailgknfjaaGreatDoorPkp23
import Derived.Test.YtaioeailgknfjaaGreatDoorPkp38
set_option linter.unusedVariables false
set_option linter.unusedSimpArgs false
namespace Go.Proofs.YtaioeailgknfjaaGreatDoor
open Go.Lib (hid)
open Go Go.RowKit Go.Sort
def Yes5 (w : World) (e : Ending) (w' : World) : Prop := e = .returned (.bool true) ∧ Ext w w'
def x6 : Hd := hd0 10 2
def k6 : List Tm := [.mk (hd0 10 2) [.mk ⟨2, 0, 2, 0, ⟨#[102]⟩, ByteArray.empty, ByteArray.empty⟩ [], .mk ⟨2, 0, 4, 0, ⟨#[120]⟩, ByteArray.empty, ByteArray.empty⟩ []], .mk ⟨2, 0, 7, 0, ⟨#[121]⟩, ByteArray.empty, ByteArray.empty⟩ []]
theorem cls6 : ∀ t, t ∈ (lexR [40, 40, 102, 32, 120, 41, 32, 121, 41]).1 → Cls t := by
  have h : ((lexR [40, 40, 102, 32, 120, 41, 32, 121, 41]).1.all fun t => !(t.k == 1) && !isT [s_bang, w_ref, w_fst, w_snd] [t] && !isT [w_raise] [t] && !isT [w_let, w_letrec, w_fn, w_if, w_try] [t] && !isT [w_let] [t] && !isT [w_letrec] [t] && !isT [w_fn] [t] && !isT [w_if] [t] && !isT [w_try] [t]) = true := by kernel_rfl
  intro t ht
  have h := List.all_eq_true.1 h t ht
  simp only [Bool.and_eq_true, Bool.not_eq_true', beq_eq_false_iff_ne, ne_eq] at h
  obtain ⟨⟨⟨⟨⟨⟨⟨⟨a, b⟩, c⟩, d⟩, e⟩, f⟩, g⟩, i⟩, j⟩ := h
  exact ⟨a, b, c, d, e, f, g, i, j⟩
theorem termR6 : termR [40, 40, 102, 32, 120, 41, 32, 121, 41] = .ok (.mk x6 k6) := by kernel_rfl
theorem showR6 : showR (.mk x6 k6) = (⟨#[102, 32, 120, 32, 121]⟩, 0) := by kernel_rfl
theorem size6 : (Tm.mk x6 k6).size ≤ 1000000 := by decide +kernel
theorem bytes6 (w : World) (t : TypeId) : IsBytes (w.alloc (.cells #[.int .u8 40, .int .u8 40, .int .u8 102, .int .u8 32, .int .u8 120, .int .u8 41, .int .u8 32, .int .u8 121, .int .u8 41] t (9, 10))) [40, 40, 102, 32, 120, 41, 32, 121, 41] (some ⟨w.heap.size, 0, none⟩) 9 := ⟨rfl, fun i v hi => ⟨w.heap.size, 0, rfl, by
  rw [Nat.zero_add]
  rw [World.cell?_alloc_mark]
  have e : vby (il (bs [40, 40, 102, 32, 120, 41, 32, 121, 41])) = [.int .u8 40, .int .u8 40, .int .u8 102, .int .u8 32, .int .u8 120, .int .u8 41, .int .u8 32, .int .u8 121, .int .u8 41] := rfl
  rw [e] at hi
  simpa using hi⟩⟩
set_option maxRecDepth 60000 in
set_option maxHeartbeats 2000000 in
theorem law06_awake (w : World) (hk : Knob w) (ht : Tab w) : Calls Tryz.prog 21 #[] w (Yes5 w) := by
  have KT := hid fun (W : World) (c : Nat) (a : Option Addr) (h1 : 9 ≤ c) (h2 : c ≤ 9223372036854775807) (hx : Ext w W) (hb : IsBytes W [40, 40, 102, 32, 120, 41, 32, 121, 41] a 9) => parse_term _ W a 9 c h1 h2 hb (hk.ext hx) cls6
  have KS := hid fun (W : World) a n c (hx : Ext w W) (h : IsTm W (.mk x6 k6) _) => show_Term x6 k6 W a n c h (hk.ext hx) (ht.ext hx) size6
  rw [termR6] at KT
  rw [showR6] at KS
  clear hk ht
  have kc := fun (w : World) (C : Array Value) (n c : Nat) => Lib.run_convert_bytes_const (P := Tryz.prog) w 22 5 C n c Tryz.underlying22 Tryz.underlying5
  go_enter Tryz.func21, Tryz.ntmps21
  go_upto_region 2 with (go_at_call 11; refine (KT.out _ 9 _ (by omega) (by omega) (by (exact eX)) (bytes6 w _)).mono ?_; rintro e w1 ⟨x1, v, rfl, hv⟩; obtain ⟨a, n, c, rfl, -, -, -, -⟩ := hv.open_)
  have Y1 : Ext w w1 := Ext.trans ((Ext.refl w).alloc _) x1
  have HT := hv.ext ((Ext.refl w1).alloc (.cells #[.int .u8 x6.k, .int .u8 x6.op, .int .i64 x6.pos, .int .i64 x6.n, .string x6.name, .string x6.arg, .string x6.exn, .slice a n c] 28))
  have KS2 := hid (KS.out _ a n c (Y1.alloc _) HT)
  have Y2 := hid (Y1.alloc (.cells #[.int .u8 x6.k, .int .u8 x6.op, .int .i64 x6.pos, .int .i64 x6.n, .string x6.name, .string x6.arg, .string x6.exn, .slice a n c] 28))
  clear hv x1 Y1 HT KS KT
  simp only [x6, hd0] at KS2 Y2
  go_wp2_with (go_at_call 22; refine (KS2.out).mono ?_; rintro e w2 ⟨rfl, x2⟩)
  go_ret
  exact ⟨rfl, Y2.out.trans x2⟩
end Go.Proofs.YtaioeailgknfjaaGreatDoor
