/- Part 39 of the proof: Show6, Aw05, Aw06; no condition of ours. -/
import Derived.Test.YtaioeailgknfjaaGreatDoorPku24
import Derived.Test.YtaioeailgknfjaaGreatDoorPku31
import Derived.Test.YtaioeailgknfjaaGreatDoorPku37
import Derived.Test.YtaioeailgknfjaaGreatDoorPku38
set_option linter.unusedVariables false
set_option linter.unusedSimpArgs false
namespace Go.Proofs.YtaioeailgknfjaaGreatDoor
open Go Go.RowKit Go.Sort
theorem join_eq (ws : List Wk) : Lib.join ((ws.map (·.2)).map (·.data.toList)) [32] = joinW ws := by
  unfold Lib.join
  induction ws with
  | nil => rfl
  | cons w l ih =>
    cases l with
    | nil => simp [joinW, List.intercalate]
    | cons v l =>
      rw [joinW_cons w (by simp), ← ih]
      simp [List.intercalate, List.intersperse]
theorem show_join (g : Nat) (v : Value) (ws : List Wk) (w : World) (h : WrAt w g v (ws.map (·.2))) (hn : ws.length ≤ 1000000) (hok : ∀ x, x ∈ ws → WkOk x) :
    Calls Tryz.prog 49 #[v, .string ⟨#[32]⟩] w fun e w' => e = .returned (.string (bs (joinW ws))) ∧ Ext w w' := by
  have hlen : (ws.map (·.2)).length = ws.length := by simp
  have hj := joinW_len ws hok
  have h' := h.row
  rw [hlen] at h'
  by_cases h0 : ws.length = 0
  · have hl : ws = [] := List.eq_nil_of_length_eq_zero h0
    subst hl
    obtain ⟨a, c, rfl⟩ := h.slice
    refine (Any.strings_Join_none Tryz.lays156 Tryz.Builder_Extra_156 a c ⟨#[32]⟩ w).mono ?_
    rintro e W' ⟨rfl, rfl⟩
    exact ⟨rfl, Ext.refl _⟩
  · obtain ⟨b, cp, rfl, _, hg, hc, _, hcell⟩ := owns_open h' (by omega)
    have e0 : Lib.join ((ws.map (·.2)).map (·.data.toList)) (ByteArray.data ⟨#[32]⟩).toList = joinW ws := join_eq ws
    have K := Tryz.strings_Join b 0 cp (ws.map (·.2)) ⟨#[32]⟩ w (fun j x hj => by
      have := hcell j (.string x) (by unfold vstr; rw [List.getElem?_map, hj]; rfl)
      rw [Nat.zero_add]
      exact this) hg (by omega) (by omega) (by rw [e0]; omega)
    rw [e0, hlen] at K
    exact K
def showR (t : Tm) : ByteArray × Int := if t.may then (bs (joinW t.wk), 0) else (ByteArray.empty, 1)
theorem may_nodes {t : Tm} (h : t.may = true) : t.size ≤ 4000 ∧ ∀ u, u ∈ t.all → u.node = true := by
  unfold Tm.may at h
  simp only [Bool.and_eq_true, decide_eq_true_eq, List.all_eq_true] at h
  exact h
set_option maxRecDepth 60000 in
set_option maxHeartbeats 4000000 in
theorem show_Term (x : Hd) (ks : List Tm) (w : World) (a : Option Addr) (n c : Nat) (ht : IsTm w (.mk x ks) (.agg #[.int .u8 x.k, .int .u8 x.op, .int .i64 x.pos, .int .i64 x.n, .string x.name, .string x.arg, .string x.exn, .slice a n c])) (hk : Knob w) (htab : Tab w) (hs : (Tm.mk x ks).size ≤ 1000000) :
    Calls Tryz.prog 22 #[.agg #[.int .u8 x.k, .int .u8 x.op, .int .i64 x.pos, .int .i64 x.n, .string x.name, .string x.arg, .string x.exn, .slice a n c]] w fun e w' => e = .returned (.tuple #[.string (showR (.mk x ks)).1, .int .i64 (showR (.mk x ks)).2]) ∧ Ext w w' := by
  have KM := Lib.hid fun W (h : Ext w W) => term_may (.mk x ks) W _ (ht.ext h) (hk.ext h) hs
  have HT := Lib.hid ht
  have HTAB := Lib.hid htab
  unfold showR
  cases hm : (Tm.mk x ks).may with
  | false =>
    rw [hm] at KM
    clear ht hk htab hs hm HT HTAB
    go_enter Tryz.func22, Tryz.ntmps22
    go_wp2_with (go_at_call 47; refine (KM.out _ (by (exact eX))).mono ?_; rintro e w1 ⟨rfl, x1⟩)
    exact bodyPost_ret (v := .tuple #[.string ByteArray.empty, .int .i64 1]) (by simp [results, Tryz.results22, go_sem]; rfl) rfl ⟨rfl, by (exact eX)⟩
  | true =>
    obtain ⟨hsz, hn⟩ := may_nodes hm
    have hwk := wk_size (.mk x ks) hn
    have hok := words_ok (.mk x ks) hn
    rw [hm] at KM
    have KW := Lib.hid fun W g v (h1 : WrAt W g v []) (h2 : IsTmA (fun b => g ≤ b) W (.mk x ks) _) => writer_term _ x ks g v [] W a n c (Nat.le_refl _) hn h1 h2 (by simp; omega)
    have KJ := Lib.hid fun W g v (h1 : WrAt W g v ((Tm.mk x ks).wk.map (·.2))) => show_join g v (Tm.mk x ks).wk W h1 (by omega) hok
    have ew : (Tm.mk x ks).wx = (Tm.mk x ks).wk.map (·.2) := rfl
    rw [ew] at KW
    simp only [List.nil_append] at KW
    generalize (Tm.mk x ks).wk = wk at *
    clear hm hsz hn hwk hok ew ht hk htab hs
    go_enter Tryz.func22, Tryz.ntmps22
    go_upto_region 3 with (go_at_call 47; refine (KM.out _ (by (exact eX))).mono ?_; rintro e w1 ⟨rfl, x1⟩; obtain ⟨d0, d1, d2, d3, d4, d5, d6, d7⟩ := (blk_top x1).eight)
    have B1 := Lib.hid (blk_top x1)
    have Y1 : Ext w w1 := by (exact eX)
    have HY1 := Lib.hid Y1
    have hw1 := B1.out.lt
    have hsz := Below.size Y1
    have W2 : WrAt (w1.alloc (.cells #[.slice none 0 0] 85)) w1.heap.size (.slice none 0 0) [] := ⟨Blk.new w1 _ _, World.ownsRow_nil _ _ _ _, ⟨w, HTAB.out, hsz, Y1.alloc _⟩⟩
    have HW2 := Lib.hid W2
    have T2 : Hid (IsTmA (fun b => w1.heap.size ≤ b) (w1.alloc (.cells #[.slice none 0 0] 85)) (.mk x ks) (.agg #[.int .u8 x.k, .int .u8 x.op, .int .i64 x.pos, .int .i64 x.n, .string x.name, .string x.arg, .string x.exn, .slice a n c])) := Lib.hid (HT.out.fresh (Y1.alloc _) (fun b hb => by omega))
    obtain ⟨d0, d1, d2, d3, d4, d5, d6, d7⟩ := (B1.out.alloc (.cells #[.slice none 0 0] 85)).eight
    go_upto_region 5 with (go_at_call 48; refine (KW.out _ w1.heap.size (.slice none 0 0) HW2.out T2.out).mono ?_; intro e w3 hh; obtain ⟨rfl, v3, M3⟩ := hh.to; have e0 := M3.at_.blk.cell 0; simp at e0)
    have HM3 := Lib.hid M3
    have Y3 : Ext w w3 := ExtX.ext (Y1.alloc _) M3.x (fun b hb => by rcases hb with hb | hb; omega; simp [Value.ownBlock] at hb)
    have HY3 := Lib.hid Y3
    clear hh M3 d0 d1 d2 d3 d4 d5 d6 d7 Y1 Y3 x1 W2 e0
    obtain ⟨va, vc, hv⟩ := HM3.out.at_.slice
    rw [List.length_map] at hv
    subst hv
    have e0 := HM3.out.at_.blk.cell 0
    simp at e0
    go_wp2_with (go_at_call 49; refine (KJ.out w3 _ _ HM3.out.at_).mono ?_; rintro e w4 ⟨rfl, x4⟩)
    exact bodyPost_ret (v := .tuple #[.string (bs (joinW wk)), .int .i64 0]) (by simp [results, Tryz.results22, go_sem]) rfl ⟨rfl, HY3.out.trans x4⟩
def Yes5 (w : World) (e : Ending) (w' : World) : Prop := e = .returned (.bool true) ∧ Ext w w'
def x6 : Hd := hd0 10 2
def k6 : List Tm := [.mk (hd0 10 2) [.mk ⟨2, 0, 2, 0, ⟨#[102]⟩, ByteArray.empty, ByteArray.empty⟩ [], .mk ⟨2, 0, 4, 0, ⟨#[120]⟩, ByteArray.empty, ByteArray.empty⟩ []], .mk ⟨2, 0, 7, 0, ⟨#[121]⟩, ByteArray.empty, ByteArray.empty⟩ []]
theorem termR6 : termR [40, 40, 102, 32, 120, 41, 32, 121, 41] = .ok (.mk x6 k6) := by kernel_rfl
theorem showR6 : showR (.mk x6 k6) = (⟨#[102, 32, 120, 32, 121]⟩, 0) := by kernel_rfl
theorem size6 : (Tm.mk x6 k6).size ≤ 1000000 := by decide +kernel
theorem bytes6 (w : World) (t : TypeId) : IsBytes (w.alloc (.cells #[.int .u8 40, .int .u8 40, .int .u8 102, .int .u8 32, .int .u8 120, .int .u8 41, .int .u8 32, .int .u8 121, .int .u8 41] t (9, 10))) [40, 40, 102, 32, 120, 41, 32, 121, 41] (some ⟨w.heap.size, 0, none⟩) 9 := ⟨rfl, fun i v hi => ⟨w.heap.size, 0, rfl, by
  rw [Nat.zero_add]
  rw [World.cell?_alloc_mark]
  have e : vby (il (bs [40, 40, 102, 32, 120, 41, 32, 121, 41])) = [.int .u8 40, .int .u8 40, .int .u8 102, .int .u8 32, .int .u8 120, .int .u8 41, .int .u8 32, .int .u8 121, .int .u8 41] := rfl
  rw [e] at hi
  simpa using hi⟩⟩
set_option maxRecDepth 60000 in
set_option maxHeartbeats 2000000 in
theorem law06_awake (w : World) (hk : Knob w) (ht : Tab w) : Calls Tryz.prog 21 #[] w (Yes5 w) := by
  have KT := Lib.hid fun (W : World) (c : Nat) (a : Option Addr) (h1 : 9 ≤ c) (h2 : c ≤ 9223372036854775807) (hx : Ext w W) (hb : IsBytes W [40, 40, 102, 32, 120, 41, 32, 121, 41] a 9) => parse_term _ W a 9 c h1 h2 hb (hk.ext hx)
  have KS := Lib.hid fun (W : World) a n c (hx : Ext w W) (h : IsTm W (.mk x6 k6) _) => show_Term x6 k6 W a n c h (hk.ext hx) (ht.ext hx) size6
  rw [termR6] at KT
  rw [showR6] at KS
  clear hk ht
  have kc := fun (w : World) (C : Array Value) (n c : Nat) => Lib.run_convert_bytes_const (P := Tryz.prog) w 22 5 C n c Tryz.underlying22 Tryz.underlying5
  go_enter Tryz.func21, Tryz.ntmps21
  go_upto_region 2 with (go_at_call 11; refine (KT.out _ 9 _ (by omega) (by omega) (by (exact eX)) (bytes6 w _)).mono ?_; rintro e w1 ⟨x1, v, rfl, hv⟩; obtain ⟨a, n, c, rfl, -, -, -, -⟩ := hv.open_)
  have Y1 : Ext w w1 := Ext.trans ((Ext.refl w).alloc _) x1
  have HT := hv.ext ((Ext.refl w1).alloc (.cells #[.int .u8 x6.k, .int .u8 x6.op, .int .i64 x6.pos, .int .i64 x6.n, .string x6.name, .string x6.arg, .string x6.exn, .slice a n c] 28))
  have KS2 := Lib.hid (KS.out _ a n c (Y1.alloc _) HT)
  have Y2 := Lib.hid (Y1.alloc (.cells #[.int .u8 x6.k, .int .u8 x6.op, .int .i64 x6.pos, .int .i64 x6.n, .string x6.name, .string x6.arg, .string x6.exn, .slice a n c] 28))
  clear hv x1 Y1 HT KS KT
  simp only [x6, hd0] at KS2 Y2
  go_wp2_with (go_at_call 22; refine (KS2.out).mono ?_; rintro e w2 ⟨rfl, x2⟩)
  go_ret
  exact ⟨rfl, Y2.out.trans x2⟩
end Go.Proofs.YtaioeailgknfjaaGreatDoor
