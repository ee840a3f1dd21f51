/- Part 38 of the proof: Term3, Show6, Law05c, PureH6, Show7; no condition of ours. -/
import Derived.Test.YtaioeailgknfjaaGreatDoorPkp1
import Derived.Test.YtaioeailgknfjaaGreatDoorPkp5
import Derived.Test.YtaioeailgknfjaaGreatDoorPkp23
import Derived.Test.YtaioeailgknfjaaGreatDoorPkp24
import Derived.Test.YtaioeailgknfjaaGreatDoorPkp25
import Derived.Test.YtaioeailgknfjaaGreatDoorPkp31
import Derived.Test.YtaioeailgknfjaaGreatDoorPkp33
import Derived.Test.YtaioeailgknfjaaGreatDoorPkp37
set_option linter.unusedVariables false
set_option linter.unusedSimpArgs false
namespace Go.Proofs.YtaioeailgknfjaaGreatDoor
open Go.Lib (hid)
open Go Go.RowKit Go.Sort
theorem enters_node4 : ∀ args w, (callFunc 75 args).run Tryz.prog w = .ok (.enter 75 args) w := enters_of Tryz.func75 (by kernel_rfl) rfl
def gKnob : Gauge Unit where
  R := fun _ w => Knob w
  own := noOwn
  keep := fun _ _ _ h hx => ⟨Knob.ext h hx, fun _ h => h⟩
  lt := fun _ _ _ _ hk => hk.elim
theorem node_steps : Steps0 gKnob (fun s t => (s, t.node)) (fun _ _ => True) 75 := by
  intro _ w x l a len cap hR hr hf h1 h2 hl
  refine (term_node (.mk x l) w _ (IsTmA.mk_ hl.any h1 h2 hf) hR).mono ?_
  rintro e w' ⟨rfl, hx⟩
  exact ⟨rfl, Knob.ext hR hx, oext_none hx⟩
set_option maxHeartbeats 400000 in
theorem term_may (t : Tm) (w : World) (v : Value) (ht : IsTm w t v) (hkn : Knob w) (hs : t.size ≤ 1000000) :
    Calls Tryz.prog 47 #[v] w fun e w' => e = .returned (.bool t.may) ∧ Ext w w' := by
  obtain ⟨x, l⟩ := t
  obtain ⟨a, len, cap, rfl, h1, h2, hf, hl⟩ := ht.open_
  have hsz : Tm.sizes [.mk x l] = (Tm.mk x l).size := by simp [Tm.sizes]
  have hall : Tm.alls [.mk x l] = (Tm.mk x l).all := by simp [Tm.alls]
  have KS := hid fun W b (h : IsTms W [.mk x l] b 1) => term_size [.mk x l] W b 1 1 (by omega) (Nat.le_refl _) (by omega) h
  have KN := hid fun W b (hk : Knob W) (h : IsTms W [.mk x l] b 1) => term_each0 gKnob (fun s t => (s, t.node)) (fun _ _ => True) (fun _ _ _ _ => trivial) (fun _ _ _ _ _ => trivial) 75 enters_node4 node_steps _ [.mk x l] () W b 1 1 (Nat.le_refl _) hk trivial (Nat.le_refl _) (by omega)
    (h.fresh (A' := noOwn W) (Ext.refl W) fun k hk => hk.elim)
  rw [hsz] at KS
  have hres := Tm.walks_all Tm.node [.mk x l]
  rw [hall] at hres
  rw [hres] at KN
  have HM : Hid ((Tm.mk x l).may = (decide ((Tm.mk x l).size ≤ 4000) && (Tm.mk x l).all.all Tm.node)) := rfl
  have x0 : Ext w (w.alloc (.cells #[.int .u8 x.k, .int .u8 x.op, .int .i64 x.pos, .int .i64 x.n, .string x.name, .string x.arg, .string x.exn, .slice a len cap] 28)) := (Ext.refl _).alloc _
  have HR : Hid (∀ W n, Ext w W → n = W.heap.size → IsTms (W.alloc (.cells #[.int .u8 x.k, .int .u8 x.op, .int .i64 x.pos, .int .i64 x.n, .string x.name, .string x.arg, .string x.exn, .slice a len cap] 28)) [.mk x l] (some ⟨n, 0, none⟩) 1) := by
    intro W n h e
    subst e
    exact IsTms.new 28 (hl.ext h) h1 h2 hf
  generalize (Tm.mk x l).size = sz at *
  generalize (Tm.mk x l).all.all Tm.node = b at *
  clear hres hall hsz ht hf hl
  by_cases h4 : sz ≤ 4000
  · have hd : decide ((sz : Int) ≤ 4000) = true := by simp; omega
    rw [decide_eq_true h4] at HM
    clear h4
    go_enter Tryz.func47, Tryz.ntmps47
    go_wp2_with fail
    refine (KS.out _ _ (HR.out _ (w.heap.size + 1) x0 (by simp))).mono ?_
    rintro e w1 ⟨rfl, x1⟩
    have y1 := x0.trans (((Ext.refl _).alloc _).trans x1)
    have q0 := x1.cell (p := ⟨w.heap.size, 0, none⟩) (v := .int .u8 x.k) (by simp [go_sem])
    have q1 := x1.cell (p := ⟨w.heap.size, 1, none⟩) (v := .int .u8 x.op) (by simp [go_sem])
    have q2 := x1.cell (p := ⟨w.heap.size, 2, none⟩) (v := .int .i64 x.pos) (by simp [go_sem])
    have q3 := x1.cell (p := ⟨w.heap.size, 3, none⟩) (v := .int .i64 x.n) (by simp [go_sem])
    have q4 := x1.cell (p := ⟨w.heap.size, 4, none⟩) (v := .string x.name) (by simp [go_sem])
    have q5 := x1.cell (p := ⟨w.heap.size, 5, none⟩) (v := .string x.arg) (by simp [go_sem])
    have q6 := x1.cell (p := ⟨w.heap.size, 6, none⟩) (v := .string x.exn) (by simp [go_sem])
    have q7 := x1.cell (p := ⟨w.heap.size, 7, none⟩) (v := .slice a len cap) (by simp [go_sem])
    have hlt : w.heap.size < w1.heap.size := by have := y1.size; have := x1.size; simp at this; omega
    go_wp2_with fail
    refine (KN.out _ _ (hkn.ext (y1.alloc _)) (HR.out _ _ y1 rfl)).mono ?_
    rintro e w2 ⟨rfl, r2, x2⟩
    go_wp2_with fail
    go_ret
    exact ⟨ret_bool (by rw [HM.out]; simp), (y1.alloc _).trans (none_oext x2)⟩
  · have hd : decide ((sz : Int) ≤ 4000) = false := by simp; omega
    rw [decide_eq_false h4] at HM
    clear h4
    go_enter Tryz.func47, Tryz.ntmps47
    go_wp2_with fail
    refine (KS.out _ _ (HR.out _ (w.heap.size + 1) x0 (by simp))).mono ?_
    rintro e w1 ⟨rfl, x1⟩
    go_wp2_with fail
    go_ret
    exact ⟨ret_bool (by rw [HM.out]; simp), x0.trans (((Ext.refl _).alloc _).trans x1)⟩
theorem join_eq (ws : List Wk) : Lib.join ((ws.map (·.2)).map (·.data.toList)) [32] = joinW ws := by
  unfold Lib.join
  induction ws with
  | nil => rfl
  | cons w l ih =>
    cases l with
    | nil => simp [joinW, List.intercalate]
    | cons v l =>
      rw [joinW_cons w (by simp), ← ih]
      simp [List.intercalate, List.intersperse]
theorem show_join (g : Nat) (v : Value) (ws : List Wk) (w : World) (h : WrAt w g v (ws.map (·.2))) (hn : ws.length ≤ 1000000) (hok : ∀ x, x ∈ ws → WkOk x) :
    Calls Tryz.prog 49 #[v, .string ⟨#[32]⟩] w fun e w' => e = .returned (.string (bs (joinW ws))) ∧ Ext w w' := by
  have hlen : (ws.map (·.2)).length = ws.length := by simp
  have hj := joinW_len ws hok
  have h' := h.row
  rw [hlen] at h'
  by_cases h0 : ws.length = 0
  · have hl : ws = [] := List.eq_nil_of_length_eq_zero h0
    subst hl
    obtain ⟨a, c, rfl⟩ := h.slice
    refine (Any.strings_Join_none Tryz.lays156 Tryz.Builder_Extra_156 a c ⟨#[32]⟩ w).mono ?_
    rintro e W' ⟨rfl, rfl⟩
    exact ⟨rfl, Ext.refl _⟩
  · obtain ⟨b, cp, rfl, _, hg, hc, _, hcell⟩ := owns_open h' (by omega)
    have e0 : Lib.join ((ws.map (·.2)).map (·.data.toList)) (ByteArray.data ⟨#[32]⟩).toList = joinW ws := join_eq ws
    have K := Tryz.strings_Join b 0 cp (ws.map (·.2)) ⟨#[32]⟩ w (fun j x hj => by
      have := hcell j (.string x) (by unfold vstr; rw [List.getElem?_map, hj]; rfl)
      rw [Nat.zero_add]
      exact this) hg (by omega) (by omega) (by rw [e0]; omega)
    rw [e0, hlen] at K
    exact K
def showR (t : Tm) : ByteArray × Int := if t.may then (bs (joinW t.wk), 0) else (ByteArray.empty, 1)
theorem may_nodes {t : Tm} (h : t.may = true) : t.size ≤ 4000 ∧ ∀ u, u ∈ t.all → u.node = true := by
  unfold Tm.may at h
  simp only [Bool.and_eq_true, decide_eq_true_eq, List.all_eq_true] at h
  exact h
set_option maxRecDepth 60000 in
set_option maxHeartbeats 4000000 in
theorem show_Term (x : Hd) (ks : List Tm) (w : World) (a : Option Addr) (n c : Nat) (ht : IsTm w (.mk x ks) (.agg #[.int .u8 x.k, .int .u8 x.op, .int .i64 x.pos, .int .i64 x.n, .string x.name, .string x.arg, .string x.exn, .slice a n c])) (hk : Knob w) (htab : Tab w) (hs : (Tm.mk x ks).size ≤ 1000000) :
    Calls Tryz.prog 22 #[.agg #[.int .u8 x.k, .int .u8 x.op, .int .i64 x.pos, .int .i64 x.n, .string x.name, .string x.arg, .string x.exn, .slice a n c]] w fun e w' => e = .returned (.tuple #[.string (showR (.mk x ks)).1, .int .i64 (showR (.mk x ks)).2]) ∧ Ext w w' := by
  have KM := hid fun W (h : Ext w W) => term_may (.mk x ks) W _ (ht.ext h) (hk.ext h) hs
  have HT := hid ht
  have HTAB := hid htab
  unfold showR
  cases hm : (Tm.mk x ks).may with
  | false =>
    rw [hm] at KM
    clear ht hk htab hs hm HT HTAB
    go_enter Tryz.func22, Tryz.ntmps22
    go_wp2_with (go_at_call 47; refine (KM.out _ (by (exact eX))).mono ?_; rintro e w1 ⟨rfl, x1⟩)
    exact bodyPost_ret (v := .tuple #[.string ByteArray.empty, .int .i64 1]) (by simp [results, Tryz.results22, go_sem]; rfl) rfl ⟨rfl, by (exact eX)⟩
  | true =>
    obtain ⟨hsz, hn⟩ := may_nodes hm
    have hwk := wk_size (.mk x ks) hn
    have hok := words_ok (.mk x ks) hn
    rw [hm] at KM
    have KW := hid fun W g v (h1 : WrAt W g v []) (h2 : IsTmA (fun b => g ≤ b) W (.mk x ks) _) => writer_term _ x ks g v [] W a n c (Nat.le_refl _) hn h1 h2 (by simp; omega)
    have KJ := hid fun W g v (h1 : WrAt W g v ((Tm.mk x ks).wk.map (·.2))) => show_join g v (Tm.mk x ks).wk W h1 (by omega) hok
    have ew : (Tm.mk x ks).wx = (Tm.mk x ks).wk.map (·.2) := rfl
    rw [ew] at KW
    simp only [List.nil_append] at KW
    generalize (Tm.mk x ks).wk = wk at *
    clear hm hsz hn hwk hok ew ht hk htab hs
    go_enter Tryz.func22, Tryz.ntmps22
    go_upto_region 3 with (go_at_call 47; refine (KM.out _ (by (exact eX))).mono ?_; rintro e w1 ⟨rfl, x1⟩; obtain ⟨d0, d1, d2, d3, d4, d5, d6, d7⟩ := (blk_top x1).eight)
    have B1 := hid (blk_top x1)
    have Y1 : Ext w w1 := by (exact eX)
    have HY1 := hid Y1
    have hw1 := B1.out.lt
    have hsz := Below.size Y1
    have W2 : WrAt (w1.alloc (.cells #[.slice none 0 0] 85)) w1.heap.size (.slice none 0 0) [] := ⟨Blk.new w1 _ _, World.ownsRow_nil _ _ _ _, ⟨w, HTAB.out, hsz, Y1.alloc _⟩⟩
    have HW2 := hid W2
    have T2 : Hid (IsTmA (fun b => w1.heap.size ≤ b) (w1.alloc (.cells #[.slice none 0 0] 85)) (.mk x ks) (.agg #[.int .u8 x.k, .int .u8 x.op, .int .i64 x.pos, .int .i64 x.n, .string x.name, .string x.arg, .string x.exn, .slice a n c])) := hid (HT.out.fresh (Y1.alloc _) (fun b hb => by omega))
    obtain ⟨d0, d1, d2, d3, d4, d5, d6, d7⟩ := (B1.out.alloc (.cells #[.slice none 0 0] 85)).eight
    go_upto_region 5 with (go_at_call 48; refine (KW.out _ w1.heap.size (.slice none 0 0) HW2.out T2.out).mono ?_; intro e w3 hh; obtain ⟨rfl, v3, M3⟩ := hh.to; have e0 := M3.at_.blk.cell 0; simp at e0)
    have HM3 := hid M3
    have Y3 : Ext w w3 := ExtX.ext (Y1.alloc _) M3.x (fun b hb => by rcases hb with hb | hb; omega; simp [Value.ownBlock] at hb)
    have HY3 := hid Y3
    clear hh M3 d0 d1 d2 d3 d4 d5 d6 d7 Y1 Y3 x1 W2 e0
    obtain ⟨va, vc, hv⟩ := HM3.out.at_.slice
    rw [List.length_map] at hv
    subst hv
    have e0 := HM3.out.at_.blk.cell 0
    simp at e0
    go_wp2_with (go_at_call 49; refine (KJ.out w3 _ _ HM3.out.at_).mono ?_; rintro e w4 ⟨rfl, x4⟩)
    exact bodyPost_ret (v := .tuple #[.string (bs (joinW wk)), .int .i64 0]) (by simp [results, Tryz.results22, go_sem]) rfl ⟨rfl, HY3.out.trans x4⟩
instance : Inhabited Tm := ⟨.mk (hd0 0 0) []⟩
theorem IsBytes.world (W : World) (e : TypeId) (B : List UInt8) : IsBytes (Lib.bytesWorld W e (bs B)) B (some ⟨W.heap.size, 0, none⟩) (bs B).size := by
  refine ⟨by rw [vby_il_length], fun i v hi => ⟨W.heap.size, 0, rfl, ?_⟩⟩
  have hlt : i < (bs B).size := by
    have := lt_of_some_ hi
    rw [vby_il_length] at this
    exact this
  rw [Nat.zero_add, Lib.bytesWorld_cell W e (bs B) i hlt]
  have hb : i < B.length := by rw [bs_size] at hlt; exact hlt
  unfold vby at hi
  rw [il_bs, List.map_map, List.getElem?_map, List.getElem?_eq_getElem hb] at hi
  have e1 : (bs B).data.toList = B := bs_list B
  rw [e1, List.getD_eq_getElem?_getD, List.getElem?_eq_getElem hb]
  simpa using hi
end Go.Proofs.YtaioeailgknfjaaGreatDoor
namespace Go.Proofs.YtaioeailgknfjaaGreatDoor
open Go
def exnP : List Tk → List UInt8
  | [] => []
  | e :: l => w_exn.data.toList ++ 32 :: (e.text.data.toList ++ 32 :: (s_semi.data.toList ++ 32 :: exnP l))
theorem exnP_append (l m : List Tk) : exnP (l ++ m) = exnP l ++ exnP m := by
  induction l with
  | nil => rfl
  | cons e l ih => simp [exnP, ih]
theorem exnW_append (l m : List Tk) : exnW (l ++ m) = exnW l ++ exnW m := by
  induction l with
  | nil => rfl
  | cons e l ih => simp [exnW, ih]
theorem progW_ne {es : List Tk} {t : Tm} (h : t.wk ≠ []) : progW es t ≠ [] := fun e => h (List.append_eq_nil_iff.1 e).2
theorem prog_text (es : List Tk) (t : Tm) (h : t.wk ≠ []) : joinW (progW es t) = exnP es ++ joinW t.wk := by
  induction es with
  | nil => rfl
  | cons e l ih =>
    have hne : progW l t ≠ [] := progW_ne h
    show joinW ((4, w_exn) :: (3, e.text) :: (5, s_semi) :: progW l t) = _
    rw [joinW_cons _ (by simp), joinW_cons _ (by simp), joinW_cons _ hne, ih]
    simp [exnP]
theorem progW_len (es : List Tk) (t : Tm) : (progW es t).length = 3 * es.length + t.wk.length := by simp [progW, exnW_len]
def pgMay (es : List Tk) (t : Tm) : Bool := (es.all fun e => isExn e.text) && t.may
theorem pgMay_iff {es : List Tk} {t : Tm} : pgMay es t = true ↔ (∀ e, e ∈ es → isExn e.text = true) ∧ t.may = true := by
  unfold pgMay
  rw [Bool.and_eq_true, List.all_eq_true]
theorem shown_len6 (t : Tm) (h : t.size ≤ 4000) (hn : ∀ u, u ∈ t.all → u.node = true) : (joinW t.wk).length ≤ 1000000 := by
  have h1 := joinW_len t.wk (words_ok t hn)
  have h2 := wk_size t hn
  omega
def showP (es : List Tk) (t : Tm) : ByteArray × Int := if pgMay es t then (bs (joinW (progW es t)), 0) else (ByteArray.empty, 1)
theorem prog_back (es : List Tk) (t : Tm) (he : ∀ e, e ∈ es → isExn e.text = true) (hn : ∀ u, u ∈ t.all → u.node = true) :
    (65536 < (joinW (progW es t)).length ∧ ∃ p, progR (joinW (progW es t)) = .error (p, 3)) ∨ (4001 < (progW es t).length + 1 ∧ ∃ p, progR (joinW (progW es t)) = .error (p, 3)) ∨
    ∃ es' t', progR (joinW (progW es t)) = .ok (es', t') ∧ t'.same t = true ∧ es'.map (fun e => (e.k, e.text)) = es.map fun e => ((3 : Int), e.text) := by
  by_cases hl : 65536 < (joinW (progW es t)).length
  · refine .inl ⟨hl, 0, ?_⟩
    unfold progR runR
    rw [lexR_long hl]
    rfl
  · obtain ⟨q, e, o, h1, h2, h3, h4, h5, h6⟩ := lex_ended (progW es t) (progW_ok he hn) 0
    have hR := lexR_ok hl h1
    have hq : (o.map Tok.tk).length = (progW es t).length + 1 := by simp [h6]
    by_cases hw : 4001 < (progW es t).length + 1
    · refine .inr (.inl ⟨hw, ?_⟩)
      unfold progR runR
      rw [hR]
      simp only
      rw [if_neg (by simp), if_pos (by omega)]
      exact ⟨_, rfl⟩
    · obtain ⟨es', t', e1, e2, e3⟩ := prog_reads es t hn q e h3 h5 h4
      refine .inr (.inr ⟨es', t', ?_, e2, e3⟩)
      unfold progR runR
      rw [hR]
      simp only
      rw [if_neg (by simp), if_neg (by omega), h2, e1]
      simp [kindT, h3]
theorem take_step {es : List Tk} {j : Nat} {t : Tk} (h : es[j]? = some t) : es.take (j + 1) = es.take j ++ [t] := by
  rw [List.take_add_one, h]
  rfl
theorem exn_all {es : List Tk} {j : Nat} {t : Tk} (h : es[j]? = some t) (hall : ∀ e, e ∈ es.take j → isExn e.text = true) (ht : isExn t.text = true) : ∀ e, e ∈ es.take (j + 1) → isExn e.text = true := fun e he => by
  rw [take_step h] at he
  rcases List.mem_append.1 he with he | he
  · exact hall e he
  · rw [List.mem_singleton] at he
    rw [he]
    exact ht
end Go.Proofs.YtaioeailgknfjaaGreatDoor
namespace Go.Proofs.YtaioeailgknfjaaGreatDoor
open Go.Lib (hid)
open Go Go.RowKit Go.Sort
theorem showP_yes {es : List Tk} {t : Tm} (h : pgMay es t = true) : showP es t = (bs (joinW (progW es t)), 0) := if_pos h
theorem showP_no {es : List Tk} {t : Tm} (h : pgMay es t = false) : showP es t = (ByteArray.empty, 1) := if_neg (by rw [h]; decide)
theorem exnW_step {es : List Tk} {j : Nat} {t : Tk} (h : es[j]? = some t) : (exnW (es.take (j + 1))).map (·.2) = (exnW (es.take j)).map (·.2) ++ [w_exn, t.text, s_semi] := by
  rw [take_step h, exnW_append]
  simp [exnW]
set_option maxRecDepth 60000 in
set_option maxHeartbeats 4000000 in
theorem show_Program (es : List Tk) (x : Hd) (ks : List Tm) (w : World) (ea : Option Addr) (en ec : Nat) (a : Option Addr) (n c : Nat) (hTk : IsToks w es ea en) (ht : IsTm w (.mk x ks) (.agg #[.int .u8 x.k, .int .u8 x.op, .int .i64 x.pos, .int .i64 x.n, .string x.name, .string x.arg, .string x.exn, .slice a n c])) (hk : Knob w) (htab : Tab w) (hs : (Tm.mk x ks).size ≤ 1000000) (hes : es.length ≤ 100000) :
    Calls Tryz.prog 26 #[.agg #[.slice ea en ec, .int .u8 x.k, .int .u8 x.op, .int .i64 x.pos, .int .i64 x.n, .string x.name, .string x.arg, .string x.exn, .slice a n c]] w fun e w' => e = .returned (.tuple #[.string (showP es (.mk x ks)).1, .int .i64 (showP es (.mk x ks)).2]) ∧ Ext w w' := by
  have KM := hid fun W (h : Ext w W) => term_may (.mk x ks) W _ (ht.ext h) (hk.ext h) hs
  have KX := hid fun (s : ByteArray) W b (h : Ext w W) (hr : IsRow W (vstr [s]) b 1) => (words_exn [s] W b 1 1 (by omega) (by omega) (hk.ext h) hr).mono fun e w' h => (show e = .returned (.bool (isExn s)) ∧ Ext W w' from ⟨by rw [h.1]; simp, h.2⟩)
  have hen : en = es.length := hTk.length
  have HEN := hid hen
  have hen2 : en ≤ 100000 := by omega
  have HTK := hid hTk
  have HT := hid ht
  have HTAB := hid htab
  cases hm : (Tm.mk x ks).may with
  | false =>
    rw [hm] at KM
    have hsp : showP es (.mk x ks) = (ByteArray.empty, 1) := showP_no (by unfold pgMay; rw [hm, Bool.and_false])
    rw [hsp]
    clear ht hk htab hs hm HT HTAB hTk hen HTK hsp KX
    go_enter Tryz.func26, Tryz.ntmps26
    go_wp2_with (go_at_call 47; refine (KM.out _ (by (exact eX))).mono ?_; rintro e w1 ⟨rfl, x1⟩)
    exact bodyPost_ret (v := .tuple #[.string ByteArray.empty, .int .i64 1]) (by simp [results, Tryz.results26, go_sem]; rfl) rfl ⟨rfl, by (exact eX)⟩
  | true =>
    obtain ⟨hsz, hn⟩ := may_nodes hm
    have hwk := wk_size (.mk x ks) hn
    have HNO : Hid (∀ (j : Nat) t, es[j]? = some t → isExn t.text = false → showP es (.mk x ks) = (ByteArray.empty, 1)) := hid fun j t hj h => showP_no (by
      cases hp : pgMay es (.mk x ks) with
      | false => rfl
      | true => have h2 := (pgMay_iff.1 hp).1 t (List.mem_of_getElem? hj); rw [h] at h2; cases h2)
    have HYES : Hid ((∀ e, e ∈ es → isExn e.text = true) → showP es (.mk x ks) = (bs (joinW (progW es (.mk x ks))), 0)) := hid fun h => showP_yes (pgMay_iff.2 ⟨h, hm⟩)
    have hpl := progW_len es (.mk x ks)
    rw [hm] at KM
    have KW := hid fun W g v (h1 : WrAt W g v ((exnW es).map (·.2))) (h2 : IsTmA (fun b => g ≤ b) W (.mk x ks) _) => writer_term _ x ks g v ((exnW es).map (·.2)) W a n c (Nat.le_refl _) hn h1 h2 (by rw [List.length_map, exnW_len]; omega)
    have KJ := hid fun W g v (hx : ∀ e, e ∈ es → isExn e.text = true) (h1 : WrAt W g v ((progW es (.mk x ks)).map (·.2))) => show_join g v (progW es (.mk x ks)) W h1 (by omega) (progW_ok hx hn)
    have ew : ((exnW es).map (·.2)) ++ (Tm.mk x ks).wx = (progW es (.mk x ks)).map (·.2) := by unfold progW Tm.wx; rw [List.map_append]
    rw [ew] at KW
    generalize progW es (.mk x ks) = pw at *
    generalize showP es (.mk x ks) = sp at *
    clear hm hsz hn hwk ew ht hk htab hs hTk hen hpl hes
    go_enter Tryz.func26, Tryz.ntmps26
    go_upto_region 3 with (go_at_call 47; refine (KM.out _ (by (exact eX))).mono ?_; rintro e w1 ⟨rfl, x1⟩; obtain ⟨d0, d1, d2, d3, d4, d5, d6, d7, d8⟩ := (blk_top x1).nine)
    have B1 := hid (blk_top x1)
    have Y1 : Ext w w1 := by (exact eX)
    have HY1 := hid Y1
    have hw1 := B1.out.lt
    have hsz := Below.size Y1
    have W2 : WrAt (w1.alloc (.cells #[.slice none 0 0] 85)) w1.heap.size (.slice none 0 0) [] := ⟨Blk.new w1 _ _, World.ownsRow_nil _ _ _ _, ⟨w, HTAB.out, hsz, Y1.alloc _⟩⟩
    have HW2 := hid W2
    have T2 : Hid (IsTmA (fun b => w1.heap.size ≤ b) (w1.alloc (.cells #[.slice none 0 0] 85)) (.mk x ks) (.agg #[.int .u8 x.k, .int .u8 x.op, .int .i64 x.pos, .int .i64 x.n, .string x.name, .string x.arg, .string x.exn, .slice a n c])) := hid (HT.out.fresh (Y1.alloc _) (fun b hb => by omega))
    have B2 := hid (B1.out.alloc (.cells #[.slice none 0 0] 85))
    have TK2 := hid (HTK.out.ext (Y1.alloc (.cells #[.slice none 0 0] 85)))
    have HLO := hid (show ∀ p o u, w1.cell? ⟨p, o, none⟩ = some u → p < w1.heap.size from fun p o u h => block_lt_of_cell h)
    have TK1 := hid (HTK.out.ext Y1)
    clear d0 d1 d2 d3 d4 d5 d6 d7 d8 x1 Y1 W2
    go_upto_region 4 with fail
    have hs2 : (w1.alloc (.cells #[.slice none 0 0] 85)).heap.size = w1.heap.size + 1 := by simp
    have HS2 := hid hs2
    have hlt2 : w1.heap.size < (w1.alloc (.cells #[.slice none 0 0] 85)).heap.size := by rw [hs2]; omega
    have HY2 := hid (HY1.out.alloc (.cells #[.slice none 0 0] 85))
    clear hs2
    generalize w1.alloc (.cells #[.slice none 0 0] 85) = W2 at *
    obtain ⟨d0, d1, d2, d3, d4, d5, d6, d7, d8⟩ := B2.out.nine
    go_wp2_with fail
    go_loopg [16] en (fun g i wr => ∃ (j : Nat) (v' : Value), g = en - j ∧ i = .int .i64 j ∧ j ≤ en ∧ (∀ e, e ∈ es.take j → isExn e.text = true) ∧ WrTo W2 w1.heap.size (.slice none 0 0) ((exnW (es.take j)).map (·.2)) v' wr)
    case atStart => exact ⟨0, .slice none 0 0, by omega, rfl, by omega, by simp, by simpa [exnW] using WrTo.start HW2.out⟩
    case round =>
      obtain ⟨j, v1, rfl, rfl, hj, hall, hM⟩ := hrel
      have HALL := hid hall
      have HM := hid hM
      have NK : ∀ b, b < w1.heap.size → ¬ WrX w1.heap.size (.slice none 0 0) b := fun b hb h => by rcases h with h | h; omega; simp [Value.ownBlock] at h
      have NK := hid NK
      have hwr : W2.heap.size ≤ wr.heap.size := hM.x.size
      by_cases hjl : j < en
      · obtain ⟨t, b, o, hi, -, rfl, p0, p1, p2⟩ := TK2.out.at3 hjl
        have hb : b < w1.heap.size := by
          obtain ⟨t', b', o', -, -, e9, p0', -, -⟩ := TK1.out.at3 hjl
          cases e9
          exact HLO.out _ _ _ p0'
        have q0 := hM.x.cell (NK.out b hb) p0
        have q1 := hM.x.cell (NK.out b hb) p1
        have q2 := hM.x.cell (NK.out b hb) p2
        have HI := hid hi
        have hz : (j : Int) < (en : Int) := by omega
        clear hi hall hM p0 p1 p2 d0 d1 d2 d3 d4 d5 d6 d7 d8
        obtain ⟨tk, tt, tp⟩ := t
        simp only at q0 q1 q2
        have QB := hid (show ∀ W, Ext ((wr.alloc (.cells #[.int .u8 tk, .string tt, .int .i64 tp] 37)).alloc (.cells #[.string tt] 9)) W → W.cell? ⟨wr.heap.size, 1, none⟩ = some (.string tt) from fun W h => (((Blk.new wr 37 #[.int .u8 tk, .string tt, .int .i64 tp]).alloc _).ext h).cell 1)
        have KX1 := hid (KX.out tt ((wr.alloc (.cells #[.int .u8 tk, .string tt, .int .i64 tp] 37)).alloc (.cells #[.string tt] 9)) (some ⟨wr.heap.size + 1, 0, none⟩) ((ExtX.ext HY2.out HM.out.x (fun b hb => by have := HY1.out.size; rcases hb with hb | hb; omega; simp [Value.ownBlock] at hb) |>.alloc _).alloc _) (by have h := IsRow.new (wr.alloc (.cells #[.int .u8 tk, .string tt, .int .i64 tp] 37)) 9 (vstr [tt]); rw [World.size_alloc] at h; exact h))
        cases hxn : isExn tt with
        | false =>
          have HSP := hid (HNO.out j _ HI.out hxn)
          rw [hxn] at KX1
          go_wp2_with (go_at_call 52; refine (KX1.out).mono ?_; rintro e w2 ⟨rfl, x2⟩)
          exact bodyPost_ret (v := .tuple #[.string ByteArray.empty, .int .i64 1]) (by simp [results, Tryz.results26, go_sem]; rfl) rfl ⟨by rw [HSP.out], ExtX.ext HY2.out (HM.out.x.then_ (((Ext.refl wr).alloc _).alloc _ |>.trans x2)) (fun b hb => by have := HY1.out.size; rcases hb with hb | hb; omega; simp [Value.ownBlock] at hb)⟩
        | true =>
          rw [hxn] at KX1
          have HST := hid (exnW_step HI.out)
          have HLN : Hid (((exnW (es.take j)).map (·.2)).length + 3 ≤ 1000000) := hid (by rw [List.length_map, exnW_len, List.length_take]; omega)
          have HAL := hid (exn_all HI.out HALL.out hxn)
          generalize (exnW (es.take j)).map (·.2) = ws at *
          go_wp2_with (first | (go_at_call 52; refine (KX1.out).mono ?_; rintro e w2 ⟨rfl, x2⟩; have q8 := QB.out _ x2; have M2 := HM.out.ext ((((Ext.refl wr).alloc _).alloc _).trans x2); have M2 := hid M2) | (go_at_call 53; refine (show_put w1.heap.size v1 ws [w_exn, tt, s_semi] _ ⟨w2.heap.size, 0, none⟩ 3 (M2.out.ext ((Ext.refl w2).alloc _)).at_ (row_text w2 [w_exn, tt, s_semi]) (by simp only [List.length_cons, List.length_nil]; have := HLN.out; omega)).mono ?_; intro e w3 hh; obtain ⟨rfl, v3, M3, -⟩ := (M2.out.ext ((Ext.refl w2).alloc _)).more hh))
          go_roundg (en - (j + 1))
          case rel => exact ⟨j + 1, v3, rfl, by go_num, by omega, HAL.out, by rw [HST.out]; exact M3⟩
          case measure => omega
      · obtain rfl : j = en := by omega
        have hz : ¬ (j : Int) < (j : Int) := by omega
        have e1 : es.take j = es := List.take_of_length_le (Nat.le_of_eq HEN.out.symm)
        have hx : ∀ e, e ∈ es → isExn e.text = true := fun e he => hall e (by rw [e1]; exact he)
        have HSP := hid (HYES.out hx)
        rw [e1] at HM
        have HX := hid hx
        obtain ⟨d0, d1, d2, d3, d4, d5, d6, d7, d8⟩ := (Blk.extx B2.out HM.out.x (NK.out _ hw1)).nine
        have TT := hid (tm_x HW2.out HM.out.x T2.out)
        clear hx hall hM e1
        go_upto_region 12 with (go_at_call 48; refine (KW.out wr w1.heap.size v1 HM.out.at_ TT.out).mono ?_; intro e w3 hh; obtain ⟨rfl, v3, M3, -⟩ := HM.out.more hh)
        have HM3 := hid M3
        have Y3 : Ext w w3 := ExtX.ext HY2.out M3.x (fun b hb => by have := HY1.out.size; rcases hb with hb | hb; omega; simp [Value.ownBlock] at hb)
        have HY3 := hid Y3
        clear hh M3 d0 d1 d2 d3 d4 d5 d6 d7 d8 Y3
        obtain ⟨va, vc, hv⟩ := HM3.out.at_.slice
        rw [List.length_map] at hv
        subst hv
        have e0 := HM3.out.at_.blk.cell 0
        simp at e0
        go_wp2_with (go_at_call 49; refine (KJ.out w3 _ _ HX.out HM3.out.at_).mono ?_; rintro e w4 ⟨rfl, x4⟩)
        exact bodyPost_ret (v := .tuple #[.string (bs (joinW pw)), .int .i64 0]) (by simp [results, Tryz.results26, go_sem]) rfl ⟨by rw [HSP.out], HY3.out.trans x4⟩
end Go.Proofs.YtaioeailgknfjaaGreatDoor
