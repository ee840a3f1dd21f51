/- Part 46 of the proof: Law06b; no condition of ours. -/
import Derived.Test.YtaioeailgknfjaaGreatDoorPku42
import Derived.Test.YtaioeailgknfjaaGreatDoorPku44
import Derived.Test.YtaioeailgknfjaaGreatDoorPku45
set_option linter.unusedVariables false
set_option linter.unusedSimpArgs false
namespace Go.Proofs.YtaioeailgknfjaaGreatDoor
open Go Go.RowKit Go.Sort
theorem lexR_words (ws : List Wk) (h : ∀ w, w ∈ ws → WkOk w) (hl : (joinW ws).length ≤ 65536) : ∃ (q : List Tk) (e : Tk), lexR (joinW ws) = (q ++ [e], 0, 0) ∧ e.k = 6 ∧ q.map (fun t => (t.k, t.text)) = ws ∧ Ended (q ++ [e]) ∧ (q ++ [e]).length = ws.length + 1 := by
  obtain ⟨q, e, o, h1, h2, h3, h4, h5, h6⟩ := lex_ended ws h 0
  have hq : q.length = ws.length := by have := congrArg List.length h4; simpa using this
  exact ⟨q, e, by rw [lexR_ok (by omega) h1, h2], h3, h4, h5, by simp [hq]⟩
theorem termR_words (t : Tm) (hn : ∀ u, u ∈ t.all → u.node = true) (hl : (joinW t.wk).length ≤ 65536) (hw : t.wk.length + 1 ≤ 4001) : ∃ t', termR (joinW t.wk) = .ok t' ∧ t'.same t = true := by
  obtain ⟨q, e, h1, h2, h3, h4, h5⟩ := lexR_words t.wk (words_ok t hn) hl
  obtain ⟨f, t', h6, h7⟩ := (good_words t hn).get 0 (Nat.zero_le _) (q ++ [e]) [e] ⟨q, rfl, h3⟩ ⟨fun k hk _ => by simp [isT, h2], fun _ => by simp [beginsT, isT, kindT, h2]⟩
  have h6 : parseF f .expr (q ++ [e]) = some (.ok (t', [e])) := h6
  refine ⟨t', ?_, h7⟩
  unfold termR runR
  rw [h1, if_neg (by simp), if_neg (by simp only; omega)]
  simp only
  rw [parseL_eq h4 h6]
  simp [kindT, h2]
def fitsR (J : List UInt8) : Bool := decide ((lexR J).2.2 = 0) && decide ((lexR J).1.length ≤ 4001)
set_option maxRecDepth 60000 in
set_option maxHeartbeats 4000000 in
theorem law06_fits (J : List UInt8) (hJ : J.length ≤ 1000000) (w : World) : Calls Tryz.prog 24 #[.string (bs J)] w fun e w' => e = .returned (.bool (fitsR J)) ∧ Ext w w' := by
  have hsz : (bs J).size = J.length := bs_size J
  have hb := IsBytes.world w 5 J
  obtain ⟨S, hS⟩ : ∃ S, S = bs J := ⟨_, rfl⟩
  rw [← hS] at hb hsz ⊢
  have x0 : Ext w (Lib.bytesWorld w 5 S) := Lib.bytesWorld_below w 5 S
  have ks := fun (w : World) (s : ByteArray) => Lib.run_convert_string_bytes (P := Tryz.prog) w 9 22 5 s Tryz.underlying9 Tryz.underlying22 Tryz.underlying5
  have KL : Calls Tryz.prog 12 #[.slice (some ⟨w.heap.size, 0, none⟩) S.size (grownCap w S.size 0 5)] (Lib.bytesWorld w 5 S) fun e w' => ∃ a c, e = .returned (.tuple #[.slice a (lexR J).1.length c, .int .i64 (lexR J).2.1, .int .i64 (lexR J).2.2]) ∧ Ext w w' := by
    refine (ref03_lex J _ _ _ _ (grownCap_ge _ _ _ _) (grownCap_le_maxLen _ _ _ _ (by unfold maxLen; omega)) hb).mono ?_
    rintro e w' ⟨a, n, c, he, -, -, ht, hx⟩
    exact ⟨a, c, by rw [he, ht.length], x0.trans hx⟩
  unfold fitsR
  generalize (lexR J).1.length = m at *
  generalize (lexR J).2.1 = p at *
  generalize (lexR J).2.2 = f at *
  have KL := Lib.hid KL
  have HS := Lib.hid hsz
  clear hb hS hsz x0
  by_cases hf : f = 0
  · subst hf
    by_cases hl : m ≤ 4001
    · have hl2 : (m : Int) ≤ 4001 := by omega
      rw [show (decide ((0 : Int) = 0) && decide (m ≤ 4001)) = true by simp [hl]]
      go_enter Tryz.func24, Tryz.ntmps24
      go_wp2_with (go_at_call 12; refine (KL.out).mono ?_; rintro e w1 ⟨a, c, rfl, x1⟩)
      go_ret
      exact ⟨rfl, x1⟩
    · have hl2 : ¬ (m : Int) ≤ 4001 := by omega
      rw [show (decide ((0 : Int) = 0) && decide (m ≤ 4001)) = false by simp [hl]]
      go_enter Tryz.func24, Tryz.ntmps24
      go_wp2_with (go_at_call 12; refine (KL.out).mono ?_; rintro e w1 ⟨a, c, rfl, x1⟩)
      go_ret
      exact ⟨by show Ending.returned (.bool (decide ((m : Int) ≤ 4001))) = _; rw [decide_eq_false (by omega)], x1⟩
  · rw [show (decide (f = 0) && decide (m ≤ 4001)) = false by simp [hf]]
    have hfb : (f == 0) = false := by simpa using hf
    clear hf
    go_enter Tryz.func24, Tryz.ntmps24
    go_wp2_with (go_at_call 12; refine (KL.out).mono ?_; rintro e w1 ⟨a, c, rfl, x1⟩)
    go_ret
    exact ⟨rfl, x1⟩
theorem fits_back (t : Tm) (hn : ∀ u, u ∈ t.all → u.node = true) (hf : fitsR (joinW t.wk) = true) : ∃ t', termR (joinW t.wk) = .ok t' ∧ t'.same t = true := by
  unfold fitsR at hf
  rw [Bool.and_eq_true, decide_eq_true_eq, decide_eq_true_eq] at hf
  obtain ⟨hf, hl⟩ := hf
  by_cases h6 : 65536 < (joinW t.wk).length
  · rw [lexR_long h6] at hf
    cases hf
  · obtain ⟨q, e, h1, h2, h3, h4, h5⟩ := lexR_words t.wk (words_ok t hn) (by omega)
    rw [h1] at hl
    exact termR_words t hn (by omega) (by rw [← h5]; exact hl)
theorem shown_len (t : Tm) (h : t.size ≤ 4000) (hn : ∀ u, u ∈ t.all → u.node = true) : (joinW t.wk).length ≤ 1000000 := by
  have h1 := joinW_len t.wk (words_ok t hn)
  have h2 := wk_size t hn
  omega
set_option maxRecDepth 60000 in
set_option maxHeartbeats 4000000 in
theorem law_showBack (t : Tm) (w : World) (v : Value) (ht : IsTm w t v) (hk : Knob w) (htab : Tab w) : Calls Tryz.prog 6 #[v] w (Yes5 w) := by
  have KA := Lib.hid fun (W : World) (h : Ext w W) => law06_awake W (hk.ext h) (htab.ext h)
  have KG := Lib.hid fun (W : World) (h : Ext w W) => ref4_great t W v (ht.ext h)
  obtain ⟨x, ks⟩ := t
  obtain ⟨a, n, c, rfl, -, -, -, -⟩ := ht.open_
  have HB := fun W (h : Ext (w.alloc (.cells #[.int .u8 x.k, .int .u8 x.op, .int .i64 x.pos, .int .i64 x.n, .string x.name, .string x.arg, .string x.exn, .slice a n c] 28)) W) => ((Blk.new w 28 #[.int .u8 x.k, .int .u8 x.op, .int .i64 x.pos, .int .i64 x.n, .string x.name, .string x.arg, .string x.exn, .slice a n c]).ext h).eight
  have HB := Lib.hid HB
  cases hg : (Tm.mk x ks).great with
  | true =>
    rw [hg] at KG
    clear ht hk htab hg
    go_enter Tryz.func6, Tryz.ntmps6
    go_wp2_with (first | (go_at_call 20; refine (KG.out _ (by (exact eX))).mono ?_; rintro e w1 ⟨rfl, x1⟩) | (go_at_call 21; refine (KA.out _ (by (exact eX))).mono ?_; rintro e w7 ⟨rfl, x7⟩))
    go_ret
    exact ⟨rfl, by (exact eX)⟩
  | false =>
    rw [hg] at KG
    have hs := (Tm.not_great hg).1
    have KS := Lib.hid fun (W : World) (h : Ext w W) => show_Term x ks W a n c (ht.ext h) (hk.ext h) (htab.ext h) (by omega)
    have KM := Lib.hid fun (W : World) (h : Ext w W) => ref4_may (.mk x ks) W _ (ht.ext h) (by omega)
    unfold showR at KS
    cases hm : (Tm.mk x ks).may with
    | false =>
      rw [hm] at KM
      clear ht hk htab hg hs hm KS
      go_enter Tryz.func6, Tryz.ntmps6
      go_wp2_with (first | (go_at_call 20; refine (KG.out _ (by (exact eX))).mono ?_; rintro e w1 ⟨rfl, x1⟩; obtain ⟨d0, d1, d2, d3, d4, d5, d6, d7⟩ := HB.out w1 (by (exact eX))) | (go_at_call 14; refine (KM.out _ (by (exact eX))).mono ?_; rintro e w2 ⟨rfl, x2⟩) | (go_at_call 21; refine (KA.out _ (by (exact eX))).mono ?_; rintro e w7 ⟨rfl, x7⟩))
      go_ret
      exact ⟨rfl, by (exact eX)⟩
    | true =>
      obtain ⟨hsz, hn⟩ := may_nodes hm
      rw [hm] at KS KM
      simp only [if_true] at KS
      have hJ := shown_len _ hsz hn
      have KF := Lib.hid fun (W : World) => law06_fits (joinW (Tm.mk x ks).wk) hJ W
      have hbk := fits_back (.mk x ks) hn
      have KT := Lib.hid fun (W : World) (h : Ext w W) a len cap h1 h2 hr => parse_term (joinW (Tm.mk x ks).wk) W a len cap h1 h2 hr (hk.ext h)
      have KQ := Lib.hid fun (t' : Tm) (W W' : World) (v' : Value) (h : Ext w W) (h' : IsTm W t' v') => ref4_same t'.size t' (.mk x ks) W v' _ (Nat.le_refl _) h' (ht.ext h)
      generalize joinW (Tm.mk x ks).wk = J at *
      cases hf : fitsR J with
      | false =>
        rw [hf] at KF
        generalize bs J = S at *
        clear ht hk htab hg hs hm hsz hn hbk hf hJ
        go_enter Tryz.func6, Tryz.ntmps6
        go_wp2_with (first | (go_at_call 20; refine (KG.out _ (by (exact eX))).mono ?_; rintro e w1 ⟨rfl, x1⟩; obtain ⟨d0, d1, d2, d3, d4, d5, d6, d7⟩ := HB.out w1 (by (exact eX))) | (go_at_call 14; refine (KM.out _ (by (exact eX))).mono ?_; rintro e w2 ⟨rfl, x2⟩; obtain ⟨e0, e1, e2, e3, e4, e5, e6, e7⟩ := HB.out w2 (by (exact eX))) | (go_at_call 22; refine (KS.out _ (by (exact eX))).mono ?_; rintro e w3 ⟨rfl, x3⟩) | (go_at_call 24; refine (KF.out _).mono ?_; rintro e w4 ⟨rfl, x4⟩) | (go_at_call 21; refine (KA.out _ (by (exact eX))).mono ?_; rintro e w7 ⟨rfl, x7⟩))
        go_ret
        exact ⟨rfl, by (exact eX)⟩
      | true =>
        rw [hf] at KF
        obtain ⟨⟨x', ks'⟩, hr, hsm⟩ := hbk hf
        have KT : Hid (∀ (W : World) (_ : Ext w W), Calls Tryz.prog 11 #[.slice (some ⟨W.heap.size, 0, none⟩) (bs J).size (grownCap W (bs J).size 0 5)] (Lib.bytesWorld W 5 (bs J)) fun e w' => ∃ a' n' c', e = .returned (.tuple #[.agg #[.int .u8 x'.k, .int .u8 x'.op, .int .i64 x'.pos, .int .i64 x'.n, .string x'.name, .string x'.arg, .string x'.exn, .slice a' n' c'], .int .i64 0, .int .i64 0]) ∧ IsTm w' (.mk x' ks') (.agg #[.int .u8 x'.k, .int .u8 x'.op, .int .i64 x'.pos, .int .i64 x'.n, .string x'.name, .string x'.arg, .string x'.exn, .slice a' n' c']) ∧ Ext W w') := Lib.hid fun W h => by
          have y0 : Ext W (Lib.bytesWorld W 5 (bs J)) := Lib.bytesWorld_below W 5 (bs J)
          have hsz := bs_size J
          refine (KT.out _ (h.trans y0) _ _ _ (grownCap_ge _ _ _ _) (grownCap_le_maxLen _ _ _ _ (by unfold maxLen; omega)) (IsBytes.world W 5 J)).mono ?_
          rintro e w' ⟨hx, hh⟩
          rw [hr] at hh
          obtain ⟨v, he, hv⟩ := hh
          obtain ⟨a', n', c', rfl, -, -, -, -⟩ := hv.open_
          exact ⟨a', n', c', he, hv, y0.trans hx⟩
        have KQ := Lib.hid fun (W : World) (v' : Value) (h : Ext w W) (h' : IsTm W (.mk x' ks') v') => by have := KQ.out (.mk x' ks') W W v' h h'; rw [hsm] at this; exact this
        have hS : (bs J).size ≤ 1000000 := by rw [bs_size]; exact hJ
        have HS := Lib.hid hS
        generalize bs J = S at *
        have ks := fun (w : World) (s : ByteArray) => Lib.run_convert_string_bytes (P := Tryz.prog) w 9 22 5 s Tryz.underlying9 Tryz.underlying22 Tryz.underlying5
        clear ht hk htab hg hs hm hsz hn hbk hf hJ hS hr hsm
        go_enter Tryz.func6, Tryz.ntmps6
        go_upto_region 6 with (first | (go_at_call 20; refine (KG.out _ (by (exact eX))).mono ?_; rintro e w1 ⟨rfl, x1⟩; obtain ⟨d0, d1, d2, d3, d4, d5, d6, d7⟩ := HB.out w1 (by (exact eX))) | (go_at_call 14; refine (KM.out _ (by (exact eX))).mono ?_; rintro e w2 ⟨rfl, x2⟩; obtain ⟨e0, e1, e2, e3, e4, e5, e6, e7⟩ := HB.out w2 (by (exact eX))) | (go_at_call 22; refine (KS.out _ (by (exact eX))).mono ?_; rintro e w3 ⟨rfl, x3⟩) | (go_at_call 24; refine (KF.out _).mono ?_; rintro e w4 ⟨rfl, x4⟩))
        clear d0 d1 d2 d3 d4 d5 d6 d7 e0 e1 e2 e3 e4 e5 e6 e7
        have K5 := Lib.hid (KT.out w4 (by (exact eX)))
        go_upto_region 7 with (go_at_call 11; refine (K5.out).mono ?_; rintro e w5 ⟨a', n', c', rfl, hv, x5⟩)
        obtain ⟨d0, d1, d2, d3, d4, d5, d6, d7⟩ := HB.out (w5.alloc (.cells #[.int .u8 x'.k, .int .u8 x'.op, .int .i64 x'.pos, .int .i64 x'.n, .string x'.name, .string x'.arg, .string x'.exn, .slice a' n' c'] 28)) (by (exact eX))
        obtain ⟨e0, e1, e2, e3, e4, e5, e6, e7⟩ := (Blk.new w5 28 #[.int .u8 x'.k, .int .u8 x'.op, .int .i64 x'.pos, .int .i64 x'.n, .string x'.name, .string x'.arg, .string x'.exn, .slice a' n' c']).eight
        have K6 := Lib.hid (KQ.out (w5.alloc (.cells #[.int .u8 x'.k, .int .u8 x'.op, .int .i64 x'.pos, .int .i64 x'.n, .string x'.name, .string x'.arg, .string x'.exn, .slice a' n' c'] 28)) _ (by (exact eX)) (hv.ext ((Ext.refl _).alloc _)))
        clear hv
        go_wp2_with (first | (go_at_call 25; refine (K6.out).mono ?_; rintro e w6 ⟨rfl, x6⟩) | (go_at_call 21; refine (KA.out _ (by (exact eX))).mono ?_; rintro e w7 ⟨rfl, x7⟩))
        go_ret
        exact ⟨rfl, by (exact eX)⟩
end Go.Proofs.YtaioeailgknfjaaGreatDoor
