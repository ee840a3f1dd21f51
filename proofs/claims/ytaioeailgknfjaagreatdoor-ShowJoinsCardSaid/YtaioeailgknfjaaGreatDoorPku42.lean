/- Part 42 of the proof: Ref06c, Law06a, Law05a, Law05c; no condition of ours. -/
import Derived.Test.YtaioeailgknfjaaGreatDoorPku1
import Derived.Test.YtaioeailgknfjaaGreatDoorPku5
import Derived.Test.YtaioeailgknfjaaGreatDoorPku7
import Derived.Test.YtaioeailgknfjaaGreatDoorPku37
import Derived.Test.YtaioeailgknfjaaGreatDoorPku38
import Derived.Test.YtaioeailgknfjaaGreatDoorPku39
import Derived.Test.YtaioeailgknfjaaGreatDoorPku41
set_option linter.unusedVariables false
set_option linter.unusedSimpArgs false
namespace Go.Proofs.YtaioeailgknfjaaGreatDoor
open Go Go.RowKit Go.Sort
theorem itoa_pos6 {n : Int} (h : 0 ≤ n) : Lib.itoa n = Lib.decDigits n.toNat := by unfold Lib.itoa; rw [if_neg (by omega)]
set_option maxRecDepth 60000 in
set_option maxHeartbeats 4000000 in
theorem text_num (x : Hd) (w : World) (a : Option Addr) (c : Nat) (hk : x.k = 1) (h0 : 0 ≤ x.n) (h1 : x.n ≤ 2147483647) :
    Calls Tryz.prog 23 #[.agg #[.int .u8 x.k, .int .u8 x.op, .int .i64 x.pos, .int .i64 x.n, .string x.name, .string x.arg, .string x.exn, .slice a 0 c]] w fun e w' => e = .returned (.string (bs (joinW (Tm.mk x []).wk))) ∧ Ext w w' := by
  have HE : bs (joinW (Tm.mk x []).wk) = bs (Lib.decDigits x.n.toNat) := by rw [wk_1 hk]; simp [joinW, bs_list]
  have KD := Lib.hid fun W => (ref_digits x.n W (by omega) (by omega)).mono (fun e w' h => (show e = .returned (.string (bs (Lib.decDigits x.n.toNat))) ∧ Ext W w' from ⟨by rw [h.1, itoa_pos6 h0], h.2⟩))
  rw [HE, hk]
  clear HE hk h0 h1
  go_enter Tryz.func23, Tryz.ntmps23
  go_wp2_with (go_at_call 50; refine (KD.out _).mono ?_; rintro e w5 ⟨rfl, x5⟩)
  go_ret
  exact ⟨rfl, by (exact eX)⟩
theorem sub_all6 {x : Hd} {l : List Tm} {t : Tm} (hn : ∀ u, u ∈ (Tm.mk x l).all → u.node = true) (ht : t ∈ l) : ∀ u, u ∈ t.all → u.node = true := fun u hu => hn u (Tm.mem_all.2 (.inr ⟨t, ht, hu⟩))
theorem sub_size6 {x : Hd} {l : List Tm} {t : Tm} {N : Nat} (hs : (Tm.mk x l).size ≤ N + 1) (ht : t ∈ l) : t.size ≤ N := by
  have := Tm.size_mem l t ht
  simp [Tm.size] at hs
  omega
theorem ref6_text (N : Nat) : TextT N := by
  induction N with
  | zero => intro x ks w a n c hs; simp [Tm.size] at hs
  | succ N hT =>
    intro x ks w a n c hs hz hn hv
    obtain ⟨a', n', c', ev, -, -, hf, ht⟩ := hv.open_
    cases ev
    have ok := node_ok (hn _ (Tm.self_all _))
    have hnn := ht.length
    rcases kinds_of ok with ⟨hk, rfl⟩ | ⟨hk, t0, rfl⟩ | ⟨hk, t0, t1, rfl⟩ | ⟨hk, t0, t1, t2, rfl⟩
    · obtain rfl : n = 0 := hnn
      rcases hk with hk | hk
      · exact text_num x w a c hk ok.n0.1 ok.n0.2
      · exact text_var N hT x w a c hk ok ht
    · obtain rfl : n = 1 := hnn
      obtain ⟨y0, k0⟩ := t0
      have s0 := sub_size6 hs (t := .mk y0 k0) (by simp)
      have z0 : (Tm.mk y0 k0).size ≤ 1000000 := Nat.le_trans (sub_size6 (N := 999999) hz (t := .mk y0 k0) (by simp)) (by omega)
      have n0 := sub_all6 hn (t := .mk y0 k0) (by simp)
      rcases hk with hk | hk | hk | hk | hk | hk
      · exact text_pre4 N hT x y0 k0 w a c hk ok s0 z0 n0 ht
      · exact text_pre5 N hT x y0 k0 w a c hk ok s0 z0 n0 ht
      · exact text_pre6 N hT x y0 k0 w a c hk ok s0 z0 n0 ht
      · exact text_pre7 N hT x y0 k0 w a c hk ok s0 z0 n0 ht
      · exact text_fn N hT x y0 k0 w a c hk ok s0 z0 n0 ht
      · exact text_raise N hT x y0 k0 w a c hk ok s0 z0 n0 ht
    · obtain rfl : n = 2 := hnn
      obtain ⟨y0, k0⟩ := t0
      obtain ⟨y1, k1⟩ := t1
      have s0 := sub_size6 hs (t := .mk y0 k0) (by simp)
      have z0 : (Tm.mk y0 k0).size ≤ 1000000 := Nat.le_trans (sub_size6 (N := 999999) hz (t := .mk y0 k0) (by simp)) (by omega)
      have n0 := sub_all6 hn (t := .mk y0 k0) (by simp)
      have s1 := sub_size6 hs (t := .mk y1 k1) (by simp)
      have z1 : (Tm.mk y1 k1).size ≤ 1000000 := Nat.le_trans (sub_size6 (N := 999999) hz (t := .mk y1 k1) (by simp)) (by omega)
      have n1 := sub_all6 hn (t := .mk y1 k1) (by simp)
      rcases hk with hk | hk | hk | hk | hk | hk | hk
      · exact text_pair N hT x y0 k0 y1 k1 w a c hk ok s0 z0 n0 s1 z1 n1 ht
      · exact text_set N hT x y0 k0 y1 k1 w a c hk ok s0 z0 n0 s1 z1 n1 ht
      · rcases op_cases ok hk with ho | ho | ho | ho | ho
        · exact text_op1 N hT x y0 k0 y1 k1 w a c hk ho ok s0 z0 n0 s1 z1 n1 ht
        · exact text_op2 N hT x y0 k0 y1 k1 w a c hk ho ok s0 z0 n0 s1 z1 n1 ht
        · exact text_op3 N hT x y0 k0 y1 k1 w a c hk ho ok s0 z0 n0 s1 z1 n1 ht
        · exact text_op4 N hT x y0 k0 y1 k1 w a c hk ho ok s0 z0 n0 s1 z1 n1 ht
        · exact text_op5 N hT x y0 k0 y1 k1 w a c hk ho ok s0 z0 n0 s1 z1 n1 ht
      · exact text_app N hT x y0 k0 y1 k1 w a c hk ok s0 z0 n0 s1 z1 n1 ht
      · exact text_let N hT x y0 k0 y1 k1 w a c hk ok s0 z0 n0 s1 z1 n1 ht
      · exact text_letrec N hT x y0 k0 y1 k1 w a c hk ok s0 z0 n0 s1 z1 n1 ht
      · exact text_try N hT x y0 k0 y1 k1 w a c hk ok s0 z0 n0 s1 z1 n1 ht
    · obtain rfl : n = 3 := hnn
      obtain ⟨y0, k0⟩ := t0
      obtain ⟨y1, k1⟩ := t1
      obtain ⟨y2, k2⟩ := t2
      have s0 := sub_size6 hs (t := .mk y0 k0) (by simp)
      have z0 : (Tm.mk y0 k0).size ≤ 1000000 := Nat.le_trans (sub_size6 (N := 999999) hz (t := .mk y0 k0) (by simp)) (by omega)
      have n0 := sub_all6 hn (t := .mk y0 k0) (by simp)
      have s1 := sub_size6 hs (t := .mk y1 k1) (by simp)
      have z1 : (Tm.mk y1 k1).size ≤ 1000000 := Nat.le_trans (sub_size6 (N := 999999) hz (t := .mk y1 k1) (by simp)) (by omega)
      have n1 := sub_all6 hn (t := .mk y1 k1) (by simp)
      have s2 := sub_size6 hs (t := .mk y2 k2) (by simp)
      have z2 : (Tm.mk y2 k2).size ≤ 1000000 := Nat.le_trans (sub_size6 (N := 999999) hz (t := .mk y2 k2) (by simp)) (by omega)
      have n2 := sub_all6 hn (t := .mk y2 k2) (by simp)
      exact text_if N hT x y0 k0 y1 k1 y2 k2 w a c hk ok s0 z0 n0 s1 z1 n1 s2 z2 n2 ht
set_option maxRecDepth 60000 in
set_option maxHeartbeats 4000000 in
theorem law_showIs (t : Tm) (w : World) (v : Value) (ht : IsTm w t v) (hk : Knob w) (htab : Tab w) : Calls Tryz.prog 5 #[v] w (Yes5 w) := by
  have KA := Lib.hid fun (W : World) (h : Ext w W) => law06_awake W (hk.ext h) (htab.ext h)
  have KG := Lib.hid fun (W : World) (h : Ext w W) => ref4_great t W v (ht.ext h)
  obtain ⟨x, ks⟩ := t
  obtain ⟨a, n, c, rfl, -, -, -, -⟩ := ht.open_
  cases hg : (Tm.mk x ks).great with
  | true =>
    rw [hg] at KG
    clear ht hk htab hg
    go_enter Tryz.func5, Tryz.ntmps5
    go_upto_region 2 with (go_at_call 20; refine (KG.out _ (by (exact eX))).mono ?_; rintro e w1 ⟨rfl, x1⟩)
    go_wp2_with (go_at_call 21; refine (KA.out _ (by (exact eX))).mono ?_; rintro e w7 ⟨rfl, x7⟩)
    go_ret
    exact ⟨rfl, by (exact eX)⟩
  | false =>
    rw [hg] at KG
    have hs := (Tm.not_great hg).1
    have KS := Lib.hid fun (W : World) (h : Ext w W) => show_Term x ks W a n c (ht.ext h) (hk.ext h) (htab.ext h) (by omega)
    have KM := Lib.hid fun (W : World) (h : Ext w W) => ref4_may (.mk x ks) W _ (ht.ext h) (by omega)
    have HB := fun W (h : Ext (w.alloc (.cells #[.int .u8 x.k, .int .u8 x.op, .int .i64 x.pos, .int .i64 x.n, .string x.name, .string x.arg, .string x.exn, .slice a n c] 28)) W) => ((Blk.new w 28 #[.int .u8 x.k, .int .u8 x.op, .int .i64 x.pos, .int .i64 x.n, .string x.name, .string x.arg, .string x.exn, .slice a n c]).ext h).eight
    have HB := Lib.hid HB
    unfold showR at KS
    cases hm : (Tm.mk x ks).may with
    | false =>
      rw [hm] at KS KM
      simp only [Bool.false_eq_true, if_false] at KS
      clear ht hk htab hg hs hm
      go_enter Tryz.func5, Tryz.ntmps5
      go_upto_region 3 with (go_at_call 20; refine (KG.out _ (by (exact eX))).mono ?_; rintro e w1 ⟨rfl, x1⟩)
      obtain ⟨d0, d1, d2, d3, d4, d5, d6, d7⟩ := HB.out _ x1
      go_upto_region 4 with (go_at_call 22; refine (KS.out _ (by (exact eX))).mono ?_; rintro e w2 ⟨rfl, x2⟩)
      clear d0 d1 d2 d3 d4 d5 d6 d7
      obtain ⟨d0, d1, d2, d3, d4, d5, d6, d7⟩ := HB.out _ (x1.trans x2)
      go_upto_region 5 with (go_at_call 14; refine (KM.out _ (by (exact eX))).mono ?_; rintro e w3 ⟨rfl, x3⟩)
      go_wp2_with (go_at_call 21; refine (KA.out _ (by (exact eX))).mono ?_; rintro e w7 ⟨rfl, x7⟩)
      go_ret
      exact ⟨rfl, by (exact eX)⟩
    | true =>
      obtain ⟨hsz, hn⟩ := may_nodes hm
      have KX := Lib.hid fun (W : World) (h : Ext w W) => ref6_text _ x ks W a n c (Nat.le_refl _) (by omega) hn (ht.ext h)
      rw [hm] at KS KM
      simp only [if_true] at KS
      generalize bs (joinW (Tm.mk x ks).wk) = J at *
      clear ht hk htab hg hs hm hsz hn
      go_enter Tryz.func5, Tryz.ntmps5
      go_upto_region 3 with (go_at_call 20; refine (KG.out _ (by (exact eX))).mono ?_; rintro e w1 ⟨rfl, x1⟩)
      obtain ⟨d0, d1, d2, d3, d4, d5, d6, d7⟩ := HB.out _ x1
      go_upto_region 4 with (go_at_call 22; refine (KS.out _ (by (exact eX))).mono ?_; rintro e w2 ⟨rfl, x2⟩)
      clear d0 d1 d2 d3 d4 d5 d6 d7
      obtain ⟨d0, d1, d2, d3, d4, d5, d6, d7⟩ := HB.out _ (x1.trans x2)
      go_upto_region 6 with (go_at_call 14; refine (KM.out _ (by (exact eX))).mono ?_; rintro e w3 ⟨rfl, x3⟩)
      clear d0 d1 d2 d3 d4 d5 d6 d7
      obtain ⟨d0, d1, d2, d3, d4, d5, d6, d7⟩ := HB.out _ ((x1.trans x2).trans x3)
      go_wp2_with (first | (go_at_call 23; refine (KX.out _ (by (exact eX))).mono ?_; rintro e w4 ⟨rfl, x4⟩) | (go_at_call 21; refine (KA.out _ (by (exact eX))).mono ?_; rintro e w7 ⟨rfl, x7⟩))
      go_ret
      exact ⟨rfl, by (exact eX)⟩
theorem lexR_inv {B : List UInt8} (h : (lexR B).2.2 = 0) : ¬ 65536 < B.length ∧ ∃ o, lexL 0 B = .ok o ∧ (lexR B).1 = o.map Tok.tk := by
  unfold lexR at h ⊢
  split at h
  · simp at h
  rename_i hn
  rw [if_neg hn]
  refine ⟨hn, ?_⟩
  cases e : lexL 0 B with
  | error p => rw [e] at h; simp at h
  | ok o => exact ⟨o, rfl, rfl⟩
instance : Inhabited Tm := ⟨.mk (hd0 0 0) []⟩
theorem Hd.same_swap (h h' : Hd) : h'.same h = h.same h' := by
  unfold Hd.same
  rw [Bool.eq_iff_iff]
  simp only [Bool.and_eq_true, beq_iff_eq]
  constructor
  · rintro ⟨a, b, c, d, e, f⟩; exact ⟨a.symm, b.symm, c.symm, d.symm, e.symm, f.symm⟩
  · rintro ⟨a, b, c, d, e, f⟩; exact ⟨a.symm, b.symm, c.symm, d.symm, e.symm, f.symm⟩
theorem Tm.same_swap (t : Tm) : ∀ t' : Tm, t'.same t = t.same t' := by
  induction t using Tm.ind with
  | h x l ih =>
    rintro ⟨x', l'⟩
    simp only [Tm.same, Hd.same_swap x x']
    congr 1
    induction l generalizing l' with
    | nil => cases l' <;> simp [Tm.sames]
    | cons t l ihl =>
      cases l' with
      | nil => simp [Tm.sames]
      | cons t' l' =>
        simp only [Tm.sames, ih t (by simp) t']
        rw [ihl (fun t ht => ih t (by simp [ht])) l']
theorem IsBytes.world (W : World) (e : TypeId) (B : List UInt8) : IsBytes (Lib.bytesWorld W e (bs B)) B (some ⟨W.heap.size, 0, none⟩) (bs B).size := by
  refine ⟨by rw [vby_il_length], fun i v hi => ⟨W.heap.size, 0, rfl, ?_⟩⟩
  have hlt : i < (bs B).size := by
    have := lt_of_some_ hi
    rw [vby_il_length] at this
    exact this
  rw [Nat.zero_add, Lib.bytesWorld_cell W e (bs B) i hlt]
  have hb : i < B.length := by rw [bs_size] at hlt; exact hlt
  unfold vby at hi
  rw [il_bs, List.map_map, List.getElem?_map, List.getElem?_eq_getElem hb] at hi
  have e1 : (bs B).data.toList = B := bs_list B
  rw [e1, List.getD_eq_getElem?_getD, List.getElem?_eq_getElem hb]
  simpa using hi
end Go.Proofs.YtaioeailgknfjaaGreatDoor
