/- Part 31 of the proof: Show5, PureH5; no condition of ours. -/
import Derived.Test.YtaioeailgknfjaaGreatDoorPkp26
import Derived.Test.YtaioeailgknfjaaGreatDoorPkp30
set_option linter.unusedVariables false
set_option linter.unusedSimpArgs false
namespace Go.Proofs.YtaioeailgknfjaaGreatDoor
open Go.Lib (hid)
open Go Go.RowKit Go.Sort
theorem sub_all {x : Hd} {l : List Tm} {t : Tm} (hn : ∀ u, u ∈ (Tm.mk x l).all → u.node = true) (ht : t ∈ l) : ∀ u, u ∈ t.all → u.node = true := fun u hu => hn u (Tm.mem_all.2 (.inr ⟨t, ht, hu⟩))
theorem sub_size {x : Hd} {l : List Tm} {t : Tm} {N : Nat} (hs : (Tm.mk x l).size ≤ N + 1) (ht : t ∈ l) : t.size ≤ N := by
  have := Tm.size_mem l t ht
  simp [Tm.size] at hs
  omega
set_option maxRecDepth 60000 in
set_option maxHeartbeats 4000000 in
theorem show_bound (x : Hd) (ks : List Tm) (g : Nat) (v : Value) (ws : List ByteArray) (w : World) (a : Option Addr) (n c : Nat) (r : List ByteArray) (hk : x.k = 11 ∨ x.k = 12 ∨ x.k = 13 ∨ x.k = 14 ∨ x.k = 16) (hW : WrAt w g v ws) (ht : IsTmsA (fun b => g ≤ b) w ks a n)
    (hB : ∀ w1 v1, WrAt w1 g v1 ws → IsTmsA (fun b => g ≤ b) w1 ks a n → Calls Tryz.prog 81 #[.pointer (some ⟨g, 0, none⟩), .agg #[.int .u8 x.k, .int .u8 x.op, .int .i64 x.pos, .int .i64 x.n, .string x.name, .string x.arg, .string x.exn, .slice a n c], .slice a n c] w1 (RetWr w1 g v1 (ws ++ r))) :
    Calls Tryz.prog 48 #[.pointer (some ⟨g, 0, none⟩), .agg #[.int .u8 x.k, .int .u8 x.op, .int .i64 x.pos, .int .i64 x.n, .string x.name, .string x.arg, .string x.exn, .slice a n c]] w (RetWr w g v (ws ++ r)) := by
  have HW := hid hW
  have HT := hid ht
  have HB := hid hB
  clear hW ht hB
  rcases hk with e | e | e | e | e
  all_goals
    rw [e] at HB ⊢
    clear e
    go_enter Tryz.func48, Tryz.ntmps48
    go_upto_region 1 with fail
    have HH := fun k => hid (WrTo.start HW.out |>.ext ((Ext.refl w).alloc (.cells #[.int .u8 k, .int .u8 x.op, .int .i64 x.pos, .int .i64 x.n, .string x.name, .string x.arg, .string x.exn, .slice a n c] 28)))
    have TT := fun k => hid (HT.out.ext ((Ext.refl w).alloc (.cells #[.int .u8 k, .int .u8 x.op, .int .i64 x.pos, .int .i64 x.n, .string x.name, .string x.arg, .string x.exn, .slice a n c] 28)))
    go_wp2_with (go_at_call 81; refine (HB.out _ v (HH _).out.at_ (TT _).out).mono ?_; intro e w2 hh; obtain ⟨rfl, v2, M, -⟩ := (HH _).out.more hh)
    exact bodyPost_end (v := .tuple #[]) (results_none rfl _ _ _) rfl M.ret
theorem writer_term (N : Nat) : ShowT N := by
  induction N with
  | zero => intro x ks g v ws w a n c hs; simp [Tm.size] at hs
  | succ N hT =>
    intro x ks g v ws w a n c hs hn hW hv hlen
    obtain ⟨a', n', c', ev, -, -, hf, ht⟩ := hv.open_
    cases ev
    have ok := node_ok (hn _ (Tm.self_all _))
    have hnn := ht.length
    rcases kinds_of ok with ⟨hk, rfl⟩ | ⟨hk, t0, rfl⟩ | ⟨hk, t0, t1, rfl⟩ | ⟨hk, t0, t1, t2, rfl⟩
    · obtain rfl : n = 0 := hnn
      rcases hk with hk | hk
      · exact term_num N hT x g v ws w a c hk ok.n0.1 ok.n0.2 hW ht hlen
      · exact term_var N hT x g v ws w a c hk hW ht hlen
    · obtain rfl : n = 1 := hnn
      obtain ⟨y0, k0⟩ := t0
      have s0 := sub_size hs (t := .mk y0 k0) (by simp)
      have n0 := sub_all hn (t := .mk y0 k0) (by simp)
      rcases hk with hk | hk | hk | hk | hk | hk
      · exact term_pre4 N hT x y0 k0 g v ws w a c hk s0 n0 hW ht hlen
      · exact term_pre5 N hT x y0 k0 g v ws w a c hk s0 n0 hW ht hlen
      · exact term_pre6 N hT x y0 k0 g v ws w a c hk s0 n0 hW ht hlen
      · exact term_pre7 N hT x y0 k0 g v ws w a c hk s0 n0 hW ht hlen
      · exact show_bound x _ g v ws w a 1 c _ (.inl hk) hW ht fun w1 v1 h1 h2 => bind_fn N hT x y0 k0 g v1 ws w1 a c hk s0 n0 h1 h2 hlen
      · exact term_raise N hT x y0 k0 g v ws w a c hk s0 n0 hW ht hlen
    · obtain rfl : n = 2 := hnn
      obtain ⟨y0, k0⟩ := t0
      obtain ⟨y1, k1⟩ := t1
      have s0 := sub_size hs (t := .mk y0 k0) (by simp)
      have n0 := sub_all hn (t := .mk y0 k0) (by simp)
      have s1 := sub_size hs (t := .mk y1 k1) (by simp)
      have n1 := sub_all hn (t := .mk y1 k1) (by simp)
      rcases hk with hk | hk | hk | hk | hk | hk | hk
      · exact term_pair N hT x y0 k0 y1 k1 g v ws w a c hk s0 n0 s1 n1 hW ht hlen
      · exact term_set N hT x y0 k0 y1 k1 g v ws w a c hk s0 n0 s1 n1 hW ht hlen
      · rcases op_cases ok hk with ho | ho | ho | ho | ho
        · exact term_op1 N hT x y0 k0 y1 k1 g v ws w a c hk ho s0 n0 s1 n1 hW ht hlen
        · exact term_op2 N hT x y0 k0 y1 k1 g v ws w a c hk ho s0 n0 s1 n1 hW ht hlen
        · exact term_op3 N hT x y0 k0 y1 k1 g v ws w a c hk ho s0 n0 s1 n1 hW ht hlen
        · exact term_op4 N hT x y0 k0 y1 k1 g v ws w a c hk ho s0 n0 s1 n1 hW ht hlen
        · exact term_op5 N hT x y0 k0 y1 k1 g v ws w a c hk ho s0 n0 s1 n1 hW ht hlen
      · exact term_app N hT x y0 k0 y1 k1 g v ws w a c hk s0 n0 s1 n1 hW ht hlen
      · exact show_bound x _ g v ws w a 2 c _ (.inr (.inl hk)) hW ht fun w1 v1 h1 h2 => bind_let N hT x y0 k0 y1 k1 g v1 ws w1 a c hk s0 n0 s1 n1 h1 h2 hlen
      · exact show_bound x _ g v ws w a 2 c _ (.inr (.inr (.inl hk))) hW ht fun w1 v1 h1 h2 => bind_letrec N hT x y0 k0 y1 k1 g v1 ws w1 a c hk s0 n0 s1 n1 h1 h2 hlen
      · exact show_bound x _ g v ws w a 2 c _ (.inr (.inr (.inr (.inr hk)))) hW ht fun w1 v1 h1 h2 => bind_try N hT x y0 k0 y1 k1 g v1 ws w1 a c hk s0 n0 s1 n1 h1 h2 hlen
    · obtain rfl : n = 3 := hnn
      obtain ⟨y0, k0⟩ := t0
      obtain ⟨y1, k1⟩ := t1
      obtain ⟨y2, k2⟩ := t2
      have s0 := sub_size hs (t := .mk y0 k0) (by simp)
      have n0 := sub_all hn (t := .mk y0 k0) (by simp)
      have s1 := sub_size hs (t := .mk y1 k1) (by simp)
      have n1 := sub_all hn (t := .mk y1 k1) (by simp)
      have s2 := sub_size hs (t := .mk y2 k2) (by simp)
      have n2 := sub_all hn (t := .mk y2 k2) (by simp)
      exact show_bound x _ g v ws w a 3 c _ (.inr (.inr (.inr (.inl hk)))) hW ht fun w1 v1 h1 h2 => bind_if N hT x y0 k0 y1 k1 y2 k2 g v1 ws w1 a c hk s0 n0 s1 n1 s2 n2 h1 h2 hlen
end Go.Proofs.YtaioeailgknfjaaGreatDoor
namespace Go.Proofs.YtaioeailgknfjaaGreatDoor
open Go
theorem joinW_len (ws : List Wk) (h : ∀ w, w ∈ ws → WkOk w) : (joinW ws).length ≤ 17 * ws.length := by
  induction ws with
  | nil => simp [joinW]
  | cons w l ih =>
    obtain ⟨c, r, hw, -, h16⟩ := h w (by simp)
    have ih := ih fun w hw => h w (by simp [hw])
    cases l with
    | nil => show (w.2.data.toList).length ≤ _; rw [hw]; simp only [List.length_cons, List.length_nil] at h16 ⊢; omega
    | cons v l => rw [joinW_cons w (by simp), hw]; simp only [List.length_append, List.length_cons] at h16 ih ⊢; omega
theorem kw_size {t : Tm} (h : t.wk.length + 2 ≤ 8 * t.size) (p : Nat) : (t.kw p).length ≤ 8 * t.size := Nat.le_trans (kw_two t p) h
theorem wk_size (t : Tm) : (∀ u, u ∈ t.all → u.node = true) → t.wk.length + 2 ≤ 8 * t.size := by
  induction t using Tm.ind with
  | h x l ih =>
    intro hn
    have ok := node_ok (hn _ (Tm.self_all _))
    have ih : ∀ t, t ∈ l → t.wk.length + 2 ≤ 8 * t.size := fun t ht => ih t ht fun u hu => hn u (Tm.mem_all.2 (.inr ⟨t, ht, hu⟩))
    rcases kinds_of ok with ⟨hk, rfl⟩ | ⟨hk, a, rfl⟩ | ⟨hk, a, b, rfl⟩ | ⟨hk, a, b, c, rfl⟩
    · rcases hk with hk | hk
      · rw [wk_1 hk]; simp [Tm.size, Tm.sizes]
      · rw [wk_2 hk]; simp [Tm.size, Tm.sizes]
    · have ia := ih a (by simp)
      have ka := kw_size ia
      have e : (Tm.mk x [a]).size = 1 + a.size := by simp [Tm.size, Tm.sizes]
      rw [e]
      rcases hk with hk | hk | hk | hk | hk | hk
      · rw [wk_pre (.inl hk)]; have := ka 6; simp; omega
      · rw [wk_pre (.inr (.inl hk))]; have := ka 6; simp; omega
      · rw [wk_pre (.inr (.inr (.inl hk)))]; have := ka 6; simp; omega
      · rw [wk_pre (.inr (.inr (.inr hk)))]; have := ka 6; simp; omega
      · rw [wk_11 hk]; simp; omega
      · rw [wk_15 hk]; have := ka 6; simp; omega
    · have ia := ih a (by simp)
      have ib := ih b (by simp)
      have ka := kw_size ia
      have kb := kw_size ib
      have e : (Tm.mk x [a, b]).size = 1 + a.size + b.size := by simp [Tm.size, Tm.sizes]; omega
      rw [e]
      rcases hk with hk | hk | hk | hk | hk | hk | hk
      · rw [wk_3 hk]; simp; omega
      · rw [wk_8 hk]; have := ka 2; have := kb 2; simp; omega
      · rw [wk_9 hk]; have := ka (if looseT x.op = 2 then 3 else looseT x.op); have := kb (looseT x.op + 1); simp only [List.length_append, List.length_cons]; omega
      · rw [wk_10 hk]; have := ka 5; have := kb 6; simp; omega
      · rw [wk_12 hk]; simp; omega
      · rw [wk_13 hk]; simp; omega
      · rw [wk_16 hk]; simp; omega
    · have ia := ih a (by simp)
      have ib := ih b (by simp)
      have ic := ih c (by simp)
      have e : (Tm.mk x [a, b, c]).size = 1 + a.size + b.size + c.size := by simp [Tm.size, Tm.sizes]; omega
      rw [e, wk_14 hk]; simp; omega
theorem wk_pos (t : Tm) (hn : ∀ u, u ∈ t.all → u.node = true) : t.wk ≠ [] := by
  obtain ⟨x, l⟩ := t
  have ok := node_ok (hn _ (Tm.self_all _))
  rcases kinds_of ok with ⟨hk, rfl⟩ | ⟨hk, a, rfl⟩ | ⟨hk, a, b, rfl⟩ | ⟨hk, a, b, c, rfl⟩
  · rcases hk with hk | hk
    · rw [wk_1 hk]; simp
    · rw [wk_2 hk]; simp
  · rcases hk with hk | hk | hk | hk | hk | hk
    · rw [wk_pre (.inl hk)]; simp
    · rw [wk_pre (.inr (.inl hk))]; simp
    · rw [wk_pre (.inr (.inr (.inl hk)))]; simp
    · rw [wk_pre (.inr (.inr (.inr hk)))]; simp
    · rw [wk_11 hk]; simp
    · rw [wk_15 hk]; simp
  · rcases hk with hk | hk | hk | hk | hk | hk | hk
    · rw [wk_3 hk]; simp
    · rw [wk_8 hk]; simp
    · rw [wk_9 hk]; simp
    · rw [wk_10 hk]
      intro e
      have h := congrArg List.length e
      have hb := (good_words b (fun u hu => hn u (Tm.mem_all.2 (.inr ⟨b, by simp, hu⟩)))).kid 6 (Nat.le_refl _)
      have h2 : b.kw 6 = [] := (List.append_eq_nil_iff.1 e).2
      have := hb.begins (by omega) [] [] ⟨[], rfl, by rw [h2]; rfl⟩
      exact absurd this (by decide +kernel)
    · rw [wk_12 hk]; simp
    · rw [wk_13 hk]; simp
    · rw [wk_16 hk]; simp
  · rw [wk_14 hk]; simp
def exnW : List Tk → List Wk
  | [] => []
  | e :: l => (4, w_exn) :: (3, e.text) :: (5, s_semi) :: exnW l
def progW (es : List Tk) (t : Tm) : List Wk := exnW es ++ t.wk
theorem exnW_len (es : List Tk) : (exnW es).length = 3 * es.length := by
  induction es with
  | nil => rfl
  | cons e l ih => simp [exnW, ih]; omega
theorem exnW_ok (es : List Tk) (h : ∀ e, e ∈ es → isExn e.text = true) : ∀ w, w ∈ exnW es → WkOk w := by
  induction es with
  | nil => intro w hw; simp [exnW] at hw
  | cons e l ih =>
    intro w hw
    simp only [exnW, List.mem_cons] at hw
    rcases hw with rfl | rfl | rfl | hw
    · exact ok_const _ (by simp [constW])
    · exact ok_exn (h e (by simp))
    · exact ok_const _ (by simp [constW])
    · exact ih (fun e he => h e (by simp [he])) w hw
theorem progW_ok {es : List Tk} {t : Tm} (h : ∀ e, e ∈ es → isExn e.text = true) (hn : ∀ u, u ∈ t.all → u.node = true) : ∀ w, w ∈ progW es t → WkOk w := fun w hw => by
  rcases List.mem_append.1 hw with hw | hw
  · exact exnW_ok es h w hw
  · exact words_ok t hn w hw
theorem ended_of (q : List Tk) (e : Tk) (h : ∀ t, t ∈ q → t.k ≠ 6) (he : e.k = 6) : Ended (q ++ [e]) := by
  induction q with
  | nil => exact he
  | cons t q ih =>
    have := ih fun t ht => h t (by simp [ht])
    cases q with
    | nil => exact ⟨h t (by simp), this⟩
    | cons u q => exact ⟨h t (by simp), this⟩
theorem word_kind {w : Wk} (h : WkOk w) : w.1 ≠ 6 := by
  obtain ⟨c, r, -, ht, -⟩ := h
  have := tokAt_bd ht
  omega
theorem lex_ended (ws : List Wk) (h : ∀ w, w ∈ ws → WkOk w) (p : Nat) : ∃ (q : List Tk) (e : Tk) (o : List Tok), lexL p (joinW ws) = .ok o ∧ o.map Tok.tk = q ++ [e] ∧ e.k = 6 ∧ q.map (fun t => (t.k, t.text)) = ws ∧ Ended (q ++ [e]) ∧ o.length = ws.length + 1 := by
  obtain ⟨q, e, h1, h2⟩ := lex_words ws p h
  have h3 : (q.map Tok.tk).map (fun t => (t.k, t.text)) = ws := by rw [← h2]; simp [Tok.tk]
  refine ⟨q.map Tok.tk, ⟨6, ByteArray.empty, ((e : Nat) : Int)⟩, _, h1, by simp [Tok.tk], rfl, h3, ended_of _ _ (fun t ht => ?_) rfl, by have := congrArg List.length h2; simp at this ⊢; omega⟩
  have : (t.k, t.text) ∈ ws := by rw [← h3]; exact List.mem_map.2 ⟨t, ht, rfl⟩
  exact word_kind (h _ this)
theorem exn_reads (es : List Tk) : ∀ (acc l r : List Tk), AsW l (exnW es) r → ∃ es', progG acc l = progG (acc ++ es') r ∧ es'.map (fun e => (e.k, e.text)) = es.map fun e => ((3 : Int), e.text) := by
  induction es with
  | nil => intro acc l r h; rw [h.nil]; exact ⟨[], by simp, rfl⟩
  | cons e es ih =>
    intro acc l r h
    have i1 := isT_at (.inl rfl) h [w_exn]
    obtain ⟨t, l1, rfl, -, -, h1⟩ := h.cons
    obtain ⟨u, l2, rfl, u1, u2, h2⟩ := h1.cons
    have i2 := isT_at (.inr rfl) h2 [s_semi]
    obtain ⟨v, l3, rfl, -, -, h3⟩ := h2.cons
    obtain ⟨es', e1, e2⟩ := ih (acc ++ [u]) l3 r h3
    refine ⟨u :: es', ?_, by simp [e2, u1, u2]⟩
    rw [progG_more (by rw [i1]; decide +kernel) u1 (by rw [i2]; decide +kernel), e1]
    simp
theorem ended_behind {q m : List Tk} (h : Ended (q ++ m)) (hm : m ≠ []) : Ended m := by
  induction q with
  | nil => exact h
  | cons a q ih =>
    cases hqm : q ++ m with
    | nil => exact absurd (List.append_eq_nil_iff.1 hqm).2 hm
    | cons b l =>
      rw [List.cons_append, hqm] at h
      exact ih (by rw [hqm]; exact h.2)
theorem prog_reads (es : List Tk) (t : Tm) (hn : ∀ u, u ∈ t.all → u.node = true) (q : List Tk) (e : Tk) (he : e.k = 6) (hE : Ended (q ++ [e])) (hq : q.map (fun t => (t.k, t.text)) = progW es t) : ∃ es' t', progL (q ++ [e]) = .ok ((es', t'), [e]) ∧ t'.same t = true ∧ es'.map (fun e => (e.k, e.text)) = es.map fun e => ((3 : Int), e.text) := by
  have hA : AsW (q ++ [e]) (progW es t) [e] := ⟨q, rfl, hq⟩
  obtain ⟨m, h1, h2⟩ := hA.append
  obtain ⟨es', e1, e2⟩ := exn_reads es [] _ _ h1
  have hst : StopsAt 0 [e] := ⟨fun k hk _ => by simp [isT, he], fun _ => by simp [beginsT, isT, kindT, he]⟩
  obtain ⟨f, t', h3, h4⟩ := (good_words t hn).get 0 (Nat.zero_le _) _ _ h2 hst
  have hm : Ended m := by
    obtain ⟨q', hq', -⟩ := h1
    obtain ⟨q2, hq2, -⟩ := h2
    rw [hq'] at hE
    exact ended_behind hE (by rw [hq2]; simp)
  refine ⟨es', t', ?_, h4, e2⟩
  show progG [] (q ++ [e]) = _
  have h3 : parseF f .expr m = some (.ok (t', [e])) := h3
  rw [e1, progG_body (expr_not h3)]
  unfold bodyG
  rw [parseL_eq hm h3]
  simp
end Go.Proofs.YtaioeailgknfjaaGreatDoor
