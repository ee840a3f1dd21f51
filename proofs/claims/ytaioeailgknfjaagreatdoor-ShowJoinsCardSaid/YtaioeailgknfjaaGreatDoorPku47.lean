/- Part 47 of the proof: PureP15, PureH6, Show7, Law06f, Law06c, TBox; no condition of ours. -/
import Derived.Test.YtaioeailgknfjaaGreatDoorPku5
import Derived.Test.YtaioeailgknfjaaGreatDoorPku7
import Derived.Test.YtaioeailgknfjaaGreatDoorPku24
import Derived.Test.YtaioeailgknfjaaGreatDoorPku38
import Derived.Test.YtaioeailgknfjaaGreatDoorPku39
import Derived.Test.YtaioeailgknfjaaGreatDoorPku42
import Derived.Test.YtaioeailgknfjaaGreatDoorPku45
import Derived.Test.YtaioeailgknfjaaGreatDoorPku46
set_option linter.unusedVariables false
set_option linter.unusedSimpArgs false
namespace Go.Proofs.YtaioeailgknfjaaGreatDoor
open Go
theorem tokAt_ok {c : UInt8} {r : List UInt8} {n : Nat} {k : Int} (h : tokAt (c :: r) = some (n, k)) : (k = 1 → numB (bs ((c :: r).take n)) = true) ∧ (k = 2 → isName (bs ((c :: r).take n)) = true) ∧ (k = 3 → isExn (bs ((c :: r).take n)) = true) := by
  unfold tokAt at h
  simp only at h
  split at h
  · split at h
    · rename_i hn
      cases h
      exact ⟨fun _ => hn, fun h => absurd h (by omega), fun h => absurd h (by omega)⟩
    · cases h
  split at h
  · split at h
    · cases h
      exact ⟨fun h => absurd h (by omega), fun h => absurd h (by omega), fun h => absurd h (by omega)⟩
    split at h
    · rename_i hn
      cases h
      exact ⟨fun h => absurd h (by omega), fun _ => hn, fun h => absurd h (by omega)⟩
    split at h
    · rename_i hn
      cases h
      exact ⟨fun h => absurd h (by omega), fun h => absurd h (by omega), fun _ => hn⟩
    · cases h
  split at h
  · split at h
    · cases h
    · cases h
      exact ⟨fun h => absurd h (by omega), fun h => absurd h (by omega), fun h => absurd h (by omega)⟩
  · cases h
theorem lexL_ok (p : Nat) (l : List UInt8) : ∀ o, lexL p l = .ok o → ∀ t, t ∈ o → TkOk t.tk := by
  refine lex_ind (P := fun p l => ∀ o, lexL p l = .ok o → ∀ t, t ∈ o → TkOk t.tk) ?_ ?_ ?_ ?_ l.length p l (Nat.le_refl _)
  · intro p o h t ht
    rw [lexL_nil] at h
    cases h
    simp at ht
    subst ht
    exact ⟨Int.natCast_nonneg _, fun h => absurd h (by show ¬ (6 : Int) = 1; omega), fun h => absurd h (by show ¬ (6 : Int) = 2; omega), fun h => absurd h (by show ¬ (6 : Int) = 3; omega)⟩
  · intro p c r hc ih o h
    rw [lexL_blank hc] at h
    exact ih o h
  · intro p c r hc ht o h
    rw [lexL_none hc _ ht] at h
    cases h
  · intro p c r n k hc ht ih o h t htm
    have hok := tokAt_ok ht
    rw [lexL_tok hc _ ht] at h
    cases e1 : lexL (p + n) ((c :: r).drop n) with
    | error x => rw [e1] at h; cases h
    | ok o1 =>
      rw [e1] at h
      have h : Except.ok (⟨k, bs ((c :: r).take n), p⟩ :: o1) = Except.ok (ε := Nat) o := h
      cases h
      rcases List.mem_cons.1 htm with rfl | htm
      · exact ⟨Int.natCast_nonneg _, hok.1, hok.2.1, hok.2.2⟩
      · exact ih o1 e1 t htm
theorem exnW_append (l m : List Tk) : exnW (l ++ m) = exnW l ++ exnW m := by
  induction l with
  | nil => rfl
  | cons e l ih => simp [exnW, ih]
theorem progW_len (es : List Tk) (t : Tm) : (progW es t).length = 3 * es.length + t.wk.length := by simp [progW, exnW_len]
def pgMay (es : List Tk) (t : Tm) : Bool := (es.all fun e => isExn e.text) && t.may
theorem pgMay_iff {es : List Tk} {t : Tm} : pgMay es t = true ↔ (∀ e, e ∈ es → isExn e.text = true) ∧ t.may = true := by
  unfold pgMay
  rw [Bool.and_eq_true, List.all_eq_true]
def showP (es : List Tk) (t : Tm) : ByteArray × Int := if pgMay es t then (bs (joinW (progW es t)), 0) else (ByteArray.empty, 1)
theorem may_iff (t : Tm) : t.may = true ↔ t.size ≤ 4000 ∧ ∀ u, u ∈ t.all → u.node = true := by
  unfold Tm.may
  simp only [Bool.and_eq_true, decide_eq_true_eq, List.all_eq_true]
theorem prog_back (es : List Tk) (t : Tm) (he : ∀ e, e ∈ es → isExn e.text = true) (hn : ∀ u, u ∈ t.all → u.node = true) :
    (65536 < (joinW (progW es t)).length ∧ ∃ p, progR (joinW (progW es t)) = .error (p, 3)) ∨ (4001 < (progW es t).length + 1 ∧ ∃ p, progR (joinW (progW es t)) = .error (p, 3)) ∨
    ∃ es' t', progR (joinW (progW es t)) = .ok (es', t') ∧ t'.same t = true ∧ es'.map (fun e => (e.k, e.text)) = es.map fun e => ((3 : Int), e.text) := by
  by_cases hl : 65536 < (joinW (progW es t)).length
  · refine .inl ⟨hl, 0, ?_⟩
    unfold progR runR
    rw [lexR_long hl]
    rfl
  · obtain ⟨q, e, o, h1, h2, h3, h4, h5, h6⟩ := lex_ended (progW es t) (progW_ok he hn) 0
    have hR := lexR_ok hl h1
    have hq : (o.map Tok.tk).length = (progW es t).length + 1 := by simp [h6]
    by_cases hw : 4001 < (progW es t).length + 1
    · refine .inr (.inl ⟨hw, ?_⟩)
      unfold progR runR
      rw [hR]
      simp only
      rw [if_neg (by simp), if_pos (by omega)]
      exact ⟨_, rfl⟩
    · obtain ⟨es', t', e1, e2, e3⟩ := prog_reads es t hn q e h3 h5 h4
      refine .inr (.inr ⟨es', t', ?_, e2, e3⟩)
      unfold progR runR
      rw [hR]
      simp only
      rw [if_neg (by simp), if_neg (by omega), h2, e1]
      simp [kindT, h3]
theorem exnsG_few (L : List Tk) (hL : ∀ x, x ∈ L → TkOk x) (l : List Tk) : ∀ acc es l', (∀ x, x ∈ l → x ∈ L) → exnsG acc l = .ok (es, l') → ∃ m, es = acc ++ m ∧ (∀ e, e ∈ m → isExn e.text = true) ∧ 3 * m.length + l'.length ≤ l.length ∧ (∀ x, x ∈ l' → x ∈ L) := by
  intro acc es l' hl h
  induction acc, l using exnsG.induct with
  | case1 acc t u v l h1 h2 h3 ih =>
    rw [exnsG, if_pos h1, if_pos h2, if_pos h3] at h
    obtain ⟨m, rfl, hm, hn, hs⟩ := ih (fun x hx => hl x (by simp [hx])) h
    exact ⟨u :: m, by simp, fun e he => by
      rcases List.mem_cons.1 he with rfl | he
      · exact (hL _ (hl _ (by simp))).exn h2
      · exact hm e he, by simp only [List.length_cons]; omega, hs⟩
  | case2 acc t u v l h1 h2 h3 => rw [exnsG, if_pos h1, if_pos h2, if_neg h3] at h; cases h
  | case3 acc t u v l h1 h2 => rw [exnsG, if_pos h1, if_neg h2] at h; cases h
  | case4 acc t u v l h1 => rw [exnsG, if_neg h1] at h; cases h; exact ⟨[], by simp, by simp, by simp, hl⟩
  | case5 acc t u h1 => rw [exnsG, if_pos h1] at h; cases h
  | case6 acc t u h1 => rw [exnsG, if_neg h1] at h; cases h; exact ⟨[], by simp, by simp, by simp, hl⟩
  | case7 acc l h1 h2 => rw [exnsG] at h; cases h; exact ⟨[], by simp, by simp, by simp, hl⟩; exact h1; exact h2
theorem parseL_fuel {l : List Tk} {t : Tm} {l' : List Tk} (h : parseL .expr l = .ok (t, l')) : ∃ f, parseF f .expr l = some (.ok (t, l')) := by
  unfold parseL at h
  cases hp : parseF (8 * l.length + NT.expr.rk) .expr l with
  | none => rw [hp] at h; cases h
  | some y => rw [hp] at h; exact ⟨_, hp.trans (congrArg some h)⟩
theorem prog_sound (L : List Tk) (hL : ∀ x, x ∈ L → TkOk x) {es : List Tk} {t : Tm} {l' : List Tk} (h : progL L = .ok ((es, t), l')) : (∀ e, e ∈ es → isExn e.text = true) ∧ (∀ u, u ∈ t.all → u.node = true) ∧ 3 * es.length + t.wk.length + l'.length ≤ L.length ∧ t.size + 1 + 2 * l'.length ≤ 2 * L.length + NT.expr.size0 := by
  unfold progL progG at h
  cases hx : exnsG [] L with
  | error l => rw [hx] at h; cases h
  | ok q =>
    obtain ⟨es1, l1⟩ := q
    rw [hx] at h
    simp only at h
    unfold bodyG at h
    cases hb : parseL .expr l1 with
    | error l => rw [hb] at h; cases h
    | ok q =>
      obtain ⟨t1, l2⟩ := q
      rw [hb] at h
      simp only at h
      cases h
      obtain ⟨m, rfl, hm, hn, hs⟩ := exnsG_few L hL L [] es l1 (fun x hx => hx) hx
      obtain ⟨f, hf⟩ := parseL_fuel hb
      have hS := parse_sound L hL f .expr l1 t l' hs trivial hf
      have hF : t.wk.length + l'.length ≤ l1.length := parse_few f .expr l1 t l' hf
      have hfew := hS.few
      refine ⟨by simpa using hm, fun u hu => (hS.good u hu).1, by first | omega | (simp; omega), by omega⟩
theorem same_size (t : Tm) : ∀ t' : Tm, t.same t' = true → t.size = t'.size := by
  induction t using Tm.ind with
  | h x l ih =>
    rintro ⟨x', l'⟩ hs
    rw [same_mk, Bool.and_eq_true] at hs
    have h2 := hs.2
    have : Tm.sizes l = Tm.sizes l' := by
      clear hs
      induction l generalizing l' with
      | nil =>
        cases l' with
        | nil => rfl
        | cons => simp [Tm.sames] at h2
      | cons t l ihl =>
        cases l' with
        | nil => simp [Tm.sames] at h2
        | cons t' l' =>
          simp only [Tm.sames, Bool.and_eq_true] at h2
          simp only [Tm.sizes, ih t (by simp) t' h2.1, ihl (fun t ht => ih t (by simp [ht])) l' h2.2]
    simp only [Tm.size, this]
theorem exnW_map {es es' : List Tk} (h : es'.map (fun e => (e.k, e.text)) = es.map fun e => ((3 : Int), e.text)) : exnW es' = exnW es := by
  induction es generalizing es' with
  | nil => cases es' with
    | nil => rfl
    | cons => simp at h
  | cons e es ih => cases es' with
    | nil => simp at h
    | cons e' es' =>
      simp only [List.map_cons, List.cons.injEq, Prod.mk.injEq] at h
      simp only [exnW, ih h.2, h.1.2]
theorem take_step {es : List Tk} {j : Nat} {t : Tk} (h : es[j]? = some t) : es.take (j + 1) = es.take j ++ [t] := by
  rw [List.take_add_one, h]
  rfl
theorem exn_all {es : List Tk} {j : Nat} {t : Tk} (h : es[j]? = some t) (hall : ∀ e, e ∈ es.take j → isExn e.text = true) (ht : isExn t.text = true) : ∀ e, e ∈ es.take (j + 1) → isExn e.text = true := fun e he => by
  rw [take_step h] at he
  rcases List.mem_append.1 he with he | he
  · exact hall e he
  · rw [List.mem_singleton] at he
    rw [he]
    exact ht
theorem runR_inv {α : Type} {res : List Tk → Res α} {B : List UInt8} {a : α} (h : runR res B = .ok a) : (lexR B).2.2 = 0 ∧ (lexR B).1.length ≤ 4001 ∧ ∃ l, res (lexR B).1 = .ok (a, l) ∧ kindT l = 6 := by
  unfold runR at h
  split at h
  · cases h
  rename_i h0
  split at h
  · cases h
  rename_i h1
  refine ⟨Classical.byContradiction h0, by omega, ?_⟩
  cases hr : res (lexR B).1 with
  | error l => rw [hr] at h; cases h
  | ok q =>
    obtain ⟨a', l⟩ := q
    rw [hr] at h
    simp only at h
    split at h
    · rename_i hk
      cases h
      exact ⟨l, rfl, hk⟩
    · cases h
theorem lexR_toks {B : List UInt8} (h : (lexR B).2.2 = 0) : (∀ x, x ∈ (lexR B).1 → TkOk x) ∧ (lexR B).1.length ≤ B.length + 1 := by
  obtain ⟨-, o, hl, ho⟩ := lexR_inv h
  have hok := lexL_ok 0 B o hl
  have hc := lexL_count 0 B o hl
  rw [ho]
  refine ⟨fun x hx => ?_, by simpa using hc⟩
  obtain ⟨t, ht, rfl⟩ := List.mem_map.1 hx
  exact hok t ht
theorem kindT_pos {l : List Tk} (h : kindT l = 6) : 1 ≤ l.length := by
  cases l with
  | nil => simp [kindT] at h
  | cons => simp
theorem stays {B : List UInt8} (hB : B.length ≤ 2000) {es : List Tk} {t : Tm} (h : progR B = .ok (es, t)) : pgMay es t = true ∧ t.size ≤ 4000 ∧ (joinW (progW es t)).length ≤ 65536 ∧
    ∃ es' t', progR (joinW (progW es t)) = .ok (es', t') ∧ t.same t' = true ∧ es'.length = es.length ∧ pgMay es' t' = true ∧ t'.size ≤ 4000 ∧ progW es' t' = progW es t := by
  obtain ⟨h0, h1, l, h2, hk⟩ := runR_inv h
  obtain ⟨hL, hc⟩ := lexR_toks h0
  obtain ⟨g1, g2, g3, g4⟩ := prog_sound _ hL h2
  have hkl := kindT_pos hk
  have hsz : t.size ≤ 4000 := by simp only [NT.size0] at g4; omega
  have hm : pgMay es t = true := pgMay_iff.2 ⟨g1, (may_iff t).2 ⟨hsz, g2⟩⟩
  have hwl := progW_len es t
  have hjl := joinW_len (progW es t) (progW_ok g1 g2)
  have hlen : (joinW (progW es t)).length ≤ 65536 := by omega
  refine ⟨hm, hsz, hlen, ?_⟩
  rcases prog_back es t g1 g2 with ⟨hb, -⟩ | ⟨hb, -⟩ | ⟨es', t', e1, e2, e3⟩
  · omega
  · omega
  · obtain ⟨k0, k1, l', k2, kk⟩ := runR_inv e1
    obtain ⟨kL, kc⟩ := lexR_toks k0
    obtain ⟨f1, f2, f3, f4⟩ := prog_sound _ kL k2
    have hs := same_size t' t e2
    have hl := congrArg List.length e3
    simp only [List.length_map] at hl
    exact ⟨es', t', e1, by rw [← Tm.same_swap]; exact e2, hl, pgMay_iff.2 ⟨f1, (may_iff t').2 ⟨by omega, f2⟩⟩, by omega, by unfold progW; rw [exnW_map e3, (same_words t' t e2).1]⟩
end Go.Proofs.YtaioeailgknfjaaGreatDoor
namespace Go.Proofs.YtaioeailgknfjaaGreatDoor
open Go Go.RowKit Go.Sort
theorem showP_yes {es : List Tk} {t : Tm} (h : pgMay es t = true) : showP es t = (bs (joinW (progW es t)), 0) := if_pos h
theorem showP_no {es : List Tk} {t : Tm} (h : pgMay es t = false) : showP es t = (ByteArray.empty, 1) := if_neg (by rw [h]; decide)
theorem exnW_step {es : List Tk} {j : Nat} {t : Tk} (h : es[j]? = some t) : (exnW (es.take (j + 1))).map (·.2) = (exnW (es.take j)).map (·.2) ++ [w_exn, t.text, s_semi] := by
  rw [take_step h, exnW_append]
  simp [exnW]
set_option maxRecDepth 60000 in
set_option maxHeartbeats 4000000 in
theorem show_Program (es : List Tk) (x : Hd) (ks : List Tm) (w : World) (ea : Option Addr) (en ec : Nat) (a : Option Addr) (n c : Nat) (hTk : IsToks w es ea en) (ht : IsTm w (.mk x ks) (.agg #[.int .u8 x.k, .int .u8 x.op, .int .i64 x.pos, .int .i64 x.n, .string x.name, .string x.arg, .string x.exn, .slice a n c])) (hk : Knob w) (htab : Tab w) (hs : (Tm.mk x ks).size ≤ 1000000) (hes : es.length ≤ 100000) :
    Calls Tryz.prog 26 #[.agg #[.slice ea en ec, .int .u8 x.k, .int .u8 x.op, .int .i64 x.pos, .int .i64 x.n, .string x.name, .string x.arg, .string x.exn, .slice a n c]] w fun e w' => e = .returned (.tuple #[.string (showP es (.mk x ks)).1, .int .i64 (showP es (.mk x ks)).2]) ∧ Ext w w' := by
  have KM := Lib.hid fun W (h : Ext w W) => term_may (.mk x ks) W _ (ht.ext h) (hk.ext h) hs
  have KX := Lib.hid fun (s : ByteArray) W b (h : Ext w W) (hr : IsRow W (vstr [s]) b 1) => (words_exn [s] W b 1 1 (by omega) (by omega) (hk.ext h) hr).mono fun e w' h => (show e = .returned (.bool (isExn s)) ∧ Ext W w' from ⟨by rw [h.1]; simp, h.2⟩)
  have hen : en = es.length := hTk.length
  have HEN := Lib.hid hen
  have hen2 : en ≤ 100000 := by omega
  have HTK := Lib.hid hTk
  have HT := Lib.hid ht
  have HTAB := Lib.hid htab
  cases hm : (Tm.mk x ks).may with
  | false =>
    rw [hm] at KM
    have hsp : showP es (.mk x ks) = (ByteArray.empty, 1) := showP_no (by unfold pgMay; rw [hm, Bool.and_false])
    rw [hsp]
    clear ht hk htab hs hm HT HTAB hTk hen HTK hsp KX
    go_enter Tryz.func26, Tryz.ntmps26
    go_wp2_with (go_at_call 47; refine (KM.out _ (by (exact eX))).mono ?_; rintro e w1 ⟨rfl, x1⟩)
    exact bodyPost_ret (v := .tuple #[.string ByteArray.empty, .int .i64 1]) (by simp [results, Tryz.results26, go_sem]; rfl) rfl ⟨rfl, by (exact eX)⟩
  | true =>
    obtain ⟨hsz, hn⟩ := may_nodes hm
    have hwk := wk_size (.mk x ks) hn
    have HNO : Hid (∀ (j : Nat) t, es[j]? = some t → isExn t.text = false → showP es (.mk x ks) = (ByteArray.empty, 1)) := Lib.hid fun j t hj h => showP_no (by
      cases hp : pgMay es (.mk x ks) with
      | false => rfl
      | true => have h2 := (pgMay_iff.1 hp).1 t (List.mem_of_getElem? hj); rw [h] at h2; cases h2)
    have HYES : Hid ((∀ e, e ∈ es → isExn e.text = true) → showP es (.mk x ks) = (bs (joinW (progW es (.mk x ks))), 0)) := Lib.hid fun h => showP_yes (pgMay_iff.2 ⟨h, hm⟩)
    have hpl := progW_len es (.mk x ks)
    rw [hm] at KM
    have KW := Lib.hid fun W g v (h1 : WrAt W g v ((exnW es).map (·.2))) (h2 : IsTmA (fun b => g ≤ b) W (.mk x ks) _) => writer_term _ x ks g v ((exnW es).map (·.2)) W a n c (Nat.le_refl _) hn h1 h2 (by rw [List.length_map, exnW_len]; omega)
    have KJ := Lib.hid fun W g v (hx : ∀ e, e ∈ es → isExn e.text = true) (h1 : WrAt W g v ((progW es (.mk x ks)).map (·.2))) => show_join g v (progW es (.mk x ks)) W h1 (by omega) (progW_ok hx hn)
    have ew : ((exnW es).map (·.2)) ++ (Tm.mk x ks).wx = (progW es (.mk x ks)).map (·.2) := by unfold progW Tm.wx; rw [List.map_append]
    rw [ew] at KW
    generalize progW es (.mk x ks) = pw at *
    generalize showP es (.mk x ks) = sp at *
    clear hm hsz hn hwk ew ht hk htab hs hTk hen hpl hes
    go_enter Tryz.func26, Tryz.ntmps26
    go_upto_region 3 with (go_at_call 47; refine (KM.out _ (by (exact eX))).mono ?_; rintro e w1 ⟨rfl, x1⟩; obtain ⟨d0, d1, d2, d3, d4, d5, d6, d7, d8⟩ := (blk_top x1).nine)
    have B1 := Lib.hid (blk_top x1)
    have Y1 : Ext w w1 := by (exact eX)
    have HY1 := Lib.hid Y1
    have hw1 := B1.out.lt
    have hsz := Below.size Y1
    have W2 : WrAt (w1.alloc (.cells #[.slice none 0 0] 85)) w1.heap.size (.slice none 0 0) [] := ⟨Blk.new w1 _ _, World.ownsRow_nil _ _ _ _, ⟨w, HTAB.out, hsz, Y1.alloc _⟩⟩
    have HW2 := Lib.hid W2
    have T2 : Hid (IsTmA (fun b => w1.heap.size ≤ b) (w1.alloc (.cells #[.slice none 0 0] 85)) (.mk x ks) (.agg #[.int .u8 x.k, .int .u8 x.op, .int .i64 x.pos, .int .i64 x.n, .string x.name, .string x.arg, .string x.exn, .slice a n c])) := Lib.hid (HT.out.fresh (Y1.alloc _) (fun b hb => by omega))
    have B2 := Lib.hid (B1.out.alloc (.cells #[.slice none 0 0] 85))
    have TK2 := Lib.hid (HTK.out.ext (Y1.alloc (.cells #[.slice none 0 0] 85)))
    have HLO := Lib.hid (show ∀ p o u, w1.cell? ⟨p, o, none⟩ = some u → p < w1.heap.size from fun p o u h => block_lt_of_cell h)
    have TK1 := Lib.hid (HTK.out.ext Y1)
    clear d0 d1 d2 d3 d4 d5 d6 d7 d8 x1 Y1 W2
    go_upto_region 4 with fail
    have hs2 : (w1.alloc (.cells #[.slice none 0 0] 85)).heap.size = w1.heap.size + 1 := by simp
    have HS2 := Lib.hid hs2
    have hlt2 : w1.heap.size < (w1.alloc (.cells #[.slice none 0 0] 85)).heap.size := by rw [hs2]; omega
    have HY2 := Lib.hid (HY1.out.alloc (.cells #[.slice none 0 0] 85))
    clear hs2
    generalize w1.alloc (.cells #[.slice none 0 0] 85) = W2 at *
    obtain ⟨d0, d1, d2, d3, d4, d5, d6, d7, d8⟩ := B2.out.nine
    go_wp2_with fail
    go_loopg [16] en (fun g i wr => ∃ (j : Nat) (v' : Value), g = en - j ∧ i = .int .i64 j ∧ j ≤ en ∧ (∀ e, e ∈ es.take j → isExn e.text = true) ∧ WrTo W2 w1.heap.size (.slice none 0 0) ((exnW (es.take j)).map (·.2)) v' wr)
    case atStart => exact ⟨0, .slice none 0 0, by omega, rfl, by omega, by simp, by simpa [exnW] using WrTo.start HW2.out⟩
    case round =>
      obtain ⟨j, v1, rfl, rfl, hj, hall, hM⟩ := hrel
      have HALL := Lib.hid hall
      have HM := Lib.hid hM
      have NK : ∀ b, b < w1.heap.size → ¬ WrX w1.heap.size (.slice none 0 0) b := fun b hb h => by rcases h with h | h; omega; simp [Value.ownBlock] at h
      have NK := Lib.hid NK
      have hwr : W2.heap.size ≤ wr.heap.size := hM.x.size
      by_cases hjl : j < en
      · obtain ⟨t, b, o, hi, -, rfl, p0, p1, p2⟩ := TK2.out.at3 hjl
        have hb : b < w1.heap.size := by
          obtain ⟨t', b', o', -, -, e9, p0', -, -⟩ := TK1.out.at3 hjl
          cases e9
          exact HLO.out _ _ _ p0'
        have q0 := hM.x.cell (NK.out b hb) p0
        have q1 := hM.x.cell (NK.out b hb) p1
        have q2 := hM.x.cell (NK.out b hb) p2
        have HI := Lib.hid hi
        have hz : (j : Int) < (en : Int) := by omega
        clear hi hall hM p0 p1 p2 d0 d1 d2 d3 d4 d5 d6 d7 d8
        obtain ⟨tk, tt, tp⟩ := t
        simp only at q0 q1 q2
        have QB := Lib.hid (show ∀ W, Ext ((wr.alloc (.cells #[.int .u8 tk, .string tt, .int .i64 tp] 37)).alloc (.cells #[.string tt] 9)) W → W.cell? ⟨wr.heap.size, 1, none⟩ = some (.string tt) from fun W h => (((Blk.new wr 37 #[.int .u8 tk, .string tt, .int .i64 tp]).alloc _).ext h).cell 1)
        have KX1 := Lib.hid (KX.out tt ((wr.alloc (.cells #[.int .u8 tk, .string tt, .int .i64 tp] 37)).alloc (.cells #[.string tt] 9)) (some ⟨wr.heap.size + 1, 0, none⟩) ((ExtX.ext HY2.out HM.out.x (fun b hb => by have := HY1.out.size; rcases hb with hb | hb; omega; simp [Value.ownBlock] at hb) |>.alloc _).alloc _) (by have h := IsRow.new (wr.alloc (.cells #[.int .u8 tk, .string tt, .int .i64 tp] 37)) 9 (vstr [tt]); rw [World.size_alloc] at h; exact h))
        cases hxn : isExn tt with
        | false =>
          have HSP := Lib.hid (HNO.out j _ HI.out hxn)
          rw [hxn] at KX1
          go_wp2_with (go_at_call 52; refine (KX1.out).mono ?_; rintro e w2 ⟨rfl, x2⟩)
          exact bodyPost_ret (v := .tuple #[.string ByteArray.empty, .int .i64 1]) (by simp [results, Tryz.results26, go_sem]; rfl) rfl ⟨by rw [HSP.out], ExtX.ext HY2.out (HM.out.x.then_ (((Ext.refl wr).alloc _).alloc _ |>.trans x2)) (fun b hb => by have := HY1.out.size; rcases hb with hb | hb; omega; simp [Value.ownBlock] at hb)⟩
        | true =>
          rw [hxn] at KX1
          have HST := Lib.hid (exnW_step HI.out)
          have HLN : Hid (((exnW (es.take j)).map (·.2)).length + 3 ≤ 1000000) := Lib.hid (by rw [List.length_map, exnW_len, List.length_take]; omega)
          have HAL := Lib.hid (exn_all HI.out HALL.out hxn)
          generalize (exnW (es.take j)).map (·.2) = ws at *
          go_wp2_with (first | (go_at_call 52; refine (KX1.out).mono ?_; rintro e w2 ⟨rfl, x2⟩; have q8 := QB.out _ x2; have M2 := HM.out.ext ((((Ext.refl wr).alloc _).alloc _).trans x2); have M2 := Lib.hid M2) | (go_at_call 53; refine (show_put w1.heap.size v1 ws [w_exn, tt, s_semi] _ ⟨w2.heap.size, 0, none⟩ 3 (M2.out.ext ((Ext.refl w2).alloc _)).at_ (row_text w2 [w_exn, tt, s_semi]) (by simp only [List.length_cons, List.length_nil]; have := HLN.out; omega)).mono ?_; intro e w3 hh; obtain ⟨rfl, v3, M3, -⟩ := (M2.out.ext ((Ext.refl w2).alloc _)).more hh))
          go_roundg (en - (j + 1))
          case rel => exact ⟨j + 1, v3, rfl, by go_num, by omega, HAL.out, by rw [HST.out]; exact M3⟩
          case measure => omega
      · obtain rfl : j = en := by omega
        have hz : ¬ (j : Int) < (j : Int) := by omega
        have e1 : es.take j = es := List.take_of_length_le (Nat.le_of_eq HEN.out.symm)
        have hx : ∀ e, e ∈ es → isExn e.text = true := fun e he => hall e (by rw [e1]; exact he)
        have HSP := Lib.hid (HYES.out hx)
        rw [e1] at HM
        have HX := Lib.hid hx
        obtain ⟨d0, d1, d2, d3, d4, d5, d6, d7, d8⟩ := (Blk.extx B2.out HM.out.x (NK.out _ hw1)).nine
        have TT := Lib.hid (tm_x HW2.out HM.out.x T2.out)
        clear hx hall hM e1
        go_upto_region 12 with (go_at_call 48; refine (KW.out wr w1.heap.size v1 HM.out.at_ TT.out).mono ?_; intro e w3 hh; obtain ⟨rfl, v3, M3, -⟩ := HM.out.more hh)
        have HM3 := Lib.hid M3
        have Y3 : Ext w w3 := ExtX.ext HY2.out M3.x (fun b hb => by have := HY1.out.size; rcases hb with hb | hb; omega; simp [Value.ownBlock] at hb)
        have HY3 := Lib.hid Y3
        clear hh M3 d0 d1 d2 d3 d4 d5 d6 d7 d8 Y3
        obtain ⟨va, vc, hv⟩ := HM3.out.at_.slice
        rw [List.length_map] at hv
        subst hv
        have e0 := HM3.out.at_.blk.cell 0
        simp at e0
        go_wp2_with (go_at_call 49; refine (KJ.out w3 _ _ HX.out HM3.out.at_).mono ?_; rintro e w4 ⟨rfl, x4⟩)
        exact bodyPost_ret (v := .tuple #[.string (bs (joinW pw)), .int .i64 0]) (by simp [results, Tryz.results26, go_sem]) rfl ⟨by rw [HSP.out], HY3.out.trans x4⟩
theorem isPg_open {w : World} {es : List Tk} {x : Hd} {ks : List Tm} {v : Value} (h : IsPg w (es, .mk x ks) v) : ∃ ea ec a n c, v = .agg #[.slice ea es.length ec, .int .u8 x.k, .int .u8 x.op, .int .i64 x.pos, .int .i64 x.n, .string x.name, .string x.arg, .string x.exn, .slice a n c] ∧ IsToks w es ea es.length ∧ IsTm w (.mk x ks) (.agg #[.int .u8 x.k, .int .u8 x.op, .int .i64 x.pos, .int .i64 x.n, .string x.name, .string x.arg, .string x.exn, .slice a n c]) := by
  obtain ⟨ea, en, ec, a, n, c, rfl, -, -, h1, h2, h3, h4, h5⟩ := h
  obtain rfl := h1.length
  exact ⟨ea, ec, a, n, c, rfl, h1, IsTmA.mk_ h5 h3 h4 h2⟩
set_option maxRecDepth 60000 in
set_option maxHeartbeats 8000000 in
theorem law_showStays (B : List UInt8) (w : World) (a0 : Option Addr) (len cap : Nat) (h1 : len ≤ cap) (h2 : cap ≤ 9223372036854775807) (hr : IsBytes w B a0 len) (hk : Knob w) (htab : Tab w) : Calls Tryz.prog 9 #[.slice a0 len cap] w (Yes5 w) := by
  have KA := Lib.hid fun (W : World) (h : Ext w W) => law06_awake W (hk.ext h) (htab.ext h)
  have hlen : len = B.length := hr.length
  by_cases hB : len ≤ 2000
  case neg =>
    have hz : (2000 : Int) < (len : Int) := by omega
    clear hr hk htab hlen hB
    go_enter Tryz.func9, Tryz.ntmps9
    go_wp2_with (go_at_call 21; refine (KA.out _ (by (exact eX))).mono ?_; rintro e w7 ⟨rfl, x7⟩)
    go_ret
    exact ⟨rfl, by (exact eX)⟩
  have hz : ¬ (2000 : Int) < (len : Int) := by omega
  have KP := Lib.hid (parse_prog B w a0 len cap h1 h2 hr hk)
  have hst := fun (es : List Tk) (t : Tm) (h : progR B = .ok (es, t)) => stays (B := B) (by omega) h
  cases hp : progR B with
  | error q =>
    obtain ⟨p, f⟩ := q
    have hf : f ≠ 0 := runR_err hp
    have hfb : (f != 0) = true := by simpa using hf
    rw [hp] at KP
    clear hr hk htab hlen hB hst hp hf h1 h2
    go_enter Tryz.func9, Tryz.ntmps9
    go_wp2_with (first | (go_at_call 15; refine (KP.out).mono ?_; rintro e w1 ⟨x1, rfl⟩) | (go_at_call 21; refine (KA.out _ (by (exact eX))).mono ?_; rintro e w7 ⟨rfl, x7⟩))
    go_ret
    exact ⟨rfl, by (exact eX)⟩
  | ok q =>
    obtain ⟨es, x, ks⟩ := q
    obtain ⟨m1, m2, m3, es', ⟨x', ks'⟩, m4, m5, m6, m7, m8, m9⟩ := hst _ _ hp
    have hes : es.length ≤ 100000 := by
      obtain ⟨g0, g1, l, g2, g3⟩ := runR_inv hp
      have := (prog_sound _ (lexR_toks g0).1 g2).2.2.1
      omega
    have KP : Hid (Calls Tryz.prog 15 #[.slice a0 len cap] w fun e w' => ∃ ea ec a n c, e = .returned (.tuple #[.agg #[.slice ea es.length ec, .int .u8 x.k, .int .u8 x.op, .int .i64 x.pos, .int .i64 x.n, .string x.name, .string x.arg, .string x.exn, .slice a n c], .int .i64 0, .int .i64 0]) ∧ IsToks w' es ea es.length ∧ IsTm w' (.mk x ks) (.agg #[.int .u8 x.k, .int .u8 x.op, .int .i64 x.pos, .int .i64 x.n, .string x.name, .string x.arg, .string x.exn, .slice a n c]) ∧ Ext w w') := Lib.hid (KP.out.mono fun e w' hh => by
      rw [hp] at hh
      obtain ⟨hx, v, he, hv⟩ := hh
      obtain ⟨ea, ec, a, n, c, rfl, k2, k3⟩ := isPg_open hv
      exact ⟨ea, ec, a, n, c, he, k2, k3, hx⟩)
    have KS := Lib.hid fun (W : World) ea en ec a n c (h : Ext w W) (hT : IsToks W es ea en) (hM : IsTm W (.mk x ks) _) => show_Program es x ks W ea en ec a n c hT hM (hk.ext h) (htab.ext h) (by omega) hes
    rw [showP_yes m1] at KS
    have KS' := Lib.hid fun (W : World) ea en ec a n c (h : Ext w W) (hT : IsToks W es' ea en) (hM : IsTm W (.mk x' ks') _) => show_Program es' x' ks' W ea en ec a n c hT hM (hk.ext h) (htab.ext h) (by omega) (by omega)
    rw [showP_yes m7, m9] at KS'
    have KQ : Hid (∀ W, Ext w W → Calls Tryz.prog 15 #[.slice (some ⟨W.heap.size, 0, none⟩) (bs (joinW (progW es (.mk x ks)))).size (grownCap W (bs (joinW (progW es (.mk x ks)))).size 0 5)] (Lib.bytesWorld W 5 (bs (joinW (progW es (.mk x ks))))) fun e w' => ∃ ea ec a n c, e = .returned (.tuple #[.agg #[.slice ea es.length ec, .int .u8 x'.k, .int .u8 x'.op, .int .i64 x'.pos, .int .i64 x'.n, .string x'.name, .string x'.arg, .string x'.exn, .slice a n c], .int .i64 0, .int .i64 0]) ∧ IsToks w' es' ea es.length ∧ IsTm w' (.mk x' ks') (.agg #[.int .u8 x'.k, .int .u8 x'.op, .int .i64 x'.pos, .int .i64 x'.n, .string x'.name, .string x'.arg, .string x'.exn, .slice a n c]) ∧ Ext W w') := Lib.hid fun W h => by
      have y0 : Ext W (Lib.bytesWorld W 5 (bs (joinW (progW es (.mk x ks))))) := Lib.bytesWorld_below W 5 _
      have hsz := bs_size (joinW (progW es (.mk x ks)))
      refine (parse_prog (joinW (progW es (.mk x ks))) _ _ _ _ (grownCap_ge _ _ _ _) (grownCap_le_maxLen _ _ _ _ (by unfold maxLen; omega)) (IsBytes.world W 5 _) (hk.ext (h.trans y0))).mono fun e w' hh => ?_
      rw [m4] at hh
      obtain ⟨hx, v, he, hv⟩ := hh
      obtain ⟨ea, ec, a, n, c, rfl, k2, k3⟩ := isPg_open hv
      rw [m6] at he k2
      exact ⟨ea, ec, a, n, c, he, k2, k3, y0.trans hx⟩
    have KE := Lib.hid fun (W : World) (v v' : Value) (h : IsTm W (.mk x ks) v) (h' : IsTm W (.mk x' ks') v') => ref4_same _ (.mk x ks) (.mk x' ks') W v v' (Nat.le_refl _) h h'
    rw [m5] at KE
    have hJ : (bs (joinW (progW es (.mk x ks)))).size ≤ 65536 := by rw [bs_size]; exact m3
    generalize bs (joinW (progW es (.mk x ks))) = J at *
    have ks := fun (w : World) (s : ByteArray) => Lib.run_convert_string_bytes (P := Tryz.prog) w 9 22 5 s Tryz.underlying9 Tryz.underlying22 Tryz.underlying5
    generalize hel : es.length = el at *
    clear hr hk htab hlen hB hst hp m1 m2 m3 m4 m5 m6 m7 m8 m9 h1 h2 hJ hel
    go_enter Tryz.func9, Tryz.ntmps9
    go_upto_region 6 with (go_at_call 15; refine (KP.out).mono ?_; rintro e w1 ⟨ea, ec, a, n, c, rfl, hTk, hTm, x1⟩)
    have B1 := Lib.hid (Blk.new w1 41 #[.slice ea el ec, .int .u8 x.k, .int .u8 x.op, .int .i64 x.pos, .int .i64 x.n, .string x.name, .string x.arg, .string x.exn, .slice a n c])
    have Y1 := Lib.hid (x1.alloc (.cells #[.slice ea el ec, .int .u8 x.k, .int .u8 x.op, .int .i64 x.pos, .int .i64 x.n, .string x.name, .string x.arg, .string x.exn, .slice a n c] 41))
    have TK1 := Lib.hid (hTk.ext ((Ext.refl w1).alloc (.cells #[.slice ea el ec, .int .u8 x.k, .int .u8 x.op, .int .i64 x.pos, .int .i64 x.n, .string x.name, .string x.arg, .string x.exn, .slice a n c] 41)))
    have TM1 := Lib.hid (hTm.ext ((Ext.refl w1).alloc (.cells #[.slice ea el ec, .int .u8 x.k, .int .u8 x.op, .int .i64 x.pos, .int .i64 x.n, .string x.name, .string x.arg, .string x.exn, .slice a n c] 41)))
    clear hTk hTm x1
    generalize w1.alloc (.cells #[.slice ea el ec, .int .u8 x.k, .int .u8 x.op, .int .i64 x.pos, .int .i64 x.n, .string x.name, .string x.arg, .string x.exn, .slice a n c] 41) = W1 at *
    obtain ⟨d0, d1, d2, d3, d4, d5, d6, d7, d8⟩ := B1.out.nine
    go_upto_region 7 with (go_at_call 26; refine (KS.out W1 ea el ec a n c Y1.out TK1.out TM1.out).mono ?_; rintro e w2 ⟨rfl, x2⟩)
    clear d0 d1 d2 d3 d4 d5 d6 d7 d8
    have B2 := Lib.hid (B1.out.ext x2)
    have Y2 := Lib.hid (Y1.out.trans x2)
    have TM2 := Lib.hid (TM1.out.ext x2)
    have KQ2 := Lib.hid (KQ.out w2 Y2.out)
    clear x2
    go_upto_region 8 with (go_at_call 15; refine (KQ2.out).mono ?_; rintro e w3 ⟨ea', ec', a', n', c', rfl, hTk', hTm', x3⟩)
    have B3 := Lib.hid ((B2.out.ext x3).alloc (.cells #[.slice ea' el ec', .int .u8 x'.k, .int .u8 x'.op, .int .i64 x'.pos, .int .i64 x'.n, .string x'.name, .string x'.arg, .string x'.exn, .slice a' n' c'] 41))
    have B3' := Lib.hid (Blk.new w3 41 #[.slice ea' el ec', .int .u8 x'.k, .int .u8 x'.op, .int .i64 x'.pos, .int .i64 x'.n, .string x'.name, .string x'.arg, .string x'.exn, .slice a' n' c'])
    have X3 : Ext w3 (w3.alloc (.cells #[.slice ea' el ec', .int .u8 x'.k, .int .u8 x'.op, .int .i64 x'.pos, .int .i64 x'.n, .string x'.name, .string x'.arg, .string x'.exn, .slice a' n' c'] 41)) := (Ext.refl _).alloc _
    have Y3 := Lib.hid (Y2.out.trans (x3.trans X3))
    have TM3 := Lib.hid (TM2.out.ext (x3.trans X3))
    have TM3' := Lib.hid (hTm'.ext X3)
    have TK3' := Lib.hid (hTk'.ext X3)
    clear hTk' hTm' x3 X3
    generalize w3.alloc (.cells #[.slice ea' el ec', .int .u8 x'.k, .int .u8 x'.op, .int .i64 x'.pos, .int .i64 x'.n, .string x'.name, .string x'.arg, .string x'.exn, .slice a' n' c'] 41) = W3 at *
    obtain ⟨d0, d1, d2, d3, d4, d5, d6, d7, d8⟩ := B3'.out.nine
    go_upto_region 9 with (go_at_call 26; refine (KS'.out W3 ea' el ec' a' n' c' Y3.out TK3'.out TM3'.out).mono ?_; rintro e w4 ⟨rfl, x4⟩)
    clear d0 d1 d2 d3 d4 d5 d6 d7 d8
    have K6 := Lib.hid (KE.out w4 _ _ (TM3.out.ext x4) (TM3'.out.ext x4))
    obtain ⟨d0, d1, d2, d3, d4, d5, d6, d7, d8⟩ := (B3.out.ext x4).nine
    obtain ⟨f0, f1, f2, f3, f4, f5, f6, f7, f8⟩ := (B3'.out.ext x4).nine
    have Y4 := Lib.hid (Y3.out.trans x4)
    clear x4
    go_wp2_with (first | (go_at_call 25; refine (K6.out).mono ?_; rintro e w6 ⟨rfl, x6⟩; have d0 := x6.cell d0; have f0 := x6.cell f0) | (go_at_call 21; refine (KA.out _ (Y4.out.trans x6)).mono ?_; rintro e w7 ⟨rfl, x7⟩))
    go_ret
    exact ⟨rfl, Y4.out.trans (x6.trans x7)⟩
def pairH : Hd := ⟨3, 0, 0, 0, ⟨#[]⟩, ⟨#[]⟩, ⟨#[]⟩⟩
def fnH (s : ByteArray) : Hd := ⟨11, 0, 0, 0, ⟨#[]⟩, s, ⟨#[]⟩⟩
theorem empty_list : (⟨#[]⟩ : ByteArray).toList = [] := by rw [ByteArray.toList_eq]
theorem pair_node (t u : Tm) : (Tm.mk pairH [t, u]).node = true := by
  simp [Tm.node, Tm.nums, karity, pairH, fitB, Hd.hasName, Hd.hasArg, Hd.hasExn, empty_list]
theorem may_pair (t u : Tm) (h : t.size + u.size ≤ 400) : (Tm.mk pairH [t, u]).may = (t.may && u.may) := by
  rw [Bool.eq_iff_iff, Bool.and_eq_true, may_iff, may_iff, may_iff]
  constructor
  · rintro ⟨-, hn⟩
    exact ⟨⟨by omega, fun x hx => hn x (Tm.mem_all.2 (.inr ⟨t, by simp, hx⟩))⟩, by omega, fun x hx => hn x (Tm.mem_all.2 (.inr ⟨u, by simp, hx⟩))⟩
  · rintro ⟨⟨-, h1⟩, -, h2⟩
    refine ⟨by simp only [Tm.size, Tm.sizes]; omega, fun x hx => ?_⟩
    rcases Tm.mem_all.1 hx with rfl | ⟨y, hy, hxy⟩
    · exact pair_node t u
    · simp only [List.mem_cons, List.not_mem_nil, or_false] at hy
      rcases hy with rfl | rfl
      · exact h1 x hxy
      · exact h2 x hxy
theorem may_fn {s : ByteArray} {t : Tm} (h : (Tm.mk (fnH s) [t]).may = true) : t.may = true := by
  rw [may_iff] at h ⊢
  obtain ⟨h1, h2⟩ := h
  simp only [Tm.size, Tm.sizes] at h1
  exact ⟨by omega, fun x hx => h2 x (Tm.mem_all.2 (.inr ⟨t, by simp, hx⟩))⟩
theorem pair_text (t u : Tm) (ht : t.may = true) (hu : u.may = true) : bs (joinW (Tm.mk pairH [t, u]).wk) = ⟨#[40, 32]⟩ ++ bs (joinW t.wk) ++ ⟨#[32, 44, 32]⟩ ++ bs (joinW u.wk) ++ ⟨#[32, 41]⟩ := by
  have h1 := wk_pos t (may_nodes ht).2
  have h2 := wk_pos u (may_nodes hu).2
  rw [wk_3 rfl, joinW_cons _ (by simp), joinW_append h1 (by simp), joinW_cons _ (by simp), joinW_append h2 (by simp)]
  refine bs_ext2 ?_
  simp [ByteArray.data_append, bs_list, joinW, s_open, s_shut, s_comma]
theorem fn_text (s : ByteArray) (t : Tm) (ht : t.may = true) : bs (joinW (Tm.mk (fnH s) [t]).wk) = ⟨#[102, 110, 32]⟩ ++ s ++ ⟨#[32, 61, 62, 32]⟩ ++ bs (joinW t.wk) := by
  have h1 := wk_pos t (may_nodes ht).2
  rw [wk_11 rfl, joinW_cons _ (by simp), joinW_cons _ (by simp), joinW_cons _ h1]
  refine bs_ext2 ?_
  simp [ByteArray.data_append, bs_list, fnH, w_fn, s_to]
structure TBox (w : World) (b : Nat) (x : Hd) (a : Option Addr) (len cap : Nat) : Prop where
  c0 : w.cell? ⟨b, 0, none⟩ = some (.int .u8 x.k)
  c1 : w.cell? ⟨b, 1, none⟩ = some (.int .u8 x.op)
  c2 : w.cell? ⟨b, 2, none⟩ = some (.int .i64 x.pos)
  c3 : w.cell? ⟨b, 3, none⟩ = some (.int .i64 x.n)
  c4 : w.cell? ⟨b, 4, none⟩ = some (.string x.name)
  c5 : w.cell? ⟨b, 5, none⟩ = some (.string x.arg)
  c6 : w.cell? ⟨b, 6, none⟩ = some (.string x.exn)
  c7 : w.cell? ⟨b, 7, none⟩ = some (.slice a len cap)
theorem TBox.ext {w w' : World} {b : Nat} {x : Hd} {a : Option Addr} {len cap : Nat} (h : TBox w b x a len cap) (hx : Ext w w') : TBox w' b x a len cap :=
  ⟨hx.cell h.c0, hx.cell h.c1, hx.cell h.c2, hx.cell h.c3, hx.cell h.c4, hx.cell h.c5, hx.cell h.c6, hx.cell h.c7⟩
theorem TBox.new (w : World) (x : Hd) (a : Option Addr) (len cap : Nat) (T : TypeId) : TBox (w.alloc (.cells #[.int .u8 x.k, .int .u8 x.op, .int .i64 x.pos, .int .i64 x.n, .string x.name, .string x.arg, .string x.exn, .slice a len cap] T)) w.heap.size x a len cap := by
  constructor <;> (rw [World.cell?_alloc_new]; rfl)
theorem TBox.lt {w : World} {b : Nat} {x : Hd} {a : Option Addr} {len cap : Nat} (h : TBox w b x a len cap) : b < w.heap.size := block_lt_of_cell h.c0
theorem IsTms.new2 {w : World} {h h' : Hd} {l l' : List Tm} {a a' : Option Addr} {len cap len' cap' : Nat} (T : TypeId) (hl : IsTms w l a len) (h1 : len ≤ cap) (h2 : cap ≤ 9223372036854775807) (hf : h.Fits) (hl' : IsTms w l' a' len') (h1' : len' ≤ cap') (h2' : cap' ≤ 9223372036854775807) (hf' : h'.Fits) :
    IsTms (w.alloc (.cells #[.int .u8 h.k, .int .u8 h.op, .int .i64 h.pos, .int .i64 h.n, .string h.name, .string h.arg, .string h.exn, .slice a len cap, .int .u8 h'.k, .int .u8 h'.op, .int .i64 h'.pos, .int .i64 h'.n, .string h'.name, .string h'.arg, .string h'.exn, .slice a' len' cap'] T)) [.mk h l, .mk h' l'] (some ⟨w.heap.size, 0, none⟩) 2 :=
  IsTmsA.of_places [.mk h l, .mk h' l'] _ _ id fun i t g => by
    cases i with
    | zero =>
      simp at g
      subst g
      simp only [TmAt]
      exact ⟨⟨by rw [World.cell?_alloc_new]; rfl, by rw [World.cell?_alloc_new]; rfl, by rw [World.cell?_alloc_new]; rfl, by rw [World.cell?_alloc_new]; rfl, by rw [World.cell?_alloc_new]; rfl, by rw [World.cell?_alloc_new]; rfl, by rw [World.cell?_alloc_new]; rfl⟩, hf, a, len, cap, by rw [World.cell?_alloc_new]; rfl, h1, h2, hl.ext ((Ext.refl _).alloc _)⟩
    | succ i =>
      cases i with
      | zero =>
        simp at g
        subst g
        simp only [TmAt]
        exact ⟨⟨by rw [World.cell?_alloc_new]; rfl, by rw [World.cell?_alloc_new]; rfl, by rw [World.cell?_alloc_new]; rfl, by rw [World.cell?_alloc_new]; rfl, by rw [World.cell?_alloc_new]; rfl, by rw [World.cell?_alloc_new]; rfl, by rw [World.cell?_alloc_new]; rfl⟩, hf', a', len', cap', by rw [World.cell?_alloc_new]; rfl, h1', h2', hl'.ext ((Ext.refl _).alloc _)⟩
      | succ i => simp at g
end Go.Proofs.YtaioeailgknfjaaGreatDoor
