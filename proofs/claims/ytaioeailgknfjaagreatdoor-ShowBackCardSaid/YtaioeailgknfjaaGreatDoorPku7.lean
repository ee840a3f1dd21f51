/- Part 7 of the proof: PureKl, PureP7, PureH3, PureH4, Mov; no condition of ours. -/
import Derived.Test.YtaioeailgknfjaaGreatDoorPku1
import Derived.Test.YtaioeailgknfjaaGreatDoorPku5
import Derived.Test.YtaioeailgknfjaaGreatDoorPku6
set_option linter.unusedVariables false
set_option linter.unusedSimpArgs false
namespace Go.Proofs.YtaioeailgknfjaaGreatDoor
open Go
def Stop (b : List UInt8) : Prop := ∀ c r, b = c :: r → clsU c = 1
theorem Stop.blank {c : UInt8} (h : clsU c = 1) (r : List UInt8) : Stop (c :: r) := fun c' r' e => by cases e; exact h
theorem span_stop_append {cl : List Int} (hc : cl.contains 1 = false) (l : List UInt8) {b : List UInt8} (hb : Stop b) : spanU cl (l ++ b) = spanU cl l := by
  induction l with
  | nil =>
    cases b with
    | nil => rfl
    | cons c r => rw [List.nil_append, spanU_zero (by rw [hb c r rfl]; exact hc)]; rfl
  | cons a l ih =>
    rw [List.cons_append]
    cases ha : cl.contains (clsU a)
    · rw [spanU_zero ha, spanU_zero ha]
    · rw [spanU_pos ha, spanU_pos ha, ih]
theorem cls_eq : clsU 61 = 5 ∧ clsU 62 = 5 := by decide
theorem signOf_append (c : UInt8) (r : List UInt8) {b : List UInt8} (hb : Stop b) : signOf (c :: r ++ b) = signOf (c :: r) := by
  have e : ((c :: r ++ b).take 2 = [58, 61] ∨ (c :: r ++ b).take 2 = [61, 62]) ↔ ((c :: r).take 2 = [58, 61] ∨ (c :: r).take 2 = [61, 62]) := by
    cases r with
    | cons d r => simp
    | nil =>
      cases b with
      | nil => simp
      | cons d b =>
        have h1 := hb d b rfl
        have n1 : d ≠ 61 := fun e => by rw [e, cls_eq.1] at h1; omega
        have n2 : d ≠ 62 := fun e => by rw [e, cls_eq.2] at h1; omega
        simp [n1, n2]
  unfold signOf
  simp only [e]
  rfl
theorem tokAt_append (c : UInt8) (r : List UInt8) {b : List UInt8} (hb : Stop b) : tokAt (c :: r ++ b) = tokAt (c :: r) := by
  have t : ∀ cl : List Int, cl.contains 1 = false → (c :: (r ++ b)).take (spanU cl (c :: r)) = (c :: r).take (spanU cl (c :: r)) := by
    intro cl _
    rw [← List.cons_append, List.take_append_of_le_length (spanU_le _ _)]
  have s2 : spanU [2] (c :: (r ++ b)) = spanU [2] (c :: r) := span_stop_append rfl (c :: r) hb
  have s3 : spanU [2, 3, 4] (c :: (r ++ b)) = spanU [2, 3, 4] (c :: r) := span_stop_append rfl (c :: r) hb
  have s5 : signOf (c :: (r ++ b)) = signOf (c :: r) := signOf_append c r hb
  rw [List.cons_append]
  unfold tokAt
  simp only
  rw [s2, s3, s5, t [2] rfl, t [2, 3, 4] rfl]
theorem takeWhile_all {α : Type} {p : α → Bool} {l : List α} (h : ∀ c, c ∈ l → p c = true) : l.takeWhile p = l := by
  induction l with
  | nil => rfl
  | cons a l ih => rw [List.takeWhile_cons_of_pos (h a (by simp)), ih fun c hc => h c (by simp [hc])]
theorem tokAt_front {l : List UInt8} {n : Nat} {k : Int} (h : tokAt l = some (n, k)) : ∃ c r, l = c :: r ∧ clsU c ≠ 1 := by
  cases l with
  | nil => cases h
  | cons c r =>
    refine ⟨c, r, rfl, fun h1 => ?_⟩
    rw [tokAt_other (.inr h1)] at h
    cases h
theorem lex_ind {P : Nat → List UInt8 → Prop} (h0 : ∀ p, P p [])
    (h1 : ∀ p c r, clsU c = 1 → P (p + 1) r → P p (c :: r))
    (h2 : ∀ p c r, clsU c ≠ 1 → tokAt (c :: r) = none → P p (c :: r))
    (h3 : ∀ p c r n k, clsU c ≠ 1 → tokAt (c :: r) = some (n, k) → P (p + n) ((c :: r).drop n) → P p (c :: r)) : ∀ (m p : Nat) (l : List UInt8), l.length ≤ m → P p l := by
  intro m
  induction m with
  | zero =>
    intro p l hl
    have : l = [] := List.eq_nil_of_length_eq_zero (by omega)
    subst this
    exact h0 p
  | succ m ih =>
    intro p l hl
    cases l with
    | nil => exact h0 p
    | cons c r =>
      simp only [List.length_cons] at hl
      by_cases hc : clsU c = 1
      · exact h1 p c r hc (ih _ _ (by omega))
      cases ht : tokAt (c :: r) with
      | none => exact h2 p c r hc ht
      | some nk =>
        obtain ⟨n, k⟩ := nk
        have hb := tokAt_bd ht
        simp only [List.length_cons] at hb
        exact h3 p c r n k hc ht (ih _ _ (by simp; omega))
theorem lexL_last {p : Nat} {l : List UInt8} {o : List Tok} (h : lexL p l = .ok o) : ∃ o', o = o' ++ [⟨6, ByteArray.empty, p + l.length⟩] ∧ ∀ t, t ∈ o' → t.k ≠ 6 := by
  have := lex_ind (P := fun p l => ∀ o, lexL p l = .ok o → ∃ o', o = o' ++ [⟨6, ByteArray.empty, p + l.length⟩] ∧ ∀ t, t ∈ o' → t.k ≠ 6) ?_ ?_ ?_ ?_ l.length p l (Nat.le_refl _)
  · exact this o h
  · intro p o h; cases h; exact ⟨[], rfl, by simp⟩
  · intro p c r hc ih o h
    rw [lexL_blank hc] at h
    obtain ⟨o', e, hk⟩ := ih o h
    exact ⟨o', by rw [e, List.length_cons]; congr 3; omega, hk⟩
  · intro p c r hc ht o h; rw [lexL_none hc _ ht] at h; cases h
  · intro p c r n k hc ht ih o h
    rw [lexL_tok hc _ ht] at h
    have hbd := tokAt_bd ht
    cases hr : lexL (p + n) ((c :: r).drop n) with
    | error e => rw [hr] at h; cases h
    | ok o2 =>
      rw [hr] at h
      cases h
      obtain ⟨o', e, hk⟩ := ih o2 hr
      refine ⟨⟨k, bs ((c :: r).take n), p⟩ :: o', ?_, ?_⟩
      · rw [e, List.cons_append, List.length_drop]
        congr 4
        omega
      · intro t htm
        rcases List.mem_cons.1 htm with rfl | htm
        · simp only; omega
        · exact hk t htm
theorem lexL_count (p : Nat) (l : List UInt8) : ∀ o, lexL p l = .ok o → o.length ≤ l.length + 1 := by
  refine lex_ind (P := fun p l => ∀ o, lexL p l = .ok o → o.length ≤ l.length + 1) ?_ ?_ ?_ ?_ l.length p l (Nat.le_refl _)
  · intro p o h
    rw [lexL_nil] at h
    cases h
    exact Nat.le_refl _
  · intro p c r hc ih o h
    rw [lexL_blank hc] at h
    have := ih o h
    simp only [List.length_cons]
    omega
  · intro p c r hc ht o h
    rw [lexL_none hc _ ht] at h
    cases h
  · intro p c r n k hc ht ih o h
    have hbd := tokAt_bd ht
    rw [lexL_tok hc _ ht] at h
    cases e1 : lexL (p + n) ((c :: r).drop n) with
    | error x => rw [e1] at h; cases h
    | ok o1 =>
      rw [e1] at h
      have h : Except.ok (⟨k, bs ((c :: r).take n), p⟩ :: o1) = Except.ok (ε := Nat) o := h
      cases h
      have := ih o1 e1
      rw [List.length_drop] at this
      simp only [List.length_cons] at this hbd ⊢
      omega
def exnsG : List Tk → List Tk → Res (List Tk)
  | acc, t :: u :: v :: l => if isT [w_exn] [t] then if u.k = 3 then if isT [s_semi] [v] then exnsG (acc ++ [u]) l else .error (v :: l) else .error (u :: v :: l) else .ok (acc, t :: u :: v :: l)
  | acc, [t, u] => if isT [w_exn] [t] then .error [u] else .ok (acc, [t, u])
  | acc, l => .ok (acc, l)
def bodyG (acc : List Tk) (l : List Tk) : Res (List Tk × Tm) := match parseL .expr l with
  | .error l' => .error l'
  | .ok (t, l') => .ok ((acc, t), l')
def progG (acc l : List Tk) : Res (List Tk × Tm) := match exnsG acc l with
  | .error l' => .error l'
  | .ok (es, l') => bodyG es l'
def progL (l : List Tk) : Res (List Tk × Tm) := progG [] l
theorem isT_head (xs : List ByteArray) (t : Tk) (l : List Tk) : isT xs (t :: l) = isT xs [t] := rfl
theorem progG_body {acc l : List Tk} (h : isT [w_exn] l = false) : progG acc l = bodyG acc l := by
  unfold progG
  match l, h with
  | [], _ => rfl
  | [t], _ => rfl
  | [t, u], h => rw [isT_head] at h; simp [exnsG, h]
  | t :: u :: v :: l, h => rw [isT_head] at h; simp [exnsG, h]
theorem progG_kind {acc l : List Tk} {t u : Tk} (h : isT [w_exn] (t :: u :: l) = true) (he : Ended (t :: u :: l)) (hu : u.k ≠ 3) : progG acc (t :: u :: l) = .error (u :: l) := by
  unfold progG
  rw [isT_head] at h
  match l with
  | [] => simp [exnsG, h]
  | v :: l => simp [exnsG, h, hu]
theorem progG_semi {acc l : List Tk} {t u v : Tk} (h : isT [w_exn] (t :: u :: v :: l) = true) (hu : u.k = 3) (hv : isT [s_semi] (v :: l) = false) : progG acc (t :: u :: v :: l) = .error (v :: l) := by
  unfold progG
  rw [isT_head] at h hv
  simp [exnsG, h, hu, hv]
theorem progG_more {acc l : List Tk} {t u v : Tk} (h : isT [w_exn] (t :: u :: v :: l) = true) (hu : u.k = 3) (hv : isT [s_semi] (v :: l) = true) : progG acc (t :: u :: v :: l) = progG (acc ++ [u]) l := by
  unfold progG
  rw [isT_head] at h hv
  rw [exnsG, if_pos h, if_pos hu, if_pos hv]
theorem exn_other {l : List Tk} (h : isT [w_exn] l = true) : (∀ xs, inB xs w_exn = false → isT xs l = false) ∧ kindT l ≠ 1 ∧ kindT l ≠ 2 := by
  obtain ⟨t, r, rfl, -, ht, hk⟩ := isT_ne h
  have ht : t.text = w_exn := by simpa using ht
  refine ⟨fun xs hx => by simp [isT, ht, hx], ?_, ?_⟩ <;> (simp only [kindT]; omega)
theorem unary_not {f : Nat} {l m : List Tk} {t : Tm} (h : isT [w_exn] l = true) : parseF f .unary l ≠ some (.ok (t, m)) := by
  intro hp
  obtain ⟨ho, k1, k2⟩ := exn_other h
  cases f with
  | zero => cases hp
  | succ f =>
    unfold parseF at hp
    rw [ho _ (by decide +kernel), ho _ (by decide +kernel), if_neg (by simp), if_neg (by simp), if_neg k1, if_neg k2] at hp
    obtain ⟨_, _, e, _⟩ := andThen_inv hp
    have := (getW_inv e).1
    rw [ho _ (by decide +kernel)] at this
    cases this
theorem lvl_not {l m : List Tk} {t : Tm} (h : isT [w_exn] l = true) : ∀ (d k f : Nat), k + d = 4 → ∀ t m, parseF f (.lvl k) l ≠ some (.ok (t, m)) := by
  intro d
  induction d with
  | zero =>
    intro k f hk t m hp
    obtain rfl : k = 4 := by omega
    cases f with
    | zero => cases hp
    | succ f =>
      unfold parseF at hp
      rw [if_neg (by omega), if_neg (by omega)] at hp
      obtain ⟨a, l1, e, -⟩ := andThen_inv hp
      exact unary_not h e
  | succ d ih =>
    intro k f hk t m hp
    cases f with
    | zero => cases hp
    | succ f =>
      unfold parseF at hp
      split at hp
      · obtain ⟨a, l1, e, -⟩ := andThen_inv hp
        exact ih (k + 1) f (by omega) _ _ e
      rw [if_pos (by omega)] at hp
      obtain ⟨a, l1, e, -⟩ := andThen_inv hp
      exact ih (k + 1) f (by omega) _ _ e
theorem expr_not {f : Nat} {l m : List Tk} {t : Tm} (hp : parseF f .expr l = some (.ok (t, m))) : isT [w_exn] l = false := by
  cases h : isT [w_exn] l with
  | false => rfl
  | true =>
    obtain ⟨ho, k1, k2⟩ := exn_other h
    cases f with
    | zero => cases hp
    | succ f =>
      unfold parseF at hp
      rw [ho _ (by decide +kernel), ho _ (by decide +kernel), ho _ (by decide +kernel), ho _ (by decide +kernel), ho _ (by decide +kernel), if_neg (by simp), if_neg (by simp), if_neg (by simp), if_neg (by simp), if_neg (by simp)] at hp
      exact (lvl_not (t := t) (m := m) h 4 0 f rfl _ _ hp).elim
def joinW : List Wk → List UInt8
  | [] => []
  | [w] => w.2.data.toList
  | w :: l => w.2.data.toList ++ 32 :: joinW l
theorem joinW_cons (w : Wk) {l : List Wk} (h : l ≠ []) : joinW (w :: l) = w.2.data.toList ++ 32 :: joinW l := by
  cases l with
  | nil => exact absurd rfl h
  | cons a l => rfl
theorem joinW_append {a b : List Wk} (ha : a ≠ []) (hb : b ≠ []) : joinW (a ++ b) = joinW a ++ 32 :: joinW b := by
  induction a with
  | nil => exact absurd rfl ha
  | cons w a ih =>
    cases a with
    | nil => exact joinW_cons w hb
    | cons v a =>
      rw [List.cons_append, joinW_cons w (by simp), ih (by simp), joinW_cons w (by simp)]
      simp
def WkOk (w : Wk) : Prop := ∃ c r, w.2.data.toList = c :: r ∧ tokAt (c :: r) = some ((c :: r).length, w.1) ∧ (c :: r).length ≤ 16
theorem lex_words (ws : List Wk) : ∀ p, (∀ w, w ∈ ws → WkOk w) → ∃ (q : List Tok) (e : Nat), lexL p (joinW ws) = .ok (q ++ [⟨6, ByteArray.empty, e⟩]) ∧ q.map (fun t => (t.k, t.text)) = ws := by
  induction ws with
  | nil => intro p _; exact ⟨[], p, rfl, rfl⟩
  | cons w l ih =>
    intro p h
    obtain ⟨c, r, hw, ht, -⟩ := h w (by simp)
    obtain ⟨c', r', e', hc'⟩ := tokAt_front ht
    cases e'
    have hb : bs (c :: r) = w.2 := by rw [← hw]; exact (bs_of w.2).symm
    cases l with
    | nil =>
      have e : joinW [w] = c :: r := hw
      rw [e, lexL_tok hc' p ht, List.drop_length, List.take_length, hb, lexL_nil]
      exact ⟨[⟨w.1, w.2, p⟩], p + (c :: r).length, rfl, by simp⟩
    | cons v l =>
      obtain ⟨q, e, h1, h2⟩ := ih (p + (c :: r).length + 1) (fun w hw => h w (by simp [hw]))
      have ej : joinW (w :: v :: l) = c :: r ++ 32 :: joinW (v :: l) := by rw [joinW_cons w (by simp), hw]
      have ht2 : tokAt (c :: (r ++ 32 :: joinW (v :: l))) = some ((c :: r).length, w.1) := (tokAt_append c r (Stop.blank (by decide) _)).trans ht
      rw [ej, List.cons_append, lexL_tok hc' p ht2]
      have hd : (c :: (r ++ 32 :: joinW (v :: l))).drop (c :: r).length = 32 :: joinW (v :: l) := List.drop_left' (l₁ := c :: r) rfl
      have hk : (c :: (r ++ 32 :: joinW (v :: l))).take (c :: r).length = c :: r := List.take_left' (l₁ := c :: r) rfl
      rw [hd, hk, hb, lexL_blank (by decide), h1]
      exact ⟨⟨w.1, w.2, p⟩ :: q, e, rfl, by simp [h2]⟩
theorem span_all {cl : List Int} {l : List UInt8} (h : ∀ c, c ∈ l → cl.contains (clsU c) = true) : spanU cl l = l.length := by
  unfold spanU
  rw [takeWhile_all h]
theorem shapely_open {x : ByteArray} {f : Int} (h : shapely (il x) f = true) : ∃ c r, x.data.toList = c :: r ∧ clsU c = f ∧ (c :: r).length ≤ 16 ∧ ∀ b, b ∈ c :: r → ([2, 3, 4] : List Int).contains (clsU b) = true := by
  unfold shapely at h
  cases hx : x.data.toList with
  | nil => unfold il at h; rw [hx] at h; simp at h
  | cons c r =>
    unfold il at h
    rw [hx] at h
    simp only [List.map_cons, Bool.and_eq_true, beq_iff_eq, List.all_eq_true, decide_eq_true_eq] at h
    refine ⟨c, r, rfl, h.1.2, by simpa using h.1.1, fun b hb => ?_⟩
    have := h.2 ((b.toNat : Nat) : Int) (by rcases List.mem_cons.1 hb with rfl | hb; simp; exact List.mem_cons_of_mem _ (List.mem_map.2 ⟨b, hb, rfl⟩))
    unfold inner at this
    simp only [Bool.and_eq_true, decide_eq_true_eq] at this
    have hc : clsU b = 2 ∨ clsU b = 3 ∨ clsU b = 4 := by unfold clsU; omega
    rcases hc with hc | hc | hc <;> rw [hc] <;> rfl
theorem ok_name {x : ByteArray} (h : isName x = true) : WkOk (2, x) := by
  have h0 := h
  unfold isName at h
  simp only [Bool.and_eq_true, beq_iff_eq] at h
  obtain ⟨c, r, hx, hc, h16, hall⟩ := shapely_open h.1
  refine ⟨c, r, hx, ?_, h16⟩
  have hb : bs (c :: r) = x := by rw [← hx]; exact (bs_of x).symm
  unfold tokAt
  simp only
  rw [if_neg (by omega), if_pos (.inl hc), span_all hall, List.take_length, hb, if_neg (by omega), if_pos h0]
theorem ok_exn {x : ByteArray} (h : isExn x = true) : WkOk (3, x) := by
  have h0 := h
  unfold isExn at h
  obtain ⟨c, r, hx, hc, h16, hall⟩ := shapely_open h
  refine ⟨c, r, hx, ?_, h16⟩
  have hb : bs (c :: r) = x := by rw [← hx]; exact (bs_of x).symm
  have hk : kwd x = 0 := by
    unfold kwd
    rw [hx]
    refine placeOf_none (fun y hy e => ?_) 1
    subst e
    have hall : keyw.all (fun x => match x with | [] => true | c :: _ => clsU c != 4) = true := by decide +kernel
    have := List.all_eq_true.1 hall _ hy
    simp [hc] at this
  have hn : isName x = false := by
    cases hn : isName x with
    | false => rfl
    | true =>
      unfold isName at hn
      simp only [Bool.and_eq_true] at hn
      obtain ⟨c', r', hx', hc', -, -⟩ := shapely_open hn.1
      rw [hx] at hx'
      cases hx'
      omega
  unfold tokAt
  simp only
  rw [if_neg (by omega), if_pos (.inr hc), span_all hall, List.take_length, hb, hk, hn, if_neg (by omega), if_neg (by simp), if_pos h0]
theorem ok_num {n : Int} (h0 : 0 ≤ n) (h1 : n ≤ 2147483647) : WkOk (1, bs (Lib.decDigits n.toNat)) := by
  have hd := decDigits_back n.toNat
  cases hx : Lib.decDigits n.toNat with
  | nil => exact absurd hx (decDigits_ne _)
  | cons c r =>
    rw [hx] at hd
    have hall : ∀ b, b ∈ c :: r → ([2] : List Int).contains (clsU b) = true := fun b hb => by
      have := List.all_eq_true.1 hd.1 b hb
      rw [isD_cls] at this
      simpa using this
    have hc : clsU c = 2 := by have := hall c (by simp); simpa using this
    have h10 : (c :: r).length ≤ 10 := by
      rcases Nat.lt_or_ge 10 (c :: r).length with h | h
      · have h2 := okN_long h
        rw [← hx, okN_digits] at h2
        simp at h2; omega
      · exact h
    refine ⟨c, r, bs_list _, ?_, by omega⟩
    unfold tokAt
    simp only
    rw [if_pos hc, span_all hall, List.take_length]
    have : numB (bs (c :: r)) = true := by
      unfold numB
      rw [bs_list, ← hx, okN_digits]
      simp; omega
    rw [this, if_pos rfl]
def constW : List Wk := [((4 : Int), w_let), (4, w_letrec), (4, w_fn), (4, w_if), (4, w_try), (4, w_in), (4, w_then), (4, w_else), (4, w_with), (4, w_raise), (4, w_fst), (4, w_snd), (4, w_ref), (4, w_exn), (5, s_eq), (5, s_to), (5, s_set), (5, s_plus), (5, s_minus), (5, s_star), (5, s_less), (5, s_bang), (5, s_open), (5, s_shut), (5, s_comma), (5, s_semi)]
theorem ok_const (w : Wk) (h : w ∈ constW) : WkOk w := by
  have key : constW.all (fun w => (!w.2.data.toList.isEmpty && (decide (tokAt w.2.data.toList = some (w.2.data.toList.length, w.1)) && decide (w.2.data.toList.length ≤ 16)))) = true := by decide +kernel
  have := List.all_eq_true.1 key w h
  rw [Bool.and_eq_true, Bool.and_eq_true, decide_eq_true_eq, decide_eq_true_eq] at this
  obtain ⟨h1, h2, h3⟩ := this
  cases hx : w.2.data.toList with
  | nil => rw [hx] at h1; cases h1
  | cons c r => rw [hx] at h2 h3; exact ⟨c, r, hx, h2, h3⟩
theorem lay_ok {x : Hd} {l : List Tm} (ok : NodeOk x l) {K : Nat → Nat → List Wk} (hK : ∀ i pt w, w ∈ K i pt → WkOk w) : ∀ w, w ∈ layW x K → WkOk w := by
  intro w hw
  have c : ∀ w, w ∈ constW → WkOk w := ok_const
  rcases kinds_of ok with ⟨hk, -⟩ | ⟨hk, -⟩ | ⟨hk, -⟩ | ⟨hk, -⟩
  · rcases hk with hk | hk
    · rw [show layW x K = [(1, bs (Lib.decDigits x.n.toNat))] by simp [layW, hk]] at hw
      simp at hw; subst hw; exact ok_num ok.n0.1 ok.n0.2
    · rw [show layW x K = [(2, x.name)] by simp [layW, hk]] at hw
      simp at hw; subst hw; exact ok_name (ok.name1 (by simp [Hd.hasName, hk]))
  · rcases hk with hk | hk | hk | hk | hk | hk
    · rw [show layW x K = (4, w_fst) :: K 0 6 by simp [layW, preW, hk]] at hw
      rcases List.mem_cons.1 hw with rfl | hw
      · exact c _ (by simp [constW])
      · exact hK _ _ _ hw
    · rw [show layW x K = (4, w_snd) :: K 0 6 by simp [layW, preW, hk]] at hw
      rcases List.mem_cons.1 hw with rfl | hw
      · exact c _ (by simp [constW])
      · exact hK _ _ _ hw
    · rw [show layW x K = (4, w_ref) :: K 0 6 by simp [layW, preW, hk]] at hw
      rcases List.mem_cons.1 hw with rfl | hw
      · exact c _ (by simp [constW])
      · exact hK _ _ _ hw
    · rw [show layW x K = (5, s_bang) :: K 0 6 by simp [layW, preW, hk]] at hw
      rcases List.mem_cons.1 hw with rfl | hw
      · exact c _ (by simp [constW])
      · exact hK _ _ _ hw
    · rw [show layW x K = (4, w_fn) :: (2, x.arg) :: (5, s_to) :: K 0 0 by simp [layW, hk]] at hw
      simp only [List.mem_cons, List.mem_append, List.not_mem_nil, or_false] at hw
      rcases hw with rfl | rfl | rfl | hw
      · exact c _ (by simp [constW])
      · exact ok_name (ok.arg1 (by simp [Hd.hasArg, hk]))
      · exact c _ (by simp [constW])
      · exact hK _ _ _ hw
    · rw [show layW x K = (4, w_raise) :: (3, x.exn) :: K 0 6 by simp [layW, hk]] at hw
      simp only [List.mem_cons, List.mem_append, List.not_mem_nil, or_false] at hw
      rcases hw with rfl | rfl | hw
      · exact c _ (by simp [constW])
      · exact ok_exn (ok.exn1 (by simp [Hd.hasExn, hk]))
      · exact hK _ _ _ hw
  · rcases hk with hk | hk | hk | hk | hk | hk | hk
    · rw [show layW x K = (5, s_open) :: (K 0 0 ++ (5, s_comma) :: (K 1 0 ++ [(5, s_shut)])) by simp [layW, hk]] at hw
      simp only [List.mem_cons, List.mem_append, List.not_mem_nil, or_false] at hw
      rcases hw with rfl | hw | rfl | hw | rfl
      · exact c _ (by simp [constW])
      · exact hK _ _ _ hw
      · exact c _ (by simp [constW])
      · exact hK _ _ _ hw
      · exact c _ (by simp [constW])
    · rw [show layW x K = K 0 2 ++ (5, s_set) :: K 1 2 by simp [layW, hk]] at hw
      simp only [List.mem_cons, List.mem_append, List.not_mem_nil, or_false] at hw
      rcases hw with hw | rfl | hw
      · exact hK _ _ _ hw
      · exact c _ (by simp [constW])
      · exact hK _ _ _ hw
    · rw [show layW x K = K 0 (if looseT x.op = 2 then 3 else looseT x.op) ++ (5, opS x.op) :: K 1 (looseT x.op + 1) by simp [layW, hk]] at hw
      simp only [List.mem_cons, List.mem_append] at hw
      rcases hw with hw | rfl | hw
      · exact hK _ _ _ hw
      · rcases op_cases ok hk with ho | ho | ho | ho | ho <;> rw [ho] <;> exact c _ (by simp [constW, opS])
      · exact hK _ _ _ hw
    · rw [show layW x K = K 0 5 ++ K 1 6 by simp [layW, hk]] at hw
      simp only [List.mem_cons, List.mem_append, List.not_mem_nil, or_false] at hw
      rcases hw with hw | hw
      · exact hK _ _ _ hw
      · exact hK _ _ _ hw
    · rw [show layW x K = (4, w_let) :: (2, x.name) :: (5, s_eq) :: (K 0 0 ++ (4, w_in) :: K 1 0) by simp [layW, hk]] at hw
      simp only [List.mem_cons, List.mem_append, List.not_mem_nil, or_false] at hw
      rcases hw with rfl | rfl | rfl | hw | rfl | hw
      · exact c _ (by simp [constW])
      · exact ok_name (ok.name1 (by simp [Hd.hasName, hk]))
      · exact c _ (by simp [constW])
      · exact hK _ _ _ hw
      · exact c _ (by simp [constW])
      · exact hK _ _ _ hw
    · rw [show layW x K = (4, w_letrec) :: (2, x.name) :: (2, x.arg) :: (5, s_eq) :: (K 0 0 ++ (4, w_in) :: K 1 0) by simp [layW, hk]] at hw
      simp only [List.mem_cons, List.mem_append, List.not_mem_nil, or_false] at hw
      rcases hw with rfl | rfl | rfl | rfl | hw | rfl | hw
      · exact c _ (by simp [constW])
      · exact ok_name (ok.name1 (by simp [Hd.hasName, hk]))
      · exact ok_name (ok.arg1 (by simp [Hd.hasArg, hk]))
      · exact c _ (by simp [constW])
      · exact hK _ _ _ hw
      · exact c _ (by simp [constW])
      · exact hK _ _ _ hw
    · rw [show layW x K = (4, w_try) :: (K 0 0 ++ (4, w_with) :: (3, x.exn) :: (2, x.arg) :: (5, s_to) :: K 1 0) by simp [layW, hk]] at hw
      simp only [List.mem_cons, List.mem_append, List.not_mem_nil, or_false] at hw
      rcases hw with rfl | hw | rfl | rfl | rfl | rfl | hw
      · exact c _ (by simp [constW])
      · exact hK _ _ _ hw
      · exact c _ (by simp [constW])
      · exact ok_exn (ok.exn1 (by simp [Hd.hasExn, hk]))
      · exact ok_name (ok.arg1 (by simp [Hd.hasArg, hk]))
      · exact c _ (by simp [constW])
      · exact hK _ _ _ hw
  · rw [show layW x K = (4, w_if) :: (K 0 0 ++ (4, w_then) :: (K 1 0 ++ (4, w_else) :: K 2 0)) by simp [layW, hk]] at hw
    simp only [List.mem_cons, List.mem_append, List.not_mem_nil, or_false] at hw
    rcases hw with rfl | hw | rfl | hw | rfl | hw
    · exact c _ (by simp [constW])
    · exact hK _ _ _ hw
    · exact c _ (by simp [constW])
    · exact hK _ _ _ hw
    · exact c _ (by simp [constW])
    · exact hK _ _ _ hw
theorem words_ok (t : Tm) : (∀ u, u ∈ t.all → u.node = true) → ∀ w, w ∈ t.wk → WkOk w := by
  induction t using Tm.ind with
  | h x l ih =>
    intro hn
    refine lay_ok (node_ok (hn _ (Tm.self_all _))) (K := kidW (l.map Tm.part) (Tm.wks l)) fun i pt w hw => ?_
    have hin : ∀ w, w ∈ (Tm.wks l).getD i [] → WkOk w := fun w hw => by
      rw [Tm.wks_eq] at hw
      cases g : l[i]? with
      | none => simp [List.getD, g] at hw
      | some t =>
        simp [List.getD, g] at hw
        exact ih t (List.mem_of_getElem? g) (fun u hu => hn u (Tm.mem_all.2 (.inr ⟨t, List.mem_of_getElem? g, hu⟩))) w hw
    unfold kidW at hw
    split at hw
    · simp only [List.mem_cons, List.mem_append, List.not_mem_nil, or_false] at hw
      rcases hw with rfl | hw | rfl
      · exact ok_const _ (by simp [constW])
      · exact hin w hw
      · exact ok_const _ (by simp [constW])
    · exact hin w hw
theorem wk_3 {h : Hd} {a b : Tm} (hk : h.k = 3) : (Tm.mk h [a, b]).wk = (5, s_open) :: (a.wk ++ (5, s_comma) :: (b.wk ++ [(5, s_shut)])) := by
  show layW h (kidW _ _) = _
  have e0 : kidW ([a, b].map Tm.part) (Tm.wks [a, b]) 0 0 = a.wk := (kidW_at (l := [a, b]) (i := 0) (t := a) rfl 0).trans a.kw0
  have e1 : kidW ([a, b].map Tm.part) (Tm.wks [a, b]) 1 0 = b.wk := (kidW_at (l := [a, b]) (i := 1) (t := b) rfl 0).trans b.kw0
  generalize kidW ([a, b].map Tm.part) (Tm.wks [a, b]) = K at *
  simp [layW, hk, e0, e1]
theorem wk_8 {h : Hd} {a b : Tm} (hk : h.k = 8) : (Tm.mk h [a, b]).wk = a.kw 2 ++ (5, s_set) :: b.kw 2 := by
  show layW h (kidW _ _) = _
  have e0 : kidW ([a, b].map Tm.part) (Tm.wks [a, b]) 0 2 = a.kw 2 := kidW_at (l := [a, b]) (i := 0) (t := a) rfl 2
  have e1 : kidW ([a, b].map Tm.part) (Tm.wks [a, b]) 1 2 = b.kw 2 := kidW_at (l := [a, b]) (i := 1) (t := b) rfl 2
  generalize kidW ([a, b].map Tm.part) (Tm.wks [a, b]) = K at *
  simp [layW, hk, e0, e1]
theorem wk_10 {h : Hd} {a b : Tm} (hk : h.k = 10) : (Tm.mk h [a, b]).wk = a.kw 5 ++ b.kw 6 := by
  show layW h (kidW _ _) = _
  have e0 : kidW ([a, b].map Tm.part) (Tm.wks [a, b]) 0 5 = a.kw 5 := kidW_at (l := [a, b]) (i := 0) (t := a) rfl 5
  have e1 : kidW ([a, b].map Tm.part) (Tm.wks [a, b]) 1 6 = b.kw 6 := kidW_at (l := [a, b]) (i := 1) (t := b) rfl 6
  generalize kidW ([a, b].map Tm.part) (Tm.wks [a, b]) = K at *
  simp [layW, hk, e0, e1]
theorem wk_11 {h : Hd} {a : Tm} (hk : h.k = 11) : (Tm.mk h [a]).wk = (4, w_fn) :: (2, h.arg) :: (5, s_to) :: a.wk := by
  show layW h (kidW _ _) = _
  have e0 : kidW ([a].map Tm.part) (Tm.wks [a]) 0 0 = a.wk := (kidW_at (l := [a]) (i := 0) (t := a) rfl 0).trans a.kw0
  generalize kidW ([a].map Tm.part) (Tm.wks [a]) = K at *
  simp [layW, hk, e0]
theorem wk_12 {h : Hd} {a b : Tm} (hk : h.k = 12) : (Tm.mk h [a, b]).wk = (4, w_let) :: (2, h.name) :: (5, s_eq) :: (a.wk ++ (4, w_in) :: b.wk) := by
  show layW h (kidW _ _) = _
  have e0 : kidW ([a, b].map Tm.part) (Tm.wks [a, b]) 0 0 = a.wk := (kidW_at (l := [a, b]) (i := 0) (t := a) rfl 0).trans a.kw0
  have e1 : kidW ([a, b].map Tm.part) (Tm.wks [a, b]) 1 0 = b.wk := (kidW_at (l := [a, b]) (i := 1) (t := b) rfl 0).trans b.kw0
  generalize kidW ([a, b].map Tm.part) (Tm.wks [a, b]) = K at *
  simp [layW, hk, e0, e1]
theorem wk_13 {h : Hd} {a b : Tm} (hk : h.k = 13) : (Tm.mk h [a, b]).wk = (4, w_letrec) :: (2, h.name) :: (2, h.arg) :: (5, s_eq) :: (a.wk ++ (4, w_in) :: b.wk) := by
  show layW h (kidW _ _) = _
  have e0 : kidW ([a, b].map Tm.part) (Tm.wks [a, b]) 0 0 = a.wk := (kidW_at (l := [a, b]) (i := 0) (t := a) rfl 0).trans a.kw0
  have e1 : kidW ([a, b].map Tm.part) (Tm.wks [a, b]) 1 0 = b.wk := (kidW_at (l := [a, b]) (i := 1) (t := b) rfl 0).trans b.kw0
  generalize kidW ([a, b].map Tm.part) (Tm.wks [a, b]) = K at *
  simp [layW, hk, e0, e1]
theorem wk_14 {h : Hd} {a b c : Tm} (hk : h.k = 14) : (Tm.mk h [a, b, c]).wk = (4, w_if) :: (a.wk ++ (4, w_then) :: (b.wk ++ (4, w_else) :: c.wk)) := by
  show layW h (kidW _ _) = _
  have e0 : kidW ([a, b, c].map Tm.part) (Tm.wks [a, b, c]) 0 0 = a.wk := (kidW_at (l := [a, b, c]) (i := 0) (t := a) rfl 0).trans a.kw0
  have e1 : kidW ([a, b, c].map Tm.part) (Tm.wks [a, b, c]) 1 0 = b.wk := (kidW_at (l := [a, b, c]) (i := 1) (t := b) rfl 0).trans b.kw0
  have e2 : kidW ([a, b, c].map Tm.part) (Tm.wks [a, b, c]) 2 0 = c.wk := (kidW_at (l := [a, b, c]) (i := 2) (t := c) rfl 0).trans c.kw0
  generalize kidW ([a, b, c].map Tm.part) (Tm.wks [a, b, c]) = K at *
  simp [layW, hk, e0, e1, e2]
theorem wk_15 {h : Hd} {a : Tm} (hk : h.k = 15) : (Tm.mk h [a]).wk = (4, w_raise) :: (3, h.exn) :: a.kw 6 := by
  show layW h (kidW _ _) = _
  have e0 : kidW ([a].map Tm.part) (Tm.wks [a]) 0 6 = a.kw 6 := kidW_at (l := [a]) (i := 0) (t := a) rfl 6
  generalize kidW ([a].map Tm.part) (Tm.wks [a]) = K at *
  simp [layW, hk, e0]
theorem wk_16 {h : Hd} {a b : Tm} (hk : h.k = 16) : (Tm.mk h [a, b]).wk = (4, w_try) :: (a.wk ++ (4, w_with) :: (3, h.exn) :: (2, h.arg) :: (5, s_to) :: b.wk) := by
  show layW h (kidW _ _) = _
  have e0 : kidW ([a, b].map Tm.part) (Tm.wks [a, b]) 0 0 = a.wk := (kidW_at (l := [a, b]) (i := 0) (t := a) rfl 0).trans a.kw0
  have e1 : kidW ([a, b].map Tm.part) (Tm.wks [a, b]) 1 0 = b.wk := (kidW_at (l := [a, b]) (i := 1) (t := b) rfl 0).trans b.kw0
  generalize kidW ([a, b].map Tm.part) (Tm.wks [a, b]) = K at *
  simp [layW, hk, e0, e1]
theorem wk_9 {h : Hd} {a b : Tm} (hk : h.k = 9) : (Tm.mk h [a, b]).wk = a.kw (if looseT h.op = 2 then 3 else looseT h.op) ++ (5, opS h.op) :: b.kw (looseT h.op + 1) := by
  show layW h (kidW _ _) = _
  have e0 : kidW ([a, b].map Tm.part) (Tm.wks [a, b]) 0 (if looseT h.op = 2 then 3 else looseT h.op) = a.kw (if looseT h.op = 2 then 3 else looseT h.op) := kidW_at (l := [a, b]) (i := 0) (t := a) rfl _
  have e1 : kidW ([a, b].map Tm.part) (Tm.wks [a, b]) 1 (looseT h.op + 1) = b.kw (looseT h.op + 1) := kidW_at (l := [a, b]) (i := 1) (t := b) rfl _
  generalize kidW ([a, b].map Tm.part) (Tm.wks [a, b]) = K at *
  rw [show layW h K = K 0 (if looseT h.op = 2 then 3 else looseT h.op) ++ (5, opS h.op) :: K 1 (looseT h.op + 1) by simp [layW, hk], e0, e1]
theorem wk_pre {h : Hd} {a : Tm} (hk : h.k = 4 ∨ h.k = 5 ∨ h.k = 6 ∨ h.k = 7) : (Tm.mk h [a]).wk = preW h.k :: a.kw 6 := by
  show layW h (kidW _ _) = _
  have e0 : kidW ([a].map Tm.part) (Tm.wks [a]) 0 6 = a.kw 6 := kidW_at (l := [a]) (i := 0) (t := a) rfl 6
  generalize kidW ([a].map Tm.part) (Tm.wks [a]) = K at *
  rcases hk with hk | hk | hk | hk <;> simp [layW, hk, e0]
theorem wk_1 {h : Hd} {l : List Tm} (hk : h.k = 1) : (Tm.mk h l).wk = [(1, bs (Lib.decDigits h.n.toNat))] := by
  show layW h (kidW _ _) = _
  simp [layW, hk]
theorem wk_2 {h : Hd} {l : List Tm} (hk : h.k = 2) : (Tm.mk h l).wk = [(2, h.name)] := by
  show layW h (kidW _ _) = _
  simp [layW, hk]
theorem Hd.same_iff {h h' : Hd} : h.same h' = true ↔ h.k = h'.k ∧ h.op = h'.op ∧ h.n = h'.n ∧ h.name = h'.name ∧ h.arg = h'.arg ∧ h.exn = h'.exn := by
  simp only [Hd.same, Bool.and_eq_true, beq_iff_eq]
  constructor
  · rintro ⟨a, b, c, d, e, f⟩; exact ⟨a, b, c, toList_inj d, toList_inj e, toList_inj f⟩
  · rintro ⟨a, b, c, d, e, f⟩; exact ⟨a, b, c, by rw [d], by rw [e], by rw [f]⟩
theorem layW_same {h h' : Hd} (e : h.same h' = true) (K : Nat → Nat → List Wk) : layW h K = layW h' K ∧ h.part = h'.part := by
  obtain ⟨a, b, c, d, e, f⟩ := Hd.same_iff.1 e
  unfold layW Hd.part
  rw [a, b, c, d, e, f]
  exact ⟨rfl, rfl⟩
theorem same_words (t : Tm) : ∀ t', t.same t' = true → t.wk = t'.wk ∧ t.part = t'.part := by
  induction t using Tm.ind with
  | h x l ih =>
    rintro ⟨x', l'⟩ hs
    rw [same_mk, Bool.and_eq_true] at hs
    obtain ⟨h1, h2⟩ := hs
    have hl : l.map Tm.part = l'.map Tm.part ∧ Tm.wks l = Tm.wks l' := by
      rw [Tm.wks_eq, Tm.wks_eq]
      clear h1
      induction l generalizing l' with
      | nil =>
        cases l' with
        | nil => exact ⟨rfl, rfl⟩
        | cons => simp [Tm.sames] at h2
      | cons t l ihl =>
        cases l' with
        | nil => simp [Tm.sames] at h2
        | cons t' l' =>
          simp only [Tm.sames, Bool.and_eq_true] at h2
          obtain ⟨e1, e2⟩ := ih t (by simp) t' h2.1
          obtain ⟨e3, e4⟩ := ihl (fun t ht => ih t (by simp [ht])) l' h2.2
          exact ⟨by simp [e2, e3], by simp [e1, e4]⟩
    show layW x (kidW _ _) = layW x' (kidW _ _) ∧ x.part = x'.part
    rw [hl.1, hl.2]
    exact layW_same h1 _
theorem kw_le {t : Tm} {p q : Nat} (h : p ≤ q) : (t.kw p).length ≤ (t.kw q).length := by
  unfold Tm.kw
  split
  · rw [if_pos (by omega)]; exact Nat.le_refl _
  · split
    · simp; omega
    · exact Nat.le_refl _
theorem kw_two (t : Tm) (p : Nat) : (t.kw p).length ≤ t.wk.length + 2 := by
  unfold Tm.kw
  split
  · simp
  · omega
theorem kw_own {t : Tm} {p : Nat} (h : p ≤ t.part) : t.kw p = t.wk := by
  unfold Tm.kw
  rw [if_neg (by omega)]
theorem wk_le (t : Tm) (p : Nat) : t.wk.length ≤ (t.kw p).length := by
  unfold Tm.kw
  split
  · simp; omega
  · exact Nat.le_refl _
def NT.Few (l l' : List Tk) (t : Tm) : NT → Prop
  | .expr => t.wk.length + l'.length ≤ l.length
  | .lvl k => k ≤ 4 → (t.kw (k + 1)).length + l'.length ≤ l.length
  | .more k a => (k = 2 ∨ k = 3) → (t.kw (k + 1)).length + l'.length ≤ l.length + (a.kw (k + 1)).length
  | .args a => (t.kw 5).length + l'.length ≤ l.length + (a.kw 5).length
  | .unary => (t.kw 6).length + l'.length ≤ l.length
theorem put_few {k : Nat} {x : ByteArray} {a b : Tm} (hk : k < 4) (hx : inB (signsL k) x = true) : ((putT x a b).kw (k + 1)).length = (a.kw (if k < 2 then k + 2 else k + 1)).length + 1 + (b.kw (k + 2)).length := by
  have hm := (inB_iff _ _).1 hx
  unfold putT
  match k, hk with
  | 0, _ =>
    simp only [signsL, List.mem_cons, List.not_mem_nil, or_false] at hm
    subst hm
    rw [if_pos rfl, kw_own (by simp [Tm.part, Tm.head, Hd.part, hd0]), wk_8 rfl]
    simp; omega
  | 1, _ =>
    simp only [signsL, List.mem_cons, List.not_mem_nil, or_false] at hm
    rcases hm with rfl | rfl
    · rw [if_neg (by decide +kernel), kw_own (by simp [Tm.part, Tm.head, Hd.part, hd0, show opOf s_less = 4 by decide +kernel, looseT]), wk_9 rfl]
      simp [hd0, show opOf s_less = 4 by decide +kernel, looseT]; omega
    · rw [if_neg (by decide +kernel), kw_own (by simp [Tm.part, Tm.head, Hd.part, hd0, show opOf s_eq = 5 by decide +kernel, looseT]), wk_9 rfl]
      simp [hd0, show opOf s_eq = 5 by decide +kernel, looseT]; omega
  | 2, _ =>
    simp only [signsL, List.mem_cons, List.not_mem_nil, or_false] at hm
    rcases hm with rfl | rfl
    · rw [if_neg (by decide +kernel), kw_own (by simp [Tm.part, Tm.head, Hd.part, hd0, show opOf s_plus = 1 by decide +kernel, looseT]), wk_9 rfl]
      simp [hd0, show opOf s_plus = 1 by decide +kernel, looseT]; omega
    · rw [if_neg (by decide +kernel), kw_own (by simp [Tm.part, Tm.head, Hd.part, hd0, show opOf s_minus = 2 by decide +kernel, looseT]), wk_9 rfl]
      simp [hd0, show opOf s_minus = 2 by decide +kernel, looseT]; omega
  | 3, _ =>
    simp only [signsL, List.mem_cons, List.not_mem_nil, or_false] at hm
    subst hm
    rw [if_neg (by decide +kernel), kw_own (by simp [Tm.part, Tm.head, Hd.part, hd0, show opOf s_star = 3 by decide +kernel, looseT]), wk_9 rfl]
    simp [hd0, show opOf s_star = 3 by decide +kernel, looseT]; omega
theorem getK_few {k : Int} {l l' : List Tk} {x : ByteArray} (h : some (getK k l) = some (.ok (x, l'))) : l'.length + 1 = l.length := by
  obtain ⟨t, rfl, -, -⟩ := getK_inv h
  rfl
theorem isT_few {xs : List ByteArray} {l : List Tk} (h : isT xs l = true) : l.tail.length + 1 = l.length := by
  cases l with
  | nil => cases h
  | cons t l => rfl
theorem getW_few {x : ByteArray} {l l' : List Tk} {u : Unit} (h : some (getW x l) = some (.ok (u, l'))) : l'.length + 1 = l.length := by
  obtain ⟨h1, rfl⟩ := getW_inv h
  exact isT_few h1
theorem kind_few {k : Int} (hk : k ≠ 0) {l : List Tk} (h : kindT l = k) : l.tail.length + 1 = l.length := by
  cases l with
  | nil => exact absurd h.symm hk
  | cons t l => rfl
theorem parse_few (f : Nat) : ∀ nt l t l', parseF f nt l = some (.ok (t, l')) → nt.Few l l' t := by
  induction f with
  | zero => intro nt l t l' h; cases h
  | succ f ih =>
    intro nt l t l' h
    cases nt with
    | expr =>
      unfold parseF at h
      split at h
      · rename_i hi
        obtain ⟨_, _, q1, h⟩ := andThen_inv h
        obtain ⟨_, _, q2, h⟩ := andThen_inv h
        obtain ⟨_, _, q3, h⟩ := andThen_inv h
        obtain ⟨_, _, q4, h⟩ := andThen_inv h
        obtain ⟨_, _, q5, h⟩ := andThen_inv h
        obtain ⟨rfl, rfl⟩ := done_inv h
        have e3 := ih _ _ _ _ q3
        have e5 := ih _ _ _ _ q5
        simp only [NT.Few] at e3 e5 ⊢
        rw [wk_12 rfl]
        have := isT_few hi; have := getK_few q1; have := getW_few q2; have := getW_few q4
        simp; omega
      split at h
      · rename_i hi
        obtain ⟨_, _, q1, h⟩ := andThen_inv h
        obtain ⟨_, _, q1', h⟩ := andThen_inv h
        obtain ⟨_, _, q2, h⟩ := andThen_inv h
        obtain ⟨_, _, q3, h⟩ := andThen_inv h
        obtain ⟨_, _, q4, h⟩ := andThen_inv h
        obtain ⟨_, _, q5, h⟩ := andThen_inv h
        obtain ⟨rfl, rfl⟩ := done_inv h
        have e3 := ih _ _ _ _ q3
        have e5 := ih _ _ _ _ q5
        simp only [NT.Few] at e3 e5 ⊢
        rw [wk_13 rfl]
        have := isT_few hi; have := getK_few q1; have := getK_few q1'; have := getW_few q2; have := getW_few q4
        simp; omega
      split at h
      · rename_i hi
        obtain ⟨_, _, q1, h⟩ := andThen_inv h
        obtain ⟨_, _, q2, h⟩ := andThen_inv h
        obtain ⟨_, _, q3, h⟩ := andThen_inv h
        obtain ⟨rfl, rfl⟩ := done_inv h
        have e3 := ih _ _ _ _ q3
        simp only [NT.Few] at e3 ⊢
        rw [wk_11 rfl]
        have := isT_few hi; have := getK_few q1; have := getW_few q2
        simp; omega
      split at h
      · rename_i hi
        obtain ⟨_, _, q3, h⟩ := andThen_inv h
        obtain ⟨_, _, q4, h⟩ := andThen_inv h
        obtain ⟨_, _, q5, h⟩ := andThen_inv h
        obtain ⟨_, _, q6, h⟩ := andThen_inv h
        obtain ⟨_, _, q7, h⟩ := andThen_inv h
        obtain ⟨rfl, rfl⟩ := done_inv h
        have e3 := ih _ _ _ _ q3
        have e5 := ih _ _ _ _ q5
        have e7 := ih _ _ _ _ q7
        simp only [NT.Few] at e3 e5 e7 ⊢
        rw [wk_14 rfl]
        have := isT_few hi; have := getW_few q4; have := getW_few q6
        simp; omega
      split at h
      · rename_i hi
        obtain ⟨_, _, q3, h⟩ := andThen_inv h
        obtain ⟨_, _, q4, h⟩ := andThen_inv h
        obtain ⟨_, _, q5, h⟩ := andThen_inv h
        obtain ⟨_, _, q6, h⟩ := andThen_inv h
        obtain ⟨_, _, q7, h⟩ := andThen_inv h
        obtain ⟨_, _, q8, h⟩ := andThen_inv h
        obtain ⟨rfl, rfl⟩ := done_inv h
        have e3 := ih _ _ _ _ q3
        have e8 := ih _ _ _ _ q8
        simp only [NT.Few] at e3 e8 ⊢
        rw [wk_16 rfl]
        have := isT_few hi; have := getW_few q4; have := getK_few q5; have := getK_few q6; have := getW_few q7
        simp; omega
      · have e := ih _ _ _ _ h
        simp only [NT.Few] at e ⊢
        have : (t.kw 1).length + l'.length ≤ l.length := e (by omega)
        have := wk_le t 1
        omega
    | lvl k =>
      intro hk4
      unfold parseF at h
      split at h
      · rename_i hk
        obtain ⟨a, l1, q1, h⟩ := andThen_inv h
        have e1 := ih _ _ _ _ q1 (by omega)
        split at h
        · rename_i hi
          obtain ⟨b, l2, q2, h⟩ := andThen_inv h
          obtain ⟨rfl, rfl⟩ := done_inv h
          have e2 : (b.kw (k + 2)).length + l2.length ≤ l1.tail.length := ih _ _ _ _ q2 (by omega)
          have e1 : (a.kw (k + 2)).length + l1.length ≤ l.length := e1
          have hx : inB (signsL k) (textT l1) = true := by
            obtain ⟨u, r, rfl, -, hm, -⟩ := isT_ne hi
            exact (inB_iff _ _).2 hm
          rw [put_few (by omega) hx, if_pos hk]
          have := isT_few hi
          omega
        · obtain ⟨rfl, rfl⟩ := done_inv h
          have := kw_le (t := a) (p := k + 1) (q := k + 1 + 1) (by omega)
          omega
      split at h
      · rename_i hk2 hk
        obtain ⟨a, l1, q1, h⟩ := andThen_inv h
        have e1 := ih _ _ _ _ q1 (by omega)
        have e2 := ih _ _ _ _ h (by omega)
        have := kw_le (t := a) (p := k + 1) (q := k + 1 + 1) (by omega)
        omega
      · rename_i hk2 hk
        obtain rfl : k = 4 := by omega
        obtain ⟨a, l1, q1, h⟩ := andThen_inv h
        have e1 := ih _ _ _ _ q1
        have e2 := ih _ _ _ _ h
        simp only [NT.Few] at e1 e2
        have := kw_le (t := a) (p := 5) (q := 6) (by omega)
        show (t.kw 5).length + _ ≤ _
        omega
    | more k a =>
      intro hk
      unfold parseF at h
      split at h
      · rename_i hi
        obtain ⟨b, l1, q1, h⟩ := andThen_inv h
        have e1 : (b.kw (k + 2)).length + l1.length ≤ l.tail.length := ih _ _ _ _ q1 (by omega)
        have e2 := ih _ _ _ _ h hk
        have hx : inB (signsL k) (textT l) = true := by
          obtain ⟨u, r, rfl, -, hm, -⟩ := isT_ne hi
          exact (inB_iff _ _).2 hm
        rw [put_few (by omega) hx, if_neg (by omega)] at e2
        have := isT_few hi
        omega
      · obtain ⟨rfl, rfl⟩ := done_inv h
        omega
    | args a =>
      unfold parseF at h
      simp only [NT.Few]
      split at h
      · rename_i hi
        obtain ⟨b, l1, q1, h⟩ := andThen_inv h
        have e1 := ih _ _ _ _ q1
        have e2 := ih _ _ _ _ h
        simp only [NT.Few] at e1 e2
        rw [kw_own (t := Tm.mk (hd0 10 a.head.pos) [a, b]) (p := 5) (by simp [Tm.part, Tm.head, Hd.part, hd0]), wk_10 rfl] at e2
        simp at e2
        omega
      · obtain ⟨rfl, rfl⟩ := done_inv h
        omega
    | unary =>
      unfold parseF at h
      simp only [NT.Few]
      split at h
      · rename_i hi
        obtain ⟨a, l1, q1, h⟩ := andThen_inv h
        obtain ⟨rfl, rfl⟩ := done_inv h
        have e1 := ih _ _ _ _ q1
        simp only [NT.Few] at e1
        have hp := preK_bound (textT l)
        have h6 : (Tm.mk (hd0 (preK (textT l)) (posT l)) [a]).part = 6 := by rcases hp with e | e | e | e <;> simp [Tm.part, Tm.head, Hd.part, hd0, e]
        rw [kw_own (by omega), wk_pre (by simpa [hd0] using hp)]
        have := isT_few hi
        simp; omega
      split at h
      · rename_i hi
        obtain ⟨x, l1, q1, h⟩ := andThen_inv h
        obtain ⟨a, l2, q2, h⟩ := andThen_inv h
        obtain ⟨rfl, rfl⟩ := done_inv h
        have e1 := ih _ _ _ _ q2
        simp only [NT.Few] at e1
        rw [kw_own (by simp [Tm.part, Tm.head, Hd.part, hd0]), wk_15 rfl]
        have := isT_few hi; have := getK_few q1
        simp; omega
      split at h
      · rename_i hk
        obtain ⟨rfl, rfl⟩ := done_inv h
        rw [kw_own (by simp [Tm.part, Tm.head, Hd.part, hd0]), wk_1 rfl]
        have := kind_few (by omega) hk
        simp; omega
      split at h
      · rename_i hk
        obtain ⟨rfl, rfl⟩ := done_inv h
        rw [kw_own (by simp [Tm.part, Tm.head, Hd.part, hd0]), wk_2 rfl]
        have := kind_few (by omega) hk
        simp; omega
      · obtain ⟨_, _, q1, h⟩ := andThen_inv h
        obtain ⟨a, l2, q2, h⟩ := andThen_inv h
        have e2 := ih _ _ _ _ q2
        simp only [NT.Few] at e2
        have := getW_few q1
        split at h
        · rename_i hi
          obtain ⟨b, l3, q3, h⟩ := andThen_inv h
          obtain ⟨_, _, q4, h⟩ := andThen_inv h
          obtain ⟨rfl, rfl⟩ := done_inv h
          have e3 := ih _ _ _ _ q3
          simp only [NT.Few] at e3
          rw [kw_own (by simp [Tm.part, Tm.head, Hd.part, hd0]), wk_3 rfl]
          have := isT_few hi; have := getW_few q4
          simp; omega
        · obtain ⟨_, _, q4, h⟩ := andThen_inv h
          obtain ⟨rfl, rfl⟩ := done_inv h
          have := getW_few q4; have := kw_two a 6
          omega
end Go.Proofs.YtaioeailgknfjaaGreatDoor
namespace Go.Proofs.YtaioeailgknfjaaGreatDoor
open Go Go.RowKit Go.Sort
def FlatA (A : Nat → Prop) (w : World) : List Tm → List Value → Prop
  | [], xs => xs = []
  | t :: l, xs => ∃ a len cap rest, xs = (tcells t.head a len cap).toList ++ rest ∧ t.head.Fits ∧ len ≤ cap ∧ cap ≤ maxLen ∧ IsTmsA A w t.kids a len ∧ FlatA A w l rest
theorem FlatA.append {A : Nat → Prop} {w : World} {l l' : List Tm} {xs ys : List Value} (h : FlatA A w l xs) (h' : FlatA A w l' ys) : FlatA A w (l ++ l') (xs ++ ys) := by
  induction l generalizing xs with
  | nil => simp only [FlatA] at h; subst h; simpa using h'
  | cons t l ih =>
    simp only [FlatA, List.cons_append] at h ⊢
    obtain ⟨a, len, cap, rest, rfl, hf, h1, h2, hk, hr⟩ := h
    exact ⟨a, len, cap, rest ++ ys, by simp, hf, h1, h2, hk, ih hr⟩
theorem FlatA.move {A A' : Nat → Prop} {w w' : World} (hA : ∀ b, b < w.heap.size → A' b → A b) (hc : ∀ p v, ¬ A p.block → w.cell? p = some v → w'.cell? p = some v) {l : List Tm} {xs : List Value} (h : FlatA A w l xs) : FlatA A' w' l xs := by
  induction l generalizing xs with
  | nil => simpa only [FlatA] using h
  | cons t l ih =>
    simp only [FlatA] at h ⊢
    obtain ⟨a, len, cap, rest, rfl, hf, h1, h2, hk, hr⟩ := h
    exact ⟨a, len, cap, rest, rfl, hf, h1, h2, hk.move hA hc, ih hr⟩
theorem FlatA.tms {A A' : Nat → Prop} {w : World} {l : List Tm} {xs : List Value} (h : FlatA A w l xs) (hA : ∀ b, A' b → A b) (b o : Nat) (hb : ¬ A' b) (hc : ∀ (j : Nat) u, xs[j]? = some u → w.cell? ⟨b, o + j, none⟩ = some u) : IsTmsA A' w l (some ⟨b, o, none⟩) l.length := by
  induction l generalizing xs o with
  | nil => exact IsTmsA.nil _
  | cons t l ih =>
    simp only [FlatA] at h
    obtain ⟨a, len, cap, rest, rfl, hf, h1, h2, hk, hr⟩ := h
    obtain ⟨x, k⟩ := t
    have hrest := ih hr (o + 8) fun j u hu => by
      have := hc (8 + j) u (by
        rw [List.getElem?_append_right (by simp [tcells])]
        simpa [tcells] using hu)
      rw [show o + 8 + j = o + (8 + j) from by omega]
      exact this
    unfold IsTmsA
    refine ⟨by simp, b, o, rfl, hb, ?_, by simpa using hrest⟩
    simp only [TmAt]
    exact ⟨⟨hc 0 _ rfl, hc 1 _ rfl, hc 2 _ rfl, hc 3 _ rfl, hc 4 _ rfl, hc 5 _ rfl, hc 6 _ rfl⟩, hf, a, len, cap, hc 7 _ rfl, h1, h2, hk.off fun b _ h => hA b h⟩
theorem FlatA.length {A : Nat → Prop} {w : World} {l : List Tm} {xs : List Value} (h : FlatA A w l xs) : xs.length = l.length * 8 := by
  induction l generalizing xs with
  | nil => simp only [FlatA] at h; subst h; rfl
  | cons t l ih =>
    simp only [FlatA] at h
    obtain ⟨a, len, cap, rest, rfl, hf, h1, h2, hk, hr⟩ := h
    rw [List.length_append, ih hr]
    simp [tcells]
    omega
end Go.Proofs.YtaioeailgknfjaaGreatDoor
