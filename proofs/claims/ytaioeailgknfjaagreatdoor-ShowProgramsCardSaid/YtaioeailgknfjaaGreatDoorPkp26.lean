/- Part 26 of the proof: ArgsP, PureH, PureH2, PureH3, PureH4; no condition of ours. -/
import Derived.Test.YtaioeailgknfjaaGreatDoorPkp5
import Derived.Test.YtaioeailgknfjaaGreatDoorPkp16
import Derived.Test.YtaioeailgknfjaaGreatDoorPkp24
import Derived.Test.YtaioeailgknfjaaGreatDoorPkp25
set_option linter.unusedVariables false
set_option linter.unusedSimpArgs false
namespace Go.Proofs.YtaioeailgknfjaaGreatDoor
open Go Go.RowKit Go.Sort
open Go.ChangeShapes Go.WideShapes
section
variable {H : Type} {enc : TypeId × Value → H} {w : World} {base : Nat} {spare : Nat → Bool} {held : Bool}
theorem cellsPg : Tryz.prog.cellsOf 41 = 9 := by kernel_rfl
set_option maxRecDepth 8000 in
theorem isPg_trod (fuel : Nat) (cs : List Value) (x : DataW H × List MemPlace) (h : DataW.trod enc Tryz.prog w base spare held fuel 41 cs = some x) : ∃ p, IsPg w p (.agg cs.toArray) := by
  obtain ⟨xs, n, hn, hx, hlen, hxl, hf⟩ := DataW.trod_struct Tryz.underlying41 h
  rw [cellsPg] at hlen
  match cs, hlen with
  | [c0, c1, c2, c3, c4, c5, c6, c7, c8], _ =>
    have f0 := hf 0 _ rfl
    have f1 := hf 1 _ rfl
    rw [List.getElem?_eq_getElem (by rw [hxl]; decide)] at f0 f1
    have k1 : Tryz.prog.cellsOf 32 = 1 := by kernel_rfl
    simp [cellsTm, k1] at f0 f1
    obtain ⟨lt, a, m, c, e, h1, h2, ht⟩ := isToks_trod n _ _ f0
    obtain ⟨t, htm⟩ := isTm_trod n _ _ f1
    obtain ⟨y, l⟩ := t
    obtain ⟨ak, lenk, capk, e1, h3, h4, hfy, hl⟩ := htm.open_
    injection e1 with e1
    simp at e1
    obtain ⟨rfl, rfl, rfl, rfl, rfl, rfl, rfl, rfl⟩ := e1
    subst e
    exact ⟨⟨lt, .mk y l⟩, a, m, c, ak, lenk, capk, rfl, h1, h2, ht, hfy, h3, h4, hl⟩
end
end Go.Proofs.YtaioeailgknfjaaGreatDoor
namespace Go.Proofs.YtaioeailgknfjaaGreatDoor
open Go
def looseT (op : Int) : Nat := if op = 1 ∨ op = 2 then 3 else if op = 3 then 4 else 2
def Hd.part (h : Hd) : Nat := if h.k = 11 ∨ h.k = 12 ∨ h.k = 13 ∨ h.k = 14 ∨ h.k = 16 then 0 else if h.k = 8 then 1 else if h.k = 10 then 5 else if h.k = 9 then looseT h.op else 6
abbrev Wk := Int × ByteArray
def opS (op : Int) : ByteArray := if op = 1 then s_plus else if op = 2 then s_minus else if op = 3 then s_star else if op = 4 then s_less else s_eq
def preW (k : Int) : Wk := if k = 4 then (4, w_fst) else if k = 5 then (4, w_snd) else if k = 6 then (4, w_ref) else (5, s_bang)
def kidW (ps : List Nat) (ws : List (List Wk)) (i pt : Nat) : List Wk := if ps.getD i 6 < pt then (5, s_open) :: (ws.getD i [] ++ [(5, s_shut)]) else ws.getD i []
def layW (h : Hd) (K : Nat → Nat → List Wk) : List Wk :=
  if h.k = 1 then [(1, bs (Lib.decDigits h.n.toNat))]
  else if h.k = 2 then [(2, h.name)]
  else if h.k = 3 then (5, s_open) :: (K 0 0 ++ (5, s_comma) :: (K 1 0 ++ [(5, s_shut)]))
  else if h.k = 8 then K 0 2 ++ (5, s_set) :: K 1 2
  else if h.k = 9 then K 0 (if looseT h.op = 2 then 3 else looseT h.op) ++ (5, opS h.op) :: K 1 (looseT h.op + 1)
  else if h.k = 10 then K 0 5 ++ K 1 6
  else if h.k = 11 then (4, w_fn) :: (2, h.arg) :: (5, s_to) :: K 0 0
  else if h.k = 12 then (4, w_let) :: (2, h.name) :: (5, s_eq) :: (K 0 0 ++ (4, w_in) :: K 1 0)
  else if h.k = 13 then (4, w_letrec) :: (2, h.name) :: (2, h.arg) :: (5, s_eq) :: (K 0 0 ++ (4, w_in) :: K 1 0)
  else if h.k = 14 then (4, w_if) :: (K 0 0 ++ (4, w_then) :: (K 1 0 ++ (4, w_else) :: K 2 0))
  else if h.k = 15 then (4, w_raise) :: (3, h.exn) :: K 0 6
  else if h.k = 16 then (4, w_try) :: (K 0 0 ++ (4, w_with) :: (3, h.exn) :: (2, h.arg) :: (5, s_to) :: K 1 0)
  else preW h.k :: K 0 6
def Tm.part (t : Tm) : Nat := t.head.part
mutual
def Tm.wk : Tm → List Wk
  | .mk h l => layW h (kidW (l.map Tm.part) (Tm.wks l))
def Tm.wks : List Tm → List (List Wk)
  | [] => []
  | t :: l => t.wk :: Tm.wks l
end
def Tm.kw (t : Tm) (pt : Nat) : List Wk := if t.part < pt then (5, s_open) :: (t.wk ++ [(5, s_shut)]) else t.wk
theorem Tm.wks_eq (l : List Tm) : Tm.wks l = l.map Tm.wk := by
  induction l with
  | nil => rfl
  | cons t l ih => simp [Tm.wks, ih]
theorem kidW_at {l : List Tm} {i : Nat} {t : Tm} (h : l[i]? = some t) (pt : Nat) : kidW (l.map Tm.part) (Tm.wks l) i pt = t.kw pt := by
  unfold kidW Tm.kw
  rw [Tm.wks_eq]
  simp [List.getD, h]
theorem Tm.kw0 (t : Tm) : t.kw 0 = t.wk := by simp [Tm.kw]
def AsW (l : List Tk) (ws : List Wk) (r : List Tk) : Prop := ∃ q, l = q ++ r ∧ q.map (fun t => (t.k, t.text)) = ws
theorem AsW.cons {l r : List Tk} {w : Wk} {ws : List Wk} (h : AsW l (w :: ws) r) : ∃ t l', l = t :: l' ∧ t.k = w.1 ∧ t.text = w.2 ∧ AsW l' ws r := by
  obtain ⟨q, rfl, e⟩ := h
  cases q with
  | nil => simp at e
  | cons t q =>
    simp only [List.map_cons, List.cons.injEq] at e
    exact ⟨t, q ++ r, rfl, by rw [← e.1], by rw [← e.1], q, rfl, e.2⟩
theorem AsW.nil {l r : List Tk} (h : AsW l [] r) : l = r := by
  obtain ⟨q, rfl, e⟩ := h
  simp at e
  simp [e]
theorem AsW.append {l r : List Tk} {ws vs : List Wk} (h : AsW l (ws ++ vs) r) : ∃ m, AsW l ws m ∧ AsW m vs r := by
  obtain ⟨q, rfl, e⟩ := h
  obtain ⟨q1, q2, rfl, e1, e2⟩ := List.map_eq_append_iff.1 e
  exact ⟨q2 ++ r, ⟨q1, by simp, e1⟩, ⟨q2, rfl, e2⟩⟩
structure StopsAt (p : Nat) (r : List Tk) : Prop where
  sign : ∀ k, k < 4 → p ≤ k + 1 → isT (signsL k) r = false
  begins : p ≤ 5 → beginsT r = false
theorem StopsAt.mono {p q : Nat} {r : List Tk} (h : StopsAt p r) (hq : p ≤ q) : StopsAt q r := ⟨fun k hk e => h.sign k hk (by omega), fun e => h.begins (by omega)⟩
def ntP : Nat → NT
  | 0 => .expr
  | 6 => .unary
  | k + 1 => .lvl k
def Gets (nt : NT) (l : List Tk) (t : Tm) (r : List Tk) : Prop := ∃ f t', parseF f nt l = some (.ok (t', r)) ∧ t'.same t = true
structure Good (ws : List Wk) (t : Tm) (q : Nat) : Prop where
  get : ∀ p, p ≤ q → ∀ l r, AsW l ws r → StopsAt p r → Gets (ntP p) l t r
  more : ∀ k, (k = 2 ∨ k = 3) → k + 1 ≤ q → ∀ l r, AsW l ws r → StopsAt (k + 2) r → ∃ t', t'.same t = true ∧ ∀ g x, parseF g (.more k t') r = some x → ∃ f, parseF f (.lvl k) l = some x
  args : 5 ≤ q → ∀ l r, AsW l ws r → ∃ t', t'.same t = true ∧ ∀ g x, parseF g (.args t') r = some x → ∃ f, parseF f (.lvl 4) l = some x
  begins : 1 ≤ q → ∀ l r, AsW l ws r → beginsT l = true
theorem Good.mono {ws : List Wk} {t : Tm} {q q' : Nat} (h : Good ws t q) (hq : q' ≤ q) : Good ws t q' := ⟨fun p hp => h.get p (by omega), fun k hk e => h.more k hk (by omega), fun e => h.args (by omega), fun e => h.begins (by omega)⟩
theorem andThen_some {α β : Type} {r : Option (Res α)} {a : α} {l : List Tk} {k : α → List Tk → Option (Res β)} {x : Res β} (h : r = some (.ok (a, l))) (hk : k a l = some x) : andThen r k = some x := by rw [h]; exact hk
theorem begins_first {l : List Tk} (h : beginsT l = true) : isT [w_let] l = false ∧ isT [w_letrec] l = false ∧ isT [w_fn] l = false ∧ isT [w_if] l = false ∧ isT [w_try] l = false := by
  cases l with
  | nil => simp [isT]
  | cons t l =>
    unfold beginsT at h
    simp only [kindT, isT, Bool.or_eq_true, beq_iff_eq, Bool.and_eq_true] at h
    simp only [isT]
    rcases h with h | h | ⟨-, h⟩
    · simp [h]
    · simp [h]
    · have h := (inB_iff _ _).1 h
      have key : ∀ x, x ∈ [s_bang, w_ref, w_fst, w_snd, w_raise, s_open] → inB [w_let] x = false ∧ inB [w_letrec] x = false ∧ inB [w_fn] x = false ∧ inB [w_if] x = false ∧ inB [w_try] x = false := by decide +kernel
      obtain ⟨a1, a2, a3, a4, a5⟩ := key _ h
      simp [a1, a2, a3, a4, a5]
theorem up_from {l r : List Tk} {t : Tm} (hb : beginsT l = true) : ∀ (d p q : Nat), p + d = q → q ≤ 6 → Gets (ntP q) l t r → StopsAt p r → Gets (ntP p) l t r := by
  intro d
  induction d with
  | zero => intro p q e _ h _; obtain rfl : p = q := (by omega); exact h
  | succ d ih =>
    intro p q e hq h hs
    obtain ⟨f, t', h1, h2⟩ := ih (p + 1) q (by omega) hq h (hs.mono (by omega))
    match p, e, hs, h1 with
    | 0, e, hs, h1 =>
      obtain ⟨a1, a2, a3, a4, a5⟩ := begins_first hb
      refine ⟨f + 1, t', ?_, h2⟩
      simp only [ntP, parseF, a1, a2, a3, a4, a5, Bool.false_eq_true, if_false]
      exact h1
    | p + 6, e, hs, h1 => exact absurd e (by omega)
    | 5, e, hs, h1 => exact ⟨f + 2, t', up_args h1 (hs.begins (by omega)), h2⟩
    | 1, e, hs, h1 => exact ⟨f + 2, t', up_lvl (k := 0) (by omega) (parseF_mono1 f _ _ _ h1) (hs.sign 0 (by omega) (by omega)), h2⟩
    | 2, e, hs, h1 => exact ⟨f + 2, t', up_lvl (k := 1) (by omega) (parseF_mono1 f _ _ _ h1) (hs.sign 1 (by omega) (by omega)), h2⟩
    | 3, e, hs, h1 => exact ⟨f + 2, t', up_lvl (k := 2) (by omega) (parseF_mono1 f _ _ _ h1) (hs.sign 2 (by omega) (by omega)), h2⟩
    | 4, e, hs, h1 => exact ⟨f + 2, t', up_lvl (k := 3) (by omega) (parseF_mono1 f _ _ _ h1) (hs.sign 3 (by omega) (by omega)), h2⟩
theorem getK_at {k : Int} {x : ByteArray} {l r : List Tk} {ws : List Wk} (h : AsW l ((k, x) :: ws) r) : ∃ l', getK k l = .ok (x, l') ∧ AsW l' ws r := by
  obtain ⟨t, l', rfl, h1, h2, h3⟩ := h.cons
  exact ⟨l', by simp [getK, h1, h2], h3⟩
theorem isT_at {k : Int} (hk : k = 4 ∨ k = 5) {x : ByteArray} {l r : List Tk} {ws : List Wk} (h : AsW l ((k, x) :: ws) r) (xs : List ByteArray) : isT xs l = inB xs x := by
  obtain ⟨t, l', rfl, h1, h2, h3⟩ := h.cons
  simp only at h1 h2
  rcases hk with rfl | rfl <;> simp [isT, h1, h2]
theorem kind_at {k : Int} {x : ByteArray} {l r : List Tk} {ws : List Wk} (h : AsW l ((k, x) :: ws) r) : kindT l = k ∧ textT l = x ∧ AsW l.tail ws r := by
  obtain ⟨t, l', rfl, h1, h2, h3⟩ := h.cons
  exact ⟨h1, h2, h3⟩
theorem getW_at {k : Int} (hk : k = 4 ∨ k = 5) {x : ByteArray} {l r : List Tk} {ws : List Wk} (h : AsW l ((k, x) :: ws) r) : ∃ l', getW x l = .ok ((), l') ∧ AsW l' ws r := by
  refine ⟨l.tail, ?_, (kind_at h).2.2⟩
  unfold getW
  rw [isT_at hk h, if_pos ((inB_iff _ _).2 (by simp))]
def stopW (x : ByteArray) : Bool := (List.range 4).all (fun k => !inB (signsL k) x) && !inB [s_bang, w_ref, w_fst, w_snd, w_raise, s_open] x
theorem stops_at {k : Int} (hk : k = 4 ∨ k = 5) {x : ByteArray} (hx : stopW x = true) {l r : List Tk} {ws : List Wk} (h : AsW l ((k, x) :: ws) r) (p : Nat) : StopsAt p l := by
  simp only [stopW, Bool.and_eq_true, List.all_eq_true, List.mem_range, Bool.not_eq_true'] at hx
  refine ⟨fun j hj _ => by rw [isT_at hk h]; exact hx.1 j hj, fun _ => ?_⟩
  unfold beginsT
  rw [isT_at hk h, (kind_at h).1, hx.2]
  rcases hk with rfl | rfl <;> rfl
theorem sign_stops {x : ByteArray} {l r : List Tk} {ws : List Wk} (h : AsW l ((5, x) :: ws) r) (p : Nat) (hp : ∀ k, k < 4 → p ≤ k + 1 → inB (signsL k) x = false) (hb : inB [s_bang, w_ref, w_fst, w_snd, w_raise, s_open] x = false) : StopsAt p l := by
  refine ⟨fun j hj hq => by rw [isT_at (.inr rfl) h]; exact hp j hj hq, fun _ => ?_⟩
  unfold beginsT
  rw [isT_at (.inr rfl) h, (kind_at h).1, hb]
  rfl
def MoreAt (ws : List Wk) (t : Tm) (k : Nat) : Prop := ∀ l r, AsW l ws r → StopsAt (k + 2) r → ∃ t', t'.same t = true ∧ ∀ g x, parseF g (.more k t') r = some x → ∃ f, parseF f (.lvl k) l = some x
def ArgsAt (ws : List Wk) (t : Tm) : Prop := ∀ l r, AsW l ws r → ∃ t', t'.same t = true ∧ ∀ g x, parseF g (.args t') r = some x → ∃ f, parseF f (.lvl 4) l = some x
theorem Good.build {ws : List Wk} {t : Tm} {q : Nat} (h1 : 1 ≤ q) (h6 : q ≤ 6) (hb : ∀ l r, AsW l ws r → beginsT l = true) (hg : ∀ l r, AsW l ws r → StopsAt q r → Gets (ntP q) l t r) (hm : ∀ k, (k = 2 ∨ k = 3) → k + 1 = q → MoreAt ws t k) (ha : q = 5 → ArgsAt ws t) : Good ws t q where
  get p hp l r hA hs := up_from (hb l r hA) (q - p) p q (by omega) h6 (hg l r hA (hs.mono hp)) hs
  more k hk hq l r hA hs := by
    rcases Nat.lt_or_ge (k + 1) q with hl | hl
    · obtain ⟨f, t', e1, e2⟩ := up_from (hb l r hA) (q - (k + 2)) (k + 2) q (by omega) h6 (hg l r hA (hs.mono (by omega))) hs
      refine ⟨t', e2, fun g x hx => ⟨max f g + 1, ?_⟩⟩
      rcases hk with rfl | rfl
      · simp only [parseF, show ¬ (2 < 2) by omega, show 2 < 4 by omega, if_true, if_false]
        exact andThen_some (parseF_mono (Nat.le_max_left f g) e1) (parseF_mono (Nat.le_max_right f g) hx)
      · simp only [parseF, show ¬ (3 < 2) by omega, show 3 < 4 by omega, if_true, if_false]
        exact andThen_some (parseF_mono (Nat.le_max_left f g) e1) (parseF_mono (Nat.le_max_right f g) hx)
    · exact hm k hk (by omega) l r hA hs
  args hq l r hA := by
    rcases Nat.lt_or_ge 5 q with hl | hl
    · obtain rfl : q = 6 := by omega
      obtain ⟨f, t', e1, e2⟩ := hg l r hA ⟨fun k hk e => absurd e (by omega), fun e => absurd e (by omega)⟩
      refine ⟨t', e2, fun g x hx => ⟨max f g + 1, ?_⟩⟩
      simp only [parseF, show ¬ (4 < 2) by omega, show ¬ (4 < 4) by omega, if_false]
      exact andThen_some (parseF_mono (Nat.le_max_left f g) e1) (parseF_mono (Nat.le_max_right f g) hx)
    · exact ha (by omega) l r hA
  begins _ l r hA := hb l r hA
theorem Good.unary {ws : List Wk} {t : Tm} (h : ∀ l r, AsW l ws r → Gets .unary l t r) (hb : ∀ l r, AsW l ws r → beginsT l = true) : Good ws t 6 :=
  Good.build (by omega) (by omega) hb (fun l r hA _ => h l r hA) (fun k hk e => absurd e (by omega)) (fun e => absurd e (by omega))
theorem Good.expr {ws : List Wk} {t : Tm} (h : ∀ l r, AsW l ws r → StopsAt 0 r → Gets .expr l t r) : Good ws t 0 where
  get p hp l r hA hs := by obtain rfl : p = 0 := (by omega); exact h l r hA hs
  more k _ hq := absurd hq (by omega)
  args hq := absurd hq (by omega)
  begins hq := absurd hq (by omega)
theorem Good.brackets {ws : List Wk} {t : Tm} (h : Good ws t 0) : Good ((5, s_open) :: (ws ++ [(5, s_shut)])) t 6 := by
  refine Good.unary (fun l r ha => ?_) (fun l r ha => ?_)
  · have hk := kind_at ha
    obtain ⟨m, h1, h2⟩ := hk.2.2.append
    obtain ⟨f, t', h3, h4⟩ := h.get 0 (Nat.le_refl _) _ _ h1 (stops_at (.inr rfl) (by decide +kernel) h2 0)
    have h5 := isT_at (.inr rfl) h2 [s_shut]
    have h6 : m.tail = r := (kind_at h2).2.2.nil
    obtain ⟨u, l', rfl, e1, e2, -⟩ := ha.cons
    refine ⟨f + 1, t', ?_, h4⟩
    have := in_brackets h3 e1 e2 (by rw [h5]; decide +kernel)
    rw [h6] at this
    exact this
  · unfold beginsT
    rw [isT_at (.inr rfl) ha]
    simp [show inB [s_bang, w_ref, w_fst, w_snd, w_raise, s_open] s_open = true from by decide +kernel]
theorem Good.kid {t : Tm} (h : Good t.wk t t.part) (pt : Nat) (ha : pt ≤ 6) : Good (t.kw pt) t pt := by
  unfold Tm.kw
  split
  · exact (h.mono (Nat.zero_le _)).brackets.mono ha
  · exact h.mono (by omega)
def Hd.at_ (h : Hd) (p : Int) : Hd := ⟨h.k, h.op, p, h.n, h.name, h.arg, h.exn⟩
theorem Hd.at_same (h : Hd) (p : Int) : (h.at_ p).same h = true := by simp [Hd.same, Hd.at_]
theorem fit_no {there : Bool} {s : ByteArray} {ok : Bool} (h : fitB there s ok = true) : (there = true → ok = true) ∧ (there = false → s = ByteArray.empty) := by
  unfold fitB at h
  cases there with
  | true => simp at h; exact ⟨fun _ => h, fun e => by cases e⟩
  | false =>
    simp at h
    exact ⟨fun e => (by cases e), fun _ => toList_inj (by rw [h, empty_list0])⟩
structure NodeOk (h : Hd) (l : List Tm) : Prop where
  ar : 0 ≤ karity h.k
  len : (l.length : Int) = karity h.k
  op9 : h.k = 9 → 1 ≤ h.op ∧ h.op ≤ 5
  op0 : h.k ≠ 9 → h.op = 0
  n0 : 0 ≤ h.n ∧ h.n ≤ 2147483647
  n1 : h.k ≠ 1 → h.n = 0
  name1 : h.hasName = true → isName h.name = true
  name0 : h.hasName = false → h.name = ByteArray.empty
  arg1 : h.hasArg = true → isName h.arg = true
  arg0 : h.hasArg = false → h.arg = ByteArray.empty
  exn1 : h.hasExn = true → isExn h.exn = true
  exn0 : h.hasExn = false → h.exn = ByteArray.empty
theorem node_ok {h : Hd} {l : List Tm} (hn : (Tm.mk h l).node = true) : NodeOk h l := by
  simp only [Tm.node, Tm.nums, Bool.and_eq_true, Bool.or_eq_true, decide_eq_true_eq] at hn
  obtain ⟨⟨h1, h2, h3, h4, h5, h6⟩, h7, h8, h9⟩ := hn
  refine ⟨h1, h2, fun e => ?_, fun e => ?_, h5, fun e => h6.resolve_left e, (fit_no h7).1, (fit_no h7).2, (fit_no h8).1, (fit_no h8).2, (fit_no h9).1, (fit_no h9).2⟩
  · rw [if_pos e] at h4; simpa using h4
  · rw [if_neg e] at h4; simpa using h4
theorem hd_eta (h : Hd) (k op p n : Int) (nm ar ex : ByteArray) (hk : h.k = k) (ho : h.op = op) (hn : h.n = n) (h1 : h.name = nm) (h2 : h.arg = ar) (h3 : h.exn = ex) : (⟨k, op, p, n, nm, ar, ex⟩ : Hd) = h.at_ p := by
  subst hk ho hn h1 h2 h3
  rfl
theorem begins_at {k : Int} (hk : k = 4 ∨ k = 5) {x : ByteArray} {l r : List Tk} {ws : List Wk} (h : AsW l ((k, x) :: ws) r) (hb : inB [s_bang, w_ref, w_fst, w_snd, w_raise, s_open] x = true) : beginsT l = true := by
  unfold beginsT
  rw [isT_at hk h, hb]
  simp
theorem good_num {h : Hd} (hk : h.k = 1) (ok : NodeOk h []) : Good [(1, bs (Lib.decDigits h.n.toNat))] (.mk h []) 6 := by
  refine Good.unary (fun l r hA => ?_) (fun l r hA => ?_)
  · obtain ⟨h1, h2, h3⟩ := kind_at hA
    obtain rfl := h3.nil
    obtain ⟨u, l', rfl, e1, e2, -⟩ := hA.cons
    refine ⟨1, .mk (h.at_ u.pos) [], ?_, same0 (Hd.at_same _ _)⟩
    have i1 : ∀ xs, isT xs (u :: l') = false := fun xs => by simp [isT, e1]
    have hn : numV u.text = h.n := by
      rw [e2]
      unfold numV
      have h0 := ok.n0
      rw [bs_list, okN_digits, if_pos (by simp; omega), (decDigits_back _).2]
      omega
    have e := hd_eta h 1 0 u.pos h.n ByteArray.empty ByteArray.empty ByteArray.empty hk (ok.op0 (by omega)) rfl (ok.name0 (by simp [Hd.hasName, hk])) (ok.arg0 (by simp [Hd.hasArg, hk])) (ok.exn0 (by simp [Hd.hasExn, hk]))
    simp only [parseF, i1, Bool.false_eq_true, if_false, h1, if_true]
    show some (Except.ok (Tm.mk ⟨1, 0, u.pos, numV u.text, ByteArray.empty, ByteArray.empty, ByteArray.empty⟩ [], l')) = _
    rw [hn, e]
    rfl
  · unfold beginsT; rw [(kind_at hA).1]; rfl
theorem good_var {h : Hd} (hk : h.k = 2) (ok : NodeOk h []) : Good [(2, h.name)] (.mk h []) 6 := by
  refine Good.unary (fun l r hA => ?_) (fun l r hA => ?_)
  · obtain ⟨h1, h2, h3⟩ := kind_at hA
    obtain rfl := h3.nil
    obtain ⟨u, l', rfl, e1, e2, -⟩ := hA.cons
    refine ⟨1, .mk (h.at_ u.pos) [], ?_, same0 (Hd.at_same _ _)⟩
    have i1 : ∀ xs, isT xs (u :: l') = false := fun xs => by simp [isT, e1]
    have e := hd_eta h 2 0 u.pos 0 u.text ByteArray.empty ByteArray.empty hk (ok.op0 (by omega)) (ok.n1 (by omega)) (by rw [e2]) (ok.arg0 (by simp [Hd.hasArg, hk])) (ok.exn0 (by simp [Hd.hasExn, hk]))
    simp only [parseF, i1, Bool.false_eq_true, if_false, h1, if_true]
    show some (Except.ok (Tm.mk ⟨2, 0, u.pos, 0, u.text, ByteArray.empty, ByteArray.empty⟩ [], l')) = _
    rw [e]
    rfl
  · unfold beginsT; rw [(kind_at hA).1]; rfl
theorem good_pair {h : Hd} {a b : Tm} (hk : h.k = 3) (ok : NodeOk h [a, b]) (ga : Good a.wk a a.part) (gb : Good b.wk b b.part) : Good ((5, s_open) :: (a.wk ++ (5, s_comma) :: (b.wk ++ [(5, s_shut)]))) (.mk h [a, b]) 6 := by
  refine Good.unary (fun l r hA => ?_) (fun l r hA => begins_at (.inr rfl) hA (by decide +kernel))
  obtain ⟨h1, h2, h3⟩ := kind_at hA
  have i0 := isT_at (.inr rfl) hA
  obtain ⟨l1, e1, A1⟩ := getW_at (.inr rfl) hA
  obtain ⟨m, A2, A3⟩ := A1.append
  obtain ⟨f, a', p1, s1⟩ := ga.get 0 (Nat.zero_le _) _ _ A2 (stops_at (.inr rfl) (by decide +kernel) A3 0)
  obtain ⟨-, -, A4⟩ := kind_at A3
  obtain ⟨m2, A5, A6⟩ := A4.append
  obtain ⟨g, b', p2, s2⟩ := gb.get 0 (Nat.zero_le _) _ _ A5 (stops_at (.inr rfl) (by decide +kernel) A6 0)
  obtain ⟨l4, e4, A7⟩ := getW_at (.inr rfl) A6
  obtain rfl := A7.nil
  have i3 := isT_at (.inr rfl) A3 [s_comma]
  refine ⟨max f g + 1, .mk (h.at_ (posT l)) [a', b'], ?_, same2 (Hd.at_same _ _) s1 s2⟩
  have e := hd_eta h 3 0 (posT l) 0 ByteArray.empty ByteArray.empty ByteArray.empty hk (ok.op0 (by omega)) (ok.n1 (by omega)) (ok.name0 (by simp [Hd.hasName, hk])) (ok.arg0 (by simp [Hd.hasArg, hk])) (ok.exn0 (by simp [Hd.hasExn, hk]))
  rw [← e]
  simp only [parseF, i0, h1, show inB [s_bang, w_ref, w_fst, w_snd] s_open = false by decide +kernel, show inB [w_raise] s_open = false by decide +kernel, Bool.false_eq_true, if_false, show ¬ ((5 : Int) = 1) by omega, show ¬ ((5 : Int) = 2) by omega]
  refine andThen_some (congrArg some e1) (andThen_some (parseF_mono (Nat.le_max_left f g) p1) ?_)
  rw [i3, if_pos (by decide +kernel)]
  exact andThen_some (parseF_mono (Nat.le_max_right f g) p2) (andThen_some (congrArg some e4) rfl)
theorem good_pre {h : Hd} {a : Tm} (hk : h.k = 4 ∨ h.k = 5 ∨ h.k = 6 ∨ h.k = 7) (ok : NodeOk h [a]) (ga : Good (a.kw 6) a 6) : Good (preW h.k :: a.kw 6) (.mk h [a]) 6 := by
  have key : ∃ (c : Int) (x : ByteArray), (c = 4 ∨ c = 5) ∧ preW h.k = (c, x) ∧ preK x = h.k ∧ inB [s_bang, w_ref, w_fst, w_snd] x = true ∧ inB [s_bang, w_ref, w_fst, w_snd, w_raise, s_open] x = true := by
    rcases hk with e | e | e | e <;> rw [e]
    · exact ⟨4, w_fst, .inl rfl, rfl, by decide +kernel⟩
    · exact ⟨4, w_snd, .inl rfl, rfl, by decide +kernel⟩
    · exact ⟨4, w_ref, .inl rfl, rfl, by decide +kernel⟩
    · exact ⟨5, s_bang, .inr rfl, rfl, by decide +kernel⟩
  obtain ⟨c, x, hc, ew, ek, hi, hb⟩ := key
  rw [ew]
  refine Good.unary (fun l r hA => ?_) (fun l r hA => begins_at hc hA hb)
  obtain ⟨h1, h2, h3⟩ := kind_at hA
  have i0 := isT_at hc hA
  obtain ⟨f, a', p1, s1⟩ := ga.get 6 (Nat.le_refl _) _ _ h3 ⟨fun k hk e => absurd e (by omega), fun e => absurd e (by omega)⟩
  refine ⟨f + 1, .mk (h.at_ (posT l)) [a'], ?_, same1 (Hd.at_same _ _) s1⟩
  have e := hd_eta h h.k 0 (posT l) 0 ByteArray.empty ByteArray.empty ByteArray.empty rfl (ok.op0 (by omega)) (ok.n1 (by omega)) (ok.name0 (by rcases hk with e | e | e | e <;> simp [Hd.hasName, e])) (ok.arg0 (by rcases hk with e | e | e | e <;> simp [Hd.hasArg, e])) (ok.exn0 (by rcases hk with e | e | e | e <;> simp [Hd.hasExn, e]))
  rw [← e]
  simp only [parseF, i0, hi, if_true, h2, ek]
  exact andThen_some p1 rfl
theorem good_raise {h : Hd} {a : Tm} (hk : h.k = 15) (ok : NodeOk h [a]) (ga : Good (a.kw 6) a 6) : Good ((4, w_raise) :: (3, h.exn) :: a.kw 6) (.mk h [a]) 6 := by
  refine Good.unary (fun l r hA => ?_) (fun l r hA => begins_at (.inl rfl) hA (by decide +kernel))
  obtain ⟨h1, h2, h3⟩ := kind_at hA
  have i0 := isT_at (.inl rfl) hA
  obtain ⟨l1, e1, A1⟩ := getK_at h3
  obtain ⟨f, a', p1, s1⟩ := ga.get 6 (Nat.le_refl _) _ _ A1 ⟨fun k hk e => absurd e (by omega), fun e => absurd e (by omega)⟩
  refine ⟨f + 1, .mk (h.at_ (posT l)) [a'], ?_, same1 (Hd.at_same _ _) s1⟩
  have e := hd_eta h 15 0 (posT l) 0 ByteArray.empty ByteArray.empty h.exn hk (ok.op0 (by omega)) (ok.n1 (by omega)) (ok.name0 (by simp [Hd.hasName, hk])) (ok.arg0 (by simp [Hd.hasArg, hk])) rfl
  rw [← e]
  simp only [parseF, i0, show inB [s_bang, w_ref, w_fst, w_snd] w_raise = false by decide +kernel, show inB [w_raise] w_raise = true by decide +kernel, Bool.false_eq_true, if_false, if_true]
  exact andThen_some (congrArg some e1) (andThen_some p1 rfl)
theorem put_at {x : ByteArray} {a b a' b' : Tm} {h : Hd} (hx : x ≠ s_set) (hk : h.k = 9) (ho : h.op = opOf x) (ok : NodeOk h [a, b]) (s1 : a'.same a = true) (s2 : b'.same b = true) : (putT x a' b').same (.mk h [a, b]) = true := by
  have e := hd_eta h 9 (opOf x) a'.head.pos 0 ByteArray.empty ByteArray.empty ByteArray.empty hk ho (ok.n1 (by omega)) (ok.name0 (by simp [Hd.hasName, hk])) (ok.arg0 (by simp [Hd.hasArg, hk])) (ok.exn0 (by simp [Hd.hasExn, hk]))
  unfold putT
  rw [if_neg hx]
  show (Tm.mk ⟨9, opOf x, a'.head.pos, 0, ByteArray.empty, ByteArray.empty, ByteArray.empty⟩ [a', b']).same _ = true
  rw [e]
  exact same2 (Hd.at_same _ _) s1 s2
theorem begins_app {ws vs : List Wk} {l r : List Tk} (h : ∀ l r, AsW l ws r → beginsT l = true) (hA : AsW l (ws ++ vs) r) : beginsT l = true := by
  obtain ⟨m, A1, -⟩ := hA.append
  exact h _ _ A1
theorem good_left {h : Hd} {a b : Tm} {x : ByteArray} {k : Nat} (hk : k = 2 ∨ k = 3) (hx : inB (signsL k) x = true) (h9 : h.k = 9) (ho : h.op = opOf x) (ok : NodeOk h [a, b]) (ga : Good (a.kw (k + 1)) a (k + 1)) (gb : Good (b.kw (k + 2)) b (k + 2)) :
    Good (a.kw (k + 1) ++ (5, x) :: b.kw (k + 2)) (.mk h [a, b]) (k + 1) := by
  have key : x ≠ s_set ∧ (∀ j, j < 4 → k + 2 ≤ j + 1 → inB (signsL j) x = false) ∧ inB [s_bang, w_ref, w_fst, w_snd, w_raise, s_open] x = false := by
    have hm := (inB_iff _ _).1 hx
    rcases hk with rfl | rfl
    · have : ∀ x, x ∈ signsL 2 → x ≠ s_set ∧ inB (signsL 3) x = false ∧ inB [s_bang, w_ref, w_fst, w_snd, w_raise, s_open] x = false := by decide +kernel
      obtain ⟨k1, k2, k3⟩ := this x hm
      refine ⟨k1, fun j h1 h2 => ?_, k3⟩
      obtain rfl : j = 3 := by omega
      exact k2
    · have : ∀ x, x ∈ signsL 3 → x ≠ s_set ∧ inB [s_bang, w_ref, w_fst, w_snd, w_raise, s_open] x = false := by decide +kernel
      obtain ⟨k1, k3⟩ := this x hm
      exact ⟨k1, fun j h1 h2 => by omega, k3⟩
  obtain ⟨kx, kj, kb⟩ := key
  have hb : ∀ l r, AsW l (a.kw (k + 1) ++ (5, x) :: b.kw (k + 2)) r → beginsT l = true := fun l r hA => begins_app (fun l r => ga.begins (by omega) l r) hA
  have core : MoreAt (a.kw (k + 1) ++ (5, x) :: b.kw (k + 2)) (.mk h [a, b]) k := by
    intro l r hA hs
    obtain ⟨m, A1, A2⟩ := hA.append
    obtain ⟨a', s1, Ha⟩ := ga.more k hk (Nat.le_refl _) _ _ A1 (sign_stops A2 _ kj kb)
    obtain ⟨e1, e2, A3⟩ := kind_at A2
    obtain ⟨f, b', p2, s2⟩ := gb.get (k + 2) (Nat.le_refl _) _ _ A3 hs
    refine ⟨putT x a' b', put_at kx h9 ho ok s1 s2, fun g y hy => Ha (max f g + 1) y ?_⟩
    simp only [parseF, isT_at (.inr rfl) A2, hx, if_true, e2]
    have p2 : parseF f (.lvl (k + 1)) m.tail = some (.ok (b', r)) := by rcases hk with rfl | rfl <;> exact p2
    exact andThen_some (parseF_mono (Nat.le_max_left f g) p2) (parseF_mono (Nat.le_max_right f g) hy)
  refine Good.build (by omega) (by omega) hb (fun l r hA hs => ?_) (fun j hj e => by obtain rfl : j = k := (by omega); exact core) (fun e => by omega)
  obtain ⟨t', s, H⟩ := core l r hA (hs.mono (by omega))
  obtain ⟨f, hf⟩ := H 1 (.ok (t', r)) (by simp only [parseF, hs.sign k (by omega) (by omega), Bool.false_eq_true, if_false])
  exact ⟨f, t', by rcases hk with rfl | rfl <;> exact hf, s⟩
theorem good_one {h : Hd} {a b : Tm} {x : ByteArray} {k : Nat} (hk : k = 0 ∨ k = 1) (hx : inB (signsL k) x = true) (hs' : ∀ a' b' : Tm, a'.same a = true → b'.same b = true → (putT x a' b').same (.mk h [a, b]) = true) (ga : Good (a.kw (k + 2)) a (k + 2)) (gb : Good (b.kw (k + 2)) b (k + 2)) :
    Good (a.kw (k + 2) ++ (5, x) :: b.kw (k + 2)) (.mk h [a, b]) (k + 1) := by
  have key : (∀ j, j < 4 → k + 2 ≤ j + 1 → inB (signsL j) x = false) ∧ inB [s_bang, w_ref, w_fst, w_snd, w_raise, s_open] x = false := by
    have hm := (inB_iff _ _).1 hx
    rcases hk with rfl | rfl
    · have : ∀ x, x ∈ signsL 0 → (inB (signsL 1) x = false ∧ inB (signsL 2) x = false ∧ inB (signsL 3) x = false) ∧ inB [s_bang, w_ref, w_fst, w_snd, w_raise, s_open] x = false := by decide +kernel
      obtain ⟨⟨k1, k2, k4⟩, k3⟩ := this x hm
      refine ⟨fun j h1 h2 => ?_, k3⟩
      have : j = 1 ∨ j = 2 ∨ j = 3 := by omega
      rcases this with rfl | rfl | rfl <;> assumption
    · have : ∀ x, x ∈ signsL 1 → (inB (signsL 2) x = false ∧ inB (signsL 3) x = false) ∧ inB [s_bang, w_ref, w_fst, w_snd, w_raise, s_open] x = false := by decide +kernel
      obtain ⟨⟨k1, k2⟩, k3⟩ := this x hm
      refine ⟨fun j h1 h2 => ?_, k3⟩
      have : j = 2 ∨ j = 3 := by omega
      rcases this with rfl | rfl <;> assumption
  obtain ⟨kj, kb⟩ := key
  refine Good.build (by omega) (by omega) (fun l r hA => begins_app (fun l r => ga.begins (by omega) l r) hA) (fun l r hA hs => ?_) (fun j hj e => by omega) (fun e => by omega)
  obtain ⟨m, A1, A2⟩ := hA.append
  obtain ⟨f, a', p1, s1⟩ := ga.get (k + 2) (Nat.le_refl _) _ _ A1 (sign_stops A2 _ kj kb)
  obtain ⟨e1, e2, A3⟩ := kind_at A2
  obtain ⟨g, b', p2, s2⟩ := gb.get (k + 2) (Nat.le_refl _) _ _ A3 (hs.mono (by omega))
  have p1 : parseF f (.lvl (k + 1)) l = some (.ok (a', m)) := by rcases hk with rfl | rfl <;> exact p1
  have p2 : parseF g (.lvl (k + 1)) m.tail = some (.ok (b', r)) := by rcases hk with rfl | rfl <;> exact p2
  refine ⟨max f g + 1, putT x a' b', ?_, hs' a' b' s1 s2⟩
  have e : ntP (k + 1) = .lvl k := by rcases hk with rfl | rfl <;> rfl
  rw [e]
  simp only [parseF, show k < 2 by omega, if_true]
  refine andThen_some (parseF_mono (Nat.le_max_left f g) p1) ?_
  simp only [isT_at (.inr rfl) A2, hx, if_true, e2]
  exact andThen_some (parseF_mono (Nat.le_max_right f g) p2) rfl
theorem good_app {h : Hd} {a b : Tm} (hk : h.k = 10) (ok : NodeOk h [a, b]) (ga : Good (a.kw 5) a 5) (gb : Good (b.kw 6) b 6) : Good (a.kw 5 ++ b.kw 6) (.mk h [a, b]) 5 := by
  have hb : ∀ l r, AsW l (a.kw 5 ++ b.kw 6) r → beginsT l = true := fun l r hA => begins_app (fun l r => ga.begins (by omega) l r) hA
  have core : ArgsAt (a.kw 5 ++ b.kw 6) (.mk h [a, b]) := by
    intro l r hA
    obtain ⟨m, A1, A2⟩ := hA.append
    obtain ⟨a', s1, Ha⟩ := ga.args (Nat.le_refl _) _ _ A1
    obtain ⟨f, b', p2, s2⟩ := gb.get 6 (Nat.le_refl _) _ _ A2 ⟨fun k hk e => absurd e (by omega), fun e => absurd e (by omega)⟩
    have e := hd_eta h 10 0 a'.head.pos 0 ByteArray.empty ByteArray.empty ByteArray.empty hk (ok.op0 (by omega)) (ok.n1 (by omega)) (ok.name0 (by simp [Hd.hasName, hk])) (ok.arg0 (by simp [Hd.hasArg, hk])) (ok.exn0 (by simp [Hd.hasExn, hk]))
    refine ⟨.mk (h.at_ a'.head.pos) [a', b'], same2 (Hd.at_same _ _) s1 s2, fun g y hy => Ha (max f g + 1) y ?_⟩
    rw [← e] at hy
    simp only [parseF, gb.begins (by omega) _ _ A2, if_true]
    exact andThen_some (parseF_mono (Nat.le_max_left f g) p2) (parseF_mono (Nat.le_max_right f g) hy)
  refine Good.build (by omega) (by omega) hb (fun l r hA hs => ?_) (fun j hj e => by omega) (fun _ => core)
  obtain ⟨t', s, H⟩ := core l r hA
  obtain ⟨f, hf⟩ := H 1 (.ok (t', r)) (by simp only [parseF, hs.begins (by omega), Bool.false_eq_true, if_false])
  exact ⟨f, t', hf, s⟩
theorem good_fn {h : Hd} {a : Tm} (hk : h.k = 11) (ok : NodeOk h [a]) (ga : Good a.wk a a.part) : Good ((4, w_fn) :: (2, h.arg) :: (5, s_to) :: a.wk) (.mk h [a]) 0 := by
  refine Good.expr fun l r hA hs => ?_
  obtain ⟨h1, h2, h3⟩ := kind_at hA
  have i0 := isT_at (.inl rfl) hA
  obtain ⟨l1, e1, A1⟩ := getK_at h3
  obtain ⟨l2, e2, A2⟩ := getW_at (.inr rfl) A1
  obtain ⟨f, a', p1, s1⟩ := ga.get 0 (Nat.zero_le _) _ _ A2 hs
  refine ⟨f + 1, .mk (h.at_ (posT l)) [a'], ?_, same1 (Hd.at_same _ _) s1⟩
  have e := hd_eta h 11 0 (posT l) 0 ByteArray.empty h.arg ByteArray.empty hk (ok.op0 (by omega)) (ok.n1 (by omega)) (ok.name0 (by simp [Hd.hasName, hk])) rfl (ok.exn0 (by simp [Hd.hasExn, hk]))
  rw [← e]
  simp only [parseF, i0, show inB [w_let] w_fn = false by decide +kernel, show inB [w_letrec] w_fn = false by decide +kernel, show inB [w_fn] w_fn = true by decide +kernel, Bool.false_eq_true, if_false, if_true]
  exact andThen_some (congrArg some e1) (andThen_some (congrArg some e2) (andThen_some p1 rfl))
theorem good_let {h : Hd} {a b : Tm} (hk : h.k = 12) (ok : NodeOk h [a, b]) (ga : Good a.wk a a.part) (gb : Good b.wk b b.part) : Good ((4, w_let) :: (2, h.name) :: (5, s_eq) :: (a.wk ++ (4, w_in) :: b.wk)) (.mk h [a, b]) 0 := by
  refine Good.expr fun l r hA hs => ?_
  obtain ⟨h1, h2, h3⟩ := kind_at hA
  have i0 := isT_at (.inl rfl) hA
  obtain ⟨l1, e1, A1⟩ := getK_at h3
  obtain ⟨l2, e2, A2⟩ := getW_at (.inr rfl) A1
  obtain ⟨m, A3, A4⟩ := A2.append
  obtain ⟨f, a', p1, s1⟩ := ga.get 0 (Nat.zero_le _) _ _ A3 (stops_at (.inl rfl) (by decide +kernel) A4 0)
  obtain ⟨l4, e4, A5⟩ := getW_at (.inl rfl) A4
  obtain ⟨g, b', p2, s2⟩ := gb.get 0 (Nat.zero_le _) _ _ A5 hs
  refine ⟨max f g + 1, .mk (h.at_ (posT l)) [a', b'], ?_, same2 (Hd.at_same _ _) s1 s2⟩
  have e := hd_eta h 12 0 (posT l) 0 h.name ByteArray.empty ByteArray.empty hk (ok.op0 (by omega)) (ok.n1 (by omega)) rfl (ok.arg0 (by simp [Hd.hasArg, hk])) (ok.exn0 (by simp [Hd.hasExn, hk]))
  rw [← e]
  simp only [parseF, i0, show inB [w_let] w_let = true by decide +kernel, if_true]
  exact andThen_some (congrArg some e1) (andThen_some (congrArg some e2) (andThen_some (parseF_mono (Nat.le_max_left f g) p1) (andThen_some (congrArg some e4) (andThen_some (parseF_mono (Nat.le_max_right f g) p2) rfl))))
theorem good_letrec {h : Hd} {a b : Tm} (hk : h.k = 13) (ok : NodeOk h [a, b]) (ga : Good a.wk a a.part) (gb : Good b.wk b b.part) : Good ((4, w_letrec) :: (2, h.name) :: (2, h.arg) :: (5, s_eq) :: (a.wk ++ (4, w_in) :: b.wk)) (.mk h [a, b]) 0 := by
  refine Good.expr fun l r hA hs => ?_
  obtain ⟨h1, h2, h3⟩ := kind_at hA
  have i0 := isT_at (.inl rfl) hA
  obtain ⟨l0, e0, A0⟩ := getK_at h3
  obtain ⟨l1, e1, A1⟩ := getK_at A0
  obtain ⟨l2, e2, A2⟩ := getW_at (.inr rfl) A1
  obtain ⟨m, A3, A4⟩ := A2.append
  obtain ⟨f, a', p1, s1⟩ := ga.get 0 (Nat.zero_le _) _ _ A3 (stops_at (.inl rfl) (by decide +kernel) A4 0)
  obtain ⟨l4, e4, A5⟩ := getW_at (.inl rfl) A4
  obtain ⟨g, b', p2, s2⟩ := gb.get 0 (Nat.zero_le _) _ _ A5 hs
  refine ⟨max f g + 1, .mk (h.at_ (posT l)) [a', b'], ?_, same2 (Hd.at_same _ _) s1 s2⟩
  have e := hd_eta h 13 0 (posT l) 0 h.name h.arg ByteArray.empty hk (ok.op0 (by omega)) (ok.n1 (by omega)) rfl rfl (ok.exn0 (by simp [Hd.hasExn, hk]))
  rw [← e]
  simp only [parseF, i0, show inB [w_let] w_letrec = false by decide +kernel, show inB [w_letrec] w_letrec = true by decide +kernel, Bool.false_eq_true, if_false, if_true]
  exact andThen_some (congrArg some e0) (andThen_some (congrArg some e1) (andThen_some (congrArg some e2) (andThen_some (parseF_mono (Nat.le_max_left f g) p1) (andThen_some (congrArg some e4) (andThen_some (parseF_mono (Nat.le_max_right f g) p2) rfl)))))
theorem good_if {h : Hd} {a b c : Tm} (hk : h.k = 14) (ok : NodeOk h [a, b, c]) (ga : Good a.wk a a.part) (gb : Good b.wk b b.part) (gc : Good c.wk c c.part) : Good ((4, w_if) :: (a.wk ++ (4, w_then) :: (b.wk ++ (4, w_else) :: c.wk))) (.mk h [a, b, c]) 0 := by
  refine Good.expr fun l r hA hs => ?_
  obtain ⟨h1, h2, h3⟩ := kind_at hA
  have i0 := isT_at (.inl rfl) hA
  obtain ⟨m, A3, A4⟩ := h3.append
  obtain ⟨f, a', p1, s1⟩ := ga.get 0 (Nat.zero_le _) _ _ A3 (stops_at (.inl rfl) (by decide +kernel) A4 0)
  obtain ⟨l4, e4, A5⟩ := getW_at (.inl rfl) A4
  obtain ⟨m', A6, A7⟩ := A5.append
  obtain ⟨g, b', p2, s2⟩ := gb.get 0 (Nat.zero_le _) _ _ A6 (stops_at (.inl rfl) (by decide +kernel) A7 0)
  obtain ⟨l5, e5, A8⟩ := getW_at (.inl rfl) A7
  obtain ⟨j, c', p3, s3⟩ := gc.get 0 (Nat.zero_le _) _ _ A8 hs
  refine ⟨max f (max g j) + 1, .mk (h.at_ (posT l)) [a', b', c'], ?_, same3 (Hd.at_same _ _) s1 s2 s3⟩
  have e := hd_eta h 14 0 (posT l) 0 ByteArray.empty ByteArray.empty ByteArray.empty hk (ok.op0 (by omega)) (ok.n1 (by omega)) (ok.name0 (by simp [Hd.hasName, hk])) (ok.arg0 (by simp [Hd.hasArg, hk])) (ok.exn0 (by simp [Hd.hasExn, hk]))
  rw [← e]
  simp only [parseF, i0, show inB [w_let] w_if = false by decide +kernel, show inB [w_letrec] w_if = false by decide +kernel, show inB [w_fn] w_if = false by decide +kernel, show inB [w_if] w_if = true by decide +kernel, Bool.false_eq_true, if_false, if_true]
  exact andThen_some (parseF_mono (by omega) p1) (andThen_some (congrArg some e4) (andThen_some (parseF_mono (by omega) p2) (andThen_some (congrArg some e5) (andThen_some (parseF_mono (by omega) p3) rfl))))
theorem good_try {h : Hd} {a b : Tm} (hk : h.k = 16) (ok : NodeOk h [a, b]) (ga : Good a.wk a a.part) (gb : Good b.wk b b.part) : Good ((4, w_try) :: (a.wk ++ (4, w_with) :: (3, h.exn) :: (2, h.arg) :: (5, s_to) :: b.wk)) (.mk h [a, b]) 0 := by
  refine Good.expr fun l r hA hs => ?_
  obtain ⟨h1, h2, h3⟩ := kind_at hA
  have i0 := isT_at (.inl rfl) hA
  obtain ⟨m, A3, A4⟩ := h3.append
  obtain ⟨f, a', p1, s1⟩ := ga.get 0 (Nat.zero_le _) _ _ A3 (stops_at (.inl rfl) (by decide +kernel) A4 0)
  obtain ⟨l4, e4, A5⟩ := getW_at (.inl rfl) A4
  obtain ⟨l5, e5, A6⟩ := getK_at A5
  obtain ⟨l6, e6, A7⟩ := getK_at A6
  obtain ⟨l7, e7, A8⟩ := getW_at (.inr rfl) A7
  obtain ⟨g, b', p2, s2⟩ := gb.get 0 (Nat.zero_le _) _ _ A8 hs
  refine ⟨max f g + 1, .mk (h.at_ (posT l)) [a', b'], ?_, same2 (Hd.at_same _ _) s1 s2⟩
  have e := hd_eta h 16 0 (posT l) 0 ByteArray.empty h.arg h.exn hk (ok.op0 (by omega)) (ok.n1 (by omega)) (ok.name0 (by simp [Hd.hasName, hk])) rfl rfl
  rw [← e]
  simp only [parseF, i0, show inB [w_let] w_try = false by decide +kernel, show inB [w_letrec] w_try = false by decide +kernel, show inB [w_fn] w_try = false by decide +kernel, show inB [w_if] w_try = false by decide +kernel, show inB [w_try] w_try = true by decide +kernel, Bool.false_eq_true, if_false, if_true]
  exact andThen_some (parseF_mono (Nat.le_max_left f g) p1) (andThen_some (congrArg some e4) (andThen_some (congrArg some e5) (andThen_some (congrArg some e6) (andThen_some (congrArg some e7) (andThen_some (parseF_mono (Nat.le_max_right f g) p2) rfl)))))
theorem kids0 {l : List Tm} (h : (l.length : Int) = 0) : l = [] := by cases l with | nil => rfl | cons => simp at h; omega
theorem kids1 {l : List Tm} (h : (l.length : Int) = 1) : ∃ a, l = [a] := by
  match l, h with
  | [a], _ => exact ⟨a, rfl⟩
  | [], h => simp at h
  | _ :: _ :: _, h => simp at h; omega
theorem kids2 {l : List Tm} (h : (l.length : Int) = 2) : ∃ a b, l = [a, b] := by
  match l, h with
  | [a, b], _ => exact ⟨a, b, rfl⟩
  | [], h => simp at h
  | [_], h => simp at h
  | _ :: _ :: _ :: _, h => simp at h; omega
theorem kids3 {l : List Tm} (h : (l.length : Int) = 3) : ∃ a b c, l = [a, b, c] := by
  match l, h with
  | [a, b, c], _ => exact ⟨a, b, c, rfl⟩
  | [], h => simp at h
  | [_], h => simp at h
  | [_, _], h => simp at h
  | _ :: _ :: _ :: _ :: _, h => simp at h; omega
theorem kinds_of {h : Hd} {l : List Tm} (ok : NodeOk h l) :
    ((h.k = 1 ∨ h.k = 2) ∧ l = []) ∨ ((h.k = 4 ∨ h.k = 5 ∨ h.k = 6 ∨ h.k = 7 ∨ h.k = 11 ∨ h.k = 15) ∧ ∃ a, l = [a]) ∨ ((h.k = 3 ∨ h.k = 8 ∨ h.k = 9 ∨ h.k = 10 ∨ h.k = 12 ∨ h.k = 13 ∨ h.k = 16) ∧ ∃ a b, l = [a, b]) ∨ (h.k = 14 ∧ ∃ a b c, l = [a, b, c]) := by
  have h1 := ok.ar
  have h2 := ok.len
  unfold karity at h1 h2
  split at h2
  · exact .inl ⟨by assumption, kids0 h2⟩
  · split at h2
    · exact .inr (.inl ⟨by assumption, kids1 h2⟩)
    · split at h2
      · exact .inr (.inr (.inl ⟨by assumption, kids2 h2⟩))
      · split at h2
        · exact .inr (.inr (.inr ⟨by assumption, kids3 h2⟩))
        · omega
theorem op_cases {h : Hd} {l : List Tm} (ok : NodeOk h l) (h9 : h.k = 9) : h.op = 1 ∨ h.op = 2 ∨ h.op = 3 ∨ h.op = 4 ∨ h.op = 5 := by have := ok.op9 h9; omega
theorem good_words (t : Tm) : (∀ u, u ∈ t.all → u.node = true) → Good t.wk t t.part := by
  induction t using Tm.ind with
  | h x l ih =>
    intro hn
    have ok := node_ok (hn _ (Tm.self_all _))
    have ih : ∀ i t, l[i]? = some t → Good t.wk t t.part := fun i t g => ih t (List.mem_of_getElem? g) fun u hu => hn u (Tm.mem_all.2 (.inr ⟨t, List.mem_of_getElem? g, hu⟩))
    have hkw : ∀ i t pt, l[i]? = some t → kidW (l.map Tm.part) (Tm.wks l) i pt = t.kw pt := fun i t pt g => kidW_at g pt
    have hkw0 : ∀ i t, l[i]? = some t → kidW (l.map Tm.part) (Tm.wks l) i 0 = t.wk := fun i t g => (kidW_at g 0).trans t.kw0
    show Good (layW x (kidW (l.map Tm.part) (Tm.wks l))) (.mk x l) x.part
    generalize kidW (l.map Tm.part) (Tm.wks l) = K at *
    rcases kinds_of ok with ⟨hk, rfl⟩ | ⟨hk, a, rfl⟩ | ⟨hk, a, b, rfl⟩ | ⟨hk, a, b, c, rfl⟩
    · rcases hk with hk | hk
      · have e : layW x K = [(1, bs (Lib.decDigits x.n.toNat))] := by simp [layW, hk]
        rw [e, show x.part = 6 by simp [Hd.part, hk]]
        exact good_num hk ok
      · have e : layW x K = [(2, x.name)] := by simp [layW, hk]
        rw [e, show x.part = 6 by simp [Hd.part, hk]]
        exact good_var hk ok
    · have ga := ih 0 a rfl
      rcases hk with hk | hk | hk | hk | hk | hk
      · have e : layW x K = preW x.k :: a.kw 6 := by simp [layW, hk, hkw 0 a 6 rfl]
        rw [e, show x.part = 6 by simp [Hd.part, hk]]
        exact good_pre (.inl hk) ok (ga.kid 6 (by omega))
      · have e : layW x K = preW x.k :: a.kw 6 := by simp [layW, hk, hkw 0 a 6 rfl]
        rw [e, show x.part = 6 by simp [Hd.part, hk]]
        exact good_pre (.inr (.inl hk)) ok (ga.kid 6 (by omega))
      · have e : layW x K = preW x.k :: a.kw 6 := by simp [layW, hk, hkw 0 a 6 rfl]
        rw [e, show x.part = 6 by simp [Hd.part, hk]]
        exact good_pre (.inr (.inr (.inl hk))) ok (ga.kid 6 (by omega))
      · have e : layW x K = preW x.k :: a.kw 6 := by simp [layW, hk, hkw 0 a 6 rfl]
        rw [e, show x.part = 6 by simp [Hd.part, hk]]
        exact good_pre (.inr (.inr (.inr hk))) ok (ga.kid 6 (by omega))
      · have e : layW x K = (4, w_fn) :: (2, x.arg) :: (5, s_to) :: a.wk := by simp [layW, hk, hkw0 0 a rfl]
        rw [e, show x.part = 0 by simp [Hd.part, hk]]
        exact good_fn hk ok ga
      · have e : layW x K = (4, w_raise) :: (3, x.exn) :: a.kw 6 := by simp [layW, hk, hkw 0 a 6 rfl]
        rw [e, show x.part = 6 by simp [Hd.part, hk]]
        exact good_raise hk ok (ga.kid 6 (by omega))
    · have ga := ih 0 a rfl
      have gb := ih 1 b rfl
      rcases hk with hk | hk | hk | hk | hk | hk | hk
      · have e : layW x K = (5, s_open) :: (a.wk ++ (5, s_comma) :: (b.wk ++ [(5, s_shut)])) := by simp [layW, hk, hkw0 0 a rfl, hkw0 1 b rfl]
        rw [e, show x.part = 6 by simp [Hd.part, hk]]
        exact good_pair hk ok ga gb
      · have e : layW x K = a.kw 2 ++ (5, s_set) :: b.kw 2 := by simp [layW, hk, hkw 0 a 2 rfl, hkw 1 b 2 rfl]
        rw [e, show x.part = 1 by simp [Hd.part, hk]]
        refine good_one (k := 0) (.inl rfl) (by decide +kernel) (fun a' b' s1 s2 => ?_) (ga.kid 2 (by omega)) (gb.kid 2 (by omega))
        have e := hd_eta x 8 0 a'.head.pos 0 ByteArray.empty ByteArray.empty ByteArray.empty hk (ok.op0 (by omega)) (ok.n1 (by omega)) (ok.name0 (by simp [Hd.hasName, hk])) (ok.arg0 (by simp [Hd.hasArg, hk])) (ok.exn0 (by simp [Hd.hasExn, hk]))
        unfold putT
        rw [if_pos rfl]
        show (Tm.mk ⟨8, 0, a'.head.pos, 0, ByteArray.empty, ByteArray.empty, ByteArray.empty⟩ [a', b']).same _ = true
        rw [e]
        exact same2 (Hd.at_same _ _) s1 s2
      · rcases op_cases ok hk with ho | ho | ho | ho | ho
        · have e : layW x K = a.kw 3 ++ (5, s_plus) :: b.kw 4 := by simp [layW, hk, ho, looseT, opS, hkw 0 a 3 rfl, hkw 1 b 4 rfl]
          rw [e, show x.part = 3 by simp [Hd.part, hk, ho, looseT]]
          exact good_left (k := 2) (.inl rfl) (by decide +kernel) hk (by rw [ho]; decide +kernel) ok (ga.kid 3 (by omega)) (gb.kid 4 (by omega))
        · have e : layW x K = a.kw 3 ++ (5, s_minus) :: b.kw 4 := by simp [layW, hk, ho, looseT, opS, hkw 0 a 3 rfl, hkw 1 b 4 rfl]
          rw [e, show x.part = 3 by simp [Hd.part, hk, ho, looseT]]
          exact good_left (k := 2) (.inl rfl) (by decide +kernel) hk (by rw [ho]; decide +kernel) ok (ga.kid 3 (by omega)) (gb.kid 4 (by omega))
        · have e : layW x K = a.kw 4 ++ (5, s_star) :: b.kw 5 := by simp [layW, hk, ho, looseT, opS, hkw 0 a 4 rfl, hkw 1 b 5 rfl]
          rw [e, show x.part = 4 by simp [Hd.part, hk, ho, looseT]]
          exact good_left (k := 3) (.inr rfl) (by decide +kernel) hk (by rw [ho]; decide +kernel) ok (ga.kid 4 (by omega)) (gb.kid 5 (by omega))
        · have e : layW x K = a.kw 3 ++ (5, s_less) :: b.kw 3 := by simp [layW, hk, ho, looseT, opS, hkw 0 a 3 rfl, hkw 1 b 3 rfl]
          rw [e, show x.part = 2 by simp [Hd.part, hk, ho, looseT]]
          exact good_one (k := 1) (.inr rfl) (by decide +kernel) (fun a' b' s1 s2 => put_at (by decide +kernel) hk (by rw [ho]; decide +kernel) ok s1 s2) (ga.kid 3 (by omega)) (gb.kid 3 (by omega))
        · have e : layW x K = a.kw 3 ++ (5, s_eq) :: b.kw 3 := by simp [layW, hk, ho, looseT, opS, hkw 0 a 3 rfl, hkw 1 b 3 rfl]
          rw [e, show x.part = 2 by simp [Hd.part, hk, ho, looseT]]
          exact good_one (k := 1) (.inr rfl) (by decide +kernel) (fun a' b' s1 s2 => put_at (by decide +kernel) hk (by rw [ho]; decide +kernel) ok s1 s2) (ga.kid 3 (by omega)) (gb.kid 3 (by omega))
      · have e : layW x K = a.kw 5 ++ b.kw 6 := by simp [layW, hk, hkw 0 a 5 rfl, hkw 1 b 6 rfl]
        rw [e, show x.part = 5 by simp [Hd.part, hk]]
        exact good_app hk ok (ga.kid 5 (by omega)) (gb.kid 6 (by omega))
      · have e : layW x K = (4, w_let) :: (2, x.name) :: (5, s_eq) :: (a.wk ++ (4, w_in) :: b.wk) := by simp [layW, hk, hkw0 0 a rfl, hkw0 1 b rfl]
        rw [e, show x.part = 0 by simp [Hd.part, hk]]
        exact good_let hk ok ga gb
      · have e : layW x K = (4, w_letrec) :: (2, x.name) :: (2, x.arg) :: (5, s_eq) :: (a.wk ++ (4, w_in) :: b.wk) := by simp [layW, hk, hkw0 0 a rfl, hkw0 1 b rfl]
        rw [e, show x.part = 0 by simp [Hd.part, hk]]
        exact good_letrec hk ok ga gb
      · have e : layW x K = (4, w_try) :: (a.wk ++ (4, w_with) :: (3, x.exn) :: (2, x.arg) :: (5, s_to) :: b.wk) := by simp [layW, hk, hkw0 0 a rfl, hkw0 1 b rfl]
        rw [e, show x.part = 0 by simp [Hd.part, hk]]
        exact good_try hk ok ga gb
    · have e : layW x K = (4, w_if) :: (a.wk ++ (4, w_then) :: (b.wk ++ (4, w_else) :: c.wk)) := by simp [layW, hk, hkw0 0 a rfl, hkw0 1 b rfl, hkw0 2 c rfl]
      rw [e, show x.part = 0 by simp [Hd.part, hk]]
      exact good_if hk ok (ih 0 a rfl) (ih 1 b rfl) (ih 2 c rfl)
def joinW : List Wk → List UInt8
  | [] => []
  | [w] => w.2.data.toList
  | w :: l => w.2.data.toList ++ 32 :: joinW l
theorem joinW_cons (w : Wk) {l : List Wk} (h : l ≠ []) : joinW (w :: l) = w.2.data.toList ++ 32 :: joinW l := by
  cases l with
  | nil => exact absurd rfl h
  | cons a l => rfl
theorem joinW_append {a b : List Wk} (ha : a ≠ []) (hb : b ≠ []) : joinW (a ++ b) = joinW a ++ 32 :: joinW b := by
  induction a with
  | nil => exact absurd rfl ha
  | cons w a ih =>
    cases a with
    | nil => exact joinW_cons w hb
    | cons v a =>
      rw [List.cons_append, joinW_cons w (by simp), ih (by simp), joinW_cons w (by simp)]
      simp
def WkOk (w : Wk) : Prop := ∃ c r, w.2.data.toList = c :: r ∧ tokAt (c :: r) = some ((c :: r).length, w.1) ∧ (c :: r).length ≤ 16
theorem lex_words (ws : List Wk) : ∀ p, (∀ w, w ∈ ws → WkOk w) → ∃ (q : List Tok) (e : Nat), lexL p (joinW ws) = .ok (q ++ [⟨6, ByteArray.empty, e⟩]) ∧ q.map (fun t => (t.k, t.text)) = ws := by
  induction ws with
  | nil => intro p _; exact ⟨[], p, rfl, rfl⟩
  | cons w l ih =>
    intro p h
    obtain ⟨c, r, hw, ht, -⟩ := h w (by simp)
    obtain ⟨c', r', e', hc'⟩ := tokAt_front ht
    cases e'
    have hb : bs (c :: r) = w.2 := by rw [← hw]; exact (bs_of w.2).symm
    cases l with
    | nil =>
      have e : joinW [w] = c :: r := hw
      rw [e, lexL_tok hc' p ht, List.drop_length, List.take_length, hb, lexL_nil]
      exact ⟨[⟨w.1, w.2, p⟩], p + (c :: r).length, rfl, by simp⟩
    | cons v l =>
      obtain ⟨q, e, h1, h2⟩ := ih (p + (c :: r).length + 1) (fun w hw => h w (by simp [hw]))
      have ej : joinW (w :: v :: l) = c :: r ++ 32 :: joinW (v :: l) := by rw [joinW_cons w (by simp), hw]
      have ht2 : tokAt (c :: (r ++ 32 :: joinW (v :: l))) = some ((c :: r).length, w.1) := (tokAt_append c r (Stop.blank (by decide) _)).trans ht
      rw [ej, List.cons_append, lexL_tok hc' p ht2]
      have hd : (c :: (r ++ 32 :: joinW (v :: l))).drop (c :: r).length = 32 :: joinW (v :: l) := List.drop_left' (l₁ := c :: r) rfl
      have hk : (c :: (r ++ 32 :: joinW (v :: l))).take (c :: r).length = c :: r := List.take_left' (l₁ := c :: r) rfl
      rw [hd, hk, hb, lexL_blank (by decide), h1]
      exact ⟨⟨w.1, w.2, p⟩ :: q, e, rfl, by simp [h2]⟩
theorem span_all {cl : List Int} {l : List UInt8} (h : ∀ c, c ∈ l → cl.contains (clsU c) = true) : spanU cl l = l.length := by
  unfold spanU
  rw [takeWhile_all h]
theorem shapely_open {x : ByteArray} {f : Int} (h : shapely (il x) f = true) : ∃ c r, x.data.toList = c :: r ∧ clsU c = f ∧ (c :: r).length ≤ 16 ∧ ∀ b, b ∈ c :: r → ([2, 3, 4] : List Int).contains (clsU b) = true := by
  unfold shapely at h
  cases hx : x.data.toList with
  | nil => unfold il at h; rw [hx] at h; simp at h
  | cons c r =>
    unfold il at h
    rw [hx] at h
    simp only [List.map_cons, Bool.and_eq_true, beq_iff_eq, List.all_eq_true, decide_eq_true_eq] at h
    refine ⟨c, r, rfl, h.1.2, by simpa using h.1.1, fun b hb => ?_⟩
    have := h.2 ((b.toNat : Nat) : Int) (by rcases List.mem_cons.1 hb with rfl | hb; simp; exact List.mem_cons_of_mem _ (List.mem_map.2 ⟨b, hb, rfl⟩))
    unfold inner at this
    simp only [Bool.and_eq_true, decide_eq_true_eq] at this
    have hc : clsU b = 2 ∨ clsU b = 3 ∨ clsU b = 4 := by unfold clsU; omega
    rcases hc with hc | hc | hc <;> rw [hc] <;> rfl
theorem ok_name {x : ByteArray} (h : isName x = true) : WkOk (2, x) := by
  have h0 := h
  unfold isName at h
  simp only [Bool.and_eq_true, beq_iff_eq] at h
  obtain ⟨c, r, hx, hc, h16, hall⟩ := shapely_open h.1
  refine ⟨c, r, hx, ?_, h16⟩
  have hb : bs (c :: r) = x := by rw [← hx]; exact (bs_of x).symm
  unfold tokAt
  simp only
  rw [if_neg (by omega), if_pos (.inl hc), span_all hall, List.take_length, hb, if_neg (by omega), if_pos h0]
theorem ok_exn {x : ByteArray} (h : isExn x = true) : WkOk (3, x) := by
  have h0 := h
  unfold isExn at h
  obtain ⟨c, r, hx, hc, h16, hall⟩ := shapely_open h
  refine ⟨c, r, hx, ?_, h16⟩
  have hb : bs (c :: r) = x := by rw [← hx]; exact (bs_of x).symm
  have hk : kwd x = 0 := by
    unfold kwd
    rw [hx]
    refine placeOf_none (fun y hy e => ?_) 1
    subst e
    have hall : keyw.all (fun x => match x with | [] => true | c :: _ => clsU c != 4) = true := by decide +kernel
    have := List.all_eq_true.1 hall _ hy
    simp [hc] at this
  have hn : isName x = false := by
    cases hn : isName x with
    | false => rfl
    | true =>
      unfold isName at hn
      simp only [Bool.and_eq_true] at hn
      obtain ⟨c', r', hx', hc', -, -⟩ := shapely_open hn.1
      rw [hx] at hx'
      cases hx'
      omega
  unfold tokAt
  simp only
  rw [if_neg (by omega), if_pos (.inr hc), span_all hall, List.take_length, hb, hk, hn, if_neg (by omega), if_neg (by simp), if_pos h0]
theorem ok_num {n : Int} (h0 : 0 ≤ n) (h1 : n ≤ 2147483647) : WkOk (1, bs (Lib.decDigits n.toNat)) := by
  have hd := decDigits_back n.toNat
  cases hx : Lib.decDigits n.toNat with
  | nil => exact absurd hx (decDigits_ne _)
  | cons c r =>
    rw [hx] at hd
    have hall : ∀ b, b ∈ c :: r → ([2] : List Int).contains (clsU b) = true := fun b hb => by
      have := List.all_eq_true.1 hd.1 b hb
      rw [isD_cls] at this
      simpa using this
    have hc : clsU c = 2 := by have := hall c (by simp); simpa using this
    have h10 : (c :: r).length ≤ 10 := by
      rcases Nat.lt_or_ge 10 (c :: r).length with h | h
      · have h2 := okN_long h
        rw [← hx, okN_digits] at h2
        simp at h2; omega
      · exact h
    refine ⟨c, r, bs_list _, ?_, by omega⟩
    unfold tokAt
    simp only
    rw [if_pos hc, span_all hall, List.take_length]
    have : numB (bs (c :: r)) = true := by
      unfold numB
      rw [bs_list, ← hx, okN_digits]
      simp; omega
    rw [this, if_pos rfl]
def constW : List Wk := [((4 : Int), w_let), (4, w_letrec), (4, w_fn), (4, w_if), (4, w_try), (4, w_in), (4, w_then), (4, w_else), (4, w_with), (4, w_raise), (4, w_fst), (4, w_snd), (4, w_ref), (4, w_exn), (5, s_eq), (5, s_to), (5, s_set), (5, s_plus), (5, s_minus), (5, s_star), (5, s_less), (5, s_bang), (5, s_open), (5, s_shut), (5, s_comma), (5, s_semi)]
theorem ok_const (w : Wk) (h : w ∈ constW) : WkOk w := by
  have key : constW.all (fun w => (!w.2.data.toList.isEmpty && (decide (tokAt w.2.data.toList = some (w.2.data.toList.length, w.1)) && decide (w.2.data.toList.length ≤ 16)))) = true := by decide +kernel
  have := List.all_eq_true.1 key w h
  rw [Bool.and_eq_true, Bool.and_eq_true, decide_eq_true_eq, decide_eq_true_eq] at this
  obtain ⟨h1, h2, h3⟩ := this
  cases hx : w.2.data.toList with
  | nil => rw [hx] at h1; cases h1
  | cons c r => rw [hx] at h2 h3; exact ⟨c, r, hx, h2, h3⟩
theorem lay_ok {x : Hd} {l : List Tm} (ok : NodeOk x l) {K : Nat → Nat → List Wk} (hK : ∀ i pt w, w ∈ K i pt → WkOk w) : ∀ w, w ∈ layW x K → WkOk w := by
  intro w hw
  have c : ∀ w, w ∈ constW → WkOk w := ok_const
  rcases kinds_of ok with ⟨hk, -⟩ | ⟨hk, -⟩ | ⟨hk, -⟩ | ⟨hk, -⟩
  · rcases hk with hk | hk
    · rw [show layW x K = [(1, bs (Lib.decDigits x.n.toNat))] by simp [layW, hk]] at hw
      simp at hw; subst hw; exact ok_num ok.n0.1 ok.n0.2
    · rw [show layW x K = [(2, x.name)] by simp [layW, hk]] at hw
      simp at hw; subst hw; exact ok_name (ok.name1 (by simp [Hd.hasName, hk]))
  · rcases hk with hk | hk | hk | hk | hk | hk
    · rw [show layW x K = (4, w_fst) :: K 0 6 by simp [layW, preW, hk]] at hw
      rcases List.mem_cons.1 hw with rfl | hw
      · exact c _ (by simp [constW])
      · exact hK _ _ _ hw
    · rw [show layW x K = (4, w_snd) :: K 0 6 by simp [layW, preW, hk]] at hw
      rcases List.mem_cons.1 hw with rfl | hw
      · exact c _ (by simp [constW])
      · exact hK _ _ _ hw
    · rw [show layW x K = (4, w_ref) :: K 0 6 by simp [layW, preW, hk]] at hw
      rcases List.mem_cons.1 hw with rfl | hw
      · exact c _ (by simp [constW])
      · exact hK _ _ _ hw
    · rw [show layW x K = (5, s_bang) :: K 0 6 by simp [layW, preW, hk]] at hw
      rcases List.mem_cons.1 hw with rfl | hw
      · exact c _ (by simp [constW])
      · exact hK _ _ _ hw
    · rw [show layW x K = (4, w_fn) :: (2, x.arg) :: (5, s_to) :: K 0 0 by simp [layW, hk]] at hw
      simp only [List.mem_cons, List.mem_append, List.not_mem_nil, or_false] at hw
      rcases hw with rfl | rfl | rfl | hw
      · exact c _ (by simp [constW])
      · exact ok_name (ok.arg1 (by simp [Hd.hasArg, hk]))
      · exact c _ (by simp [constW])
      · exact hK _ _ _ hw
    · rw [show layW x K = (4, w_raise) :: (3, x.exn) :: K 0 6 by simp [layW, hk]] at hw
      simp only [List.mem_cons, List.mem_append, List.not_mem_nil, or_false] at hw
      rcases hw with rfl | rfl | hw
      · exact c _ (by simp [constW])
      · exact ok_exn (ok.exn1 (by simp [Hd.hasExn, hk]))
      · exact hK _ _ _ hw
  · rcases hk with hk | hk | hk | hk | hk | hk | hk
    · rw [show layW x K = (5, s_open) :: (K 0 0 ++ (5, s_comma) :: (K 1 0 ++ [(5, s_shut)])) by simp [layW, hk]] at hw
      simp only [List.mem_cons, List.mem_append, List.not_mem_nil, or_false] at hw
      rcases hw with rfl | hw | rfl | hw | rfl
      · exact c _ (by simp [constW])
      · exact hK _ _ _ hw
      · exact c _ (by simp [constW])
      · exact hK _ _ _ hw
      · exact c _ (by simp [constW])
    · rw [show layW x K = K 0 2 ++ (5, s_set) :: K 1 2 by simp [layW, hk]] at hw
      simp only [List.mem_cons, List.mem_append, List.not_mem_nil, or_false] at hw
      rcases hw with hw | rfl | hw
      · exact hK _ _ _ hw
      · exact c _ (by simp [constW])
      · exact hK _ _ _ hw
    · rw [show layW x K = K 0 (if looseT x.op = 2 then 3 else looseT x.op) ++ (5, opS x.op) :: K 1 (looseT x.op + 1) by simp [layW, hk]] at hw
      simp only [List.mem_cons, List.mem_append] at hw
      rcases hw with hw | rfl | hw
      · exact hK _ _ _ hw
      · rcases op_cases ok hk with ho | ho | ho | ho | ho <;> rw [ho] <;> exact c _ (by simp [constW, opS])
      · exact hK _ _ _ hw
    · rw [show layW x K = K 0 5 ++ K 1 6 by simp [layW, hk]] at hw
      simp only [List.mem_cons, List.mem_append, List.not_mem_nil, or_false] at hw
      rcases hw with hw | hw
      · exact hK _ _ _ hw
      · exact hK _ _ _ hw
    · rw [show layW x K = (4, w_let) :: (2, x.name) :: (5, s_eq) :: (K 0 0 ++ (4, w_in) :: K 1 0) by simp [layW, hk]] at hw
      simp only [List.mem_cons, List.mem_append, List.not_mem_nil, or_false] at hw
      rcases hw with rfl | rfl | rfl | hw | rfl | hw
      · exact c _ (by simp [constW])
      · exact ok_name (ok.name1 (by simp [Hd.hasName, hk]))
      · exact c _ (by simp [constW])
      · exact hK _ _ _ hw
      · exact c _ (by simp [constW])
      · exact hK _ _ _ hw
    · rw [show layW x K = (4, w_letrec) :: (2, x.name) :: (2, x.arg) :: (5, s_eq) :: (K 0 0 ++ (4, w_in) :: K 1 0) by simp [layW, hk]] at hw
      simp only [List.mem_cons, List.mem_append, List.not_mem_nil, or_false] at hw
      rcases hw with rfl | rfl | rfl | rfl | hw | rfl | hw
      · exact c _ (by simp [constW])
      · exact ok_name (ok.name1 (by simp [Hd.hasName, hk]))
      · exact ok_name (ok.arg1 (by simp [Hd.hasArg, hk]))
      · exact c _ (by simp [constW])
      · exact hK _ _ _ hw
      · exact c _ (by simp [constW])
      · exact hK _ _ _ hw
    · rw [show layW x K = (4, w_try) :: (K 0 0 ++ (4, w_with) :: (3, x.exn) :: (2, x.arg) :: (5, s_to) :: K 1 0) by simp [layW, hk]] at hw
      simp only [List.mem_cons, List.mem_append, List.not_mem_nil, or_false] at hw
      rcases hw with rfl | hw | rfl | rfl | rfl | rfl | hw
      · exact c _ (by simp [constW])
      · exact hK _ _ _ hw
      · exact c _ (by simp [constW])
      · exact ok_exn (ok.exn1 (by simp [Hd.hasExn, hk]))
      · exact ok_name (ok.arg1 (by simp [Hd.hasArg, hk]))
      · exact c _ (by simp [constW])
      · exact hK _ _ _ hw
  · rw [show layW x K = (4, w_if) :: (K 0 0 ++ (4, w_then) :: (K 1 0 ++ (4, w_else) :: K 2 0)) by simp [layW, hk]] at hw
    simp only [List.mem_cons, List.mem_append, List.not_mem_nil, or_false] at hw
    rcases hw with rfl | hw | rfl | hw | rfl | hw
    · exact c _ (by simp [constW])
    · exact hK _ _ _ hw
    · exact c _ (by simp [constW])
    · exact hK _ _ _ hw
    · exact c _ (by simp [constW])
    · exact hK _ _ _ hw
theorem words_ok (t : Tm) : (∀ u, u ∈ t.all → u.node = true) → ∀ w, w ∈ t.wk → WkOk w := by
  induction t using Tm.ind with
  | h x l ih =>
    intro hn
    refine lay_ok (node_ok (hn _ (Tm.self_all _))) (K := kidW (l.map Tm.part) (Tm.wks l)) fun i pt w hw => ?_
    have hin : ∀ w, w ∈ (Tm.wks l).getD i [] → WkOk w := fun w hw => by
      rw [Tm.wks_eq] at hw
      cases g : l[i]? with
      | none => simp [List.getD, g] at hw
      | some t =>
        simp [List.getD, g] at hw
        exact ih t (List.mem_of_getElem? g) (fun u hu => hn u (Tm.mem_all.2 (.inr ⟨t, List.mem_of_getElem? g, hu⟩))) w hw
    unfold kidW at hw
    split at hw
    · simp only [List.mem_cons, List.mem_append, List.not_mem_nil, or_false] at hw
      rcases hw with rfl | hw | rfl
      · exact ok_const _ (by simp [constW])
      · exact hin w hw
      · exact ok_const _ (by simp [constW])
    · exact hin w hw
theorem wk_3 {h : Hd} {a b : Tm} (hk : h.k = 3) : (Tm.mk h [a, b]).wk = (5, s_open) :: (a.wk ++ (5, s_comma) :: (b.wk ++ [(5, s_shut)])) := by
  show layW h (kidW _ _) = _
  have e0 : kidW ([a, b].map Tm.part) (Tm.wks [a, b]) 0 0 = a.wk := (kidW_at (l := [a, b]) (i := 0) (t := a) rfl 0).trans a.kw0
  have e1 : kidW ([a, b].map Tm.part) (Tm.wks [a, b]) 1 0 = b.wk := (kidW_at (l := [a, b]) (i := 1) (t := b) rfl 0).trans b.kw0
  generalize kidW ([a, b].map Tm.part) (Tm.wks [a, b]) = K at *
  simp [layW, hk, e0, e1]
theorem wk_8 {h : Hd} {a b : Tm} (hk : h.k = 8) : (Tm.mk h [a, b]).wk = a.kw 2 ++ (5, s_set) :: b.kw 2 := by
  show layW h (kidW _ _) = _
  have e0 : kidW ([a, b].map Tm.part) (Tm.wks [a, b]) 0 2 = a.kw 2 := kidW_at (l := [a, b]) (i := 0) (t := a) rfl 2
  have e1 : kidW ([a, b].map Tm.part) (Tm.wks [a, b]) 1 2 = b.kw 2 := kidW_at (l := [a, b]) (i := 1) (t := b) rfl 2
  generalize kidW ([a, b].map Tm.part) (Tm.wks [a, b]) = K at *
  simp [layW, hk, e0, e1]
theorem wk_10 {h : Hd} {a b : Tm} (hk : h.k = 10) : (Tm.mk h [a, b]).wk = a.kw 5 ++ b.kw 6 := by
  show layW h (kidW _ _) = _
  have e0 : kidW ([a, b].map Tm.part) (Tm.wks [a, b]) 0 5 = a.kw 5 := kidW_at (l := [a, b]) (i := 0) (t := a) rfl 5
  have e1 : kidW ([a, b].map Tm.part) (Tm.wks [a, b]) 1 6 = b.kw 6 := kidW_at (l := [a, b]) (i := 1) (t := b) rfl 6
  generalize kidW ([a, b].map Tm.part) (Tm.wks [a, b]) = K at *
  simp [layW, hk, e0, e1]
theorem wk_11 {h : Hd} {a : Tm} (hk : h.k = 11) : (Tm.mk h [a]).wk = (4, w_fn) :: (2, h.arg) :: (5, s_to) :: a.wk := by
  show layW h (kidW _ _) = _
  have e0 : kidW ([a].map Tm.part) (Tm.wks [a]) 0 0 = a.wk := (kidW_at (l := [a]) (i := 0) (t := a) rfl 0).trans a.kw0
  generalize kidW ([a].map Tm.part) (Tm.wks [a]) = K at *
  simp [layW, hk, e0]
theorem wk_12 {h : Hd} {a b : Tm} (hk : h.k = 12) : (Tm.mk h [a, b]).wk = (4, w_let) :: (2, h.name) :: (5, s_eq) :: (a.wk ++ (4, w_in) :: b.wk) := by
  show layW h (kidW _ _) = _
  have e0 : kidW ([a, b].map Tm.part) (Tm.wks [a, b]) 0 0 = a.wk := (kidW_at (l := [a, b]) (i := 0) (t := a) rfl 0).trans a.kw0
  have e1 : kidW ([a, b].map Tm.part) (Tm.wks [a, b]) 1 0 = b.wk := (kidW_at (l := [a, b]) (i := 1) (t := b) rfl 0).trans b.kw0
  generalize kidW ([a, b].map Tm.part) (Tm.wks [a, b]) = K at *
  simp [layW, hk, e0, e1]
theorem wk_13 {h : Hd} {a b : Tm} (hk : h.k = 13) : (Tm.mk h [a, b]).wk = (4, w_letrec) :: (2, h.name) :: (2, h.arg) :: (5, s_eq) :: (a.wk ++ (4, w_in) :: b.wk) := by
  show layW h (kidW _ _) = _
  have e0 : kidW ([a, b].map Tm.part) (Tm.wks [a, b]) 0 0 = a.wk := (kidW_at (l := [a, b]) (i := 0) (t := a) rfl 0).trans a.kw0
  have e1 : kidW ([a, b].map Tm.part) (Tm.wks [a, b]) 1 0 = b.wk := (kidW_at (l := [a, b]) (i := 1) (t := b) rfl 0).trans b.kw0
  generalize kidW ([a, b].map Tm.part) (Tm.wks [a, b]) = K at *
  simp [layW, hk, e0, e1]
theorem wk_14 {h : Hd} {a b c : Tm} (hk : h.k = 14) : (Tm.mk h [a, b, c]).wk = (4, w_if) :: (a.wk ++ (4, w_then) :: (b.wk ++ (4, w_else) :: c.wk)) := by
  show layW h (kidW _ _) = _
  have e0 : kidW ([a, b, c].map Tm.part) (Tm.wks [a, b, c]) 0 0 = a.wk := (kidW_at (l := [a, b, c]) (i := 0) (t := a) rfl 0).trans a.kw0
  have e1 : kidW ([a, b, c].map Tm.part) (Tm.wks [a, b, c]) 1 0 = b.wk := (kidW_at (l := [a, b, c]) (i := 1) (t := b) rfl 0).trans b.kw0
  have e2 : kidW ([a, b, c].map Tm.part) (Tm.wks [a, b, c]) 2 0 = c.wk := (kidW_at (l := [a, b, c]) (i := 2) (t := c) rfl 0).trans c.kw0
  generalize kidW ([a, b, c].map Tm.part) (Tm.wks [a, b, c]) = K at *
  simp [layW, hk, e0, e1, e2]
theorem wk_15 {h : Hd} {a : Tm} (hk : h.k = 15) : (Tm.mk h [a]).wk = (4, w_raise) :: (3, h.exn) :: a.kw 6 := by
  show layW h (kidW _ _) = _
  have e0 : kidW ([a].map Tm.part) (Tm.wks [a]) 0 6 = a.kw 6 := kidW_at (l := [a]) (i := 0) (t := a) rfl 6
  generalize kidW ([a].map Tm.part) (Tm.wks [a]) = K at *
  simp [layW, hk, e0]
theorem wk_16 {h : Hd} {a b : Tm} (hk : h.k = 16) : (Tm.mk h [a, b]).wk = (4, w_try) :: (a.wk ++ (4, w_with) :: (3, h.exn) :: (2, h.arg) :: (5, s_to) :: b.wk) := by
  show layW h (kidW _ _) = _
  have e0 : kidW ([a, b].map Tm.part) (Tm.wks [a, b]) 0 0 = a.wk := (kidW_at (l := [a, b]) (i := 0) (t := a) rfl 0).trans a.kw0
  have e1 : kidW ([a, b].map Tm.part) (Tm.wks [a, b]) 1 0 = b.wk := (kidW_at (l := [a, b]) (i := 1) (t := b) rfl 0).trans b.kw0
  generalize kidW ([a, b].map Tm.part) (Tm.wks [a, b]) = K at *
  simp [layW, hk, e0, e1]
theorem wk_9 {h : Hd} {a b : Tm} (hk : h.k = 9) : (Tm.mk h [a, b]).wk = a.kw (if looseT h.op = 2 then 3 else looseT h.op) ++ (5, opS h.op) :: b.kw (looseT h.op + 1) := by
  show layW h (kidW _ _) = _
  have e0 : kidW ([a, b].map Tm.part) (Tm.wks [a, b]) 0 (if looseT h.op = 2 then 3 else looseT h.op) = a.kw (if looseT h.op = 2 then 3 else looseT h.op) := kidW_at (l := [a, b]) (i := 0) (t := a) rfl _
  have e1 : kidW ([a, b].map Tm.part) (Tm.wks [a, b]) 1 (looseT h.op + 1) = b.kw (looseT h.op + 1) := kidW_at (l := [a, b]) (i := 1) (t := b) rfl _
  generalize kidW ([a, b].map Tm.part) (Tm.wks [a, b]) = K at *
  rw [show layW h K = K 0 (if looseT h.op = 2 then 3 else looseT h.op) ++ (5, opS h.op) :: K 1 (looseT h.op + 1) by simp [layW, hk], e0, e1]
theorem wk_pre {h : Hd} {a : Tm} (hk : h.k = 4 ∨ h.k = 5 ∨ h.k = 6 ∨ h.k = 7) : (Tm.mk h [a]).wk = preW h.k :: a.kw 6 := by
  show layW h (kidW _ _) = _
  have e0 : kidW ([a].map Tm.part) (Tm.wks [a]) 0 6 = a.kw 6 := kidW_at (l := [a]) (i := 0) (t := a) rfl 6
  generalize kidW ([a].map Tm.part) (Tm.wks [a]) = K at *
  rcases hk with hk | hk | hk | hk <;> simp [layW, hk, e0]
theorem wk_1 {h : Hd} {l : List Tm} (hk : h.k = 1) : (Tm.mk h l).wk = [(1, bs (Lib.decDigits h.n.toNat))] := by
  show layW h (kidW _ _) = _
  simp [layW, hk]
theorem wk_2 {h : Hd} {l : List Tm} (hk : h.k = 2) : (Tm.mk h l).wk = [(2, h.name)] := by
  show layW h (kidW _ _) = _
  simp [layW, hk]
theorem kw_two (t : Tm) (p : Nat) : (t.kw p).length ≤ t.wk.length + 2 := by
  unfold Tm.kw
  split
  · simp
  · omega
end Go.Proofs.YtaioeailgknfjaaGreatDoor
