/- Part 6 of the proof: PureP, PureP2, PureH, PureH2; no condition of ours. -/
import Derived.Test.YtaioeailgknfjaaGreatDoorPku5
set_option linter.unusedVariables false
set_option linter.unusedSimpArgs false
namespace Go.Proofs.YtaioeailgknfjaaGreatDoor
open Go
def isT (xs : List ByteArray) : List Tk → Bool
  | [] => false
  | t :: _ => (t.k == 4 || t.k == 5) && inB xs t.text
abbrev Res (α : Type) := Except (List Tk) (α × List Tk)
def andThen {α β : Type} (r : Option (Res α)) (k : α → List Tk → Option (Res β)) : Option (Res β) :=
  match r with
  | none => none
  | some (.error l) => some (.error l)
  | some (.ok (a, l)) => k a l
theorem andThen_ok {α β : Type} (a : α) (l : List Tk) (k : α → List Tk → Option (Res β)) : andThen (some (.ok (a, l))) k = k a l := rfl
def getK (k : Int) : List Tk → Res ByteArray
  | [] => .error []
  | t :: l => if t.k = k then .ok (t.text, l) else .error (t :: l)
def getW (x : ByteArray) (l : List Tk) : Res Unit := if isT [x] l then .ok ((), l.tail) else .error l
def posT : List Tk → Int
  | [] => 0
  | t :: _ => t.pos
def textT : List Tk → ByteArray
  | [] => ByteArray.empty
  | t :: _ => t.text
def kindT : List Tk → Int
  | [] => 0
  | t :: _ => t.k
def w_let : ByteArray := ⟨#[108, 101, 116]⟩
def w_letrec : ByteArray := ⟨#[108, 101, 116, 114, 101, 99]⟩
def w_fn : ByteArray := ⟨#[102, 110]⟩
def w_if : ByteArray := ⟨#[105, 102]⟩
def w_try : ByteArray := ⟨#[116, 114, 121]⟩
def w_in : ByteArray := ⟨#[105, 110]⟩
def w_then : ByteArray := ⟨#[116, 104, 101, 110]⟩
def w_else : ByteArray := ⟨#[101, 108, 115, 101]⟩
def w_with : ByteArray := ⟨#[119, 105, 116, 104]⟩
def w_raise : ByteArray := ⟨#[114, 97, 105, 115, 101]⟩
def w_fst : ByteArray := ⟨#[102, 115, 116]⟩
def w_snd : ByteArray := ⟨#[115, 110, 100]⟩
def w_ref : ByteArray := ⟨#[114, 101, 102]⟩
def w_exn : ByteArray := ⟨#[101, 120, 110]⟩
def s_eq : ByteArray := ⟨#[61]⟩
def s_to : ByteArray := ⟨#[61, 62]⟩
def s_set : ByteArray := ⟨#[58, 61]⟩
def s_plus : ByteArray := ⟨#[43]⟩
def s_minus : ByteArray := ⟨#[45]⟩
def s_star : ByteArray := ⟨#[42]⟩
def s_less : ByteArray := ⟨#[60]⟩
def s_bang : ByteArray := ⟨#[33]⟩
def s_open : ByteArray := ⟨#[40]⟩
def s_shut : ByteArray := ⟨#[41]⟩
def s_comma : ByteArray := ⟨#[44]⟩
def s_semi : ByteArray := ⟨#[59]⟩
def hd0 (k pos : Int) : Hd := ⟨k, 0, pos, 0, ByteArray.empty, ByteArray.empty, ByteArray.empty⟩
def opOf (x : ByteArray) : Int := if x = s_plus then 1 else if x = s_minus then 2 else if x = s_star then 3 else if x = s_less then 4 else if x = s_eq then 5 else 0
def putT (x : ByteArray) (a b : Tm) : Tm := if x = s_set then .mk (hd0 8 a.head.pos) [a, b] else .mk { hd0 9 a.head.pos with op := opOf x } [a, b]
def signsL : Nat → List ByteArray
  | 0 => [s_set]
  | 1 => [s_less, s_eq]
  | 2 => [s_plus, s_minus]
  | _ => [s_star]
def preK (x : ByteArray) : Int := if x = w_fst then 4 else if x = w_snd then 5 else if x = w_ref then 6 else 7
def beginsT (l : List Tk) : Bool := kindT l == 1 || (kindT l == 2 || isT [s_bang, w_ref, w_fst, w_snd, w_raise, s_open] l)
inductive NT where
  | expr
  | lvl (k : Nat)
  | more (k : Nat) (a : Tm)
  | args (a : Tm)
  | unary
def parseF : Nat → NT → List Tk → Option (Res Tm)
  | 0, _, _ => none
  | f + 1, .expr, l =>
    if isT [w_let] l then
      andThen (some (getK 2 l.tail)) fun x l1 => andThen (some (getW s_eq l1)) fun _ l2 => andThen (parseF f .expr l2) fun a l3 => andThen (some (getW w_in l3)) fun _ l4 => andThen (parseF f .expr l4) fun b l5 =>
        some (.ok (.mk { hd0 12 (posT l) with name := x } [a, b], l5))
    else if isT [w_letrec] l then
      andThen (some (getK 2 l.tail)) fun x l1 => andThen (some (getK 2 l1)) fun y l2 => andThen (some (getW s_eq l2)) fun _ l3 => andThen (parseF f .expr l3) fun a l4 => andThen (some (getW w_in l4)) fun _ l5 => andThen (parseF f .expr l5) fun b l6 =>
        some (.ok (.mk { hd0 13 (posT l) with name := x, arg := y } [a, b], l6))
    else if isT [w_fn] l then
      andThen (some (getK 2 l.tail)) fun x l1 => andThen (some (getW s_to l1)) fun _ l2 => andThen (parseF f .expr l2) fun a l3 =>
        some (.ok (.mk { hd0 11 (posT l) with arg := x } [a], l3))
    else if isT [w_if] l then
      andThen (parseF f .expr l.tail) fun a l1 => andThen (some (getW w_then l1)) fun _ l2 => andThen (parseF f .expr l2) fun b l3 => andThen (some (getW w_else l3)) fun _ l4 => andThen (parseF f .expr l4) fun c l5 =>
        some (.ok (.mk (hd0 14 (posT l)) [a, b, c], l5))
    else if isT [w_try] l then
      andThen (parseF f .expr l.tail) fun a l1 => andThen (some (getW w_with l1)) fun _ l2 => andThen (some (getK 3 l2)) fun x l3 => andThen (some (getK 2 l3)) fun y l4 => andThen (some (getW s_to l4)) fun _ l5 => andThen (parseF f .expr l5) fun b l6 =>
        some (.ok (.mk { hd0 16 (posT l) with exn := x, arg := y } [a, b], l6))
    else parseF f (.lvl 0) l
  | f + 1, .lvl k, l =>
    if k < 2 then andThen (parseF f (.lvl (k + 1)) l) fun a l1 => if isT (signsL k) l1 then andThen (parseF f (.lvl (k + 1)) l1.tail) fun b l2 => some (.ok (putT (textT l1) a b, l2)) else some (.ok (a, l1))
    else if k < 4 then andThen (parseF f (.lvl (k + 1)) l) fun a l1 => parseF f (.more k a) l1
    else andThen (parseF f .unary l) fun a l1 => parseF f (.args a) l1
  | f + 1, .more k a, l => if isT (signsL k) l then andThen (parseF f (.lvl (k + 1)) l.tail) fun b l1 => parseF f (.more k (putT (textT l) a b)) l1 else some (.ok (a, l))
  | f + 1, .args a, l => if beginsT l then andThen (parseF f .unary l) fun b l1 => parseF f (.args (.mk (hd0 10 a.head.pos) [a, b])) l1 else some (.ok (a, l))
  | f + 1, .unary, l =>
    if isT [s_bang, w_ref, w_fst, w_snd] l then andThen (parseF f .unary l.tail) fun a l1 => some (.ok (.mk (hd0 (preK (textT l)) (posT l)) [a], l1))
    else if isT [w_raise] l then andThen (some (getK 3 l.tail)) fun x l1 => andThen (parseF f .unary l1) fun a l2 => some (.ok (.mk { hd0 15 (posT l) with exn := x } [a], l2))
    else if kindT l = 1 then some (.ok (.mk { hd0 1 (posT l) with n := numV (textT l) } [], l.tail))
    else if kindT l = 2 then some (.ok (.mk { hd0 2 (posT l) with name := textT l } [], l.tail))
    else andThen (some (getW s_open l)) fun _ l1 => andThen (parseF f .expr l1) fun a l2 =>
      if isT [s_comma] l2 then andThen (parseF f .expr l2.tail) fun b l3 => andThen (some (getW s_shut l3)) fun _ l4 => some (.ok (.mk (hd0 3 (posT l)) [a, b], l4))
      else andThen (some (getW s_shut l2)) fun _ l3 => some (.ok (a, l3))
theorem andThen_mono {α β : Type} {r r' : Option (Res α)} {k k' : α → List Tk → Option (Res β)} {x : Res β} (h : andThen r k = some x) (hr : ∀ y, r = some y → r' = some y) (hk : ∀ a l, k a l = some x → k' a l = some x) : andThen r' k' = some x := by
  cases r with
  | none => cases h
  | some y =>
    rw [hr y rfl]
    cases y with
    | error l => exact h
    | ok p => exact hk _ _ h
theorem parseF_mono1 (f : Nat) : ∀ nt l x, parseF f nt l = some x → parseF (f + 1) nt l = some x := by
  induction f with
  | zero => intro nt l x h; cases h
  | succ f ih =>
    intro nt l x h
    cases nt with
    | expr =>
      unfold parseF at h ⊢
      split
      · rename_i c; rw [if_pos c] at h
        refine andThen_mono h (fun _ h => h) fun _ _ h => andThen_mono h (fun _ h => h) fun _ _ h => andThen_mono h (ih _ _) fun _ _ h => andThen_mono h (fun _ h => h) fun _ _ h => andThen_mono h (ih _ _) fun _ _ h => h
      rename_i c; rw [if_neg c] at h
      split
      · rename_i c; rw [if_pos c] at h
        refine andThen_mono h (fun _ h => h) fun _ _ h => andThen_mono h (fun _ h => h) fun _ _ h => andThen_mono h (fun _ h => h) fun _ _ h => andThen_mono h (ih _ _) fun _ _ h => andThen_mono h (fun _ h => h) fun _ _ h => andThen_mono h (ih _ _) fun _ _ h => h
      rename_i c; rw [if_neg c] at h
      split
      · rename_i c; rw [if_pos c] at h
        refine andThen_mono h (fun _ h => h) fun _ _ h => andThen_mono h (fun _ h => h) fun _ _ h => andThen_mono h (ih _ _) fun _ _ h => h
      rename_i c; rw [if_neg c] at h
      split
      · rename_i c; rw [if_pos c] at h
        refine andThen_mono h (ih _ _) fun _ _ h => andThen_mono h (fun _ h => h) fun _ _ h => andThen_mono h (ih _ _) fun _ _ h => andThen_mono h (fun _ h => h) fun _ _ h => andThen_mono h (ih _ _) fun _ _ h => h
      rename_i c; rw [if_neg c] at h
      split
      · rename_i c; rw [if_pos c] at h
        refine andThen_mono h (ih _ _) fun _ _ h => andThen_mono h (fun _ h => h) fun _ _ h => andThen_mono h (fun _ h => h) fun _ _ h => andThen_mono h (fun _ h => h) fun _ _ h => andThen_mono h (fun _ h => h) fun _ _ h => andThen_mono h (ih _ _) fun _ _ h => h
      rename_i c; rw [if_neg c] at h
      exact ih _ _ _ h
    | lvl k =>
      unfold parseF at h ⊢
      split
      · rename_i c; rw [if_pos c] at h
        refine andThen_mono h (ih _ _) fun a l1 h => ?_
        split
        · rename_i c; rw [if_pos c] at h
          exact andThen_mono h (ih _ _) fun _ _ h => h
        · rename_i c; rw [if_neg c] at h; exact h
      rename_i c; rw [if_neg c] at h
      split
      · rename_i c; rw [if_pos c] at h
        exact andThen_mono h (ih _ _) fun _ _ h => ih _ _ _ h
      · rename_i c; rw [if_neg c] at h
        exact andThen_mono h (ih _ _) fun _ _ h => ih _ _ _ h
    | more k a =>
      unfold parseF at h ⊢
      split
      · rename_i c; rw [if_pos c] at h
        exact andThen_mono h (ih _ _) fun _ _ h => ih _ _ _ h
      · rename_i c; rw [if_neg c] at h; exact h
    | args a =>
      unfold parseF at h ⊢
      split
      · rename_i c; rw [if_pos c] at h
        exact andThen_mono h (ih _ _) fun _ _ h => ih _ _ _ h
      · rename_i c; rw [if_neg c] at h; exact h
    | unary =>
      unfold parseF at h ⊢
      split
      · rename_i c; rw [if_pos c] at h
        exact andThen_mono h (ih _ _) fun _ _ h => h
      rename_i c; rw [if_neg c] at h
      split
      · rename_i c; rw [if_pos c] at h
        exact andThen_mono h (fun _ h => h) fun _ _ h => andThen_mono h (ih _ _) fun _ _ h => h
      rename_i c; rw [if_neg c] at h
      split
      · rename_i c; rw [if_pos c] at h; exact h
      rename_i c; rw [if_neg c] at h
      split
      · rename_i c; rw [if_pos c] at h; exact h
      rename_i c; rw [if_neg c] at h
      refine andThen_mono h (fun _ h => h) fun _ _ h => andThen_mono h (ih _ _) fun _ _ h => ?_
      split
      · rename_i c; rw [if_pos c] at h
        exact andThen_mono h (ih _ _) fun _ _ h => h
      · rename_i c; rw [if_neg c] at h; exact h
theorem parseF_mono {f g : Nat} (h : f ≤ g) {nt l x} (e : parseF f nt l = some x) : parseF g nt l = some x := by
  induction h with
  | refl => exact e
  | step _ ih => exact parseF_mono1 _ _ _ _ ih
def Ended : List Tk → Prop
  | [] => False
  | [t] => t.k = 6
  | t :: u :: l => t.k ≠ 6 ∧ Ended (u :: l)
theorem Ended.tail {l : List Tk} (h : Ended l) (hk : kindT l ≠ 6) : Ended l.tail ∧ l.tail.length + 1 = l.length := by
  match l, h with
  | [t], h => exact (hk h).elim
  | t :: u :: l, h => exact ⟨h.2, rfl⟩
theorem isT_kind {xs : List ByteArray} {l : List Tk} (h : isT xs l = true) : kindT l ≠ 6 := by
  cases l with
  | nil => cases h
  | cons t l =>
    simp only [isT, Bool.and_eq_true, Bool.or_eq_true, beq_iff_eq] at h
    intro e
    simp only [kindT] at e
    omega
theorem Ended.is_ {xs : List ByteArray} {l : List Tk} (h : Ended l) (hi : isT xs l = true) : Ended l.tail ∧ l.tail.length + 1 = l.length := h.tail (isT_kind hi)
def Behind {α : Type} (n : Nat) : Res α → Prop
  | .error l => Ended l ∧ l.length ≤ n
  | .ok (_, l) => Ended l ∧ l.length < n
theorem getK_behind {k : Int} {l : List Tk} (h : Ended l) (hk : k ≠ 6) : Behind l.length (getK k l) := by
  cases l with
  | nil => cases h
  | cons t l =>
    simp only [getK]
    split
    · rename_i e
      have := h.tail (by simp only [kindT]; omega)
      exact ⟨this.1, by simp⟩
    · exact ⟨h, Nat.le_refl _⟩
theorem getW_behind {x : ByteArray} {l : List Tk} (h : Ended l) : Behind l.length (getW x l) := by
  unfold getW
  split
  · rename_i e
    have := h.is_ e
    exact ⟨this.1, by omega⟩
  · exact ⟨h, Nat.le_refl _⟩
def BehindLe {α : Type} (n : Nat) : Res α → Prop
  | .error l => Ended l ∧ l.length ≤ n
  | .ok (_, l) => Ended l ∧ l.length ≤ n
theorem andThen_told {α β : Type} {n m : Nat} {r : Option (Res α)} {k : α → List Tk → Option (Res β)} {B : Res β → Prop} (hr : ∃ x, r = some x ∧ Behind m x) (hm : m ≤ n) (hB : ∀ l, Ended l → l.length ≤ n → B (.error l)) (h : ∀ a l, Ended l → l.length < m → ∃ x, k a l = some x ∧ B x) : ∃ x, andThen r k = some x ∧ B x := by
  obtain ⟨x, rfl, hx⟩ := hr
  cases x with
  | error l => exact ⟨_, rfl, hB l hx.1 (Nat.le_trans hx.2 hm)⟩
  | ok p =>
    obtain ⟨a, l⟩ := p
    exact h a l hx.1 hx.2
def NT.rk : NT → Nat
  | .expr => 7
  | .lvl k => (4 - k) + 2
  | .more _ _ => 1
  | .args _ => 2
  | .unary => 1
def NT.Told (n : Nat) : NT → Res Tm → Prop
  | .more _ _ => BehindLe n
  | .args _ => BehindLe n
  | _ => Behind n
theorem behind_err {n : Nat} : ∀ l, Ended l → l.length ≤ n → Behind n (.error l : Res Tm) := fun _ h k => ⟨h, k⟩
theorem behindLe_err {n : Nat} : ∀ l, Ended l → l.length ≤ n → BehindLe n (.error l : Res Tm) := fun _ h k => ⟨h, k⟩
set_option maxHeartbeats 1000000 in
theorem parseF_total (f : Nat) : ∀ nt l, Ended l → 8 * l.length + nt.rk ≤ f → ∃ x, parseF f nt l = some x ∧ nt.Told l.length x := by
  induction f with
  | zero =>
    intro nt l hl hf
    cases l with
    | nil => cases hl
    | cons t l => simp at hf
  | succ f ih =>
    intro nt l hl hf
    have E : ∀ l', Ended l' → l'.length < l.length → ∃ x, parseF f .expr l' = some x ∧ Behind l'.length x := fun l' h' hn => ih .expr l' h' (by simp only [NT.rk]; omega)
    have U : ∀ l', Ended l' → l'.length < l.length → ∃ x, parseF f .unary l' = some x ∧ Behind l'.length x := fun l' h' hn => ih .unary l' h' (by simp only [NT.rk]; omega)
    have G : ∀ (k : Int) l', k ≠ 6 → Ended l' → ∃ x, some (getK k l') = some x ∧ Behind l'.length x := fun k l' hk h' => ⟨_, rfl, getK_behind h' hk⟩
    have W : ∀ (x : ByteArray) l', Ended l' → ∃ y, some (getW x l') = some y ∧ Behind l'.length y := fun x l' h' => ⟨_, rfl, getW_behind h'⟩
    cases nt with
    | expr =>
      unfold parseF
      simp only [NT.Told]
      split
      · rename_i c
        obtain ⟨ht, hn⟩ := hl.is_ c
        refine andThen_told (G 2 _ (by omega) ht) (by omega) behind_err fun x l1 h1 n1 => andThen_told (W _ _ h1) (by omega) behind_err fun _ l2 h2 n2 => andThen_told (E _ h2 (by omega)) (by omega) behind_err fun _ l3 h3 n3 => andThen_told (W _ _ h3) (by omega) behind_err fun _ l4 h4 n4 => andThen_told (E _ h4 (by omega)) (by omega) behind_err fun _ l5 h5 n5 => ⟨_, rfl, h5, by omega⟩
      split
      · rename_i c
        obtain ⟨ht, hn⟩ := hl.is_ c
        refine andThen_told (G 2 _ (by omega) ht) (by omega) behind_err fun x l1 h1 n1 => andThen_told (G 2 _ (by omega) h1) (by omega) behind_err fun x l1 h1 n1 => andThen_told (W _ _ h1) (by omega) behind_err fun _ l2 h2 n2 => andThen_told (E _ h2 (by omega)) (by omega) behind_err fun _ l3 h3 n3 => andThen_told (W _ _ h3) (by omega) behind_err fun _ l4 h4 n4 => andThen_told (E _ h4 (by omega)) (by omega) behind_err fun _ l5 h5 n5 => ⟨_, rfl, h5, by omega⟩
      split
      · rename_i c
        obtain ⟨ht, hn⟩ := hl.is_ c
        refine andThen_told (G 2 _ (by omega) ht) (by omega) behind_err fun x l1 h1 n1 => andThen_told (W _ _ h1) (by omega) behind_err fun _ l2 h2 n2 => andThen_told (E _ h2 (by omega)) (by omega) behind_err fun _ l3 h3 n3 => ⟨_, rfl, h3, by omega⟩
      split
      · rename_i c
        obtain ⟨ht, hn⟩ := hl.is_ c
        refine andThen_told (E _ ht (by omega)) (by omega) behind_err fun _ l1 h1 n1 => andThen_told (W _ _ h1) (by omega) behind_err fun _ l2 h2 n2 => andThen_told (E _ h2 (by omega)) (by omega) behind_err fun _ l3 h3 n3 => andThen_told (W _ _ h3) (by omega) behind_err fun _ l4 h4 n4 => andThen_told (E _ h4 (by omega)) (by omega) behind_err fun _ l5 h5 n5 => ⟨_, rfl, h5, by omega⟩
      split
      · rename_i c
        obtain ⟨ht, hn⟩ := hl.is_ c
        refine andThen_told (E _ ht (by omega)) (by omega) behind_err fun _ l1 h1 n1 => andThen_told (W _ _ h1) (by omega) behind_err fun _ l2 h2 n2 => andThen_told (G 3 _ (by omega) h2) (by omega) behind_err fun _ l3 h3 n3 => andThen_told (G 2 _ (by omega) h3) (by omega) behind_err fun _ l3 h3 n3 => andThen_told (W _ _ h3) (by omega) behind_err fun _ l4 h4 n4 => andThen_told (E _ h4 (by omega)) (by omega) behind_err fun _ l5 h5 n5 => ⟨_, rfl, h5, by omega⟩
      exact ih (.lvl 0) l hl (by simp only [NT.rk] at hf ⊢; omega)
    | lvl k =>
      unfold parseF
      simp only [NT.Told]
      split
      · rename_i c
        refine andThen_told (ih (.lvl (k + 1)) l hl (by simp only [NT.rk] at hf ⊢; omega)) (by omega) behind_err fun a l1 h1 n1 => ?_
        split
        · rename_i c
          obtain ⟨ht, hn⟩ := h1.is_ c
          exact andThen_told (ih (.lvl (k + 1)) l1.tail ht (by simp only [NT.rk] at hf ⊢; omega)) (by omega) behind_err fun b l2 h2 n2 => ⟨_, rfl, h2, by omega⟩
        · exact ⟨_, rfl, h1, n1⟩
      split
      · rename_i c
        refine andThen_told (ih (.lvl (k + 1)) l hl (by simp only [NT.rk] at hf ⊢; omega)) (by omega) behind_err fun a l1 h1 n1 => ?_
        obtain ⟨x, e, hx⟩ := ih (.more k a) l1 h1 (by simp only [NT.rk] at hf ⊢; omega)
        refine ⟨x, e, ?_⟩
        cases x with
        | error l2 => exact ⟨hx.1, by have := hx.2; omega⟩
        | ok p => exact ⟨hx.1, by have := hx.2; omega⟩
      · rename_i c
        refine andThen_told (ih .unary l hl (by simp only [NT.rk] at hf ⊢; omega)) (by omega) behind_err fun a l1 h1 n1 => ?_
        obtain ⟨x, e, hx⟩ := ih (.args a) l1 h1 (by simp only [NT.rk] at hf ⊢; omega)
        refine ⟨x, e, ?_⟩
        cases x with
        | error l2 => exact ⟨hx.1, by have := hx.2; omega⟩
        | ok p => exact ⟨hx.1, by have := hx.2; omega⟩
    | more k a =>
      unfold parseF
      simp only [NT.Told]
      split
      · rename_i c
        obtain ⟨ht, hn⟩ := hl.is_ c
        refine andThen_told (ih (.lvl (k + 1)) l.tail ht (by simp only [NT.rk] at hf ⊢; omega)) (by omega) behindLe_err fun b l1 h1 n1 => ?_
        obtain ⟨x, e, hx⟩ := ih (.more k (putT (textT l) a b)) l1 h1 (by simp only [NT.rk] at hf ⊢; omega)
        refine ⟨x, e, ?_⟩
        cases x with
        | error l2 => exact ⟨hx.1, by have := hx.2; omega⟩
        | ok p => exact ⟨hx.1, by have := hx.2; omega⟩
      · exact ⟨_, rfl, hl, Nat.le_refl _⟩
    | args a =>
      unfold parseF
      simp only [NT.Told]
      split
      · rename_i c
        refine andThen_told (ih .unary l hl (by simp only [NT.rk] at hf ⊢; omega)) (by omega) behindLe_err fun b l1 h1 n1 => ?_
        obtain ⟨x, e, hx⟩ := ih (.args (.mk (hd0 10 a.head.pos) [a, b])) l1 h1 (by simp only [NT.rk] at hf ⊢; omega)
        refine ⟨x, e, ?_⟩
        cases x with
        | error l2 => exact ⟨hx.1, by have := hx.2; omega⟩
        | ok p => exact ⟨hx.1, by have := hx.2; omega⟩
      · exact ⟨_, rfl, hl, Nat.le_refl _⟩
    | unary =>
      unfold parseF
      simp only [NT.Told]
      split
      · rename_i c
        obtain ⟨ht, hn⟩ := hl.is_ c
        exact andThen_told (U _ ht (by omega)) (by omega) behind_err fun _ l1 h1 n1 => ⟨_, rfl, h1, by omega⟩
      split
      · rename_i c
        obtain ⟨ht, hn⟩ := hl.is_ c
        exact andThen_told (G 3 _ (by omega) ht) (by omega) behind_err fun _ l1 h1 n1 => andThen_told (U _ h1 (by omega)) (by omega) behind_err fun _ l2 h2 n2 => ⟨_, rfl, h2, by omega⟩
      split
      · rename_i c
        obtain ⟨ht, hn⟩ := hl.tail (by omega)
        exact ⟨_, rfl, ht, by omega⟩
      split
      · rename_i c
        obtain ⟨ht, hn⟩ := hl.tail (by omega)
        exact ⟨_, rfl, ht, by omega⟩
      refine andThen_told (W _ _ hl) (by omega) behind_err fun _ l1 h1 n1 => andThen_told (E _ h1 (by omega)) (by omega) behind_err fun _ l2 h2 n2 => ?_
      split
      · rename_i c
        obtain ⟨ht, hn⟩ := h2.is_ c
        exact andThen_told (E _ ht (by omega)) (by omega) behind_err fun _ l3 h3 n3 => andThen_told (W _ _ h3) (by omega) behind_err fun _ l4 h4 n4 => ⟨_, rfl, h4, by omega⟩
      · exact andThen_told (W _ _ h2) (by omega) behind_err fun _ l3 h3 n3 => ⟨_, rfl, h3, by omega⟩
def parseL (nt : NT) (l : List Tk) : Res Tm := (parseF (8 * l.length + nt.rk) nt l).getD (.error l)
theorem parseL_eq {nt : NT} {l : List Tk} {f : Nat} {x : Res Tm} (hl : Ended l) (h : parseF f nt l = some x) : parseL nt l = x := by
  obtain ⟨y, e, -⟩ := parseF_total _ nt l hl (Nat.le_refl _)
  have e1 := parseF_mono (Nat.le_max_left f (8 * l.length + nt.rk)) h
  have e2 := parseF_mono (Nat.le_max_right f (8 * l.length + nt.rk)) e
  rw [e1] at e2
  unfold parseL
  rw [e]
  cases e2
  rfl
theorem parseL_some {nt : NT} {l : List Tk} (hl : Ended l) : ∃ f, parseF f nt l = some (parseL nt l) ∧ nt.Told l.length (parseL nt l) := by
  obtain ⟨y, e, h⟩ := parseF_total _ nt l hl (Nat.le_refl _)
  rw [parseL_eq hl e]
  exact ⟨_, e, h⟩
theorem andThen_inv {α β : Type} {r : Option (Res α)} {k : α → List Tk → Option (Res β)} {y : β} {l : List Tk} (h : andThen r k = some (.ok (y, l))) : ∃ a l1, r = some (.ok (a, l1)) ∧ k a l1 = some (.ok (y, l)) := by
  cases r with
  | none => cases h
  | some x =>
    cases x with
    | error l => cases h
    | ok p => exact ⟨p.1, p.2, rfl, h⟩
theorem getK_inv {k : Int} {l l' : List Tk} {x : ByteArray} (h : some (getK k l) = some (.ok (x, l'))) : ∃ t, l = t :: l' ∧ t.k = k ∧ x = t.text := by
  cases l with
  | nil => simp [getK] at h
  | cons t l =>
    simp only [getK] at h
    split at h
    · simp at h
      exact ⟨t, by rw [h.2], by assumption, h.1.symm⟩
    · simp at h
theorem getW_inv {x : ByteArray} {l l' : List Tk} {u : Unit} (h : some (getW x l) = some (.ok (u, l'))) : isT [x] l = true ∧ l' = l.tail := by
  unfold getW at h
  split at h
  · simp at h
    exact ⟨by assumption, h.symm⟩
  · simp at h
theorem isT_ne {xs : List ByteArray} {l : List Tk} (h : isT xs l = true) : ∃ t r, l = t :: r ∧ t.k ≠ 6 ∧ t.text ∈ xs ∧ (t.k = 4 ∨ t.k = 5) := by
  cases l with
  | nil => cases h
  | cons t r =>
    simp only [isT, Bool.and_eq_true, Bool.or_eq_true, beq_iff_eq] at h
    exact ⟨t, r, rfl, by omega, (inB_iff _ _).1 h.2, h.1⟩
structure TkOk (t : Tk) : Prop where
  pos : 0 ≤ t.pos
  num : t.k = 1 → numB t.text = true
  name : t.k = 2 → isName t.text = true
  exn : t.k = 3 → isExn t.text = true
def GoodT (L : List Tk) (t : Tm) : Prop := ∀ u, u ∈ t.all → u.node = true ∧ ∃ k, k ∈ L ∧ k.k ≠ 6 ∧ k.pos = u.head.pos
theorem Tm.self_all (t : Tm) : t ∈ t.all := by cases t; simp [Tm.all]
theorem Tm.mem_all {x : Hd} {l : List Tm} {u : Tm} : u ∈ (Tm.mk x l).all ↔ u = .mk x l ∨ ∃ t, t ∈ l ∧ u ∈ t.all := by
  simp only [Tm.all, List.mem_cons]
  refine or_congr Iff.rfl ?_
  induction l with
  | nil => simp [Tm.alls]
  | cons t l ih => simp [Tm.alls, ih]
theorem GoodT.mk_ {L : List Tk} {x : Hd} {l : List Tm} (hn : (Tm.mk x l).node = true) (hp : ∃ k, k ∈ L ∧ k.k ≠ 6 ∧ k.pos = x.pos) (hk : ∀ t, t ∈ l → GoodT L t) : GoodT L (.mk x l) := by
  intro u hu
  rcases Tm.mem_all.1 hu with rfl | ⟨t, ht, hu⟩
  · exact ⟨hn, hp⟩
  · exact hk t ht u hu
theorem GoodT.at_ {L : List Tk} {t : Tm} (h : GoodT L t) : ∃ k, k ∈ L ∧ k.k ≠ 6 ∧ k.pos = t.head.pos := (h t t.self_all).2
theorem numV_bound (s : ByteArray) : 0 ≤ numV s ∧ numV s ≤ 2147483647 := by
  unfold numV
  by_cases h : okN s.data.toList = true
  · rw [if_pos h]
    unfold okN at h
    simp only [Bool.and_eq_true, decide_eq_true_eq] at h
    omega
  · rw [if_neg h]; omega
theorem empty_list0 : ByteArray.empty.toList = [] := by rw [ByteArray.toList_eq]; rfl
theorem node_simple (k pos : Int) (l : List Tm) (hp : 0 ≤ pos) (hk : karity k = (l.length : Int)) (h9 : k ≠ 9) (h1 : (hd0 k pos).hasName = false) (h2 : (hd0 k pos).hasArg = false) (h3 : (hd0 k pos).hasExn = false) : (Tm.mk (hd0 k pos) l).node = true := by
  simp only [Tm.node, Tm.nums, h1, h2, h3]
  simp [hd0, fitB, hk, hp, h9, empty_list0]
def NT.Pre (L : List Tk) : NT → Prop
  | .more _ a => GoodT L a
  | .args a => GoodT L a
  | _ => True
def NT.size0 : NT → Nat
  | .more _ a => a.size + 1
  | .args a => a.size + 1
  | _ => 0
structure Sound (L : List Tk) (nt : NT) (l : List Tk) (t : Tm) (l' : List Tk) : Prop where
  sub : ∀ x, x ∈ l' → x ∈ L
  good : GoodT L t
  few : t.size + 1 + 2 * l'.length ≤ 2 * l.length + nt.size0
theorem cons_mem {L l : List Tk} {t : Tk} (h : ∀ x, x ∈ t :: l → x ∈ L) : ∀ x, x ∈ l → x ∈ L := fun x hx => h x (by simp [hx])
theorem opOf_bound (x : ByteArray) : 0 ≤ opOf x ∧ opOf x ≤ 5 := by unfold opOf; repeat' split <;> try omega
theorem opOf_sign {k : Nat} (hk : 1 ≤ k) {x : ByteArray} (h : x ∈ signsL k) : x ≠ s_set ∧ 1 ≤ opOf x := by
  have key : ∀ y, y ∈ [s_less, s_eq, s_plus, s_minus, s_star] → y ≠ s_set ∧ 1 ≤ opOf y := by
    intro y hy
    simp only [List.mem_cons, List.not_mem_nil, or_false] at hy
    rcases hy with rfl | rfl | rfl | rfl | rfl <;> decide +kernel
  refine key x ?_
  match k, hk with
  | 1, _ => simp only [signsL, List.mem_cons, List.not_mem_nil, or_false] at h ⊢; rcases h with h | h <;> simp [h]
  | 2, _ => simp only [signsL, List.mem_cons, List.not_mem_nil, or_false] at h ⊢; rcases h with h | h <;> simp [h]
  | k + 3, _ => simp only [signsL, List.mem_cons, List.not_mem_nil, or_false] at h ⊢; simp [h]
theorem preK_bound (x : ByteArray) : preK x = 4 ∨ preK x = 5 ∨ preK x = 6 ∨ preK x = 7 := by
  unfold preK
  split
  · exact .inl rfl
  split
  · exact .inr (.inl rfl)
  split
  · exact .inr (.inr (.inl rfl))
  · exact .inr (.inr (.inr rfl))
theorem putT_good {L : List Tk} {x : ByteArray} {a b : Tm} (ha : GoodT L a) (hb : GoodT L b) (hp : 0 ≤ a.head.pos) (hx : x = s_set ∨ 1 ≤ opOf x) : GoodT L (putT x a b) := by
  unfold putT
  obtain hbd := opOf_bound x
  split
  · refine GoodT.mk_ (node_simple 8 _ _ hp rfl (by omega) rfl rfl rfl) ha.at_ ?_
    intro t ht
    simp only [List.mem_cons, List.not_mem_nil, or_false] at ht
    rcases ht with rfl | rfl <;> assumption
  · rename_i hn
    have h1 : 1 ≤ opOf x := by rcases hx with hx | hx; exact (hn hx).elim; exact hx
    refine GoodT.mk_ ?_ ha.at_ ?_
    · unfold Tm.node Tm.nums
      simp [hd0, fitB, karity, hp, Hd.hasName, Hd.hasArg, Hd.hasExn, empty_list0]
      omega
    · intro t ht
      simp only [List.mem_cons, List.not_mem_nil, or_false] at ht
      rcases ht with rfl | rfl <;> assumption
theorem putT_size (x : ByteArray) (a b : Tm) : (putT x a b).size = 1 + a.size + b.size := by
  unfold putT
  split <;> simp [Tm.size, Tm.sizes] <;> omega
theorem GoodT.pos {L : List Tk} (hL : ∀ x, x ∈ L → TkOk x) {t : Tm} (h : GoodT L t) : 0 ≤ t.head.pos := by
  obtain ⟨k, hk, _, e⟩ := h.at_
  rw [← e]
  exact (hL k hk).pos
theorem mem1 {P : Tm → Prop} {a : Tm} (ha : P a) : ∀ t, t ∈ [a] → P t := by intro t ht; simp at ht; subst ht; exact ha
theorem mem2 {P : Tm → Prop} {a b : Tm} (ha : P a) (hb : P b) : ∀ t, t ∈ [a, b] → P t := by intro t ht; simp at ht; rcases ht with rfl | rfl <;> assumption
theorem mem3 {P : Tm → Prop} {a b c : Tm} (ha : P a) (hb : P b) (hc : P c) : ∀ t, t ∈ [a, b, c] → P t := by intro t ht; simp at ht; rcases ht with rfl | rfl | rfl <;> assumption
set_option maxHeartbeats 1000000 in
theorem parse_sound (L : List Tk) (hL : ∀ x, x ∈ L → TkOk x) (f : Nat) : ∀ nt l t l', (∀ x, x ∈ l → x ∈ L) → nt.Pre L → parseF f nt l = some (.ok (t, l')) → Sound L nt l t l' := by
  induction f with
  | zero => intro nt l t l' _ _ h; cases h
  | succ f ih =>
    intro nt l t l' hl hpre h
    have W : ∀ {xs : List ByteArray} {m : List Tk}, isT xs m = true → (∀ x, x ∈ m → x ∈ L) → 0 ≤ posT m ∧ (∃ k, k ∈ L ∧ k.k ≠ 6 ∧ k.pos = posT m) ∧ textT m ∈ xs ∧ (∀ x, x ∈ m.tail → x ∈ L) ∧ m.tail.length + 1 = m.length := by
      intro xs m hi hm
      obtain ⟨t, r, rfl, hk, hx, -⟩ := isT_ne hi
      exact ⟨(hL t (hm t (by simp))).pos, ⟨t, hm t (by simp), hk, rfl⟩, hx, cons_mem hm, rfl⟩
    have G : ∀ {k : Int} {m m' : List Tk} {x : ByteArray}, some (getK k m) = some (.ok (x, m')) → (∀ x, x ∈ m → x ∈ L) → (∀ x, x ∈ m' → x ∈ L) ∧ m'.length + 1 = m.length ∧ (k = 2 → isName x = true) ∧ (k = 3 → isExn x = true) := by
      intro k m m' x hg hm
      obtain ⟨t, rfl, hk, rfl⟩ := getK_inv hg
      have := hL t (hm t (by simp))
      exact ⟨cons_mem hm, rfl, fun h => this.name (by omega), fun h => this.exn (by omega)⟩
    have V : ∀ {y : ByteArray} {m m' : List Tk} {u : Unit}, some (getW y m) = some (.ok (u, m')) → (∀ x, x ∈ m → x ∈ L) → (∀ x, x ∈ m' → x ∈ L) ∧ m'.length + 1 = m.length := by
      intro y m m' u hg hm
      obtain ⟨hi, rfl⟩ := getW_inv hg
      have := W hi hm
      exact ⟨this.2.2.2.1, this.2.2.2.2⟩
    cases nt with
    | expr =>
      unfold parseF at h
      split at h
      · rename_i c
        obtain ⟨p0, pk, -, m0, n0⟩ := W c hl
        obtain ⟨x, l1, e1, h⟩ := andThen_inv h
        obtain ⟨m1, n1, hx, -⟩ := G e1 m0
        obtain ⟨_, l2, e2, h⟩ := andThen_inv h
        obtain ⟨m2, n2⟩ := V e2 m1
        obtain ⟨a, l3, e3, h⟩ := andThen_inv h
        obtain ⟨m3, ga, n3⟩ := ih _ _ _ _ m2 (by exact True.intro) e3
        obtain ⟨_, l4, e4, h⟩ := andThen_inv h
        obtain ⟨m4, n4⟩ := V e4 m3
        obtain ⟨b, l5, e5, h⟩ := andThen_inv h
        obtain ⟨m5, gb, n5⟩ := ih _ _ _ _ m4 (by exact True.intro) e5
        cases h
        refine ⟨m5, GoodT.mk_ ?_ pk (mem2 ga gb), ?_⟩
        · unfold Tm.node Tm.nums
          simp [hd0, fitB, karity, p0, Hd.hasName, Hd.hasArg, Hd.hasExn, empty_list0, hx rfl]
        · simp only [Tm.size, Tm.sizes, NT.size0] at *
          omega
      split at h
      · rename_i c
        obtain ⟨p0, pk, -, m0, n0⟩ := W c hl
        obtain ⟨x, l1, e1, h⟩ := andThen_inv h
        obtain ⟨m1, n1, hx, -⟩ := G e1 m0
        obtain ⟨y, l1', e1', h⟩ := andThen_inv h
        obtain ⟨m1', n1', hy, -⟩ := G e1' m1
        obtain ⟨_, l2, e2, h⟩ := andThen_inv h
        obtain ⟨m2, n2⟩ := V e2 m1'
        obtain ⟨a, l3, e3, h⟩ := andThen_inv h
        obtain ⟨m3, ga, n3⟩ := ih _ _ _ _ m2 (by exact True.intro) e3
        obtain ⟨_, l4, e4, h⟩ := andThen_inv h
        obtain ⟨m4, n4⟩ := V e4 m3
        obtain ⟨b, l5, e5, h⟩ := andThen_inv h
        obtain ⟨m5, gb, n5⟩ := ih _ _ _ _ m4 (by exact True.intro) e5
        cases h
        refine ⟨m5, GoodT.mk_ ?_ pk (mem2 ga gb), ?_⟩
        · unfold Tm.node Tm.nums
          simp [hd0, fitB, karity, p0, Hd.hasName, Hd.hasArg, Hd.hasExn, empty_list0, hx rfl, hy rfl]
        · simp only [Tm.size, Tm.sizes, NT.size0] at *
          omega
      split at h
      · rename_i c
        obtain ⟨p0, pk, -, m0, n0⟩ := W c hl
        obtain ⟨x, l1, e1, h⟩ := andThen_inv h
        obtain ⟨m1, n1, hx, -⟩ := G e1 m0
        obtain ⟨_, l2, e2, h⟩ := andThen_inv h
        obtain ⟨m2, n2⟩ := V e2 m1
        obtain ⟨a, l3, e3, h⟩ := andThen_inv h
        obtain ⟨m3, ga, n3⟩ := ih _ _ _ _ m2 (by exact True.intro) e3
        cases h
        refine ⟨m3, GoodT.mk_ ?_ pk (mem1 ga), ?_⟩
        · unfold Tm.node Tm.nums
          simp [hd0, fitB, karity, p0, Hd.hasName, Hd.hasArg, Hd.hasExn, empty_list0, hx rfl]
        · simp only [Tm.size, Tm.sizes, NT.size0] at *
          omega
      split at h
      · rename_i c
        obtain ⟨p0, pk, -, m0, n0⟩ := W c hl
        obtain ⟨a, l3, e3, h⟩ := andThen_inv h
        obtain ⟨m3, ga, n3⟩ := ih _ _ _ _ m0 (by exact True.intro) e3
        obtain ⟨_, l4, e4, h⟩ := andThen_inv h
        obtain ⟨m4, n4⟩ := V e4 m3
        obtain ⟨b, l5, e5, h⟩ := andThen_inv h
        obtain ⟨m5, gb, n5⟩ := ih _ _ _ _ m4 (by exact True.intro) e5
        obtain ⟨_, l6, e6, h⟩ := andThen_inv h
        obtain ⟨m6, n6⟩ := V e6 m5
        obtain ⟨c', l7, e7, h⟩ := andThen_inv h
        obtain ⟨m7, gc, n7⟩ := ih _ _ _ _ m6 (by exact True.intro) e7
        cases h
        refine ⟨m7, GoodT.mk_ (node_simple 14 _ _ p0 rfl (by omega) rfl rfl rfl) pk (mem3 ga gb gc), ?_⟩
        simp only [Tm.size, Tm.sizes, NT.size0] at *
        omega
      split at h
      · rename_i c
        obtain ⟨p0, pk, -, m0, n0⟩ := W c hl
        obtain ⟨a, l3, e3, h⟩ := andThen_inv h
        obtain ⟨m3, ga, n3⟩ := ih _ _ _ _ m0 (by exact True.intro) e3
        obtain ⟨_, l4, e4, h⟩ := andThen_inv h
        obtain ⟨m4, n4⟩ := V e4 m3
        obtain ⟨x, l1, e1, h⟩ := andThen_inv h
        obtain ⟨m1, n1, -, hx⟩ := G e1 m4
        obtain ⟨y, l1', e1', h⟩ := andThen_inv h
        obtain ⟨m1', n1', hy, -⟩ := G e1' m1
        obtain ⟨_, l2, e2, h⟩ := andThen_inv h
        obtain ⟨m2, n2⟩ := V e2 m1'
        obtain ⟨b, l5, e5, h⟩ := andThen_inv h
        obtain ⟨m5, gb, n5⟩ := ih _ _ _ _ m2 (by exact True.intro) e5
        cases h
        refine ⟨m5, GoodT.mk_ ?_ pk (mem2 ga gb), ?_⟩
        · unfold Tm.node Tm.nums
          simp [hd0, fitB, karity, p0, Hd.hasName, Hd.hasArg, Hd.hasExn, empty_list0, hx rfl, hy rfl]
        · simp only [Tm.size, Tm.sizes, NT.size0] at *
          omega
      obtain ⟨a1, a2, a3⟩ := ih _ _ _ _ hl (by exact True.intro) h
      exact ⟨a1, a2, by simp only [NT.size0] at *; omega⟩
    | lvl k =>
      unfold parseF at h
      split at h
      · rename_i ck
        obtain ⟨a, l1, e1, h⟩ := andThen_inv h
        obtain ⟨m1, ga, n1⟩ := ih _ _ _ _ hl (by exact True.intro) e1
        split at h
        · rename_i c
          obtain ⟨p0, pk, hx, m0, n0⟩ := W c m1
          obtain ⟨b, l2, e2, h⟩ := andThen_inv h
          obtain ⟨m2, gb, n2⟩ := ih _ _ _ _ m0 (by exact True.intro) e2
          cases h
          refine ⟨m2, putT_good ga gb (ga.pos hL) ?_, ?_⟩
          · rcases Nat.eq_zero_or_pos k with rfl | hk
            · left; simpa [signsL] using hx
            · right; exact (opOf_sign hk hx).2
          · rw [putT_size]
            simp only [NT.size0] at *
            omega
        · cases h
          exact ⟨m1, ga, by simp only [NT.size0] at *; omega⟩
      split at h
      · obtain ⟨a, l1, e1, h⟩ := andThen_inv h
        obtain ⟨m1, ga, n1⟩ := ih _ _ _ _ hl (by exact True.intro) e1
        obtain ⟨m2, gb, n2⟩ := ih _ _ _ _ m1 (by exact ga) h
        exact ⟨m2, gb, by simp only [NT.size0] at *; omega⟩
      · obtain ⟨a, l1, e1, h⟩ := andThen_inv h
        obtain ⟨m1, ga, n1⟩ := ih _ _ _ _ hl (by exact True.intro) e1
        obtain ⟨m2, gb, n2⟩ := ih _ _ _ _ m1 (by exact ga) h
        exact ⟨m2, gb, by simp only [NT.size0] at *; omega⟩
    | more k a =>
      unfold parseF at h
      have ga : GoodT L a := hpre
      split at h
      · rename_i c
        obtain ⟨p0, pk, hx, m0, n0⟩ := W c hl
        obtain ⟨b, l1, e1, h⟩ := andThen_inv h
        obtain ⟨m1, gb, n1⟩ := ih _ _ _ _ m0 (by exact True.intro) e1
        have gp : GoodT L (putT (textT l) a b) := putT_good ga gb (ga.pos hL) (by
          rcases Nat.eq_zero_or_pos k with rfl | hk
          · left; simpa [signsL] using hx
          · right; exact (opOf_sign hk hx).2)
        obtain ⟨m2, gt, n2⟩ := ih _ _ _ _ m1 (by exact gp) h
        refine ⟨m2, gt, ?_⟩
        simp only [NT.size0, putT_size] at *
        omega
      · cases h
        exact ⟨hl, ga, by simp only [NT.size0]; omega⟩
    | args a =>
      unfold parseF at h
      have ga : GoodT L a := hpre
      split at h
      · obtain ⟨b, l1, e1, h⟩ := andThen_inv h
        obtain ⟨m1, gb, n1⟩ := ih _ _ _ _ hl (by exact True.intro) e1
        have gp : GoodT L (.mk (hd0 10 a.head.pos) [a, b]) := GoodT.mk_ (node_simple 10 _ _ (ga.pos hL) rfl (by omega) rfl rfl rfl) ga.at_ (mem2 ga gb)
        obtain ⟨m2, gt, n2⟩ := ih _ _ _ _ m1 (by exact gp) h
        refine ⟨m2, gt, ?_⟩
        simp only [NT.size0, Tm.size, Tm.sizes] at *
        omega
      · cases h
        exact ⟨hl, ga, by simp only [NT.size0]; omega⟩
    | unary =>
      unfold parseF at h
      split at h
      · rename_i c
        obtain ⟨p0, pk, hx, m0, n0⟩ := W c hl
        obtain ⟨a, l1, e1, h⟩ := andThen_inv h
        obtain ⟨m1, ga, n1⟩ := ih _ _ _ _ m0 (by exact True.intro) e1
        cases h
        have hk := preK_bound (textT l)
        refine ⟨m1, GoodT.mk_ (node_simple _ _ _ p0 ?_ (by omega) ?_ ?_ ?_) pk (mem1 ga), ?_⟩
        · rcases hk with hk | hk | hk | hk <;> rw [hk] <;> rfl
        · rcases hk with hk | hk | hk | hk <;> rw [hk] <;> rfl
        · rcases hk with hk | hk | hk | hk <;> rw [hk] <;> rfl
        · rcases hk with hk | hk | hk | hk <;> rw [hk] <;> rfl
        · simp only [Tm.size, Tm.sizes, NT.size0] at *
          omega
      split at h
      · rename_i c
        obtain ⟨p0, pk, -, m0, n0⟩ := W c hl
        obtain ⟨x, l1, e1, h⟩ := andThen_inv h
        obtain ⟨m1, n1, -, hx⟩ := G e1 m0
        obtain ⟨a, l2, e2, h⟩ := andThen_inv h
        obtain ⟨m2, ga, n2⟩ := ih _ _ _ _ m1 (by exact True.intro) e2
        cases h
        refine ⟨m2, GoodT.mk_ ?_ pk (mem1 ga), ?_⟩
        · unfold Tm.node Tm.nums
          simp [hd0, fitB, karity, p0, Hd.hasName, Hd.hasArg, Hd.hasExn, empty_list0, hx rfl]
        · simp only [Tm.size, Tm.sizes, NT.size0] at *
          omega
      split at h
      · rename_i c
        cases l with
        | nil => simp [kindT] at c
        | cons tk r =>
          cases h
          have ok := hL tk (hl tk (by simp))
          have hb := numV_bound tk.text
          refine ⟨cons_mem hl, GoodT.mk_ ?_ ⟨tk, hl tk (by simp), ?_, rfl⟩ (by simp), ?_⟩
          · have := ok.pos
            unfold Tm.node Tm.nums
            simp [hd0, fitB, karity, posT, textT, this, Hd.hasName, Hd.hasArg, Hd.hasExn, empty_list0, hb]
          · simp only [kindT] at c; omega
          · simp only [Tm.size, Tm.sizes, NT.size0, List.tail_cons, List.length_cons]; omega
      split at h
      · rename_i c
        cases l with
        | nil => simp [kindT] at c
        | cons tk r =>
          cases h
          have ok := hL tk (hl tk (by simp))
          refine ⟨cons_mem hl, GoodT.mk_ ?_ ⟨tk, hl tk (by simp), ?_, rfl⟩ (by simp), ?_⟩
          · have := ok.pos
            have hn := ok.name c
            unfold Tm.node Tm.nums
            simp [hd0, fitB, karity, posT, textT, this, Hd.hasName, Hd.hasArg, Hd.hasExn, empty_list0, hn]
          · simp only [kindT] at c; omega
          · simp only [Tm.size, Tm.sizes, NT.size0, List.tail_cons, List.length_cons]; omega
      have hne : l ≠ [] := by
        rintro rfl
        obtain ⟨_, l1, e1, h⟩ := andThen_inv h
        obtain ⟨hi, -⟩ := getW_inv e1
        cases hi
      obtain ⟨_, l1, e1, h⟩ := andThen_inv h
      obtain ⟨hi, rfl⟩ := getW_inv e1
      obtain ⟨p0, pk, -, m0, n0⟩ := W hi hl
      obtain ⟨a, l2, e2, h⟩ := andThen_inv h
      obtain ⟨m2, ga, n2⟩ := ih _ _ _ _ m0 (by exact True.intro) e2
      split at h
      · rename_i c
        obtain ⟨-, -, -, m3, n3⟩ := W c m2
        obtain ⟨b, l3, e3, h⟩ := andThen_inv h
        obtain ⟨m4, gb, n4⟩ := ih _ _ _ _ m3 (by exact True.intro) e3
        obtain ⟨_, l4, e4, h⟩ := andThen_inv h
        obtain ⟨m5, n5⟩ := V e4 m4
        cases h
        refine ⟨m5, GoodT.mk_ (node_simple 3 _ _ p0 rfl (by omega) rfl rfl rfl) pk (mem2 ga gb), ?_⟩
        simp only [Tm.size, Tm.sizes, NT.size0] at *
        omega
      · obtain ⟨_, l4, e4, h⟩ := andThen_inv h
        obtain ⟨m5, n5⟩ := V e4 m2
        cases h
        exact ⟨m5, ga, by simp only [NT.size0] at *; omega⟩
theorem done_inv {α : Type} {a b : α} {l l' : List Tk} (h : (some (.ok (a, l)) : Option (Res α)) = some (.ok (b, l'))) : a = b ∧ l = l' := by
  simp at h
  exact h
theorem same_mk (h h' : Hd) (l l' : List Tm) : (Tm.mk h l).same (.mk h' l') = (h.same h' && Tm.sames l l') := by rw [Tm.same]
theorem same1 {h h' : Hd} {a a' : Tm} (e : h.same h' = true) (h1 : a.same a' = true) : (Tm.mk h [a]).same (.mk h' [a']) = true := by
  rw [same_mk]
  simp [e, Tm.sames, h1]
theorem same2 {h h' : Hd} {a a' b b' : Tm} (e : h.same h' = true) (h1 : a.same a' = true) (h2 : b.same b' = true) : (Tm.mk h [a, b]).same (.mk h' [a', b']) = true := by
  rw [same_mk]
  simp [e, Tm.sames, h1, h2]
theorem same3 {h h' : Hd} {a a' b b' c c' : Tm} (e : h.same h' = true) (h1 : a.same a' = true) (h2 : b.same b' = true) (h3 : c.same c' = true) : (Tm.mk h [a, b, c]).same (.mk h' [a', b', c']) = true := by
  rw [same_mk]
  simp [e, Tm.sames, h1, h2, h3]
theorem same0 {h h' : Hd} (e : h.same h' = true) : (Tm.mk h []).same (.mk h' []) = true := by
  rw [same_mk]
  simp [e, Tm.sames]
theorem up_args {f : Nat} {l m : List Tk} {t : Tm} (h : parseF f .unary l = some (.ok (t, m))) (hm : beginsT m = false) : parseF (f + 2) (.lvl 4) l = some (.ok (t, m)) := by
  have e := parseF_mono1 _ _ _ _ h
  unfold parseF
  rw [if_neg (by omega), if_neg (by omega), e, andThen_ok]
  unfold parseF
  rw [if_neg (by rw [hm]; simp)]
theorem up_lvl {f k : Nat} {l m : List Tk} {t : Tm} (hk : k < 4) (h : parseF (f + 1) (.lvl (k + 1)) l = some (.ok (t, m))) (hm : isT (signsL k) m = false) : parseF (f + 2) (.lvl k) l = some (.ok (t, m)) := by
  have hm' : ¬ isT (signsL k) m = true := by rw [hm]; simp
  unfold parseF
  by_cases h2 : k < 2
  · rw [if_pos h2, h, andThen_ok, if_neg hm']
  · rw [if_neg h2, if_pos hk, h, andThen_ok]
    unfold parseF
    rw [if_neg hm']
theorem in_brackets {f : Nat} {tk : Tk} {l m : List Tk} {t : Tm} (h : parseF f .expr l = some (.ok (t, m))) (hk : tk.k = 5) (ht : tk.text = s_open) (hm : isT [s_shut] m = true) : parseF (f + 1) .unary (tk :: l) = some (.ok (t, m.tail)) := by
  have n : ∀ xs, inB xs s_open = false → ¬ isT xs (tk :: l) = true := fun xs hx => by simp [isT, ht, hx]
  have c : ¬ isT [s_comma] m = true := by
    obtain ⟨u, r, rfl, -, hu, hu'⟩ := isT_ne hm
    simp at hu
    simp only [isT, hu]
    simp only [show inB [s_comma] s_shut = false by decide +kernel]
    simp
  unfold parseF
  rw [if_neg (n _ (by decide +kernel)), if_neg (n _ (by decide +kernel)), if_neg (by simp [kindT, hk]), if_neg (by simp [kindT, hk])]
  rw [show getW s_open (tk :: l) = .ok ((), l) by unfold getW; rw [if_pos (by simp only [isT, hk, ht]; decide +kernel)]; rfl, andThen_ok, h, andThen_ok, if_neg c]
  rw [show getW s_shut m = .ok ((), m.tail) by unfold getW; rw [if_pos hm], andThen_ok]
def looseT (op : Int) : Nat := if op = 1 ∨ op = 2 then 3 else if op = 3 then 4 else 2
def Hd.part (h : Hd) : Nat := if h.k = 11 ∨ h.k = 12 ∨ h.k = 13 ∨ h.k = 14 ∨ h.k = 16 then 0 else if h.k = 8 then 1 else if h.k = 10 then 5 else if h.k = 9 then looseT h.op else 6
abbrev Wk := Int × ByteArray
def opS (op : Int) : ByteArray := if op = 1 then s_plus else if op = 2 then s_minus else if op = 3 then s_star else if op = 4 then s_less else s_eq
def preW (k : Int) : Wk := if k = 4 then (4, w_fst) else if k = 5 then (4, w_snd) else if k = 6 then (4, w_ref) else (5, s_bang)
def kidW (ps : List Nat) (ws : List (List Wk)) (i pt : Nat) : List Wk := if ps.getD i 6 < pt then (5, s_open) :: (ws.getD i [] ++ [(5, s_shut)]) else ws.getD i []
def layW (h : Hd) (K : Nat → Nat → List Wk) : List Wk :=
  if h.k = 1 then [(1, bs (Lib.decDigits h.n.toNat))]
  else if h.k = 2 then [(2, h.name)]
  else if h.k = 3 then (5, s_open) :: (K 0 0 ++ (5, s_comma) :: (K 1 0 ++ [(5, s_shut)]))
  else if h.k = 8 then K 0 2 ++ (5, s_set) :: K 1 2
  else if h.k = 9 then K 0 (if looseT h.op = 2 then 3 else looseT h.op) ++ (5, opS h.op) :: K 1 (looseT h.op + 1)
  else if h.k = 10 then K 0 5 ++ K 1 6
  else if h.k = 11 then (4, w_fn) :: (2, h.arg) :: (5, s_to) :: K 0 0
  else if h.k = 12 then (4, w_let) :: (2, h.name) :: (5, s_eq) :: (K 0 0 ++ (4, w_in) :: K 1 0)
  else if h.k = 13 then (4, w_letrec) :: (2, h.name) :: (2, h.arg) :: (5, s_eq) :: (K 0 0 ++ (4, w_in) :: K 1 0)
  else if h.k = 14 then (4, w_if) :: (K 0 0 ++ (4, w_then) :: (K 1 0 ++ (4, w_else) :: K 2 0))
  else if h.k = 15 then (4, w_raise) :: (3, h.exn) :: K 0 6
  else if h.k = 16 then (4, w_try) :: (K 0 0 ++ (4, w_with) :: (3, h.exn) :: (2, h.arg) :: (5, s_to) :: K 1 0)
  else preW h.k :: K 0 6
def Tm.part (t : Tm) : Nat := t.head.part
mutual
def Tm.wk : Tm → List Wk
  | .mk h l => layW h (kidW (l.map Tm.part) (Tm.wks l))
def Tm.wks : List Tm → List (List Wk)
  | [] => []
  | t :: l => t.wk :: Tm.wks l
end
def Tm.kw (t : Tm) (pt : Nat) : List Wk := if t.part < pt then (5, s_open) :: (t.wk ++ [(5, s_shut)]) else t.wk
theorem Tm.wks_eq (l : List Tm) : Tm.wks l = l.map Tm.wk := by
  induction l with
  | nil => rfl
  | cons t l ih => simp [Tm.wks, ih]
theorem kidW_at {l : List Tm} {i : Nat} {t : Tm} (h : l[i]? = some t) (pt : Nat) : kidW (l.map Tm.part) (Tm.wks l) i pt = t.kw pt := by
  unfold kidW Tm.kw
  rw [Tm.wks_eq]
  simp [List.getD, h]
theorem Tm.kw0 (t : Tm) : t.kw 0 = t.wk := by simp [Tm.kw]
def AsW (l : List Tk) (ws : List Wk) (r : List Tk) : Prop := ∃ q, l = q ++ r ∧ q.map (fun t => (t.k, t.text)) = ws
theorem AsW.cons {l r : List Tk} {w : Wk} {ws : List Wk} (h : AsW l (w :: ws) r) : ∃ t l', l = t :: l' ∧ t.k = w.1 ∧ t.text = w.2 ∧ AsW l' ws r := by
  obtain ⟨q, rfl, e⟩ := h
  cases q with
  | nil => simp at e
  | cons t q =>
    simp only [List.map_cons, List.cons.injEq] at e
    exact ⟨t, q ++ r, rfl, by rw [← e.1], by rw [← e.1], q, rfl, e.2⟩
theorem AsW.nil {l r : List Tk} (h : AsW l [] r) : l = r := by
  obtain ⟨q, rfl, e⟩ := h
  simp at e
  simp [e]
theorem AsW.append {l r : List Tk} {ws vs : List Wk} (h : AsW l (ws ++ vs) r) : ∃ m, AsW l ws m ∧ AsW m vs r := by
  obtain ⟨q, rfl, e⟩ := h
  obtain ⟨q1, q2, rfl, e1, e2⟩ := List.map_eq_append_iff.1 e
  exact ⟨q2 ++ r, ⟨q1, by simp, e1⟩, ⟨q2, rfl, e2⟩⟩
structure StopsAt (p : Nat) (r : List Tk) : Prop where
  sign : ∀ k, k < 4 → p ≤ k + 1 → isT (signsL k) r = false
  begins : p ≤ 5 → beginsT r = false
theorem StopsAt.mono {p q : Nat} {r : List Tk} (h : StopsAt p r) (hq : p ≤ q) : StopsAt q r := ⟨fun k hk e => h.sign k hk (by omega), fun e => h.begins (by omega)⟩
def ntP : Nat → NT
  | 0 => .expr
  | 6 => .unary
  | k + 1 => .lvl k
def Gets (nt : NT) (l : List Tk) (t : Tm) (r : List Tk) : Prop := ∃ f t', parseF f nt l = some (.ok (t', r)) ∧ t'.same t = true
structure Good (ws : List Wk) (t : Tm) (q : Nat) : Prop where
  get : ∀ p, p ≤ q → ∀ l r, AsW l ws r → StopsAt p r → Gets (ntP p) l t r
  more : ∀ k, (k = 2 ∨ k = 3) → k + 1 ≤ q → ∀ l r, AsW l ws r → StopsAt (k + 2) r → ∃ t', t'.same t = true ∧ ∀ g x, parseF g (.more k t') r = some x → ∃ f, parseF f (.lvl k) l = some x
  args : 5 ≤ q → ∀ l r, AsW l ws r → ∃ t', t'.same t = true ∧ ∀ g x, parseF g (.args t') r = some x → ∃ f, parseF f (.lvl 4) l = some x
  begins : 1 ≤ q → ∀ l r, AsW l ws r → beginsT l = true
theorem Good.mono {ws : List Wk} {t : Tm} {q q' : Nat} (h : Good ws t q) (hq : q' ≤ q) : Good ws t q' := ⟨fun p hp => h.get p (by omega), fun k hk e => h.more k hk (by omega), fun e => h.args (by omega), fun e => h.begins (by omega)⟩
theorem andThen_some {α β : Type} {r : Option (Res α)} {a : α} {l : List Tk} {k : α → List Tk → Option (Res β)} {x : Res β} (h : r = some (.ok (a, l))) (hk : k a l = some x) : andThen r k = some x := by rw [h]; exact hk
theorem begins_first {l : List Tk} (h : beginsT l = true) : isT [w_let] l = false ∧ isT [w_letrec] l = false ∧ isT [w_fn] l = false ∧ isT [w_if] l = false ∧ isT [w_try] l = false := by
  cases l with
  | nil => simp [isT]
  | cons t l =>
    unfold beginsT at h
    simp only [kindT, isT, Bool.or_eq_true, beq_iff_eq, Bool.and_eq_true] at h
    simp only [isT]
    rcases h with h | h | ⟨-, h⟩
    · simp [h]
    · simp [h]
    · have h := (inB_iff _ _).1 h
      have key : ∀ x, x ∈ [s_bang, w_ref, w_fst, w_snd, w_raise, s_open] → inB [w_let] x = false ∧ inB [w_letrec] x = false ∧ inB [w_fn] x = false ∧ inB [w_if] x = false ∧ inB [w_try] x = false := by decide +kernel
      obtain ⟨a1, a2, a3, a4, a5⟩ := key _ h
      simp [a1, a2, a3, a4, a5]
theorem up_from {l r : List Tk} {t : Tm} (hb : beginsT l = true) : ∀ (d p q : Nat), p + d = q → q ≤ 6 → Gets (ntP q) l t r → StopsAt p r → Gets (ntP p) l t r := by
  intro d
  induction d with
  | zero => intro p q e _ h _; obtain rfl : p = q := (by omega); exact h
  | succ d ih =>
    intro p q e hq h hs
    obtain ⟨f, t', h1, h2⟩ := ih (p + 1) q (by omega) hq h (hs.mono (by omega))
    match p, e, hs, h1 with
    | 0, e, hs, h1 =>
      obtain ⟨a1, a2, a3, a4, a5⟩ := begins_first hb
      refine ⟨f + 1, t', ?_, h2⟩
      simp only [ntP, parseF, a1, a2, a3, a4, a5, Bool.false_eq_true, if_false]
      exact h1
    | p + 6, e, hs, h1 => exact absurd e (by omega)
    | 5, e, hs, h1 => exact ⟨f + 2, t', up_args h1 (hs.begins (by omega)), h2⟩
    | 1, e, hs, h1 => exact ⟨f + 2, t', up_lvl (k := 0) (by omega) (parseF_mono1 f _ _ _ h1) (hs.sign 0 (by omega) (by omega)), h2⟩
    | 2, e, hs, h1 => exact ⟨f + 2, t', up_lvl (k := 1) (by omega) (parseF_mono1 f _ _ _ h1) (hs.sign 1 (by omega) (by omega)), h2⟩
    | 3, e, hs, h1 => exact ⟨f + 2, t', up_lvl (k := 2) (by omega) (parseF_mono1 f _ _ _ h1) (hs.sign 2 (by omega) (by omega)), h2⟩
    | 4, e, hs, h1 => exact ⟨f + 2, t', up_lvl (k := 3) (by omega) (parseF_mono1 f _ _ _ h1) (hs.sign 3 (by omega) (by omega)), h2⟩
theorem getK_at {k : Int} {x : ByteArray} {l r : List Tk} {ws : List Wk} (h : AsW l ((k, x) :: ws) r) : ∃ l', getK k l = .ok (x, l') ∧ AsW l' ws r := by
  obtain ⟨t, l', rfl, h1, h2, h3⟩ := h.cons
  exact ⟨l', by simp [getK, h1, h2], h3⟩
theorem isT_at {k : Int} (hk : k = 4 ∨ k = 5) {x : ByteArray} {l r : List Tk} {ws : List Wk} (h : AsW l ((k, x) :: ws) r) (xs : List ByteArray) : isT xs l = inB xs x := by
  obtain ⟨t, l', rfl, h1, h2, h3⟩ := h.cons
  simp only at h1 h2
  rcases hk with rfl | rfl <;> simp [isT, h1, h2]
theorem kind_at {k : Int} {x : ByteArray} {l r : List Tk} {ws : List Wk} (h : AsW l ((k, x) :: ws) r) : kindT l = k ∧ textT l = x ∧ AsW l.tail ws r := by
  obtain ⟨t, l', rfl, h1, h2, h3⟩ := h.cons
  exact ⟨h1, h2, h3⟩
theorem getW_at {k : Int} (hk : k = 4 ∨ k = 5) {x : ByteArray} {l r : List Tk} {ws : List Wk} (h : AsW l ((k, x) :: ws) r) : ∃ l', getW x l = .ok ((), l') ∧ AsW l' ws r := by
  refine ⟨l.tail, ?_, (kind_at h).2.2⟩
  unfold getW
  rw [isT_at hk h, if_pos ((inB_iff _ _).2 (by simp))]
def stopW (x : ByteArray) : Bool := (List.range 4).all (fun k => !inB (signsL k) x) && !inB [s_bang, w_ref, w_fst, w_snd, w_raise, s_open] x
theorem stops_at {k : Int} (hk : k = 4 ∨ k = 5) {x : ByteArray} (hx : stopW x = true) {l r : List Tk} {ws : List Wk} (h : AsW l ((k, x) :: ws) r) (p : Nat) : StopsAt p l := by
  simp only [stopW, Bool.and_eq_true, List.all_eq_true, List.mem_range, Bool.not_eq_true'] at hx
  refine ⟨fun j hj _ => by rw [isT_at hk h]; exact hx.1 j hj, fun _ => ?_⟩
  unfold beginsT
  rw [isT_at hk h, (kind_at h).1, hx.2]
  rcases hk with rfl | rfl <;> rfl
theorem sign_stops {x : ByteArray} {l r : List Tk} {ws : List Wk} (h : AsW l ((5, x) :: ws) r) (p : Nat) (hp : ∀ k, k < 4 → p ≤ k + 1 → inB (signsL k) x = false) (hb : inB [s_bang, w_ref, w_fst, w_snd, w_raise, s_open] x = false) : StopsAt p l := by
  refine ⟨fun j hj hq => by rw [isT_at (.inr rfl) h]; exact hp j hj hq, fun _ => ?_⟩
  unfold beginsT
  rw [isT_at (.inr rfl) h, (kind_at h).1, hb]
  rfl
def MoreAt (ws : List Wk) (t : Tm) (k : Nat) : Prop := ∀ l r, AsW l ws r → StopsAt (k + 2) r → ∃ t', t'.same t = true ∧ ∀ g x, parseF g (.more k t') r = some x → ∃ f, parseF f (.lvl k) l = some x
def ArgsAt (ws : List Wk) (t : Tm) : Prop := ∀ l r, AsW l ws r → ∃ t', t'.same t = true ∧ ∀ g x, parseF g (.args t') r = some x → ∃ f, parseF f (.lvl 4) l = some x
theorem Good.build {ws : List Wk} {t : Tm} {q : Nat} (h1 : 1 ≤ q) (h6 : q ≤ 6) (hb : ∀ l r, AsW l ws r → beginsT l = true) (hg : ∀ l r, AsW l ws r → StopsAt q r → Gets (ntP q) l t r) (hm : ∀ k, (k = 2 ∨ k = 3) → k + 1 = q → MoreAt ws t k) (ha : q = 5 → ArgsAt ws t) : Good ws t q where
  get p hp l r hA hs := up_from (hb l r hA) (q - p) p q (by omega) h6 (hg l r hA (hs.mono hp)) hs
  more k hk hq l r hA hs := by
    rcases Nat.lt_or_ge (k + 1) q with hl | hl
    · obtain ⟨f, t', e1, e2⟩ := up_from (hb l r hA) (q - (k + 2)) (k + 2) q (by omega) h6 (hg l r hA (hs.mono (by omega))) hs
      refine ⟨t', e2, fun g x hx => ⟨max f g + 1, ?_⟩⟩
      rcases hk with rfl | rfl
      · simp only [parseF, show ¬ (2 < 2) by omega, show 2 < 4 by omega, if_true, if_false]
        exact andThen_some (parseF_mono (Nat.le_max_left f g) e1) (parseF_mono (Nat.le_max_right f g) hx)
      · simp only [parseF, show ¬ (3 < 2) by omega, show 3 < 4 by omega, if_true, if_false]
        exact andThen_some (parseF_mono (Nat.le_max_left f g) e1) (parseF_mono (Nat.le_max_right f g) hx)
    · exact hm k hk (by omega) l r hA hs
  args hq l r hA := by
    rcases Nat.lt_or_ge 5 q with hl | hl
    · obtain rfl : q = 6 := by omega
      obtain ⟨f, t', e1, e2⟩ := hg l r hA ⟨fun k hk e => absurd e (by omega), fun e => absurd e (by omega)⟩
      refine ⟨t', e2, fun g x hx => ⟨max f g + 1, ?_⟩⟩
      simp only [parseF, show ¬ (4 < 2) by omega, show ¬ (4 < 4) by omega, if_false]
      exact andThen_some (parseF_mono (Nat.le_max_left f g) e1) (parseF_mono (Nat.le_max_right f g) hx)
    · exact ha (by omega) l r hA
  begins _ l r hA := hb l r hA
theorem Good.unary {ws : List Wk} {t : Tm} (h : ∀ l r, AsW l ws r → Gets .unary l t r) (hb : ∀ l r, AsW l ws r → beginsT l = true) : Good ws t 6 :=
  Good.build (by omega) (by omega) hb (fun l r hA _ => h l r hA) (fun k hk e => absurd e (by omega)) (fun e => absurd e (by omega))
theorem Good.expr {ws : List Wk} {t : Tm} (h : ∀ l r, AsW l ws r → StopsAt 0 r → Gets .expr l t r) : Good ws t 0 where
  get p hp l r hA hs := by obtain rfl : p = 0 := (by omega); exact h l r hA hs
  more k _ hq := absurd hq (by omega)
  args hq := absurd hq (by omega)
  begins hq := absurd hq (by omega)
theorem Good.brackets {ws : List Wk} {t : Tm} (h : Good ws t 0) : Good ((5, s_open) :: (ws ++ [(5, s_shut)])) t 6 := by
  refine Good.unary (fun l r ha => ?_) (fun l r ha => ?_)
  · have hk := kind_at ha
    obtain ⟨m, h1, h2⟩ := hk.2.2.append
    obtain ⟨f, t', h3, h4⟩ := h.get 0 (Nat.le_refl _) _ _ h1 (stops_at (.inr rfl) (by decide +kernel) h2 0)
    have h5 := isT_at (.inr rfl) h2 [s_shut]
    have h6 : m.tail = r := (kind_at h2).2.2.nil
    obtain ⟨u, l', rfl, e1, e2, -⟩ := ha.cons
    refine ⟨f + 1, t', ?_, h4⟩
    have := in_brackets h3 e1 e2 (by rw [h5]; decide +kernel)
    rw [h6] at this
    exact this
  · unfold beginsT
    rw [isT_at (.inr rfl) ha]
    simp [show inB [s_bang, w_ref, w_fst, w_snd, w_raise, s_open] s_open = true from by decide +kernel]
theorem Good.kid {t : Tm} (h : Good t.wk t t.part) (pt : Nat) (ha : pt ≤ 6) : Good (t.kw pt) t pt := by
  unfold Tm.kw
  split
  · exact (h.mono (Nat.zero_le _)).brackets.mono ha
  · exact h.mono (by omega)
def Hd.at_ (h : Hd) (p : Int) : Hd := ⟨h.k, h.op, p, h.n, h.name, h.arg, h.exn⟩
theorem Hd.at_same (h : Hd) (p : Int) : (h.at_ p).same h = true := by simp [Hd.same, Hd.at_]
theorem fit_no {there : Bool} {s : ByteArray} {ok : Bool} (h : fitB there s ok = true) : (there = true → ok = true) ∧ (there = false → s = ByteArray.empty) := by
  unfold fitB at h
  cases there with
  | true => simp at h; exact ⟨fun _ => h, fun e => by cases e⟩
  | false =>
    simp at h
    exact ⟨fun e => (by cases e), fun _ => toList_inj (by rw [h, empty_list0])⟩
structure NodeOk (h : Hd) (l : List Tm) : Prop where
  ar : 0 ≤ karity h.k
  len : (l.length : Int) = karity h.k
  op9 : h.k = 9 → 1 ≤ h.op ∧ h.op ≤ 5
  op0 : h.k ≠ 9 → h.op = 0
  n0 : 0 ≤ h.n ∧ h.n ≤ 2147483647
  n1 : h.k ≠ 1 → h.n = 0
  name1 : h.hasName = true → isName h.name = true
  name0 : h.hasName = false → h.name = ByteArray.empty
  arg1 : h.hasArg = true → isName h.arg = true
  arg0 : h.hasArg = false → h.arg = ByteArray.empty
  exn1 : h.hasExn = true → isExn h.exn = true
  exn0 : h.hasExn = false → h.exn = ByteArray.empty
theorem node_ok {h : Hd} {l : List Tm} (hn : (Tm.mk h l).node = true) : NodeOk h l := by
  simp only [Tm.node, Tm.nums, Bool.and_eq_true, Bool.or_eq_true, decide_eq_true_eq] at hn
  obtain ⟨⟨h1, h2, h3, h4, h5, h6⟩, h7, h8, h9⟩ := hn
  refine ⟨h1, h2, fun e => ?_, fun e => ?_, h5, fun e => h6.resolve_left e, (fit_no h7).1, (fit_no h7).2, (fit_no h8).1, (fit_no h8).2, (fit_no h9).1, (fit_no h9).2⟩
  · rw [if_pos e] at h4; simpa using h4
  · rw [if_neg e] at h4; simpa using h4
theorem hd_eta (h : Hd) (k op p n : Int) (nm ar ex : ByteArray) (hk : h.k = k) (ho : h.op = op) (hn : h.n = n) (h1 : h.name = nm) (h2 : h.arg = ar) (h3 : h.exn = ex) : (⟨k, op, p, n, nm, ar, ex⟩ : Hd) = h.at_ p := by
  subst hk ho hn h1 h2 h3
  rfl
theorem begins_at {k : Int} (hk : k = 4 ∨ k = 5) {x : ByteArray} {l r : List Tk} {ws : List Wk} (h : AsW l ((k, x) :: ws) r) (hb : inB [s_bang, w_ref, w_fst, w_snd, w_raise, s_open] x = true) : beginsT l = true := by
  unfold beginsT
  rw [isT_at hk h, hb]
  simp
theorem good_num {h : Hd} (hk : h.k = 1) (ok : NodeOk h []) : Good [(1, bs (Lib.decDigits h.n.toNat))] (.mk h []) 6 := by
  refine Good.unary (fun l r hA => ?_) (fun l r hA => ?_)
  · obtain ⟨h1, h2, h3⟩ := kind_at hA
    obtain rfl := h3.nil
    obtain ⟨u, l', rfl, e1, e2, -⟩ := hA.cons
    refine ⟨1, .mk (h.at_ u.pos) [], ?_, same0 (Hd.at_same _ _)⟩
    have i1 : ∀ xs, isT xs (u :: l') = false := fun xs => by simp [isT, e1]
    have hn : numV u.text = h.n := by
      rw [e2]
      unfold numV
      have h0 := ok.n0
      rw [bs_list, okN_digits, if_pos (by simp; omega), (decDigits_back _).2]
      omega
    have e := hd_eta h 1 0 u.pos h.n ByteArray.empty ByteArray.empty ByteArray.empty hk (ok.op0 (by omega)) rfl (ok.name0 (by simp [Hd.hasName, hk])) (ok.arg0 (by simp [Hd.hasArg, hk])) (ok.exn0 (by simp [Hd.hasExn, hk]))
    simp only [parseF, i1, Bool.false_eq_true, if_false, h1, if_true]
    show some (Except.ok (Tm.mk ⟨1, 0, u.pos, numV u.text, ByteArray.empty, ByteArray.empty, ByteArray.empty⟩ [], l')) = _
    rw [hn, e]
    rfl
  · unfold beginsT; rw [(kind_at hA).1]; rfl
theorem good_var {h : Hd} (hk : h.k = 2) (ok : NodeOk h []) : Good [(2, h.name)] (.mk h []) 6 := by
  refine Good.unary (fun l r hA => ?_) (fun l r hA => ?_)
  · obtain ⟨h1, h2, h3⟩ := kind_at hA
    obtain rfl := h3.nil
    obtain ⟨u, l', rfl, e1, e2, -⟩ := hA.cons
    refine ⟨1, .mk (h.at_ u.pos) [], ?_, same0 (Hd.at_same _ _)⟩
    have i1 : ∀ xs, isT xs (u :: l') = false := fun xs => by simp [isT, e1]
    have e := hd_eta h 2 0 u.pos 0 u.text ByteArray.empty ByteArray.empty hk (ok.op0 (by omega)) (ok.n1 (by omega)) (by rw [e2]) (ok.arg0 (by simp [Hd.hasArg, hk])) (ok.exn0 (by simp [Hd.hasExn, hk]))
    simp only [parseF, i1, Bool.false_eq_true, if_false, h1, if_true]
    show some (Except.ok (Tm.mk ⟨2, 0, u.pos, 0, u.text, ByteArray.empty, ByteArray.empty⟩ [], l')) = _
    rw [e]
    rfl
  · unfold beginsT; rw [(kind_at hA).1]; rfl
theorem good_pair {h : Hd} {a b : Tm} (hk : h.k = 3) (ok : NodeOk h [a, b]) (ga : Good a.wk a a.part) (gb : Good b.wk b b.part) : Good ((5, s_open) :: (a.wk ++ (5, s_comma) :: (b.wk ++ [(5, s_shut)]))) (.mk h [a, b]) 6 := by
  refine Good.unary (fun l r hA => ?_) (fun l r hA => begins_at (.inr rfl) hA (by decide +kernel))
  obtain ⟨h1, h2, h3⟩ := kind_at hA
  have i0 := isT_at (.inr rfl) hA
  obtain ⟨l1, e1, A1⟩ := getW_at (.inr rfl) hA
  obtain ⟨m, A2, A3⟩ := A1.append
  obtain ⟨f, a', p1, s1⟩ := ga.get 0 (Nat.zero_le _) _ _ A2 (stops_at (.inr rfl) (by decide +kernel) A3 0)
  obtain ⟨-, -, A4⟩ := kind_at A3
  obtain ⟨m2, A5, A6⟩ := A4.append
  obtain ⟨g, b', p2, s2⟩ := gb.get 0 (Nat.zero_le _) _ _ A5 (stops_at (.inr rfl) (by decide +kernel) A6 0)
  obtain ⟨l4, e4, A7⟩ := getW_at (.inr rfl) A6
  obtain rfl := A7.nil
  have i3 := isT_at (.inr rfl) A3 [s_comma]
  refine ⟨max f g + 1, .mk (h.at_ (posT l)) [a', b'], ?_, same2 (Hd.at_same _ _) s1 s2⟩
  have e := hd_eta h 3 0 (posT l) 0 ByteArray.empty ByteArray.empty ByteArray.empty hk (ok.op0 (by omega)) (ok.n1 (by omega)) (ok.name0 (by simp [Hd.hasName, hk])) (ok.arg0 (by simp [Hd.hasArg, hk])) (ok.exn0 (by simp [Hd.hasExn, hk]))
  rw [← e]
  simp only [parseF, i0, h1, show inB [s_bang, w_ref, w_fst, w_snd] s_open = false by decide +kernel, show inB [w_raise] s_open = false by decide +kernel, Bool.false_eq_true, if_false, show ¬ ((5 : Int) = 1) by omega, show ¬ ((5 : Int) = 2) by omega]
  refine andThen_some (congrArg some e1) (andThen_some (parseF_mono (Nat.le_max_left f g) p1) ?_)
  rw [i3, if_pos (by decide +kernel)]
  exact andThen_some (parseF_mono (Nat.le_max_right f g) p2) (andThen_some (congrArg some e4) rfl)
theorem good_pre {h : Hd} {a : Tm} (hk : h.k = 4 ∨ h.k = 5 ∨ h.k = 6 ∨ h.k = 7) (ok : NodeOk h [a]) (ga : Good (a.kw 6) a 6) : Good (preW h.k :: a.kw 6) (.mk h [a]) 6 := by
  have key : ∃ (c : Int) (x : ByteArray), (c = 4 ∨ c = 5) ∧ preW h.k = (c, x) ∧ preK x = h.k ∧ inB [s_bang, w_ref, w_fst, w_snd] x = true ∧ inB [s_bang, w_ref, w_fst, w_snd, w_raise, s_open] x = true := by
    rcases hk with e | e | e | e <;> rw [e]
    · exact ⟨4, w_fst, .inl rfl, rfl, by decide +kernel⟩
    · exact ⟨4, w_snd, .inl rfl, rfl, by decide +kernel⟩
    · exact ⟨4, w_ref, .inl rfl, rfl, by decide +kernel⟩
    · exact ⟨5, s_bang, .inr rfl, rfl, by decide +kernel⟩
  obtain ⟨c, x, hc, ew, ek, hi, hb⟩ := key
  rw [ew]
  refine Good.unary (fun l r hA => ?_) (fun l r hA => begins_at hc hA hb)
  obtain ⟨h1, h2, h3⟩ := kind_at hA
  have i0 := isT_at hc hA
  obtain ⟨f, a', p1, s1⟩ := ga.get 6 (Nat.le_refl _) _ _ h3 ⟨fun k hk e => absurd e (by omega), fun e => absurd e (by omega)⟩
  refine ⟨f + 1, .mk (h.at_ (posT l)) [a'], ?_, same1 (Hd.at_same _ _) s1⟩
  have e := hd_eta h h.k 0 (posT l) 0 ByteArray.empty ByteArray.empty ByteArray.empty rfl (ok.op0 (by omega)) (ok.n1 (by omega)) (ok.name0 (by rcases hk with e | e | e | e <;> simp [Hd.hasName, e])) (ok.arg0 (by rcases hk with e | e | e | e <;> simp [Hd.hasArg, e])) (ok.exn0 (by rcases hk with e | e | e | e <;> simp [Hd.hasExn, e]))
  rw [← e]
  simp only [parseF, i0, hi, if_true, h2, ek]
  exact andThen_some p1 rfl
theorem good_raise {h : Hd} {a : Tm} (hk : h.k = 15) (ok : NodeOk h [a]) (ga : Good (a.kw 6) a 6) : Good ((4, w_raise) :: (3, h.exn) :: a.kw 6) (.mk h [a]) 6 := by
  refine Good.unary (fun l r hA => ?_) (fun l r hA => begins_at (.inl rfl) hA (by decide +kernel))
  obtain ⟨h1, h2, h3⟩ := kind_at hA
  have i0 := isT_at (.inl rfl) hA
  obtain ⟨l1, e1, A1⟩ := getK_at h3
  obtain ⟨f, a', p1, s1⟩ := ga.get 6 (Nat.le_refl _) _ _ A1 ⟨fun k hk e => absurd e (by omega), fun e => absurd e (by omega)⟩
  refine ⟨f + 1, .mk (h.at_ (posT l)) [a'], ?_, same1 (Hd.at_same _ _) s1⟩
  have e := hd_eta h 15 0 (posT l) 0 ByteArray.empty ByteArray.empty h.exn hk (ok.op0 (by omega)) (ok.n1 (by omega)) (ok.name0 (by simp [Hd.hasName, hk])) (ok.arg0 (by simp [Hd.hasArg, hk])) rfl
  rw [← e]
  simp only [parseF, i0, show inB [s_bang, w_ref, w_fst, w_snd] w_raise = false by decide +kernel, show inB [w_raise] w_raise = true by decide +kernel, Bool.false_eq_true, if_false, if_true]
  exact andThen_some (congrArg some e1) (andThen_some p1 rfl)
theorem put_at {x : ByteArray} {a b a' b' : Tm} {h : Hd} (hx : x ≠ s_set) (hk : h.k = 9) (ho : h.op = opOf x) (ok : NodeOk h [a, b]) (s1 : a'.same a = true) (s2 : b'.same b = true) : (putT x a' b').same (.mk h [a, b]) = true := by
  have e := hd_eta h 9 (opOf x) a'.head.pos 0 ByteArray.empty ByteArray.empty ByteArray.empty hk ho (ok.n1 (by omega)) (ok.name0 (by simp [Hd.hasName, hk])) (ok.arg0 (by simp [Hd.hasArg, hk])) (ok.exn0 (by simp [Hd.hasExn, hk]))
  unfold putT
  rw [if_neg hx]
  show (Tm.mk ⟨9, opOf x, a'.head.pos, 0, ByteArray.empty, ByteArray.empty, ByteArray.empty⟩ [a', b']).same _ = true
  rw [e]
  exact same2 (Hd.at_same _ _) s1 s2
theorem begins_app {ws vs : List Wk} {l r : List Tk} (h : ∀ l r, AsW l ws r → beginsT l = true) (hA : AsW l (ws ++ vs) r) : beginsT l = true := by
  obtain ⟨m, A1, -⟩ := hA.append
  exact h _ _ A1
theorem good_left {h : Hd} {a b : Tm} {x : ByteArray} {k : Nat} (hk : k = 2 ∨ k = 3) (hx : inB (signsL k) x = true) (h9 : h.k = 9) (ho : h.op = opOf x) (ok : NodeOk h [a, b]) (ga : Good (a.kw (k + 1)) a (k + 1)) (gb : Good (b.kw (k + 2)) b (k + 2)) :
    Good (a.kw (k + 1) ++ (5, x) :: b.kw (k + 2)) (.mk h [a, b]) (k + 1) := by
  have key : x ≠ s_set ∧ (∀ j, j < 4 → k + 2 ≤ j + 1 → inB (signsL j) x = false) ∧ inB [s_bang, w_ref, w_fst, w_snd, w_raise, s_open] x = false := by
    have hm := (inB_iff _ _).1 hx
    rcases hk with rfl | rfl
    · have : ∀ x, x ∈ signsL 2 → x ≠ s_set ∧ inB (signsL 3) x = false ∧ inB [s_bang, w_ref, w_fst, w_snd, w_raise, s_open] x = false := by decide +kernel
      obtain ⟨k1, k2, k3⟩ := this x hm
      refine ⟨k1, fun j h1 h2 => ?_, k3⟩
      obtain rfl : j = 3 := by omega
      exact k2
    · have : ∀ x, x ∈ signsL 3 → x ≠ s_set ∧ inB [s_bang, w_ref, w_fst, w_snd, w_raise, s_open] x = false := by decide +kernel
      obtain ⟨k1, k3⟩ := this x hm
      exact ⟨k1, fun j h1 h2 => by omega, k3⟩
  obtain ⟨kx, kj, kb⟩ := key
  have hb : ∀ l r, AsW l (a.kw (k + 1) ++ (5, x) :: b.kw (k + 2)) r → beginsT l = true := fun l r hA => begins_app (fun l r => ga.begins (by omega) l r) hA
  have core : MoreAt (a.kw (k + 1) ++ (5, x) :: b.kw (k + 2)) (.mk h [a, b]) k := by
    intro l r hA hs
    obtain ⟨m, A1, A2⟩ := hA.append
    obtain ⟨a', s1, Ha⟩ := ga.more k hk (Nat.le_refl _) _ _ A1 (sign_stops A2 _ kj kb)
    obtain ⟨e1, e2, A3⟩ := kind_at A2
    obtain ⟨f, b', p2, s2⟩ := gb.get (k + 2) (Nat.le_refl _) _ _ A3 hs
    refine ⟨putT x a' b', put_at kx h9 ho ok s1 s2, fun g y hy => Ha (max f g + 1) y ?_⟩
    simp only [parseF, isT_at (.inr rfl) A2, hx, if_true, e2]
    have p2 : parseF f (.lvl (k + 1)) m.tail = some (.ok (b', r)) := by rcases hk with rfl | rfl <;> exact p2
    exact andThen_some (parseF_mono (Nat.le_max_left f g) p2) (parseF_mono (Nat.le_max_right f g) hy)
  refine Good.build (by omega) (by omega) hb (fun l r hA hs => ?_) (fun j hj e => by obtain rfl : j = k := (by omega); exact core) (fun e => by omega)
  obtain ⟨t', s, H⟩ := core l r hA (hs.mono (by omega))
  obtain ⟨f, hf⟩ := H 1 (.ok (t', r)) (by simp only [parseF, hs.sign k (by omega) (by omega), Bool.false_eq_true, if_false])
  exact ⟨f, t', by rcases hk with rfl | rfl <;> exact hf, s⟩
theorem good_one {h : Hd} {a b : Tm} {x : ByteArray} {k : Nat} (hk : k = 0 ∨ k = 1) (hx : inB (signsL k) x = true) (hs' : ∀ a' b' : Tm, a'.same a = true → b'.same b = true → (putT x a' b').same (.mk h [a, b]) = true) (ga : Good (a.kw (k + 2)) a (k + 2)) (gb : Good (b.kw (k + 2)) b (k + 2)) :
    Good (a.kw (k + 2) ++ (5, x) :: b.kw (k + 2)) (.mk h [a, b]) (k + 1) := by
  have key : (∀ j, j < 4 → k + 2 ≤ j + 1 → inB (signsL j) x = false) ∧ inB [s_bang, w_ref, w_fst, w_snd, w_raise, s_open] x = false := by
    have hm := (inB_iff _ _).1 hx
    rcases hk with rfl | rfl
    · have : ∀ x, x ∈ signsL 0 → (inB (signsL 1) x = false ∧ inB (signsL 2) x = false ∧ inB (signsL 3) x = false) ∧ inB [s_bang, w_ref, w_fst, w_snd, w_raise, s_open] x = false := by decide +kernel
      obtain ⟨⟨k1, k2, k4⟩, k3⟩ := this x hm
      refine ⟨fun j h1 h2 => ?_, k3⟩
      have : j = 1 ∨ j = 2 ∨ j = 3 := by omega
      rcases this with rfl | rfl | rfl <;> assumption
    · have : ∀ x, x ∈ signsL 1 → (inB (signsL 2) x = false ∧ inB (signsL 3) x = false) ∧ inB [s_bang, w_ref, w_fst, w_snd, w_raise, s_open] x = false := by decide +kernel
      obtain ⟨⟨k1, k2⟩, k3⟩ := this x hm
      refine ⟨fun j h1 h2 => ?_, k3⟩
      have : j = 2 ∨ j = 3 := by omega
      rcases this with rfl | rfl <;> assumption
  obtain ⟨kj, kb⟩ := key
  refine Good.build (by omega) (by omega) (fun l r hA => begins_app (fun l r => ga.begins (by omega) l r) hA) (fun l r hA hs => ?_) (fun j hj e => by omega) (fun e => by omega)
  obtain ⟨m, A1, A2⟩ := hA.append
  obtain ⟨f, a', p1, s1⟩ := ga.get (k + 2) (Nat.le_refl _) _ _ A1 (sign_stops A2 _ kj kb)
  obtain ⟨e1, e2, A3⟩ := kind_at A2
  obtain ⟨g, b', p2, s2⟩ := gb.get (k + 2) (Nat.le_refl _) _ _ A3 (hs.mono (by omega))
  have p1 : parseF f (.lvl (k + 1)) l = some (.ok (a', m)) := by rcases hk with rfl | rfl <;> exact p1
  have p2 : parseF g (.lvl (k + 1)) m.tail = some (.ok (b', r)) := by rcases hk with rfl | rfl <;> exact p2
  refine ⟨max f g + 1, putT x a' b', ?_, hs' a' b' s1 s2⟩
  have e : ntP (k + 1) = .lvl k := by rcases hk with rfl | rfl <;> rfl
  rw [e]
  simp only [parseF, show k < 2 by omega, if_true]
  refine andThen_some (parseF_mono (Nat.le_max_left f g) p1) ?_
  simp only [isT_at (.inr rfl) A2, hx, if_true, e2]
  exact andThen_some (parseF_mono (Nat.le_max_right f g) p2) rfl
theorem good_app {h : Hd} {a b : Tm} (hk : h.k = 10) (ok : NodeOk h [a, b]) (ga : Good (a.kw 5) a 5) (gb : Good (b.kw 6) b 6) : Good (a.kw 5 ++ b.kw 6) (.mk h [a, b]) 5 := by
  have hb : ∀ l r, AsW l (a.kw 5 ++ b.kw 6) r → beginsT l = true := fun l r hA => begins_app (fun l r => ga.begins (by omega) l r) hA
  have core : ArgsAt (a.kw 5 ++ b.kw 6) (.mk h [a, b]) := by
    intro l r hA
    obtain ⟨m, A1, A2⟩ := hA.append
    obtain ⟨a', s1, Ha⟩ := ga.args (Nat.le_refl _) _ _ A1
    obtain ⟨f, b', p2, s2⟩ := gb.get 6 (Nat.le_refl _) _ _ A2 ⟨fun k hk e => absurd e (by omega), fun e => absurd e (by omega)⟩
    have e := hd_eta h 10 0 a'.head.pos 0 ByteArray.empty ByteArray.empty ByteArray.empty hk (ok.op0 (by omega)) (ok.n1 (by omega)) (ok.name0 (by simp [Hd.hasName, hk])) (ok.arg0 (by simp [Hd.hasArg, hk])) (ok.exn0 (by simp [Hd.hasExn, hk]))
    refine ⟨.mk (h.at_ a'.head.pos) [a', b'], same2 (Hd.at_same _ _) s1 s2, fun g y hy => Ha (max f g + 1) y ?_⟩
    rw [← e] at hy
    simp only [parseF, gb.begins (by omega) _ _ A2, if_true]
    exact andThen_some (parseF_mono (Nat.le_max_left f g) p2) (parseF_mono (Nat.le_max_right f g) hy)
  refine Good.build (by omega) (by omega) hb (fun l r hA hs => ?_) (fun j hj e => by omega) (fun _ => core)
  obtain ⟨t', s, H⟩ := core l r hA
  obtain ⟨f, hf⟩ := H 1 (.ok (t', r)) (by simp only [parseF, hs.begins (by omega), Bool.false_eq_true, if_false])
  exact ⟨f, t', hf, s⟩
theorem good_fn {h : Hd} {a : Tm} (hk : h.k = 11) (ok : NodeOk h [a]) (ga : Good a.wk a a.part) : Good ((4, w_fn) :: (2, h.arg) :: (5, s_to) :: a.wk) (.mk h [a]) 0 := by
  refine Good.expr fun l r hA hs => ?_
  obtain ⟨h1, h2, h3⟩ := kind_at hA
  have i0 := isT_at (.inl rfl) hA
  obtain ⟨l1, e1, A1⟩ := getK_at h3
  obtain ⟨l2, e2, A2⟩ := getW_at (.inr rfl) A1
  obtain ⟨f, a', p1, s1⟩ := ga.get 0 (Nat.zero_le _) _ _ A2 hs
  refine ⟨f + 1, .mk (h.at_ (posT l)) [a'], ?_, same1 (Hd.at_same _ _) s1⟩
  have e := hd_eta h 11 0 (posT l) 0 ByteArray.empty h.arg ByteArray.empty hk (ok.op0 (by omega)) (ok.n1 (by omega)) (ok.name0 (by simp [Hd.hasName, hk])) rfl (ok.exn0 (by simp [Hd.hasExn, hk]))
  rw [← e]
  simp only [parseF, i0, show inB [w_let] w_fn = false by decide +kernel, show inB [w_letrec] w_fn = false by decide +kernel, show inB [w_fn] w_fn = true by decide +kernel, Bool.false_eq_true, if_false, if_true]
  exact andThen_some (congrArg some e1) (andThen_some (congrArg some e2) (andThen_some p1 rfl))
theorem good_let {h : Hd} {a b : Tm} (hk : h.k = 12) (ok : NodeOk h [a, b]) (ga : Good a.wk a a.part) (gb : Good b.wk b b.part) : Good ((4, w_let) :: (2, h.name) :: (5, s_eq) :: (a.wk ++ (4, w_in) :: b.wk)) (.mk h [a, b]) 0 := by
  refine Good.expr fun l r hA hs => ?_
  obtain ⟨h1, h2, h3⟩ := kind_at hA
  have i0 := isT_at (.inl rfl) hA
  obtain ⟨l1, e1, A1⟩ := getK_at h3
  obtain ⟨l2, e2, A2⟩ := getW_at (.inr rfl) A1
  obtain ⟨m, A3, A4⟩ := A2.append
  obtain ⟨f, a', p1, s1⟩ := ga.get 0 (Nat.zero_le _) _ _ A3 (stops_at (.inl rfl) (by decide +kernel) A4 0)
  obtain ⟨l4, e4, A5⟩ := getW_at (.inl rfl) A4
  obtain ⟨g, b', p2, s2⟩ := gb.get 0 (Nat.zero_le _) _ _ A5 hs
  refine ⟨max f g + 1, .mk (h.at_ (posT l)) [a', b'], ?_, same2 (Hd.at_same _ _) s1 s2⟩
  have e := hd_eta h 12 0 (posT l) 0 h.name ByteArray.empty ByteArray.empty hk (ok.op0 (by omega)) (ok.n1 (by omega)) rfl (ok.arg0 (by simp [Hd.hasArg, hk])) (ok.exn0 (by simp [Hd.hasExn, hk]))
  rw [← e]
  simp only [parseF, i0, show inB [w_let] w_let = true by decide +kernel, if_true]
  exact andThen_some (congrArg some e1) (andThen_some (congrArg some e2) (andThen_some (parseF_mono (Nat.le_max_left f g) p1) (andThen_some (congrArg some e4) (andThen_some (parseF_mono (Nat.le_max_right f g) p2) rfl))))
theorem good_letrec {h : Hd} {a b : Tm} (hk : h.k = 13) (ok : NodeOk h [a, b]) (ga : Good a.wk a a.part) (gb : Good b.wk b b.part) : Good ((4, w_letrec) :: (2, h.name) :: (2, h.arg) :: (5, s_eq) :: (a.wk ++ (4, w_in) :: b.wk)) (.mk h [a, b]) 0 := by
  refine Good.expr fun l r hA hs => ?_
  obtain ⟨h1, h2, h3⟩ := kind_at hA
  have i0 := isT_at (.inl rfl) hA
  obtain ⟨l0, e0, A0⟩ := getK_at h3
  obtain ⟨l1, e1, A1⟩ := getK_at A0
  obtain ⟨l2, e2, A2⟩ := getW_at (.inr rfl) A1
  obtain ⟨m, A3, A4⟩ := A2.append
  obtain ⟨f, a', p1, s1⟩ := ga.get 0 (Nat.zero_le _) _ _ A3 (stops_at (.inl rfl) (by decide +kernel) A4 0)
  obtain ⟨l4, e4, A5⟩ := getW_at (.inl rfl) A4
  obtain ⟨g, b', p2, s2⟩ := gb.get 0 (Nat.zero_le _) _ _ A5 hs
  refine ⟨max f g + 1, .mk (h.at_ (posT l)) [a', b'], ?_, same2 (Hd.at_same _ _) s1 s2⟩
  have e := hd_eta h 13 0 (posT l) 0 h.name h.arg ByteArray.empty hk (ok.op0 (by omega)) (ok.n1 (by omega)) rfl rfl (ok.exn0 (by simp [Hd.hasExn, hk]))
  rw [← e]
  simp only [parseF, i0, show inB [w_let] w_letrec = false by decide +kernel, show inB [w_letrec] w_letrec = true by decide +kernel, Bool.false_eq_true, if_false, if_true]
  exact andThen_some (congrArg some e0) (andThen_some (congrArg some e1) (andThen_some (congrArg some e2) (andThen_some (parseF_mono (Nat.le_max_left f g) p1) (andThen_some (congrArg some e4) (andThen_some (parseF_mono (Nat.le_max_right f g) p2) rfl)))))
theorem good_if {h : Hd} {a b c : Tm} (hk : h.k = 14) (ok : NodeOk h [a, b, c]) (ga : Good a.wk a a.part) (gb : Good b.wk b b.part) (gc : Good c.wk c c.part) : Good ((4, w_if) :: (a.wk ++ (4, w_then) :: (b.wk ++ (4, w_else) :: c.wk))) (.mk h [a, b, c]) 0 := by
  refine Good.expr fun l r hA hs => ?_
  obtain ⟨h1, h2, h3⟩ := kind_at hA
  have i0 := isT_at (.inl rfl) hA
  obtain ⟨m, A3, A4⟩ := h3.append
  obtain ⟨f, a', p1, s1⟩ := ga.get 0 (Nat.zero_le _) _ _ A3 (stops_at (.inl rfl) (by decide +kernel) A4 0)
  obtain ⟨l4, e4, A5⟩ := getW_at (.inl rfl) A4
  obtain ⟨m', A6, A7⟩ := A5.append
  obtain ⟨g, b', p2, s2⟩ := gb.get 0 (Nat.zero_le _) _ _ A6 (stops_at (.inl rfl) (by decide +kernel) A7 0)
  obtain ⟨l5, e5, A8⟩ := getW_at (.inl rfl) A7
  obtain ⟨j, c', p3, s3⟩ := gc.get 0 (Nat.zero_le _) _ _ A8 hs
  refine ⟨max f (max g j) + 1, .mk (h.at_ (posT l)) [a', b', c'], ?_, same3 (Hd.at_same _ _) s1 s2 s3⟩
  have e := hd_eta h 14 0 (posT l) 0 ByteArray.empty ByteArray.empty ByteArray.empty hk (ok.op0 (by omega)) (ok.n1 (by omega)) (ok.name0 (by simp [Hd.hasName, hk])) (ok.arg0 (by simp [Hd.hasArg, hk])) (ok.exn0 (by simp [Hd.hasExn, hk]))
  rw [← e]
  simp only [parseF, i0, show inB [w_let] w_if = false by decide +kernel, show inB [w_letrec] w_if = false by decide +kernel, show inB [w_fn] w_if = false by decide +kernel, show inB [w_if] w_if = true by decide +kernel, Bool.false_eq_true, if_false, if_true]
  exact andThen_some (parseF_mono (by omega) p1) (andThen_some (congrArg some e4) (andThen_some (parseF_mono (by omega) p2) (andThen_some (congrArg some e5) (andThen_some (parseF_mono (by omega) p3) rfl))))
theorem good_try {h : Hd} {a b : Tm} (hk : h.k = 16) (ok : NodeOk h [a, b]) (ga : Good a.wk a a.part) (gb : Good b.wk b b.part) : Good ((4, w_try) :: (a.wk ++ (4, w_with) :: (3, h.exn) :: (2, h.arg) :: (5, s_to) :: b.wk)) (.mk h [a, b]) 0 := by
  refine Good.expr fun l r hA hs => ?_
  obtain ⟨h1, h2, h3⟩ := kind_at hA
  have i0 := isT_at (.inl rfl) hA
  obtain ⟨m, A3, A4⟩ := h3.append
  obtain ⟨f, a', p1, s1⟩ := ga.get 0 (Nat.zero_le _) _ _ A3 (stops_at (.inl rfl) (by decide +kernel) A4 0)
  obtain ⟨l4, e4, A5⟩ := getW_at (.inl rfl) A4
  obtain ⟨l5, e5, A6⟩ := getK_at A5
  obtain ⟨l6, e6, A7⟩ := getK_at A6
  obtain ⟨l7, e7, A8⟩ := getW_at (.inr rfl) A7
  obtain ⟨g, b', p2, s2⟩ := gb.get 0 (Nat.zero_le _) _ _ A8 hs
  refine ⟨max f g + 1, .mk (h.at_ (posT l)) [a', b'], ?_, same2 (Hd.at_same _ _) s1 s2⟩
  have e := hd_eta h 16 0 (posT l) 0 ByteArray.empty h.arg h.exn hk (ok.op0 (by omega)) (ok.n1 (by omega)) (ok.name0 (by simp [Hd.hasName, hk])) rfl rfl
  rw [← e]
  simp only [parseF, i0, show inB [w_let] w_try = false by decide +kernel, show inB [w_letrec] w_try = false by decide +kernel, show inB [w_fn] w_try = false by decide +kernel, show inB [w_if] w_try = false by decide +kernel, show inB [w_try] w_try = true by decide +kernel, Bool.false_eq_true, if_false, if_true]
  exact andThen_some (parseF_mono (Nat.le_max_left f g) p1) (andThen_some (congrArg some e4) (andThen_some (congrArg some e5) (andThen_some (congrArg some e6) (andThen_some (congrArg some e7) (andThen_some (parseF_mono (Nat.le_max_right f g) p2) rfl)))))
theorem kids0 {l : List Tm} (h : (l.length : Int) = 0) : l = [] := by cases l with | nil => rfl | cons => simp at h; omega
theorem kids1 {l : List Tm} (h : (l.length : Int) = 1) : ∃ a, l = [a] := by
  match l, h with
  | [a], _ => exact ⟨a, rfl⟩
  | [], h => simp at h
  | _ :: _ :: _, h => simp at h; omega
theorem kids2 {l : List Tm} (h : (l.length : Int) = 2) : ∃ a b, l = [a, b] := by
  match l, h with
  | [a, b], _ => exact ⟨a, b, rfl⟩
  | [], h => simp at h
  | [_], h => simp at h
  | _ :: _ :: _ :: _, h => simp at h; omega
theorem kids3 {l : List Tm} (h : (l.length : Int) = 3) : ∃ a b c, l = [a, b, c] := by
  match l, h with
  | [a, b, c], _ => exact ⟨a, b, c, rfl⟩
  | [], h => simp at h
  | [_], h => simp at h
  | [_, _], h => simp at h
  | _ :: _ :: _ :: _ :: _, h => simp at h; omega
theorem kinds_of {h : Hd} {l : List Tm} (ok : NodeOk h l) :
    ((h.k = 1 ∨ h.k = 2) ∧ l = []) ∨ ((h.k = 4 ∨ h.k = 5 ∨ h.k = 6 ∨ h.k = 7 ∨ h.k = 11 ∨ h.k = 15) ∧ ∃ a, l = [a]) ∨ ((h.k = 3 ∨ h.k = 8 ∨ h.k = 9 ∨ h.k = 10 ∨ h.k = 12 ∨ h.k = 13 ∨ h.k = 16) ∧ ∃ a b, l = [a, b]) ∨ (h.k = 14 ∧ ∃ a b c, l = [a, b, c]) := by
  have h1 := ok.ar
  have h2 := ok.len
  unfold karity at h1 h2
  split at h2
  · exact .inl ⟨by assumption, kids0 h2⟩
  · split at h2
    · exact .inr (.inl ⟨by assumption, kids1 h2⟩)
    · split at h2
      · exact .inr (.inr (.inl ⟨by assumption, kids2 h2⟩))
      · split at h2
        · exact .inr (.inr (.inr ⟨by assumption, kids3 h2⟩))
        · omega
theorem op_cases {h : Hd} {l : List Tm} (ok : NodeOk h l) (h9 : h.k = 9) : h.op = 1 ∨ h.op = 2 ∨ h.op = 3 ∨ h.op = 4 ∨ h.op = 5 := by have := ok.op9 h9; omega
theorem good_words (t : Tm) : (∀ u, u ∈ t.all → u.node = true) → Good t.wk t t.part := by
  induction t using Tm.ind with
  | h x l ih =>
    intro hn
    have ok := node_ok (hn _ (Tm.self_all _))
    have ih : ∀ i t, l[i]? = some t → Good t.wk t t.part := fun i t g => ih t (List.mem_of_getElem? g) fun u hu => hn u (Tm.mem_all.2 (.inr ⟨t, List.mem_of_getElem? g, hu⟩))
    have hkw : ∀ i t pt, l[i]? = some t → kidW (l.map Tm.part) (Tm.wks l) i pt = t.kw pt := fun i t pt g => kidW_at g pt
    have hkw0 : ∀ i t, l[i]? = some t → kidW (l.map Tm.part) (Tm.wks l) i 0 = t.wk := fun i t g => (kidW_at g 0).trans t.kw0
    show Good (layW x (kidW (l.map Tm.part) (Tm.wks l))) (.mk x l) x.part
    generalize kidW (l.map Tm.part) (Tm.wks l) = K at *
    rcases kinds_of ok with ⟨hk, rfl⟩ | ⟨hk, a, rfl⟩ | ⟨hk, a, b, rfl⟩ | ⟨hk, a, b, c, rfl⟩
    · rcases hk with hk | hk
      · have e : layW x K = [(1, bs (Lib.decDigits x.n.toNat))] := by simp [layW, hk]
        rw [e, show x.part = 6 by simp [Hd.part, hk]]
        exact good_num hk ok
      · have e : layW x K = [(2, x.name)] := by simp [layW, hk]
        rw [e, show x.part = 6 by simp [Hd.part, hk]]
        exact good_var hk ok
    · have ga := ih 0 a rfl
      rcases hk with hk | hk | hk | hk | hk | hk
      · have e : layW x K = preW x.k :: a.kw 6 := by simp [layW, hk, hkw 0 a 6 rfl]
        rw [e, show x.part = 6 by simp [Hd.part, hk]]
        exact good_pre (.inl hk) ok (ga.kid 6 (by omega))
      · have e : layW x K = preW x.k :: a.kw 6 := by simp [layW, hk, hkw 0 a 6 rfl]
        rw [e, show x.part = 6 by simp [Hd.part, hk]]
        exact good_pre (.inr (.inl hk)) ok (ga.kid 6 (by omega))
      · have e : layW x K = preW x.k :: a.kw 6 := by simp [layW, hk, hkw 0 a 6 rfl]
        rw [e, show x.part = 6 by simp [Hd.part, hk]]
        exact good_pre (.inr (.inr (.inl hk))) ok (ga.kid 6 (by omega))
      · have e : layW x K = preW x.k :: a.kw 6 := by simp [layW, hk, hkw 0 a 6 rfl]
        rw [e, show x.part = 6 by simp [Hd.part, hk]]
        exact good_pre (.inr (.inr (.inr hk))) ok (ga.kid 6 (by omega))
      · have e : layW x K = (4, w_fn) :: (2, x.arg) :: (5, s_to) :: a.wk := by simp [layW, hk, hkw0 0 a rfl]
        rw [e, show x.part = 0 by simp [Hd.part, hk]]
        exact good_fn hk ok ga
      · have e : layW x K = (4, w_raise) :: (3, x.exn) :: a.kw 6 := by simp [layW, hk, hkw 0 a 6 rfl]
        rw [e, show x.part = 6 by simp [Hd.part, hk]]
        exact good_raise hk ok (ga.kid 6 (by omega))
    · have ga := ih 0 a rfl
      have gb := ih 1 b rfl
      rcases hk with hk | hk | hk | hk | hk | hk | hk
      · have e : layW x K = (5, s_open) :: (a.wk ++ (5, s_comma) :: (b.wk ++ [(5, s_shut)])) := by simp [layW, hk, hkw0 0 a rfl, hkw0 1 b rfl]
        rw [e, show x.part = 6 by simp [Hd.part, hk]]
        exact good_pair hk ok ga gb
      · have e : layW x K = a.kw 2 ++ (5, s_set) :: b.kw 2 := by simp [layW, hk, hkw 0 a 2 rfl, hkw 1 b 2 rfl]
        rw [e, show x.part = 1 by simp [Hd.part, hk]]
        refine good_one (k := 0) (.inl rfl) (by decide +kernel) (fun a' b' s1 s2 => ?_) (ga.kid 2 (by omega)) (gb.kid 2 (by omega))
        have e := hd_eta x 8 0 a'.head.pos 0 ByteArray.empty ByteArray.empty ByteArray.empty hk (ok.op0 (by omega)) (ok.n1 (by omega)) (ok.name0 (by simp [Hd.hasName, hk])) (ok.arg0 (by simp [Hd.hasArg, hk])) (ok.exn0 (by simp [Hd.hasExn, hk]))
        unfold putT
        rw [if_pos rfl]
        show (Tm.mk ⟨8, 0, a'.head.pos, 0, ByteArray.empty, ByteArray.empty, ByteArray.empty⟩ [a', b']).same _ = true
        rw [e]
        exact same2 (Hd.at_same _ _) s1 s2
      · rcases op_cases ok hk with ho | ho | ho | ho | ho
        · have e : layW x K = a.kw 3 ++ (5, s_plus) :: b.kw 4 := by simp [layW, hk, ho, looseT, opS, hkw 0 a 3 rfl, hkw 1 b 4 rfl]
          rw [e, show x.part = 3 by simp [Hd.part, hk, ho, looseT]]
          exact good_left (k := 2) (.inl rfl) (by decide +kernel) hk (by rw [ho]; decide +kernel) ok (ga.kid 3 (by omega)) (gb.kid 4 (by omega))
        · have e : layW x K = a.kw 3 ++ (5, s_minus) :: b.kw 4 := by simp [layW, hk, ho, looseT, opS, hkw 0 a 3 rfl, hkw 1 b 4 rfl]
          rw [e, show x.part = 3 by simp [Hd.part, hk, ho, looseT]]
          exact good_left (k := 2) (.inl rfl) (by decide +kernel) hk (by rw [ho]; decide +kernel) ok (ga.kid 3 (by omega)) (gb.kid 4 (by omega))
        · have e : layW x K = a.kw 4 ++ (5, s_star) :: b.kw 5 := by simp [layW, hk, ho, looseT, opS, hkw 0 a 4 rfl, hkw 1 b 5 rfl]
          rw [e, show x.part = 4 by simp [Hd.part, hk, ho, looseT]]
          exact good_left (k := 3) (.inr rfl) (by decide +kernel) hk (by rw [ho]; decide +kernel) ok (ga.kid 4 (by omega)) (gb.kid 5 (by omega))
        · have e : layW x K = a.kw 3 ++ (5, s_less) :: b.kw 3 := by simp [layW, hk, ho, looseT, opS, hkw 0 a 3 rfl, hkw 1 b 3 rfl]
          rw [e, show x.part = 2 by simp [Hd.part, hk, ho, looseT]]
          exact good_one (k := 1) (.inr rfl) (by decide +kernel) (fun a' b' s1 s2 => put_at (by decide +kernel) hk (by rw [ho]; decide +kernel) ok s1 s2) (ga.kid 3 (by omega)) (gb.kid 3 (by omega))
        · have e : layW x K = a.kw 3 ++ (5, s_eq) :: b.kw 3 := by simp [layW, hk, ho, looseT, opS, hkw 0 a 3 rfl, hkw 1 b 3 rfl]
          rw [e, show x.part = 2 by simp [Hd.part, hk, ho, looseT]]
          exact good_one (k := 1) (.inr rfl) (by decide +kernel) (fun a' b' s1 s2 => put_at (by decide +kernel) hk (by rw [ho]; decide +kernel) ok s1 s2) (ga.kid 3 (by omega)) (gb.kid 3 (by omega))
      · have e : layW x K = a.kw 5 ++ b.kw 6 := by simp [layW, hk, hkw 0 a 5 rfl, hkw 1 b 6 rfl]
        rw [e, show x.part = 5 by simp [Hd.part, hk]]
        exact good_app hk ok (ga.kid 5 (by omega)) (gb.kid 6 (by omega))
      · have e : layW x K = (4, w_let) :: (2, x.name) :: (5, s_eq) :: (a.wk ++ (4, w_in) :: b.wk) := by simp [layW, hk, hkw0 0 a rfl, hkw0 1 b rfl]
        rw [e, show x.part = 0 by simp [Hd.part, hk]]
        exact good_let hk ok ga gb
      · have e : layW x K = (4, w_letrec) :: (2, x.name) :: (2, x.arg) :: (5, s_eq) :: (a.wk ++ (4, w_in) :: b.wk) := by simp [layW, hk, hkw0 0 a rfl, hkw0 1 b rfl]
        rw [e, show x.part = 0 by simp [Hd.part, hk]]
        exact good_letrec hk ok ga gb
      · have e : layW x K = (4, w_try) :: (a.wk ++ (4, w_with) :: (3, x.exn) :: (2, x.arg) :: (5, s_to) :: b.wk) := by simp [layW, hk, hkw0 0 a rfl, hkw0 1 b rfl]
        rw [e, show x.part = 0 by simp [Hd.part, hk]]
        exact good_try hk ok ga gb
    · have e : layW x K = (4, w_if) :: (a.wk ++ (4, w_then) :: (b.wk ++ (4, w_else) :: c.wk)) := by simp [layW, hk, hkw0 0 a rfl, hkw0 1 b rfl, hkw0 2 c rfl]
      rw [e, show x.part = 0 by simp [Hd.part, hk]]
      exact good_if hk ok (ih 0 a rfl) (ih 1 b rfl) (ih 2 c rfl)
end Go.Proofs.YtaioeailgknfjaaGreatDoor
