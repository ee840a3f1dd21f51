/- Part 6 of the proof: PureP; no condition of ours. -/
import Derived.Test.YtaioeailgknfjaaGreatDoorPkp5
set_option linter.unusedVariables false
set_option linter.unusedSimpArgs false
namespace Go.Proofs.YtaioeailgknfjaaGreatDoor
open Go
def isT (xs : List ByteArray) : List Tk → Bool
  | [] => false
  | t :: _ => (t.k == 4 || t.k == 5) && inB xs t.text
abbrev Res (α : Type) := Except (List Tk) (α × List Tk)
def andThen {α β : Type} (r : Option (Res α)) (k : α → List Tk → Option (Res β)) : Option (Res β) :=
  match r with
  | none => none
  | some (.error l) => some (.error l)
  | some (.ok (a, l)) => k a l
theorem andThen_ok {α β : Type} (a : α) (l : List Tk) (k : α → List Tk → Option (Res β)) : andThen (some (.ok (a, l))) k = k a l := rfl
def getK (k : Int) : List Tk → Res ByteArray
  | [] => .error []
  | t :: l => if t.k = k then .ok (t.text, l) else .error (t :: l)
def getW (x : ByteArray) (l : List Tk) : Res Unit := if isT [x] l then .ok ((), l.tail) else .error l
def posT : List Tk → Int
  | [] => 0
  | t :: _ => t.pos
def textT : List Tk → ByteArray
  | [] => ByteArray.empty
  | t :: _ => t.text
def kindT : List Tk → Int
  | [] => 0
  | t :: _ => t.k
def w_let : ByteArray := ⟨#[108, 101, 116]⟩
def w_letrec : ByteArray := ⟨#[108, 101, 116, 114, 101, 99]⟩
def w_fn : ByteArray := ⟨#[102, 110]⟩
def w_if : ByteArray := ⟨#[105, 102]⟩
def w_try : ByteArray := ⟨#[116, 114, 121]⟩
def w_in : ByteArray := ⟨#[105, 110]⟩
def w_then : ByteArray := ⟨#[116, 104, 101, 110]⟩
def w_else : ByteArray := ⟨#[101, 108, 115, 101]⟩
def w_with : ByteArray := ⟨#[119, 105, 116, 104]⟩
def w_raise : ByteArray := ⟨#[114, 97, 105, 115, 101]⟩
def w_fst : ByteArray := ⟨#[102, 115, 116]⟩
def w_snd : ByteArray := ⟨#[115, 110, 100]⟩
def w_ref : ByteArray := ⟨#[114, 101, 102]⟩
def w_exn : ByteArray := ⟨#[101, 120, 110]⟩
def s_eq : ByteArray := ⟨#[61]⟩
def s_to : ByteArray := ⟨#[61, 62]⟩
def s_set : ByteArray := ⟨#[58, 61]⟩
def s_plus : ByteArray := ⟨#[43]⟩
def s_minus : ByteArray := ⟨#[45]⟩
def s_star : ByteArray := ⟨#[42]⟩
def s_less : ByteArray := ⟨#[60]⟩
def s_bang : ByteArray := ⟨#[33]⟩
def s_open : ByteArray := ⟨#[40]⟩
def s_shut : ByteArray := ⟨#[41]⟩
def s_comma : ByteArray := ⟨#[44]⟩
def s_semi : ByteArray := ⟨#[59]⟩
def hd0 (k pos : Int) : Hd := ⟨k, 0, pos, 0, ByteArray.empty, ByteArray.empty, ByteArray.empty⟩
def opOf (x : ByteArray) : Int := if x = s_plus then 1 else if x = s_minus then 2 else if x = s_star then 3 else if x = s_less then 4 else if x = s_eq then 5 else 0
def putT (x : ByteArray) (a b : Tm) : Tm := if x = s_set then .mk (hd0 8 a.head.pos) [a, b] else .mk { hd0 9 a.head.pos with op := opOf x } [a, b]
def signsL : Nat → List ByteArray
  | 0 => [s_set]
  | 1 => [s_less, s_eq]
  | 2 => [s_plus, s_minus]
  | _ => [s_star]
def preK (x : ByteArray) : Int := if x = w_fst then 4 else if x = w_snd then 5 else if x = w_ref then 6 else 7
def beginsT (l : List Tk) : Bool := kindT l == 1 || (kindT l == 2 || isT [s_bang, w_ref, w_fst, w_snd, w_raise, s_open] l)
inductive NT where
  | expr
  | lvl (k : Nat)
  | more (k : Nat) (a : Tm)
  | args (a : Tm)
  | unary
def parseF : Nat → NT → List Tk → Option (Res Tm)
  | 0, _, _ => none
  | f + 1, .expr, l =>
    if isT [w_let] l then
      andThen (some (getK 2 l.tail)) fun x l1 => andThen (some (getW s_eq l1)) fun _ l2 => andThen (parseF f .expr l2) fun a l3 => andThen (some (getW w_in l3)) fun _ l4 => andThen (parseF f .expr l4) fun b l5 =>
        some (.ok (.mk { hd0 12 (posT l) with name := x } [a, b], l5))
    else if isT [w_letrec] l then
      andThen (some (getK 2 l.tail)) fun x l1 => andThen (some (getK 2 l1)) fun y l2 => andThen (some (getW s_eq l2)) fun _ l3 => andThen (parseF f .expr l3) fun a l4 => andThen (some (getW w_in l4)) fun _ l5 => andThen (parseF f .expr l5) fun b l6 =>
        some (.ok (.mk { hd0 13 (posT l) with name := x, arg := y } [a, b], l6))
    else if isT [w_fn] l then
      andThen (some (getK 2 l.tail)) fun x l1 => andThen (some (getW s_to l1)) fun _ l2 => andThen (parseF f .expr l2) fun a l3 =>
        some (.ok (.mk { hd0 11 (posT l) with arg := x } [a], l3))
    else if isT [w_if] l then
      andThen (parseF f .expr l.tail) fun a l1 => andThen (some (getW w_then l1)) fun _ l2 => andThen (parseF f .expr l2) fun b l3 => andThen (some (getW w_else l3)) fun _ l4 => andThen (parseF f .expr l4) fun c l5 =>
        some (.ok (.mk (hd0 14 (posT l)) [a, b, c], l5))
    else if isT [w_try] l then
      andThen (parseF f .expr l.tail) fun a l1 => andThen (some (getW w_with l1)) fun _ l2 => andThen (some (getK 3 l2)) fun x l3 => andThen (some (getK 2 l3)) fun y l4 => andThen (some (getW s_to l4)) fun _ l5 => andThen (parseF f .expr l5) fun b l6 =>
        some (.ok (.mk { hd0 16 (posT l) with exn := x, arg := y } [a, b], l6))
    else parseF f (.lvl 0) l
  | f + 1, .lvl k, l =>
    if k < 2 then andThen (parseF f (.lvl (k + 1)) l) fun a l1 => if isT (signsL k) l1 then andThen (parseF f (.lvl (k + 1)) l1.tail) fun b l2 => some (.ok (putT (textT l1) a b, l2)) else some (.ok (a, l1))
    else if k < 4 then andThen (parseF f (.lvl (k + 1)) l) fun a l1 => parseF f (.more k a) l1
    else andThen (parseF f .unary l) fun a l1 => parseF f (.args a) l1
  | f + 1, .more k a, l => if isT (signsL k) l then andThen (parseF f (.lvl (k + 1)) l.tail) fun b l1 => parseF f (.more k (putT (textT l) a b)) l1 else some (.ok (a, l))
  | f + 1, .args a, l => if beginsT l then andThen (parseF f .unary l) fun b l1 => parseF f (.args (.mk (hd0 10 a.head.pos) [a, b])) l1 else some (.ok (a, l))
  | f + 1, .unary, l =>
    if isT [s_bang, w_ref, w_fst, w_snd] l then andThen (parseF f .unary l.tail) fun a l1 => some (.ok (.mk (hd0 (preK (textT l)) (posT l)) [a], l1))
    else if isT [w_raise] l then andThen (some (getK 3 l.tail)) fun x l1 => andThen (parseF f .unary l1) fun a l2 => some (.ok (.mk { hd0 15 (posT l) with exn := x } [a], l2))
    else if kindT l = 1 then some (.ok (.mk { hd0 1 (posT l) with n := numV (textT l) } [], l.tail))
    else if kindT l = 2 then some (.ok (.mk { hd0 2 (posT l) with name := textT l } [], l.tail))
    else andThen (some (getW s_open l)) fun _ l1 => andThen (parseF f .expr l1) fun a l2 =>
      if isT [s_comma] l2 then andThen (parseF f .expr l2.tail) fun b l3 => andThen (some (getW s_shut l3)) fun _ l4 => some (.ok (.mk (hd0 3 (posT l)) [a, b], l4))
      else andThen (some (getW s_shut l2)) fun _ l3 => some (.ok (a, l3))
theorem andThen_mono {α β : Type} {r r' : Option (Res α)} {k k' : α → List Tk → Option (Res β)} {x : Res β} (h : andThen r k = some x) (hr : ∀ y, r = some y → r' = some y) (hk : ∀ a l, k a l = some x → k' a l = some x) : andThen r' k' = some x := by
  cases r with
  | none => cases h
  | some y =>
    rw [hr y rfl]
    cases y with
    | error l => exact h
    | ok p => exact hk _ _ h
theorem parseF_mono1 (f : Nat) : ∀ nt l x, parseF f nt l = some x → parseF (f + 1) nt l = some x := by
  induction f with
  | zero => intro nt l x h; cases h
  | succ f ih =>
    intro nt l x h
    cases nt with
    | expr =>
      unfold parseF at h ⊢
      split
      · rename_i c; rw [if_pos c] at h
        refine andThen_mono h (fun _ h => h) fun _ _ h => andThen_mono h (fun _ h => h) fun _ _ h => andThen_mono h (ih _ _) fun _ _ h => andThen_mono h (fun _ h => h) fun _ _ h => andThen_mono h (ih _ _) fun _ _ h => h
      rename_i c; rw [if_neg c] at h
      split
      · rename_i c; rw [if_pos c] at h
        refine andThen_mono h (fun _ h => h) fun _ _ h => andThen_mono h (fun _ h => h) fun _ _ h => andThen_mono h (fun _ h => h) fun _ _ h => andThen_mono h (ih _ _) fun _ _ h => andThen_mono h (fun _ h => h) fun _ _ h => andThen_mono h (ih _ _) fun _ _ h => h
      rename_i c; rw [if_neg c] at h
      split
      · rename_i c; rw [if_pos c] at h
        refine andThen_mono h (fun _ h => h) fun _ _ h => andThen_mono h (fun _ h => h) fun _ _ h => andThen_mono h (ih _ _) fun _ _ h => h
      rename_i c; rw [if_neg c] at h
      split
      · rename_i c; rw [if_pos c] at h
        refine andThen_mono h (ih _ _) fun _ _ h => andThen_mono h (fun _ h => h) fun _ _ h => andThen_mono h (ih _ _) fun _ _ h => andThen_mono h (fun _ h => h) fun _ _ h => andThen_mono h (ih _ _) fun _ _ h => h
      rename_i c; rw [if_neg c] at h
      split
      · rename_i c; rw [if_pos c] at h
        refine andThen_mono h (ih _ _) fun _ _ h => andThen_mono h (fun _ h => h) fun _ _ h => andThen_mono h (fun _ h => h) fun _ _ h => andThen_mono h (fun _ h => h) fun _ _ h => andThen_mono h (fun _ h => h) fun _ _ h => andThen_mono h (ih _ _) fun _ _ h => h
      rename_i c; rw [if_neg c] at h
      exact ih _ _ _ h
    | lvl k =>
      unfold parseF at h ⊢
      split
      · rename_i c; rw [if_pos c] at h
        refine andThen_mono h (ih _ _) fun a l1 h => ?_
        split
        · rename_i c; rw [if_pos c] at h
          exact andThen_mono h (ih _ _) fun _ _ h => h
        · rename_i c; rw [if_neg c] at h; exact h
      rename_i c; rw [if_neg c] at h
      split
      · rename_i c; rw [if_pos c] at h
        exact andThen_mono h (ih _ _) fun _ _ h => ih _ _ _ h
      · rename_i c; rw [if_neg c] at h
        exact andThen_mono h (ih _ _) fun _ _ h => ih _ _ _ h
    | more k a =>
      unfold parseF at h ⊢
      split
      · rename_i c; rw [if_pos c] at h
        exact andThen_mono h (ih _ _) fun _ _ h => ih _ _ _ h
      · rename_i c; rw [if_neg c] at h; exact h
    | args a =>
      unfold parseF at h ⊢
      split
      · rename_i c; rw [if_pos c] at h
        exact andThen_mono h (ih _ _) fun _ _ h => ih _ _ _ h
      · rename_i c; rw [if_neg c] at h; exact h
    | unary =>
      unfold parseF at h ⊢
      split
      · rename_i c; rw [if_pos c] at h
        exact andThen_mono h (ih _ _) fun _ _ h => h
      rename_i c; rw [if_neg c] at h
      split
      · rename_i c; rw [if_pos c] at h
        exact andThen_mono h (fun _ h => h) fun _ _ h => andThen_mono h (ih _ _) fun _ _ h => h
      rename_i c; rw [if_neg c] at h
      split
      · rename_i c; rw [if_pos c] at h; exact h
      rename_i c; rw [if_neg c] at h
      split
      · rename_i c; rw [if_pos c] at h; exact h
      rename_i c; rw [if_neg c] at h
      refine andThen_mono h (fun _ h => h) fun _ _ h => andThen_mono h (ih _ _) fun _ _ h => ?_
      split
      · rename_i c; rw [if_pos c] at h
        exact andThen_mono h (ih _ _) fun _ _ h => h
      · rename_i c; rw [if_neg c] at h; exact h
theorem parseF_mono {f g : Nat} (h : f ≤ g) {nt l x} (e : parseF f nt l = some x) : parseF g nt l = some x := by
  induction h with
  | refl => exact e
  | step _ ih => exact parseF_mono1 _ _ _ _ ih
def Ended : List Tk → Prop
  | [] => False
  | [t] => t.k = 6
  | t :: u :: l => t.k ≠ 6 ∧ Ended (u :: l)
theorem Ended.tail {l : List Tk} (h : Ended l) (hk : kindT l ≠ 6) : Ended l.tail ∧ l.tail.length + 1 = l.length := by
  match l, h with
  | [t], h => exact (hk h).elim
  | t :: u :: l, h => exact ⟨h.2, rfl⟩
theorem isT_kind {xs : List ByteArray} {l : List Tk} (h : isT xs l = true) : kindT l ≠ 6 := by
  cases l with
  | nil => cases h
  | cons t l =>
    simp only [isT, Bool.and_eq_true, Bool.or_eq_true, beq_iff_eq] at h
    intro e
    simp only [kindT] at e
    omega
theorem Ended.is_ {xs : List ByteArray} {l : List Tk} (h : Ended l) (hi : isT xs l = true) : Ended l.tail ∧ l.tail.length + 1 = l.length := h.tail (isT_kind hi)
def Behind {α : Type} (n : Nat) : Res α → Prop
  | .error l => Ended l ∧ l.length ≤ n
  | .ok (_, l) => Ended l ∧ l.length < n
theorem getK_behind {k : Int} {l : List Tk} (h : Ended l) (hk : k ≠ 6) : Behind l.length (getK k l) := by
  cases l with
  | nil => cases h
  | cons t l =>
    simp only [getK]
    split
    · rename_i e
      have := h.tail (by simp only [kindT]; omega)
      exact ⟨this.1, by simp⟩
    · exact ⟨h, Nat.le_refl _⟩
theorem getW_behind {x : ByteArray} {l : List Tk} (h : Ended l) : Behind l.length (getW x l) := by
  unfold getW
  split
  · rename_i e
    have := h.is_ e
    exact ⟨this.1, by omega⟩
  · exact ⟨h, Nat.le_refl _⟩
def BehindLe {α : Type} (n : Nat) : Res α → Prop
  | .error l => Ended l ∧ l.length ≤ n
  | .ok (_, l) => Ended l ∧ l.length ≤ n
theorem andThen_told {α β : Type} {n m : Nat} {r : Option (Res α)} {k : α → List Tk → Option (Res β)} {B : Res β → Prop} (hr : ∃ x, r = some x ∧ Behind m x) (hm : m ≤ n) (hB : ∀ l, Ended l → l.length ≤ n → B (.error l)) (h : ∀ a l, Ended l → l.length < m → ∃ x, k a l = some x ∧ B x) : ∃ x, andThen r k = some x ∧ B x := by
  obtain ⟨x, rfl, hx⟩ := hr
  cases x with
  | error l => exact ⟨_, rfl, hB l hx.1 (Nat.le_trans hx.2 hm)⟩
  | ok p =>
    obtain ⟨a, l⟩ := p
    exact h a l hx.1 hx.2
def NT.rk : NT → Nat
  | .expr => 7
  | .lvl k => (4 - k) + 2
  | .more _ _ => 1
  | .args _ => 2
  | .unary => 1
def NT.Told (n : Nat) : NT → Res Tm → Prop
  | .more _ _ => BehindLe n
  | .args _ => BehindLe n
  | _ => Behind n
theorem behind_err {n : Nat} : ∀ l, Ended l → l.length ≤ n → Behind n (.error l : Res Tm) := fun _ h k => ⟨h, k⟩
theorem behindLe_err {n : Nat} : ∀ l, Ended l → l.length ≤ n → BehindLe n (.error l : Res Tm) := fun _ h k => ⟨h, k⟩
set_option maxHeartbeats 1000000 in
theorem parseF_total (f : Nat) : ∀ nt l, Ended l → 8 * l.length + nt.rk ≤ f → ∃ x, parseF f nt l = some x ∧ nt.Told l.length x := by
  induction f with
  | zero =>
    intro nt l hl hf
    cases l with
    | nil => cases hl
    | cons t l => simp at hf
  | succ f ih =>
    intro nt l hl hf
    have E : ∀ l', Ended l' → l'.length < l.length → ∃ x, parseF f .expr l' = some x ∧ Behind l'.length x := fun l' h' hn => ih .expr l' h' (by simp only [NT.rk]; omega)
    have U : ∀ l', Ended l' → l'.length < l.length → ∃ x, parseF f .unary l' = some x ∧ Behind l'.length x := fun l' h' hn => ih .unary l' h' (by simp only [NT.rk]; omega)
    have G : ∀ (k : Int) l', k ≠ 6 → Ended l' → ∃ x, some (getK k l') = some x ∧ Behind l'.length x := fun k l' hk h' => ⟨_, rfl, getK_behind h' hk⟩
    have W : ∀ (x : ByteArray) l', Ended l' → ∃ y, some (getW x l') = some y ∧ Behind l'.length y := fun x l' h' => ⟨_, rfl, getW_behind h'⟩
    cases nt with
    | expr =>
      unfold parseF
      simp only [NT.Told]
      split
      · rename_i c
        obtain ⟨ht, hn⟩ := hl.is_ c
        refine andThen_told (G 2 _ (by omega) ht) (by omega) behind_err fun x l1 h1 n1 => andThen_told (W _ _ h1) (by omega) behind_err fun _ l2 h2 n2 => andThen_told (E _ h2 (by omega)) (by omega) behind_err fun _ l3 h3 n3 => andThen_told (W _ _ h3) (by omega) behind_err fun _ l4 h4 n4 => andThen_told (E _ h4 (by omega)) (by omega) behind_err fun _ l5 h5 n5 => ⟨_, rfl, h5, by omega⟩
      split
      · rename_i c
        obtain ⟨ht, hn⟩ := hl.is_ c
        refine andThen_told (G 2 _ (by omega) ht) (by omega) behind_err fun x l1 h1 n1 => andThen_told (G 2 _ (by omega) h1) (by omega) behind_err fun x l1 h1 n1 => andThen_told (W _ _ h1) (by omega) behind_err fun _ l2 h2 n2 => andThen_told (E _ h2 (by omega)) (by omega) behind_err fun _ l3 h3 n3 => andThen_told (W _ _ h3) (by omega) behind_err fun _ l4 h4 n4 => andThen_told (E _ h4 (by omega)) (by omega) behind_err fun _ l5 h5 n5 => ⟨_, rfl, h5, by omega⟩
      split
      · rename_i c
        obtain ⟨ht, hn⟩ := hl.is_ c
        refine andThen_told (G 2 _ (by omega) ht) (by omega) behind_err fun x l1 h1 n1 => andThen_told (W _ _ h1) (by omega) behind_err fun _ l2 h2 n2 => andThen_told (E _ h2 (by omega)) (by omega) behind_err fun _ l3 h3 n3 => ⟨_, rfl, h3, by omega⟩
      split
      · rename_i c
        obtain ⟨ht, hn⟩ := hl.is_ c
        refine andThen_told (E _ ht (by omega)) (by omega) behind_err fun _ l1 h1 n1 => andThen_told (W _ _ h1) (by omega) behind_err fun _ l2 h2 n2 => andThen_told (E _ h2 (by omega)) (by omega) behind_err fun _ l3 h3 n3 => andThen_told (W _ _ h3) (by omega) behind_err fun _ l4 h4 n4 => andThen_told (E _ h4 (by omega)) (by omega) behind_err fun _ l5 h5 n5 => ⟨_, rfl, h5, by omega⟩
      split
      · rename_i c
        obtain ⟨ht, hn⟩ := hl.is_ c
        refine andThen_told (E _ ht (by omega)) (by omega) behind_err fun _ l1 h1 n1 => andThen_told (W _ _ h1) (by omega) behind_err fun _ l2 h2 n2 => andThen_told (G 3 _ (by omega) h2) (by omega) behind_err fun _ l3 h3 n3 => andThen_told (G 2 _ (by omega) h3) (by omega) behind_err fun _ l3 h3 n3 => andThen_told (W _ _ h3) (by omega) behind_err fun _ l4 h4 n4 => andThen_told (E _ h4 (by omega)) (by omega) behind_err fun _ l5 h5 n5 => ⟨_, rfl, h5, by omega⟩
      exact ih (.lvl 0) l hl (by simp only [NT.rk] at hf ⊢; omega)
    | lvl k =>
      unfold parseF
      simp only [NT.Told]
      split
      · rename_i c
        refine andThen_told (ih (.lvl (k + 1)) l hl (by simp only [NT.rk] at hf ⊢; omega)) (by omega) behind_err fun a l1 h1 n1 => ?_
        split
        · rename_i c
          obtain ⟨ht, hn⟩ := h1.is_ c
          exact andThen_told (ih (.lvl (k + 1)) l1.tail ht (by simp only [NT.rk] at hf ⊢; omega)) (by omega) behind_err fun b l2 h2 n2 => ⟨_, rfl, h2, by omega⟩
        · exact ⟨_, rfl, h1, n1⟩
      split
      · rename_i c
        refine andThen_told (ih (.lvl (k + 1)) l hl (by simp only [NT.rk] at hf ⊢; omega)) (by omega) behind_err fun a l1 h1 n1 => ?_
        obtain ⟨x, e, hx⟩ := ih (.more k a) l1 h1 (by simp only [NT.rk] at hf ⊢; omega)
        refine ⟨x, e, ?_⟩
        cases x with
        | error l2 => exact ⟨hx.1, by have := hx.2; omega⟩
        | ok p => exact ⟨hx.1, by have := hx.2; omega⟩
      · rename_i c
        refine andThen_told (ih .unary l hl (by simp only [NT.rk] at hf ⊢; omega)) (by omega) behind_err fun a l1 h1 n1 => ?_
        obtain ⟨x, e, hx⟩ := ih (.args a) l1 h1 (by simp only [NT.rk] at hf ⊢; omega)
        refine ⟨x, e, ?_⟩
        cases x with
        | error l2 => exact ⟨hx.1, by have := hx.2; omega⟩
        | ok p => exact ⟨hx.1, by have := hx.2; omega⟩
    | more k a =>
      unfold parseF
      simp only [NT.Told]
      split
      · rename_i c
        obtain ⟨ht, hn⟩ := hl.is_ c
        refine andThen_told (ih (.lvl (k + 1)) l.tail ht (by simp only [NT.rk] at hf ⊢; omega)) (by omega) behindLe_err fun b l1 h1 n1 => ?_
        obtain ⟨x, e, hx⟩ := ih (.more k (putT (textT l) a b)) l1 h1 (by simp only [NT.rk] at hf ⊢; omega)
        refine ⟨x, e, ?_⟩
        cases x with
        | error l2 => exact ⟨hx.1, by have := hx.2; omega⟩
        | ok p => exact ⟨hx.1, by have := hx.2; omega⟩
      · exact ⟨_, rfl, hl, Nat.le_refl _⟩
    | args a =>
      unfold parseF
      simp only [NT.Told]
      split
      · rename_i c
        refine andThen_told (ih .unary l hl (by simp only [NT.rk] at hf ⊢; omega)) (by omega) behindLe_err fun b l1 h1 n1 => ?_
        obtain ⟨x, e, hx⟩ := ih (.args (.mk (hd0 10 a.head.pos) [a, b])) l1 h1 (by simp only [NT.rk] at hf ⊢; omega)
        refine ⟨x, e, ?_⟩
        cases x with
        | error l2 => exact ⟨hx.1, by have := hx.2; omega⟩
        | ok p => exact ⟨hx.1, by have := hx.2; omega⟩
      · exact ⟨_, rfl, hl, Nat.le_refl _⟩
    | unary =>
      unfold parseF
      simp only [NT.Told]
      split
      · rename_i c
        obtain ⟨ht, hn⟩ := hl.is_ c
        exact andThen_told (U _ ht (by omega)) (by omega) behind_err fun _ l1 h1 n1 => ⟨_, rfl, h1, by omega⟩
      split
      · rename_i c
        obtain ⟨ht, hn⟩ := hl.is_ c
        exact andThen_told (G 3 _ (by omega) ht) (by omega) behind_err fun _ l1 h1 n1 => andThen_told (U _ h1 (by omega)) (by omega) behind_err fun _ l2 h2 n2 => ⟨_, rfl, h2, by omega⟩
      split
      · rename_i c
        obtain ⟨ht, hn⟩ := hl.tail (by omega)
        exact ⟨_, rfl, ht, by omega⟩
      split
      · rename_i c
        obtain ⟨ht, hn⟩ := hl.tail (by omega)
        exact ⟨_, rfl, ht, by omega⟩
      refine andThen_told (W _ _ hl) (by omega) behind_err fun _ l1 h1 n1 => andThen_told (E _ h1 (by omega)) (by omega) behind_err fun _ l2 h2 n2 => ?_
      split
      · rename_i c
        obtain ⟨ht, hn⟩ := h2.is_ c
        exact andThen_told (E _ ht (by omega)) (by omega) behind_err fun _ l3 h3 n3 => andThen_told (W _ _ h3) (by omega) behind_err fun _ l4 h4 n4 => ⟨_, rfl, h4, by omega⟩
      · exact andThen_told (W _ _ h2) (by omega) behind_err fun _ l3 h3 n3 => ⟨_, rfl, h3, by omega⟩
def parseL (nt : NT) (l : List Tk) : Res Tm := (parseF (8 * l.length + nt.rk) nt l).getD (.error l)
theorem parseL_eq {nt : NT} {l : List Tk} {f : Nat} {x : Res Tm} (hl : Ended l) (h : parseF f nt l = some x) : parseL nt l = x := by
  obtain ⟨y, e, -⟩ := parseF_total _ nt l hl (Nat.le_refl _)
  have e1 := parseF_mono (Nat.le_max_left f (8 * l.length + nt.rk)) h
  have e2 := parseF_mono (Nat.le_max_right f (8 * l.length + nt.rk)) e
  rw [e1] at e2
  unfold parseL
  rw [e]
  cases e2
  rfl
theorem parseL_some {nt : NT} {l : List Tk} (hl : Ended l) : ∃ f, parseF f nt l = some (parseL nt l) ∧ nt.Told l.length (parseL nt l) := by
  obtain ⟨y, e, h⟩ := parseF_total _ nt l hl (Nat.le_refl _)
  rw [parseL_eq hl e]
  exact ⟨_, e, h⟩
end Go.Proofs.YtaioeailgknfjaaGreatDoor
