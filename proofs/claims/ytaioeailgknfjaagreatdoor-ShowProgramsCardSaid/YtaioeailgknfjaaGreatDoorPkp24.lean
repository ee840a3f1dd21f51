/- Part 24 of the proof: PureP7; no condition of ours. -/
import Derived.Test.YtaioeailgknfjaaGreatDoorPkp8
import Derived.Test.YtaioeailgknfjaaGreatDoorPkp16
set_option linter.unusedVariables false
set_option linter.unusedSimpArgs false
namespace Go.Proofs.YtaioeailgknfjaaGreatDoor
open Go
def exnsG : List Tk → List Tk → Res (List Tk)
  | acc, t :: u :: v :: l => if isT [w_exn] [t] then if u.k = 3 then if isT [s_semi] [v] then exnsG (acc ++ [u]) l else .error (v :: l) else .error (u :: v :: l) else .ok (acc, t :: u :: v :: l)
  | acc, [t, u] => if isT [w_exn] [t] then .error [u] else .ok (acc, [t, u])
  | acc, l => .ok (acc, l)
def bodyG (acc : List Tk) (l : List Tk) : Res (List Tk × Tm) := match parseL .expr l with
  | .error l' => .error l'
  | .ok (t, l') => .ok ((acc, t), l')
def progG (acc l : List Tk) : Res (List Tk × Tm) := match exnsG acc l with
  | .error l' => .error l'
  | .ok (es, l') => bodyG es l'
def progL (l : List Tk) : Res (List Tk × Tm) := progG [] l
theorem isT_head (xs : List ByteArray) (t : Tk) (l : List Tk) : isT xs (t :: l) = isT xs [t] := rfl
theorem progG_body {acc l : List Tk} (h : isT [w_exn] l = false) : progG acc l = bodyG acc l := by
  unfold progG
  match l, h with
  | [], _ => rfl
  | [t], _ => rfl
  | [t, u], h => rw [isT_head] at h; simp [exnsG, h]
  | t :: u :: v :: l, h => rw [isT_head] at h; simp [exnsG, h]
theorem progG_kind {acc l : List Tk} {t u : Tk} (h : isT [w_exn] (t :: u :: l) = true) (he : Ended (t :: u :: l)) (hu : u.k ≠ 3) : progG acc (t :: u :: l) = .error (u :: l) := by
  unfold progG
  rw [isT_head] at h
  match l with
  | [] => simp [exnsG, h]
  | v :: l => simp [exnsG, h, hu]
theorem progG_semi {acc l : List Tk} {t u v : Tk} (h : isT [w_exn] (t :: u :: v :: l) = true) (hu : u.k = 3) (hv : isT [s_semi] (v :: l) = false) : progG acc (t :: u :: v :: l) = .error (v :: l) := by
  unfold progG
  rw [isT_head] at h hv
  simp [exnsG, h, hu, hv]
theorem progG_more {acc l : List Tk} {t u v : Tk} (h : isT [w_exn] (t :: u :: v :: l) = true) (hu : u.k = 3) (hv : isT [s_semi] (v :: l) = true) : progG acc (t :: u :: v :: l) = progG (acc ++ [u]) l := by
  unfold progG
  rw [isT_head] at h hv
  rw [exnsG, if_pos h, if_pos hu, if_pos hv]
theorem exn_other {l : List Tk} (h : isT [w_exn] l = true) : (∀ xs, inB xs w_exn = false → isT xs l = false) ∧ kindT l ≠ 1 ∧ kindT l ≠ 2 := by
  obtain ⟨t, r, rfl, -, ht, hk⟩ := isT_ne h
  have ht : t.text = w_exn := by simpa using ht
  refine ⟨fun xs hx => by simp [isT, ht, hx], ?_, ?_⟩ <;> (simp only [kindT]; omega)
theorem unary_not {f : Nat} {l m : List Tk} {t : Tm} (h : isT [w_exn] l = true) : parseF f .unary l ≠ some (.ok (t, m)) := by
  intro hp
  obtain ⟨ho, k1, k2⟩ := exn_other h
  cases f with
  | zero => cases hp
  | succ f =>
    unfold parseF at hp
    rw [ho _ (by decide +kernel), ho _ (by decide +kernel), if_neg (by simp), if_neg (by simp), if_neg k1, if_neg k2] at hp
    obtain ⟨_, _, e, _⟩ := andThen_inv hp
    have := (getW_inv e).1
    rw [ho _ (by decide +kernel)] at this
    cases this
theorem lvl_not {l m : List Tk} {t : Tm} (h : isT [w_exn] l = true) : ∀ (d k f : Nat), k + d = 4 → ∀ t m, parseF f (.lvl k) l ≠ some (.ok (t, m)) := by
  intro d
  induction d with
  | zero =>
    intro k f hk t m hp
    obtain rfl : k = 4 := by omega
    cases f with
    | zero => cases hp
    | succ f =>
      unfold parseF at hp
      rw [if_neg (by omega), if_neg (by omega)] at hp
      obtain ⟨a, l1, e, -⟩ := andThen_inv hp
      exact unary_not h e
  | succ d ih =>
    intro k f hk t m hp
    cases f with
    | zero => cases hp
    | succ f =>
      unfold parseF at hp
      split at hp
      · obtain ⟨a, l1, e, -⟩ := andThen_inv hp
        exact ih (k + 1) f (by omega) _ _ e
      rw [if_pos (by omega)] at hp
      obtain ⟨a, l1, e, -⟩ := andThen_inv hp
      exact ih (k + 1) f (by omega) _ _ e
theorem expr_not {f : Nat} {l m : List Tk} {t : Tm} (hp : parseF f .expr l = some (.ok (t, m))) : isT [w_exn] l = false := by
  cases h : isT [w_exn] l with
  | false => rfl
  | true =>
    obtain ⟨ho, k1, k2⟩ := exn_other h
    cases f with
    | zero => cases hp
    | succ f =>
      unfold parseF at hp
      rw [ho _ (by decide +kernel), ho _ (by decide +kernel), ho _ (by decide +kernel), ho _ (by decide +kernel), ho _ (by decide +kernel), if_neg (by simp), if_neg (by simp), if_neg (by simp), if_neg (by simp), if_neg (by simp)] at hp
      exact (lvl_not (t := t) (m := m) h 4 0 f rfl _ _ hp).elim
end Go.Proofs.YtaioeailgknfjaaGreatDoor
