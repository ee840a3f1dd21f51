/- Part 16 of the proof: PureP2; no condition of ours. -/
import Derived.Test.YtaioeailgknfjaaGreatDoorPkp6
set_option linter.unusedVariables false
set_option linter.unusedSimpArgs false
namespace Go.Proofs.YtaioeailgknfjaaGreatDoor
open Go
theorem andThen_inv {α β : Type} {r : Option (Res α)} {k : α → List Tk → Option (Res β)} {y : β} {l : List Tk} (h : andThen r k = some (.ok (y, l))) : ∃ a l1, r = some (.ok (a, l1)) ∧ k a l1 = some (.ok (y, l)) := by
  cases r with
  | none => cases h
  | some x =>
    cases x with
    | error l => cases h
    | ok p => exact ⟨p.1, p.2, rfl, h⟩
theorem getW_inv {x : ByteArray} {l l' : List Tk} {u : Unit} (h : some (getW x l) = some (.ok (u, l'))) : isT [x] l = true ∧ l' = l.tail := by
  unfold getW at h
  split at h
  · simp at h
    exact ⟨by assumption, h.symm⟩
  · simp at h
theorem isT_ne {xs : List ByteArray} {l : List Tk} (h : isT xs l = true) : ∃ t r, l = t :: r ∧ t.k ≠ 6 ∧ t.text ∈ xs ∧ (t.k = 4 ∨ t.k = 5) := by
  cases l with
  | nil => cases h
  | cons t r =>
    simp only [isT, Bool.and_eq_true, Bool.or_eq_true, beq_iff_eq] at h
    exact ⟨t, r, rfl, by omega, (inB_iff _ _).1 h.2, h.1⟩
theorem Tm.self_all (t : Tm) : t ∈ t.all := by cases t; simp [Tm.all]
theorem Tm.mem_all {x : Hd} {l : List Tm} {u : Tm} : u ∈ (Tm.mk x l).all ↔ u = .mk x l ∨ ∃ t, t ∈ l ∧ u ∈ t.all := by
  simp only [Tm.all, List.mem_cons]
  refine or_congr Iff.rfl ?_
  induction l with
  | nil => simp [Tm.alls]
  | cons t l ih => simp [Tm.alls, ih]
theorem numV_bound (s : ByteArray) : 0 ≤ numV s ∧ numV s ≤ 2147483647 := by
  unfold numV
  by_cases h : okN s.data.toList = true
  · rw [if_pos h]
    unfold okN at h
    simp only [Bool.and_eq_true, decide_eq_true_eq] at h
    omega
  · rw [if_neg h]; omega
theorem empty_list0 : ByteArray.empty.toList = [] := by rw [ByteArray.toList_eq]; rfl
theorem opOf_bound (x : ByteArray) : 0 ≤ opOf x ∧ opOf x ≤ 5 := by unfold opOf; repeat' split <;> try omega
theorem same_mk (h h' : Hd) (l l' : List Tm) : (Tm.mk h l).same (.mk h' l') = (h.same h' && Tm.sames l l') := by rw [Tm.same]
theorem same1 {h h' : Hd} {a a' : Tm} (e : h.same h' = true) (h1 : a.same a' = true) : (Tm.mk h [a]).same (.mk h' [a']) = true := by
  rw [same_mk]
  simp [e, Tm.sames, h1]
theorem same2 {h h' : Hd} {a a' b b' : Tm} (e : h.same h' = true) (h1 : a.same a' = true) (h2 : b.same b' = true) : (Tm.mk h [a, b]).same (.mk h' [a', b']) = true := by
  rw [same_mk]
  simp [e, Tm.sames, h1, h2]
theorem same3 {h h' : Hd} {a a' b b' c c' : Tm} (e : h.same h' = true) (h1 : a.same a' = true) (h2 : b.same b' = true) (h3 : c.same c' = true) : (Tm.mk h [a, b, c]).same (.mk h' [a', b', c']) = true := by
  rw [same_mk]
  simp [e, Tm.sames, h1, h2, h3]
theorem same0 {h h' : Hd} (e : h.same h' = true) : (Tm.mk h []).same (.mk h' []) = true := by
  rw [same_mk]
  simp [e, Tm.sames]
theorem up_args {f : Nat} {l m : List Tk} {t : Tm} (h : parseF f .unary l = some (.ok (t, m))) (hm : beginsT m = false) : parseF (f + 2) (.lvl 4) l = some (.ok (t, m)) := by
  have e := parseF_mono1 _ _ _ _ h
  unfold parseF
  rw [if_neg (by omega), if_neg (by omega), e, andThen_ok]
  unfold parseF
  rw [if_neg (by rw [hm]; simp)]
theorem up_lvl {f k : Nat} {l m : List Tk} {t : Tm} (hk : k < 4) (h : parseF (f + 1) (.lvl (k + 1)) l = some (.ok (t, m))) (hm : isT (signsL k) m = false) : parseF (f + 2) (.lvl k) l = some (.ok (t, m)) := by
  have hm' : ¬ isT (signsL k) m = true := by rw [hm]; simp
  unfold parseF
  by_cases h2 : k < 2
  · rw [if_pos h2, h, andThen_ok, if_neg hm']
  · rw [if_neg h2, if_pos hk, h, andThen_ok]
    unfold parseF
    rw [if_neg hm']
theorem in_brackets {f : Nat} {tk : Tk} {l m : List Tk} {t : Tm} (h : parseF f .expr l = some (.ok (t, m))) (hk : tk.k = 5) (ht : tk.text = s_open) (hm : isT [s_shut] m = true) : parseF (f + 1) .unary (tk :: l) = some (.ok (t, m.tail)) := by
  have n : ∀ xs, inB xs s_open = false → ¬ isT xs (tk :: l) = true := fun xs hx => by simp [isT, ht, hx]
  have c : ¬ isT [s_comma] m = true := by
    obtain ⟨u, r, rfl, -, hu, hu'⟩ := isT_ne hm
    simp at hu
    simp only [isT, hu]
    simp only [show inB [s_comma] s_shut = false by decide +kernel]
    simp
  unfold parseF
  rw [if_neg (n _ (by decide +kernel)), if_neg (n _ (by decide +kernel)), if_neg (by simp [kindT, hk]), if_neg (by simp [kindT, hk])]
  rw [show getW s_open (tk :: l) = .ok ((), l) by unfold getW; rw [if_pos (by simp only [isT, hk, ht]; decide +kernel)]; rfl, andThen_ok, h, andThen_ok, if_neg c]
  rw [show getW s_shut m = .ok ((), m.tail) by unfold getW; rw [if_pos hm], andThen_ok]
end Go.Proofs.YtaioeailgknfjaaGreatDoor
