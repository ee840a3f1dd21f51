/- Tokens, in plain Lean; no program in sight. -/
import Derived.Test.YtaioeailgknfjaaDoorPureN
namespace Go.Proofs.YtaioeailgknfjaaDoor
open Go

/-- A token. -/
structure Tok where
  k : Int
  text : ByteArray
  pos : Nat
def clsU (c : UInt8) : Int := cls ((c.toNat : Nat) : Int)
/-- A word's kind. -/
def kindOf (s : ByteArray) : Int := if numB s then 1 else if 0 < kwd s then 4 else if isName s then 2 else if isExn s then 3 else 0
/-- How many bytes of some classes stand at the front. -/
def spanU (cl : List Int) (l : List UInt8) : Nat := (l.takeWhile fun c => cl.contains (clsU c)).length
theorem spanU_le (cl : List Int) (l : List UInt8) : spanU cl l ≤ l.length := (List.takeWhile_sublist _).length_le
theorem spanU_pos {cl : List Int} {c : UInt8} {r : List UInt8} (h : cl.contains (clsU c) = true) : spanU cl (c :: r) = spanU cl r + 1 := by
  unfold spanU
  rw [List.takeWhile_cons_of_pos (by exact h)]
  rfl
theorem spanU_zero {cl : List Int} {c : UInt8} {r : List UInt8} (h : cl.contains (clsU c) = false) : spanU cl (c :: r) = 0 := by
  unfold spanU
  rw [List.takeWhile_cons_of_neg (by rw [h]; simp)]
  rfl
theorem spanU_nil (cl : List Int) : spanU cl [] = 0 := rfl
/-- A sign's length. -/
def signOf (l : List UInt8) : Nat := if l.take 2 = [58, 61] ∨ l.take 2 = [61, 62] then 2 else if l.head? = some 58 ∨ l.head? = some 62 then 0 else 1
/-- How long the token at the front is, and its kind; none. -/
def tokAt (l : List UInt8) : Option (Nat × Int) := match l with
  | [] => none
  | c :: r =>
    if clsU c = 2 then (if numB (bs ((c :: r).take (spanU [2] (c :: r)))) then some (spanU [2] (c :: r), 1) else none)
    else if clsU c = 3 ∨ clsU c = 4 then
      (if 0 < kwd (bs ((c :: r).take (spanU [2, 3, 4] (c :: r)))) then some (spanU [2, 3, 4] (c :: r), 4) else if isName (bs ((c :: r).take (spanU [2, 3, 4] (c :: r)))) then some (spanU [2, 3, 4] (c :: r), 2)
        else if isExn (bs ((c :: r).take (spanU [2, 3, 4] (c :: r)))) then some (spanU [2, 3, 4] (c :: r), 3) else none)
    else if clsU c = 5 then (if signOf (c :: r) = 0 then none else some (signOf (c :: r), 5)) else none
theorem signOf_le {c : UInt8} {r : List UInt8} : signOf (c :: r) ≤ (c :: r).length := by
  unfold signOf
  split
  · rename_i h
    rcases h with h | h
    · have := congrArg List.length h; simp at this ⊢; omega
    · have := congrArg List.length h; simp at this ⊢; omega
  · split <;> simp
theorem tokAt_bd {l : List UInt8} {n : Nat} {k : Int} (h : tokAt l = some (n, k)) : 0 < n ∧ n ≤ l.length ∧ 1 ≤ k ∧ k ≤ 5 := by
  cases l with
  | nil => cases h
  | cons c r =>
    unfold tokAt at h
    simp only at h
    by_cases h2 : clsU c = 2
    · rw [if_pos h2] at h
      split at h
      · cases h
        exact ⟨by rw [spanU_pos (by rw [h2]; rfl)]; omega, spanU_le _ _, by omega, by omega⟩
      · cases h
    rw [if_neg h2] at h
    by_cases h3 : clsU c = 3 ∨ clsU c = 4
    · rw [if_pos h3] at h
      have hp : 0 < spanU [2, 3, 4] (c :: r) := by
        rw [spanU_pos (by rcases h3 with h3 | h3 <;> rw [h3] <;> rfl)]
        omega
      split at h
      · cases h; exact ⟨hp, spanU_le _ _, by omega, by omega⟩
      split at h
      · cases h; exact ⟨hp, spanU_le _ _, by omega, by omega⟩
      split at h
      · cases h; exact ⟨hp, spanU_le _ _, by omega, by omega⟩
      · cases h
    rw [if_neg h3] at h
    by_cases h5 : clsU c = 5
    · rw [if_pos h5] at h
      split at h
      · cases h
      · cases h; exact ⟨by omega, signOf_le, by omega, by omega⟩
    · rw [if_neg h5] at h; cases h
/-- The tokens of a text from a place on; the place where none begins. -/
def lexF : Nat → Nat → List UInt8 → Except Nat (List Tok)
  | 0, p, _ => .ok [⟨6, ByteArray.empty, p⟩]
  | _ + 1, p, [] => .ok [⟨6, ByteArray.empty, p⟩]
  | f + 1, p, c :: r => if clsU c = 1 then lexF f (p + 1) r else match tokAt (c :: r) with
    | none => .error p
    | some (n, k) => (lexF f (p + n) ((c :: r).drop n)).map fun o => ⟨k, bs ((c :: r).take n), p⟩ :: o
theorem lexF_fuel (f : Nat) : ∀ (g p : Nat) (l : List UInt8), l.length ≤ f → l.length ≤ g → lexF f p l = lexF g p l := by
  induction f with
  | zero =>
    intro g p l hf hg
    have : l = [] := List.eq_nil_of_length_eq_zero (by omega)
    subst this
    cases g <;> rfl
  | succ f ih =>
    intro g p l hf hg
    cases l with
    | nil => cases g <;> rfl
    | cons c r =>
      cases g with
      | zero => simp at hg
      | succ g =>
        simp only [List.length_cons] at hf hg
        unfold lexF
        by_cases h1 : clsU c = 1
        · rw [if_pos h1, if_pos h1]
          exact ih g _ r (by omega) (by omega)
        · rw [if_neg h1, if_neg h1]
          cases ht : tokAt (c :: r) with
          | none => rfl
          | some nk =>
            obtain ⟨n, k⟩ := nk
            have hb := tokAt_bd ht
            simp only [List.length_cons] at hb
            simp only
            rw [ih g (p + n) ((c :: r).drop n) (by simp; omega) (by simp; omega)]
def lexL (p : Nat) (l : List UInt8) : Except Nat (List Tok) := lexF l.length p l
theorem lexL_nil (p : Nat) : lexL p [] = .ok [⟨6, ByteArray.empty, p⟩] := rfl
theorem lexL_blank {c : UInt8} (h : clsU c = 1) (p : Nat) (r : List UInt8) : lexL p (c :: r) = lexL (p + 1) r := by
  unfold lexL
  rw [List.length_cons]
  conv => lhs; unfold lexF
  rw [if_pos h]
theorem lexL_none {c : UInt8} (h : clsU c ≠ 1) (p : Nat) {r : List UInt8} (ht : tokAt (c :: r) = none) : lexL p (c :: r) = .error p := by
  unfold lexL
  rw [List.length_cons]
  conv => lhs; unfold lexF
  rw [if_neg h, ht]
theorem lexL_tok {c : UInt8} (h : clsU c ≠ 1) (p : Nat) {r : List UInt8} {n : Nat} {k : Int} (ht : tokAt (c :: r) = some (n, k)) :
    lexL p (c :: r) = (lexL (p + n) ((c :: r).drop n)).map fun o => ⟨k, bs ((c :: r).take n), p⟩ :: o := by
  have hb := tokAt_bd ht
  simp only [List.length_cons] at hb
  unfold lexL
  rw [List.length_cons]
  conv => lhs; unfold lexF
  rw [if_neg h, ht]
  simp only
  rw [lexF_fuel r.length ((c :: r).drop n).length (p + n) ((c :: r).drop n) (by simp; omega) (by simp)]
/-- Tokens put ahead. -/
def ahead (o : List Tok) (r : Except Nat (List Tok)) : Except Nat (List Tok) := r.map fun l => o ++ l
theorem ahead_nil (r : Except Nat (List Tok)) : ahead [] r = r := by cases r <;> rfl
theorem ahead_cons (o : List Tok) (t : Tok) (r : Except Nat (List Tok)) : ahead o (r.map fun l => t :: l) = ahead (o ++ [t]) r := by
  cases r with
  | error e => rfl
  | ok l => simp [ahead, Except.map]
theorem ahead_error (o : List Tok) (p : Nat) : ahead o (.error p) = .error p := rfl
theorem ahead_ok (o l : List Tok) : ahead o (.ok l) = .ok (o ++ l) := rfl
/-- Blanks at the front. -/
theorem lexL_span (p : Nat) (l : List UInt8) : lexL p l = lexL (p + spanU [1] l) (l.drop (spanU [1] l)) := by
  induction l generalizing p with
  | nil => rfl
  | cons c r ih =>
    by_cases h : clsU c = 1
    · rw [spanU_pos (by rw [h]; rfl), lexL_blank h, ih, List.drop_succ_cons]
      congr 1
      omega
    · rw [spanU_zero (by simpa using h)]
      rfl
/-- Behind the blanks stands none. -/
theorem span_stop (cl : List Int) (l : List UInt8) {c : UInt8} {r : List UInt8} (h : l.drop (spanU cl l) = c :: r) : cl.contains (clsU c) = false := by
  induction l with
  | nil => simp [spanU] at h
  | cons a l ih =>
    cases ha : cl.contains (clsU a)
    · rw [spanU_zero ha] at h
      cases h
      exact ha
    · rw [spanU_pos ha, List.drop_succ_cons] at h
      exact ih h

theorem clsU_of {i : Nat} {c : UInt8} (h : c.toNat = i) : clsU c = cls (i : Int) := by unfold clsU; rw [h]
/-- A digit's class is 2, and no other's. -/
theorem isD_cls (c : UInt8) : isD c = (clsU c == 2) := by
  have : ∀ i : Fin 256, (decide (48 ≤ i.val) && decide (i.val ≤ 57)) = (cls ((i.val : Nat) : Int) == 2) := by decide +kernel
  exact this ⟨c.toNat, by have := c.toNat_lt; omega⟩
theorem il_bs (l : List UInt8) : il (bs l) = l.map fun b => (b.toNat : Int) := by unfold il; rw [bs_list]
theorem take_span_all (cl : List Int) (l : List UInt8) : ∀ c, c ∈ l.take (spanU cl l) → cl.contains (clsU c) = true := by
  induction l with
  | nil => simp
  | cons a l ih =>
    intro c hc
    cases ha : cl.contains (clsU a)
    · rw [spanU_zero ha] at hc; simp at hc
    · rw [spanU_pos ha, List.take_succ_cons] at hc
      rcases List.mem_cons.1 hc with rfl | hc
      · exact ha
      · exact ih c hc
/-- A word that begins with a digit is none of the others. -/
theorem kind_digit {c : UInt8} (r : List UInt8) (h : clsU c = 2) : kindOf (bs (c :: r)) = if numB (bs (c :: r)) then 1 else 0 := by
  unfold kindOf
  have h3 : ∀ f, f ≠ 2 → shapely (il (bs (c :: r))) f = false := by
    intro f hf
    rw [il_bs, List.map_cons]
    simp only [shapely]
    have : (cls ((c.toNat : Nat) : Int) == f) = false := beq_false_of_ne (by have := h; unfold clsU at this; omega)
    rw [this]
    simp
  have hk : kwd (bs (c :: r)) = 0 := by
    unfold kwd
    rw [bs_list]
    refine placeOf_none (fun x hx e => ?_) 1
    subst e
    have : ∀ x, x ∈ keyw → ∀ c r, x = c :: r → clsU c ≠ 2 := by
      have hall : keyw.all (fun x => match x with | [] => true | c :: _ => clsU c != 2) = true := by decide +kernel
      intro x hx c r e
      have := List.all_eq_true.1 hall x hx
      rw [e] at this
      simpa using this
    exact this _ hx c r rfl h
  unfold isName isExn
  rw [h3 3 (by omega), h3 4 (by omega), hk]
  simp
/-- A word that begins with a letter is no number. -/
theorem kind_letter {c : UInt8} (r : List UInt8) (h : clsU c = 3 ∨ clsU c = 4) : kindOf (bs (c :: r)) = if 0 < kwd (bs (c :: r)) then 4 else if isName (bs (c :: r)) then 2 else if isExn (bs (c :: r)) then 3 else 0 := by
  unfold kindOf
  have : numB (bs (c :: r)) = false := by
    unfold numB okN
    rw [bs_list, List.all_cons, isD_cls]
    have : (clsU c == 2) = false := beq_false_of_ne (by rcases h with h | h <;> omega)
    rw [this]
    simp
  rw [this]
  simp
theorem kindOf_bd (s : ByteArray) : 0 ≤ kindOf s ∧ kindOf s ≤ 4 := by unfold kindOf; repeat' split <;> try omega
/-- The token at the front, as the program finds it. -/
theorem tokAt_kind {c : UInt8} {r : List UInt8} (cl : List Int) (h : (clsU c = 2 ∧ cl = [2]) ∨ ((clsU c = 3 ∨ clsU c = 4) ∧ cl = [2, 3, 4])) :
    tokAt (c :: r) = (if 0 < kindOf (bs ((c :: r).take (spanU cl (c :: r)))) then some (spanU cl (c :: r), kindOf (bs ((c :: r).take (spanU cl (c :: r))))) else none) := by
  rcases h with ⟨h, rfl⟩ | ⟨h, rfl⟩
  · have e : (c :: r).take (spanU [2] (c :: r)) = c :: r.take (spanU [2] r) := by rw [spanU_pos (by rw [h]; rfl), List.take_succ_cons]
    unfold tokAt
    simp only
    rw [if_pos h, e, kind_digit _ h]
    cases numB (bs (c :: r.take (spanU [2] r))) <;> simp
  · have hc : [2, 3, 4].contains (clsU c) = true := by rcases h with h | h <;> rw [h] <;> rfl
    have e : (c :: r).take (spanU [2, 3, 4] (c :: r)) = c :: r.take (spanU [2, 3, 4] r) := by rw [spanU_pos hc, List.take_succ_cons]
    unfold tokAt
    simp only
    rw [if_neg (by rcases h with h | h <;> omega), if_pos h, e, kind_letter _ h]
    by_cases a1 : 0 < kwd (bs (c :: r.take (spanU [2, 3, 4] r)))
    · simp [a1]
    · rw [if_neg a1, if_neg a1]
      cases isName (bs (c :: r.take (spanU [2, 3, 4] r))) <;> cases isExn (bs (c :: r.take (spanU [2, 3, 4] r))) <;> simp
theorem tokAt_sign {c : UInt8} {r : List UInt8} (h : clsU c = 5) : tokAt (c :: r) = if signOf (c :: r) = 0 then none else some (signOf (c :: r), 5) := by
  unfold tokAt
  simp only
  rw [if_neg (by omega), if_neg (by omega), if_pos h]
theorem tokAt_other {c : UInt8} {r : List UInt8} (h : clsU c = 0 ∨ clsU c = 1) : tokAt (c :: r) = none := by
  unfold tokAt
  simp only
  rw [if_neg (by omega), if_neg (by omega), if_neg (by omega)]
end Go.Proofs.YtaioeailgknfjaaDoor
