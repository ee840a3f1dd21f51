/- Numbers' texts, in plain Lean. Tokens, in plain Lean; no program in sight. -/
import Derived.Test.YtaioeailgknfjaaGreatDoorPureW
import Derived.Lib.ItoaNum
import Derived.Lib.ItoaLen
import Derived.Lib.ParseIntBCases
namespace Go.Proofs.YtaioeailgknfjaaGreatDoor
open Go

/-- A digit. -/
def isD (c : UInt8) : Bool := decide (48 ≤ c.toNat) && decide (c.toNat ≤ 57)
def stepN (n : Nat) (c : UInt8) : Nat := 10 * n + (c.toNat - 48)
theorem stepN_eq (n : Nat) (c : UInt8) : stepN n c = 10 * n + (c.toNat - 48) := by unfold stepN; rfl
/-- What digits spell, behind n. -/
def valN (n : Nat) (l : List UInt8) : Nat := l.foldl stepN n
theorem valN_nil (n : Nat) : valN n [] = n := rfl
theorem valN_cons (n : Nat) (c : UInt8) (r : List UInt8) : valN n (c :: r) = valN (10 * n + (c.toNat - 48)) r := by
  unfold valN
  rw [List.foldl_cons, stepN_eq]
theorem valN_append (l r : List UInt8) (n : Nat) : valN n (l ++ r) = valN (valN n l) r := by
  induction l generalizing n with
  | nil => rfl
  | cons c l ih => exact ih _
theorem valN_ge (l : List UInt8) (n : Nat) : n * 10 ^ l.length ≤ valN n l := by
  induction l generalizing n with
  | nil => simp [valN_nil]
  | cons c l ih =>
    have h := ih (10 * n + (c.toNat - 48))
    simp only [valN_nil, valN_cons, List.length_cons, Nat.pow_succ]
    refine Nat.le_trans ?_ h
    generalize 10 ^ l.length = p
    have e : n * (p * 10) = (10 * n) * p := by rw [Nat.mul_comm 10 n, Nat.mul_assoc, Nat.mul_comm p 10]
    rw [e]
    exact Nat.mul_le_mul_right _ (by omega)
theorem valN_le (l : List UInt8) (n : Nat) : n ≤ valN n l :=
  Nat.le_trans (Nat.le_mul_of_pos_right n (Nat.pow_pos (by omega))) (valN_ge l n)
/-- A number's text: no more digits than it takes, and it isn't too great. -/
def okN (l : List UInt8) : Bool := !l.isEmpty && (l.all isD && (decide (valN 0 l ≤ 2147483647) && (l.length == 1 || l.head? != some 48)))
theorem isD_iff (c : UInt8) : isD c = true ↔ 48 ≤ c.toNat ∧ c.toNat ≤ 57 := by simp [isD]
theorem ofNat_digit {c : UInt8} (h : isD c = true) : UInt8.ofNat (48 + (c.toNat - 48)) = c := by
  rw [isD_iff] at h
  rw [show 48 + (c.toNat - 48) = c.toNat from by omega]
  exact UInt8.ofNat_toNat
theorem val_head_pos {c : UInt8} {r : List UInt8} (h : isD c = true) (h0 : c ≠ 48) : 1 ≤ valN 0 (c :: r) := by
  rw [isD_iff] at h
  have hc : 49 ≤ c.toNat := by
    rcases Nat.lt_or_ge 48 c.toNat with h1 | h1
    · omega
    · exfalso; apply h0
      have : c.toNat = 48 := by omega
      exact UInt8.toNat_inj.1 (by rw [this]; rfl)
  have := valN_le r (10 * 0 + (c.toNat - 48))
  simp only [valN_nil, valN_cons]
  omega
theorem decDigits_val (l : List UInt8) (h : l.all isD = true) (hne : l ≠ []) (h0 : l.length = 1 ∨ l.head? ≠ some 48) : Lib.decDigits (valN 0 l) = l := by
  generalize hn : l.length = n
  induction n generalizing l with
  | zero => exact absurd (List.eq_nil_of_length_eq_zero hn) hne
  | succ n ih =>
    rcases List.eq_nil_or_concat l with rfl | ⟨l', d, rfl⟩
    · exact absurd rfl hne
    rw [List.concat_eq_append] at *
    rw [List.all_append, Bool.and_eq_true] at h
    have hd : isD d = true := by simpa using h.2
    have hd' := (isD_iff d).1 hd
    rw [valN_append]
    simp only [valN_nil, valN_cons]
    cases l' with
    | nil =>
      simp only [valN_nil, valN_cons, List.nil_append]
      rw [Lib.decDigits_one (by omega), show 10 * 0 + (d.toNat - 48) = d.toNat - 48 from by omega, ofNat_digit hd]
    | cons c r =>
      have hc : isD c = true := by
        have := h.1
        rw [List.all_cons, Bool.and_eq_true] at this
        exact this.1
      have hc0 : c ≠ 48 := by
        rcases h0 with h0 | h0
        · simp at h0
        · simpa using h0
      have hp := val_head_pos (r := r) hc hc0
      have hih := ih (c :: r) h.1 (by simp) (.inr (by simpa using hc0)) (by simpa using hn)
      generalize valN 0 (c :: r) = v at *
      have hbig : ¬ 10 * v + (d.toNat - 48) < 10 := by omega
      rw [Lib.decDigits, dif_neg hbig, show (10 * v + (d.toNat - 48)) / 10 = v from by omega, show (10 * v + (d.toNat - 48)) % 10 = d.toNat - 48 from by omega, hih, ofNat_digit hd]
theorem decDigits_ne (n : Nat) : Lib.decDigits n ≠ [] := by
  intro h
  have := Lib.decDigits_length n
  rw [h] at this
  have := Lib.nDigits_pos n
  simp at *
  omega
theorem decDigits_head (n : Nat) : (Lib.decDigits n).head? = some 48 → n = 0 := by
  induction n using Nat.strongRecOn with
  | _ n ih =>
    intro h
    by_cases h10 : n < 10
    · rw [Lib.decDigits_one h10] at h
      rw [List.head?_cons] at h
      have : ∀ i : Fin 10, UInt8.ofNat (48 + i.val) = 48 → i.val = 0 := by decide +kernel
      exact this ⟨n, h10⟩ (Option.some.inj h)
    · rw [Lib.decDigits, dif_neg h10] at h
      have hne := decDigits_ne (n / 10)
      have h' : (Lib.decDigits (n / 10)).head? = some 48 := by
        cases hd : Lib.decDigits (n / 10) with
        | nil => exact absurd hd hne
        | cons c r => rw [hd] at h; simpa using h
      have := ih (n / 10) (by omega) h'
      omega
theorem digit_ofNat (i : Nat) (h : i < 10) : isD (UInt8.ofNat (48 + i)) = true ∧ (UInt8.ofNat (48 + i)).toNat = 48 + i := by
  have : ∀ i : Fin 10, isD (UInt8.ofNat (48 + i.val)) = true ∧ (UInt8.ofNat (48 + i.val)).toNat = 48 + i.val := by decide +kernel
  exact this ⟨i, h⟩
theorem decDigits_back (n : Nat) : (Lib.decDigits n).all isD = true ∧ valN 0 (Lib.decDigits n) = n := by
  induction n using Nat.strongRecOn with
  | _ n ih =>
    by_cases h10 : n < 10
    · have := digit_ofNat n h10
      rw [Lib.decDigits_one h10]
      refine ⟨by rw [List.all_cons, this.1]; rfl, ?_⟩
      simp only [valN_nil, valN_cons, this.2]
      omega
    · have hm := digit_ofNat (n % 10) (by omega)
      obtain ⟨i1, i2⟩ := ih (n / 10) (by omega)
      rw [Lib.decDigits, dif_neg h10]
      refine ⟨by rw [List.all_append, i1, List.all_cons, hm.1]; rfl, ?_⟩
      rw [valN_append, i2]
      simp only [valN_nil, valN_cons, hm.2]
      omega
theorem okN_digits (n : Nat) : okN (Lib.decDigits n) = decide (n ≤ 2147483647) := by
  obtain ⟨h1, h2⟩ := decDigits_back n
  have hne := decDigits_ne n
  have h4 : ((Lib.decDigits n).length == 1 || (Lib.decDigits n).head? != some 48) = true := by
    by_cases hh : (Lib.decDigits n).head? = some 48
    · have := decDigits_head n hh
      subst this
      rw [Lib.decDigits_one (by omega)]
      rfl
    · simp [hh]
  unfold okN
  rw [h1, h2, h4]
  have : (Lib.decDigits n).isEmpty = false := by simpa using hne
  rw [this]
  simp
theorem okN_minus (l : List UInt8) : okN (45 :: l) = false := by
  unfold okN
  rw [List.all_cons, show isD 45 = false from by decide]
  simp
/-- No number of so many digits is small enough. -/
theorem okN_long {l : List UInt8} (h : 10 < l.length) : okN l = false := by
  rw [Bool.eq_false_iff]
  intro hk
  unfold okN at hk
  simp only [Bool.and_eq_true, decide_eq_true_eq, Bool.or_eq_true, beq_iff_eq, bne_iff_ne] at hk
  obtain ⟨h1, h2, h3, h4⟩ := hk
  rcases h4 with h4 | h4
  · omega
  cases l with
  | nil => simp at h
  | cons c r =>
    rw [List.all_cons, Bool.and_eq_true] at h2
    have hc := (isD_iff c).1 h2.1
    have hc0 : c ≠ 48 := by simpa using h4
    have hp : 1 ≤ c.toNat - 48 := by
      have := val_head_pos (r := []) h2.1 hc0
      simp only [valN_nil, valN_cons] at this
      omega
    have := valN_ge r (10 * 0 + (c.toNat - 48))
    simp only [valN_nil, valN_cons] at h3
    simp only [List.length_cons] at h
    have h10 : 10 ^ 10 ≤ 10 ^ r.length := Nat.pow_le_pow_right (by omega) (by omega)
    have : 1 * 10 ^ r.length ≤ (10 * 0 + (c.toNat - 48)) * 10 ^ r.length := Nat.mul_le_mul_right _ (by omega)
    have e : (10 : Nat) ^ 10 = 10000000000 := by decide
    omega
theorem parseUintM_digits (M : Nat) (l : List UInt8) (acc : Nat) (h : l.all isD = true) (hv : valN acc l ≤ M) (hM : M ≤ 18446744073709551615) (hb : 10 * valN acc l ≤ 18446744073709551615) : Lib.parseUintM M acc l = .ok (valN acc l) := by
  induction l generalizing acc with
  | nil => rfl
  | cons c r ih =>
    rw [List.all_cons, Bool.and_eq_true] at h
    have hc := (isD_iff c).1 h.1
    have hle := valN_le r (10 * acc + (c.toNat - 48))
    simp only [valN_nil, valN_cons] at hv hb ⊢
    unfold Lib.parseUintM
    rw [if_pos hc, if_neg (by omega), if_neg (by omega), Nat.mul_comm acc 10]
    exact ih _ h.2 hv hb
theorem valN_small (l : List UInt8) (n : Nat) (h : l.all isD = true) : valN n l < (n + 1) * 10 ^ l.length := by
  induction l generalizing n with
  | nil => simp [valN_nil]
  | cons c r ih =>
    rw [List.all_cons, Bool.and_eq_true] at h
    have hc := (isD_iff c).1 h.1
    have := ih (10 * n + (c.toNat - 48)) h.2
    simp only [valN_nil, valN_cons, List.length_cons, Nat.pow_succ]
    refine Nat.lt_of_lt_of_le this ?_
    generalize 10 ^ r.length = p
    have e : (n + 1) * (p * 10) = (10 * (n + 1)) * p := by rw [Nat.mul_comm 10 (n + 1), Nat.mul_assoc, Nat.mul_comm p 10]
    rw [e]
    exact Nat.mul_le_mul_right _ (by omega)
theorem parseInt_digits (l : List UInt8) (h : l.all isD = true) (hne : l ≠ []) (hl : l.length ≤ 10) : Lib.parseIntB 64 l = .ok (valN 0 l : Nat) := by
  have hs := valN_small l 0 h
  have h10 : 10 ^ l.length ≤ 10 ^ 10 := Nat.pow_le_pow_right (by omega) hl
  have e : (10 : Nat) ^ 10 = 10000000000 := by decide
  have hv : valN 0 l < 10000000000 := by omega
  cases l with
  | nil => exact absurd rfl hne
  | cons c r =>
    have hc : 48 ≤ c.toNat ∧ c.toNat ≤ 57 := by
      rw [List.all_cons, Bool.and_eq_true] at h
      exact (isD_iff c).1 h.1
    rw [Lib.parseIntB_plain 64 c r (by omega) (by omega)]
    unfold Lib.parseUintB
    rw [if_neg (by simp), parseUintM_digits _ _ _ h (by have : (2 : Nat) ^ 64 - 1 = 18446744073709551615 := by decide
                                                        omega) (by decide) (by omega)]
    unfold Lib.signlessC
    simp only
    rw [if_neg (by have : (2 : Nat) ^ (64 - 1) = 9223372036854775808 := by decide
                   omega)]
/-- The reference's road: digit by digit, as long as it isn't too great. -/
def roadN : List UInt8 → Nat → Option Nat
  | [], n => some n
  | c :: r, n => if isD c && decide (n ≤ 2147483647) then roadN r (10 * n + (c.toNat - 48)) else none
theorem roadN_some (l : List UInt8) (n v : Nat) (h : roadN l n = some v) : l.all isD = true ∧ v = valN n l := by
  induction l generalizing n with
  | nil => simp [roadN] at h; exact ⟨rfl, h.symm⟩
  | cons c r ih =>
    unfold roadN at h
    split at h
    · rename_i hc
      rw [Bool.and_eq_true] at hc
      obtain ⟨h1, h2⟩ := ih _ h
      exact ⟨by rw [List.all_cons, hc.1, h1]; rfl, h2⟩
    · cases h
theorem roadN_ok (l : List UInt8) (n : Nat) (h : l.all isD = true) (hv : valN n l ≤ 2147483647) : roadN l n = some (valN n l) := by
  induction l generalizing n with
  | nil => rfl
  | cons c r ih =>
    rw [List.all_cons, Bool.and_eq_true] at h
    have h1 := valN_le r (10 * n + (c.toNat - 48))
    simp only [valN_nil, valN_cons] at hv ⊢
    unfold roadN
    rw [if_pos (by rw [h.1]; simp; omega)]
    exact ih _ h.2 hv
theorem road_ok (l : List UInt8) (v : Nat) (h : roadN l 0 = some v) : (!l.isEmpty && (decide (v ≤ 2147483647) && decide (Lib.decDigits v = l))) = okN l := by
  obtain ⟨h1, rfl⟩ := roadN_some l 0 v h
  unfold okN
  rw [h1]
  by_cases hne : l = []
  · subst hne; rfl
  have he : l.isEmpty = false := by simpa using hne
  rw [he]
  simp only [Bool.not_false, Bool.true_and]
  congr 1
  by_cases h4 : l.length = 1 ∨ l.head? ≠ some 48
  · rw [decide_eq_true (decDigits_val l h1 hne h4)]
    rcases h4 with h4 | h4 <;> simp [h4]
  · have : ¬ Lib.decDigits (valN 0 l) = l := by
      intro e
      apply h4
      by_cases hh : l.head? = some 48
      · left
        rw [← e] at hh
        have := decDigits_head _ hh
        rw [← e, this, Lib.decDigits_one (by omega)]
        rfl
      · exact .inr hh
    rw [decide_eq_false this]
    simp only [not_or, Classical.not_not] at h4
    simp [h4.1, h4.2]
theorem road_none (l : List UInt8) (h : roadN l 0 = none) : okN l = false := by
  rw [Bool.eq_false_iff]
  intro hk
  unfold okN at hk
  simp only [Bool.and_eq_true, decide_eq_true_eq] at hk
  rw [roadN_ok l 0 hk.2.1 hk.2.2.1] at h
  cases h
theorem cls_digit (c : UInt8) : ([2] : List Int).contains (cls ((c.toNat : Nat) : Int)) = isD c := by
  have : ∀ i : Fin 256, ([2] : List Int).contains (cls ((i.val : Nat) : Int)) = (decide (48 ≤ i.val) && decide (i.val ≤ 57)) := by decide +kernel
  exact this ⟨c.toNat, by have := c.toNat_lt; omega⟩
theorem span_digits (s : ByteArray) : (spanOf [2] (il s) = s.size) ↔ s.data.toList.all isD = true := by
  rw [← il_length, spanOf_all, List.all_eq_true]
  unfold il
  constructor
  · intro h c hc
    have := h ((c.toNat : Nat) : Int) (List.mem_map_of_mem hc)
    rw [cls_digit] at this
    exact this
  · intro h c hc
    obtain ⟨b, hb, rfl⟩ := List.mem_map.1 hc
    rw [cls_digit]
    exact h b hb
/-- What is told of a text as a number. -/
def numV (s : ByteArray) : Int := if okN s.data.toList then (valN 0 s.data.toList : Nat) else 0
def numB (s : ByteArray) : Bool := okN s.data.toList
end Go.Proofs.YtaioeailgknfjaaGreatDoor
namespace Go.Proofs.YtaioeailgknfjaaGreatDoor
open Go

/-- A token. -/
structure Tok where
  k : Int
  text : ByteArray
  pos : Nat
def clsU (c : UInt8) : Int := cls ((c.toNat : Nat) : Int)
/-- A word's kind. -/
def kindOf (s : ByteArray) : Int := if numB s then 1 else if 0 < kwd s then 4 else if isName s then 2 else if isExn s then 3 else 0
/-- How many bytes of some classes stand at the front. -/
def spanU (cl : List Int) (l : List UInt8) : Nat := (l.takeWhile fun c => cl.contains (clsU c)).length
theorem spanU_le (cl : List Int) (l : List UInt8) : spanU cl l ≤ l.length := (List.takeWhile_sublist _).length_le
theorem spanU_pos {cl : List Int} {c : UInt8} {r : List UInt8} (h : cl.contains (clsU c) = true) : spanU cl (c :: r) = spanU cl r + 1 := by
  unfold spanU
  rw [List.takeWhile_cons_of_pos (by exact h)]
  rfl
theorem spanU_zero {cl : List Int} {c : UInt8} {r : List UInt8} (h : cl.contains (clsU c) = false) : spanU cl (c :: r) = 0 := by
  unfold spanU
  rw [List.takeWhile_cons_of_neg (by rw [h]; simp)]
  rfl
theorem spanU_nil (cl : List Int) : spanU cl [] = 0 := rfl
/-- A sign's length. -/
def signOf (l : List UInt8) : Nat := if l.take 2 = [58, 61] ∨ l.take 2 = [61, 62] then 2 else if l.head? = some 58 ∨ l.head? = some 62 then 0 else 1
/-- How long the token at the front is, and its kind; none. -/
def tokAt (l : List UInt8) : Option (Nat × Int) := match l with
  | [] => none
  | c :: r =>
    if clsU c = 2 then (if numB (bs ((c :: r).take (spanU [2] (c :: r)))) then some (spanU [2] (c :: r), 1) else none)
    else if clsU c = 3 ∨ clsU c = 4 then
      (if 0 < kwd (bs ((c :: r).take (spanU [2, 3, 4] (c :: r)))) then some (spanU [2, 3, 4] (c :: r), 4) else if isName (bs ((c :: r).take (spanU [2, 3, 4] (c :: r)))) then some (spanU [2, 3, 4] (c :: r), 2)
        else if isExn (bs ((c :: r).take (spanU [2, 3, 4] (c :: r)))) then some (spanU [2, 3, 4] (c :: r), 3) else none)
    else if clsU c = 5 then (if signOf (c :: r) = 0 then none else some (signOf (c :: r), 5)) else none
theorem signOf_le {c : UInt8} {r : List UInt8} : signOf (c :: r) ≤ (c :: r).length := by
  unfold signOf
  split
  · rename_i h
    rcases h with h | h
    · have := congrArg List.length h; simp at this ⊢; omega
    · have := congrArg List.length h; simp at this ⊢; omega
  · split <;> simp
theorem tokAt_bd {l : List UInt8} {n : Nat} {k : Int} (h : tokAt l = some (n, k)) : 0 < n ∧ n ≤ l.length ∧ 1 ≤ k ∧ k ≤ 5 := by
  cases l with
  | nil => cases h
  | cons c r =>
    unfold tokAt at h
    simp only at h
    by_cases h2 : clsU c = 2
    · rw [if_pos h2] at h
      split at h
      · cases h
        exact ⟨by rw [spanU_pos (by rw [h2]; rfl)]; omega, spanU_le _ _, by omega, by omega⟩
      · cases h
    rw [if_neg h2] at h
    by_cases h3 : clsU c = 3 ∨ clsU c = 4
    · rw [if_pos h3] at h
      have hp : 0 < spanU [2, 3, 4] (c :: r) := by
        rw [spanU_pos (by rcases h3 with h3 | h3 <;> rw [h3] <;> rfl)]
        omega
      split at h
      · cases h; exact ⟨hp, spanU_le _ _, by omega, by omega⟩
      split at h
      · cases h; exact ⟨hp, spanU_le _ _, by omega, by omega⟩
      split at h
      · cases h; exact ⟨hp, spanU_le _ _, by omega, by omega⟩
      · cases h
    rw [if_neg h3] at h
    by_cases h5 : clsU c = 5
    · rw [if_pos h5] at h
      split at h
      · cases h
      · cases h; exact ⟨by omega, signOf_le, by omega, by omega⟩
    · rw [if_neg h5] at h; cases h
/-- The tokens of a text from a place on; the place where none begins. -/
def lexF : Nat → Nat → List UInt8 → Except Nat (List Tok)
  | 0, p, _ => .ok [⟨6, ByteArray.empty, p⟩]
  | _ + 1, p, [] => .ok [⟨6, ByteArray.empty, p⟩]
  | f + 1, p, c :: r => if clsU c = 1 then lexF f (p + 1) r else match tokAt (c :: r) with
    | none => .error p
    | some (n, k) => (lexF f (p + n) ((c :: r).drop n)).map fun o => ⟨k, bs ((c :: r).take n), p⟩ :: o
theorem lexF_fuel (f : Nat) : ∀ (g p : Nat) (l : List UInt8), l.length ≤ f → l.length ≤ g → lexF f p l = lexF g p l := by
  induction f with
  | zero =>
    intro g p l hf hg
    have : l = [] := List.eq_nil_of_length_eq_zero (by omega)
    subst this
    cases g <;> rfl
  | succ f ih =>
    intro g p l hf hg
    cases l with
    | nil => cases g <;> rfl
    | cons c r =>
      cases g with
      | zero => simp at hg
      | succ g =>
        simp only [List.length_cons] at hf hg
        unfold lexF
        by_cases h1 : clsU c = 1
        · rw [if_pos h1, if_pos h1]
          exact ih g _ r (by omega) (by omega)
        · rw [if_neg h1, if_neg h1]
          cases ht : tokAt (c :: r) with
          | none => rfl
          | some nk =>
            obtain ⟨n, k⟩ := nk
            have hb := tokAt_bd ht
            simp only [List.length_cons] at hb
            simp only
            rw [ih g (p + n) ((c :: r).drop n) (by simp; omega) (by simp; omega)]
def lexL (p : Nat) (l : List UInt8) : Except Nat (List Tok) := lexF l.length p l
theorem lexL_nil (p : Nat) : lexL p [] = .ok [⟨6, ByteArray.empty, p⟩] := rfl
theorem lexL_blank {c : UInt8} (h : clsU c = 1) (p : Nat) (r : List UInt8) : lexL p (c :: r) = lexL (p + 1) r := by
  unfold lexL
  rw [List.length_cons]
  conv => lhs; unfold lexF
  rw [if_pos h]
theorem lexL_none {c : UInt8} (h : clsU c ≠ 1) (p : Nat) {r : List UInt8} (ht : tokAt (c :: r) = none) : lexL p (c :: r) = .error p := by
  unfold lexL
  rw [List.length_cons]
  conv => lhs; unfold lexF
  rw [if_neg h, ht]
theorem lexL_tok {c : UInt8} (h : clsU c ≠ 1) (p : Nat) {r : List UInt8} {n : Nat} {k : Int} (ht : tokAt (c :: r) = some (n, k)) :
    lexL p (c :: r) = (lexL (p + n) ((c :: r).drop n)).map fun o => ⟨k, bs ((c :: r).take n), p⟩ :: o := by
  have hb := tokAt_bd ht
  simp only [List.length_cons] at hb
  unfold lexL
  rw [List.length_cons]
  conv => lhs; unfold lexF
  rw [if_neg h, ht]
  simp only
  rw [lexF_fuel r.length ((c :: r).drop n).length (p + n) ((c :: r).drop n) (by simp; omega) (by simp)]
/-- Tokens put ahead. -/
def ahead (o : List Tok) (r : Except Nat (List Tok)) : Except Nat (List Tok) := r.map fun l => o ++ l
theorem ahead_nil (r : Except Nat (List Tok)) : ahead [] r = r := by cases r <;> rfl
theorem ahead_cons (o : List Tok) (t : Tok) (r : Except Nat (List Tok)) : ahead o (r.map fun l => t :: l) = ahead (o ++ [t]) r := by
  cases r with
  | error e => rfl
  | ok l => simp [ahead, Except.map]
theorem ahead_error (o : List Tok) (p : Nat) : ahead o (.error p) = .error p := rfl
theorem ahead_ok (o l : List Tok) : ahead o (.ok l) = .ok (o ++ l) := rfl
/-- Blanks at the front. -/
theorem lexL_span (p : Nat) (l : List UInt8) : lexL p l = lexL (p + spanU [1] l) (l.drop (spanU [1] l)) := by
  induction l generalizing p with
  | nil => rfl
  | cons c r ih =>
    by_cases h : clsU c = 1
    · rw [spanU_pos (by rw [h]; rfl), lexL_blank h, ih, List.drop_succ_cons]
      congr 1
      omega
    · rw [spanU_zero (by simpa using h)]
      rfl
/-- Behind the blanks stands none. -/
theorem span_stop (cl : List Int) (l : List UInt8) {c : UInt8} {r : List UInt8} (h : l.drop (spanU cl l) = c :: r) : cl.contains (clsU c) = false := by
  induction l with
  | nil => simp [spanU] at h
  | cons a l ih =>
    cases ha : cl.contains (clsU a)
    · rw [spanU_zero ha] at h
      cases h
      exact ha
    · rw [spanU_pos ha, List.drop_succ_cons] at h
      exact ih h

theorem clsU_of {i : Nat} {c : UInt8} (h : c.toNat = i) : clsU c = cls (i : Int) := by unfold clsU; rw [h]
/-- A digit's class is 2, and no other's. -/
theorem isD_cls (c : UInt8) : isD c = (clsU c == 2) := by
  have : ∀ i : Fin 256, (decide (48 ≤ i.val) && decide (i.val ≤ 57)) = (cls ((i.val : Nat) : Int) == 2) := by decide +kernel
  exact this ⟨c.toNat, by have := c.toNat_lt; omega⟩
theorem il_bs (l : List UInt8) : il (bs l) = l.map fun b => (b.toNat : Int) := by unfold il; rw [bs_list]
theorem take_span_all (cl : List Int) (l : List UInt8) : ∀ c, c ∈ l.take (spanU cl l) → cl.contains (clsU c) = true := by
  induction l with
  | nil => simp
  | cons a l ih =>
    intro c hc
    cases ha : cl.contains (clsU a)
    · rw [spanU_zero ha] at hc; simp at hc
    · rw [spanU_pos ha, List.take_succ_cons] at hc
      rcases List.mem_cons.1 hc with rfl | hc
      · exact ha
      · exact ih c hc
/-- A word that begins with a digit is none of the others. -/
theorem kind_digit {c : UInt8} (r : List UInt8) (h : clsU c = 2) : kindOf (bs (c :: r)) = if numB (bs (c :: r)) then 1 else 0 := by
  unfold kindOf
  have h3 : ∀ f, f ≠ 2 → shapely (il (bs (c :: r))) f = false := by
    intro f hf
    rw [il_bs, List.map_cons]
    simp only [shapely]
    have : (cls ((c.toNat : Nat) : Int) == f) = false := beq_false_of_ne (by have := h; unfold clsU at this; omega)
    rw [this]
    simp
  have hk : kwd (bs (c :: r)) = 0 := by
    unfold kwd
    rw [bs_list]
    refine placeOf_none (fun x hx e => ?_) 1
    subst e
    have : ∀ x, x ∈ keyw → ∀ c r, x = c :: r → clsU c ≠ 2 := by
      have hall : keyw.all (fun x => match x with | [] => true | c :: _ => clsU c != 2) = true := by decide +kernel
      intro x hx c r e
      have := List.all_eq_true.1 hall x hx
      rw [e] at this
      simpa using this
    exact this _ hx c r rfl h
  unfold isName isExn
  rw [h3 3 (by omega), h3 4 (by omega), hk]
  simp
/-- A word that begins with a letter is no number. -/
theorem kind_letter {c : UInt8} (r : List UInt8) (h : clsU c = 3 ∨ clsU c = 4) : kindOf (bs (c :: r)) = if 0 < kwd (bs (c :: r)) then 4 else if isName (bs (c :: r)) then 2 else if isExn (bs (c :: r)) then 3 else 0 := by
  unfold kindOf
  have : numB (bs (c :: r)) = false := by
    unfold numB okN
    rw [bs_list, List.all_cons, isD_cls]
    have : (clsU c == 2) = false := beq_false_of_ne (by rcases h with h | h <;> omega)
    rw [this]
    simp
  rw [this]
  simp
theorem kindOf_bd (s : ByteArray) : 0 ≤ kindOf s ∧ kindOf s ≤ 4 := by unfold kindOf; repeat' split <;> try omega
/-- The token at the front, as the program finds it. -/
theorem tokAt_kind {c : UInt8} {r : List UInt8} (cl : List Int) (h : (clsU c = 2 ∧ cl = [2]) ∨ ((clsU c = 3 ∨ clsU c = 4) ∧ cl = [2, 3, 4])) :
    tokAt (c :: r) = (if 0 < kindOf (bs ((c :: r).take (spanU cl (c :: r)))) then some (spanU cl (c :: r), kindOf (bs ((c :: r).take (spanU cl (c :: r))))) else none) := by
  rcases h with ⟨h, rfl⟩ | ⟨h, rfl⟩
  · have e : (c :: r).take (spanU [2] (c :: r)) = c :: r.take (spanU [2] r) := by rw [spanU_pos (by rw [h]; rfl), List.take_succ_cons]
    unfold tokAt
    simp only
    rw [if_pos h, e, kind_digit _ h]
    cases numB (bs (c :: r.take (spanU [2] r))) <;> simp
  · have hc : [2, 3, 4].contains (clsU c) = true := by rcases h with h | h <;> rw [h] <;> rfl
    have e : (c :: r).take (spanU [2, 3, 4] (c :: r)) = c :: r.take (spanU [2, 3, 4] r) := by rw [spanU_pos hc, List.take_succ_cons]
    unfold tokAt
    simp only
    rw [if_neg (by rcases h with h | h <;> omega), if_pos h, e, kind_letter _ h]
    by_cases a1 : 0 < kwd (bs (c :: r.take (spanU [2, 3, 4] r)))
    · simp [a1]
    · rw [if_neg a1, if_neg a1]
      cases isName (bs (c :: r.take (spanU [2, 3, 4] r))) <;> cases isExn (bs (c :: r.take (spanU [2, 3, 4] r))) <;> simp
theorem tokAt_sign {c : UInt8} {r : List UInt8} (h : clsU c = 5) : tokAt (c :: r) = if signOf (c :: r) = 0 then none else some (signOf (c :: r), 5) := by
  unfold tokAt
  simp only
  rw [if_neg (by omega), if_neg (by omega), if_pos h]
theorem tokAt_other {c : UInt8} {r : List UInt8} (h : clsU c = 0 ∨ clsU c = 1) : tokAt (c :: r) = none := by
  unfold tokAt
  simp only
  rw [if_neg (by omega), if_neg (by omega), if_neg (by omega)]
end Go.Proofs.YtaioeailgknfjaaGreatDoor
