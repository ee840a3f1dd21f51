/- Ends and their texts, in plain Lean; no program in sight. -/
import Derived.Test.YtmomahgedheekaaDoorPureN
import Derived.Lib.ParseIntBTie
import Derived.Lib.SplitLaws
import Derived.Lib.IndexBytes
namespace Go.Proofs.YtmomahgedheekaaDoor
open Go

/-- An end. -/
structure En where
  k : Int
  isInt : Bool
  n : Int
  exn : ByteArray
def En.may (e : En) : Bool :=
  if e.k = 1 then (e.isInt || decide (e.n = 0)) && e.exn.toList.isEmpty
  else if e.k = 2 then !e.isInt && isExn e.exn
  else decide (3 ≤ e.k) && (decide (e.k ≤ 6) && (!e.isInt && (decide (e.n = 0) && e.exn.toList.isEmpty)))
def tValue : List UInt8 := [118, 97, 108, 117, 101, 32]
def tUncaught : List UInt8 := [117, 110, 99, 97, 117, 103, 104, 116, 32]
/-- The texts of ends that have nothing besides. -/
def tFixed (k : Int) : List UInt8 :=
  if k = 3 then [111, 117, 116, 32, 111, 102, 32, 102, 117, 101, 108] else if k = 4 then [115, 116, 111, 114, 101, 32, 102, 117, 108, 108] else if k = 5 then [100, 97, 110, 103, 108, 105, 110, 103] else [115, 116, 117, 99, 107]
/-- An end's text. -/
def En.text (e : En) : List UInt8 :=
  if e.k = 1 then (if e.isInt then tValue ++ Lib.itoa e.n else tValue ++ [35])
  else if e.k = 2 then tUncaught ++ (e.exn.data.toList ++ 32 :: Lib.itoa e.n)
  else tFixed e.k

theorem itoa_neg {n : Int} (h : n < 0) : Lib.itoa n = 45 :: Lib.decDigits n.natAbs := by unfold Lib.itoa; rw [if_pos (by omega)]
theorem itoa_pos {n : Int} (h : 0 ≤ n) : Lib.itoa n = Lib.decDigits n.toNat := by
  obtain ⟨k, rfl⟩ := Int.eq_ofNat_of_zero_le h
  unfold Lib.itoa
  rw [if_neg (by omega)]
  all_goals rfl
theorem decDigits_first (n : Nat) : ∃ c r, Lib.decDigits n = c :: r ∧ isD c = true := by
  have h1 := (decDigits_back n).1
  cases hd : Lib.decDigits n with
  | nil => exact absurd hd (decDigits_ne n)
  | cons c r =>
    rw [hd, List.all_cons, Bool.and_eq_true] at h1
    exact ⟨c, r, rfl, h1.1⟩
theorem decDigits_inj {m n : Nat} (h : Lib.decDigits m = Lib.decDigits n) : m = n := by
  rw [← (decDigits_back m).2, h, (decDigits_back n).2]
theorem itoa_first (n : Int) : ∃ c r, Lib.itoa n = c :: r ∧ (c = 45 ∨ isD c = true) := by
  by_cases h : n < 0
  · exact ⟨_, _, itoa_neg h, .inl rfl⟩
  · obtain ⟨c, r, e, hc⟩ := decDigits_first n.toNat
    exact ⟨c, r, by rw [itoa_pos (by omega), e], .inr hc⟩
theorem itoa_inj {m n : Int} (h : Lib.itoa m = Lib.itoa n) : m = n := by
  by_cases hm : m < 0 <;> by_cases hn : n < 0
  · rw [itoa_neg hm, itoa_neg hn] at h
    have := decDigits_inj (List.cons.inj h).2
    omega
  · obtain ⟨c, r, e, hc⟩ := decDigits_first n.toNat
    rw [itoa_neg hm, itoa_pos (by omega), e] at h
    have h1 := (List.cons.inj h).1
    subst h1
    exact absurd hc (by decide)
  · obtain ⟨c, r, e, hc⟩ := decDigits_first m.toNat
    rw [itoa_neg hn, itoa_pos (by omega), e] at h
    have h1 := (List.cons.inj h).1
    subst h1
    exact absurd hc (by decide)
  · rw [itoa_pos (by omega), itoa_pos (by omega)] at h
    have := decDigits_inj h
    omega
/-- A row is cut at its first blank in one way. -/
theorem cut_inj {a a' b b' : List UInt8} (ha : (32 : UInt8) ∉ a) (ha' : (32 : UInt8) ∉ a') (h : a ++ 32 :: b = a' ++ 32 :: b') : a = a' ∧ b = b' := by
  induction a generalizing a' with
  | nil =>
    cases a' with
    | nil => simpa using h
    | cons c a' =>
      simp at h
      simp at ha'
      exact absurd h.1 ha'.1
  | cons c a ih =>
    cases a' with
    | nil =>
      simp at h
      simp at ha
      exact absurd h.1.symm ha.1
    | cons c' a' =>
      simp at h ha ha'
      obtain ⟨rfl, h⟩ := h
      obtain ⟨rfl, rfl⟩ := ih ha.2 ha'.2 h
      exact ⟨rfl, rfl⟩
theorem exn_blank {s : ByteArray} (h : isExn s = true) : (32 : UInt8) ∉ s.data.toList := by
  intro hm
  unfold isExn at h
  have h32 : (32 : Int) ∈ il s := by
    unfold il
    exact List.mem_map.2 ⟨32, hm, rfl⟩
  cases hl : il s with
  | nil => rw [hl] at h32; cases h32
  | cons c r =>
    rw [hl] at h h32
    simp only [shapely, Bool.and_eq_true] at h
    have := (List.all_eq_true.1 h.2) 32 h32
    exact absurd this (by decide)
theorem empty_of {s : ByteArray} (h : s.toList.isEmpty = true) : s = ByteArray.empty := by
  rw [ByteArray.toList_eq, List.isEmpty_iff] at h
  exact ByteArray.ext (Array.toList_inj.1 h)
theorem bytes_inj {s t : ByteArray} (h : s.data.toList = t.data.toList) : s = t := ByteArray.ext (Array.toList_inj.1 h)

/-- What an end is that may be. -/
theorem En.may_cases {e : En} (h : e.may = true) : (∃ n, e = ⟨1, true, n, ByteArray.empty⟩) ∨ e = ⟨1, false, 0, ByteArray.empty⟩ ∨ (∃ n x, e = ⟨2, false, n, x⟩ ∧ isExn x = true) ∨ (∃ k, 3 ≤ k ∧ k ≤ 6 ∧ e = ⟨k, false, 0, ByteArray.empty⟩) := by
  obtain ⟨k, i, n, x⟩ := e
  unfold En.may at h
  simp only at h
  by_cases h1 : k = 1
  · rw [if_pos h1, Bool.and_eq_true] at h
    subst h1
    have := empty_of h.2
    subst this
    cases i
    · have : n = 0 := by simpa using h.1
      subst this
      exact .inr (.inl rfl)
    · exact .inl ⟨n, rfl⟩
  · rw [if_neg h1] at h
    by_cases h2 : k = 2
    · rw [if_pos h2, Bool.and_eq_true] at h
      subst h2
      have : i = false := by simpa using h.1
      subst this
      exact .inr (.inr (.inl ⟨n, x, rfl, h.2⟩))
    · rw [if_neg h2] at h
      simp only [Bool.and_eq_true, decide_eq_true_eq, Bool.not_eq_true'] at h
      obtain ⟨a, b, c, d, e⟩ := h
      have := empty_of e
      subst this c d
      exact .inr (.inr (.inr ⟨k, a, b, rfl⟩))
theorem text_num (n : Int) (x : ByteArray) : En.text ⟨1, true, n, x⟩ = tValue ++ Lib.itoa n := by simp [En.text]
theorem text_other (n : Int) (x : ByteArray) : En.text ⟨1, false, n, x⟩ = tValue ++ [35] := by simp [En.text]
theorem text_unc (i : Bool) (n : Int) (x : ByteArray) : En.text ⟨2, i, n, x⟩ = tUncaught ++ (x.data.toList ++ 32 :: Lib.itoa n) := by simp [En.text]
theorem text_fix (k : Int) (h3 : 3 ≤ k) (i : Bool) (n : Int) (x : ByteArray) : En.text ⟨k, i, n, x⟩ = tFixed k := by
  unfold En.text
  simp only
  rw [if_neg (by omega), if_neg (by omega)]
theorem itoa_not_sign (n : Int) : Lib.itoa n ≠ [35] := by
  obtain ⟨c, r, e, hc⟩ := itoa_first n
  rw [e]
  intro h
  have := (List.cons.inj h).1
  subst this
  rcases hc with hc | hc
  · exact absurd hc (by decide)
  · exact absurd hc (by decide)
theorem fixed_head (k : Int) (h3 : 3 ≤ k) (h6 : k ≤ 6) : (tFixed k).head? ≠ some 118 ∧ (tFixed k).head? ≠ some 117 := by
  have : k = 3 ∨ k = 4 ∨ k = 5 ∨ k = 6 := by omega
  rcases this with rfl | rfl | rfl | rfl <;> decide
theorem fixed_inj (k k' : Int) (h3 : 3 ≤ k) (h6 : k ≤ 6) (h3' : 3 ≤ k') (h6' : k' ≤ 6) (h : tFixed k = tFixed k') : k = k' := by
  have a : k = 3 ∨ k = 4 ∨ k = 5 ∨ k = 6 := by omega
  have b : k' = 3 ∨ k' = 4 ∨ k' = 5 ∨ k' = 6 := by omega
  rcases a with rfl | rfl | rfl | rfl <;> rcases b with rfl | rfl | rfl | rfl <;> first | rfl | exact absurd h (by decide)
/-- Two ends have one text just if they are the same. -/
theorem En.text_inj {a b : En} (ha : a.may = true) (hb : b.may = true) (h : a.text = b.text) : a = b := by
  have hd := congrArg List.head? h
  rcases En.may_cases ha with ⟨n, rfl⟩ | rfl | ⟨n, x, rfl, hx⟩ | ⟨k, k3, k6, rfl⟩ <;> rcases En.may_cases hb with ⟨n', rfl⟩ | rfl | ⟨n', x', rfl, hx'⟩ | ⟨k', k3', k6', rfl⟩
  · rw [text_num, text_num] at h
    rw [itoa_inj (List.append_cancel_left h)]
  · rw [text_num, text_other] at h
    exact absurd (List.append_cancel_left h) (itoa_not_sign n)
  · rw [text_num, text_unc] at hd
    exact absurd hd (by simp [tValue, tUncaught])
  · rw [text_num, text_fix k' k3'] at hd
    exact absurd hd.symm (by simpa [tValue] using (fixed_head k' k3' k6').1)
  · rw [text_other, text_num] at h
    exact absurd (List.append_cancel_left h).symm (itoa_not_sign n')
  · rfl
  · rw [text_other, text_unc] at hd
    exact absurd hd (by simp [tValue, tUncaught])
  · rw [text_other, text_fix k' k3'] at hd
    exact absurd hd.symm (by simpa [tValue] using (fixed_head k' k3' k6').1)
  · rw [text_unc, text_num] at hd
    exact absurd hd (by simp [tValue, tUncaught])
  · rw [text_unc, text_other] at hd
    exact absurd hd (by simp [tValue, tUncaught])
  · rw [text_unc, text_unc] at h
    obtain ⟨e1, e2⟩ := cut_inj (exn_blank hx) (exn_blank hx') (List.append_cancel_left h)
    rw [bytes_inj e1, itoa_inj e2]
  · rw [text_unc, text_fix k' k3'] at hd
    exact absurd hd.symm (by simpa [tUncaught] using (fixed_head k' k3' k6').2)
  · rw [text_num, text_fix k k3] at hd
    exact absurd hd (by simpa [tValue] using (fixed_head k k3 k6).1)
  · rw [text_other, text_fix k k3] at hd
    exact absurd hd (by simpa [tValue] using (fixed_head k k3 k6).1)
  · rw [text_unc, text_fix k k3] at hd
    exact absurd hd (by simpa [tUncaught] using (fixed_head k k3 k6).2)
  · rw [text_fix k k3, text_fix k' k3'] at h
    rw [fixed_inj k k' k3 k6 k3' k6' h]

theorem parseUint_digits (M : Nat) (l : List UInt8) (acc : Nat) (h : l.all isD = true) (hv : valN acc l ≤ M) (hM : M ≤ 18446744073709551615) : Lib.parseUintM M acc l = .ok (valN acc l) := by
  induction l generalizing acc with
  | nil => rfl
  | cons c r ih =>
    rw [List.all_cons, Bool.and_eq_true] at h
    have hc := (isD_iff c).1 h.1
    have hle := valN_le r (10 * acc + (c.toNat - 48))
    simp only [valN_cons] at hv ⊢
    unfold Lib.parseUintM
    rw [if_pos hc, if_neg (by omega), if_neg (by omega), Nat.mul_comm acc 10]
    exact ih _ h.2 hv
theorem parse_itoa (n : Int) (h0 : -9223372036854775808 ≤ n) (h1 : n ≤ 9223372036854775807) : Lib.parseIntB 64 (Lib.itoa n) = .ok n := by
  have e64 : (2 : Nat) ^ 64 - 1 = 18446744073709551615 := by decide
  have e63 : (2 : Nat) ^ (64 - 1) = 9223372036854775808 := by decide
  by_cases hn : n < 0
  · rw [itoa_neg hn, Lib.parseIntB_minus]
    obtain ⟨d1, d2⟩ := decDigits_back n.natAbs
    unfold Lib.parseUintB
    rw [if_neg (decDigits_ne _), parseUint_digits _ _ 0 d1 (by rw [d2, e64]; omega) (by rw [e64]; omega), d2]
    unfold Lib.signedC
    simp only
    rw [if_neg (by rw [e63]; omega)]
    congr 1
    omega
  · rw [itoa_pos (by omega)]
    obtain ⟨c, r, e, hc⟩ := decDigits_first n.toNat
    obtain ⟨d1, d2⟩ := decDigits_back n.toNat
    have hc' := (isD_iff c).1 hc
    rw [e, Lib.parseIntB_plain 64 c r (by omega) (by omega), ← e]
    unfold Lib.parseUintB
    rw [if_neg (decDigits_ne _), parseUint_digits _ _ 0 d1 (by rw [d2, e64]; omega) (by rw [e64]; omega), d2]
    unfold Lib.signlessC
    simp only
    rw [if_neg (by rw [e63]; omega)]
    congr 1
    omega
/-- The number whose text this is. -/
def numC (l : List UInt8) : Option Int := match Lib.parseIntB 64 l with
  | .ok v => if Lib.itoa v = l then some v else none
  | _ => none
theorem numC_iff (l : List UInt8) (n : Int) : numC l = some n ↔ -9223372036854775808 ≤ n ∧ n ≤ 9223372036854775807 ∧ Lib.itoa n = l := by
  constructor
  · intro h
    unfold numC at h
    split at h
    · rename_i v hv
      split at h
      · rename_i he
        cases h
        have := Lib.parseIntB_bounds hv
        have e63 : (2 : Nat) ^ (64 - 1) = 9223372036854775808 := by decide
        rw [e63] at this
        exact ⟨by omega, by omega, he⟩
      · cases h
    · cases h
  · rintro ⟨h0, h1, rfl⟩
    unfold numC
    rw [parse_itoa n h0 h1]
    simp

/-- The pieces of a text between its blanks. -/
def cutL : List UInt8 → List (List UInt8)
  | [] => [[]]
  | c :: l => if c = 32 then [] :: cutL l else match cutL l with
    | [] => [[c]]
    | p :: ps => (c :: p) :: ps
theorem cutL_ne (l : List UInt8) : cutL l ≠ [] := by
  cases l with
  | nil => simp [cutL]
  | cons c l =>
    unfold cutL
    split
    · simp
    · split <;> simp
theorem cutL_none {a : List UInt8} (h : (32 : UInt8) ∉ a) : cutL a = [a] := by
  induction a with
  | nil => rfl
  | cons c a ih =>
    simp at h
    unfold cutL
    rw [if_neg (fun e => h.1 e.symm), ih h.2]
theorem cutL_at {a : List UInt8} (h : (32 : UInt8) ∉ a) (b : List UInt8) : cutL (a ++ 32 :: b) = a :: cutL b := by
  induction a with
  | nil => simp [cutL]
  | cons c a ih =>
    simp at h
    rw [List.cons_append]
    conv => lhs; unfold cutL
    rw [if_neg (fun e => h.1 e.symm), ih h.2]
theorem cutL_cons {l a : List UInt8} {ps : List (List UInt8)} (h : cutL l = a :: ps) : (32 : UInt8) ∉ a ∧ (ps = [] → l = a) ∧ (∀ b qs, ps = b :: qs → ∃ r, l = a ++ 32 :: r ∧ cutL r = ps) := by
  induction l generalizing a ps with
  | nil =>
    simp [cutL] at h
    obtain ⟨rfl, rfl⟩ := h
    exact ⟨by simp, fun _ => rfl, fun b qs e => by cases e⟩
  | cons c l ih =>
    unfold cutL at h
    by_cases hc : c = 32
    · rw [if_pos hc] at h
      cases h
      refine ⟨by simp, fun e => absurd e (cutL_ne l), fun b qs e => ⟨l, by simp [hc], rfl⟩⟩
    · rw [if_neg hc] at h
      cases hl : cutL l with
      | nil => exact absurd hl (cutL_ne l)
      | cons p qs =>
        rw [hl] at h
        simp only at h
        cases h
        obtain ⟨i1, i2, i3⟩ := ih hl
        refine ⟨by simp [i1]; exact fun e => hc e.symm, fun e => by rw [i2 e], fun b qs e => ?_⟩
        obtain ⟨r, r1, r2⟩ := i3 b qs e
        exact ⟨r, by rw [r1]; rfl, r2⟩
theorem cutL_one {l a : List UInt8} (h : cutL l = [a]) : l = a := (cutL_cons h).2.1 rfl
theorem cutL_two {l a b : List UInt8} (h : cutL l = [a, b]) : l = a ++ 32 :: b := by
  obtain ⟨r, h1, h2⟩ := (cutL_cons h).2.2 b [] rfl
  rw [h1, cutL_one h2]
theorem cutL_three {l a b c : List UInt8} (h : cutL l = [a, b, c]) : l = a ++ 32 :: (b ++ 32 :: c) := by
  obtain ⟨r, h1, h2⟩ := (cutL_cons h).2.2 b [c] rfl
  rw [h1, cutL_two h2]
theorem itoa_blank (n : Int) : (32 : UInt8) ∉ Lib.itoa n := by
  have hd : ∀ k, (32 : UInt8) ∉ Lib.decDigits k := fun k hm => by
    have := List.all_eq_true.1 (decDigits_back k).1 32 hm
    exact absurd this (by decide)
  by_cases hn : n < 0
  · rw [itoa_neg hn]
    intro h
    rcases List.mem_cons.1 h with h | h
    · exact absurd h (by decide)
    · exact hd _ h
  · rw [itoa_pos (by omega)]; exact hd _
def wValue : List UInt8 := [118, 97, 108, 117, 101]
def wUncaught : List UInt8 := [117, 110, 99, 97, 117, 103, 104, 116]
/-- An end of two, or three, words. -/
def readW (ps : List (List UInt8)) : Option En := match ps with
  | [a, b] => if a = wValue then (numC b).map fun n => ⟨1, true, n, ByteArray.empty⟩ else none
  | [a, x, b] => if a = wUncaught ∧ isExn (bs x) = true then (numC b).map fun n => ⟨2, false, n, bs x⟩ else none
  | _ => none
/-- The end of a text. -/
def readE (l : List UInt8) : Option En :=
  if l = tFixed 3 then some ⟨3, false, 0, ByteArray.empty⟩ else if l = tFixed 4 then some ⟨4, false, 0, ByteArray.empty⟩ else if l = tFixed 5 then some ⟨5, false, 0, ByteArray.empty⟩ else if l = tFixed 6 then some ⟨6, false, 0, ByteArray.empty⟩
  else if l = tValue ++ [35] then some ⟨1, false, 0, ByteArray.empty⟩ else readW (cutL l)
/-- An end whose number Go has. -/
def En.fits (e : En) : Prop := -9223372036854775808 ≤ e.n ∧ e.n ≤ 9223372036854775807
theorem may_num (n : Int) : En.may ⟨1, true, n, ByteArray.empty⟩ = true := by
  have : ByteArray.empty.toList.isEmpty = true := by rw [ByteArray.toList_eq]; rfl
  simp [En.may, this]
theorem may_other : En.may ⟨1, false, 0, ByteArray.empty⟩ = true := by
  have : ByteArray.empty.toList.isEmpty = true := by rw [ByteArray.toList_eq]; rfl
  simp [En.may, this]
theorem may_fix (k : Int) (h3 : 3 ≤ k) (h6 : k ≤ 6) : En.may ⟨k, false, 0, ByteArray.empty⟩ = true := by
  have : ByteArray.empty.toList.isEmpty = true := by rw [ByteArray.toList_eq]; rfl
  unfold En.may
  simp only
  rw [if_neg (by omega), if_neg (by omega)]
  simp [this, h3, h6]
theorem may_unc {x : ByteArray} (n : Int) (h : isExn x = true) : En.may ⟨2, false, n, x⟩ = true := by simp [En.may, h]
theorem readW_sound {l : List UInt8} {e : En} (h : readW (cutL l) = some e) : e.may = true ∧ e.fits ∧ e.text = l := by
  unfold readW at h
  split at h
  · rename_i a b hc
    split at h
    · rename_i ha
      subst ha
      obtain ⟨n, hn, rfl⟩ := Option.map_eq_some_iff.1 h
      obtain ⟨n0, n1, hi⟩ := (numC_iff b n).1 hn
      refine ⟨may_num n, ⟨n0, n1⟩, ?_⟩
      rw [text_num, cutL_two hc, hi]
      rfl
    · cases h
  · rename_i a x b hc
    split at h
    · rename_i ha
      obtain ⟨rfl, hx⟩ := ha
      obtain ⟨n, hn, rfl⟩ := Option.map_eq_some_iff.1 h
      obtain ⟨n0, n1, hi⟩ := (numC_iff b n).1 hn
      refine ⟨may_unc n hx, ⟨n0, n1⟩, ?_⟩
      rw [text_unc, cutL_three hc, hi, bs_list]
      rfl
    · cases h
  · cases h
theorem readE_sound {l : List UInt8} {e : En} (h : readE l = some e) : e.may = true ∧ e.fits ∧ e.text = l := by
  unfold readE at h
  have f0 : ∀ k, En.fits ⟨k, false, 0, ByteArray.empty⟩ := fun k => ⟨by simp, by simp⟩
  by_cases a3 : l = tFixed 3
  · rw [if_pos a3] at h; cases h; exact ⟨may_fix 3 (by omega) (by omega), f0 3, by rw [text_fix 3 (by omega), a3]⟩
  rw [if_neg a3] at h
  by_cases a4 : l = tFixed 4
  · rw [if_pos a4] at h; cases h; exact ⟨may_fix 4 (by omega) (by omega), f0 4, by rw [text_fix 4 (by omega), a4]⟩
  rw [if_neg a4] at h
  by_cases a5 : l = tFixed 5
  · rw [if_pos a5] at h; cases h; exact ⟨may_fix 5 (by omega) (by omega), f0 5, by rw [text_fix 5 (by omega), a5]⟩
  rw [if_neg a5] at h
  by_cases a6 : l = tFixed 6
  · rw [if_pos a6] at h; cases h; exact ⟨may_fix 6 (by omega) (by omega), f0 6, by rw [text_fix 6 (by omega), a6]⟩
  rw [if_neg a6] at h
  by_cases a7 : l = tValue ++ [35]
  · rw [if_pos a7] at h; cases h; exact ⟨may_other, f0 1, by rw [text_other, a7]⟩
  rw [if_neg a7] at h
  exact readW_sound h
theorem readE_text {e : En} (h : e.may = true) (hf : e.fits) : ∃ e', readE e.text = some e' := by
  unfold readE
  by_cases a3 : e.text = tFixed 3
  · exact ⟨_, by rw [if_pos a3]⟩
  rw [if_neg a3]
  by_cases a4 : e.text = tFixed 4
  · exact ⟨_, by rw [if_pos a4]⟩
  rw [if_neg a4]
  by_cases a5 : e.text = tFixed 5
  · exact ⟨_, by rw [if_pos a5]⟩
  rw [if_neg a5]
  by_cases a6 : e.text = tFixed 6
  · exact ⟨_, by rw [if_pos a6]⟩
  rw [if_neg a6]
  by_cases a7 : e.text = tValue ++ [35]
  · exact ⟨_, by rw [if_pos a7]⟩
  rw [if_neg a7]
  rcases En.may_cases h with ⟨n, rfl⟩ | rfl | ⟨n, x, rfl, hx⟩ | ⟨k, k3, k6, rfl⟩
  · refine ⟨⟨1, true, n, ByteArray.empty⟩, ?_⟩
    rw [text_num, show tValue ++ Lib.itoa n = wValue ++ 32 :: Lib.itoa n from rfl, cutL_at (by decide), cutL_none (itoa_blank n)]
    unfold readW
    simp only
    rw [if_pos trivial, (numC_iff _ n).2 ⟨hf.1, hf.2, rfl⟩]
    rfl
  · exact absurd (text_other 0 _) a7
  · refine ⟨⟨2, false, n, bs x.data.toList⟩, ?_⟩
    rw [text_unc, show tUncaught ++ (x.data.toList ++ 32 :: Lib.itoa n) = wUncaught ++ 32 :: (x.data.toList ++ 32 :: Lib.itoa n) from rfl, cutL_at (by decide), cutL_at (exn_blank hx), cutL_none (itoa_blank n)]
    unfold readW
    simp only
    rw [if_pos ⟨trivial, by rw [← bs_of]; exact hx⟩, (numC_iff _ n).2 ⟨hf.1, hf.2, rfl⟩]
    rfl
  · have hk : k = 3 ∨ k = 4 ∨ k = 5 ∨ k = 6 := by omega
    rw [text_fix k k3] at a3 a4 a5 a6
    rcases hk with rfl | rfl | rfl | rfl
    · exact absurd rfl a3
    · exact absurd rfl a4
    · exact absurd rfl a5
    · exact absurd rfl a6
/-- What is read of a text is the one end that has it. -/
theorem readE_iff (l : List UInt8) (e : En) : readE l = some e ↔ e.may = true ∧ e.fits ∧ e.text = l := by
  constructor
  · exact readE_sound
  · rintro ⟨h, hf, rfl⟩
    obtain ⟨e', he⟩ := readE_text h hf
    obtain ⟨h1, h2, h3⟩ := readE_sound he
    rw [he, En.text_inj h1 h h3]

theorem find_blank (l : List UInt8) : (32 : UInt8) ∈ l → ∃ a b, l = a ++ 32 :: b ∧ (32 : UInt8) ∉ a := by
  induction l with
  | nil => intro h; cases h
  | cons c l ih =>
    intro h
    by_cases hc : c = 32
    · subst hc; exact ⟨[], l, rfl, by simp⟩
    · have hl : (32 : UInt8) ∈ l := by
        rcases List.mem_cons.1 h with e | e
        · exact absurd e.symm hc
        · exact e
      obtain ⟨a, b, rfl, ha⟩ := ih hl
      exact ⟨c :: a, b, rfl, by simp [ha]; exact fun e => hc e.symm⟩
theorem indexByte_no {l : List UInt8} (h : (32 : UInt8) ∉ l) : Lib.indexByte l 32 = -1 := by
  induction l with
  | nil => rfl
  | cons c l ih =>
    simp at h
    have hc : (c == 32) = false := by simpa using fun e => h.1 e.symm
    unfold Lib.indexByte
    rw [hc, ih h.2]
    rfl
theorem indexByte_at {a : List UInt8} (b : List UInt8) (h : (32 : UInt8) ∉ a) : Lib.indexByte (a ++ 32 :: b) 32 = a.length := by
  induction a with
  | nil => rfl
  | cons c a ih =>
    simp at h
    have hc : (c == 32) = false := by simpa using fun e => h.1 e.symm
    rw [List.cons_append]
    unfold Lib.indexByte
    rw [hc, ih h.2]
    have : ((a.length : Int) == -1) = false := beq_false_of_ne (by omega)
    simp only [Bool.false_eq_true, if_false, this, List.length_cons]
    omega
theorem splitK_cut (k : Nat) : ∀ l : List UInt8, l.count 32 ≤ k → Lib.splitK [32] 0 k l = cutL l := by
  induction k with
  | zero =>
    intro l h
    have : (32 : UInt8) ∉ l := fun hm => by have := List.count_pos_iff.2 hm; omega
    rw [cutL_none this]
    rfl
  | succ k ih =>
    intro l h
    unfold Lib.splitK
    rw [Lib.index_one]
    by_cases hm : (32 : UInt8) ∈ l
    · obtain ⟨a, b, rfl, ha⟩ := find_blank l hm
      rw [indexByte_at b ha, cutL_at ha]
      have : ((a.length : Int) == -1) = false := beq_false_of_ne (by omega)
      rw [this]
      have hcnt : b.count 32 ≤ k := by
        rw [List.count_append, List.count_cons_self] at h
        omega
      simp only [Bool.false_eq_true, if_false, Int.toNat_natCast, Nat.add_zero, List.length_cons, List.length_nil, Nat.zero_add]
      rw [List.take_left', show (a ++ 32 :: b).drop (a.length + 1) = b from by rw [List.drop_append]; simp, ih b hcnt]
      rfl
    · rw [indexByte_no hm, cutL_none hm]
      rfl
/-- What the library cuts a text into. -/
theorem split_cut (s : ByteArray) : Lib.splitB ⟨#[32]⟩ 0 (Lib.countB s ⟨#[32]⟩) s = (cutL s.data.toList).map bs := by
  have h := Lib.splitB_data ⟨#[32]⟩ 0 (Lib.countB s ⟨#[32]⟩) s
  have hc : Lib.countB s ⟨#[32]⟩ = s.data.toList.count 32 := by
    show Lib.count s.data.toList [32] = _
    exact Lib.count_one 32 _
  rw [splitK_cut _ _ (by rw [hc]; exact Nat.le_refl _)] at h
  rw [← h, List.map_map]
  have e : (bs ∘ fun x : ByteArray => x.data.toList) = id := by
    funext x
    exact (bs_of x).symm
  rw [e, List.map_id]
end Go.Proofs.YtmomahgedheekaaDoor
