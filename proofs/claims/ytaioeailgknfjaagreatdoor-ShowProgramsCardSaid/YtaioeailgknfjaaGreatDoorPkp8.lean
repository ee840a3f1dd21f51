/- Part 8 of the proof: Scope1, PureKl; no condition of ours. -/
import Derived.Test.YtaioeailgknfjaaGreatDoorPkp1
import Derived.Test.YtaioeailgknfjaaGreatDoorPkp2
import Derived.Test.YtaioeailgknfjaaGreatDoorPkp5
set_option linter.unusedVariables false
set_option linter.unusedSimpArgs false
namespace Go.Proofs.YtaioeailgknfjaaGreatDoor
open Go.Lib (hid)
open Go Go.RowKit Go.Sort
set_option maxHeartbeats 400000 in
theorem strs_contains (x : ByteArray) (l : List ByteArray) (w : World) (a : Option Addr) (len cap : Nat) (h1 : len ≤ cap) (h2 : cap ≤ 9223372036854775807) (hl : IsRow w (vstr l) a len) :
    Calls Tryz.prog 70 #[.slice a len cap, .string x] w fun e w' => e = .returned (.bool (inB l x)) ∧ Ext w w' := by
  have HF : Hid (decide (0 ≤ fidx (fun y : ByteArray => x.toList == y.toList) l) = inB l x) := hid (fidx_nonneg _ l)
  have HI := hid (strs_index x l w a len cap h1 h2 hl)
  clear hl
  go_enter Tryz.func70, Tryz.ntmps70
  go_wp2_with (go_at_call 94; refine HI.out.mono ?_; rintro e w1 ⟨rfl, x1⟩)
  go_ret
  exact ⟨ret_bool HF.out, x1⟩
end Go.Proofs.YtaioeailgknfjaaGreatDoor
namespace Go.Proofs.YtaioeailgknfjaaGreatDoor
open Go
def Stop (b : List UInt8) : Prop := ∀ c r, b = c :: r → clsU c = 1
theorem Stop.blank {c : UInt8} (h : clsU c = 1) (r : List UInt8) : Stop (c :: r) := fun c' r' e => by cases e; exact h
theorem span_stop_append {cl : List Int} (hc : cl.contains 1 = false) (l : List UInt8) {b : List UInt8} (hb : Stop b) : spanU cl (l ++ b) = spanU cl l := by
  induction l with
  | nil =>
    cases b with
    | nil => rfl
    | cons c r => rw [List.nil_append, spanU_zero (by rw [hb c r rfl]; exact hc)]; rfl
  | cons a l ih =>
    rw [List.cons_append]
    cases ha : cl.contains (clsU a)
    · rw [spanU_zero ha, spanU_zero ha]
    · rw [spanU_pos ha, spanU_pos ha, ih]
theorem cls_eq : clsU 61 = 5 ∧ clsU 62 = 5 := by decide
theorem signOf_append (c : UInt8) (r : List UInt8) {b : List UInt8} (hb : Stop b) : signOf (c :: r ++ b) = signOf (c :: r) := by
  have e : ((c :: r ++ b).take 2 = [58, 61] ∨ (c :: r ++ b).take 2 = [61, 62]) ↔ ((c :: r).take 2 = [58, 61] ∨ (c :: r).take 2 = [61, 62]) := by
    cases r with
    | cons d r => simp
    | nil =>
      cases b with
      | nil => simp
      | cons d b =>
        have h1 := hb d b rfl
        have n1 : d ≠ 61 := fun e => by rw [e, cls_eq.1] at h1; omega
        have n2 : d ≠ 62 := fun e => by rw [e, cls_eq.2] at h1; omega
        simp [n1, n2]
  unfold signOf
  simp only [e]
  rfl
theorem tokAt_append (c : UInt8) (r : List UInt8) {b : List UInt8} (hb : Stop b) : tokAt (c :: r ++ b) = tokAt (c :: r) := by
  have t : ∀ cl : List Int, cl.contains 1 = false → (c :: (r ++ b)).take (spanU cl (c :: r)) = (c :: r).take (spanU cl (c :: r)) := by
    intro cl _
    rw [← List.cons_append, List.take_append_of_le_length (spanU_le _ _)]
  have s2 : spanU [2] (c :: (r ++ b)) = spanU [2] (c :: r) := span_stop_append rfl (c :: r) hb
  have s3 : spanU [2, 3, 4] (c :: (r ++ b)) = spanU [2, 3, 4] (c :: r) := span_stop_append rfl (c :: r) hb
  have s5 : signOf (c :: (r ++ b)) = signOf (c :: r) := signOf_append c r hb
  rw [List.cons_append]
  unfold tokAt
  simp only
  rw [s2, s3, s5, t [2] rfl, t [2, 3, 4] rfl]
theorem takeWhile_all {α : Type} {p : α → Bool} {l : List α} (h : ∀ c, c ∈ l → p c = true) : l.takeWhile p = l := by
  induction l with
  | nil => rfl
  | cons a l ih => rw [List.takeWhile_cons_of_pos (h a (by simp)), ih fun c hc => h c (by simp [hc])]
theorem tokAt_front {l : List UInt8} {n : Nat} {k : Int} (h : tokAt l = some (n, k)) : ∃ c r, l = c :: r ∧ clsU c ≠ 1 := by
  cases l with
  | nil => cases h
  | cons c r =>
    refine ⟨c, r, rfl, fun h1 => ?_⟩
    rw [tokAt_other (.inr h1)] at h
    cases h
theorem lex_ind {P : Nat → List UInt8 → Prop} (h0 : ∀ p, P p [])
    (h1 : ∀ p c r, clsU c = 1 → P (p + 1) r → P p (c :: r))
    (h2 : ∀ p c r, clsU c ≠ 1 → tokAt (c :: r) = none → P p (c :: r))
    (h3 : ∀ p c r n k, clsU c ≠ 1 → tokAt (c :: r) = some (n, k) → P (p + n) ((c :: r).drop n) → P p (c :: r)) : ∀ (m p : Nat) (l : List UInt8), l.length ≤ m → P p l := by
  intro m
  induction m with
  | zero =>
    intro p l hl
    have : l = [] := List.eq_nil_of_length_eq_zero (by omega)
    subst this
    exact h0 p
  | succ m ih =>
    intro p l hl
    cases l with
    | nil => exact h0 p
    | cons c r =>
      simp only [List.length_cons] at hl
      by_cases hc : clsU c = 1
      · exact h1 p c r hc (ih _ _ (by omega))
      cases ht : tokAt (c :: r) with
      | none => exact h2 p c r hc ht
      | some nk =>
        obtain ⟨n, k⟩ := nk
        have hb := tokAt_bd ht
        simp only [List.length_cons] at hb
        exact h3 p c r n k hc ht (ih _ _ (by simp; omega))
theorem lexL_last {p : Nat} {l : List UInt8} {o : List Tok} (h : lexL p l = .ok o) : ∃ o', o = o' ++ [⟨6, ByteArray.empty, p + l.length⟩] ∧ ∀ t, t ∈ o' → t.k ≠ 6 := by
  have := lex_ind (P := fun p l => ∀ o, lexL p l = .ok o → ∃ o', o = o' ++ [⟨6, ByteArray.empty, p + l.length⟩] ∧ ∀ t, t ∈ o' → t.k ≠ 6) ?_ ?_ ?_ ?_ l.length p l (Nat.le_refl _)
  · exact this o h
  · intro p o h; cases h; exact ⟨[], rfl, by simp⟩
  · intro p c r hc ih o h
    rw [lexL_blank hc] at h
    obtain ⟨o', e, hk⟩ := ih o h
    exact ⟨o', by rw [e, List.length_cons]; congr 3; omega, hk⟩
  · intro p c r hc ht o h; rw [lexL_none hc _ ht] at h; cases h
  · intro p c r n k hc ht ih o h
    rw [lexL_tok hc _ ht] at h
    have hbd := tokAt_bd ht
    cases hr : lexL (p + n) ((c :: r).drop n) with
    | error e => rw [hr] at h; cases h
    | ok o2 =>
      rw [hr] at h
      cases h
      obtain ⟨o', e, hk⟩ := ih o2 hr
      refine ⟨⟨k, bs ((c :: r).take n), p⟩ :: o', ?_, ?_⟩
      · rw [e, List.cons_append, List.length_drop]
        congr 4
        omega
      · intro t htm
        rcases List.mem_cons.1 htm with rfl | htm
        · simp only; omega
        · exact hk t htm
end Go.Proofs.YtaioeailgknfjaaGreatDoor
