/- A long row of operands, in plain Lean. The tokens of a long row of operands, in plain Lean. The tokens of a text that stands ahead of another, in plain Lean. The tokens of texts in brackets, in plain Lean. The laws on texts in brackets, in plain Lean. More laws on texts, in plain Lean. Exceptions declared ahead of a text, in plain Lean. The program of a text, in plain Lean; no program in sight. -/
import Derived.Test.YtaioeailgknfjaaGreatDoorPureP2
import Derived.Test.YtaioeailgknfjaaGreatDoorPureKl
namespace Go.Proofs.YtaioeailgknfjaaGreatDoor
open Go

/-- Signs and names, by places, and an end. -/
def pairs (e : Tk) : List Int → List Tk
  | [] => [e]
  | p :: ps => ⟨5, s_minus, p⟩ :: ⟨2, ⟨#[120]⟩, p + 2⟩ :: pairs e ps
def varX (p : Int) : Tm := .mk { hd0 2 p with name := ⟨#[120]⟩ } []
theorem pairs_begins (e : Tk) (he : e.k = 6) (ps : List Int) : beginsT (pairs e ps) = false := by
  cases ps with
  | nil => exact (Halts.ended he).begins
  | cons p ps =>
    simp only [pairs, beginsT, kindT, isT]
    decide +kernel
theorem pairs_star (e : Tk) (he : e.k = 6) (ps : List Int) : isT [s_star] (pairs e ps) = false := by
  cases ps with
  | nil => simp [pairs, isT, he]
  | cons p ps =>
    simp only [pairs, isT]
    decide +kernel
theorem unary_var (p : Int) (l : List Tk) : parseF 1 .unary (⟨2, ⟨#[120]⟩, p⟩ :: l) = some (.ok (varX p, l)) := by
  have n : ∀ xs, ¬ isT xs (⟨2, ⟨#[120]⟩, p⟩ :: l) = true := fun xs => by simp [isT]
  unfold parseF
  rw [if_neg (n _), if_neg (n _), if_neg (by simp [kindT]), if_pos (by simp [kindT])]
  rfl
theorem long_more (e : Tk) (he : e.k = 6) : ∀ (ps : List Int) (a : Tm), ∃ g t', parseF (g + 1) (.more 2 a) (pairs e ps) = some (.ok (t', [e])) ∧ (ps = [] → t' = a) ∧ (ps ≠ [] → ∃ h b q, t' = .mk h [b, q] ∧ h.k = 9 ∧ q.head.k = 2) := by
  intro ps
  induction ps with
  | nil =>
    intro a
    refine ⟨0, a, ?_, fun _ => rfl, fun h => absurd rfl h⟩
    unfold parseF
    rw [if_neg (by simp [pairs, isT, he])]
    rfl
  | cons p ps ih =>
    intro a
    obtain ⟨g1, e1⟩ := climb (unary_var (p + 2) (pairs e ps)) (pairs_begins e he ps) 1 3 rfl fun j h1 h2 => by
      obtain rfl : j = 3 := by omega
      exact pairs_star e he ps
    obtain ⟨g2, t', e2, i1, i2⟩ := ih (putT s_minus a (varX (p + 2)))
    have e1' := parseF_mono (show g1 + 1 ≤ max g1 g2 + 1 by omega) e1
    have e2' := parseF_mono (show g2 + 1 ≤ max g1 g2 + 1 by omega) e2
    refine ⟨max g1 g2 + 1, t', ?_, (fun h => by cases h), fun _ => ?_⟩
    · unfold parseF
      rw [if_pos (by simp only [pairs, isT]; decide +kernel)]
      simp only [pairs, List.tail_cons]
      rw [e1', andThen_ok]
      exact e2'
    · cases ps with
      | nil =>
        rw [i1 rfl]
        refine ⟨_, _, _, rfl, rfl, rfl⟩
      | cons q ps => exact i2 (by simp)
/-- The whole row. -/
theorem long_expr (e : Tk) (he : e.k = 6) (p : Int) (ps : List Int) : ∃ g t', parseF g .expr (⟨2, ⟨#[120]⟩, p⟩ :: pairs e ps) = some (.ok (t', [e])) ∧ (ps ≠ [] → ∃ h b q, t' = .mk h [b, q] ∧ h.k = 9 ∧ q.head.k = 2) := by
  obtain ⟨g1, e1⟩ := climb (unary_var p (pairs e ps)) (pairs_begins e he ps) 1 3 rfl fun j h1 h2 => by
    obtain rfl : j = 3 := by omega
    exact pairs_star e he ps
  obtain ⟨g2, t', e2, -, i2⟩ := long_more e he ps (varX p)
  have e1' := parseF_mono (show g1 + 1 ≤ max g1 g2 + 1 by omega) e1
  have e2' := parseF_mono (show g2 + 1 ≤ max g1 g2 + 1 by omega) e2
  have e3 : parseF (max g1 g2 + 2) (.lvl 2) (⟨2, ⟨#[120]⟩, p⟩ :: pairs e ps) = some (.ok (t', [e])) := by
    unfold parseF
    rw [if_neg (by omega), if_pos (by omega), e1', andThen_ok]
    exact e2'
  obtain ⟨g, e4⟩ := climb_out 2 (max g1 g2 + 1) (by omega) e3 fun j hj => by
    match j, hj with
    | 0, _ => exact (Halts.ended he).isT _ (by decide +kernel)
    | 1, _ => exact (Halts.ended he).isT _ (by decide +kernel)
  exact ⟨_, t', up_expr e4 (fun xs _ => by simp [isT]), i2⟩
end Go.Proofs.YtaioeailgknfjaaGreatDoor
namespace Go.Proofs.YtaioeailgknfjaaGreatDoor
open Go

/-- So many times a sign and a name. -/
def minusB : Nat → List UInt8
  | 0 => []
  | n + 1 => 32 :: 45 :: 32 :: 120 :: minusB n
def places (p : Nat) : Nat → List Int
  | 0 => []
  | n + 1 => ((p + 1 : Nat) : Int) :: places (p + 4) n
theorem minusB_more (n : Nat) : minusB (n + 1) = minusB n ++ [32, 45, 32, 120] := by
  induction n with
  | zero => rfl
  | succ n ih =>
    have e : minusB (n + 1 + 1) = 32 :: 45 :: 32 :: 120 :: minusB (n + 1) := rfl
    rw [e]
    conv => lhs; rw [ih]
    rfl
theorem minusB_length (n : Nat) : (minusB n).length = 4 * n := by
  induction n with
  | zero => rfl
  | succ n ih => simp only [minusB, List.length_cons, ih]; omega
theorem minusB_stop (n : Nat) : Stop (minusB n) := by
  cases n with
  | zero => exact Stop.nil
  | succ n => exact Stop.blank (by decide +kernel) _
theorem lex_minus (n : Nat) : ∀ p, ∃ o, lexL p (minusB n) = .ok o ∧ o.map Tok.tk = pairs ⟨6, ByteArray.empty, ((p + 4 * n : Nat) : Int)⟩ (places p n) := by
  induction n with
  | zero => intro p; exact ⟨_, rfl, rfl⟩
  | succ n ih =>
    intro p
    obtain ⟨o, e, m⟩ := ih (p + 4)
    have t1 : tokAt (45 :: 32 :: 120 :: minusB n) = some (1, 5) := by
      have h := tokAt_append 45 [] (Stop.blank (c := 32) (by decide +kernel) (120 :: minusB n))
      exact h.trans (by decide +kernel)
    have t2 : tokAt (120 :: minusB n) = some (1, 2) := by
      have h := tokAt_append 120 [] (minusB_stop n)
      exact h.trans (by decide +kernel)
    refine ⟨⟨5, bs [45], p + 1⟩ :: ⟨2, bs [120], p + 1 + 1 + 1⟩ :: o, ?_, ?_⟩
    · rw [minusB, lexL_blank (by decide +kernel), lexL_tok (by decide +kernel) _ t1]
      simp only [List.drop_succ_cons, List.drop_zero, List.take_succ_cons, List.take_zero]
      rw [lexL_blank (by decide +kernel), lexL_tok (by decide +kernel) _ t2]
      simp only [List.drop_succ_cons, List.drop_zero, List.take_succ_cons, List.take_zero]
      rw [show p + 1 + 1 + 1 + 1 = p + 4 from rfl, e]
      rfl
    · simp only [List.map_cons, m, places, pairs]
      rw [show p + 4 + 4 * n = p + 4 * (n + 1) by omega]
      rfl
theorem lex_row (n : Nat) : ∃ o, lexL 0 (120 :: minusB n) = .ok o ∧ o.map Tok.tk = ⟨2, ⟨#[120]⟩, 0⟩ :: pairs ⟨6, ByteArray.empty, ((1 + 4 * n : Nat) : Int)⟩ (places 1 n) := by
  obtain ⟨o, e, m⟩ := lex_minus n 1
  have t2 : tokAt (120 :: minusB n) = some (1, 2) := by
    have h := tokAt_append 120 [] (minusB_stop n)
    exact h.trans (by decide +kernel)
  refine ⟨⟨2, bs [120], 0⟩ :: o, ?_, ?_⟩
  · rw [lexL_tok (by decide +kernel) _ t2]
    simp only [List.drop_succ_cons, List.drop_zero, List.take_succ_cons, List.take_zero]
    rw [show 0 + 1 = 1 from rfl, e]
    rfl
  · simp only [List.map_cons, m]
    rfl
theorem places_length (n : Nat) : ∀ p, (places p n).length = n := by
  induction n with
  | zero => intro p; rfl
  | succ n ih => intro p; simp only [places, List.length_cons, ih]
theorem places_get (n : Nat) : ∀ p i, i < n → (places p n)[i]? = some ((p + 1 + 4 * i : Nat) : Int) := by
  induction n with
  | zero => intro p i h; omega
  | succ n ih =>
    intro p i h
    cases i with
    | zero => rfl
    | succ i =>
      simp only [places, List.getElem?_cons_succ]
      rw [ih _ _ (by omega), show p + 4 + 1 + 4 * i = p + 1 + 4 * (i + 1) by omega]
theorem pairs_length (e : Tk) (ps : List Int) : (pairs e ps).length = 2 * ps.length + 1 := by
  induction ps with
  | nil => rfl
  | cons p ps ih => simp only [pairs, List.length_cons, ih]; omega
theorem pairs_get (e : Tk) : ∀ (ps : List Int) (i : Nat) (q : Int), ps[i]? = some q → (pairs e ps)[2 * i + 1]? = some ⟨2, ⟨#[120]⟩, q + 2⟩ := by
  intro ps
  induction ps with
  | nil => intro i q h; simp at h
  | cons p ps ih =>
    intro i q h
    cases i with
    | zero =>
      simp at h
      subst h
      rfl
    | succ i =>
      simp only [List.getElem?_cons_succ] at h
      rw [show 2 * (i + 1) + 1 = 2 * i + 1 + 1 + 1 by omega, pairs, List.getElem?_cons_succ, List.getElem?_cons_succ]
      exact ih i q h
theorem pairs_ended (p : Int) (ps : List Int) : Ended (pairs ⟨6, ByteArray.empty, p⟩ ps) := by
  induction ps with
  | nil => exact rfl
  | cons q ps ih => 
    cases ps with
    | nil => exact ⟨(show (5 : Int) ≠ 6 by decide), (show (2 : Int) ≠ 6 by decide), rfl⟩
    | cons r ps => exact ⟨(show (5 : Int) ≠ 6 by decide), (show (2 : Int) ≠ 6 by decide), ih⟩
end Go.Proofs.YtaioeailgknfjaaGreatDoor
namespace Go.Proofs.YtaioeailgknfjaaGreatDoor
open Go

/-- A rest that ends a token, be it a blank, a bracket or a sign. -/
def StopW (b : List UInt8) : Prop := ∀ c r, b = c :: r → ([2, 3, 4] : List Int).contains (clsU c) = false ∧ c ≠ 61 ∧ c ≠ 62
theorem StopW.of {c : UInt8} (h : ([2, 3, 4] : List Int).contains (clsU c) = false) (h1 : c ≠ 61) (h2 : c ≠ 62) (r : List UInt8) : StopW (c :: r) := fun c' r' e => by cases e; exact ⟨h, h1, h2⟩
theorem span_stopW {cl : List Int} (hc : ∀ x : Int, ([2, 3, 4] : List Int).contains x = false → cl.contains x = false) (l : List UInt8) {b : List UInt8} (hb : StopW b) : spanU cl (l ++ b) = spanU cl l := by
  induction l with
  | nil =>
    cases b with
    | nil => rfl
    | cons c r => rw [List.nil_append, spanU_zero (hc _ (hb c r rfl).1)]; rfl
  | cons a l ih =>
    rw [List.cons_append]
    cases ha : cl.contains (clsU a)
    · rw [spanU_zero ha, spanU_zero ha]
    · rw [spanU_pos ha, spanU_pos ha, ih]
theorem signOf_appendW (c : UInt8) (r : List UInt8) {b : List UInt8} (hb : StopW b) : signOf (c :: r ++ b) = signOf (c :: r) := by
  have e : ((c :: r ++ b).take 2 = [58, 61] ∨ (c :: r ++ b).take 2 = [61, 62]) ↔ ((c :: r).take 2 = [58, 61] ∨ (c :: r).take 2 = [61, 62]) := by
    cases r with
    | cons d r => simp
    | nil =>
      cases b with
      | nil => simp
      | cons d b =>
        obtain ⟨-, n1, n2⟩ := hb d b rfl
        simp [n1, n2]
  unfold signOf
  simp only [e]
  rfl
theorem tokAt_appendW (c : UInt8) (r : List UInt8) {b : List UInt8} (hb : StopW b) : tokAt (c :: r ++ b) = tokAt (c :: r) := by
  have t : ∀ cl : List Int, (c :: (r ++ b)).take (spanU cl (c :: r)) = (c :: r).take (spanU cl (c :: r)) := by
    intro cl
    rw [← List.cons_append, List.take_append_of_le_length (spanU_le _ _)]
  have s2 : spanU [2] (c :: (r ++ b)) = spanU [2] (c :: r) := span_stopW (fun x h => by simp at h ⊢; exact h.1) (c :: r) hb
  have s3 : spanU [2, 3, 4] (c :: (r ++ b)) = spanU [2, 3, 4] (c :: r) := span_stopW (fun x h => h) (c :: r) hb
  have s5 : signOf (c :: (r ++ b)) = signOf (c :: r) := signOf_appendW c r hb
  rw [List.cons_append]
  unfold tokAt
  simp only
  rw [s2, s3, s5, t [2], t [2, 3, 4]]
theorem exmap_nil {α : Type} (r : Except Nat (List α)) : (r.map fun o => [] ++ o) = r := by cases r <;> rfl
theorem exmap_cons {α : Type} (t : α) (q : List α) (r : Except Nat (List α)) : ((r.map fun o => q ++ o).map fun o => t :: o) = r.map fun o => (t :: q) ++ o := by cases r <;> rfl
/-- A text ahead of another: its tokens, moved, and the other's. -/
theorem lexL_front {b : List UInt8} (hb : StopW b) (p : Nat) (l : List UInt8) : ∀ o, lexL p l = .ok o → ∃ q : List Tok, o = q ++ [⟨6, ByteArray.empty, p + l.length⟩] ∧ (∀ t, t ∈ q → t.k ≠ 6) ∧ ∀ d, lexL (p + d) (l ++ b) = (lexL (p + d + l.length) b).map fun o2 => q.map (Tok.moved d 0) ++ o2 := by
  refine lex_ind (P := fun p l => ∀ o, lexL p l = .ok o → ∃ q : List Tok, o = q ++ [⟨6, ByteArray.empty, p + l.length⟩] ∧ (∀ t, t ∈ q → t.k ≠ 6) ∧ ∀ d, lexL (p + d) (l ++ b) = (lexL (p + d + l.length) b).map fun o2 => q.map (Tok.moved d 0) ++ o2) ?_ ?_ ?_ ?_ l.length p l (Nat.le_refl _)
  · intro p o h
    rw [lexL_nil] at h
    cases h
    exact ⟨[], rfl, fun t h => by simp at h, fun d => (exmap_nil _).symm⟩
  · intro p c r hc ih o h
    rw [lexL_blank hc] at h
    obtain ⟨q, e, h6, hq⟩ := ih o h
    refine ⟨q, ?_, h6, fun d => ?_⟩
    · rw [e, List.length_cons, show p + 1 + r.length = p + (r.length + 1) by omega]
    · rw [List.cons_append, lexL_blank hc, show p + d + 1 = p + 1 + d by omega, hq d, List.length_cons, show p + 1 + d + r.length = p + d + (r.length + 1) by omega]
  · intro p c r hc ht o h
    rw [lexL_none hc _ ht] at h
    cases h
  · intro p c r n k hc ht ih o h
    have hbd := tokAt_bd ht
    have h2 := tokAt_appendW c r hb
    rw [ht] at h2
    rw [lexL_tok hc _ ht] at h
    cases e1 : lexL (p + n) ((c :: r).drop n) with
    | error x => rw [e1] at h; cases h
    | ok o1 =>
      rw [e1] at h
      have h : Except.ok (⟨k, bs ((c :: r).take n), p⟩ :: o1) = Except.ok (ε := Nat) o := h
      cases h
      obtain ⟨q, e, h6, hq⟩ := ih o1 e1
      have hk : k ≠ 6 := by omega
      have hl : p + n + ((c :: r).drop n).length = p + (c :: r).length := by rw [List.length_drop]; omega
      refine ⟨⟨k, bs ((c :: r).take n), p⟩ :: q, ?_, ?_, fun d => ?_⟩
      · rw [e, hl]; rfl
      · intro t ht
        rcases List.mem_cons.1 ht with rfl | ht
        · exact hk
        · exact h6 t ht
      · rw [List.cons_append] at h2 ⊢
        rw [lexL_tok hc _ h2, ← List.cons_append, List.drop_append_of_le_length hbd.2.1, List.take_append_of_le_length hbd.2.1, show p + d + n = p + n + d by omega, hq d, exmap_cons, show p + n + d + ((c :: r).drop n).length = p + d + (c :: r).length by omega]
        simp [Tok.moved, hk]
/-- The same tokens elsewhere are alike. -/
theorem al_moved (d : Nat) (e : Tk) (r' : List Tk) (q : List Tok) : Al [e] r' (q.map Tok.tk ++ [e]) ((q.map (Tok.moved d 0)).map Tok.tk ++ r') := by
  induction q with
  | nil => exact .rest
  | cons t q ih => exact .cons rfl rfl ih
end Go.Proofs.YtaioeailgknfjaaGreatDoor
namespace Go.Proofs.YtaioeailgknfjaaGreatDoor
open Go

theorem lex_one {c : UInt8} {r : List UInt8} (h5 : clsU c = 5) (hs : signOf (c :: r) = 1) (p : Nat) : lexL p (c :: r) = (lexL (p + 1) r).map fun o => ⟨5, bs [c], p⟩ :: o := by
  have t : tokAt (c :: r) = some (1, 5) := by rw [tokAt_sign h5, hs]; rfl
  rw [lexL_tok (by omega) _ t]
  simp only [List.drop_succ_cons, List.drop_zero, List.take_succ_cons, List.take_zero]
theorem sign_one {c : UInt8} {r : List UInt8} (h1 : c ≠ 58) (h2 : c ≠ 61) (h3 : c ≠ 62) : signOf (c :: r) = 1 := by
  unfold signOf
  cases r <;> simp [h1, h2, h3]
theorem lex_open (p : Nat) (r : List UInt8) : lexL p (40 :: r) = (lexL (p + 1) r).map fun o => ⟨5, s_open, p⟩ :: o := lex_one (by decide +kernel) (sign_one (by decide) (by decide) (by decide)) p
theorem lex_shut (p : Nat) (r : List UInt8) : lexL p (41 :: r) = (lexL (p + 1) r).map fun o => ⟨5, s_shut, p⟩ :: o := lex_one (by decide +kernel) (sign_one (by decide) (by decide) (by decide)) p
theorem lex_bracket {A : List UInt8} {o : List Tok} (h : lexL 0 A = .ok o) : ∃ q : List Tok, o = q ++ [⟨6, ByteArray.empty, A.length⟩] ∧ ∀ (p : Nat) (R : List UInt8) (o2 : List Tok), lexL (p + A.length + 2) R = .ok o2 →
    lexL p (40 :: (A ++ 41 :: R)) = .ok (⟨5, s_open, p⟩ :: (q.map (Tok.moved (p + 1) 0) ++ ⟨5, s_shut, p + 1 + A.length⟩ :: o2)) := by
  have go : ∀ R, ∃ q : List Tok, o = q ++ [⟨6, ByteArray.empty, 0 + A.length⟩] ∧ (∀ t, t ∈ q → t.k ≠ 6) ∧ ∀ d, lexL (0 + d) (A ++ 41 :: R) = (lexL (0 + d + A.length) (41 :: R)).map fun o2 => q.map (Tok.moved d 0) ++ o2 :=
    fun R => lexL_front (StopW.of (by decide +kernel) (by decide) (by decide) R) 0 A o h
  obtain ⟨q, e, -, -⟩ := go []
  refine ⟨q, by rw [e, Nat.zero_add], fun p R o2 h2 => ?_⟩
  obtain ⟨q', e', -, hq⟩ := go R
  obtain rfl : q = q' := by
    rw [e] at e'
    exact (List.append_inj' e' rfl).1
  have h3 := hq (p + 1)
  rw [Nat.zero_add] at h3
  rw [lex_open, h3, lex_shut, show p + 1 + A.length + 1 = p + A.length + 2 by omega, h2]
  rfl
/-- The bytes of a sign, or of none, and its token. -/
theorem lex_sign {S : List UInt8} (hS : S = [43] ∨ S = [45] ∨ S = [42] ∨ S = [60] ∨ S = [61] ∨ S = [58, 61]) (p : Nat) (r : List UInt8) : lexL p (S ++ 40 :: r) = (lexL (p + S.length) (40 :: r)).map fun o => ⟨5, bs S, p⟩ :: o := by
  rcases hS with rfl | rfl | rfl | rfl | rfl | rfl
  · exact lex_one (by decide +kernel) (sign_one (by decide) (by decide) (by decide)) p
  · exact lex_one (by decide +kernel) (sign_one (by decide) (by decide) (by decide)) p
  · exact lex_one (by decide +kernel) (sign_one (by decide) (by decide) (by decide)) p
  · exact lex_one (by decide +kernel) (sign_one (by decide) (by decide) (by decide)) p
  · exact lex_one (by decide +kernel) (by simp [signOf]) p
  · have t : tokAt (58 :: 61 :: 40 :: r) = some (2, 5) := by rw [tokAt_sign (by decide +kernel)]; simp [signOf]
    have := lexL_tok (c := 58) (by decide +kernel) p t
    simp only [List.drop_succ_cons, List.drop_zero, List.take_succ_cons, List.take_zero] at this
    exact this
end Go.Proofs.YtaioeailgknfjaaGreatDoor
namespace Go.Proofs.YtaioeailgknfjaaGreatDoor
open Go

/-- A text is that term's. -/
def Parses (B : List UInt8) (t : Tm) : Prop := ∃ (o : List Tok) (e : Tk) (f : Nat), lexL 0 B = .ok o ∧ parseF f .expr (o.map Tok.tk) = some (.ok (t, [e])) ∧ e.k = 6
theorem last_suffix {q : List Tk} {e u : Tk} (h : [e] <:+ q ++ [u]) : e = u := by
  obtain ⟨p, hp⟩ := h
  have := (List.append_inj' hp rfl).2
  simpa using this
theorem Parses.opened {A : List UInt8} {t : Tm} (h : Parses A t) : ∃ (q : List Tok) (f : Nat), (∀ (p : Nat) (R : List UInt8) (o2 : List Tok), lexL (p + A.length + 2) R = .ok o2 →
      lexL p (40 :: (A ++ 41 :: R)) = .ok (⟨5, s_open, p⟩ :: (q.map (Tok.moved (p + 1) 0) ++ ⟨5, s_shut, p + 1 + A.length⟩ :: o2))) ∧
    ∀ (p : Nat) (o2 : List Tok), ∃ t', parseF f .unary ((⟨5, s_open, p⟩ :: (q.map (Tok.moved (p + 1) 0) ++ ⟨5, s_shut, p + 1 + A.length⟩ :: o2)).map Tok.tk) = some (.ok (t', o2.map Tok.tk)) ∧ t.same t' = true := by
  obtain ⟨o, e, f, hl, hp, he⟩ := h
  obtain ⟨q, rfl, hq⟩ := lex_bracket hl
  rw [List.map_append] at hp
  have hs := last_suffix (parseF_suffix _ _ _ _ _ hp)
  refine ⟨q, f + 1, hq, fun p o2 => ?_⟩
  have hA := al_moved (p + 1) e (Tok.tk ⟨5, s_shut, p + 1 + A.length⟩ :: o2.map Tok.tk) q
  have hp' : parseF f .expr (q.map Tok.tk ++ [e]) = some (.ok (t, [e])) := by
    have h2 := hp
    rw [hs] at h2 ⊢
    exact h2
  obtain ⟨t', h1, g⟩ := moved (op := Tok.tk ⟨5, s_open, p⟩) hp' he hA rfl rfl rfl rfl
  refine ⟨t', ?_, g⟩
  rw [List.map_cons, List.map_append, List.map_cons]
  exact h1
theorem open_other (tk : Tk) (l : List Tk) (ht : tk.text = s_open) : ∀ xs, inB xs s_open = false → isT xs (tk :: l) = false := fun xs hx => by simp [isT, ht, hx]
theorem halts_end (p : Nat) : Halts ([(⟨6, ByteArray.empty, p⟩ : Tok)].map Tok.tk) := Halts.ended rfl
/-- Brackets change nothing, but for places. -/
theorem Parses.brackets {A : List UInt8} {t : Tm} (h : Parses A t) : ∃ t', Parses (40 :: (A ++ [41])) t' ∧ t.same t' = true := by
  obtain ⟨q, f, hl, hp⟩ := h.opened
  have h1 := hl 0 [] _ (lexL_nil _)
  obtain ⟨t', h2, g⟩ := hp 0 [⟨6, ByteArray.empty, 0 + A.length + 2⟩]
  obtain ⟨g1, e1⟩ := climb h2 (halts_end _).begins 4 0 rfl fun j _ hj => (halts_end _).isT _ (by
    match j, hj with
    | 0, _ => decide +kernel
    | 1, _ => decide +kernel
    | 2, _ => decide +kernel
    | 3, _ => decide +kernel)
  exact ⟨t', ⟨_, _, _, h1, up_expr e1 (open_other _ _ rfl), rfl⟩, g⟩
/-- Two, with a sign between them. -/
theorem Parses.signed {A B S : List UInt8} {x y : Tm} (hA : Parses A x) (hB : Parses B y) (hS : S = [43] ∨ S = [45] ∨ S = [42] ∨ S = [60] ∨ S = [61] ∨ S = [58, 61]) :
    ∃ x' y', Parses (40 :: (A ++ 41 :: (S ++ 40 :: (B ++ [41])))) (putT (bs S) x' y') ∧ x.same x' = true ∧ y.same y' = true := by
  obtain ⟨q, f, hl, hp⟩ := hA.opened
  obtain ⟨q2, f2, hl2, hp2⟩ := hB.opened
  have h1 := hl2 (0 + A.length + 2 + S.length) [] _ (lexL_nil _)
  have h2 := lex_sign hS (0 + A.length + 2) (B ++ [41])
  rw [h1] at h2
  have h3 := hl 0 _ _ h2
  obtain ⟨y', p2, gy⟩ := hp2 (0 + A.length + 2 + S.length) [⟨6, ByteArray.empty, 0 + A.length + 2 + S.length + B.length + 2⟩]
  obtain ⟨x', p1, gx⟩ := hp 0 (⟨5, bs S, 0 + A.length + 2⟩ :: (⟨5, s_open, 0 + A.length + 2 + S.length⟩ :: (q2.map (Tok.moved (0 + A.length + 2 + S.length + 1) 0) ++ ⟨5, s_shut, 0 + A.length + 2 + S.length + 1 + B.length⟩ :: [⟨6, ByteArray.empty, 0 + A.length + 2 + S.length + B.length + 2⟩])))
  rw [List.map_cons] at p1
  rw [List.map_cons] at p1
  have key : ∀ k, k < 4 → inB (signsL k) (bs S) = true → (∀ j, j < 4 → j ≠ k → inB (signsL j) (bs S) = false) → inB [s_bang, w_ref, w_fst, w_snd, w_raise, s_open] (bs S) = false → ∃ g, parseF g .expr _ = some (.ok (putT (bs S) x' y', _)) := fun k hk hs ho hb =>
    two_signed (sg := Tok.tk ⟨5, bs S, 0 + A.length + 2⟩) hk p1 p2 rfl hs ho (by
      have hb' : isT [s_bang, w_ref, w_fst, w_snd, w_raise, s_open] (Tok.tk ⟨5, bs S, 0 + A.length + 2⟩ :: List.map Tok.tk (⟨5, s_open, 0 + A.length + 2 + S.length⟩ :: (q2.map (Tok.moved (0 + A.length + 2 + S.length + 1) 0) ++ ⟨5, s_shut, 0 + A.length + 2 + S.length + 1 + B.length⟩ :: [⟨6, ByteArray.empty, 0 + A.length + 2 + S.length + B.length + 2⟩]))) = false := by
        simp only [isT, Tok.tk]
        rw [hb]
        rfl
      unfold beginsT
      rw [hb']
      rfl) (halts_end _) (open_other _ _ rfl)
  have four : ∀ (P : Nat → Prop), P 0 → P 1 → P 2 → P 3 → ∀ j, j < 4 → P j := fun P a b c d j hj => by
    match j, hj with
    | 0, _ => exact a
    | 1, _ => exact b
    | 2, _ => exact c
    | 3, _ => exact d
  have fin : ∃ k, k < 4 ∧ inB (signsL k) (bs S) = true ∧ (∀ j, j < 4 → j ≠ k → inB (signsL j) (bs S) = false) ∧ inB [s_bang, w_ref, w_fst, w_snd, w_raise, s_open] (bs S) = false := by
    rcases hS with rfl | rfl | rfl | rfl | rfl | rfl
    · exact ⟨2, by omega, by decide +kernel, four _ (by decide +kernel) (by decide +kernel) (by decide +kernel) (by decide +kernel), by decide +kernel⟩
    · exact ⟨2, by omega, by decide +kernel, four _ (by decide +kernel) (by decide +kernel) (by decide +kernel) (by decide +kernel), by decide +kernel⟩
    · exact ⟨3, by omega, by decide +kernel, four _ (by decide +kernel) (by decide +kernel) (by decide +kernel) (by decide +kernel), by decide +kernel⟩
    · exact ⟨1, by omega, by decide +kernel, four _ (by decide +kernel) (by decide +kernel) (by decide +kernel) (by decide +kernel), by decide +kernel⟩
    · exact ⟨1, by omega, by decide +kernel, four _ (by decide +kernel) (by decide +kernel) (by decide +kernel) (by decide +kernel), by decide +kernel⟩
    · exact ⟨0, by omega, by decide +kernel, four _ (by decide +kernel) (by decide +kernel) (by decide +kernel) (by decide +kernel), by decide +kernel⟩
  obtain ⟨k, k1, k2, k3, k4⟩ := fin
  obtain ⟨g, hg⟩ := key k k1 k2 k3 k4
  exact ⟨x', y', ⟨_, _, g, h3, hg, rfl⟩, gx, gy⟩
end Go.Proofs.YtaioeailgknfjaaGreatDoor
namespace Go.Proofs.YtaioeailgknfjaaGreatDoor
open Go

/-- One text in brackets behind another. -/
theorem Parses.applied {A B : List UInt8} {x y : Tm} (hA : Parses A x) (hB : Parses B y) :
    ∃ x' y', Parses (40 :: (A ++ 41 :: (40 :: (B ++ [41])))) (.mk (hd0 10 x'.head.pos) [x', y']) ∧ x.same x' = true ∧ y.same y' = true := by
  obtain ⟨q, f, hl, hp⟩ := hA.opened
  obtain ⟨q2, f2, hl2, hp2⟩ := hB.opened
  have h1 := hl2 (0 + A.length + 2) [] _ (lexL_nil _)
  have h3 := hl 0 _ _ h1
  obtain ⟨y', p2, gy⟩ := hp2 (0 + A.length + 2) [⟨6, ByteArray.empty, 0 + A.length + 2 + B.length + 2⟩]
  obtain ⟨x', p1, gx⟩ := hp 0 (⟨5, s_open, 0 + A.length + 2⟩ :: (q2.map (Tok.moved (0 + A.length + 2 + 1) 0) ++ ⟨5, s_shut, 0 + A.length + 2 + 1 + B.length⟩ :: [⟨6, ByteArray.empty, 0 + A.length + 2 + B.length + 2⟩]))
  rw [List.map_cons] at p1
  obtain ⟨g, hg⟩ := two_applied p1 (by
    have hb : isT [s_bang, w_ref, w_fst, w_snd, w_raise, s_open] (List.map Tok.tk (⟨5, s_open, 0 + A.length + 2⟩ :: (q2.map (Tok.moved (0 + A.length + 2 + 1) 0) ++ ⟨5, s_shut, 0 + A.length + 2 + 1 + B.length⟩ :: [⟨6, ByteArray.empty, 0 + A.length + 2 + B.length + 2⟩]))) = true := by
      simp only [isT, Tok.tk, List.map_cons]
      rw [show inB [s_bang, w_ref, w_fst, w_snd, w_raise, s_open] s_open = true by decide +kernel]
      rfl
    unfold beginsT
    rw [hb]
    simp) p2 (halts_end _) (open_other _ _ rfl)
  exact ⟨x', y', ⟨_, _, g, h3, hg, rfl⟩, gx, gy⟩
/-- A long row of operands. -/
theorem parses_row (n : Nat) : ∃ t, Parses (120 :: minusB n) t ∧ (n ≠ 0 → ∃ h b q, t = .mk h [b, q] ∧ h.k = 9 ∧ q.head.k = 2) := by
  obtain ⟨o, hl, hm⟩ := lex_row n
  obtain ⟨g, t, hp, ht⟩ := long_expr ⟨6, ByteArray.empty, ((1 + 4 * n : Nat) : Int)⟩ rfl 0 (places 1 n)
  refine ⟨t, ⟨o, _, g, hl, by rw [hm]; exact hp, rfl⟩, fun hn => ht ?_⟩
  intro e
  have := places_length n 1
  rw [e] at this
  exact hn this.symm
/-- How many tokens a row has, and where the one stands that is too many. -/
theorem row_tokens (n : Nat) : ∃ o, lexL 0 (120 :: minusB n) = .ok o ∧ o.length = 2 * n + 2 ∧ (2000 ≤ n → ((o.map Tok.tk)[4000]?).map Tk.pos = some 8000) := by
  obtain ⟨o, hl, hm⟩ := lex_row n
  refine ⟨o, hl, ?_, fun hn => ?_⟩
  · have := congrArg List.length hm
    simp only [List.length_map, List.length_cons, pairs_length, places_length] at this
    omega
  · rw [hm, List.getElem?_cons_succ, pairs_get _ _ 1999 _ (places_get n 1 1999 (by omega))]
    rfl
/-- There are not more tokens than bytes, and an end. -/
theorem lexL_count (p : Nat) (l : List UInt8) : ∀ o, lexL p l = .ok o → o.length ≤ l.length + 1 := by
  refine lex_ind (P := fun p l => ∀ o, lexL p l = .ok o → o.length ≤ l.length + 1) ?_ ?_ ?_ ?_ l.length p l (Nat.le_refl _)
  · intro p o h
    rw [lexL_nil] at h
    cases h
    exact Nat.le_refl _
  · intro p c r hc ih o h
    rw [lexL_blank hc] at h
    have := ih o h
    simp only [List.length_cons]
    omega
  · intro p c r hc ht o h
    rw [lexL_none hc _ ht] at h
    cases h
  · intro p c r n k hc ht ih o h
    have hbd := tokAt_bd ht
    rw [lexL_tok hc _ ht] at h
    cases e1 : lexL (p + n) ((c :: r).drop n) with
    | error x => rw [e1] at h; cases h
    | ok o1 =>
      rw [e1] at h
      have h : Except.ok (⟨k, bs ((c :: r).take n), p⟩ :: o1) = Except.ok (ε := Nat) o := h
      cases h
      have := ih o1 e1
      rw [List.length_drop] at this
      simp only [List.length_cons] at this hbd ⊢
      omega
end Go.Proofs.YtaioeailgknfjaaGreatDoor
namespace Go.Proofs.YtaioeailgknfjaaGreatDoor
open Go

def exnsB : List UInt8 := [101, 120, 110, 32, 69, 59, 101, 120, 110, 32, 69, 59, 32]
def exnsT : List Tok := [⟨4, w_exn, 0⟩, ⟨3, ⟨#[69]⟩, 4⟩, ⟨5, s_semi, 5⟩, ⟨4, w_exn, 6⟩, ⟨3, ⟨#[69]⟩, 10⟩, ⟨5, s_semi, 11⟩]
theorem lex_exn (p : Nat) (r : List UInt8) : lexL p (101 :: 120 :: 110 :: 32 :: 69 :: 59 :: r) = (lexL (p + 6) r).map fun o => ⟨4, w_exn, p⟩ :: ⟨3, ⟨#[69]⟩, p + 4⟩ :: ⟨5, s_semi, p + 5⟩ :: o := by
  have t1 : tokAt (101 :: 120 :: 110 :: 32 :: 69 :: 59 :: r) = some (3, 4) := by
    have h := tokAt_append 101 [120, 110] (Stop.blank (c := 32) (by decide +kernel) (69 :: 59 :: r))
    exact h.trans (by decide +kernel)
  have t2 : tokAt (69 :: 59 :: r) = some (1, 3) := by
    have h := tokAt_appendW 69 [] (StopW.of (c := 59) (by decide +kernel) (by decide) (by decide) r)
    exact h.trans (by decide +kernel)
  rw [lexL_tok (by decide +kernel) _ t1]
  simp only [List.drop_succ_cons, List.drop_zero, List.take_succ_cons, List.take_zero]
  rw [lexL_blank (by decide +kernel), lexL_tok (by decide +kernel) _ t2]
  simp only [List.drop_succ_cons, List.drop_zero, List.take_succ_cons, List.take_zero]
  rw [lex_one (by decide +kernel) (sign_one (by decide) (by decide) (by decide)) _]
  rw [show p + 3 + 1 + 1 + 1 = p + 6 from rfl]
  cases lexL (p + 6) r <;> rfl
theorem lex_exns (B : List UInt8) : lexL 0 (exnsB ++ B) = (lexL 13 B).map fun o => exnsT ++ o := by
  have e : exnsB ++ B = 101 :: 120 :: 110 :: 32 :: 69 :: 59 :: 101 :: 120 :: 110 :: 32 :: 69 :: 59 :: 32 :: B := rfl
  rw [e, lex_exn, lex_exn, lexL_blank (by decide +kernel)]
  rw [show 0 + 6 + 6 + 1 = 13 from rfl]
  cases lexL 13 B <;> rfl
/-- A text that stands elsewhere. -/
theorem Parses.shifted {A : List UInt8} {t : Tm} (h : Parses A t) (d : Nat) : ∃ (o : List Tok) (e : Tk) (f : Nat) (t' : Tm), lexL d A = .ok o ∧ parseF f .expr (o.map Tok.tk) = some (.ok (t', [e])) ∧ e.k = 6 ∧ t.same t' = true := by
  obtain ⟨o, e, f, hl, hp, he⟩ := h
  obtain ⟨q, rfl, -, hq⟩ := lexL_front (b := []) (fun c r h => by cases h) 0 A o hl
  have h1 := hq d
  rw [List.append_nil, Nat.zero_add, lexL_nil] at h1
  rw [List.map_append] at hp
  have hs := last_suffix (parseF_suffix _ _ _ _ _ hp)
  have hp' : parseF f .expr (q.map Tok.tk ++ [e]) = some (.ok (t, [e])) := by
    have h2 := hp
    rw [hs] at h2 ⊢
    exact h2
  have hA := al_moved d e [Tok.tk ⟨6, ByteArray.empty, d + A.length⟩] q
  obtain ⟨t', m', h', g, hA'⟩ := parseF_local [e] [Tok.tk ⟨6, ByteArray.empty, d + A.length⟩] (.ended he) (.ended (show (Tok.tk ⟨6, ByteArray.empty, d + A.length⟩).k = 6 from rfl)) (by simp) f _ _ _ _ _ _ .expr hA hp' (List.suffix_refl _)
  have hm' : m' = [Tok.tk ⟨6, ByteArray.empty, d + A.length⟩] := by
    cases hA' with
    | rest => rfl
    | cons _ _ h => cases h
  subst hm'
  refine ⟨_, Tok.tk ⟨6, ByteArray.empty, d + A.length⟩, f, t', h1, ?_, rfl, g⟩
  rw [List.map_append]
  exact h'
end Go.Proofs.YtaioeailgknfjaaGreatDoor
namespace Go.Proofs.YtaioeailgknfjaaGreatDoor
open Go

/-- The exceptions that are declared ahead. -/
def exnsG : List Tk → List Tk → Res (List Tk)
  | acc, t :: u :: v :: l => if isT [w_exn] [t] then if u.k = 3 then if isT [s_semi] [v] then exnsG (acc ++ [u]) l else .error (v :: l) else .error (u :: v :: l) else .ok (acc, t :: u :: v :: l)
  | acc, [t, u] => if isT [w_exn] [t] then .error [u] else .ok (acc, [t, u])
  | acc, l => .ok (acc, l)
/-- The term behind them. -/
def bodyG (acc : List Tk) (l : List Tk) : Res (List Tk × Tm) := match parseL .expr l with
  | .error l' => .error l'
  | .ok (t, l') => .ok ((acc, t), l')
/-- The program of tokens, some exceptions met. -/
def progG (acc l : List Tk) : Res (List Tk × Tm) := match exnsG acc l with
  | .error l' => .error l'
  | .ok (es, l') => bodyG es l'
def progL (l : List Tk) : Res (List Tk × Tm) := progG [] l
theorem isT_head (xs : List ByteArray) (t : Tk) (l : List Tk) : isT xs (t :: l) = isT xs [t] := rfl
theorem progG_body {acc l : List Tk} (h : isT [w_exn] l = false) : progG acc l = bodyG acc l := by
  unfold progG
  match l, h with
  | [], _ => rfl
  | [t], _ => rfl
  | [t, u], h => rw [isT_head] at h; simp [exnsG, h]
  | t :: u :: v :: l, h => rw [isT_head] at h; simp [exnsG, h]
theorem progG_kind {acc l : List Tk} {t u : Tk} (h : isT [w_exn] (t :: u :: l) = true) (he : Ended (t :: u :: l)) (hu : u.k ≠ 3) : progG acc (t :: u :: l) = .error (u :: l) := by
  unfold progG
  rw [isT_head] at h
  match l with
  | [] => simp [exnsG, h]
  | v :: l => simp [exnsG, h, hu]
theorem progG_semi {acc l : List Tk} {t u v : Tk} (h : isT [w_exn] (t :: u :: v :: l) = true) (hu : u.k = 3) (hv : isT [s_semi] (v :: l) = false) : progG acc (t :: u :: v :: l) = .error (v :: l) := by
  unfold progG
  rw [isT_head] at h hv
  simp [exnsG, h, hu, hv]
theorem progG_more {acc l : List Tk} {t u v : Tk} (h : isT [w_exn] (t :: u :: v :: l) = true) (hu : u.k = 3) (hv : isT [s_semi] (v :: l) = true) : progG acc (t :: u :: v :: l) = progG (acc ++ [u]) l := by
  unfold progG
  rw [isT_head] at h hv
  rw [exnsG, if_pos h, if_pos hu, if_pos hv]
theorem exn_other {l : List Tk} (h : isT [w_exn] l = true) : (∀ xs, inB xs w_exn = false → isT xs l = false) ∧ kindT l ≠ 1 ∧ kindT l ≠ 2 := by
  obtain ⟨t, r, rfl, -, ht, hk⟩ := isT_ne h
  have ht : t.text = w_exn := by simpa using ht
  refine ⟨fun xs hx => by simp [isT, ht, hx], ?_, ?_⟩ <;> (simp only [kindT]; omega)
theorem unary_not {f : Nat} {l m : List Tk} {t : Tm} (h : isT [w_exn] l = true) : parseF f .unary l ≠ some (.ok (t, m)) := by
  intro hp
  obtain ⟨ho, k1, k2⟩ := exn_other h
  cases f with
  | zero => cases hp
  | succ f =>
    unfold parseF at hp
    rw [ho _ (by decide +kernel), ho _ (by decide +kernel), if_neg (by simp), if_neg (by simp), if_neg k1, if_neg k2] at hp
    obtain ⟨_, _, e, _⟩ := andThen_inv hp
    have := (getW_inv e).1
    rw [ho _ (by decide +kernel)] at this
    cases this
theorem lvl_not {l m : List Tk} {t : Tm} (h : isT [w_exn] l = true) : ∀ (d k f : Nat), k + d = 4 → ∀ t m, parseF f (.lvl k) l ≠ some (.ok (t, m)) := by
  intro d
  induction d with
  | zero =>
    intro k f hk t m hp
    obtain rfl : k = 4 := by omega
    cases f with
    | zero => cases hp
    | succ f =>
      unfold parseF at hp
      rw [if_neg (by omega), if_neg (by omega)] at hp
      obtain ⟨a, l1, e, -⟩ := andThen_inv hp
      exact unary_not h e
  | succ d ih =>
    intro k f hk t m hp
    cases f with
    | zero => cases hp
    | succ f =>
      unfold parseF at hp
      split at hp
      · obtain ⟨a, l1, e, -⟩ := andThen_inv hp
        exact ih (k + 1) f (by omega) _ _ e
      rw [if_pos (by omega)] at hp
      obtain ⟨a, l1, e, -⟩ := andThen_inv hp
      exact ih (k + 1) f (by omega) _ _ e
/-- No term begins with exn. -/
theorem expr_not {f : Nat} {l m : List Tk} {t : Tm} (hp : parseF f .expr l = some (.ok (t, m))) : isT [w_exn] l = false := by
  cases h : isT [w_exn] l with
  | false => rfl
  | true =>
    obtain ⟨ho, k1, k2⟩ := exn_other h
    cases f with
    | zero => cases hp
    | succ f =>
      unfold parseF at hp
      rw [ho _ (by decide +kernel), ho _ (by decide +kernel), ho _ (by decide +kernel), ho _ (by decide +kernel), ho _ (by decide +kernel), if_neg (by simp), if_neg (by simp), if_neg (by simp), if_neg (by simp), if_neg (by simp)] at hp
      exact (lvl_not (t := t) (m := m) h 4 0 f rfl _ _ hp).elim
def exnsE : List Tk := [⟨3, ⟨#[69]⟩, 4⟩, ⟨3, ⟨#[69]⟩, 10⟩]
/-- Two exceptions ahead of a text change nothing of its term, but for places. -/
theorem Parses.exns {B : List UInt8} {t : Tm} (h : Parses B t) : ∃ (o : List Tok) (e : Tk) (t' : Tm), lexL 0 (exnsB ++ B) = .ok (exnsT ++ o) ∧ o.length ≤ B.length + 1 ∧ (Ended (o.map Tok.tk) → progL ((exnsT ++ o).map Tok.tk) = .ok ((exnsE, t'), [e])) ∧ e.k = 6 ∧ t.same t' = true := by
  obtain ⟨o, e, f, t', hl, hp, he, hs⟩ := h.shifted 13
  refine ⟨o, e, t', by rw [lex_exns, hl]; rfl, lexL_count _ _ _ hl, fun hE => ?_, he, hs⟩
  have hn := expr_not hp
  have e1 : (exnsT ++ o).map Tok.tk = ⟨4, w_exn, 0⟩ :: ⟨3, ⟨#[69]⟩, 4⟩ :: ⟨5, s_semi, 5⟩ :: ⟨4, w_exn, 6⟩ :: ⟨3, ⟨#[69]⟩, 10⟩ :: ⟨5, s_semi, 11⟩ :: o.map Tok.tk := rfl
  rw [e1]
  unfold progL
  rw [progG_more (by rw [isT_head]; decide +kernel) rfl (by rw [isT_head]; decide +kernel), progG_more (by rw [isT_head]; decide +kernel) rfl (by rw [isT_head]; decide +kernel), progG_body hn]
  unfold bodyG
  rw [parseL_eq hE hp]
  rfl
end Go.Proofs.YtaioeailgknfjaaGreatDoor
