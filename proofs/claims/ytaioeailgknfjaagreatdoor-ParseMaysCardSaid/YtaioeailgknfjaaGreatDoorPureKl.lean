/- The laws of tokens, in plain Lean; no program in sight. -/
import Derived.Test.YtaioeailgknfjaaGreatDoorPureK
namespace Go.Proofs.YtaioeailgknfjaaGreatDoor
open Go

/-- A rest that ends a token: it is empty, or begins with a blank. -/
def Stop (b : List UInt8) : Prop := ∀ c r, b = c :: r → clsU c = 1
theorem Stop.blank {c : UInt8} (h : clsU c = 1) (r : List UInt8) : Stop (c :: r) := fun c' r' e => by cases e; exact h
theorem Stop.nil : Stop [] := fun c r e => by cases e
theorem span_stop_append {cl : List Int} (hc : cl.contains 1 = false) (l : List UInt8) {b : List UInt8} (hb : Stop b) : spanU cl (l ++ b) = spanU cl l := by
  induction l with
  | nil =>
    cases b with
    | nil => rfl
    | cons c r => rw [List.nil_append, spanU_zero (by rw [hb c r rfl]; exact hc)]; rfl
  | cons a l ih =>
    rw [List.cons_append]
    cases ha : cl.contains (clsU a)
    · rw [spanU_zero ha, spanU_zero ha]
    · rw [spanU_pos ha, spanU_pos ha, ih]
theorem cls_eq : clsU 61 = 5 ∧ clsU 62 = 5 := by decide
theorem signOf_append (c : UInt8) (r : List UInt8) {b : List UInt8} (hb : Stop b) : signOf (c :: r ++ b) = signOf (c :: r) := by
  have e : ((c :: r ++ b).take 2 = [58, 61] ∨ (c :: r ++ b).take 2 = [61, 62]) ↔ ((c :: r).take 2 = [58, 61] ∨ (c :: r).take 2 = [61, 62]) := by
    cases r with
    | cons d r => simp
    | nil =>
      cases b with
      | nil => simp
      | cons d b =>
        have h1 := hb d b rfl
        have n1 : d ≠ 61 := fun e => by rw [e, cls_eq.1] at h1; omega
        have n2 : d ≠ 62 := fun e => by rw [e, cls_eq.2] at h1; omega
        simp [n1, n2]
  unfold signOf
  simp only [e]
  rfl
/-- What stands behind a token's end plays no part. -/
theorem tokAt_append (c : UInt8) (r : List UInt8) {b : List UInt8} (hb : Stop b) : tokAt (c :: r ++ b) = tokAt (c :: r) := by
  have t : ∀ cl : List Int, cl.contains 1 = false → (c :: (r ++ b)).take (spanU cl (c :: r)) = (c :: r).take (spanU cl (c :: r)) := by
    intro cl _
    rw [← List.cons_append, List.take_append_of_le_length (spanU_le _ _)]
  have s2 : spanU [2] (c :: (r ++ b)) = spanU [2] (c :: r) := span_stop_append rfl (c :: r) hb
  have s3 : spanU [2, 3, 4] (c :: (r ++ b)) = spanU [2, 3, 4] (c :: r) := span_stop_append rfl (c :: r) hb
  have s5 : signOf (c :: (r ++ b)) = signOf (c :: r) := signOf_append c r hb
  rw [List.cons_append]
  unfold tokAt
  simp only
  rw [s2, s3, s5, t [2] rfl, t [2, 3, 4] rfl]
theorem takeWhile_all {α : Type} {p : α → Bool} {l : List α} (h : ∀ c, c ∈ l → p c = true) : l.takeWhile p = l := by
  induction l with
  | nil => rfl
  | cons a l ih => rw [List.takeWhile_cons_of_pos (h a (by simp)), ih fun c hc => h c (by simp [hc])]
/-- A token's text, with anything that ends it behind, is that token. -/
theorem tokAt_take {c : UInt8} {r : List UInt8} {n : Nat} {k : Int} (h : tokAt (c :: r) = some (n, k)) {b : List UInt8} (hb : Stop b) : tokAt ((c :: r).take n ++ b) = some (n, k) := by
  have hbd := tokAt_bd h
  have key : tokAt ((c :: r).take n) = some (n, k) := by
    obtain ⟨m, rfl⟩ : ∃ m, n = m + 1 := ⟨n - 1, by omega⟩
    rw [List.take_succ_cons]
    have sp : ∀ cl : List Int, cl.contains (clsU c) = true → spanU cl (c :: r) = m + 1 → spanU cl (c :: r.take m) = m + 1 ∧ (c :: r.take m).take (m + 1) = (c :: r).take (m + 1) := by
      intro cl hc e
      rw [spanU_pos hc] at e ⊢
      have e' : spanU cl r = m := by omega
      have hall := take_span_all cl r
      rw [e'] at hall
      have hl : (r.take m).length = m := by rw [List.length_take]; have := spanU_le cl r; omega
      refine ⟨?_, ?_⟩
      · unfold spanU
        rw [takeWhile_all]
        · simp [hl]
        · intro x hx
          exact hall x hx
      · rw [List.take_succ_cons, List.take_succ_cons, List.take_take]; simp
    by_cases h2 : clsU c = 2
    · unfold tokAt at h ⊢
      simp only [if_pos h2] at h ⊢
      split at h
      · rename_i hn
        have e : spanU [2] (c :: r) = m + 1 := by
          have := (Prod.mk.inj (Option.some.inj h)).1
          exact this
        obtain ⟨s1, s2⟩ := sp [2] (by rw [h2]; rfl) e
        rw [e] at hn
        rw [s1, s2, if_pos hn]
        have := (Prod.mk.inj (Option.some.inj h)).2
        rw [this]
      · cases h
    by_cases h3 : clsU c = 3 ∨ clsU c = 4
    · have hc : [2, 3, 4].contains (clsU c) = true := by rcases h3 with h3 | h3 <;> rw [h3] <;> rfl
      have e : spanU [2, 3, 4] (c :: r) = m + 1 := by
        unfold tokAt at h
        simp only [if_neg h2, if_pos h3] at h
        split at h
        · exact (Prod.mk.inj (Option.some.inj h)).1
        split at h
        · exact (Prod.mk.inj (Option.some.inj h)).1
        split at h
        · exact (Prod.mk.inj (Option.some.inj h)).1
        · cases h
      obtain ⟨s1, s2⟩ := sp [2, 3, 4] hc e
      unfold tokAt at h ⊢
      simp only [if_neg h2, if_pos h3] at h ⊢
      rw [e] at h
      rw [s1, s2]
      exact h
    by_cases h5 : clsU c = 5
    · rw [tokAt_sign h5] at h ⊢
      have e : signOf (c :: r) = m + 1 := by
        split at h
        · cases h
        · exact (Prod.mk.inj (Option.some.inj h)).1
      have e2 : signOf (c :: r.take m) = m + 1 := by
        unfold signOf at e ⊢
        split at e
        · rename_i hp
          have : m = 1 := by omega
          subst this
          have : (c :: r.take 1).take 2 = (c :: r).take 2 := by rw [List.take_succ_cons, List.take_succ_cons, List.take_take]; simp
          rw [this, if_pos hp]
        · rename_i hp
          split at e
          · omega
          · rename_i hq
            have : m = 0 := by omega
            subst this
            rw [if_neg (by simp), if_neg (by simpa using hq)]
      rw [e2, if_neg (by omega)]
      rw [e, if_neg (by omega)] at h
      exact h
    · unfold tokAt at h
      simp only [if_neg h2, if_neg h3, if_neg h5] at h
      cases h
  cases hl : (c :: r).take n with
  | nil =>
    have := congrArg List.length hl
    rw [List.length_take] at this
    simp at this
    omega
  | cons c' r' =>
    rw [hl] at key
    rw [tokAt_append c' r' hb, key]
theorem tokAt_front {l : List UInt8} {n : Nat} {k : Int} (h : tokAt l = some (n, k)) : ∃ c r, l = c :: r ∧ clsU c ≠ 1 := by
  cases l with
  | nil => cases h
  | cons c r =>
    refine ⟨c, r, rfl, fun h1 => ?_⟩
    rw [tokAt_other (.inr h1)] at h
    cases h

/-- A proof on tokens goes through the text from the left. -/
theorem lex_ind {P : Nat → List UInt8 → Prop} (h0 : ∀ p, P p [])
    (h1 : ∀ p c r, clsU c = 1 → P (p + 1) r → P p (c :: r))
    (h2 : ∀ p c r, clsU c ≠ 1 → tokAt (c :: r) = none → P p (c :: r))
    (h3 : ∀ p c r n k, clsU c ≠ 1 → tokAt (c :: r) = some (n, k) → P (p + n) ((c :: r).drop n) → P p (c :: r)) : ∀ (m p : Nat) (l : List UInt8), l.length ≤ m → P p l := by
  intro m
  induction m with
  | zero =>
    intro p l hl
    have : l = [] := List.eq_nil_of_length_eq_zero (by omega)
    subst this
    exact h0 p
  | succ m ih =>
    intro p l hl
    cases l with
    | nil => exact h0 p
    | cons c r =>
      simp only [List.length_cons] at hl
      by_cases hc : clsU c = 1
      · exact h1 p c r hc (ih _ _ (by omega))
      cases ht : tokAt (c :: r) with
      | none => exact h2 p c r hc ht
      | some nk =>
        obtain ⟨n, k⟩ := nk
        have hb := tokAt_bd ht
        simp only [List.length_cons] at hb
        exact h3 p c r n k hc ht (ih _ _ (by simp; omega))
/-- A token that stands elsewhere. -/
def Tok.moved (d e : Nat) (t : Tok) : Tok := ⟨t.k, t.text, t.pos + d + if t.k = 6 then e else 0⟩
def moveR (d e : Nat) (r : Except Nat (List Tok)) : Except Nat (List Tok) := match r with
  | .error q => .error (q + d)
  | .ok o => .ok (o.map (Tok.moved d e))
theorem moveR_cons (d e : Nat) (t : Tok) (r : Except Nat (List Tok)) : moveR d e (r.map fun o => t :: o) = (moveR d e r).map fun o => t.moved d e :: o := by cases r <;> rfl
theorem lexL_moved (d : Nat) (b : List UInt8) (hb : ∀ c, c ∈ b → clsU c = 1) (p : Nat) (l : List UInt8) : lexL (p + d) (l ++ b) = moveR d b.length (lexL p l) := by
  have hs : Stop b := fun c r e => hb c (by rw [e]; simp)
  have hbl : ∀ (b : List UInt8) (q : Nat), (∀ c, c ∈ b → clsU c = 1) → lexL q b = .ok [⟨6, ByteArray.empty, q + b.length⟩] := by
    intro b
    induction b with
    | nil => intro q _; rfl
    | cons c b ih => intro q h; rw [lexL_blank (h c (by simp)), ih _ fun c hc => h c (by simp [hc])]; simp; omega
  refine lex_ind (P := fun p l => lexL (p + d) (l ++ b) = moveR d b.length (lexL p l)) ?_ ?_ ?_ ?_ l.length p l (Nat.le_refl _)
  · intro p
    rw [List.nil_append, hbl b _ hb, lexL_nil]
    rfl
  · intro p c r hc ih
    rw [List.cons_append, lexL_blank hc, lexL_blank hc, ← ih]
    congr 1
    omega
  · intro p c r hc ht
    have := tokAt_append c r hs
    rw [ht] at this
    rw [List.cons_append] at this ⊢
    rw [lexL_none hc _ this, lexL_none hc _ ht]
    rfl
  · intro p c r n k hc ht ih
    have hbd := tokAt_bd ht
    have h2 := tokAt_append c r hs
    rw [ht] at h2
    rw [lexL_tok hc _ ht, moveR_cons, ← ih]
    have hk : k ≠ 6 := by omega
    rw [List.cons_append] at h2 ⊢
    rw [lexL_tok hc _ h2, ← List.cons_append, List.drop_append_of_le_length hbd.2.1, List.take_append_of_le_length hbd.2.1]
    have : p + d + n = p + n + d := by omega
    rw [this]
    simp [Tok.moved, hk]
theorem lexL_ahead (a : List UInt8) (ha : ∀ c, c ∈ a → clsU c = 1) (p : Nat) (l : List UInt8) : lexL p (a ++ l) = lexL (p + a.length) l := by
  induction a generalizing p with
  | nil => rfl
  | cons c a ih =>
    rw [List.cons_append, lexL_blank (ha c (by simp)), ih (fun c hc => ha c (by simp [hc]))]
    simp
    congr 1
    omega
/-- Blanks ahead move tokens, blanks behind the end alone. -/
theorem lexL_blanks (a b l : List UInt8) (ha : ∀ c, c ∈ a → clsU c = 1) (hb : ∀ c, c ∈ b → clsU c = 1) : lexL 0 (a ++ l ++ b) = moveR a.length b.length (lexL 0 l) := by
  rw [List.append_assoc, lexL_ahead a ha, lexL_moved a.length b hb]

/-- The texts of tokens, a blank between them. -/
def joinT : List Tok → List UInt8
  | [] => []
  | [t] => t.text.data.toList
  | t :: l => t.text.data.toList ++ 32 :: joinT l
theorem joinT_cons (t : Tok) {l : List Tok} (h : l ≠ []) : joinT (t :: l) = t.text.data.toList ++ 32 :: joinT l := by
  cases l with
  | nil => exact absurd rfl h
  | cons a l => rfl
/-- Tokens that differ in their places alone. -/
def alike (a b : List Tok) : Prop := a.map (fun t => (t.k, t.text)) = b.map fun t => (t.k, t.text)
theorem lexL_ne {p : Nat} {l : List UInt8} {o : List Tok} (h : lexL p l = .ok o) : o ≠ [] := by
  have := lex_ind (P := fun p l => ∀ o, lexL p l = .ok o → o ≠ []) ?_ ?_ ?_ ?_ l.length p l (Nat.le_refl _)
  · exact this o h
  · intro p o h; cases h; simp
  · intro p c r hc ih o h; rw [lexL_blank hc] at h; exact ih o h
  · intro p c r hc ht o h; rw [lexL_none hc _ ht] at h; cases h
  · intro p c r n k hc ht ih o h
    rw [lexL_tok hc _ ht] at h
    cases hr : lexL (p + n) ((c :: r).drop n) with
    | error e => rw [hr] at h; cases h
    | ok o' => rw [hr] at h; cases h; simp
/-- Tokens that are joined are cut into the same ones, but for their places. -/
theorem lexL_join {p : Nat} {l : List UInt8} {o : List Tok} (h : lexL p l = .ok o) (q : Nat) : ∃ o', lexL q (joinT o) = .ok o' ∧ alike o o' := by
  have := lex_ind (P := fun p l => ∀ o, lexL p l = .ok o → ∀ q, ∃ o', lexL q (joinT o) = .ok o' ∧ alike o o') ?_ ?_ ?_ ?_ l.length p l (Nat.le_refl _)
  · exact this o h q
  · intro p o h q
    cases h
    exact ⟨[⟨6, ByteArray.empty, q⟩], rfl, rfl⟩
  · intro p c r hc ih o h q; rw [lexL_blank hc] at h; exact ih o h q
  · intro p c r hc ht o h; rw [lexL_none hc _ ht] at h; cases h
  · intro p c r n k hc ht ih o h q
    rw [lexL_tok hc _ ht] at h
    have hbd := tokAt_bd ht
    cases hr : lexL (p + n) ((c :: r).drop n) with
    | error e => rw [hr] at h; cases h
    | ok o2 =>
      rw [hr] at h
      cases h
      obtain ⟨o3, h3, h4⟩ := ih o2 hr (q + n + 1)
      have ht2 := tokAt_take ht (Stop.blank (c := 32) (by decide) (joinT o2))
      rw [joinT_cons _ (lexL_ne hr)]
      simp only [bs_list]
      obtain ⟨c', r', e', hc'⟩ := tokAt_front ht2
      have hl : ((c :: r).take n).length = n := by rw [List.length_take]; omega
      have hd : ((c :: r).take n ++ 32 :: joinT o2).drop n = 32 :: joinT o2 := List.drop_left' hl
      have hk : ((c :: r).take n ++ 32 :: joinT o2).take n = (c :: r).take n := List.take_left' hl
      rw [e'] at ht2 hd hk ⊢
      rw [lexL_tok hc' _ ht2, hd, hk, lexL_blank (by decide), h3]
      refine ⟨⟨k, bs ((c :: r).take n), q⟩ :: o3, rfl, ?_⟩
      unfold alike at h4 ⊢
      simp [h4]

/-- Tokens at their places in a text. -/
def placed (B : List UInt8) : Nat → List Tok → Prop
  | p, [] => p = B.length
  | p, t :: o => p ≤ t.pos ∧ t.pos + t.text.size ≤ B.length ∧ (B.drop t.pos).take t.text.size = t.text.data.toList ∧ (∀ k, p ≤ k → k < t.pos → ∃ c, B[k]? = some c ∧ clsU c = 1) ∧ placed B (t.pos + t.text.size) o
theorem lexL_placed (B : List UInt8) {p : Nat} {l : List UInt8} {o : List Tok} (h : lexL p l = .ok o) (hl : B.drop p = l) (hp : p ≤ B.length) : ∀ q, q ≤ p → (∀ k, q ≤ k → k < p → ∃ c, B[k]? = some c ∧ clsU c = 1) → placed B q o := by
  have := lex_ind (P := fun p l => ∀ o, lexL p l = .ok o → B.drop p = l → p ≤ B.length → ∀ q, q ≤ p → (∀ k, q ≤ k → k < p → ∃ c, B[k]? = some c ∧ clsU c = 1) → placed B q o) ?_ ?_ ?_ ?_ l.length p l (Nat.le_refl _)
  · exact this o h hl hp
  · intro p o h hl hp q hq hk
    cases h
    have : B.length ≤ p := by
      have := congrArg List.length hl
      simp at this
      omega
    refine ⟨hq, by simp; omega, by simp, hk, ?_⟩
    show p + ByteArray.empty.size = B.length
    simp
    omega
  · intro p c r hc ih o h hl hp q hq hk
    rw [lexL_blank hc] at h
    have hpl : p < B.length := by
      have := congrArg List.length hl
      simp at this
      omega
    have hat : B[p]? = some c := by
      have := congrArg (fun x => x[0]?) hl
      simpa using this
    refine ih o h ?_ (by omega) q (by omega) fun k h1 h2 => ?_
    · rw [← List.drop_drop, hl]; rfl
    · by_cases e : k = p
      · subst e; exact ⟨c, hat, hc⟩
      · exact hk k h1 (by omega)
  · intro p c r hc ht o h; rw [lexL_none hc _ ht] at h; cases h
  · intro p c r n k hc ht ih o h hl hp q hq hk
    have hbd := tokAt_bd ht
    have hpl : p + (c :: r).length = B.length := by
      have := congrArg List.length hl
      rw [List.length_drop] at this
      simp only [List.length_cons] at this ⊢
      omega
    rw [lexL_tok hc _ ht] at h
    cases hr : lexL (p + n) ((c :: r).drop n) with
    | error e => rw [hr] at h; cases h
    | ok o2 =>
      rw [hr] at h
      cases h
      have hsz : (bs ((c :: r).take n)).size = n := by rw [bs_size, List.length_take]; omega
      refine ⟨hq, by simp only [hsz]; omega, by simp only [hsz, bs_list]; rw [hl], hk, ?_⟩
      simp only [hsz]
      exact ih o2 hr (by rw [← List.drop_drop, hl]) (by omega) (p + n) (Nat.le_refl _) fun k h1 h2 => by omega
/-- The end is the last one. -/
theorem lexL_last {p : Nat} {l : List UInt8} {o : List Tok} (h : lexL p l = .ok o) : ∃ o', o = o' ++ [⟨6, ByteArray.empty, p + l.length⟩] ∧ ∀ t, t ∈ o' → t.k ≠ 6 := by
  have := lex_ind (P := fun p l => ∀ o, lexL p l = .ok o → ∃ o', o = o' ++ [⟨6, ByteArray.empty, p + l.length⟩] ∧ ∀ t, t ∈ o' → t.k ≠ 6) ?_ ?_ ?_ ?_ l.length p l (Nat.le_refl _)
  · exact this o h
  · intro p o h; cases h; exact ⟨[], rfl, by simp⟩
  · intro p c r hc ih o h
    rw [lexL_blank hc] at h
    obtain ⟨o', e, hk⟩ := ih o h
    exact ⟨o', by rw [e, List.length_cons]; congr 3; omega, hk⟩
  · intro p c r hc ht o h; rw [lexL_none hc _ ht] at h; cases h
  · intro p c r n k hc ht ih o h
    rw [lexL_tok hc _ ht] at h
    have hbd := tokAt_bd ht
    cases hr : lexL (p + n) ((c :: r).drop n) with
    | error e => rw [hr] at h; cases h
    | ok o2 =>
      rw [hr] at h
      cases h
      obtain ⟨o', e, hk⟩ := ih o2 hr
      refine ⟨⟨k, bs ((c :: r).take n), p⟩ :: o', ?_, ?_⟩
      · rw [e, List.cons_append, List.length_drop]
        congr 4
        omega
      · intro t htm
        rcases List.mem_cons.1 htm with rfl | htm
        · simp only; omega
        · exact hk t htm
end Go.Proofs.YtaioeailgknfjaaGreatDoor
