/- Part 5 of the proof: PureT, MemT, ArgsT, Append, Flat, PureK, MemK, ArgsK; no condition of ours. -/
import Derived.Test.YtaioeailgknfjaaGreatDoorPkp1
import Derived.Test.YtaioeailgknfjaaGreatDoorPkp3
set_option linter.unusedVariables false
set_option linter.unusedSimpArgs false
namespace Go.Proofs.YtaioeailgknfjaaGreatDoor
open Go
structure Hd where
  k : Int
  op : Int
  pos : Int
  n : Int
  name : ByteArray
  arg : ByteArray
  exn : ByteArray
structure Hd.Fits (h : Hd) : Prop where
  k0 : 0 ≤ h.k
  k1 : h.k ≤ 255
  op0 : 0 ≤ h.op
  op1 : h.op ≤ 255
  pos0 : -9223372036854775808 ≤ h.pos
  pos1 : h.pos ≤ 9223372036854775807
  n0 : -9223372036854775808 ≤ h.n
  n1 : h.n ≤ 9223372036854775807
  name1 : h.name.size ≤ 9223372036854775807
  arg1 : h.arg.size ≤ 9223372036854775807
  exn1 : h.exn.size ≤ 9223372036854775807
inductive Tm where
  | mk (h : Hd) (kids : List Tm)
def Tm.head : Tm → Hd | .mk h _ => h
def Tm.kids : Tm → List Tm | .mk _ l => l
mutual
def Tm.size : Tm → Nat
  | .mk _ l => 1 + Tm.sizes l
def Tm.sizes : List Tm → Nat
  | [] => 0
  | t :: l => t.size + Tm.sizes l
end
theorem Tm.size_pos (t : Tm) : 0 < t.size := by cases t; simp [Tm.size]; omega
theorem Tm.sizes_take_succ (l : List Tm) (i : Nat) (t : Tm) (h : l[i]? = some t) : Tm.sizes (l.take (i+1)) = Tm.sizes (l.take i) + t.size := by
  induction l generalizing i with
  | nil => simp at h
  | cons x l ih =>
    cases i with
    | zero => simp at h; subst h; simp [Tm.sizes]
    | succ i => simp at h; simp [Tm.sizes, ih i h]; omega
theorem Tm.sizes_take_le (l : List Tm) (i : Nat) : Tm.sizes (l.take i) ≤ Tm.sizes l := by
  induction l generalizing i with
  | nil => simp
  | cons x l ih =>
    cases i with
    | zero => simp [Tm.sizes]
    | succ i => simp [Tm.sizes]; exact ih i
theorem Tm.size_at (l : List Tm) (i : Nat) (t : Tm) (h : l[i]? = some t) : t.size ≤ Tm.sizes l := by
  have h1 := Tm.sizes_take_succ l i t h
  have h2 := Tm.sizes_take_le l (i+1)
  omega
theorem Tm.size_mem (l : List Tm) (t : Tm) (h : t ∈ l) : t.size ≤ Tm.sizes l := by
  obtain ⟨i, hi, rfl⟩ := List.mem_iff_getElem.1 h
  exact Tm.size_at l i _ (List.getElem?_eq_getElem hi)
theorem Tm.sizes_length (l : List Tm) : l.length ≤ Tm.sizes l := by
  induction l with
  | nil => simp
  | cons t l ih => have := t.size_pos; simp [Tm.sizes]; omega
theorem Tm.ind {P : Tm → Prop} (h : ∀ x l, (∀ t, t ∈ l → P t) → P (.mk x l)) (t : Tm) : P t := by
  have key : ∀ m t, t.size ≤ m → P t := by
    intro m
    induction m with
    | zero => intro t ht; have := t.size_pos; omega
    | succ m ih =>
      intro t ht
      obtain ⟨x, l⟩ := t
      refine h x l fun t hm => ih t ?_
      have := Tm.size_mem l t hm
      simp [Tm.size] at ht
      omega
  exact key _ t (Nat.le_refl _)
mutual
def Tm.all : Tm → List Tm
  | .mk h l => .mk h l :: Tm.alls l
def Tm.alls : List Tm → List Tm
  | [] => []
  | t :: l => t.all ++ Tm.alls l
end
theorem Tm.alls_eq (l : List Tm) : Tm.alls l = l.flatMap Tm.all := by
  induction l with
  | nil => simp [Tm.alls]
  | cons t l ih => simp [Tm.alls, ih]
theorem Tm.all_length (t : Tm) : t.all.length = t.size := by
  induction t using Tm.ind with
  | h x l ih =>
    simp only [Tm.all, Tm.size, List.length_cons]
    have : (Tm.alls l).length = Tm.sizes l := by
      clear x
      induction l with
      | nil => simp [Tm.alls, Tm.sizes]
      | cons t l ihl => simp only [Tm.alls, Tm.sizes, List.length_append, ih t (by simp), ihl (fun t ht => ih t (by simp [ht]))]
    omega
theorem Tm.alls_length (l : List Tm) : (Tm.alls l).length = Tm.sizes l := by
  induction l with
  | nil => simp [Tm.alls, Tm.sizes]
  | cons t l ih => simp only [Tm.alls, Tm.sizes, List.length_append, Tm.all_length, ih]
theorem Tm.alls_take_succ (l : List Tm) (i : Nat) (t : Tm) (h : l[i]? = some t) : Tm.alls (l.take (i+1)) = Tm.alls (l.take i) ++ t.all := by
  rw [Tm.alls_eq, Tm.alls_eq, List.take_add_one, h]
  simp
def Hd.long (h : Hd) : Bool := decide (100 < h.name.size) || (decide (100 < h.arg.size) || decide (100 < h.exn.size))
mutual
def Tm.left : Tm → Int → Int
  | .mk h l, n => if h.long then -1 else Tm.lefts l (n - 1)
def Tm.lefts : List Tm → Int → Int
  | [], n => n
  | t :: l, n => if 0 ≤ n then Tm.lefts l (t.left n) else n
end
mutual
def Tm.short : Tm → Prop
  | .mk h l => h.long = false ∧ Tm.shorts l
def Tm.shorts : List Tm → Prop
  | [] => True
  | t :: l => t.short ∧ Tm.shorts l
end
theorem Tm.lefts_spec (l : List Tm) (ih : ∀ t, t ∈ l → ∀ n : Int, 0 ≤ n → -1 ≤ t.left n ∧ t.left n ≤ n ∧ (0 ≤ t.left n → (t.size : Int) ≤ n ∧ t.left n = n - t.size ∧ t.short)) :
    ∀ n : Int, -1 ≤ n → -1 ≤ Tm.lefts l n ∧ Tm.lefts l n ≤ n ∧ (0 ≤ Tm.lefts l n → (Tm.sizes l : Int) ≤ n ∧ Tm.lefts l n = n - Tm.sizes l ∧ Tm.shorts l) := by
  induction l with
  | nil => intro n hn; simp [Tm.lefts, Tm.sizes, Tm.shorts]; omega
  | cons t l ihl =>
    intro n hn
    simp only [Tm.lefts, Tm.sizes, Tm.shorts]
    by_cases h : 0 ≤ n
    · rw [if_pos h]
      obtain ⟨a, b, c⟩ := ih t (by simp) n h
      obtain ⟨a', b', c'⟩ := ihl (fun t ht => ih t (by simp [ht])) (t.left n) a
      refine ⟨a', by omega, fun hs => ?_⟩
      obtain ⟨c1, c2, c3⟩ := c (by omega)
      obtain ⟨d1, d2, d3⟩ := c' hs
      exact ⟨by omega, by omega, c3, d3⟩
    · rw [if_neg h]
      exact ⟨hn, Int.le_refl _, fun hs => by omega⟩
theorem Tm.left_spec (t : Tm) : ∀ n : Int, 0 ≤ n → -1 ≤ t.left n ∧ t.left n ≤ n ∧ (0 ≤ t.left n → (t.size : Int) ≤ n ∧ t.left n = n - t.size ∧ t.short) := by
  induction t using Tm.ind with
  | h x l ih =>
    intro n hn
    obtain ⟨a, b, c⟩ := Tm.lefts_spec l ih (n - 1) (by omega)
    simp only [Tm.left, Tm.size, Tm.short]
    cases hl : x.long
    · simp only [Bool.false_eq_true, if_false]
      refine ⟨a, by omega, fun h => ?_⟩
      obtain ⟨c1, c2, c3⟩ := c h
      exact ⟨by omega, by omega, trivial, c3⟩
    · simp only [if_true]
      exact ⟨by omega, by omega, fun h => by omega⟩
theorem Tm.lefts_take (l : List Tm) (n : Int) (i : Nat) (t : Tm) (h : l[i]? = some t) (h0 : 0 ≤ Tm.lefts (l.take i) n) : Tm.lefts (l.take (i+1)) n = t.left (Tm.lefts (l.take i) n) := by
  induction l generalizing i n with
  | nil => simp at h
  | cons x l ih =>
    cases i with
    | zero =>
      simp at h; subst h
      simp [Tm.lefts] at h0 ⊢
      intro hn; omega
    | succ i =>
      simp only [List.take_succ_cons, Tm.lefts] at h0 ⊢
      by_cases hn : 0 ≤ n
      · rw [if_pos hn] at h0 ⊢; rw [if_pos hn]; exact ih _ i (by simpa using h) h0
      · rw [if_neg hn] at h0; omega
theorem Tm.lefts_stop (l : List Tm) (n : Int) (i : Nat) (h0 : Tm.lefts (l.take i) n < 0) : Tm.lefts l n = Tm.lefts (l.take i) n := by
  induction l generalizing i n with
  | nil => simp [Tm.lefts]
  | cons x l ih =>
    cases i with
    | zero => simp [Tm.lefts] at h0 ⊢; intro hn; omega
    | succ i =>
      simp only [List.take_succ_cons, Tm.lefts] at h0 ⊢
      by_cases hn : 0 ≤ n
      · rw [if_pos hn] at h0 ⊢; rw [if_pos hn]; exact ih _ i h0
      · rw [if_neg hn, if_neg hn]
def Tm.great (t : Tm) : Bool := decide (t.left 400 < 0)
theorem Tm.not_great {t : Tm} (h : t.great = false) : t.size ≤ 400 ∧ t.short := by
  have hs := (t.left_spec 400 (by omega)).2.2
  simp only [Tm.great, decide_eq_false_iff_not] at h
  have := hs (by omega)
  exact ⟨by omega, this.2.2⟩
def Hd.same (h h' : Hd) : Bool := h.k == h'.k && (h.op == h'.op && (h.n == h'.n && (h.name.toList == h'.name.toList && (h.arg.toList == h'.arg.toList && h.exn.toList == h'.exn.toList))))
mutual
def Tm.same : Tm → Tm → Bool
  | .mk h l, .mk h' l' => h.same h' && Tm.sames l l'
def Tm.sames : List Tm → List Tm → Bool
  | [], [] => true
  | t :: l, t' :: l' => t.same t' && Tm.sames l l'
  | _, _ => false
end
def Tm.samesTo (l l' : List Tm) (i : Nat) : Prop := ∀ j, j < i → ∀ t t', l[j]? = some t → l'[j]? = some t' → t.same t' = true
theorem Tm.sames_len (l l' : List Tm) (h : l.length ≠ l'.length) : Tm.sames l l' = false := by
  induction l generalizing l' with
  | nil => cases l' <;> simp [Tm.sames] at h ⊢
  | cons t l ih =>
    cases l' with
    | nil => simp [Tm.sames]
    | cons t' l' => simp [Tm.sames]; intro _; exact ih l' (by simpa using h)
theorem Tm.sames_no (l l' : List Tm) (i : Nat) (t t' : Tm) (h : l[i]? = some t) (h' : l'[i]? = some t') (hs : t.same t' = false) : Tm.sames l l' = false := by
  induction l generalizing l' i with
  | nil => simp at h
  | cons x l ih =>
    cases l' with
    | nil => simp at h'
    | cons x' l' =>
      cases i with
      | zero => simp at h h'; subst h h'; simp [Tm.sames, hs]
      | succ i => simp at h h'; simp [Tm.sames, ih l' i h h']
theorem Tm.sames_yes (l l' : List Tm) (hl : l.length = l'.length) (h : Tm.samesTo l l' l.length) : Tm.sames l l' = true := by
  induction l generalizing l' with
  | nil => cases l' <;> simp [Tm.sames] at hl ⊢
  | cons t l ih =>
    cases l' with
    | nil => simp at hl
    | cons t' l' =>
      simp only [Tm.sames, Bool.and_eq_true]
      refine ⟨h 0 (by simp) t t' rfl rfl, ih l' (by simpa using hl) fun j hj x x' hx hx' => h (j+1) (by simpa using hj) x x' (by simpa using hx) (by simpa using hx')⟩
theorem Tm.samesTo_succ {l l' : List Tm} {i : Nat} {t t' : Tm} (h : Tm.samesTo l l' i) (g : l[i]? = some t) (g' : l'[i]? = some t') (hs : t.same t' = true) : Tm.samesTo l l' (i+1) := by
  intro j hj x x' hx hx'
  rcases Nat.lt_or_ge j i with hlt | hge
  · exact h j hlt x x' hx hx'
  · obtain rfl : j = i := by omega
    rw [g] at hx; rw [g'] at hx'
    cases hx; cases hx'
    exact hs
def karity (k : Int) : Int :=
  if k = 1 ∨ k = 2 then 0 else if k = 4 ∨ k = 5 ∨ k = 6 ∨ k = 7 ∨ k = 11 ∨ k = 15 then 1 else if k = 3 ∨ k = 8 ∨ k = 9 ∨ k = 10 ∨ k = 12 ∨ k = 13 ∨ k = 16 then 2 else if k = 14 then 3 else -1
def fitB (there : Bool) (s : ByteArray) (ok : Bool) : Bool := (there && ok) || (!there && s.toList.isEmpty)
def Hd.hasName (h : Hd) : Bool := h.k == 2 || (h.k == 12 || h.k == 13)
def Hd.hasArg (h : Hd) : Bool := h.k == 11 || (h.k == 13 || h.k == 16)
def Hd.hasExn (h : Hd) : Bool := h.k == 15 || h.k == 16
def Tm.nums : Tm → Bool
  | .mk h l => decide (0 ≤ karity h.k) && (decide ((l.length : Int) = karity h.k) && (decide (0 ≤ h.pos) && ((if h.k = 9 then decide (1 ≤ h.op) && decide (h.op ≤ 5) else decide (h.op = 0)) && ((decide (0 ≤ h.n) && decide (h.n ≤ 2147483647)) && (decide (h.k = 1) || decide (h.n = 0))))))
def Tm.node : Tm → Bool
  | .mk h l => Tm.nums (.mk h l) && (fitB h.hasName h.name (isName h.name) && (fitB h.hasArg h.arg (isName h.arg) && fitB h.hasExn h.exn (isExn h.exn)))
def Tm.may (t : Tm) : Bool := decide (t.size ≤ 4000) && t.all.all Tm.node
def inB (l : List ByteArray) (x : ByteArray) : Bool := l.any fun y => x.toList == y.toList
theorem toList_inj {s t : ByteArray} (h : s.toList = t.toList) : s = t := by
  rw [ByteArray.toList_eq, ByteArray.toList_eq] at h
  exact ByteArray.ext (Array.toList_inj.1 h)
theorem beq_bytes (s t : ByteArray) : (s.toList == t.toList) = decide (s = t) := by
  rw [Bool.eq_iff_iff, beq_iff_eq, decide_eq_true_eq]
  exact ⟨toList_inj, fun h => by rw [h]⟩
theorem inB_iff (l : List ByteArray) (x : ByteArray) : inB l x = true ↔ x ∈ l := by
  unfold inB
  rw [List.any_eq_true]
  constructor
  · rintro ⟨y, hy, h⟩
    rw [beq_bytes, decide_eq_true_eq] at h
    exact h ▸ hy
  · intro h
    exact ⟨x, h, by simp⟩
theorem inB_append (l l' : List ByteArray) (x : ByteArray) : inB (l ++ l') x = (inB l x || inB l' x) := by simp [inB]
def put (l : List ByteArray) (x : ByteArray) : List ByteArray := if inB l x then l else l ++ [x]
def hfn (s : ByteArray) : Hd := ⟨11, 0, 0, 0, ⟨#[]⟩, s, ⟨#[]⟩⟩
def hlt (s : ByteArray) : Hd := ⟨12, 0, 0, 0, s, ⟨#[]⟩, ⟨#[]⟩⟩
end Go.Proofs.YtaioeailgknfjaaGreatDoor
namespace Go.Proofs.YtaioeailgknfjaaGreatDoor
open Go Go.RowKit Go.Sort
structure HdAt (w : World) (h : Hd) (b o : Nat) : Prop where
  c0 : w.cell? ⟨b, o, none⟩ = some (.int .u8 h.k)
  c1 : w.cell? ⟨b, o + 1, none⟩ = some (.int .u8 h.op)
  c2 : w.cell? ⟨b, o + 2, none⟩ = some (.int .i64 h.pos)
  c3 : w.cell? ⟨b, o + 3, none⟩ = some (.int .i64 h.n)
  c4 : w.cell? ⟨b, o + 4, none⟩ = some (.string h.name)
  c5 : w.cell? ⟨b, o + 5, none⟩ = some (.string h.arg)
  c6 : w.cell? ⟨b, o + 6, none⟩ = some (.string h.exn)
def tval (h : Hd) (a : Option Addr) (len cap : Nat) : Value := .agg #[.int .u8 h.k, .int .u8 h.op, .int .i64 h.pos, .int .i64 h.n, .string h.name, .string h.arg, .string h.exn, .slice a len cap]
def tcells (h : Hd) (a : Option Addr) (len cap : Nat) : Array Value := #[.int .u8 h.k, .int .u8 h.op, .int .i64 h.pos, .int .i64 h.n, .string h.name, .string h.arg, .string h.exn, .slice a len cap]
mutual
def TmAt (A : Nat → Prop) (w : World) : Tm → Nat → Nat → Prop
  | .mk h l, b, o => HdAt w h b o ∧ h.Fits ∧ ∃ a len cap, w.cell? ⟨b, o + 7, none⟩ = some (.slice a len cap) ∧ len ≤ cap ∧ cap ≤ maxLen ∧ IsTmsA A w l a len
def IsTmsA (A : Nat → Prop) (w : World) : List Tm → Option Addr → Nat → Prop
  | [], _, len => len = 0
  | t :: l, a, len => 0 < len ∧ ∃ b o, a = some ⟨b, o, none⟩ ∧ ¬ A b ∧ TmAt A w t b o ∧ IsTmsA A w l (some ⟨b, o + 8, none⟩) (len - 1)
end
def IsTmA (A : Nat → Prop) (w : World) (t : Tm) (v : Value) : Prop := ∃ a len cap, v = tval t.head a len cap ∧ t.head.Fits ∧ len ≤ cap ∧ cap ≤ maxLen ∧ IsTmsA A w t.kids a len
abbrev IsTm (w : World) (t : Tm) (v : Value) : Prop := IsTmA NoA w t v
abbrev IsTms (w : World) (l : List Tm) (a : Option Addr) (len : Nat) : Prop := IsTmsA NoA w l a len
theorem IsTmsA.length {A : Nat → Prop} {w : World} {l : List Tm} {a : Option Addr} {len : Nat} (h : IsTmsA A w l a len) : len = l.length := by
  induction l generalizing a len with
  | nil => simpa [IsTmsA] using h
  | cons t l ih =>
    simp only [IsTmsA] at h
    obtain ⟨h0, b, o, rfl, _, _, hl⟩ := h
    have := ih hl
    simp; omega
theorem IsTmsA.nil {A : Nat → Prop} {w : World} (a : Option Addr) : IsTmsA A w [] a 0 := by simp [IsTmsA]
theorem HdAt.move {w w' : World} {h : Hd} {b o : Nat} (hc : ∀ i v, w.cell? ⟨b, i, none⟩ = some v → w'.cell? ⟨b, i, none⟩ = some v) (g : HdAt w h b o) : HdAt w' h b o :=
  ⟨hc _ _ g.c0, hc _ _ g.c1, hc _ _ g.c2, hc _ _ g.c3, hc _ _ g.c4, hc _ _ g.c5, hc _ _ g.c6⟩
mutual
theorem TmAt.move {A A' : Nat → Prop} {w w' : World} (hA : ∀ b, b < w.heap.size → A' b → A b) (hc : ∀ p v, ¬ A p.block → w.cell? p = some v → w'.cell? p = some v) : ∀ {t : Tm} {b o : Nat}, ¬ A b → TmAt A w t b o → TmAt A' w' t b o
  | .mk h l, b, o, hb, g => by
    simp only [TmAt] at g ⊢
    obtain ⟨g1, g2, a, len, cap, q, e1, e2, gl⟩ := g
    exact ⟨g1.move fun i v => hc ⟨b, i, none⟩ v hb, g2, a, len, cap, hc _ _ hb q, e1, e2, IsTmsA.move hA hc gl⟩
theorem IsTmsA.move {A A' : Nat → Prop} {w w' : World} (hA : ∀ b, b < w.heap.size → A' b → A b) (hc : ∀ p v, ¬ A p.block → w.cell? p = some v → w'.cell? p = some v) : ∀ {l : List Tm} {a : Option Addr} {len : Nat}, IsTmsA A w l a len → IsTmsA A' w' l a len
  | [], a, len, g => by simpa only [IsTmsA] using g
  | t :: l, a, len, g => by
    simp only [IsTmsA] at g ⊢
    obtain ⟨g0, b, o, e, hb, gt, gl⟩ := g
    refine ⟨g0, b, o, e, fun h => hb (hA b ?_ h), TmAt.move hA hc hb gt, IsTmsA.move hA hc gl⟩
    obtain ⟨h, l'⟩ := t
    simp only [TmAt] at gt
    exact block_lt_of_cell gt.1.c0
end
theorem IsTmA.move {A A' : Nat → Prop} {w w' : World} (hA : ∀ b, b < w.heap.size → A' b → A b) (hc : ∀ p v, ¬ A p.block → w.cell? p = some v → w'.cell? p = some v) {t : Tm} {v : Value} (h : IsTmA A w t v) : IsTmA A' w' t v := by
  obtain ⟨a, len, cap, e, f, h1, h2, hl⟩ := h
  exact ⟨a, len, cap, e, f, h1, h2, hl.move hA hc⟩
theorem IsTmA.ext {A : Nat → Prop} {w w' : World} (hb : Ext w w') {t : Tm} {v : Value} (h : IsTmA A w t v) : IsTmA A w' t v := h.move (fun _ _ h => h) fun _ _ _ h => hb.cell h
theorem IsTmsA.ext {A : Nat → Prop} {w w' : World} (hb : Ext w w') {l : List Tm} {a : Option Addr} {len : Nat} (h : IsTmsA A w l a len) : IsTmsA A w' l a len := h.move (fun _ _ h => h) fun _ _ _ h => hb.cell h
theorem IsTmsA.any {A : Nat → Prop} {w : World} {l : List Tm} {a : Option Addr} {len : Nat} (h : IsTmsA A w l a len) : IsTms w l a len := h.move (fun _ _ h => h.elim) fun _ _ _ h => h
theorem IsTmsA.off {A A' : Nat → Prop} {w : World} (hA : ∀ b, b < w.heap.size → A' b → A b) {l : List Tm} {a : Option Addr} {len : Nat} (h : IsTmsA A w l a len) : IsTmsA A' w l a len := h.move hA fun _ _ _ h => h
theorem IsTmsA.fresh {A A' : Nat → Prop} {w w' : World} (hx : Ext w w') (hA : ∀ b, A' b → w.heap.size ≤ b) {l : List Tm} {a : Option Addr} {len : Nat} (h : IsTmsA A w l a len) : IsTmsA A' w' l a len :=
  h.move (fun b hb h' => by have := hA b h'; omega) fun _ _ _ h => hx.cell h
theorem IsTmA.fresh {A A' : Nat → Prop} {w w' : World} (hx : Ext w w') (hA : ∀ b, A' b → w.heap.size ≤ b) {t : Tm} {v : Value} (h : IsTmA A w t v) : IsTmA A' w' t v :=
  h.move (fun b hb h' => by have := hA b h'; omega) fun _ _ _ h => hx.cell h
theorem IsTmsA.setCell {A : Nat → Prop} {w : World} {p : Addr} (hp : A p.block) (u : Value) {l : List Tm} {a : Option Addr} {len : Nat} (h : IsTmsA A w l a len) : IsTmsA A (w.setCell p u) l a len :=
  h.move (fun _ _ h => h) fun q _ hq hv => (World.cell?_setCell_other w p q u (fun e => hq (by subst e; exact hp))).trans hv
theorem IsTmA.mk_ {A : Nat → Prop} {w : World} {h : Hd} {l : List Tm} {a : Option Addr} {len cap : Nat} (hl : IsTmsA A w l a len) (h1 : len ≤ cap) (h2 : cap ≤ 9223372036854775807) (hf : h.Fits) : IsTmA A w (.mk h l) (tval h a len cap) :=
  ⟨a, len, cap, rfl, hf, h1, h2, hl⟩
theorem IsTmA.open_ {A : Nat → Prop} {w : World} {h : Hd} {l : List Tm} {v : Value} (g : IsTmA A w (.mk h l) v) :
    ∃ a len cap, v = .agg #[.int .u8 h.k, .int .u8 h.op, .int .i64 h.pos, .int .i64 h.n, .string h.name, .string h.arg, .string h.exn, .slice a len cap] ∧ len ≤ cap ∧ cap ≤ 9223372036854775807 ∧ h.Fits ∧ IsTmsA A w l a len := by
  obtain ⟨a, len, cap, e, f, h1, h2, hl⟩ := g
  exact ⟨a, len, cap, e, h1, h2, f, hl⟩
theorem TmAt.val {A : Nat → Prop} {w : World} {h : Hd} {l : List Tm} {b o : Nat} (g : TmAt A w (.mk h l) b o) : ∃ a len cap, HdAt w h b o ∧ w.cell? ⟨b, o + 7, none⟩ = some (.slice a len cap) ∧ h.Fits ∧ len ≤ cap ∧ cap ≤ 9223372036854775807 ∧ IsTmsA A w l a len := by
  simp only [TmAt] at g
  obtain ⟨g1, g2, a, len, cap, q, e1, e2, gl⟩ := g
  exact ⟨a, len, cap, g1, q, g2, e1, e2, gl⟩
theorem IsTmsA.place {A : Nat → Prop} {w : World} {l : List Tm} {a : Option Addr} {len : Nat} (h : IsTmsA A w l a len) {i : Nat} {t : Tm} (hi : l[i]? = some t) : ∃ b o, a = some ⟨b, o, none⟩ ∧ ¬ A b ∧ TmAt A w t b (o + i * 8) := by
  induction l generalizing a len i with
  | nil => simp at hi
  | cons x l ih =>
    simp only [IsTmsA] at h
    obtain ⟨h0, b, o, rfl, hb, gt, hl⟩ := h
    cases i with
    | zero =>
      simp at hi
      subst hi
      exact ⟨b, o, rfl, hb, by simpa using gt⟩
    | succ i =>
      simp at hi
      obtain ⟨b', o', e, hb', q⟩ := ih hl hi
      simp at e
      obtain ⟨rfl, rfl⟩ := e
      exact ⟨b, o, rfl, hb, by rw [show o + (i + 1) * 8 = o + 8 + i * 8 from by omega]; exact q⟩
theorem IsTmsA.of_places {A : Nat → Prop} {w : World} (l : List Tm) (b o : Nat) (hb : ¬ A b) (h : ∀ i t, l[i]? = some t → TmAt A w t b (o + i * 8)) : IsTmsA A w l (some ⟨b, o, none⟩) l.length := by
  induction l generalizing o with
  | nil => simp [IsTmsA]
  | cons t l ih =>
    simp only [IsTmsA]
    refine ⟨by simp, b, o, rfl, hb, by simpa using h 0 t rfl, ?_⟩
    have := ih (o + 8) fun i t hi => by
      have := h (i + 1) t (by simpa using hi)
      rw [show o + (i + 1) * 8 = o + 8 + i * 8 from by omega] at this
      exact this
    simpa using this
theorem IsTmsA.at8 {A : Nat → Prop} {w w1 : World} (hx : Ext w w1) {l : List Tm} {a : Option Addr} {len : Nat} (h : IsTmsA A w l a len) {i : Nat} (hi : i < len) :
    ∃ x k b o ak lenk capk, l[i]? = some (.mk x k) ∧ a = some ⟨b, o, none⟩ ∧ ¬ A b ∧ HdAt w1 x b (o + i * 8) ∧ w1.cell? ⟨b, o + i * 8 + 7, none⟩ = some (.slice ak lenk capk) ∧ x.Fits ∧ lenk ≤ capk ∧ capk ≤ 9223372036854775807 ∧ IsTmsA A w1 k ak lenk := by
  have hl := h.length
  have hi' : l[i]? = some l[i] := List.getElem?_eq_getElem (hl ▸ hi)
  obtain ⟨b, o, e, hb, q⟩ := (h.ext hx).place hi'
  generalize l[i] = t at *
  obtain ⟨x, k⟩ := t
  obtain ⟨ak, lenk, capk, g1, g2, g3, g4, g5, g6⟩ := q.val
  exact ⟨x, k, b, o, ak, lenk, capk, hi', e, hb, g1, g2, g3, g4, g5, g6⟩
theorem tmAt_new {A : Nat → Prop} {w' : World} {h : Hd} {l : List Tm} {a : Option Addr} {len cap : Nat} {b : Nat} (hc : ∀ i : Nat, w'.cell? ⟨b, i, none⟩ = (tcells h a len cap)[i]?) (hl : IsTmsA A w' l a len) (h1 : len ≤ cap) (h2 : cap ≤ 9223372036854775807) (hf : h.Fits) : TmAt A w' (.mk h l) b 0 := by
  simp only [TmAt]
  refine ⟨⟨by rw [hc]; rfl, by rw [hc]; rfl, by rw [hc]; rfl, by rw [hc]; rfl, by rw [hc]; rfl, by rw [hc]; rfl, by rw [hc]; rfl⟩, hf, a, len, cap, by rw [hc]; rfl, h1, h2, hl⟩
theorem IsTmsA.one {A : Nat → Prop} {w : World} {t : Tm} {b : Nat} (hb : ¬ A b) (h : TmAt A w t b 0) : IsTmsA A w [t] (some ⟨b, 0, none⟩) 1 :=
  IsTmsA.of_places [t] b 0 hb fun i t' hi => by
    cases i with
    | zero => simp at hi; subst hi; simpa using h
    | succ i => simp at hi
theorem IsTms.new {w : World} {h : Hd} {l : List Tm} {a : Option Addr} {len cap : Nat} (T : TypeId) (hl : IsTms w l a len) (h1 : len ≤ cap) (h2 : cap ≤ 9223372036854775807) (hf : h.Fits) :
    IsTms (w.alloc (.cells (tcells h a len cap) T)) [.mk h l] (some ⟨w.heap.size, 0, none⟩) 1 :=
  IsTmsA.one id (tmAt_new (fun i => World.cell?_alloc_new w _ _ _) (hl.ext ((Ext.refl _).alloc _)) h1 h2 hf)
end Go.Proofs.YtaioeailgknfjaaGreatDoor
namespace Go.Proofs.YtaioeailgknfjaaGreatDoor
open Go Go.RowKit Go.Sort
open Go.ChangeShapes Go.WideShapes
section
variable {H : Type} {enc : TypeId × Value → H} {w : World} {base : Nat} {spare : Nat → Bool} {held : Bool}
theorem cellsTm : Tryz.prog.cellsOf 28 = 8 := by kernel_rfl
theorem cellsHd : Tryz.prog.cellsOf 25 = 7 := by kernel_rfl
set_option maxRecDepth 8000 in
theorem isHd_trod (fuel : Nat) (cs : List Value) (x : DataW H × List MemPlace) (h : DataW.trod enc Tryz.prog w base spare held fuel 25 cs = some x) :
    ∃ d : Hd, d.Fits ∧ cs = [.int .u8 d.k, .int .u8 d.op, .int .i64 d.pos, .int .i64 d.n, .string d.name, .string d.arg, .string d.exn] := by
  obtain ⟨xs, n, hn, hx, hlen, hxl, hf⟩ := DataW.trod_struct Tryz.underlying25 h
  rw [cellsHd] at hlen
  match cs, hlen with
  | [c0, c1, c2, c3, c4, c5, c6], _ =>
    have f0 := hf 0 _ rfl
    have f1 := hf 1 _ rfl
    have f2 := hf 2 _ rfl
    have f3 := hf 3 _ rfl
    have f4 := hf 4 _ rfl
    have f5 := hf 5 _ rfl
    have f6 := hf 6 _ rfl
    rw [List.getElem?_eq_getElem (by rw [hxl]; decide)] at f0 f1 f2 f3 f4 f5 f6
    have k0 : Tryz.prog.cellsOf 5 = 1 := by kernel_rfl
    have k1 : Tryz.prog.cellsOf 3 = 1 := by kernel_rfl
    have k2 : Tryz.prog.cellsOf 2 = 1 := by kernel_rfl
    have k3 : Tryz.prog.cellsOf 9 = 1 := by kernel_rfl
    simp [k0, k1, k2, k3] at f0 f1 f2 f3 f4 f5 f6
    obtain ⟨k, e0, _, w0⟩ := DataW.trod_int Tryz.underlying5 f0
    obtain ⟨op, e1, _, w1⟩ := DataW.trod_int Tryz.underlying5 f1
    obtain ⟨pos, e2, _, w2⟩ := DataW.trod_int Tryz.underlying3 f2
    obtain ⟨m, e3, _, w3⟩ := DataW.trod_int Tryz.underlying2 f3
    obtain ⟨s4, e4, _, w4⟩ := DataW.trod_string Tryz.underlying9 f4
    obtain ⟨s5, e5, _, w5⟩ := DataW.trod_string Tryz.underlying9 f5
    obtain ⟨s6, e6, _, w6⟩ := DataW.trod_string Tryz.underlying9 f6
    simp at e0 e1 e2 e3 e4 e5 e6
    subst e0 e1 e2 e3 e4 e5 e6
    have b0 := bounds_u8 w0
    have b1 := bounds_u8 w1
    have b2 := bounds_i64 w2
    have b3 := bounds_i64 w3
    exact ⟨⟨k, op, pos, m, s4, s5, s6⟩, ⟨b0.1, b0.2, b1.1, b1.2, b2.1, b2.2, b3.1, b3.2, w4, w5, w6⟩, rfl⟩
set_option maxRecDepth 8000 in
theorem isTms_of (n : Nat) (ih : ∀ (cs : List Value) (x : DataW H × List MemPlace), DataW.trod enc Tryz.prog w base spare held n 28 cs = some x → ∃ t, IsTm w t (.agg cs.toArray))
    (v : Value) (x : DataW H × List MemPlace) (h : DataW.trod enc Tryz.prog w base spare held (n + 1) 26 [v] = some x) : ∃ l a len cap, v = .slice a len cap ∧ len ≤ cap ∧ cap ≤ maxLen ∧ IsTms w l a len := by
  rcases DataW.trod_slice Tryz.underlying26 h with ⟨h0, _⟩ | ⟨a, len, cap, elems, rest, n', hn, hcs, _, _, hl, hm, hlen, hel, _, _⟩
  · simp at h0
    subst h0
    exact ⟨[], none, 0, 0, rfl, Nat.le_refl _, by omega, IsTmsA.nil _⟩
  · obtain rfl : n = n' := by omega
    simp at hcs
    subst hcs
    have hg : ∀ i, i < len → ∃ t, ∃ cs : List Value, cs.length = 8 ∧ (∀ (j : Nat) (hj : j < cs.length), w.cell? ((a.add (i * 8)).add j) = some cs[j]) ∧ IsTm w t (.agg cs.toArray) := by
      intro i hi
      have he := hel i hi
      rw [cellsTm, List.getElem?_eq_getElem (by omega)] at he
      obtain ⟨cs, hcs, htr⟩ := Option.bind_eq_some_iff.1 he
      obtain ⟨_, hcl, hat⟩ := World.cells?_some hcs
      obtain ⟨t, ht⟩ := ih cs _ htr
      exact ⟨t, cs, hcl, fun j hj => (hat j (by omega)).trans (List.getElem?_eq_getElem hj), ht⟩
    obtain ⟨l, hll, hp⟩ := choose_list len hg
    refine ⟨l, some a, len, cap, rfl, hl, hm, ?_⟩
    subst hll
    cases l with
    | nil => exact IsTmsA.nil _
    | cons t0 l0 =>
      obtain ⟨b, o, sp⟩ := a
      obtain ⟨cs0, hl0, hat0, _⟩ := hp 0 t0 rfl
      have g0 := hat0 0 (by omega)
      have hsp := cell_spot g0
      simp [Addr.add] at hsp
      subst hsp
      refine IsTmsA.of_places (t0 :: l0) b o (fun h => h) fun i t hi => ?_
      obtain ⟨cs, hcl, hat, ht⟩ := hp i t hi
      obtain ⟨d, k⟩ := t
      obtain ⟨ak, lenk, capk, e, f, p1, p2, pl⟩ := ht
      have e : cs.toArray = tcells d ak lenk capk := by
        have e' := e
        unfold tval at e'
        exact Value.agg.inj e'
      have ecs : cs = (tcells d ak lenk capk).toList := by rw [← e]
      have hcell : ∀ (j : Nat) v, (tcells d ak lenk capk)[j]? = some v → w.cell? ⟨b, o + i * 8 + j, none⟩ = some v := by
        intro j v hv
        have hj : j < cs.length := by
          rcases Nat.lt_or_ge j cs.length with h | h
          · exact h
          · rw [← e, List.getElem?_toArray, List.getElem?_eq_none h] at hv; cases hv
        have hq := hat j hj
        rw [← e, List.getElem?_toArray, List.getElem?_eq_getElem hj] at hv
        cases hv
        rw [Addr.add_lit, Addr.add_lit] at hq
        exact hq
      simp only [TmAt]
      exact ⟨⟨hcell 0 _ rfl, hcell 1 _ rfl, hcell 2 _ rfl, hcell 3 _ rfl, hcell 4 _ rfl, hcell 5 _ rfl, hcell 6 _ rfl⟩, f, ak, lenk, capk, hcell 7 _ rfl, p1, p2, pl⟩
set_option maxRecDepth 8000 in
theorem isTm_trod (fuel : Nat) : ∀ (cs : List Value) (x : DataW H × List MemPlace), DataW.trod enc Tryz.prog w base spare held fuel 28 cs = some x → ∃ t, IsTm w t (.agg cs.toArray) := by
  induction fuel using Nat.strongRecOn with
  | _ fuel ih =>
    intro cs x h
    obtain ⟨xs, n, hn, hx, hlen, hxl, hf⟩ := DataW.trod_struct Tryz.underlying28 h
    rw [cellsTm] at hlen
    match cs, hlen with
    | [c0, c1, c2, c3, c4, c5, c6, c7], _ =>
      have f0 := hf 0 _ rfl
      have f1 := hf 1 _ rfl
      rw [List.getElem?_eq_getElem (by rw [hxl]; decide)] at f0 f1
      have k1 : Tryz.prog.cellsOf 26 = 1 := by kernel_rfl
      simp [cellsHd, k1] at f0 f1
      obtain ⟨d, hd, e⟩ := isHd_trod n _ _ f0
      simp at e
      obtain ⟨rfl, rfl, rfl, rfl, rfl, rfl, rfl⟩ := e
      cases n with
      | zero => simp [DataW.trod] at f1
      | succ n =>
        obtain ⟨l, a, len, cap, rfl, h1, h2, hl⟩ := isTms_of n (fun cs x h => ih n (by omega) cs x h) c7 _ f1
        exact ⟨.mk d l, IsTmA.mk_ hl h1 h2 hd⟩
end
end Go.Proofs.YtaioeailgknfjaaGreatDoor
namespace Go.Proofs.YtaioeailgknfjaaGreatDoor
open Go Go.RowKit Go.Sort
theorem grown_ext {w w' : World} (h : Ext w w') (row : Option Nat) : w.grownBy w' row := ⟨Below.os h, Below.tape h, Below.output h, h.size, fun k hk _ => Below.block h k hk⟩
theorem owns_ext {w w' : World} (hx : Ext w w') {base : Nat} {e : TypeId} {size n : Nat} {v : Value} {xs : List Value} (h : w.ownsRow base e size v n xs) : w'.ownsRow base e size v n xs := by
  cases hv : v.ownBlock with
  | none => exact h.kept (grown_ext hx (some 0)) (.inl hv)
  | some k => exact h.kept (grown_ext hx none) (.inr (by rw [hv]; exact fun e => by cases e))
theorem ext_grown {w w' : World} {row : Option Nat} (h : w.grownBy w' row) {w0 : World} (h0 : Ext w0 w) (hr : ∀ k, row = some k → w0.heap.size ≤ k) : Ext w0 w' :=
  ⟨h.os.trans (Below.os h0), h.tape.trans (Below.tape h0), h.output.trans (Below.output h0), Nat.le_trans h0.size h.size, fun k hk =>
    (h.block k (Nat.lt_of_lt_of_le hk h0.size) (fun e => by have := hr k e.symm; omega)).trans (Below.block h0 k hk)⟩
theorem owns_base {w : World} {base base' : Nat} {e : TypeId} {size n : Nat} {v : Value} {xs : List Value} (hb : base' ≤ base) (h : w.ownsRow base e size v n xs) : w.ownsRow base' e size v n xs :=
  ⟨h.1, h.2.imp id fun ⟨g, cap, cur, e, hg, r⟩ => ⟨g, cap, cur, e, Nat.le_trans hb hg, r⟩⟩
theorem owns_open {w : World} {base : Nat} {e : TypeId} {size n : Nat} {v : Value} {xs : List Value} (h : w.ownsRow base e size v n xs) (hn : 0 < n) : ∃ g cap, v = .slice (some ⟨g, 0, none⟩) n cap ∧ base ≤ g ∧ g < w.heap.size ∧ n ≤ cap ∧ cap ≤ maxLen ∧ ∀ (j : Nat) u, xs[j]? = some u → w.cell? ⟨g, j, none⟩ = some u := by
  rcases h.2 with ⟨_, e0⟩ | ⟨g, cap, cur, rfl, hg, hh, h1, h2, h3, h4⟩
  · omega
  · refine ⟨g, cap, rfl, hg, (h.lt g rfl).2, h1, h2, fun j u hu => ?_⟩
    have := h.cells (g := g) rfl j u hu
    simpa [Addr.add_lit] using this
theorem owns_new (w : World) (base : Nat) (e : TypeId) (size n : Nat) (xs : List Value) (hb : base ≤ w.heap.size) (hn : n ≤ maxLen) (hl : xs.length = n * size) :
    (w.alloc (.cells xs.toArray e)).ownsRow base e size (.slice (some ⟨w.heap.size, 0, none⟩) n n) n xs :=
  ⟨hl, .inr ⟨w.heap.size, n, xs.toArray, rfl, hb, heap_alloc_new w _, Nat.le_refl _, hn, by simpa using hl, by rw [← hl]; simp⟩⟩
section
variable {P : Program}
theorem append_where (w : World) (base : Nat) (t ty e : TypeId) (i : TypeInfo) (z : Value) (size bytes : Nat) (ht : P.underlying t = some (.slice e)) (hi : P.info? e = some i) (hz : i.zero = some z)
    (hsize : i.size = size) (hby : i.bytes = bytes) (hzs : z.cells.size = size) (hsz : 0 < size)
    (v : Value) (n : Nat) (xs : List Value) (hown : w.ownsRow base e size v n xs)
    (a : Addr) (m c : Nat) (news : List Value) (hl : news.length = m * size) (hnews : ∀ j u, news[j]? = some u → w.cell? (a.add j) = some u) (h1 : ∀ u ∈ news, u.oneCell' = true)
    (h63 : n + m ≤ maxLen) (hbytes : (n + m) * bytes ≤ 140737488355328) {v' : Value} {w' : World} (hr : (Builtin.append_ #[t, t] ty #[v, .slice (some a) m c]).run P w = .ok v' w') :
    v'.ownBlock = v.ownBlock ∨ ∀ k, v'.ownBlock = some k → w.heap.size ≤ k := by
  have h63' := h63
  simp only [maxLen] at h63'
  rcases hown.2 with ⟨rfl, rfl⟩ | ⟨g, cap, cur, rfl, hbg, hg, hnc, hcm, hcs, htake⟩
  · have hx : xs = [] := List.eq_nil_of_length_eq_zero (by simpa using hown.1)
    subst hx
    obtain ⟨v2, w2, hr2, ho, _⟩ := run_append_own (P := P) w w.heap.size t ty e i z size bytes ht hi hz hsize hby hzs hsz _ 0 [] (World.ownsRow_nil w _ e size) a m c news hl hnews h1 h63 hbytes (Nat.le_refl _)
    rw [hr] at hr2
    cases hr2
    exact .inr fun k hk => (ho.lt k hk).1
  · by_cases hroom : n + m ≤ cap
    · have hfit : n * i.size + news.length ≤ cur.size := by rw [hl, hcs, hsize, ← Nat.add_mul]; exact Nat.mul_le_mul_right _ hroom
      have hr2 := run_append_room (P := P) w t ty e i ht hi g n cap cur hg a m c news (by rw [hl, hsize]) hnews h1 hroom hfit
      rw [hr] at hr2
      cases hr2
      exact .inl rfl
    · have holds : ∀ j u, xs[j]? = some u → w.cell? ((⟨g, 0, none⟩ : Addr).add j) = some u := hown.cells (g := g) rfl
      have hr2 := run_append_grow (P := P) w t ty e i z ht hi hz ⟨g, 0, none⟩ n cap xs (by rw [hown.1, hsize]) holds a m c news (by rw [hl, hsize]) hnews (by omega) (by omega) (growslice_fits (by omega) (by rw [hby]; exact hbytes))
      rw [hr] at hr2
      cases hr2
      exact .inr fun k hk => by simp [Value.ownBlock] at hk; omega
theorem wpList_append_mine {w : World} {ops : Array Oper} {rest : List Oper} {o : Oper} {a : Act} {Q : Exit → Act → World → Prop} (hgd : o.guard = none) (s x : Operand) (t : TypeId)
    (ho : o.op = .call { callee := .builtin .append, args := #[s, x], argTypes := #[t, t] })
    (base : Nat) (e : TypeId) (i : TypeInfo) (z : Value) (size bytes : Nat) (ht : P.underlying t = some (.slice e)) (hi : P.info? e = some i) (hz : i.zero = some z)
    (hsize : i.size = size) (hby : i.bytes = bytes) (hzs : z.cells.size = size) (hsz : 0 < size)
    (v : Value) (n : Nat) (xs : List Value) (hs : a.eval s = v) (hown : w.ownsRow base e size v n xs)
    (ad : Addr) (m c : Nat) (news : List Value) (hx : a.eval x = .slice (some ad) m c) (hl : news.length = m * size) (hnews : ∀ j u, news[j]? = some u → w.cell? (ad.add j) = some u) (h1 : ∀ u ∈ news, u.oneCell' = true)
    (h63 : n + m ≤ maxLen) (hbytes : (n + m) * bytes ≤ 140737488355328) (hbase : base ≤ w.heap.size)
    (h : ∀ v' w', w'.ownsRow base e size v' (n + m) (xs ++ news) → w.grownBy w' v.ownBlock → (v'.ownBlock = v.ownBlock ∨ ∀ k, v'.ownBlock = some k → w.heap.size ≤ k) → wpList P ops Q rest (a.put o.dst v') w') : wpList P ops Q (o :: rest) a w := by
  refine wpList_plain hgd fun K hK => ?_
  obtain ⟨v', w', hr, h2, h3, h4⟩ := run_append_own (P := P) w base t o.type e i z size bytes ht hi hz hsize hby hzs hsz v n xs hown ad m c news hl hnews h1 h63 hbytes hbase
  have h5 := append_where w base t o.type e i z size bytes ht hi hz hsize hby hzs hsz v n xs hown ad m c news hl hnews h1 h63 hbytes hr
  unfold Oper.wp execOp
  simp only [ho, resolve, invoke, builtin, Sem.run_bind, Sem.run_pure, Result.andThen_ok, List.map_toArray, List.map_cons, List.map_nil, hs, hx, hr]
  exact hK _ _ (h v' w' h2 h3 h5)
end
section
variable {P : Program}
end
def IsFlat (w : World) (k : Nat) (l : List (List Value)) (a : Option Addr) (len : Nat) : Prop :=
  len = l.length ∧ (∀ cs ∈ l, cs.length = k) ∧ ∀ (i : Nat) cs, l[i]? = some cs → ∃ b o, a = some ⟨b, o, none⟩ ∧ ∀ (j : Nat) v, cs[j]? = some v → w.cell? ⟨b, o + i * k + j, none⟩ = some v
theorem IsFlat.ext {w w' : World} (hx : Ext w w') {k : Nat} {l : List (List Value)} {a : Option Addr} {len : Nat} (h : IsFlat w k l a len) : IsFlat w' k l a len :=
  ⟨h.1, h.2.1, fun i cs hi => let ⟨b, o, e, q⟩ := h.2.2 i cs hi; ⟨b, o, e, fun j v hj => hx.cell (q j v hj)⟩⟩
theorem IsFlat.nil (w : World) (k : Nat) (a : Option Addr) : IsFlat w k [] a 0 := ⟨rfl, by simp, fun i v h => by simp at h⟩
theorem IsFlat.at_ {w : World} {k : Nat} {l : List (List Value)} {a : Option Addr} {len : Nat} (h : IsFlat w k l a len) {i : Nat} {cs : List Value} (hi : l[i]? = some cs) :
    ∃ b o, a = some ⟨b, o, none⟩ ∧ ∀ (j : Nat) v, cs[j]? = some v → w.cell? ⟨b, o + i * k + j, none⟩ = some v := h.2.2 i cs hi
theorem flatten_at {k : Nat} (l : List (List Value)) (hl : ∀ cs ∈ l, cs.length = k) (i j : Nat) (hj : j < k) : (l.flatten)[i * k + j]? = (l[i]?).bind fun cs => cs[j]? := by
  induction l generalizing i with
  | nil => simp
  | cons c l ih =>
    have hc := hl c (by simp)
    rw [List.flatten_cons]
    cases i with
    | zero =>
      rw [List.getElem?_append_left (by omega)]
      simp
    | succ i =>
      rw [List.getElem?_append_right (by rw [hc, Nat.succ_mul]; omega), hc, show (i + 1) * k + j - k = i * k + j from by rw [Nat.succ_mul]; omega, ih (fun cs h => hl cs (by simp [h]))]
      simp
theorem flatten_length {k : Nat} (l : List (List Value)) (hl : ∀ cs ∈ l, cs.length = k) : l.flatten.length = l.length * k := by
  induction l with
  | nil => simp
  | cons c l ih =>
    rw [List.flatten_cons, List.length_append, hl c (by simp), ih (fun cs h => hl cs (by simp [h])), List.length_cons, Nat.succ_mul]
    omega
theorem owns_flat {w : World} {base : Nat} {e : TypeId} {k n : Nat} {v : Value} {l : List (List Value)} (h : w.ownsRow base e k v n l.flatten) (hk : 0 < k) (hl : ∀ cs ∈ l, cs.length = k) :
    ∃ a cap, v = .slice a n cap ∧ n ≤ cap ∧ cap ≤ 9223372036854775807 ∧ IsFlat w k l a n := by
  have hn : n = l.length := by
    have h1 := h.1
    rw [flatten_length l hl] at h1
    exact (Nat.eq_of_mul_eq_mul_right hk h1).symm
  rcases h.2 with ⟨rfl, e0⟩ | ⟨g, cap, cur, rfl, hg, hh, h1, h2, h3, h4⟩
  · subst e0
    have : l = [] := List.eq_nil_of_length_eq_zero hn.symm
    subst this
    exact ⟨none, 0, rfl, Nat.le_refl _, by omega, IsFlat.nil _ _ _⟩
  · refine ⟨_, cap, rfl, h1, h2, hn, hl, fun i cs hi => ⟨g, 0, rfl, fun j u hu => ?_⟩⟩
    have hj : j < k := by
      have := hl cs (List.mem_of_getElem? hi)
      rcases Nat.lt_or_ge j cs.length with hh | hh
      · omega
      · rw [List.getElem?_eq_none hh] at hu; cases hu
    have := h.cells (g := g) rfl (i * k + j) u (by rw [flatten_at l hl i j hj, hi]; exact hu)
    simpa [Addr.add_lit, Nat.add_assoc] using this
end Go.Proofs.YtaioeailgknfjaaGreatDoor
namespace Go.Proofs.YtaioeailgknfjaaGreatDoor
open Go
def isD (c : UInt8) : Bool := decide (48 ≤ c.toNat) && decide (c.toNat ≤ 57)
def stepN (n : Nat) (c : UInt8) : Nat := 10 * n + (c.toNat - 48)
theorem stepN_eq (n : Nat) (c : UInt8) : stepN n c = 10 * n + (c.toNat - 48) := by unfold stepN; rfl
def valN (n : Nat) (l : List UInt8) : Nat := l.foldl stepN n
theorem valN_nil (n : Nat) : valN n [] = n := rfl
theorem valN_cons (n : Nat) (c : UInt8) (r : List UInt8) : valN n (c :: r) = valN (10 * n + (c.toNat - 48)) r := by
  unfold valN
  rw [List.foldl_cons, stepN_eq]
theorem valN_append (l r : List UInt8) (n : Nat) : valN n (l ++ r) = valN (valN n l) r := by
  induction l generalizing n with
  | nil => rfl
  | cons c l ih => exact ih _
theorem valN_ge (l : List UInt8) (n : Nat) : n * 10 ^ l.length ≤ valN n l := by
  induction l generalizing n with
  | nil => simp [valN_nil]
  | cons c l ih =>
    have h := ih (10 * n + (c.toNat - 48))
    simp only [valN_nil, valN_cons, List.length_cons, Nat.pow_succ]
    refine Nat.le_trans ?_ h
    generalize 10 ^ l.length = p
    have e : n * (p * 10) = (10 * n) * p := by rw [Nat.mul_comm 10 n, Nat.mul_assoc, Nat.mul_comm p 10]
    rw [e]
    exact Nat.mul_le_mul_right _ (by omega)
theorem valN_le (l : List UInt8) (n : Nat) : n ≤ valN n l :=
  Nat.le_trans (Nat.le_mul_of_pos_right n (Nat.pow_pos (by omega))) (valN_ge l n)
def okN (l : List UInt8) : Bool := !l.isEmpty && (l.all isD && (decide (valN 0 l ≤ 2147483647) && (l.length == 1 || l.head? != some 48)))
theorem isD_iff (c : UInt8) : isD c = true ↔ 48 ≤ c.toNat ∧ c.toNat ≤ 57 := by simp [isD]
theorem ofNat_digit {c : UInt8} (h : isD c = true) : UInt8.ofNat (48 + (c.toNat - 48)) = c := by
  rw [isD_iff] at h
  rw [show 48 + (c.toNat - 48) = c.toNat from by omega]
  exact UInt8.ofNat_toNat
theorem val_head_pos {c : UInt8} {r : List UInt8} (h : isD c = true) (h0 : c ≠ 48) : 1 ≤ valN 0 (c :: r) := by
  rw [isD_iff] at h
  have hc : 49 ≤ c.toNat := by
    rcases Nat.lt_or_ge 48 c.toNat with h1 | h1
    · omega
    · exfalso; apply h0
      have : c.toNat = 48 := by omega
      exact UInt8.toNat_inj.1 (by rw [this]; rfl)
  have := valN_le r (10 * 0 + (c.toNat - 48))
  simp only [valN_nil, valN_cons]
  omega
theorem decDigits_val (l : List UInt8) (h : l.all isD = true) (hne : l ≠ []) (h0 : l.length = 1 ∨ l.head? ≠ some 48) : Lib.decDigits (valN 0 l) = l := by
  generalize hn : l.length = n
  induction n generalizing l with
  | zero => exact absurd (List.eq_nil_of_length_eq_zero hn) hne
  | succ n ih =>
    rcases List.eq_nil_or_concat l with rfl | ⟨l', d, rfl⟩
    · exact absurd rfl hne
    rw [List.concat_eq_append] at *
    rw [List.all_append, Bool.and_eq_true] at h
    have hd : isD d = true := by simpa using h.2
    have hd' := (isD_iff d).1 hd
    rw [valN_append]
    simp only [valN_nil, valN_cons]
    cases l' with
    | nil =>
      simp only [valN_nil, valN_cons, List.nil_append]
      rw [Lib.decDigits_one (by omega), show 10 * 0 + (d.toNat - 48) = d.toNat - 48 from by omega, ofNat_digit hd]
    | cons c r =>
      have hc : isD c = true := by
        have := h.1
        rw [List.all_cons, Bool.and_eq_true] at this
        exact this.1
      have hc0 : c ≠ 48 := by
        rcases h0 with h0 | h0
        · simp at h0
        · simpa using h0
      have hp := val_head_pos (r := r) hc hc0
      have hih := ih (c :: r) h.1 (by simp) (.inr (by simpa using hc0)) (by simpa using hn)
      generalize valN 0 (c :: r) = v at *
      have hbig : ¬ 10 * v + (d.toNat - 48) < 10 := by omega
      rw [Lib.decDigits, dif_neg hbig, show (10 * v + (d.toNat - 48)) / 10 = v from by omega, show (10 * v + (d.toNat - 48)) % 10 = d.toNat - 48 from by omega, hih, ofNat_digit hd]
theorem decDigits_ne (n : Nat) : Lib.decDigits n ≠ [] := by
  intro h
  have := Lib.decDigits_length n
  rw [h] at this
  have := Lib.nDigits_pos n
  simp at *
  omega
theorem decDigits_head (n : Nat) : (Lib.decDigits n).head? = some 48 → n = 0 := by
  induction n using Nat.strongRecOn with
  | _ n ih =>
    intro h
    by_cases h10 : n < 10
    · rw [Lib.decDigits_one h10] at h
      rw [List.head?_cons] at h
      have : ∀ i : Fin 10, UInt8.ofNat (48 + i.val) = 48 → i.val = 0 := by decide +kernel
      exact this ⟨n, h10⟩ (Option.some.inj h)
    · rw [Lib.decDigits, dif_neg h10] at h
      have hne := decDigits_ne (n / 10)
      have h' : (Lib.decDigits (n / 10)).head? = some 48 := by
        cases hd : Lib.decDigits (n / 10) with
        | nil => exact absurd hd hne
        | cons c r => rw [hd] at h; simpa using h
      have := ih (n / 10) (by omega) h'
      omega
theorem digit_ofNat (i : Nat) (h : i < 10) : isD (UInt8.ofNat (48 + i)) = true ∧ (UInt8.ofNat (48 + i)).toNat = 48 + i := by
  have : ∀ i : Fin 10, isD (UInt8.ofNat (48 + i.val)) = true ∧ (UInt8.ofNat (48 + i.val)).toNat = 48 + i.val := by decide +kernel
  exact this ⟨i, h⟩
theorem decDigits_back (n : Nat) : (Lib.decDigits n).all isD = true ∧ valN 0 (Lib.decDigits n) = n := by
  induction n using Nat.strongRecOn with
  | _ n ih =>
    by_cases h10 : n < 10
    · have := digit_ofNat n h10
      rw [Lib.decDigits_one h10]
      refine ⟨by rw [List.all_cons, this.1]; rfl, ?_⟩
      simp only [valN_nil, valN_cons, this.2]
      omega
    · have hm := digit_ofNat (n % 10) (by omega)
      obtain ⟨i1, i2⟩ := ih (n / 10) (by omega)
      rw [Lib.decDigits, dif_neg h10]
      refine ⟨by rw [List.all_append, i1, List.all_cons, hm.1]; rfl, ?_⟩
      rw [valN_append, i2]
      simp only [valN_nil, valN_cons, hm.2]
      omega
theorem okN_digits (n : Nat) : okN (Lib.decDigits n) = decide (n ≤ 2147483647) := by
  obtain ⟨h1, h2⟩ := decDigits_back n
  have hne := decDigits_ne n
  have h4 : ((Lib.decDigits n).length == 1 || (Lib.decDigits n).head? != some 48) = true := by
    by_cases hh : (Lib.decDigits n).head? = some 48
    · have := decDigits_head n hh
      subst this
      rw [Lib.decDigits_one (by omega)]
      rfl
    · simp [hh]
  unfold okN
  rw [h1, h2, h4]
  have : (Lib.decDigits n).isEmpty = false := by simpa using hne
  rw [this]
  simp
theorem okN_long {l : List UInt8} (h : 10 < l.length) : okN l = false := by
  rw [Bool.eq_false_iff]
  intro hk
  unfold okN at hk
  simp only [Bool.and_eq_true, decide_eq_true_eq, Bool.or_eq_true, beq_iff_eq, bne_iff_ne] at hk
  obtain ⟨h1, h2, h3, h4⟩ := hk
  rcases h4 with h4 | h4
  · omega
  cases l with
  | nil => simp at h
  | cons c r =>
    rw [List.all_cons, Bool.and_eq_true] at h2
    have hc := (isD_iff c).1 h2.1
    have hc0 : c ≠ 48 := by simpa using h4
    have hp : 1 ≤ c.toNat - 48 := by
      have := val_head_pos (r := []) h2.1 hc0
      simp only [valN_nil, valN_cons] at this
      omega
    have := valN_ge r (10 * 0 + (c.toNat - 48))
    simp only [valN_nil, valN_cons] at h3
    simp only [List.length_cons] at h
    have h10 : 10 ^ 10 ≤ 10 ^ r.length := Nat.pow_le_pow_right (by omega) (by omega)
    have : 1 * 10 ^ r.length ≤ (10 * 0 + (c.toNat - 48)) * 10 ^ r.length := Nat.mul_le_mul_right _ (by omega)
    have e : (10 : Nat) ^ 10 = 10000000000 := by decide
    omega
theorem parseUintM_digits (M : Nat) (l : List UInt8) (acc : Nat) (h : l.all isD = true) (hv : valN acc l ≤ M) (hM : M ≤ 18446744073709551615) (hb : 10 * valN acc l ≤ 18446744073709551615) : Lib.parseUintM M acc l = .ok (valN acc l) := by
  induction l generalizing acc with
  | nil => rfl
  | cons c r ih =>
    rw [List.all_cons, Bool.and_eq_true] at h
    have hc := (isD_iff c).1 h.1
    have hle := valN_le r (10 * acc + (c.toNat - 48))
    simp only [valN_nil, valN_cons] at hv hb ⊢
    unfold Lib.parseUintM
    rw [if_pos hc, if_neg (by omega), if_neg (by omega), Nat.mul_comm acc 10]
    exact ih _ h.2 hv hb
theorem valN_small (l : List UInt8) (n : Nat) (h : l.all isD = true) : valN n l < (n + 1) * 10 ^ l.length := by
  induction l generalizing n with
  | nil => simp [valN_nil]
  | cons c r ih =>
    rw [List.all_cons, Bool.and_eq_true] at h
    have hc := (isD_iff c).1 h.1
    have := ih (10 * n + (c.toNat - 48)) h.2
    simp only [valN_nil, valN_cons, List.length_cons, Nat.pow_succ]
    refine Nat.lt_of_lt_of_le this ?_
    generalize 10 ^ r.length = p
    have e : (n + 1) * (p * 10) = (10 * (n + 1)) * p := by rw [Nat.mul_comm 10 (n + 1), Nat.mul_assoc, Nat.mul_comm p 10]
    rw [e]
    exact Nat.mul_le_mul_right _ (by omega)
theorem parseInt_digits (l : List UInt8) (h : l.all isD = true) (hne : l ≠ []) (hl : l.length ≤ 10) : Lib.parseIntB 64 l = .ok (valN 0 l : Nat) := by
  have hs := valN_small l 0 h
  have h10 : 10 ^ l.length ≤ 10 ^ 10 := Nat.pow_le_pow_right (by omega) hl
  have e : (10 : Nat) ^ 10 = 10000000000 := by decide
  have hv : valN 0 l < 10000000000 := by omega
  cases l with
  | nil => exact absurd rfl hne
  | cons c r =>
    have hc : 48 ≤ c.toNat ∧ c.toNat ≤ 57 := by
      rw [List.all_cons, Bool.and_eq_true] at h
      exact (isD_iff c).1 h.1
    rw [Lib.parseIntB_plain 64 c r (by omega) (by omega)]
    unfold Lib.parseUintB
    rw [if_neg (by simp), parseUintM_digits _ _ _ h (by have : (2 : Nat) ^ 64 - 1 = 18446744073709551615 := by decide
                                                        omega) (by decide) (by omega)]
    unfold Lib.signlessC
    simp only
    rw [if_neg (by have : (2 : Nat) ^ (64 - 1) = 9223372036854775808 := by decide
                   omega)]
def roadN : List UInt8 → Nat → Option Nat
  | [], n => some n
  | c :: r, n => if isD c && decide (n ≤ 2147483647) then roadN r (10 * n + (c.toNat - 48)) else none
theorem roadN_some (l : List UInt8) (n v : Nat) (h : roadN l n = some v) : l.all isD = true ∧ v = valN n l := by
  induction l generalizing n with
  | nil => simp [roadN] at h; exact ⟨rfl, h.symm⟩
  | cons c r ih =>
    unfold roadN at h
    split at h
    · rename_i hc
      rw [Bool.and_eq_true] at hc
      obtain ⟨h1, h2⟩ := ih _ h
      exact ⟨by rw [List.all_cons, hc.1, h1]; rfl, h2⟩
    · cases h
theorem roadN_ok (l : List UInt8) (n : Nat) (h : l.all isD = true) (hv : valN n l ≤ 2147483647) : roadN l n = some (valN n l) := by
  induction l generalizing n with
  | nil => rfl
  | cons c r ih =>
    rw [List.all_cons, Bool.and_eq_true] at h
    have h1 := valN_le r (10 * n + (c.toNat - 48))
    simp only [valN_nil, valN_cons] at hv ⊢
    unfold roadN
    rw [if_pos (by rw [h.1]; simp; omega)]
    exact ih _ h.2 hv
theorem road_ok (l : List UInt8) (v : Nat) (h : roadN l 0 = some v) : (!l.isEmpty && (decide (v ≤ 2147483647) && decide (Lib.decDigits v = l))) = okN l := by
  obtain ⟨h1, rfl⟩ := roadN_some l 0 v h
  unfold okN
  rw [h1]
  by_cases hne : l = []
  · subst hne; rfl
  have he : l.isEmpty = false := by simpa using hne
  rw [he]
  simp only [Bool.not_false, Bool.true_and]
  congr 1
  by_cases h4 : l.length = 1 ∨ l.head? ≠ some 48
  · rw [decide_eq_true (decDigits_val l h1 hne h4)]
    rcases h4 with h4 | h4 <;> simp [h4]
  · have : ¬ Lib.decDigits (valN 0 l) = l := by
      intro e
      apply h4
      by_cases hh : l.head? = some 48
      · left
        rw [← e] at hh
        have := decDigits_head _ hh
        rw [← e, this, Lib.decDigits_one (by omega)]
        rfl
      · exact .inr hh
    rw [decide_eq_false this]
    simp only [not_or, Classical.not_not] at h4
    simp [h4.1, h4.2]
theorem road_none (l : List UInt8) (h : roadN l 0 = none) : okN l = false := by
  rw [Bool.eq_false_iff]
  intro hk
  unfold okN at hk
  simp only [Bool.and_eq_true, decide_eq_true_eq] at hk
  rw [roadN_ok l 0 hk.2.1 hk.2.2.1] at h
  cases h
theorem cls_digit (c : UInt8) : ([2] : List Int).contains (cls ((c.toNat : Nat) : Int)) = isD c := by
  have : ∀ i : Fin 256, ([2] : List Int).contains (cls ((i.val : Nat) : Int)) = (decide (48 ≤ i.val) && decide (i.val ≤ 57)) := by decide +kernel
  exact this ⟨c.toNat, by have := c.toNat_lt; omega⟩
theorem span_digits (s : ByteArray) : (spanOf [2] (il s) = s.size) ↔ s.data.toList.all isD = true := by
  rw [← il_length, spanOf_all, List.all_eq_true]
  unfold il
  constructor
  · intro h c hc
    have := h ((c.toNat : Nat) : Int) (List.mem_map_of_mem hc)
    rw [cls_digit] at this
    exact this
  · intro h c hc
    obtain ⟨b, hb, rfl⟩ := List.mem_map.1 hc
    rw [cls_digit]
    exact h b hb
def numV (s : ByteArray) : Int := if okN s.data.toList then (valN 0 s.data.toList : Nat) else 0
def numB (s : ByteArray) : Bool := okN s.data.toList
structure Tok where
  k : Int
  text : ByteArray
  pos : Nat
def clsU (c : UInt8) : Int := cls ((c.toNat : Nat) : Int)
def kindOf (s : ByteArray) : Int := if numB s then 1 else if 0 < kwd s then 4 else if isName s then 2 else if isExn s then 3 else 0
def spanU (cl : List Int) (l : List UInt8) : Nat := (l.takeWhile fun c => cl.contains (clsU c)).length
theorem spanU_le (cl : List Int) (l : List UInt8) : spanU cl l ≤ l.length := (List.takeWhile_sublist _).length_le
theorem spanU_pos {cl : List Int} {c : UInt8} {r : List UInt8} (h : cl.contains (clsU c) = true) : spanU cl (c :: r) = spanU cl r + 1 := by
  unfold spanU
  rw [List.takeWhile_cons_of_pos (by exact h)]
  rfl
theorem spanU_zero {cl : List Int} {c : UInt8} {r : List UInt8} (h : cl.contains (clsU c) = false) : spanU cl (c :: r) = 0 := by
  unfold spanU
  rw [List.takeWhile_cons_of_neg (by rw [h]; simp)]
  rfl
theorem spanU_nil (cl : List Int) : spanU cl [] = 0 := rfl
def signOf (l : List UInt8) : Nat := if l.take 2 = [58, 61] ∨ l.take 2 = [61, 62] then 2 else if l.head? = some 58 ∨ l.head? = some 62 then 0 else 1
def tokAt (l : List UInt8) : Option (Nat × Int) := match l with
  | [] => none
  | c :: r =>
    if clsU c = 2 then (if numB (bs ((c :: r).take (spanU [2] (c :: r)))) then some (spanU [2] (c :: r), 1) else none)
    else if clsU c = 3 ∨ clsU c = 4 then
      (if 0 < kwd (bs ((c :: r).take (spanU [2, 3, 4] (c :: r)))) then some (spanU [2, 3, 4] (c :: r), 4) else if isName (bs ((c :: r).take (spanU [2, 3, 4] (c :: r)))) then some (spanU [2, 3, 4] (c :: r), 2)
        else if isExn (bs ((c :: r).take (spanU [2, 3, 4] (c :: r)))) then some (spanU [2, 3, 4] (c :: r), 3) else none)
    else if clsU c = 5 then (if signOf (c :: r) = 0 then none else some (signOf (c :: r), 5)) else none
theorem signOf_le {c : UInt8} {r : List UInt8} : signOf (c :: r) ≤ (c :: r).length := by
  unfold signOf
  split
  · rename_i h
    rcases h with h | h
    · have := congrArg List.length h; simp at this ⊢; omega
    · have := congrArg List.length h; simp at this ⊢; omega
  · split <;> simp
theorem tokAt_bd {l : List UInt8} {n : Nat} {k : Int} (h : tokAt l = some (n, k)) : 0 < n ∧ n ≤ l.length ∧ 1 ≤ k ∧ k ≤ 5 := by
  cases l with
  | nil => cases h
  | cons c r =>
    unfold tokAt at h
    simp only at h
    by_cases h2 : clsU c = 2
    · rw [if_pos h2] at h
      split at h
      · cases h
        exact ⟨by rw [spanU_pos (by rw [h2]; rfl)]; omega, spanU_le _ _, by omega, by omega⟩
      · cases h
    rw [if_neg h2] at h
    by_cases h3 : clsU c = 3 ∨ clsU c = 4
    · rw [if_pos h3] at h
      have hp : 0 < spanU [2, 3, 4] (c :: r) := by
        rw [spanU_pos (by rcases h3 with h3 | h3 <;> rw [h3] <;> rfl)]
        omega
      split at h
      · cases h; exact ⟨hp, spanU_le _ _, by omega, by omega⟩
      split at h
      · cases h; exact ⟨hp, spanU_le _ _, by omega, by omega⟩
      split at h
      · cases h; exact ⟨hp, spanU_le _ _, by omega, by omega⟩
      · cases h
    rw [if_neg h3] at h
    by_cases h5 : clsU c = 5
    · rw [if_pos h5] at h
      split at h
      · cases h
      · cases h; exact ⟨by omega, signOf_le, by omega, by omega⟩
    · rw [if_neg h5] at h; cases h
def lexF : Nat → Nat → List UInt8 → Except Nat (List Tok)
  | 0, p, _ => .ok [⟨6, ByteArray.empty, p⟩]
  | _ + 1, p, [] => .ok [⟨6, ByteArray.empty, p⟩]
  | f + 1, p, c :: r => if clsU c = 1 then lexF f (p + 1) r else match tokAt (c :: r) with
    | none => .error p
    | some (n, k) => (lexF f (p + n) ((c :: r).drop n)).map fun o => ⟨k, bs ((c :: r).take n), p⟩ :: o
theorem lexF_fuel (f : Nat) : ∀ (g p : Nat) (l : List UInt8), l.length ≤ f → l.length ≤ g → lexF f p l = lexF g p l := by
  induction f with
  | zero =>
    intro g p l hf hg
    have : l = [] := List.eq_nil_of_length_eq_zero (by omega)
    subst this
    cases g <;> rfl
  | succ f ih =>
    intro g p l hf hg
    cases l with
    | nil => cases g <;> rfl
    | cons c r =>
      cases g with
      | zero => simp at hg
      | succ g =>
        simp only [List.length_cons] at hf hg
        unfold lexF
        by_cases h1 : clsU c = 1
        · rw [if_pos h1, if_pos h1]
          exact ih g _ r (by omega) (by omega)
        · rw [if_neg h1, if_neg h1]
          cases ht : tokAt (c :: r) with
          | none => rfl
          | some nk =>
            obtain ⟨n, k⟩ := nk
            have hb := tokAt_bd ht
            simp only [List.length_cons] at hb
            simp only
            rw [ih g (p + n) ((c :: r).drop n) (by simp; omega) (by simp; omega)]
def lexL (p : Nat) (l : List UInt8) : Except Nat (List Tok) := lexF l.length p l
theorem lexL_nil (p : Nat) : lexL p [] = .ok [⟨6, ByteArray.empty, p⟩] := rfl
theorem lexL_blank {c : UInt8} (h : clsU c = 1) (p : Nat) (r : List UInt8) : lexL p (c :: r) = lexL (p + 1) r := by
  unfold lexL
  rw [List.length_cons]
  conv => lhs; unfold lexF
  rw [if_pos h]
theorem lexL_none {c : UInt8} (h : clsU c ≠ 1) (p : Nat) {r : List UInt8} (ht : tokAt (c :: r) = none) : lexL p (c :: r) = .error p := by
  unfold lexL
  rw [List.length_cons]
  conv => lhs; unfold lexF
  rw [if_neg h, ht]
theorem lexL_tok {c : UInt8} (h : clsU c ≠ 1) (p : Nat) {r : List UInt8} {n : Nat} {k : Int} (ht : tokAt (c :: r) = some (n, k)) :
    lexL p (c :: r) = (lexL (p + n) ((c :: r).drop n)).map fun o => ⟨k, bs ((c :: r).take n), p⟩ :: o := by
  have hb := tokAt_bd ht
  simp only [List.length_cons] at hb
  unfold lexL
  rw [List.length_cons]
  conv => lhs; unfold lexF
  rw [if_neg h, ht]
  simp only
  rw [lexF_fuel r.length ((c :: r).drop n).length (p + n) ((c :: r).drop n) (by simp; omega) (by simp)]
def ahead (o : List Tok) (r : Except Nat (List Tok)) : Except Nat (List Tok) := r.map fun l => o ++ l
theorem ahead_nil (r : Except Nat (List Tok)) : ahead [] r = r := by cases r <;> rfl
theorem ahead_cons (o : List Tok) (t : Tok) (r : Except Nat (List Tok)) : ahead o (r.map fun l => t :: l) = ahead (o ++ [t]) r := by
  cases r with
  | error e => rfl
  | ok l => simp [ahead, Except.map]
theorem lexL_span (p : Nat) (l : List UInt8) : lexL p l = lexL (p + spanU [1] l) (l.drop (spanU [1] l)) := by
  induction l generalizing p with
  | nil => rfl
  | cons c r ih =>
    by_cases h : clsU c = 1
    · rw [spanU_pos (by rw [h]; rfl), lexL_blank h, ih, List.drop_succ_cons]
      congr 1
      omega
    · rw [spanU_zero (by simpa using h)]
      rfl
theorem span_stop (cl : List Int) (l : List UInt8) {c : UInt8} {r : List UInt8} (h : l.drop (spanU cl l) = c :: r) : cl.contains (clsU c) = false := by
  induction l with
  | nil => simp [spanU] at h
  | cons a l ih =>
    cases ha : cl.contains (clsU a)
    · rw [spanU_zero ha] at h
      cases h
      exact ha
    · rw [spanU_pos ha, List.drop_succ_cons] at h
      exact ih h
theorem isD_cls (c : UInt8) : isD c = (clsU c == 2) := by
  have : ∀ i : Fin 256, (decide (48 ≤ i.val) && decide (i.val ≤ 57)) = (cls ((i.val : Nat) : Int) == 2) := by decide +kernel
  exact this ⟨c.toNat, by have := c.toNat_lt; omega⟩
theorem il_bs (l : List UInt8) : il (bs l) = l.map fun b => (b.toNat : Int) := by unfold il; rw [bs_list]
theorem take_span_all (cl : List Int) (l : List UInt8) : ∀ c, c ∈ l.take (spanU cl l) → cl.contains (clsU c) = true := by
  induction l with
  | nil => simp
  | cons a l ih =>
    intro c hc
    cases ha : cl.contains (clsU a)
    · rw [spanU_zero ha] at hc; simp at hc
    · rw [spanU_pos ha, List.take_succ_cons] at hc
      rcases List.mem_cons.1 hc with rfl | hc
      · exact ha
      · exact ih c hc
theorem kind_digit {c : UInt8} (r : List UInt8) (h : clsU c = 2) : kindOf (bs (c :: r)) = if numB (bs (c :: r)) then 1 else 0 := by
  unfold kindOf
  have h3 : ∀ f, f ≠ 2 → shapely (il (bs (c :: r))) f = false := by
    intro f hf
    rw [il_bs, List.map_cons]
    simp only [shapely]
    have : (cls ((c.toNat : Nat) : Int) == f) = false := beq_false_of_ne (by have := h; unfold clsU at this; omega)
    rw [this]
    simp
  have hk : kwd (bs (c :: r)) = 0 := by
    unfold kwd
    rw [bs_list]
    refine placeOf_none (fun x hx e => ?_) 1
    subst e
    have : ∀ x, x ∈ keyw → ∀ c r, x = c :: r → clsU c ≠ 2 := by
      have hall : keyw.all (fun x => match x with | [] => true | c :: _ => clsU c != 2) = true := by decide +kernel
      intro x hx c r e
      have := List.all_eq_true.1 hall x hx
      rw [e] at this
      simpa using this
    exact this _ hx c r rfl h
  unfold isName isExn
  rw [h3 3 (by omega), h3 4 (by omega), hk]
  simp
theorem kind_letter {c : UInt8} (r : List UInt8) (h : clsU c = 3 ∨ clsU c = 4) : kindOf (bs (c :: r)) = if 0 < kwd (bs (c :: r)) then 4 else if isName (bs (c :: r)) then 2 else if isExn (bs (c :: r)) then 3 else 0 := by
  unfold kindOf
  have : numB (bs (c :: r)) = false := by
    unfold numB okN
    rw [bs_list, List.all_cons, isD_cls]
    have : (clsU c == 2) = false := beq_false_of_ne (by rcases h with h | h <;> omega)
    rw [this]
    simp
  rw [this]
  simp
theorem kindOf_bd (s : ByteArray) : 0 ≤ kindOf s ∧ kindOf s ≤ 4 := by unfold kindOf; repeat' split <;> try omega
theorem tokAt_kind {c : UInt8} {r : List UInt8} (cl : List Int) (h : (clsU c = 2 ∧ cl = [2]) ∨ ((clsU c = 3 ∨ clsU c = 4) ∧ cl = [2, 3, 4])) :
    tokAt (c :: r) = (if 0 < kindOf (bs ((c :: r).take (spanU cl (c :: r)))) then some (spanU cl (c :: r), kindOf (bs ((c :: r).take (spanU cl (c :: r))))) else none) := by
  rcases h with ⟨h, rfl⟩ | ⟨h, rfl⟩
  · have e : (c :: r).take (spanU [2] (c :: r)) = c :: r.take (spanU [2] r) := by rw [spanU_pos (by rw [h]; rfl), List.take_succ_cons]
    unfold tokAt
    simp only
    rw [if_pos h, e, kind_digit _ h]
    cases numB (bs (c :: r.take (spanU [2] r))) <;> simp
  · have hc : [2, 3, 4].contains (clsU c) = true := by rcases h with h | h <;> rw [h] <;> rfl
    have e : (c :: r).take (spanU [2, 3, 4] (c :: r)) = c :: r.take (spanU [2, 3, 4] r) := by rw [spanU_pos hc, List.take_succ_cons]
    unfold tokAt
    simp only
    rw [if_neg (by rcases h with h | h <;> omega), if_pos h, e, kind_letter _ h]
    by_cases a1 : 0 < kwd (bs (c :: r.take (spanU [2, 3, 4] r)))
    · simp [a1]
    · rw [if_neg a1, if_neg a1]
      cases isName (bs (c :: r.take (spanU [2, 3, 4] r))) <;> cases isExn (bs (c :: r.take (spanU [2, 3, 4] r))) <;> simp
theorem tokAt_sign {c : UInt8} {r : List UInt8} (h : clsU c = 5) : tokAt (c :: r) = if signOf (c :: r) = 0 then none else some (signOf (c :: r), 5) := by
  unfold tokAt
  simp only
  rw [if_neg (by omega), if_neg (by omega), if_pos h]
theorem tokAt_other {c : UInt8} {r : List UInt8} (h : clsU c = 0 ∨ clsU c = 1) : tokAt (c :: r) = none := by
  unfold tokAt
  simp only
  rw [if_neg (by omega), if_neg (by omega), if_neg (by omega)]
end Go.Proofs.YtaioeailgknfjaaGreatDoor
namespace Go.Proofs.YtaioeailgknfjaaGreatDoor
open Go Go.RowKit Go.Sort
structure Tk where
  k : Int
  text : ByteArray
  pos : Int
def tkcells (t : Tk) : List Value := [.int .u8 t.k, .string t.text, .int .i64 t.pos]
structure Tk.Fits (t : Tk) : Prop where
  k0 : 0 ≤ t.k
  k1 : t.k ≤ 255
  p0 : -9223372036854775808 ≤ t.pos
  p1 : t.pos ≤ 9223372036854775807
  text1 : t.text.size ≤ 9223372036854775807
def IsToks (w : World) (l : List Tk) (a : Option Addr) (len : Nat) : Prop := IsFlat w 3 (l.map tkcells) a len ∧ ∀ t ∈ l, t.Fits
theorem IsToks.ext {w w' : World} (hx : Ext w w') {l : List Tk} {a : Option Addr} {len : Nat} (h : IsToks w l a len) : IsToks w' l a len := ⟨h.1.ext hx, h.2⟩
theorem IsToks.length {w : World} {l : List Tk} {a : Option Addr} {len : Nat} (h : IsToks w l a len) : len = l.length := by have := h.1.1; simpa using this
theorem IsToks.at3 {w : World} {l : List Tk} {a : Option Addr} {len : Nat} (h : IsToks w l a len) {i : Nat} (hi : i < len) :
    ∃ t b o, l[i]? = some t ∧ t.Fits ∧ a = some ⟨b, o, none⟩ ∧ w.cell? ⟨b, o + i * 3, none⟩ = some (.int .u8 t.k) ∧ w.cell? ⟨b, o + i * 3 + 1, none⟩ = some (.string t.text) ∧ w.cell? ⟨b, o + i * 3 + 2, none⟩ = some (.int .i64 t.pos) := by
  have hl := h.length
  have hi' : l[i]? = some l[i] := List.getElem?_eq_getElem (hl ▸ hi)
  obtain ⟨b, o, ea, q⟩ := h.1.at_ (i := i) (cs := tkcells l[i]) (by simp [hi'])
  exact ⟨_, b, o, hi', h.2 _ (List.mem_of_getElem? hi'), ea, q 0 _ rfl, q 1 _ rfl, q 2 _ rfl⟩
theorem tkcells_len (l : List Tk) : ∀ cs ∈ l.map tkcells, cs.length = 3 := by
  intro cs h
  obtain ⟨t, _, rfl⟩ := List.mem_map.1 h
  rfl
def Tok.tk (t : Tok) : Tk := ⟨t.k, t.text, t.pos⟩
end Go.Proofs.YtaioeailgknfjaaGreatDoor
namespace Go.Proofs.YtaioeailgknfjaaGreatDoor
open Go Go.RowKit Go.Sort
open Go.ChangeShapes Go.WideShapes
section
variable {H : Type} {enc : TypeId × Value → H} {w : World} {base : Nat} {spare : Nat → Bool} {held : Bool}
theorem cellsTk : Tryz.prog.cellsOf 37 = 3 := by kernel_rfl
set_option maxRecDepth 8000 in
theorem isTkL_trod (fuel : Nat) (cs : List Value) (x : DataW H × List MemPlace) (h : DataW.trod enc Tryz.prog w base spare held fuel 37 cs = some x) :
    ∃ d : Tk, d.Fits ∧ cs = tkcells d := by
  obtain ⟨xs, n, hn, hx, hlen, hxl, hf⟩ := DataW.trod_struct Tryz.underlying37 h
  rw [cellsTk] at hlen
  match cs, hlen with
  | [c0, c1, c2], _ =>
    have f0 := hf 0 _ rfl
    have f1 := hf 1 _ rfl
    have f2 := hf 2 _ rfl
    rw [List.getElem?_eq_getElem (by rw [hxl]; decide)] at f0 f1 f2
    have k0 : Tryz.prog.cellsOf 5 = 1 := by kernel_rfl
    have k1 : Tryz.prog.cellsOf 9 = 1 := by kernel_rfl
    have k2 : Tryz.prog.cellsOf 3 = 1 := by kernel_rfl
    simp [k0, k1, k2] at f0 f1 f2
    obtain ⟨k, e0, _, w0⟩ := DataW.trod_int Tryz.underlying5 f0
    obtain ⟨s, e1, _, w1⟩ := DataW.trod_string Tryz.underlying9 f1
    obtain ⟨m, e2, _, w2⟩ := DataW.trod_int Tryz.underlying3 f2
    simp at e0 e1 e2
    subst e0 e1 e2
    have b0 := bounds_u8 w0
    have b2 := bounds_i64 w2
    exact ⟨⟨k, s, m⟩, ⟨b0.1, b0.2, b2.1, b2.2, w1⟩, rfl⟩
theorem isToks_trod (fuel : Nat) (v : Value) (x : DataW H × List MemPlace) (h : DataW.trod enc Tryz.prog w base spare held fuel 32 [v] = some x) : ∃ l a len cap, v = .slice a len cap ∧ len ≤ cap ∧ cap ≤ maxLen ∧ IsToks w l a len := by
  rcases DataW.trod_slice Tryz.underlying32 h with ⟨h0, _⟩ | ⟨a, len, cap, elems, rest, n', hn, hcs, _, _, hl, hm, hlen, hel, _, _⟩
  · simp at h0
    subst h0
    exact ⟨[], none, 0, 0, rfl, Nat.le_refl _, by omega, IsFlat.nil _ _ _, by simp⟩
  · simp at hcs
    subst hcs
    have hg : ∀ i, i < len → ∃ t : Tk, t.Fits ∧ (∀ (j : Nat) v, (tkcells t)[j]? = some v → w.cell? ((a.add (i * 3)).add j) = some v) := by
      intro i hi
      have he := hel i hi
      rw [cellsTk, List.getElem?_eq_getElem (by omega)] at he
      obtain ⟨cs, hcs, htr⟩ := Option.bind_eq_some_iff.1 he
      obtain ⟨_, hcl, hat⟩ := World.cells?_some hcs
      obtain ⟨t, ht, rfl⟩ := isTkL_trod _ cs _ htr
      refine ⟨t, ht, fun j v hv => ?_⟩
      have hj : j < 3 := by
        rcases Nat.lt_or_ge j 3 with h | h
        · exact h
        · rw [List.getElem?_eq_none (by simpa [tkcells] using h)] at hv; cases hv
      exact (hat j hj).trans hv
    obtain ⟨l, hll, hp⟩ := choose_list len hg
    refine ⟨l, some a, len, cap, rfl, hl, hm, ⟨by simp [hll], ?_, ?_⟩, ?_⟩
    · intro cs h
      obtain ⟨t, _, rfl⟩ := List.mem_map.1 h
      rfl
    · intro i cs hi
      rw [List.getElem?_map, Option.map_eq_some_iff] at hi
      obtain ⟨t, ht, rfl⟩ := hi
      have hpos : 0 < l.length := by
        rcases Nat.eq_zero_or_pos l.length with h | h
        · rw [List.getElem?_eq_none (by omega)] at ht; cases ht
        · exact h
      have g0 := (hp 0 _ (List.getElem?_eq_getElem hpos)).2 0 _ rfl
      obtain ⟨b, o, sp⟩ := a
      have hsp := cell_spot g0
      simp [Addr.add] at hsp
      subst hsp
      refine ⟨b, o, rfl, fun j v hv => ?_⟩
      have := (hp i t ht).2 j v hv
      rw [Addr.add_lit, Addr.add_lit] at this
      exact this
    · intro t ht
      obtain ⟨i, hi, rfl⟩ := List.mem_iff_getElem.1 ht
      exact (hp i _ (List.getElem?_eq_getElem hi)).1
end
end Go.Proofs.YtaioeailgknfjaaGreatDoor
