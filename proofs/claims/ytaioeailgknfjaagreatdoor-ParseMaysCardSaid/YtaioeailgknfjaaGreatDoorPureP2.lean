/- What comes of tokens, in plain Lean: its nodes may be, each begins at a token, and there are not too many. What is left behind a part of the grammar ends what was there, in plain Lean. A part of the grammar goes the same way through tokens that are alike but for places, and that are followed by something that ends it. Brackets, and what stands between signs, in plain Lean. Two operands with a sign between them, or none, in plain Lean. -/
import Derived.Test.YtaioeailgknfjaaGreatDoorPureP
namespace Go.Proofs.YtaioeailgknfjaaGreatDoor
open Go

theorem andThen_inv {α β : Type} {r : Option (Res α)} {k : α → List Tk → Option (Res β)} {y : β} {l : List Tk} (h : andThen r k = some (.ok (y, l))) : ∃ a l1, r = some (.ok (a, l1)) ∧ k a l1 = some (.ok (y, l)) := by
  cases r with
  | none => cases h
  | some x =>
    cases x with
    | error l => cases h
    | ok p => exact ⟨p.1, p.2, rfl, h⟩
theorem getK_inv {k : Int} {l l' : List Tk} {x : ByteArray} (h : some (getK k l) = some (.ok (x, l'))) : ∃ t, l = t :: l' ∧ t.k = k ∧ x = t.text := by
  cases l with
  | nil => simp [getK] at h
  | cons t l =>
    simp only [getK] at h
    split at h
    · simp at h
      exact ⟨t, by rw [h.2], by assumption, h.1.symm⟩
    · simp at h
theorem getW_inv {x : ByteArray} {l l' : List Tk} {u : Unit} (h : some (getW x l) = some (.ok (u, l'))) : isT [x] l = true ∧ l' = l.tail := by
  unfold getW at h
  split at h
  · simp at h
    exact ⟨by assumption, h.symm⟩
  · simp at h
theorem isT_ne {xs : List ByteArray} {l : List Tk} (h : isT xs l = true) : ∃ t r, l = t :: r ∧ t.k ≠ 6 ∧ t.text ∈ xs ∧ (t.k = 4 ∨ t.k = 5) := by
  cases l with
  | nil => cases h
  | cons t r =>
    simp only [isT, Bool.and_eq_true, Bool.or_eq_true, beq_iff_eq] at h
    exact ⟨t, r, rfl, by omega, (inB_iff _ _).1 h.2, h.1⟩
/-- A token as the cut makes it. -/
structure TkOk (t : Tk) : Prop where
  pos : 0 ≤ t.pos
  num : t.k = 1 → numB t.text = true
  name : t.k = 2 → isName t.text = true
  exn : t.k = 3 → isExn t.text = true
/-- All nodes may be, and begin at tokens. -/
def GoodT (L : List Tk) (t : Tm) : Prop := ∀ u, u ∈ t.all → u.node = true ∧ ∃ k, k ∈ L ∧ k.k ≠ 6 ∧ k.pos = u.head.pos
theorem Tm.self_all (t : Tm) : t ∈ t.all := by cases t; simp [Tm.all]
theorem Tm.mem_all {x : Hd} {l : List Tm} {u : Tm} : u ∈ (Tm.mk x l).all ↔ u = .mk x l ∨ ∃ t, t ∈ l ∧ u ∈ t.all := by
  simp only [Tm.all, List.mem_cons]
  refine or_congr Iff.rfl ?_
  induction l with
  | nil => simp [Tm.alls]
  | cons t l ih => simp [Tm.alls, ih]
theorem GoodT.mk_ {L : List Tk} {x : Hd} {l : List Tm} (hn : (Tm.mk x l).node = true) (hp : ∃ k, k ∈ L ∧ k.k ≠ 6 ∧ k.pos = x.pos) (hk : ∀ t, t ∈ l → GoodT L t) : GoodT L (.mk x l) := by
  intro u hu
  rcases Tm.mem_all.1 hu with rfl | ⟨t, ht, hu⟩
  · exact ⟨hn, hp⟩
  · exact hk t ht u hu
theorem GoodT.at_ {L : List Tk} {t : Tm} (h : GoodT L t) : ∃ k, k ∈ L ∧ k.k ≠ 6 ∧ k.pos = t.head.pos := (h t t.self_all).2
theorem numV_bound (s : ByteArray) : 0 ≤ numV s ∧ numV s ≤ 2147483647 := by
  unfold numV
  by_cases h : okN s.data.toList = true
  · rw [if_pos h]
    unfold okN at h
    simp only [Bool.and_eq_true, decide_eq_true_eq] at h
    omega
  · rw [if_neg h]; omega
theorem empty_list0 : ByteArray.empty.toList = [] := by rw [ByteArray.toList_eq]; rfl
theorem node_simple (k pos : Int) (l : List Tm) (hp : 0 ≤ pos) (hk : karity k = (l.length : Int)) (h9 : k ≠ 9) (h1 : (hd0 k pos).hasName = false) (h2 : (hd0 k pos).hasArg = false) (h3 : (hd0 k pos).hasExn = false) : (Tm.mk (hd0 k pos) l).node = true := by
  simp only [Tm.node, Tm.nums, h1, h2, h3]
  simp [hd0, fitB, hk, hp, h9, empty_list0]
/-- What is so of parts that go on. -/
def NT.Pre (L : List Tk) : NT → Prop
  | .more _ a => GoodT L a
  | .args a => GoodT L a
  | _ => True
/-- How many nodes are there already; of the others one is free. -/
def NT.size0 : NT → Nat
  | .more _ a => a.size + 1
  | .args a => a.size + 1
  | _ => 0
structure Sound (L : List Tk) (nt : NT) (l : List Tk) (t : Tm) (l' : List Tk) : Prop where
  sub : ∀ x, x ∈ l' → x ∈ L
  good : GoodT L t
  few : t.size + 1 + 2 * l'.length ≤ 2 * l.length + nt.size0
theorem Sound.mem {L : List Tk} {nt : NT} {l : List Tk} {t : Tm} {l' : List Tk} (h : Sound L nt l t l') : ∀ x, x ∈ l' → x ∈ L := h.sub
theorem tail_mem {L l : List Tk} (h : ∀ x, x ∈ l → x ∈ L) : ∀ x, x ∈ l.tail → x ∈ L := fun x hx => h x (List.mem_of_mem_tail hx)
theorem cons_mem {L l : List Tk} {t : Tk} (h : ∀ x, x ∈ t :: l → x ∈ L) : ∀ x, x ∈ l → x ∈ L := fun x hx => h x (by simp [hx])
theorem opOf_bound (x : ByteArray) : 0 ≤ opOf x ∧ opOf x ≤ 5 := by unfold opOf; repeat' split <;> try omega
theorem opOf_sign {k : Nat} (hk : 1 ≤ k) {x : ByteArray} (h : x ∈ signsL k) : x ≠ s_set ∧ 1 ≤ opOf x := by
  have key : ∀ y, y ∈ [s_less, s_eq, s_plus, s_minus, s_star] → y ≠ s_set ∧ 1 ≤ opOf y := by
    intro y hy
    simp only [List.mem_cons, List.not_mem_nil, or_false] at hy
    rcases hy with rfl | rfl | rfl | rfl | rfl <;> decide +kernel
  refine key x ?_
  match k, hk with
  | 1, _ => simp only [signsL, List.mem_cons, List.not_mem_nil, or_false] at h ⊢; rcases h with h | h <;> simp [h]
  | 2, _ => simp only [signsL, List.mem_cons, List.not_mem_nil, or_false] at h ⊢; rcases h with h | h <;> simp [h]
  | k + 3, _ => simp only [signsL, List.mem_cons, List.not_mem_nil, or_false] at h ⊢; simp [h]
theorem preK_bound (x : ByteArray) : preK x = 4 ∨ preK x = 5 ∨ preK x = 6 ∨ preK x = 7 := by
  unfold preK
  split
  · exact .inl rfl
  split
  · exact .inr (.inl rfl)
  split
  · exact .inr (.inr (.inl rfl))
  · exact .inr (.inr (.inr rfl))
theorem putT_good {L : List Tk} {x : ByteArray} {a b : Tm} (ha : GoodT L a) (hb : GoodT L b) (hp : 0 ≤ a.head.pos) (hx : x = s_set ∨ 1 ≤ opOf x) : GoodT L (putT x a b) := by
  unfold putT
  obtain hbd := opOf_bound x
  split
  · refine GoodT.mk_ (node_simple 8 _ _ hp rfl (by omega) rfl rfl rfl) ha.at_ ?_
    intro t ht
    simp only [List.mem_cons, List.not_mem_nil, or_false] at ht
    rcases ht with rfl | rfl <;> assumption
  · rename_i hn
    have h1 : 1 ≤ opOf x := by rcases hx with hx | hx; exact (hn hx).elim; exact hx
    refine GoodT.mk_ ?_ ha.at_ ?_
    · unfold Tm.node Tm.nums
      simp [hd0, fitB, karity, hp, Hd.hasName, Hd.hasArg, Hd.hasExn, empty_list0]
      omega
    · intro t ht
      simp only [List.mem_cons, List.not_mem_nil, or_false] at ht
      rcases ht with rfl | rfl <;> assumption
theorem putT_size (x : ByteArray) (a b : Tm) : (putT x a b).size = 1 + a.size + b.size := by
  unfold putT
  split <;> simp [Tm.size, Tm.sizes] <;> omega
theorem GoodT.pos {L : List Tk} (hL : ∀ x, x ∈ L → TkOk x) {t : Tm} (h : GoodT L t) : 0 ≤ t.head.pos := by
  obtain ⟨k, hk, _, e⟩ := h.at_
  rw [← e]
  exact (hL k hk).pos
theorem mem1 {P : Tm → Prop} {a : Tm} (ha : P a) : ∀ t, t ∈ [a] → P t := by intro t ht; simp at ht; subst ht; exact ha
theorem mem2 {P : Tm → Prop} {a b : Tm} (ha : P a) (hb : P b) : ∀ t, t ∈ [a, b] → P t := by intro t ht; simp at ht; rcases ht with rfl | rfl <;> assumption
theorem mem3 {P : Tm → Prop} {a b c : Tm} (ha : P a) (hb : P b) (hc : P c) : ∀ t, t ∈ [a, b, c] → P t := by intro t ht; simp at ht; rcases ht with rfl | rfl | rfl <;> assumption
set_option maxHeartbeats 1000000 in
/-- What comes of tokens is sound. -/
theorem parse_sound (L : List Tk) (hL : ∀ x, x ∈ L → TkOk x) (f : Nat) : ∀ nt l t l', (∀ x, x ∈ l → x ∈ L) → nt.Pre L → parseF f nt l = some (.ok (t, l')) → Sound L nt l t l' := by
  induction f with
  | zero => intro nt l t l' _ _ h; cases h
  | succ f ih =>
    intro nt l t l' hl hpre h
    have W : ∀ {xs : List ByteArray} {m : List Tk}, isT xs m = true → (∀ x, x ∈ m → x ∈ L) → 0 ≤ posT m ∧ (∃ k, k ∈ L ∧ k.k ≠ 6 ∧ k.pos = posT m) ∧ textT m ∈ xs ∧ (∀ x, x ∈ m.tail → x ∈ L) ∧ m.tail.length + 1 = m.length := by
      intro xs m hi hm
      obtain ⟨t, r, rfl, hk, hx, -⟩ := isT_ne hi
      exact ⟨(hL t (hm t (by simp))).pos, ⟨t, hm t (by simp), hk, rfl⟩, hx, cons_mem hm, rfl⟩
    have G : ∀ {k : Int} {m m' : List Tk} {x : ByteArray}, some (getK k m) = some (.ok (x, m')) → (∀ x, x ∈ m → x ∈ L) → (∀ x, x ∈ m' → x ∈ L) ∧ m'.length + 1 = m.length ∧ (k = 2 → isName x = true) ∧ (k = 3 → isExn x = true) := by
      intro k m m' x hg hm
      obtain ⟨t, rfl, hk, rfl⟩ := getK_inv hg
      have := hL t (hm t (by simp))
      exact ⟨cons_mem hm, rfl, fun h => this.name (by omega), fun h => this.exn (by omega)⟩
    have V : ∀ {y : ByteArray} {m m' : List Tk} {u : Unit}, some (getW y m) = some (.ok (u, m')) → (∀ x, x ∈ m → x ∈ L) → (∀ x, x ∈ m' → x ∈ L) ∧ m'.length + 1 = m.length := by
      intro y m m' u hg hm
      obtain ⟨hi, rfl⟩ := getW_inv hg
      have := W hi hm
      exact ⟨this.2.2.2.1, this.2.2.2.2⟩
    cases nt with
    | expr =>
      unfold parseF at h
      split at h
      · rename_i c
        obtain ⟨p0, pk, -, m0, n0⟩ := W c hl
        obtain ⟨x, l1, e1, h⟩ := andThen_inv h
        obtain ⟨m1, n1, hx, -⟩ := G e1 m0
        obtain ⟨_, l2, e2, h⟩ := andThen_inv h
        obtain ⟨m2, n2⟩ := V e2 m1
        obtain ⟨a, l3, e3, h⟩ := andThen_inv h
        obtain ⟨m3, ga, n3⟩ := ih _ _ _ _ m2 (by exact True.intro) e3
        obtain ⟨_, l4, e4, h⟩ := andThen_inv h
        obtain ⟨m4, n4⟩ := V e4 m3
        obtain ⟨b, l5, e5, h⟩ := andThen_inv h
        obtain ⟨m5, gb, n5⟩ := ih _ _ _ _ m4 (by exact True.intro) e5
        cases h
        refine ⟨m5, GoodT.mk_ ?_ pk (mem2 ga gb), ?_⟩
        · unfold Tm.node Tm.nums
          simp [hd0, fitB, karity, p0, Hd.hasName, Hd.hasArg, Hd.hasExn, empty_list0, hx rfl]
        · simp only [Tm.size, Tm.sizes, NT.size0] at *
          omega
      split at h
      · rename_i c
        obtain ⟨p0, pk, -, m0, n0⟩ := W c hl
        obtain ⟨x, l1, e1, h⟩ := andThen_inv h
        obtain ⟨m1, n1, hx, -⟩ := G e1 m0
        obtain ⟨y, l1', e1', h⟩ := andThen_inv h
        obtain ⟨m1', n1', hy, -⟩ := G e1' m1
        obtain ⟨_, l2, e2, h⟩ := andThen_inv h
        obtain ⟨m2, n2⟩ := V e2 m1'
        obtain ⟨a, l3, e3, h⟩ := andThen_inv h
        obtain ⟨m3, ga, n3⟩ := ih _ _ _ _ m2 (by exact True.intro) e3
        obtain ⟨_, l4, e4, h⟩ := andThen_inv h
        obtain ⟨m4, n4⟩ := V e4 m3
        obtain ⟨b, l5, e5, h⟩ := andThen_inv h
        obtain ⟨m5, gb, n5⟩ := ih _ _ _ _ m4 (by exact True.intro) e5
        cases h
        refine ⟨m5, GoodT.mk_ ?_ pk (mem2 ga gb), ?_⟩
        · unfold Tm.node Tm.nums
          simp [hd0, fitB, karity, p0, Hd.hasName, Hd.hasArg, Hd.hasExn, empty_list0, hx rfl, hy rfl]
        · simp only [Tm.size, Tm.sizes, NT.size0] at *
          omega
      split at h
      · rename_i c
        obtain ⟨p0, pk, -, m0, n0⟩ := W c hl
        obtain ⟨x, l1, e1, h⟩ := andThen_inv h
        obtain ⟨m1, n1, hx, -⟩ := G e1 m0
        obtain ⟨_, l2, e2, h⟩ := andThen_inv h
        obtain ⟨m2, n2⟩ := V e2 m1
        obtain ⟨a, l3, e3, h⟩ := andThen_inv h
        obtain ⟨m3, ga, n3⟩ := ih _ _ _ _ m2 (by exact True.intro) e3
        cases h
        refine ⟨m3, GoodT.mk_ ?_ pk (mem1 ga), ?_⟩
        · unfold Tm.node Tm.nums
          simp [hd0, fitB, karity, p0, Hd.hasName, Hd.hasArg, Hd.hasExn, empty_list0, hx rfl]
        · simp only [Tm.size, Tm.sizes, NT.size0] at *
          omega
      split at h
      · rename_i c
        obtain ⟨p0, pk, -, m0, n0⟩ := W c hl
        obtain ⟨a, l3, e3, h⟩ := andThen_inv h
        obtain ⟨m3, ga, n3⟩ := ih _ _ _ _ m0 (by exact True.intro) e3
        obtain ⟨_, l4, e4, h⟩ := andThen_inv h
        obtain ⟨m4, n4⟩ := V e4 m3
        obtain ⟨b, l5, e5, h⟩ := andThen_inv h
        obtain ⟨m5, gb, n5⟩ := ih _ _ _ _ m4 (by exact True.intro) e5
        obtain ⟨_, l6, e6, h⟩ := andThen_inv h
        obtain ⟨m6, n6⟩ := V e6 m5
        obtain ⟨c', l7, e7, h⟩ := andThen_inv h
        obtain ⟨m7, gc, n7⟩ := ih _ _ _ _ m6 (by exact True.intro) e7
        cases h
        refine ⟨m7, GoodT.mk_ (node_simple 14 _ _ p0 rfl (by omega) rfl rfl rfl) pk (mem3 ga gb gc), ?_⟩
        simp only [Tm.size, Tm.sizes, NT.size0] at *
        omega
      split at h
      · rename_i c
        obtain ⟨p0, pk, -, m0, n0⟩ := W c hl
        obtain ⟨a, l3, e3, h⟩ := andThen_inv h
        obtain ⟨m3, ga, n3⟩ := ih _ _ _ _ m0 (by exact True.intro) e3
        obtain ⟨_, l4, e4, h⟩ := andThen_inv h
        obtain ⟨m4, n4⟩ := V e4 m3
        obtain ⟨x, l1, e1, h⟩ := andThen_inv h
        obtain ⟨m1, n1, -, hx⟩ := G e1 m4
        obtain ⟨y, l1', e1', h⟩ := andThen_inv h
        obtain ⟨m1', n1', hy, -⟩ := G e1' m1
        obtain ⟨_, l2, e2, h⟩ := andThen_inv h
        obtain ⟨m2, n2⟩ := V e2 m1'
        obtain ⟨b, l5, e5, h⟩ := andThen_inv h
        obtain ⟨m5, gb, n5⟩ := ih _ _ _ _ m2 (by exact True.intro) e5
        cases h
        refine ⟨m5, GoodT.mk_ ?_ pk (mem2 ga gb), ?_⟩
        · unfold Tm.node Tm.nums
          simp [hd0, fitB, karity, p0, Hd.hasName, Hd.hasArg, Hd.hasExn, empty_list0, hx rfl, hy rfl]
        · simp only [Tm.size, Tm.sizes, NT.size0] at *
          omega
      obtain ⟨a1, a2, a3⟩ := ih _ _ _ _ hl (by exact True.intro) h
      exact ⟨a1, a2, by simp only [NT.size0] at *; omega⟩
    | lvl k =>
      unfold parseF at h
      split at h
      · rename_i ck
        obtain ⟨a, l1, e1, h⟩ := andThen_inv h
        obtain ⟨m1, ga, n1⟩ := ih _ _ _ _ hl (by exact True.intro) e1
        split at h
        · rename_i c
          obtain ⟨p0, pk, hx, m0, n0⟩ := W c m1
          obtain ⟨b, l2, e2, h⟩ := andThen_inv h
          obtain ⟨m2, gb, n2⟩ := ih _ _ _ _ m0 (by exact True.intro) e2
          cases h
          refine ⟨m2, putT_good ga gb (ga.pos hL) ?_, ?_⟩
          · rcases Nat.eq_zero_or_pos k with rfl | hk
            · left; simpa [signsL] using hx
            · right; exact (opOf_sign hk hx).2
          · rw [putT_size]
            simp only [NT.size0] at *
            omega
        · cases h
          exact ⟨m1, ga, by simp only [NT.size0] at *; omega⟩
      split at h
      · obtain ⟨a, l1, e1, h⟩ := andThen_inv h
        obtain ⟨m1, ga, n1⟩ := ih _ _ _ _ hl (by exact True.intro) e1
        obtain ⟨m2, gb, n2⟩ := ih _ _ _ _ m1 (by exact ga) h
        exact ⟨m2, gb, by simp only [NT.size0] at *; omega⟩
      · obtain ⟨a, l1, e1, h⟩ := andThen_inv h
        obtain ⟨m1, ga, n1⟩ := ih _ _ _ _ hl (by exact True.intro) e1
        obtain ⟨m2, gb, n2⟩ := ih _ _ _ _ m1 (by exact ga) h
        exact ⟨m2, gb, by simp only [NT.size0] at *; omega⟩
    | more k a =>
      unfold parseF at h
      have ga : GoodT L a := hpre
      split at h
      · rename_i c
        obtain ⟨p0, pk, hx, m0, n0⟩ := W c hl
        obtain ⟨b, l1, e1, h⟩ := andThen_inv h
        obtain ⟨m1, gb, n1⟩ := ih _ _ _ _ m0 (by exact True.intro) e1
        have gp : GoodT L (putT (textT l) a b) := putT_good ga gb (ga.pos hL) (by
          rcases Nat.eq_zero_or_pos k with rfl | hk
          · left; simpa [signsL] using hx
          · right; exact (opOf_sign hk hx).2)
        obtain ⟨m2, gt, n2⟩ := ih _ _ _ _ m1 (by exact gp) h
        refine ⟨m2, gt, ?_⟩
        simp only [NT.size0, putT_size] at *
        omega
      · cases h
        exact ⟨hl, ga, by simp only [NT.size0]; omega⟩
    | args a =>
      unfold parseF at h
      have ga : GoodT L a := hpre
      split at h
      · obtain ⟨b, l1, e1, h⟩ := andThen_inv h
        obtain ⟨m1, gb, n1⟩ := ih _ _ _ _ hl (by exact True.intro) e1
        have gp : GoodT L (.mk (hd0 10 a.head.pos) [a, b]) := GoodT.mk_ (node_simple 10 _ _ (ga.pos hL) rfl (by omega) rfl rfl rfl) ga.at_ (mem2 ga gb)
        obtain ⟨m2, gt, n2⟩ := ih _ _ _ _ m1 (by exact gp) h
        refine ⟨m2, gt, ?_⟩
        simp only [NT.size0, Tm.size, Tm.sizes] at *
        omega
      · cases h
        exact ⟨hl, ga, by simp only [NT.size0]; omega⟩
    | unary =>
      unfold parseF at h
      split at h
      · rename_i c
        obtain ⟨p0, pk, hx, m0, n0⟩ := W c hl
        obtain ⟨a, l1, e1, h⟩ := andThen_inv h
        obtain ⟨m1, ga, n1⟩ := ih _ _ _ _ m0 (by exact True.intro) e1
        cases h
        have hk := preK_bound (textT l)
        refine ⟨m1, GoodT.mk_ (node_simple _ _ _ p0 ?_ (by omega) ?_ ?_ ?_) pk (mem1 ga), ?_⟩
        · rcases hk with hk | hk | hk | hk <;> rw [hk] <;> rfl
        · rcases hk with hk | hk | hk | hk <;> rw [hk] <;> rfl
        · rcases hk with hk | hk | hk | hk <;> rw [hk] <;> rfl
        · rcases hk with hk | hk | hk | hk <;> rw [hk] <;> rfl
        · simp only [Tm.size, Tm.sizes, NT.size0] at *
          omega
      split at h
      · rename_i c
        obtain ⟨p0, pk, -, m0, n0⟩ := W c hl
        obtain ⟨x, l1, e1, h⟩ := andThen_inv h
        obtain ⟨m1, n1, -, hx⟩ := G e1 m0
        obtain ⟨a, l2, e2, h⟩ := andThen_inv h
        obtain ⟨m2, ga, n2⟩ := ih _ _ _ _ m1 (by exact True.intro) e2
        cases h
        refine ⟨m2, GoodT.mk_ ?_ pk (mem1 ga), ?_⟩
        · unfold Tm.node Tm.nums
          simp [hd0, fitB, karity, p0, Hd.hasName, Hd.hasArg, Hd.hasExn, empty_list0, hx rfl]
        · simp only [Tm.size, Tm.sizes, NT.size0] at *
          omega
      split at h
      · rename_i c
        cases l with
        | nil => simp [kindT] at c
        | cons tk r =>
          cases h
          have ok := hL tk (hl tk (by simp))
          have hb := numV_bound tk.text
          refine ⟨cons_mem hl, GoodT.mk_ ?_ ⟨tk, hl tk (by simp), ?_, rfl⟩ (by simp), ?_⟩
          · have := ok.pos
            unfold Tm.node Tm.nums
            simp [hd0, fitB, karity, posT, textT, this, Hd.hasName, Hd.hasArg, Hd.hasExn, empty_list0, hb]
          · simp only [kindT] at c; omega
          · simp only [Tm.size, Tm.sizes, NT.size0, List.tail_cons, List.length_cons]; omega
      split at h
      · rename_i c
        cases l with
        | nil => simp [kindT] at c
        | cons tk r =>
          cases h
          have ok := hL tk (hl tk (by simp))
          refine ⟨cons_mem hl, GoodT.mk_ ?_ ⟨tk, hl tk (by simp), ?_, rfl⟩ (by simp), ?_⟩
          · have := ok.pos
            have hn := ok.name c
            unfold Tm.node Tm.nums
            simp [hd0, fitB, karity, posT, textT, this, Hd.hasName, Hd.hasArg, Hd.hasExn, empty_list0, hn]
          · simp only [kindT] at c; omega
          · simp only [Tm.size, Tm.sizes, NT.size0, List.tail_cons, List.length_cons]; omega
      have hne : l ≠ [] := by
        rintro rfl
        obtain ⟨_, l1, e1, h⟩ := andThen_inv h
        obtain ⟨hi, -⟩ := getW_inv e1
        cases hi
      obtain ⟨_, l1, e1, h⟩ := andThen_inv h
      obtain ⟨hi, rfl⟩ := getW_inv e1
      obtain ⟨p0, pk, -, m0, n0⟩ := W hi hl
      obtain ⟨a, l2, e2, h⟩ := andThen_inv h
      obtain ⟨m2, ga, n2⟩ := ih _ _ _ _ m0 (by exact True.intro) e2
      split at h
      · rename_i c
        obtain ⟨-, -, -, m3, n3⟩ := W c m2
        obtain ⟨b, l3, e3, h⟩ := andThen_inv h
        obtain ⟨m4, gb, n4⟩ := ih _ _ _ _ m3 (by exact True.intro) e3
        obtain ⟨_, l4, e4, h⟩ := andThen_inv h
        obtain ⟨m5, n5⟩ := V e4 m4
        cases h
        refine ⟨m5, GoodT.mk_ (node_simple 3 _ _ p0 rfl (by omega) rfl rfl rfl) pk (mem2 ga gb), ?_⟩
        simp only [Tm.size, Tm.sizes, NT.size0] at *
        omega
      · obtain ⟨_, l4, e4, h⟩ := andThen_inv h
        obtain ⟨m5, n5⟩ := V e4 m2
        cases h
        exact ⟨m5, ga, by simp only [NT.size0] at *; omega⟩
end Go.Proofs.YtaioeailgknfjaaGreatDoor
namespace Go.Proofs.YtaioeailgknfjaaGreatDoor
open Go

theorem getK_suffix {k : Int} {l l' : List Tk} {x : ByteArray} (h : some (getK k l) = some (.ok (x, l'))) : l' <:+ l := by
  obtain ⟨t, rfl, -, -⟩ := getK_inv h
  exact List.suffix_cons _ _
theorem getW_suffix {x : ByteArray} {l l' : List Tk} {u : Unit} (h : some (getW x l) = some (.ok (u, l'))) : l' <:+ l := by
  obtain ⟨-, rfl⟩ := getW_inv h
  exact List.tail_suffix l
theorem done_inv {α : Type} {a b : α} {l l' : List Tk} (h : (some (.ok (a, l)) : Option (Res α)) = some (.ok (b, l'))) : a = b ∧ l = l' := by
  simp at h
  exact h
theorem parseF_suffix (f : Nat) : ∀ nt l t l', parseF f nt l = some (.ok (t, l')) → l' <:+ l := by
  induction f with
  | zero => intro nt l t l' h; cases h
  | succ f ih =>
    intro nt l t l' h
    cases nt with
    | expr =>
      unfold parseF at h
      split at h
      · obtain ⟨_, _, q1, h⟩ := andThen_inv h
        obtain ⟨_, _, q2, h⟩ := andThen_inv h
        obtain ⟨_, _, q3, h⟩ := andThen_inv h
        obtain ⟨_, _, q4, h⟩ := andThen_inv h
        obtain ⟨_, _, q5, h⟩ := andThen_inv h
        obtain ⟨-, rfl⟩ := done_inv h
        exact (ih _ _ _ _ q5).trans ((getW_suffix q4).trans ((ih _ _ _ _ q3).trans ((getW_suffix q2).trans ((getK_suffix q1).trans (List.tail_suffix _)))))
      split at h
      · obtain ⟨_, _, q1, h⟩ := andThen_inv h
        obtain ⟨_, _, q1', h⟩ := andThen_inv h
        obtain ⟨_, _, q2, h⟩ := andThen_inv h
        obtain ⟨_, _, q3, h⟩ := andThen_inv h
        obtain ⟨_, _, q4, h⟩ := andThen_inv h
        obtain ⟨_, _, q5, h⟩ := andThen_inv h
        obtain ⟨-, rfl⟩ := done_inv h
        exact (ih _ _ _ _ q5).trans ((getW_suffix q4).trans ((ih _ _ _ _ q3).trans ((getW_suffix q2).trans ((getK_suffix q1').trans ((getK_suffix q1).trans (List.tail_suffix _))))))
      split at h
      · obtain ⟨_, _, q1, h⟩ := andThen_inv h
        obtain ⟨_, _, q2, h⟩ := andThen_inv h
        obtain ⟨_, _, q3, h⟩ := andThen_inv h
        obtain ⟨-, rfl⟩ := done_inv h
        exact (ih _ _ _ _ q3).trans ((getW_suffix q2).trans ((getK_suffix q1).trans (List.tail_suffix _)))
      split at h
      · obtain ⟨_, _, q1, h⟩ := andThen_inv h
        obtain ⟨_, _, q2, h⟩ := andThen_inv h
        obtain ⟨_, _, q3, h⟩ := andThen_inv h
        obtain ⟨_, _, q4, h⟩ := andThen_inv h
        obtain ⟨_, _, q5, h⟩ := andThen_inv h
        obtain ⟨-, rfl⟩ := done_inv h
        exact (ih _ _ _ _ q5).trans ((getW_suffix q4).trans ((ih _ _ _ _ q3).trans ((getW_suffix q2).trans ((ih _ _ _ _ q1).trans (List.tail_suffix _)))))
      split at h
      · obtain ⟨_, _, q1, h⟩ := andThen_inv h
        obtain ⟨_, _, q2, h⟩ := andThen_inv h
        obtain ⟨_, _, q3, h⟩ := andThen_inv h
        obtain ⟨_, _, q4, h⟩ := andThen_inv h
        obtain ⟨_, _, q5, h⟩ := andThen_inv h
        obtain ⟨_, _, q6, h⟩ := andThen_inv h
        obtain ⟨-, rfl⟩ := done_inv h
        exact (ih _ _ _ _ q6).trans ((getW_suffix q5).trans ((getK_suffix q4).trans ((getK_suffix q3).trans ((getW_suffix q2).trans ((ih _ _ _ _ q1).trans (List.tail_suffix _))))))
      exact ih _ _ _ _ h
    | lvl k =>
      unfold parseF at h
      split at h
      · obtain ⟨_, l1, q1, h⟩ := andThen_inv h
        split at h
        · obtain ⟨_, _, q2, h⟩ := andThen_inv h
          obtain ⟨-, rfl⟩ := done_inv h
          exact (ih _ _ _ _ q2).trans ((List.tail_suffix _).trans (ih _ _ _ _ q1))
        · obtain ⟨-, rfl⟩ := done_inv h
          exact ih _ _ _ _ q1
      split at h
      · obtain ⟨_, l1, q1, h⟩ := andThen_inv h
        exact (ih _ _ _ _ h).trans (ih _ _ _ _ q1)
      · obtain ⟨_, l1, q1, h⟩ := andThen_inv h
        exact (ih _ _ _ _ h).trans (ih _ _ _ _ q1)
    | more k a =>
      unfold parseF at h
      split at h
      · obtain ⟨_, l1, q1, h⟩ := andThen_inv h
        exact (ih _ _ _ _ h).trans ((ih _ _ _ _ q1).trans (List.tail_suffix _))
      · obtain ⟨-, rfl⟩ := done_inv h
        exact List.suffix_refl _
    | args a =>
      unfold parseF at h
      split at h
      · obtain ⟨_, l1, q1, h⟩ := andThen_inv h
        exact (ih _ _ _ _ h).trans (ih _ _ _ _ q1)
      · obtain ⟨-, rfl⟩ := done_inv h
        exact List.suffix_refl _
    | unary =>
      unfold parseF at h
      split at h
      · obtain ⟨_, l1, q1, h⟩ := andThen_inv h
        obtain ⟨-, rfl⟩ := done_inv h
        exact (ih _ _ _ _ q1).trans (List.tail_suffix _)
      split at h
      · obtain ⟨_, l1, q1, h⟩ := andThen_inv h
        obtain ⟨_, l1, q2, h⟩ := andThen_inv h
        obtain ⟨-, rfl⟩ := done_inv h
        exact (ih _ _ _ _ q2).trans ((getK_suffix q1).trans (List.tail_suffix _))
      split at h
      · obtain ⟨-, rfl⟩ := done_inv h
        exact List.tail_suffix _
      split at h
      · obtain ⟨-, rfl⟩ := done_inv h
        exact List.tail_suffix _
      obtain ⟨_, _, q1, h⟩ := andThen_inv h
      obtain ⟨_, _, q2, h⟩ := andThen_inv h
      split at h
      · obtain ⟨_, _, q3, h⟩ := andThen_inv h
        obtain ⟨_, _, q4, h⟩ := andThen_inv h
        obtain ⟨-, rfl⟩ := done_inv h
        exact (getW_suffix q4).trans ((ih _ _ _ _ q3).trans ((List.tail_suffix _).trans ((ih _ _ _ _ q2).trans (getW_suffix q1))))
      · obtain ⟨_, _, q3, h⟩ := andThen_inv h
        obtain ⟨-, rfl⟩ := done_inv h
        exact (getW_suffix q3).trans ((ih _ _ _ _ q2).trans (getW_suffix q1))
end Go.Proofs.YtaioeailgknfjaaGreatDoor
namespace Go.Proofs.YtaioeailgknfjaaGreatDoor
open Go

/-- Nothing goes on here. -/
structure Halts (r : List Tk) : Prop where
  isT : ∀ xs, inB xs s_shut = false → isT xs r = false
  one : kindT r ≠ 1
  two : kindT r ≠ 2
theorem Halts.begins {r : List Tk} (h : Halts r) : beginsT r = false := by
  unfold beginsT
  rw [h.isT _ (by decide +kernel)]
  simp [h.one, h.two]
/-- Alike but for places; with these rests. -/
inductive Al (r r' : List Tk) : List Tk → List Tk → Prop where
  | rest : Al r r' r r'
  | cons {t t' : Tk} {l l' : List Tk} : t.k = t'.k → t.text = t'.text → Al r r' l l' → Al r r' (t :: l) (t' :: l')
inductive AlN : NT → NT → Prop where
  | expr : AlN .expr .expr
  | lvl (k : Nat) : AlN (.lvl k) (.lvl k)
  | more (k : Nat) {a a' : Tm} : a.same a' = true → AlN (.more k a) (.more k a')
  | args {a a' : Tm} : a.same a' = true → AlN (.args a) (.args a')
  | unary : AlN .unary .unary
theorem suffix_short {r l : List Tk} (h : r <:+ l) : r.length ≤ l.length := h.length_le
theorem Al.no {r r' l l' : List Tk} (h : Al r r' l l') (hr' : Halts r') {xs : List ByteArray} (hx : inB xs s_shut = false) (c : ¬ isT xs l = true) : ¬ isT xs l' = true := by
  cases h with
  | rest => rw [hr'.isT xs hx]; simp
  | cons e1 e2 h => simpa [Go.Proofs.YtaioeailgknfjaaGreatDoor.isT, e1, e2] using c
theorem Al.yes {r r' l l' : List Tk} (h : Al r r' l l') (hne : r ≠ []) {xs : List ByteArray} (hs : r <:+ l.tail) (c : isT xs l = true) : isT xs l' = true ∧ textT l = textT l' ∧ Al r r' l.tail l'.tail := by
  cases h with
  | rest =>
    have := suffix_short hs
    cases r with
    | nil => exact absurd rfl hne
    | cons t r => simp only [List.tail_cons, List.length_cons] at this; omega
  | cons e1 e2 h => exact ⟨by simpa [Go.Proofs.YtaioeailgknfjaaGreatDoor.isT, e1, e2] using c, e2, h⟩
theorem Al.getK {r r' l l' m : List Tk} (h : Al r r' l l') (hne : r ≠ []) {k : Int} {x : ByteArray} (hs : r <:+ m) (q : some (getK k l) = some (.ok (x, m))) : ∃ m', some (Go.Proofs.YtaioeailgknfjaaGreatDoor.getK k l') = some (.ok (x, m')) ∧ Al r r' m m' := by
  obtain ⟨t, rfl, hk, rfl⟩ := getK_inv q
  cases h with
  | rest =>
    have := suffix_short hs
    simp only [List.length_cons] at this; omega
  | cons e1 e2 h => exact ⟨_, by simp [Go.Proofs.YtaioeailgknfjaaGreatDoor.getK, ← e1, ← e2, hk], h⟩
theorem Al.getW {r r' l l' m : List Tk} (h : Al r r' l l') (hne : r ≠ []) {x : ByteArray} {u : Unit} (hs : r <:+ m) (q : some (getW x l) = some (.ok (u, m))) : ∃ m', some (Go.Proofs.YtaioeailgknfjaaGreatDoor.getW x l') = some (.ok ((), m')) ∧ Al r r' m m' := by
  obtain ⟨c, rfl⟩ := getW_inv q
  obtain ⟨c', -, h'⟩ := h.yes hne hs c
  exact ⟨_, by unfold Go.Proofs.YtaioeailgknfjaaGreatDoor.getW; rw [if_pos c'], h'⟩
theorem Al.kind_yes {r r' l l' : List Tk} (h : Al r r' l l') (hne : r ≠ []) {k : Int} (hs : r <:+ l.tail) (c : kindT l = k) : kindT l' = k ∧ textT l = textT l' ∧ Al r r' l.tail l'.tail := by
  cases h with
  | rest =>
    have := suffix_short hs
    cases r with
    | nil => exact absurd rfl hne
    | cons t r => simp only [List.tail_cons, List.length_cons] at this; omega
  | cons e1 e2 h => exact ⟨by rw [← c]; exact e1.symm, e2, h⟩
theorem Al.kind_no {r r' l l' : List Tk} (h : Al r r' l l') {k : Int} (hr' : kindT r' ≠ k) (c : ¬ kindT l = k) : ¬ kindT l' = k := by
  cases h with
  | rest => exact hr'
  | cons e1 e2 h => intro e; exact c (by rw [← e]; exact e1)
theorem Al.begins {r r' l l' : List Tk} (h : Al r r' l l') (hr : Halts r) (hr' : Halts r') : beginsT l = beginsT l' := by
  cases h with
  | rest => rw [hr.begins, hr'.begins]
  | cons e1 e2 h => simp [beginsT, kindT, isT, e1, e2]
theorem same_mk (h h' : Hd) (l l' : List Tm) : (Tm.mk h l).same (.mk h' l') = (h.same h' && Tm.sames l l') := by rw [Tm.same]
theorem Hd.same_rfl (h : Hd) : h.same h = true := by simp [Hd.same]
theorem same1 {h h' : Hd} {a a' : Tm} (e : h.same h' = true) (h1 : a.same a' = true) : (Tm.mk h [a]).same (.mk h' [a']) = true := by
  rw [same_mk]
  simp [e, Tm.sames, h1]
theorem same2 {h h' : Hd} {a a' b b' : Tm} (e : h.same h' = true) (h1 : a.same a' = true) (h2 : b.same b' = true) : (Tm.mk h [a, b]).same (.mk h' [a', b']) = true := by
  rw [same_mk]
  simp [e, Tm.sames, h1, h2]
theorem same3 {h h' : Hd} {a a' b b' c c' : Tm} (e : h.same h' = true) (h1 : a.same a' = true) (h2 : b.same b' = true) (h3 : c.same c' = true) : (Tm.mk h [a, b, c]).same (.mk h' [a', b', c']) = true := by
  rw [same_mk]
  simp [e, Tm.sames, h1, h2, h3]
theorem same0 {h h' : Hd} (e : h.same h' = true) : (Tm.mk h []).same (.mk h' []) = true := by
  rw [same_mk]
  simp [e, Tm.sames]
theorem same_put {x : ByteArray} {a a' b b' : Tm} (h1 : a.same a' = true) (h2 : b.same b' = true) : (putT x a b).same (putT x a' b') = true := by
  unfold putT
  split
  · exact same2 (by simp [Hd.same, hd0]) h1 h2
  · exact same2 (by simp [Hd.same, hd0]) h1 h2
theorem putT_x {x y : ByteArray} {a b : Tm} (e : x = y) : putT x a b = putT y a b := by rw [e]
set_option maxHeartbeats 2000000 in
theorem parseF_local (r r' : List Tk) (hr : Halts r) (hr' : Halts r') (hne : r ≠ []) (f : Nat) : ∀ nt nt' l l' t m, AlN nt nt' → Al r r' l l' → parseF f nt l = some (.ok (t, m)) → r <:+ m → ∃ t' m', parseF f nt' l' = some (.ok (t', m')) ∧ t.same t' = true ∧ Al r r' m m' := by
  induction f with
  | zero => intro nt nt' l l' t m _ _ h; cases h
  | succ f ih =>
    intro nt nt' l l' t m hN hA h hs
    cases hN with
    | expr =>
      unfold parseF at h
      split at h
      · rename_i c
        obtain ⟨x, l1, q1, h⟩ := andThen_inv h
        obtain ⟨_, l2, q2, h⟩ := andThen_inv h
        obtain ⟨a, l3, q3, h⟩ := andThen_inv h
        obtain ⟨_, l4, q4, h⟩ := andThen_inv h
        obtain ⟨b, l5, q5, h⟩ := andThen_inv h
        obtain ⟨rfl, rfl⟩ := done_inv h
        have s4 := hs.trans (parseF_suffix _ _ _ _ _ q5)
        have s3 := s4.trans (getW_suffix q4)
        have s2 := s3.trans (parseF_suffix _ _ _ _ _ q3)
        have s1 := s2.trans (getW_suffix q2)
        have s0 := s1.trans (getK_suffix q1)
        obtain ⟨c', -, A0⟩ := hA.yes hne s0 c
        obtain ⟨m1, e1, A1⟩ := A0.getK hne s1 q1
        obtain ⟨m2, e2, A2⟩ := A1.getW hne s2 q2
        obtain ⟨a', m3, e3, g3, A3⟩ := ih _ _ _ _ _ _ .expr A2 q3 s3
        obtain ⟨m4, e4, A4⟩ := A3.getW hne s4 q4
        obtain ⟨b', m5, e5, g5, A5⟩ := ih _ _ _ _ _ _ .expr A4 q5 hs
        refine ⟨.mk { hd0 12 (posT l') with name := x } [a', b'], m5, ?_, same2 (by simp [Hd.same, hd0]) g3 g5, A5⟩
        unfold parseF
        rw [if_pos c', e1, andThen_ok, e2, andThen_ok, e3, andThen_ok, e4, andThen_ok, e5, andThen_ok]
      rename_i c1
      have d1 := hA.no hr' (by decide +kernel) c1
      split at h
      · rename_i c
        obtain ⟨x, l1, q1, h⟩ := andThen_inv h
        obtain ⟨y, k1, p1, h⟩ := andThen_inv h
        obtain ⟨_, l2, q2, h⟩ := andThen_inv h
        obtain ⟨a, l3, q3, h⟩ := andThen_inv h
        obtain ⟨_, l4, q4, h⟩ := andThen_inv h
        obtain ⟨b, l5, q5, h⟩ := andThen_inv h
        obtain ⟨rfl, rfl⟩ := done_inv h
        have s4 := hs.trans (parseF_suffix _ _ _ _ _ q5)
        have s3 := s4.trans (getW_suffix q4)
        have s2 := s3.trans (parseF_suffix _ _ _ _ _ q3)
        have z1 := s2.trans (getW_suffix q2)
        have s1 := z1.trans (getK_suffix p1)
        have s0 := s1.trans (getK_suffix q1)
        obtain ⟨c', -, A0⟩ := hA.yes hne s0 c
        obtain ⟨m1, e1, A1⟩ := A0.getK hne s1 q1
        obtain ⟨n1, i1, B1⟩ := A1.getK hne z1 p1
        obtain ⟨m2, e2, A2⟩ := B1.getW hne s2 q2
        obtain ⟨a', m3, e3, g3, A3⟩ := ih _ _ _ _ _ _ .expr A2 q3 s3
        obtain ⟨m4, e4, A4⟩ := A3.getW hne s4 q4
        obtain ⟨b', m5, e5, g5, A5⟩ := ih _ _ _ _ _ _ .expr A4 q5 hs
        refine ⟨.mk { hd0 13 (posT l') with name := x, arg := y } [a', b'], m5, ?_, same2 (by simp [Hd.same, hd0]) g3 g5, A5⟩
        unfold parseF
        rw [if_neg d1, if_pos c', e1, andThen_ok, i1, andThen_ok, e2, andThen_ok, e3, andThen_ok, e4, andThen_ok, e5, andThen_ok]
      rename_i c2
      have d2 := hA.no hr' (by decide +kernel) c2
      split at h
      · rename_i c
        obtain ⟨x, l1, q1, h⟩ := andThen_inv h
        obtain ⟨_, l2, q2, h⟩ := andThen_inv h
        obtain ⟨a, l3, q3, h⟩ := andThen_inv h
        obtain ⟨rfl, rfl⟩ := done_inv h
        have s2 := hs.trans (parseF_suffix _ _ _ _ _ q3)
        have s1 := s2.trans (getW_suffix q2)
        have s0 := s1.trans (getK_suffix q1)
        obtain ⟨c', -, A0⟩ := hA.yes hne s0 c
        obtain ⟨m1, e1, A1⟩ := A0.getK hne s1 q1
        obtain ⟨m2, e2, A2⟩ := A1.getW hne s2 q2
        obtain ⟨a', m3, e3, g3, A3⟩ := ih _ _ _ _ _ _ .expr A2 q3 hs
        refine ⟨.mk { hd0 11 (posT l') with arg := x } [a'], m3, ?_, same1 (by simp [Hd.same, hd0]) g3, A3⟩
        unfold parseF
        rw [if_neg d1, if_neg d2, if_pos c', e1, andThen_ok, e2, andThen_ok, e3, andThen_ok]
      rename_i c3
      have d3 := hA.no hr' (by decide +kernel) c3
      split at h
      · rename_i c
        obtain ⟨a, l1, q1, h⟩ := andThen_inv h
        obtain ⟨_, l2, q2, h⟩ := andThen_inv h
        obtain ⟨b, l3, q3, h⟩ := andThen_inv h
        obtain ⟨_, l4, q4, h⟩ := andThen_inv h
        obtain ⟨d, l5, q5, h⟩ := andThen_inv h
        obtain ⟨rfl, rfl⟩ := done_inv h
        have s4 := hs.trans (parseF_suffix _ _ _ _ _ q5)
        have s3 := s4.trans (getW_suffix q4)
        have s2 := s3.trans (parseF_suffix _ _ _ _ _ q3)
        have s1 := s2.trans (getW_suffix q2)
        have s0 := s1.trans (parseF_suffix _ _ _ _ _ q1)
        obtain ⟨c', -, A0⟩ := hA.yes hne s0 c
        obtain ⟨a', m1, e1, g1, A1⟩ := ih _ _ _ _ _ _ .expr A0 q1 s1
        obtain ⟨m2, e2, A2⟩ := A1.getW hne s2 q2
        obtain ⟨b', m3, e3, g3, A3⟩ := ih _ _ _ _ _ _ .expr A2 q3 s3
        obtain ⟨m4, e4, A4⟩ := A3.getW hne s4 q4
        obtain ⟨d', m5, e5, g5, A5⟩ := ih _ _ _ _ _ _ .expr A4 q5 hs
        refine ⟨.mk (hd0 14 (posT l')) [a', b', d'], m5, ?_, same3 (by simp [Hd.same, hd0]) g1 g3 g5, A5⟩
        unfold parseF
        rw [if_neg d1, if_neg d2, if_neg d3, if_pos c', e1, andThen_ok, e2, andThen_ok, e3, andThen_ok, e4, andThen_ok, e5, andThen_ok]
      rename_i c4
      have d4 := hA.no hr' (by decide +kernel) c4
      split at h
      · rename_i c
        obtain ⟨a, l1, q1, h⟩ := andThen_inv h
        obtain ⟨_, l2, q2, h⟩ := andThen_inv h
        obtain ⟨x, l3, q3, h⟩ := andThen_inv h
        obtain ⟨y, l4, q4, h⟩ := andThen_inv h
        obtain ⟨_, l5, q5, h⟩ := andThen_inv h
        obtain ⟨b, l6, q6, h⟩ := andThen_inv h
        obtain ⟨rfl, rfl⟩ := done_inv h
        have s5 := hs.trans (parseF_suffix _ _ _ _ _ q6)
        have s4 := s5.trans (getW_suffix q5)
        have s3 := s4.trans (getK_suffix q4)
        have s2 := s3.trans (getK_suffix q3)
        have s1 := s2.trans (getW_suffix q2)
        have s0 := s1.trans (parseF_suffix _ _ _ _ _ q1)
        obtain ⟨c', -, A0⟩ := hA.yes hne s0 c
        obtain ⟨a', m1, e1, g1, A1⟩ := ih _ _ _ _ _ _ .expr A0 q1 s1
        obtain ⟨m2, e2, A2⟩ := A1.getW hne s2 q2
        obtain ⟨m3, e3, A3⟩ := A2.getK hne s3 q3
        obtain ⟨m4, e4, A4⟩ := A3.getK hne s4 q4
        obtain ⟨m5, e5, A5⟩ := A4.getW hne s5 q5
        obtain ⟨b', m6, e6, g6, A6⟩ := ih _ _ _ _ _ _ .expr A5 q6 hs
        refine ⟨.mk { hd0 16 (posT l') with exn := x, arg := y } [a', b'], m6, ?_, same2 (by simp [Hd.same, hd0]) g1 g6, A6⟩
        unfold parseF
        rw [if_neg d1, if_neg d2, if_neg d3, if_neg d4, if_pos c', e1, andThen_ok, e2, andThen_ok, e3, andThen_ok, e4, andThen_ok, e5, andThen_ok, e6, andThen_ok]
      rename_i c5
      have d5 := hA.no hr' (by decide +kernel) c5
      obtain ⟨t', m', e, g, A⟩ := ih _ _ _ _ _ _ (.lvl 0) hA h hs
      refine ⟨t', m', ?_, g, A⟩
      unfold parseF
      rw [if_neg d1, if_neg d2, if_neg d3, if_neg d4, if_neg d5, e]
    | lvl k =>
      unfold parseF at h
      split at h
      · rename_i hk
        obtain ⟨a, l1, q1, h⟩ := andThen_inv h
        have hx : inB (signsL k) s_shut = false := by
          match k, hk with
          | 0, _ => decide +kernel
          | 1, _ => decide +kernel
        split at h
        · rename_i c
          obtain ⟨b, l2, q2, h⟩ := andThen_inv h
          obtain ⟨rfl, rfl⟩ := done_inv h
          have s1 := hs.trans (parseF_suffix _ _ _ _ _ q2)
          obtain ⟨a', m1, e1, g1, A1⟩ := ih _ _ _ _ _ _ (.lvl (k + 1)) hA q1 (s1.trans (List.tail_suffix _))
          obtain ⟨c', ex, A0⟩ := A1.yes hne s1 c
          obtain ⟨b', m2, e2, g2, A2⟩ := ih _ _ _ _ _ _ (.lvl (k + 1)) A0 q2 hs
          refine ⟨putT (textT m1) a' b', m2, ?_, by rw [ex]; exact same_put g1 g2, A2⟩
          unfold parseF
          rw [if_pos hk, e1, andThen_ok, if_pos c', e2, andThen_ok]
        · rename_i c
          obtain ⟨rfl, rfl⟩ := done_inv h
          obtain ⟨a', m1, e1, g1, A1⟩ := ih _ _ _ _ _ _ (.lvl (k + 1)) hA q1 hs
          refine ⟨a', m1, ?_, g1, A1⟩
          unfold parseF
          rw [if_pos hk, e1, andThen_ok, if_neg (A1.no hr' hx c)]
      rename_i hk
      split at h
      · rename_i hk4
        obtain ⟨a, l1, q1, h⟩ := andThen_inv h
        have s1 := hs.trans (parseF_suffix _ _ _ _ _ h)
        obtain ⟨a', m1, e1, g1, A1⟩ := ih _ _ _ _ _ _ (.lvl (k + 1)) hA q1 s1
        obtain ⟨t', m2, e2, g2, A2⟩ := ih _ _ _ _ _ _ (.more k g1) A1 h hs
        refine ⟨t', m2, ?_, g2, A2⟩
        unfold parseF
        rw [if_neg hk, if_pos hk4, e1, andThen_ok, e2]
      · rename_i hk4
        obtain ⟨a, l1, q1, h⟩ := andThen_inv h
        have s1 := hs.trans (parseF_suffix _ _ _ _ _ h)
        obtain ⟨a', m1, e1, g1, A1⟩ := ih _ _ _ _ _ _ .unary hA q1 s1
        obtain ⟨t', m2, e2, g2, A2⟩ := ih _ _ _ _ _ _ (.args g1) A1 h hs
        refine ⟨t', m2, ?_, g2, A2⟩
        unfold parseF
        rw [if_neg hk, if_neg hk4, e1, andThen_ok, e2]
    | more k hg =>
      have hx : inB (signsL k) s_shut = false := by
        match k with
        | 0 => decide +kernel
        | 1 => decide +kernel
        | 2 => decide +kernel
        | k + 3 => exact (show inB [s_star] s_shut = false by decide +kernel)
      unfold parseF at h
      split at h
      · rename_i c
        obtain ⟨b, l1, q1, h⟩ := andThen_inv h
        have s1 := hs.trans (parseF_suffix _ _ _ _ _ h)
        obtain ⟨c', ex, A0⟩ := hA.yes hne (s1.trans (parseF_suffix _ _ _ _ _ q1)) c
        obtain ⟨b', m1, e1, g1, A1⟩ := ih _ _ _ _ _ _ (.lvl (k + 1)) A0 q1 s1
        obtain ⟨t', m2, e2, g2, A2⟩ := ih _ _ _ _ _ _ (.more k (same_put (x := textT l) hg g1)) A1 h hs
        refine ⟨t', m2, ?_, g2, A2⟩
        unfold parseF
        rw [if_pos c', e1, andThen_ok, ← ex, e2]
      · rename_i c
        obtain ⟨rfl, rfl⟩ := done_inv h
        refine ⟨_, _, ?_, hg, hA⟩
        unfold parseF
        rw [if_neg (hA.no hr' hx c)]
    | @args a0 a0' hg =>
      unfold parseF at h
      split at h
      · rename_i c
        obtain ⟨b, l1, q1, h⟩ := andThen_inv h
        have s1 := hs.trans (parseF_suffix _ _ _ _ _ h)
        obtain ⟨b', m1, e1, g1, A1⟩ := ih _ _ _ _ _ _ .unary hA q1 s1
        obtain ⟨t', m2, e2, g2, A2⟩ := ih _ _ _ _ _ _ (.args (same2 (h' := hd0 10 a0'.head.pos) (by simp [Hd.same, hd0]) hg g1)) A1 h hs
        refine ⟨t', m2, ?_, g2, A2⟩
        unfold parseF
        rw [if_pos (by rw [← hA.begins hr hr']; exact c), e1, andThen_ok, e2]
      · rename_i c
        obtain ⟨rfl, rfl⟩ := done_inv h
        refine ⟨_, _, ?_, hg, hA⟩
        unfold parseF
        rw [if_neg (by rw [← hA.begins hr hr']; exact c)]
    | unary =>
      unfold parseF at h
      split at h
      · rename_i c
        obtain ⟨a, l1, q1, h⟩ := andThen_inv h
        obtain ⟨rfl, rfl⟩ := done_inv h
        obtain ⟨c', ex, A0⟩ := hA.yes hne (hs.trans (parseF_suffix _ _ _ _ _ q1)) c
        obtain ⟨a', m1, e1, g1, A1⟩ := ih _ _ _ _ _ _ .unary A0 q1 hs
        refine ⟨.mk (hd0 (preK (textT l')) (posT l')) [a'], m1, ?_, same1 (by simp [Hd.same, hd0, ex]) g1, A1⟩
        unfold parseF
        rw [if_pos c', e1, andThen_ok]
      rename_i c1
      have d1 := hA.no hr' (by decide +kernel) c1
      split at h
      · rename_i c
        obtain ⟨x, l1, q1, h⟩ := andThen_inv h
        obtain ⟨a, l2, q2, h⟩ := andThen_inv h
        obtain ⟨rfl, rfl⟩ := done_inv h
        have s1 := hs.trans (parseF_suffix _ _ _ _ _ q2)
        obtain ⟨c', ex, A0⟩ := hA.yes hne (s1.trans (getK_suffix q1)) c
        obtain ⟨m1, e1, A1⟩ := A0.getK hne s1 q1
        obtain ⟨a', m2, e2, g2, A2⟩ := ih _ _ _ _ _ _ .unary A1 q2 hs
        refine ⟨.mk { hd0 15 (posT l') with exn := x } [a'], m2, ?_, same1 (by simp [Hd.same, hd0]) g2, A2⟩
        unfold parseF
        rw [if_neg d1, if_pos c', e1, andThen_ok, e2, andThen_ok]
      rename_i c2
      have d2 := hA.no hr' (by decide +kernel) c2
      split at h
      · rename_i c
        obtain ⟨rfl, rfl⟩ := done_inv h
        obtain ⟨c', ex, A0⟩ := hA.kind_yes hne hs c
        refine ⟨.mk { hd0 1 (posT l') with n := numV (textT l') } [], l'.tail, ?_, ?_, A0⟩
        · unfold parseF
          rw [if_neg d1, if_neg d2, if_pos c']
        · exact same0 (by simp [Hd.same, hd0, ex])
      rename_i c3
      have d3 := hA.kind_no hr'.one c3
      split at h
      · rename_i c
        obtain ⟨rfl, rfl⟩ := done_inv h
        obtain ⟨c', ex, A0⟩ := hA.kind_yes hne hs c
        refine ⟨.mk { hd0 2 (posT l') with name := textT l' } [], l'.tail, ?_, ?_, A0⟩
        · unfold parseF
          rw [if_neg d1, if_neg d2, if_neg d3, if_pos c']
        · exact same0 (by simp [Hd.same, hd0, ex])
      rename_i c4
      have d4 := hA.kind_no hr'.two c4
      obtain ⟨_, l1, q1, h⟩ := andThen_inv h
      obtain ⟨a, l2, q2, h⟩ := andThen_inv h
      split at h
      · rename_i c
        obtain ⟨b, l3, q3, h⟩ := andThen_inv h
        obtain ⟨_, l4, q4, h⟩ := andThen_inv h
        obtain ⟨rfl, rfl⟩ := done_inv h
        have s3 := hs.trans (getW_suffix q4)
        have s2 := s3.trans (parseF_suffix _ _ _ _ _ q3)
        have s1 := (s2.trans (List.tail_suffix _)).trans (parseF_suffix _ _ _ _ _ q2)
        obtain ⟨m1, e1, A1⟩ := hA.getW hne s1 q1
        obtain ⟨a', m2, e2, g2, A2⟩ := ih _ _ _ _ _ _ .expr A1 q2 (s2.trans (List.tail_suffix _))
        obtain ⟨c', -, A2'⟩ := A2.yes hne s2 c
        obtain ⟨b', m3, e3, g3, A3⟩ := ih _ _ _ _ _ _ .expr A2' q3 s3
        obtain ⟨m4, e4, A4⟩ := A3.getW hne hs q4
        refine ⟨.mk (hd0 3 (posT l')) [a', b'], m4, ?_, same2 (by simp [Hd.same, hd0]) g2 g3, A4⟩
        unfold parseF
        rw [if_neg d1, if_neg d2, if_neg d3, if_neg d4, e1, andThen_ok, e2, andThen_ok, if_pos c', e3, andThen_ok, e4, andThen_ok]
      · rename_i c
        obtain ⟨_, l3, q3, h⟩ := andThen_inv h
        obtain ⟨rfl, rfl⟩ := done_inv h
        have s2 := hs.trans (getW_suffix q3)
        have s1 := s2.trans (parseF_suffix _ _ _ _ _ q2)
        obtain ⟨m1, e1, A1⟩ := hA.getW hne s1 q1
        obtain ⟨a', m2, e2, g2, A2⟩ := ih _ _ _ _ _ _ .expr A1 q2 s2
        obtain ⟨m3, e3, A3⟩ := A2.getW hne hs q3
        refine ⟨a', m3, ?_, g2, A3⟩
        unfold parseF
        rw [if_neg d1, if_neg d2, if_neg d3, if_neg d4, e1, andThen_ok, e2, andThen_ok, if_neg (A2.no hr' (by decide +kernel) c), e3, andThen_ok]
end Go.Proofs.YtaioeailgknfjaaGreatDoor
namespace Go.Proofs.YtaioeailgknfjaaGreatDoor
open Go

theorem Halts.ended {e : Tk} {l : List Tk} (h : e.k = 6) : Halts (e :: l) := ⟨fun xs _ => by simp [Go.Proofs.YtaioeailgknfjaaGreatDoor.isT, h], by simp [kindT, h], by simp [kindT, h]⟩
theorem Halts.shut {e : Tk} {l : List Tk} (h : e.k = 5) (ht : e.text = s_shut) : Halts (e :: l) := ⟨fun xs hx => by simp [Go.Proofs.YtaioeailgknfjaaGreatDoor.isT, ht, hx], by simp [kindT, h], by simp [kindT, h]⟩
/-- From what stands closest outwards. -/
theorem up_args {f : Nat} {l m : List Tk} {t : Tm} (h : parseF f .unary l = some (.ok (t, m))) (hm : beginsT m = false) : parseF (f + 2) (.lvl 4) l = some (.ok (t, m)) := by
  have e := parseF_mono1 _ _ _ _ h
  unfold parseF
  rw [if_neg (by omega), if_neg (by omega), e, andThen_ok]
  unfold parseF
  rw [if_neg (by rw [hm]; simp)]
theorem up_lvl {f k : Nat} {l m : List Tk} {t : Tm} (hk : k < 4) (h : parseF (f + 1) (.lvl (k + 1)) l = some (.ok (t, m))) (hm : isT (signsL k) m = false) : parseF (f + 2) (.lvl k) l = some (.ok (t, m)) := by
  have hm' : ¬ isT (signsL k) m = true := by rw [hm]; simp
  unfold parseF
  by_cases h2 : k < 2
  · rw [if_pos h2, h, andThen_ok, if_neg hm']
  · rw [if_neg h2, if_pos hk, h, andThen_ok]
    unfold parseF
    rw [if_neg hm']
theorem up_expr {f : Nat} {l m : List Tk} {t : Tm} (h : parseF f (.lvl 0) l = some (.ok (t, m))) (hl : ∀ xs, inB xs s_open = false → isT xs l = false) : parseF (f + 1) .expr l = some (.ok (t, m)) := by
  have n : ∀ xs, inB xs s_open = false → ¬ isT xs l = true := fun xs hx => by rw [hl xs hx]; simp
  unfold parseF
  rw [if_neg (n _ (by decide +kernel)), if_neg (n _ (by decide +kernel)), if_neg (n _ (by decide +kernel)), if_neg (n _ (by decide +kernel)), if_neg (n _ (by decide +kernel)), h]
/-- What stands in brackets. -/
theorem in_brackets {f : Nat} {tk : Tk} {l m : List Tk} {t : Tm} (h : parseF f .expr l = some (.ok (t, m))) (hk : tk.k = 5) (ht : tk.text = s_open) (hm : isT [s_shut] m = true) : parseF (f + 1) .unary (tk :: l) = some (.ok (t, m.tail)) := by
  have n : ∀ xs, inB xs s_open = false → ¬ isT xs (tk :: l) = true := fun xs hx => by simp [isT, ht, hx]
  have c : ¬ isT [s_comma] m = true := by
    obtain ⟨u, r, rfl, -, hu, hu'⟩ := isT_ne hm
    simp at hu
    simp only [isT, hu]
    simp only [show inB [s_comma] s_shut = false by decide +kernel]
    simp
  unfold parseF
  rw [if_neg (n _ (by decide +kernel)), if_neg (n _ (by decide +kernel)), if_neg (by simp [kindT, hk]), if_neg (by simp [kindT, hk])]
  rw [show getW s_open (tk :: l) = .ok ((), l) by unfold getW; rw [if_pos (by simp only [isT, hk, ht]; decide +kernel)]; rfl, andThen_ok, h, andThen_ok, if_neg c]
  rw [show getW s_shut m = .ok ((), m.tail) by unfold getW; rw [if_pos hm], andThen_ok]
/-- A whole text's tokens, moved into brackets: the same term, but for places. -/
theorem moved {f : Nat} {l l' r' : List Tk} {e op sh : Tk} {t : Tm} (h : parseF f .expr l = some (.ok (t, [e]))) (he : e.k = 6) (hA : Al [e] (sh :: r') l l') (hs : sh.k = 5) (hs' : sh.text = s_shut) (ho : op.k = 5) (ho' : op.text = s_open) :
    ∃ t', parseF (f + 1) .unary (op :: l') = some (.ok (t', r')) ∧ t.same t' = true := by
  obtain ⟨t', m', h', g, hA'⟩ := parseF_local [e] (sh :: r') (.ended he) (.shut hs hs') (by simp) f _ _ _ _ _ _ .expr hA h (List.suffix_refl _)
  have hm' : m' = sh :: r' := by
    cases hA' with
    | rest => rfl
    | cons _ _ h =>
      have : ∀ {a b x y : List Tk}, Al a b x y → a.length ≤ x.length := by
        intro a b x y h
        induction h with
        | rest => exact Nat.le_refl _
        | cons _ _ _ ih => simp only [List.length_cons]; omega
      have := this h
      simp at this
  subst hm'
  exact ⟨t', in_brackets h' ho ho' (by simp only [isT, hs, hs']; decide +kernel), g⟩
/-- Brackets around a whole text. -/
theorem bracketed {f : Nat} {l l' r' : List Tk} {e op sh : Tk} {t : Tm} (h : parseF f .expr l = some (.ok (t, [e]))) (he : e.k = 6) (hA : Al [e] (sh :: r') l l') (hs : sh.k = 5) (hs' : sh.text = s_shut) (ho : op.k = 5) (ho' : op.text = s_open) (hr : Halts r') :
    ∃ t' g, parseF g .expr (op :: l') = some (.ok (t', r')) ∧ t.same t' = true := by
  obtain ⟨t', h1, g⟩ := moved h he hA hs hs' ho ho'
  have h4 := up_args h1 hr.begins
  have h3 := up_lvl (k := 3) (by omega) h4 (hr.isT _ (by decide +kernel))
  have h2 := up_lvl (k := 2) (by omega) h3 (hr.isT _ (by decide +kernel))
  have h1 := up_lvl (k := 1) (by omega) h2 (hr.isT _ (by decide +kernel))
  have h0 := up_lvl (k := 0) (by omega) h1 (hr.isT _ (by decide +kernel))
  exact ⟨t', _, up_expr h0 fun xs hx => by simp [isT, ho', hx], g⟩
end Go.Proofs.YtaioeailgknfjaaGreatDoor
namespace Go.Proofs.YtaioeailgknfjaaGreatDoor
open Go

theorem climb {f : Nat} {l m : List Tk} {t : Tm} (h : parseF f .unary l = some (.ok (t, m))) (hb : beginsT m = false) : ∀ (d n : Nat), n + d = 4 → (∀ j, n ≤ j → j < 4 → isT (signsL j) m = false) → ∃ g, parseF (g + 1) (.lvl n) l = some (.ok (t, m)) := by
  intro d
  induction d with
  | zero => intro n e hs; obtain rfl : n = 4 := by omega
            exact ⟨f + 1, up_args h hb⟩
  | succ d ih =>
    intro n e hs
    obtain ⟨g, hg⟩ := ih (n + 1) (by omega) fun j h1 h2 => hs j (by omega) h2
    exact ⟨g + 1, up_lvl (by omega) hg (hs n (Nat.le_refl _) (by omega))⟩
theorem climb_out {l m : List Tk} {t : Tm} : ∀ (k f : Nat), k ≤ 4 → parseF (f + 1) (.lvl k) l = some (.ok (t, m)) → (∀ j, j < k → isT (signsL j) m = false) → ∃ g, parseF (g + 1) (.lvl 0) l = some (.ok (t, m)) := by
  intro k
  induction k with
  | zero => intro f _ h _; exact ⟨f, h⟩
  | succ k ih => intro f hk h hs; exact ih (f + 1) (by omega) (up_lvl (by omega) h (hs k (by omega))) fun j hj => hs j (by omega)
theorem signed {f k : Nat} {l r3 : List Tk} {sg : Tk} {r2 : List Tk} {x y : Tm} (hk : k < 4) (h1 : parseF (f + 1) (.lvl (k + 1)) l = some (.ok (x, sg :: r2))) (hs : isT (signsL k) (sg :: r2) = true) (h2 : parseF (f + 1) (.lvl (k + 1)) r2 = some (.ok (y, r3))) (h3 : isT (signsL k) r3 = false) :
    parseF (f + 3) (.lvl k) l = some (.ok (putT sg.text x y, r3)) := by
  have h1' := parseF_mono1 _ _ _ _ h1
  have h2' := parseF_mono1 _ _ _ _ h2
  have h3' : ¬ isT (signsL k) r3 = true := by rw [h3]; simp
  unfold parseF
  by_cases c2 : k < 2
  · rw [if_pos c2, h1', andThen_ok, if_pos hs, List.tail_cons, h2', andThen_ok]
    rfl
  · rw [if_neg c2, if_pos hk, h1', andThen_ok]
    unfold parseF
    rw [if_pos hs, List.tail_cons, h2, andThen_ok]
    unfold parseF
    rw [if_neg h3']
    rfl
/-- Two operands and a sign. -/
theorem two_signed {f1 f2 k : Nat} {l r2 r3 : List Tk} {sg : Tk} {x y : Tm} (hk : k < 4) (h1 : parseF f1 .unary l = some (.ok (x, sg :: r2))) (h2 : parseF f2 .unary r2 = some (.ok (y, r3))) (hsg : sg.k = 5) (hs : inB (signsL k) sg.text = true) (ho : ∀ j, j < 4 → j ≠ k → inB (signsL j) sg.text = false) (hbeg : beginsT (sg :: r2) = false) (hr : Halts r3) (hl : ∀ xs, inB xs s_open = false → isT xs l = false) :
    ∃ g, parseF g .expr l = some (.ok (putT sg.text x y, r3)) := by
  have hsl : ∀ j, inB (signsL j) s_shut = false := by
    intro j
    match j with
    | 0 => decide +kernel
    | 1 => decide +kernel
    | 2 => decide +kernel
    | j + 3 => exact (show inB [s_star] s_shut = false by decide +kernel)
  have iT : ∀ xs, isT xs (sg :: r2) = inB xs sg.text := fun xs => by simp [isT, hsg]
  obtain ⟨g1, e1⟩ := climb h1 hbeg (3 - k) (k + 1) (by omega) fun j a b => by rw [iT]; exact ho j b (by omega)
  obtain ⟨g2, e2⟩ := climb h2 hr.begins (3 - k) (k + 1) (by omega) fun j a b => hr.isT _ (hsl j)
  have e1' := parseF_mono (show g1 + 1 ≤ max g1 g2 + 1 by omega) e1
  have e2' := parseF_mono (show g2 + 1 ≤ max g1 g2 + 1 by omega) e2
  have e := signed hk e1' (by rw [iT]; exact hs) e2' (hr.isT _ (hsl k))
  obtain ⟨g, e⟩ := climb_out k _ (by omega) e fun j hj => hr.isT _ (hsl j)
  exact ⟨_, up_expr e hl⟩
/-- One applied to the other. -/
theorem two_applied {f1 f2 : Nat} {l r2 r3 : List Tk} {x y : Tm} (h1 : parseF f1 .unary l = some (.ok (x, r2))) (hb : beginsT r2 = true) (h2 : parseF f2 .unary r2 = some (.ok (y, r3))) (hr : Halts r3) (hl : ∀ xs, inB xs s_open = false → isT xs l = false) :
    ∃ g, parseF g .expr l = some (.ok (.mk (hd0 10 x.head.pos) [x, y], r3)) := by
  have hsl : ∀ j, inB (signsL j) s_shut = false := by
    intro j
    match j with
    | 0 => decide +kernel
    | 1 => decide +kernel
    | 2 => decide +kernel
    | j + 3 => exact (show inB [s_star] s_shut = false by decide +kernel)
  have a1 := parseF_mono (show f1 ≤ max f1 f2 + 2 by omega) h1
  have a2 := parseF_mono (show f2 ≤ max f1 f2 + 1 by omega) h2
  have e : parseF (max f1 f2 + 3) (.lvl 4) l = some (.ok (.mk (hd0 10 x.head.pos) [x, y], r3)) := by
    unfold parseF
    rw [if_neg (by omega), if_neg (by omega), a1, andThen_ok]
    unfold parseF
    rw [if_pos hb, a2, andThen_ok]
    unfold parseF
    rw [if_neg (by rw [hr.begins]; simp)]
  obtain ⟨g, e⟩ := climb_out 4 (max f1 f2 + 2) (Nat.le_refl _) e fun j hj => hr.isT _ (hsl j)
  exact ⟨_, up_expr e hl⟩
end Go.Proofs.YtaioeailgknfjaaGreatDoor
