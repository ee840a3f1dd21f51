/- Trees of terms in memory. No program in sight. -/
import Derived.Test.YtaioeailgknfjaaGreatDoorRowMem
import Derived.Test.YtaioeailgknfjaaGreatDoorPureT
namespace Go.Proofs.YtaioeailgknfjaaGreatDoor
open Go Go.RowKit Go.Sort

/-- A head's cells. -/
structure HdAt (w : World) (h : Hd) (b o : Nat) : Prop where
  c0 : w.cell? ⟨b, o, none⟩ = some (.int .u8 h.k)
  c1 : w.cell? ⟨b, o + 1, none⟩ = some (.int .u8 h.op)
  c2 : w.cell? ⟨b, o + 2, none⟩ = some (.int .i64 h.pos)
  c3 : w.cell? ⟨b, o + 3, none⟩ = some (.int .i64 h.n)
  c4 : w.cell? ⟨b, o + 4, none⟩ = some (.string h.name)
  c5 : w.cell? ⟨b, o + 5, none⟩ = some (.string h.arg)
  c6 : w.cell? ⟨b, o + 6, none⟩ = some (.string h.exn)
/-- A term's value, of its head and its kids' slice. -/
def tval (h : Hd) (a : Option Addr) (len cap : Nat) : Value := .agg #[.int .u8 h.k, .int .u8 h.op, .int .i64 h.pos, .int .i64 h.n, .string h.name, .string h.arg, .string h.exn, .slice a len cap]
/-- A term's cells. -/
def tcells (h : Hd) (a : Option Addr) (len cap : Nat) : Array Value := #[.int .u8 h.k, .int .u8 h.op, .int .i64 h.pos, .int .i64 h.n, .string h.name, .string h.arg, .string h.exn, .slice a len cap]
mutual
/-- A term in memory, at a place, its kids in none of the blocks A. -/
def TmAt (A : Nat → Prop) (w : World) : Tm → Nat → Nat → Prop
  | .mk h l, b, o => HdAt w h b o ∧ h.Fits ∧ ∃ a len cap, w.cell? ⟨b, o + 7, none⟩ = some (.slice a len cap) ∧ len ≤ cap ∧ cap ≤ maxLen ∧ IsTmsA A w l a len
/-- A row of terms in memory. -/
def IsTmsA (A : Nat → Prop) (w : World) : List Tm → Option Addr → Nat → Prop
  | [], _, len => len = 0
  | t :: l, a, len => 0 < len ∧ ∃ b o, a = some ⟨b, o, none⟩ ∧ ¬ A b ∧ TmAt A w t b o ∧ IsTmsA A w l (some ⟨b, o + 8, none⟩) (len - 1)
end
/-- A value is a term. -/
def IsTmA (A : Nat → Prop) (w : World) (t : Tm) (v : Value) : Prop := ∃ a len cap, v = tval t.head a len cap ∧ t.head.Fits ∧ len ≤ cap ∧ cap ≤ maxLen ∧ IsTmsA A w t.kids a len
abbrev IsTm (w : World) (t : Tm) (v : Value) : Prop := IsTmA NoA w t v
abbrev IsTms (w : World) (l : List Tm) (a : Option Addr) (len : Nat) : Prop := IsTmsA NoA w l a len
theorem IsTmsA.length {A : Nat → Prop} {w : World} {l : List Tm} {a : Option Addr} {len : Nat} (h : IsTmsA A w l a len) : len = l.length := by
  induction l generalizing a len with
  | nil => simpa [IsTmsA] using h
  | cons t l ih =>
    simp only [IsTmsA] at h
    obtain ⟨h0, b, o, rfl, _, _, hl⟩ := h
    have := ih hl
    simp; omega
theorem IsTmsA.nil {A : Nat → Prop} {w : World} (a : Option Addr) : IsTmsA A w [] a 0 := by simp [IsTmsA]
theorem HdAt.move {w w' : World} {h : Hd} {b o : Nat} (hc : ∀ i v, w.cell? ⟨b, i, none⟩ = some v → w'.cell? ⟨b, i, none⟩ = some v) (g : HdAt w h b o) : HdAt w' h b o :=
  ⟨hc _ _ g.c0, hc _ _ g.c1, hc _ _ g.c2, hc _ _ g.c3, hc _ _ g.c4, hc _ _ g.c5, hc _ _ g.c6⟩
mutual
theorem TmAt.move {A A' : Nat → Prop} {w w' : World} (hA : ∀ b, b < w.heap.size → A' b → A b) (hc : ∀ p v, ¬ A p.block → w.cell? p = some v → w'.cell? p = some v) : ∀ {t : Tm} {b o : Nat}, ¬ A b → TmAt A w t b o → TmAt A' w' t b o
  | .mk h l, b, o, hb, g => by
    simp only [TmAt] at g ⊢
    obtain ⟨g1, g2, a, len, cap, q, e1, e2, gl⟩ := g
    exact ⟨g1.move fun i v => hc ⟨b, i, none⟩ v hb, g2, a, len, cap, hc _ _ hb q, e1, e2, IsTmsA.move hA hc gl⟩
theorem IsTmsA.move {A A' : Nat → Prop} {w w' : World} (hA : ∀ b, b < w.heap.size → A' b → A b) (hc : ∀ p v, ¬ A p.block → w.cell? p = some v → w'.cell? p = some v) : ∀ {l : List Tm} {a : Option Addr} {len : Nat}, IsTmsA A w l a len → IsTmsA A' w' l a len
  | [], a, len, g => by simpa only [IsTmsA] using g
  | t :: l, a, len, g => by
    simp only [IsTmsA] at g ⊢
    obtain ⟨g0, b, o, e, hb, gt, gl⟩ := g
    refine ⟨g0, b, o, e, fun h => hb (hA b ?_ h), TmAt.move hA hc hb gt, IsTmsA.move hA hc gl⟩
    obtain ⟨h, l'⟩ := t
    simp only [TmAt] at gt
    exact block_lt_of_cell gt.1.c0
end
theorem IsTmA.move {A A' : Nat → Prop} {w w' : World} (hA : ∀ b, b < w.heap.size → A' b → A b) (hc : ∀ p v, ¬ A p.block → w.cell? p = some v → w'.cell? p = some v) {t : Tm} {v : Value} (h : IsTmA A w t v) : IsTmA A' w' t v := by
  obtain ⟨a, len, cap, e, f, h1, h2, hl⟩ := h
  exact ⟨a, len, cap, e, f, h1, h2, hl.move hA hc⟩
theorem IsTmA.ext {A : Nat → Prop} {w w' : World} (hb : Ext w w') {t : Tm} {v : Value} (h : IsTmA A w t v) : IsTmA A w' t v := h.move (fun _ _ h => h) fun _ _ _ h => hb.cell h
theorem IsTmsA.ext {A : Nat → Prop} {w w' : World} (hb : Ext w w') {l : List Tm} {a : Option Addr} {len : Nat} (h : IsTmsA A w l a len) : IsTmsA A w' l a len := h.move (fun _ _ h => h) fun _ _ _ h => hb.cell h
theorem IsTmA.any {A : Nat → Prop} {w : World} {t : Tm} {v : Value} (h : IsTmA A w t v) : IsTm w t v := h.move (fun _ _ h => h.elim) fun _ _ _ h => h
theorem IsTmsA.any {A : Nat → Prop} {w : World} {l : List Tm} {a : Option Addr} {len : Nat} (h : IsTmsA A w l a len) : IsTms w l a len := h.move (fun _ _ h => h.elim) fun _ _ _ h => h
/-- Fewer blocks to avoid, or ones that aren't there. -/
theorem IsTmA.off {A A' : Nat → Prop} {w : World} (hA : ∀ b, b < w.heap.size → A' b → A b) {t : Tm} {v : Value} (h : IsTmA A w t v) : IsTmA A' w t v := h.move hA fun _ _ _ h => h
theorem IsTmsA.off {A A' : Nat → Prop} {w : World} (hA : ∀ b, b < w.heap.size → A' b → A b) {l : List Tm} {a : Option Addr} {len : Nat} (h : IsTmsA A w l a len) : IsTmsA A' w l a len := h.move hA fun _ _ _ h => h
/-- New blocks can be avoided. -/
theorem IsTmsA.fresh {A A' : Nat → Prop} {w w' : World} (hx : Ext w w') (hA : ∀ b, A' b → w.heap.size ≤ b) {l : List Tm} {a : Option Addr} {len : Nat} (h : IsTmsA A w l a len) : IsTmsA A' w' l a len :=
  h.move (fun b hb h' => by have := hA b h'; omega) fun _ _ _ h => hx.cell h
theorem IsTmA.fresh {A A' : Nat → Prop} {w w' : World} (hx : Ext w w') (hA : ∀ b, A' b → w.heap.size ≤ b) {t : Tm} {v : Value} (h : IsTmA A w t v) : IsTmA A' w' t v :=
  h.move (fun b hb h' => by have := hA b h'; omega) fun _ _ _ h => hx.cell h
/-- A store into a block that is avoided. -/
theorem IsTmA.setCell {A : Nat → Prop} {w : World} {p : Addr} (hp : A p.block) (u : Value) {t : Tm} {v : Value} (h : IsTmA A w t v) : IsTmA A (w.setCell p u) t v :=
  h.move (fun _ _ h => h) fun q _ hq hv => (World.cell?_setCell_other w p q u (fun e => hq (by subst e; exact hp))).trans hv
theorem IsTmsA.setCell {A : Nat → Prop} {w : World} {p : Addr} (hp : A p.block) (u : Value) {l : List Tm} {a : Option Addr} {len : Nat} (h : IsTmsA A w l a len) : IsTmsA A (w.setCell p u) l a len :=
  h.move (fun _ _ h => h) fun q _ hq hv => (World.cell?_setCell_other w p q u (fun e => hq (by subst e; exact hp))).trans hv
theorem IsTmA.mk_ {A : Nat → Prop} {w : World} {h : Hd} {l : List Tm} {a : Option Addr} {len cap : Nat} (hl : IsTmsA A w l a len) (h1 : len ≤ cap) (h2 : cap ≤ 9223372036854775807) (hf : h.Fits) : IsTmA A w (.mk h l) (tval h a len cap) :=
  ⟨a, len, cap, rfl, hf, h1, h2, hl⟩
/-- What a term is made of. -/
theorem IsTmA.open_ {A : Nat → Prop} {w : World} {h : Hd} {l : List Tm} {v : Value} (g : IsTmA A w (.mk h l) v) :
    ∃ a len cap, v = .agg #[.int .u8 h.k, .int .u8 h.op, .int .i64 h.pos, .int .i64 h.n, .string h.name, .string h.arg, .string h.exn, .slice a len cap] ∧ len ≤ cap ∧ cap ≤ 9223372036854775807 ∧ h.Fits ∧ IsTmsA A w l a len := by
  obtain ⟨a, len, cap, e, f, h1, h2, hl⟩ := g
  exact ⟨a, len, cap, e, h1, h2, f, hl⟩
/-- A term at a place is one. -/
theorem TmAt.val {A : Nat → Prop} {w : World} {h : Hd} {l : List Tm} {b o : Nat} (g : TmAt A w (.mk h l) b o) : ∃ a len cap, HdAt w h b o ∧ w.cell? ⟨b, o + 7, none⟩ = some (.slice a len cap) ∧ h.Fits ∧ len ≤ cap ∧ cap ≤ 9223372036854775807 ∧ IsTmsA A w l a len := by
  simp only [TmAt] at g
  obtain ⟨g1, g2, a, len, cap, q, e1, e2, gl⟩ := g
  exact ⟨a, len, cap, g1, q, g2, e1, e2, gl⟩
theorem IsTmsA.place {A : Nat → Prop} {w : World} {l : List Tm} {a : Option Addr} {len : Nat} (h : IsTmsA A w l a len) {i : Nat} {t : Tm} (hi : l[i]? = some t) : ∃ b o, a = some ⟨b, o, none⟩ ∧ ¬ A b ∧ TmAt A w t b (o + i * 8) := by
  induction l generalizing a len i with
  | nil => simp at hi
  | cons x l ih =>
    simp only [IsTmsA] at h
    obtain ⟨h0, b, o, rfl, hb, gt, hl⟩ := h
    cases i with
    | zero =>
      simp at hi
      subst hi
      exact ⟨b, o, rfl, hb, by simpa using gt⟩
    | succ i =>
      simp at hi
      obtain ⟨b', o', e, hb', q⟩ := ih hl hi
      simp at e
      obtain ⟨rfl, rfl⟩ := e
      exact ⟨b, o, rfl, hb, by rw [show o + (i + 1) * 8 = o + 8 + i * 8 from by omega]; exact q⟩
/-- A row out of its terms. -/
theorem IsTmsA.of_places {A : Nat → Prop} {w : World} (l : List Tm) (b o : Nat) (hb : ¬ A b) (h : ∀ i t, l[i]? = some t → TmAt A w t b (o + i * 8)) : IsTmsA A w l (some ⟨b, o, none⟩) l.length := by
  induction l generalizing o with
  | nil => simp [IsTmsA]
  | cons t l ih =>
    simp only [IsTmsA]
    refine ⟨by simp, b, o, rfl, hb, by simpa using h 0 t rfl, ?_⟩
    have := ih (o + 8) fun i t hi => by
      have := h (i + 1) t (by simpa using hi)
      rw [show o + (i + 1) * 8 = o + 8 + i * 8 from by omega] at this
      exact this
    simpa using this
/-- A row behind its first term. -/
theorem IsTmsA.tail_ {A : Nat → Prop} {w : World} {t : Tm} {l : List Tm} {b o len : Nat} (h : IsTmsA A w (t :: l) (some ⟨b, o, none⟩) len) : IsTmsA A w l (some ⟨b, o + 8, none⟩) (len - 1) := by
  simp only [IsTmsA] at h
  obtain ⟨_, b', o', e, _, _, hl⟩ := h
  simp at e
  obtain ⟨rfl, rfl⟩ := e
  exact hl
/-- One round's term of a row. -/
theorem IsTmsA.at8 {A : Nat → Prop} {w w1 : World} (hx : Ext w w1) {l : List Tm} {a : Option Addr} {len : Nat} (h : IsTmsA A w l a len) {i : Nat} (hi : i < len) :
    ∃ x k b o ak lenk capk, l[i]? = some (.mk x k) ∧ a = some ⟨b, o, none⟩ ∧ ¬ A b ∧ HdAt w1 x b (o + i * 8) ∧ w1.cell? ⟨b, o + i * 8 + 7, none⟩ = some (.slice ak lenk capk) ∧ x.Fits ∧ lenk ≤ capk ∧ capk ≤ 9223372036854775807 ∧ IsTmsA A w1 k ak lenk := by
  have hl := h.length
  have hi' : l[i]? = some l[i] := List.getElem?_eq_getElem (hl ▸ hi)
  obtain ⟨b, o, e, hb, q⟩ := (h.ext hx).place hi'
  generalize l[i] = t at *
  obtain ⟨x, k⟩ := t
  obtain ⟨ak, lenk, capk, g1, g2, g3, g4, g5, g6⟩ := q.val
  exact ⟨x, k, b, o, ak, lenk, capk, hi', e, hb, g1, g2, g3, g4, g5, g6⟩
/-- A block that holds a term. -/
theorem tmAt_new {A : Nat → Prop} {w' : World} {h : Hd} {l : List Tm} {a : Option Addr} {len cap : Nat} {b : Nat} (hc : ∀ i : Nat, w'.cell? ⟨b, i, none⟩ = (tcells h a len cap)[i]?) (hl : IsTmsA A w' l a len) (h1 : len ≤ cap) (h2 : cap ≤ 9223372036854775807) (hf : h.Fits) : TmAt A w' (.mk h l) b 0 := by
  simp only [TmAt]
  refine ⟨⟨by rw [hc]; rfl, by rw [hc]; rfl, by rw [hc]; rfl, by rw [hc]; rfl, by rw [hc]; rfl, by rw [hc]; rfl, by rw [hc]; rfl⟩, hf, a, len, cap, by rw [hc]; rfl, h1, h2, hl⟩
/-- A row of one term. -/
theorem IsTmsA.one {A : Nat → Prop} {w : World} {t : Tm} {b : Nat} (hb : ¬ A b) (h : TmAt A w t b 0) : IsTmsA A w [t] (some ⟨b, 0, none⟩) 1 :=
  IsTmsA.of_places [t] b 0 hb fun i t' hi => by
    cases i with
    | zero => simp at hi; subst hi; simpa using h
    | succ i => simp at hi
/-- A new block of one term is a row of it. -/
theorem IsTms.new {w : World} {h : Hd} {l : List Tm} {a : Option Addr} {len cap : Nat} (T : TypeId) (hl : IsTms w l a len) (h1 : len ≤ cap) (h2 : cap ≤ 9223372036854775807) (hf : h.Fits) :
    IsTms (w.alloc (.cells (tcells h a len cap) T)) [.mk h l] (some ⟨w.heap.size, 0, none⟩) 1 :=
  IsTmsA.one id (tmAt_new (fun i => World.cell?_alloc_new w _ _ _) (hl.ext ((Ext.refl _).alloc _)) h1 h2 hf)
end Go.Proofs.YtaioeailgknfjaaGreatDoor
