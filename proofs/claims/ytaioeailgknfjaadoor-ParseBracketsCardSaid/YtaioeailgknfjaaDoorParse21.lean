/- The walk of the closure of parse.Parse: a program out of tokens. -/
import Derived.Test.YtaioeailgknfjaaDoorParse19
import Derived.Test.YtaioeailgknfjaaDoorPureP14
namespace Go.Proofs.YtaioeailgknfjaaDoor
open Go Go.RowKit Go.Sort

/-- A program's cells. -/
def pcells (ea : Option Addr) (en ec : Nat) (x : Hd) (a : Option Addr) (n c : Nat) : Array Value := #[.slice ea en ec, .int .u8 x.k, .int .u8 x.op, .int .i64 x.pos, .int .i64 x.n, .string x.name, .string x.arg, .string x.exn, .slice a n c]
/-- A block that holds exceptions, and no term yet. -/
def OutE (ob : Nat) (w : World) (ea : Option Addr) (en ec : Nat) : Prop := Blk w ob 44 #[.slice ea en ec, .int .u8 0, .int .u8 0, .int .i64 0, .int .i64 0, .string ⟨#[]⟩, .string ⟨#[]⟩, .string ⟨#[]⟩, .slice none 0 0]
def OutPZ (ob : Nat) (w : World) : Prop := OutE ob w none 0 0
/-- A row of tokens that moves along. -/
def ToksB (B : Nat) (w : World) (es : List Tk) (ea : Option Addr) (en : Nat) : Prop := IsToks w es ea en ∧ ∀ p, ea = some p → B ≤ p.block
/-- A block that holds a program. -/
def OutP (ob B : Nat) (w : World) (q : List Tk × Tm) : Prop := ∃ ea en ec a n c, Blk w ob 44 #[.slice ea en ec, .int .u8 q.2.head.k, .int .u8 q.2.head.op, .int .i64 q.2.head.pos, .int .i64 q.2.head.n, .string q.2.head.name, .string q.2.head.arg, .string q.2.head.exn, .slice a n c] ∧ en ≤ ec ∧ ec ≤ 9223372036854775807 ∧ ToksB B w q.1 ea en ∧ q.2.head.Fits ∧ n ≤ c ∧ c ≤ 9223372036854775807 ∧ IsTmsA (fun b => b < B) w q.2.kids a n
theorem IsToks.keep {A : Nat → Prop} {w w' : World} (hx : ExtX A w w') {l : List Tk} {a : Option Addr} {n : Nat} (hA : ∀ p, a = some p → ¬ A p.block) (h : IsToks w l a n) : IsToks w' l a n :=
  ⟨⟨h.1.1, h.1.2.1, fun i cs hi => by
    obtain ⟨b', o', e, q⟩ := h.1.2.2 i cs hi
    exact ⟨b', o', e, fun j v hj => hx.cell (fun hb => hA _ e hb) (q j v hj)⟩⟩, h.2⟩
theorem ToksB.keep {A : Nat → Prop} {B : Nat} {w w' : World} (hx : ExtX A w w') {l : List Tk} {a : Option Addr} {n : Nat} (hA : ∀ b, B ≤ b → ¬ A b) (h : ToksB B w l a n) : ToksB B w' l a n :=
  ⟨h.1.keep hx fun p e => hA _ (h.2 p e), h.2⟩
theorem Prs.asideP {w w' : World} {pb ob : Nat} {T : TypeId} {l : List Tk} {ea a : Option Addr} {en ec n c : Nat} {x : Hd} (h : Prs w pb l) (hO : Blk w ob T #[.slice ea en ec, .int .u8 x.k, .int .u8 x.op, .int .i64 x.pos, .int .i64 x.n, .string x.name, .string x.arg, .string x.exn, .slice a n c]) (hx : ExtX (· = ob) w w') (hne : pb ≠ ob) : Prs w' pb l := by
  obtain ⟨b, o, n, c, i, L, hB, h1, h2, hT, hb, hl, hi⟩ := h
  obtain ⟨t, b', o', -, -, e, q0, q1, -⟩ := hT.at3 hi
  cases e
  have hbo : b ≠ ob := by
    rintro rfl
    have e0 := hO.cell (o + i * 3)
    have e1 := hO.cell (o + i * 3 + 1)
    rw [q0] at e0
    rw [q1] at e1
    generalize o + i * 3 = k at e0 e1
    match k, e0, e1 with
    | 0, e0, _ => simp at e0
    | 1, _, e1 => simp at e1
    | 2, _, e1 => simp at e1
    | 3, e0, _ => simp at e0
    | 4, e0, _ => simp at e0
    | 5, e0, _ => simp at e0
    | 6, e0, _ => simp at e0
    | 7, e0, _ => simp at e0
    | 8, e0, _ => simp at e0
    | k + 9, e0, _ => simp at e0
  exact ⟨b, o, n, c, i, L, hB.extx hx hne, h1, h2, hT.extx hx hbo, hb, hl, hi⟩
theorem Prs.aside0 {w w' : World} {pb ob : Nat} {l : List Tk} {ea : Option Addr} {en ec : Nat} (h : Prs w pb l) (hO : OutE ob w ea en ec) (hx : ExtX (· = ob) w w') (hne : pb ≠ ob) : Prs w' pb l :=
  h.asideP (x := ⟨0, 0, 0, 0, ⟨#[]⟩, ⟨#[]⟩, ⟨#[]⟩⟩) hO hx hne
theorem Blk.nine {w : World} {g : Nat} {t : TypeId} {c0 c1 c2 c3 c4 c5 c6 c7 c8 : Value} (h : Blk w g t #[c0, c1, c2, c3, c4, c5, c6, c7, c8]) :
    w.cell? ⟨g, 0, none⟩ = some c0 ∧ w.cell? ⟨g, 1, none⟩ = some c1 ∧ w.cell? ⟨g, 2, none⟩ = some c2 ∧ w.cell? ⟨g, 3, none⟩ = some c3 ∧ w.cell? ⟨g, 4, none⟩ = some c4 ∧ w.cell? ⟨g, 5, none⟩ = some c5 ∧ w.cell? ⟨g, 6, none⟩ = some c6 ∧ w.cell? ⟨g, 7, none⟩ = some c7 ∧ w.cell? ⟨g, 8, none⟩ = some c8 :=
  ⟨h.cell 0, h.cell 1, h.cell 2, h.cell 3, h.cell 4, h.cell 5, h.cell 6, h.cell 7, h.cell 8⟩
theorem Blk.frozen9 {w : World} {g : Nat} {t : TypeId} {cs : Array Value} (h : Blk w g t cs) :
    w.frozen? ⟨g, 0, none⟩ = false ∧ w.frozen? ⟨g, 1, none⟩ = false ∧ w.frozen? ⟨g, 2, none⟩ = false ∧ w.frozen? ⟨g, 3, none⟩ = false ∧ w.frozen? ⟨g, 4, none⟩ = false ∧ w.frozen? ⟨g, 5, none⟩ = false ∧ w.frozen? ⟨g, 6, none⟩ = false ∧ w.frozen? ⟨g, 7, none⟩ = false ∧ w.frozen? ⟨g, 8, none⟩ = false :=
  ⟨h.frozen 0, h.frozen 1, h.frozen 2, h.frozen 3, h.frozen 4, h.frozen 5, h.frozen 6, h.frozen 7, h.frozen 8⟩
/-- A term laid behind the exceptions. -/
def lay9 (w : World) (g : Nat) (u1 u2 u3 u4 u5 u6 u7 u8 : Value) : World := (((((((w.setCell ⟨g, 1, none⟩ u1).setCell ⟨g, 2, none⟩ u2).setCell ⟨g, 3, none⟩ u3).setCell ⟨g, 4, none⟩ u4).setCell ⟨g, 5, none⟩ u5).setCell ⟨g, 6, none⟩ u6).setCell ⟨g, 7, none⟩ u7).setCell ⟨g, 8, none⟩ u8
theorem Blk.lay9 {w : World} {g : Nat} {t : TypeId} {c0 c1 c2 c3 c4 c5 c6 c7 c8 u1 u2 u3 u4 u5 u6 u7 u8 : Value} (h : Blk w g t #[c0, c1, c2, c3, c4, c5, c6, c7, c8]) : Blk (lay9 w g u1 u2 u3 u4 u5 u6 u7 u8) g t #[c0, u1, u2, u3, u4, u5, u6, u7, u8] := by
  have h := (((((((h.set_ 1 u1).set_ 2 u2).set_ 3 u3).set_ 4 u4).set_ 5 u5).set_ 6 u6).set_ 7 u7).set_ 8 u8
  unfold Go.Proofs.YtaioeailgknfjaaDoor.lay9
  simpa using h
theorem ExtX.lay9 {A : Nat → Prop} {a w : World} {g : Nat} {u1 u2 u3 u4 u5 u6 u7 u8 : Value} (h : ExtX A a w) (hg : A g ∨ a.heap.size ≤ g) : ExtX A a (lay9 w g u1 u2 u3 u4 u5 u6 u7 u8) :=
  (((((((h.setCell (p := ⟨g, 1, none⟩) hg u1).setCell (p := ⟨g, 2, none⟩) hg u2).setCell (p := ⟨g, 3, none⟩) hg u3).setCell (p := ⟨g, 4, none⟩) hg u4).setCell (p := ⟨g, 5, none⟩) hg u5).setCell (p := ⟨g, 6, none⟩) hg u6).setCell (p := ⟨g, 7, none⟩) hg u7).setCell (p := ⟨g, 8, none⟩) hg u8
theorem IsTmsA.lay9 {A : Nat → Prop} {w : World} {g : Nat} {u1 u2 u3 u4 u5 u6 u7 u8 : Value} {l : List Tm} {a : Option Addr} {len : Nat} (h : IsTmsA A w l a len) (hg : A g) : IsTmsA A (lay9 w g u1 u2 u3 u4 u5 u6 u7 u8) l a len :=
  h.extx ((ExtX.refl (A := (· = g)) w).lay9 (.inl rfl)) (fun b e => by have e : b = g := e; subst e; exact hg)
theorem ExtX.onto {A A' : Nat → Prop} {w w' w'' : World} (h : ExtX A w w') (k : ExtX A' w' w'') (hA : ∀ b, A' b → A b ∨ w.heap.size ≤ b) : ExtX A w w'' :=
  ⟨k.os.trans h.os, k.tape.trans h.tape, k.output.trans h.output, Nat.le_trans h.size k.size, fun i hi ha => (k.block i (Nat.lt_of_lt_of_le hi h.size) (fun e => by rcases hA i e with g | g; exact ha g; omega)).trans (h.block i hi ha)⟩
/-- What an exception's round writes. -/
def ObA (ob base b : Nat) : Prop := b = ob ∨ base ≤ b
theorem toks_snoc2 (o : List Tk) (t : Tk) : ((o ++ [t]).map tkcells).flatten = (o.map tkcells).flatten ++ tkcells t := by simp
theorem owns_toks {w : World} {base : Nat} {v : Value} {o : List Tk} (h : w.ownsRow base 48 3 v o.length (o.map tkcells).flatten) (hf : ∀ t, t ∈ o → t.Fits) : ∃ a c, v = .slice a o.length c ∧ o.length ≤ c ∧ c ≤ 9223372036854775807 ∧ ToksB base w o a o.length := by
  obtain ⟨a, c, rfl, h1, h2, h3⟩ := owns_flat h (by decide) (tkcells_len o)
  refine ⟨a, c, rfl, h1, h2, ⟨h3, hf⟩, fun p e => ?_⟩
  subst e
  have := h.2
  rcases this with ⟨e, -⟩ | ⟨g, cap, cur, e, hg, -⟩
  · cases e
  · cases e
    exact hg
end Go.Proofs.YtaioeailgknfjaaDoor
