/- Part 25 of the proof: Parse21; no condition of ours. -/
import Derived.Test.YtaioeailgknfjaaGreatDoorPkp23
import Derived.Test.YtaioeailgknfjaaGreatDoorPkp24
set_option linter.unusedVariables false
set_option linter.unusedSimpArgs false
namespace Go.Proofs.YtaioeailgknfjaaGreatDoor
open Go Go.RowKit Go.Sort
def OutE (ob : Nat) (w : World) (ea : Option Addr) (en ec : Nat) : Prop := Blk w ob 41 #[.slice ea en ec, .int .u8 0, .int .u8 0, .int .i64 0, .int .i64 0, .string ⟨#[]⟩, .string ⟨#[]⟩, .string ⟨#[]⟩, .slice none 0 0]
def OutPZ (ob : Nat) (w : World) : Prop := OutE ob w none 0 0
def ToksB (B : Nat) (w : World) (es : List Tk) (ea : Option Addr) (en : Nat) : Prop := IsToks w es ea en ∧ ∀ p, ea = some p → B ≤ p.block
theorem IsToks.keep {A : Nat → Prop} {w w' : World} (hx : ExtX A w w') {l : List Tk} {a : Option Addr} {n : Nat} (hA : ∀ p, a = some p → ¬ A p.block) (h : IsToks w l a n) : IsToks w' l a n :=
  ⟨⟨h.1.1, h.1.2.1, fun i cs hi => by
    obtain ⟨b', o', e, q⟩ := h.1.2.2 i cs hi
    exact ⟨b', o', e, fun j v hj => hx.cell (fun hb => hA _ e hb) (q j v hj)⟩⟩, h.2⟩
theorem Blk.nine {w : World} {g : Nat} {t : TypeId} {c0 c1 c2 c3 c4 c5 c6 c7 c8 : Value} (h : Blk w g t #[c0, c1, c2, c3, c4, c5, c6, c7, c8]) :
    w.cell? ⟨g, 0, none⟩ = some c0 ∧ w.cell? ⟨g, 1, none⟩ = some c1 ∧ w.cell? ⟨g, 2, none⟩ = some c2 ∧ w.cell? ⟨g, 3, none⟩ = some c3 ∧ w.cell? ⟨g, 4, none⟩ = some c4 ∧ w.cell? ⟨g, 5, none⟩ = some c5 ∧ w.cell? ⟨g, 6, none⟩ = some c6 ∧ w.cell? ⟨g, 7, none⟩ = some c7 ∧ w.cell? ⟨g, 8, none⟩ = some c8 :=
  ⟨h.cell 0, h.cell 1, h.cell 2, h.cell 3, h.cell 4, h.cell 5, h.cell 6, h.cell 7, h.cell 8⟩
theorem Blk.frozen9 {w : World} {g : Nat} {t : TypeId} {cs : Array Value} (h : Blk w g t cs) :
    w.frozen? ⟨g, 0, none⟩ = false ∧ w.frozen? ⟨g, 1, none⟩ = false ∧ w.frozen? ⟨g, 2, none⟩ = false ∧ w.frozen? ⟨g, 3, none⟩ = false ∧ w.frozen? ⟨g, 4, none⟩ = false ∧ w.frozen? ⟨g, 5, none⟩ = false ∧ w.frozen? ⟨g, 6, none⟩ = false ∧ w.frozen? ⟨g, 7, none⟩ = false ∧ w.frozen? ⟨g, 8, none⟩ = false :=
  ⟨h.frozen 0, h.frozen 1, h.frozen 2, h.frozen 3, h.frozen 4, h.frozen 5, h.frozen 6, h.frozen 7, h.frozen 8⟩
def lay9 (w : World) (g : Nat) (u1 u2 u3 u4 u5 u6 u7 u8 : Value) : World := (((((((w.setCell ⟨g, 1, none⟩ u1).setCell ⟨g, 2, none⟩ u2).setCell ⟨g, 3, none⟩ u3).setCell ⟨g, 4, none⟩ u4).setCell ⟨g, 5, none⟩ u5).setCell ⟨g, 6, none⟩ u6).setCell ⟨g, 7, none⟩ u7).setCell ⟨g, 8, none⟩ u8
theorem Blk.lay9 {w : World} {g : Nat} {t : TypeId} {c0 c1 c2 c3 c4 c5 c6 c7 c8 u1 u2 u3 u4 u5 u6 u7 u8 : Value} (h : Blk w g t #[c0, c1, c2, c3, c4, c5, c6, c7, c8]) : Blk (lay9 w g u1 u2 u3 u4 u5 u6 u7 u8) g t #[c0, u1, u2, u3, u4, u5, u6, u7, u8] := by
  have h := (((((((h.set_ 1 u1).set_ 2 u2).set_ 3 u3).set_ 4 u4).set_ 5 u5).set_ 6 u6).set_ 7 u7).set_ 8 u8
  unfold Go.Proofs.YtaioeailgknfjaaGreatDoor.lay9
  simpa using h
theorem ExtX.lay9 {A : Nat → Prop} {a w : World} {g : Nat} {u1 u2 u3 u4 u5 u6 u7 u8 : Value} (h : ExtX A a w) (hg : A g ∨ a.heap.size ≤ g) : ExtX A a (lay9 w g u1 u2 u3 u4 u5 u6 u7 u8) :=
  (((((((h.setCell (p := ⟨g, 1, none⟩) hg u1).setCell (p := ⟨g, 2, none⟩) hg u2).setCell (p := ⟨g, 3, none⟩) hg u3).setCell (p := ⟨g, 4, none⟩) hg u4).setCell (p := ⟨g, 5, none⟩) hg u5).setCell (p := ⟨g, 6, none⟩) hg u6).setCell (p := ⟨g, 7, none⟩) hg u7).setCell (p := ⟨g, 8, none⟩) hg u8
theorem toks_snoc2 (o : List Tk) (t : Tk) : ((o ++ [t]).map tkcells).flatten = (o.map tkcells).flatten ++ tkcells t := by simp
theorem owns_toks {w : World} {base : Nat} {v : Value} {o : List Tk} (h : w.ownsRow base 37 3 v o.length (o.map tkcells).flatten) (hf : ∀ t, t ∈ o → t.Fits) : ∃ a c, v = .slice a o.length c ∧ o.length ≤ c ∧ c ≤ 9223372036854775807 ∧ ToksB base w o a o.length := by
  obtain ⟨a, c, rfl, h1, h2, h3⟩ := owns_flat h (by decide) (tkcells_len o)
  refine ⟨a, c, rfl, h1, h2, ⟨h3, hf⟩, fun p e => ?_⟩
  subst e
  have := h.2
  rcases this with ⟨e, -⟩ | ⟨g, cap, cur, e, hg, -⟩
  · cases e
  · cases e
    exact hg
def IsPg (w : World) (q : List Tk × Tm) (v : Value) : Prop := ∃ ea en ec a n c, v = .agg #[.slice ea en ec, .int .u8 q.2.head.k, .int .u8 q.2.head.op, .int .i64 q.2.head.pos, .int .i64 q.2.head.n, .string q.2.head.name, .string q.2.head.arg, .string q.2.head.exn, .slice a n c] ∧ en ≤ ec ∧ ec ≤ 9223372036854775807 ∧ IsToks w q.1 ea en ∧ q.2.head.Fits ∧ n ≤ c ∧ c ≤ 9223372036854775807 ∧ IsTms w q.2.kids a n
def RetProg (w : World) (r : Except (Int × Int) (List Tk × Tm)) (e : Ending) (w' : World) : Prop := Ext w w' ∧ match r with
  | .error (p, f) => e = .returned (.tuple #[.agg #[.slice none 0 0, .int .u8 0, .int .u8 0, .int .i64 0, .int .i64 0, .string ⟨#[]⟩, .string ⟨#[]⟩, .string ⟨#[]⟩, .slice none 0 0], .int .i64 p, .int .i64 f])
  | .ok q => ∃ v, e = .returned (.tuple #[v, .int .i64 0, .int .i64 0]) ∧ IsPg w' q v
def progR (B : List UInt8) : Except (Int × Int) (List Tk × Tm) := runR progL B
theorem Blk.lay09 {w : World} {g : Nat} {t : TypeId} {c0 c1 c2 c3 c4 c5 c6 c7 c8 u0 u1 u2 u3 u4 u5 u6 u7 u8 : Value} (h : Blk w g t #[c0, c1, c2, c3, c4, c5, c6, c7, c8]) : Blk (Go.Proofs.YtaioeailgknfjaaGreatDoor.lay9 (w.setCell ⟨g, 0, none⟩ u0) g u1 u2 u3 u4 u5 u6 u7 u8) g t #[u0, u1, u2, u3, u4, u5, u6, u7, u8] := by
  have h0 := h.set_ 0 u0
  simp only [List.setIfInBounds_toArray, List.set_cons_zero] at h0
  exact h0.lay9
theorem Ext.lay09 {a w : World} {g : Nat} {u0 u1 u2 u3 u4 u5 u6 u7 u8 : Value} (h : Ext a w) (hg : a.heap.size ≤ g) : Ext a (lay9 (w.setCell ⟨g, 0, none⟩ u0) g u1 u2 u3 u4 u5 u6 u7 u8) :=
  (((((((((h.setCell (p := ⟨g, 0, none⟩) hg u0).setCell (p := ⟨g, 1, none⟩) hg u1).setCell (p := ⟨g, 2, none⟩) hg u2).setCell (p := ⟨g, 3, none⟩) hg u3).setCell (p := ⟨g, 4, none⟩) hg u4).setCell (p := ⟨g, 5, none⟩) hg u5).setCell (p := ⟨g, 6, none⟩) hg u6).setCell (p := ⟨g, 7, none⟩) hg u7).setCell (p := ⟨g, 8, none⟩) hg u8)
theorem ExtX.lay09 {A : Nat → Prop} {a w : World} {g : Nat} {u0 u1 u2 u3 u4 u5 u6 u7 u8 : Value} (h : ExtX A a w) (hg : A g ∨ a.heap.size ≤ g) : ExtX A a (Go.Proofs.YtaioeailgknfjaaGreatDoor.lay9 (w.setCell ⟨g, 0, none⟩ u0) g u1 u2 u3 u4 u5 u6 u7 u8) := (h.setCell (p := ⟨g, 0, none⟩) hg u0).lay9 hg
end Go.Proofs.YtaioeailgknfjaaGreatDoor
