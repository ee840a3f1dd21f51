/- A book that a law has made: what its calls leave as it was. -/
import Derived.Test.YtkjjbackkipfdaaAw09
namespace Go.Proofs.Ytkjjbackkipfdaa
open Go Go.RowKit Go.Sort

theorem Fit.mono {n m : Nat} (hm : n ≤ m) {t : Ty} (h : Fit n t) : Fit m t := ⟨h.may, fun u hu => by have := h.lt u hu; omega⟩
theorem Good.mono {n m : Nat} (hm : n ≤ m) {S : St} (h : Good n S) : Good m S := ⟨h.acy, fun v t e => by obtain ⟨h1, h2, h3⟩ := h.fit v t e; exact ⟨h1, by omega, h3.mono hm⟩, h.least⟩
/-- A book of the call's own. -/
structure OwnA (A : Nat → Prop) (w W : World) (bb mb n : Nat) (S : St) : Prop where
  book : BookAtA A W bb mb n S
  good : Good n S
  ext : Ext w W
  hb : w.heap.size ≤ bb
  hm : w.heap.size ≤ mb
abbrev Own (w W : World) (bb mb n : Nat) (S : St) : Prop := OwnA NoA w W bb mb n S
theorem OwnA.any {A : Nat → Prop} {w W : World} {bb mb n : Nat} {S : St} (h : OwnA A w W bb mb n S) : Own w W bb mb n S := ⟨h.book.any, h.good, h.ext, h.hb, h.hm⟩
/-- Boxes of types and types are as they were. -/
structure Keeps (W W' : World) : Prop where
  box : ∀ (g : Nat) (cs : Array Value), Blk W g 25 cs → Blk W' g 25 cs
  ty : ∀ (t : Ty) (v : Value), IsTy W t v → IsTy W' t v
  tys : ∀ (l : List Ty) (a : Option Addr) (len : Nat), IsTys W l a len → IsTys W' l a len
  size : W.heap.size ≤ W'.heap.size
theorem Keeps.refl (W : World) : Keeps W W := ⟨fun _ _ h => h, fun _ _ h => h, fun _ _ _ h => h, Nat.le_refl _⟩
theorem Keeps.trans {a b c : World} (h : Keeps a b) (k : Keeps b c) : Keeps a c := ⟨fun g cs q => k.box g cs (h.box g cs q), fun t v q => k.ty t v (h.ty t v q), fun l a n q => k.tys l a n (h.tys l a n q), Nat.le_trans h.size k.size⟩
theorem Keeps.of {a b : World} (h : Ext a b) : Keeps a b := ⟨fun _ _ q => q.ext h, fun _ _ q => q.ext h, fun _ _ _ q => q.ext h, h.size⟩
theorem BookAtA.kept {A : Nat → Prop} {w w' : World} {bb mb n : Nat} {S : St} (h : BookAtA A w bb mb n S) (hx : ExtX (fun j => j = bb ∨ j = mb) w w') : Keeps w w' := ⟨fun _ _ q => h.box hx q, fun _ _ q => h.keep hx q, fun _ _ _ q => h.keeps hx q, hx.size⟩
section
variable {A : Nat → Prop} {w W : World} {bb mb n : Nat} {S : St}
theorem OwnA.more {W' : World} (h : OwnA A w W bb mb n S) (hx : Ext W W') : OwnA A w W' bb mb n S := ⟨h.book.ext hx, h.good, h.ext.trans hx, h.hb, h.hm⟩
theorem own_new (w W : World) (hx : Ext w W) : Calls Try.prog 11 #[] W fun e w' => ∃ bb mb, e = .returned (.pointer (some ⟨bb, 0, none⟩)) ∧ OwnA A w w' bb mb 0 (fun _ => none) ∧ Ext W w' :=
  (book_new W).mono fun e w' ⟨bb, mb, h1, h2, h3, h4, h5⟩ => ⟨bb, mb, h1, ⟨h2, Good.empty 0, hx.trans h5, Nat.le_trans hx.size h3, Nat.le_trans hx.size h4⟩, h5⟩
theorem own_fresh (h : OwnA A w W bb mb n S) (hn : n + 1 ≤ 1000000) : Calls Try.prog 14 #[.pointer (some ⟨bb, 0, none⟩)] W fun e w' => e = .returned (.agg #[.int .u8 5, .int .i64 (n : Nat), .slice none 0 0]) ∧ OwnA A w w' bb mb (n + 1) S ∧ Keeps W w' ∧ ExtX (fun j => j = bb ∨ j = mb) W w' :=
  (book_fresh h.book hn).mono fun e w' ⟨h1, h2, h3⟩ => by
    have hx := h3.monoU (A' := fun j => j = bb ∨ j = mb) fun b e => .inl e
    exact ⟨h1, ⟨h2, h.good.mono (by omega), ext_own h.ext hx h.hb h.hm, h.hb, h.hm⟩, h.book.kept hx, hx⟩
theorem own_Join (h : OwnA A w W bb mb n S) (l : List Ty) (a : Option Addr) (len cap : Nat) (h1 : len ≤ cap) (h2 : cap ≤ 9223372036854775807) (hl : IsTysA A W l a len) :
    Calls Try.prog 17 #[.pointer (some ⟨bb, 0, none⟩), .slice a len cap] W fun e w' => ∃ S' b mb', e = .returned (.bool b) ∧ JoinP n S l S' b ∧ OwnA A w w' bb mb' n S' ∧ Keeps W w' ∧ ExtX (fun j => j = bb ∨ j = mb) W w' :=
  (book_Join h.book h.good l a len cap h1 h2 hl).mono fun e w' ⟨S', b, mb', g1, g2, g3, g4, g5⟩ => ⟨S', b, mb', g1, g2, ⟨g3, g2.good, ext_own h.ext g5 h.hb h.hm, h.hb, by
    have := h.ext.size
    have := h.hm
    rcases g4 with rfl | g4 <;> omega⟩, h.book.kept g5, g5⟩
/-- Join of two types that lie in one row. -/
theorem own_Join2A (h : OwnA A w W bb mb n S) (x y : Ty) (g : Nat) (c0 c1 c2 d0 d1 d2 : Value) (hA : ¬ A g) (hx : IsTyA A W x (.agg #[c0, c1, c2])) (hy : IsTyA A W y (.agg #[d0, d1, d2])) (hg : Blk W g 25 #[c0, c1, c2, d0, d1, d2]) :
    Calls Try.prog 17 #[.pointer (some ⟨bb, 0, none⟩), .slice (some ⟨g, 0, none⟩) 2 2] W fun e w' => ∃ S' b mb', e = .returned (.bool b) ∧ JoinP n S [x, y] S' b ∧ OwnA A w w' bb mb' n S' ∧ Keeps W w' ∧ ExtX (fun j => j = bb ∨ j = mb) W w' :=
  own_Join h [x, y] (some ⟨g, 0, none⟩) 2 2 (Nat.le_refl _) (by omega) (IsTysA.two hA hx hy (by simpa using hg.cell 0) (by simpa using hg.cell 1) (by simpa using hg.cell 2) (by simpa using hg.cell 3) (by simpa using hg.cell 4) (by simpa using hg.cell 5))
theorem own_Join2 (h : Own w W bb mb n S) (x y : Ty) (g : Nat) (c0 c1 c2 d0 d1 d2 : Value) (hx : IsTy W x (.agg #[c0, c1, c2])) (hy : IsTy W y (.agg #[d0, d1, d2])) (hg : Blk W g 25 #[c0, c1, c2, d0, d1, d2]) :
    Calls Try.prog 17 #[.pointer (some ⟨bb, 0, none⟩), .slice (some ⟨g, 0, none⟩) 2 2] W fun e w' => ∃ S' b mb', e = .returned (.bool b) ∧ JoinP n S [x, y] S' b ∧ Own w w' bb mb' n S' ∧ Keeps W w' ∧ ExtX (fun j => j = bb ∨ j = mb) W w' :=
  own_Join h [x, y] (some ⟨g, 0, none⟩) 2 2 (Nat.le_refl _) (by omega) (IsTysA.two (fun h => h) hx hy (by simpa using hg.cell 0) (by simpa using hg.cell 1) (by simpa using hg.cell 2) (by simpa using hg.cell 3) (by simpa using hg.cell 4) (by simpa using hg.cell 5))
/-- A type's sense, as a book of the call's own tells it. -/
theorem own_Sense (h : Own w W bb mb n S) {σ : Int → Ty} (hσ : Sense S σ) (t : Ty) (most : Int) (a : Option Addr) (len cap : Nat) (ht : IsTy W t (.agg #[.int .u8 t.kind, .int .i64 t.var, .slice a len cap])) (hm0 : -9223372036854775808 ≤ most) (hm : most ≤ 9223372036854775807) (T : Ty) (E : Int) (hT : tell n σ t most = (T, E)) :
    Calls Try.prog 18 #[.pointer (some ⟨bb, 0, none⟩), .agg #[.int .u8 t.kind, .int .i64 t.var, .slice a len cap], .int .i64 most] W fun e w' => ∃ xa xl xc, e = .returned (.tuple #[.agg #[.int .u8 T.kind, .int .i64 T.var, .slice xa xl xc], .int .i64 E]) ∧ IsTy w' T (.agg #[.int .u8 T.kind, .int .i64 T.var, .slice xa xl xc]) ∧ Ext W w' := by
  have := book_Sense h.book h.good hσ t most a len cap ht hm0 hm
  unfold RetTell at this
  rw [hT] at this
  exact this.mono fun e w' ⟨xa, xl, xc, g1, g2, g3⟩ => ⟨xa, xl, xc, g1, g2.any, g3⟩
theorem tell_err {n : Nat} {σ : Int → Ty} {t T : Ty} {most E : Int} (h : tell n σ t most = (T, E)) : E = 0 ∨ E = 1 ∨ E = 3 := by
  unfold tell at h
  split at h
  · split at h
    · injection h with _ h; omega
    · injection h with _ h; omega
  · injection h with _ h; omega
end
end Go.Proofs.Ytkjjbackkipfdaa
