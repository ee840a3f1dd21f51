/- Two books that a law has made; a row of types that it lays. -/
import Derived.Test.YtkjjbackkipfdaaAw09b
namespace Go.Proofs.Ytkjjbackkipfdaa
open Go Go.RowKit Go.Sort

theorem Blk.ne_map {w : World} {g b : Nat} {t : TypeId} {cs : Array Value} {es : Array MapEntry} {c : Nat} (h : Blk w g t cs) (hm : w.heap[b]? = some (.map es c)) : g ≠ b := by
  rintro rfl
  unfold Blk at h
  rw [hm] at h
  cases h
/-- A book is kept where another one turns. -/
theorem BookAt.aside {W W' : World} {bb mb n bb' mb' n' : Nat} {S S' : St} (h : BookAt W bb mb n S) (h' : BookAt W bb' mb' n' S') (hb : bb ≠ bb') (hm : mb ≠ mb') (hx : ExtX (fun j => j = bb' ∨ j = mb') W W') : BookAt W' bb mb n S := by
  obtain ⟨es, c, e⟩ := h.map.block
  obtain ⟨es', c', e'⟩ := h'.map.block
  refine ⟨(hx.block bb h.blk.lt ?_).trans h.blk, h.map.move (hx.block mb h.map.lt ?_) fun t v ht => h'.keep hx ht, h.small⟩
  · rintro (r | r)
    · exact hb r
    · exact h.blk.ne_map e' r
  · rintro (r | r)
    · exact h'.blk.ne_map e r.symm
    · exact hm r
/-- Two books of the call's own. -/
structure Pair (w W : World) (b1 m1 n1 : Nat) (S1 : St) (b2 m2 n2 : Nat) (S2 : St) : Prop where
  one : Own w W b1 m1 n1 S1
  two : Own w W b2 m2 n2 S2
  hb : b1 ≠ b2
  hm : m1 ≠ m2
section
variable {w W : World} {b1 m1 n1 b2 m2 n2 : Nat} {S1 S2 : St}
theorem Pair.more {W' : World} (h : Pair w W b1 m1 n1 S1 b2 m2 n2 S2) (hx : Ext W W') : Pair w W' b1 m1 n1 S1 b2 m2 n2 S2 := ⟨h.one.more hx, h.two.more hx, h.hb, h.hm⟩
theorem Pair.turn (h : Pair w W b1 m1 n1 S1 b2 m2 n2 S2) : Pair w W b2 m2 n2 S2 b1 m1 n1 S1 := ⟨h.two, h.one, h.hb.symm, h.hm.symm⟩
theorem pair_fresh (h : Pair w W b1 m1 n1 S1 b2 m2 n2 S2) (hn : n1 + 1 ≤ 1000000) : Calls Try.prog 14 #[.pointer (some ⟨b1, 0, none⟩)] W fun e w' => e = .returned (.agg #[.int .u8 5, .int .i64 (n1 : Nat), .slice none 0 0]) ∧ Pair w w' b1 m1 (n1 + 1) S1 b2 m2 n2 S2 :=
  (own_fresh h.one hn).mono fun e w' ⟨g1, g2, g3, g4⟩ => ⟨g1, ⟨g2, ⟨h.two.book.aside h.one.book h.hb.symm h.hm.symm g4, h.two.good, g2.ext, h.two.hb, h.two.hm⟩, h.hb, h.hm⟩⟩
theorem pair_Join (h : Pair w W b1 m1 n1 S1 b2 m2 n2 S2) (l : List Ty) (a : Option Addr) (len cap : Nat) (h1 : len ≤ cap) (h2 : cap ≤ 9223372036854775807) (hl : IsTys W l a len) :
    Calls Try.prog 17 #[.pointer (some ⟨b1, 0, none⟩), .slice a len cap] W fun e w' => ∃ S' b m', e = .returned (.bool b) ∧ JoinP n1 S1 l S' b ∧ Pair w w' b1 m' n1 S' b2 m2 n2 S2 ∧ Keeps W w' :=
  (book_Join h.one.book h.one.good l a len cap h1 h2 hl).mono fun e w' ⟨S', b, m', g1, g2, g3, g4, g5⟩ => by
    have hx : Ext w w' := ext_own h.one.ext g5 h.one.hb h.one.hm
    have := h.one.ext.size
    have := h.one.hm
    have := h.two.book.map.lt
    exact ⟨S', b, m', g1, g2, ⟨⟨g3, g2.good, hx, h.one.hb, by rcases g4 with rfl | g4 <;> omega⟩, ⟨h.two.book.aside h.one.book h.hb.symm h.hm.symm g5, h.two.good, hx, h.two.hb, h.two.hm⟩, h.hb, by
      rcases g4 with rfl | g4
      · exact h.hm
      · omega⟩, h.one.book.kept g5⟩
theorem pair_new (w W : World) (hO : Own w W b1 m1 n1 S1) : Calls Try.prog 11 #[] W fun e w' => ∃ bb mb, e = .returned (.pointer (some ⟨bb, 0, none⟩)) ∧ Pair w w' b1 m1 n1 S1 bb mb 0 (fun _ => none) :=
  (book_new W).mono fun e w' ⟨bb, mb, g1, g2, g3, g4, g5⟩ => by
    have := hO.book.blk.lt
    have := hO.book.map.lt
    have := hO.ext.size
    exact ⟨bb, mb, g1, ⟨hO.more g5, ⟨g2, Good.empty 0, hO.ext.trans g5, by omega, by omega⟩, by omega, by omega⟩⟩
end
/-- A row of the call's own whose types lie elsewhere. -/
theorem TyRow.tysN {base n : Nat} {e : TypeId} {v : Value} {w : World} {l : List Ty} {xs : List Value} (ho : w.ownsRow base e 3 v n xs) (h : TyRow NoA w l xs) : ∃ a cap, v = .slice a n cap ∧ n ≤ cap ∧ cap ≤ 9223372036854775807 ∧ IsTys w l a n := by
  have hn : n = l.length := by
    have h1 := ho.1
    have h2 := h.length
    omega
  by_cases h0 : 0 < n
  · obtain ⟨g, cap, rfl, hg, hlt, h1, h2, hc⟩ := owns_open ho h0
    refine ⟨_, cap, rfl, h1, h2, ?_⟩
    rw [hn]
    refine IsTysA.of_cells l g 0 (fun h => h) fun i t hi => ?_
    obtain ⟨c0, c1, c2, g0, g1, g2, g3⟩ := h.at_ hi
    exact ⟨c0, c1, c2, by have := hc _ _ g0; simpa using this, by have := hc _ _ g1; simpa using this, by have := hc _ _ g2; simpa using this, g3⟩
  · obtain rfl : l = [] := List.eq_nil_of_length_eq_zero (by omega)
    obtain rfl : n = 0 := by omega
    rcases ho.2 with ⟨rfl, _⟩ | ⟨g, cap, cur, rfl, hg, hh, h1, h2, h3, h4⟩
    · exact ⟨none, 0, rfl, Nat.le_refl _, by omega, IsTysA.nil _⟩
    · exact ⟨_, cap, rfl, h1, h2, IsTysA.nil _⟩
theorem owns_none9 (w : World) (base : Nat) (e : TypeId) (size : Nat) (hb : base ≤ w.heap.size) : (w.alloc (.cells #[] e)).ownsRow base e size (.slice (some ⟨w.heap.size, 0, none⟩) 0 0) 0 [] :=
  ⟨by simp, .inr ⟨w.heap.size, 0, #[], rfl, hb, heap_alloc_new w _, Nat.le_refl _, Nat.zero_le _, by simp, by simp⟩⟩
end Go.Proofs.Ytkjjbackkipfdaa
