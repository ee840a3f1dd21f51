/- Part 12 of the proof: MemP; no condition of ours. -/
import Derived.Test.YtaioeailgknfjaaGreatDoorPkp1
import Derived.Test.YtaioeailgknfjaaGreatDoorPkp5
import Derived.Test.YtaioeailgknfjaaGreatDoorPkp6
import Derived.Test.YtaioeailgknfjaaGreatDoorPkp11
set_option linter.unusedVariables false
set_option linter.unusedSimpArgs false
namespace Go.Proofs.YtaioeailgknfjaaGreatDoor
open Go Go.RowKit Go.Sort
def Cls (t : Tk) : Prop := t.k ≠ 1 ∧ isT [s_bang, w_ref, w_fst, w_snd] [t] = false ∧ isT [w_raise] [t] = false ∧ isT [w_let, w_letrec, w_fn, w_if, w_try] [t] = false ∧ isT [w_let] [t] = false ∧ isT [w_letrec] [t] = false ∧ isT [w_fn] [t] = false ∧ isT [w_if] [t] = false ∧ isT [w_try] [t] = false
def Prs (w : World) (pb : Nat) (l : List Tk) : Prop :=
  ∃ b o n c i L, Blk w pb 96 #[.slice (some ⟨b, o, none⟩) n c, .int .i64 (i : Nat)] ∧ n ≤ c ∧ c ≤ 9223372036854775807 ∧ IsToks w L (some ⟨b, o, none⟩) n ∧ b < pb ∧ l = L.drop i ∧ i < n ∧ ∀ t, t ∈ L → Cls t
theorem IsToks.extx {A : Nat → Prop} {w w' : World} (hx : ExtX A w w') {l : List Tk} {b o n : Nat} (hb : ¬ A b) (h : IsToks w l (some ⟨b, o, none⟩) n) : IsToks w' l (some ⟨b, o, none⟩) n :=
  ⟨⟨h.1.1, h.1.2.1, fun i cs hi => by
    obtain ⟨b', o', e, q⟩ := h.1.2.2 i cs hi
    cases e
    exact ⟨_, _, rfl, fun j v hj => hx.cell hb (q j v hj)⟩⟩, h.2⟩
theorem Prs.ext {w w' : World} {pb : Nat} {l : List Tk} (h : Prs w pb l) (hx : Ext w w') : Prs w' pb l := by
  obtain ⟨b, o, n, c, i, L, hB, h1, h2, hT, hne, hl, hi⟩ := h
  exact ⟨b, o, n, c, i, L, hB.ext hx, h1, h2, hT.ext hx, hne, hl, hi⟩
theorem Prs.lt {w : World} {pb : Nat} {l : List Tk} (h : Prs w pb l) : pb < w.heap.size := by
  obtain ⟨b, o, n, c, i, L, hB, -⟩ := h
  exact hB.lt
theorem IsToks.far {w : World} {p : Addr} {u : Value} {l : List Tk} {b o n : Nat} (hb : b ≠ p.block) (h : IsToks w l (some ⟨b, o, none⟩) n) : IsToks (w.setCell p u) l (some ⟨b, o, none⟩) n :=
  ⟨⟨h.1.1, h.1.2.1, fun i cs hi => by
    obtain ⟨b', o', e, q⟩ := h.1.2.2 i cs hi
    cases e
    exact ⟨_, _, rfl, fun j v hj => (World.cell?_setCell_other w p _ u (by rintro rfl; exact hb rfl)).trans (q j v hj)⟩⟩, h.2⟩
theorem Prs.far {w : World} {pb : Nat} {l : List Tk} (h : Prs w pb l) {p : Addr} (hp : pb < p.block) (u : Value) : Prs (w.setCell p u) pb l := by
  obtain ⟨b, o, n, c, i, L, hB, h1, h2, hT, hne, hl, hi⟩ := h
  exact ⟨b, o, n, c, i, L, hB.far (by omega) u, h1, h2, hT.far (by omega), hne, hl, hi⟩
theorem Prs.alloc {w : World} {pb : Nat} {l : List Tk} (h : Prs w pb l) (o : Obj) : Prs (w.alloc o) pb l := h.ext ((Ext.refl w).alloc o)
theorem Prs.drew {w : World} {pb : Nat} {l : List Tk} (h : Prs w pb l) : Prs w.drew pb l := h.ext (Ext.refl w).drew
theorem Blk.extx {A : Nat → Prop} {w w' : World} {g : Nat} {t : TypeId} {cs : Array Value} (h : Blk w g t cs) (hx : ExtX A w w') (hg : ¬ A g) : Blk w' g t cs := (hx.block g h.lt hg).trans h
theorem prX {w : World} {pb : Nat} {l : List Tk} (h : Prs w pb l := by (repeat (first | (with_reducible assumption) | (with_reducible refine Prs.alloc ?_ _) | (with_reducible refine Prs.drew ?_) | ((with_reducible refine Prs.far ?_ ?_ _); rotate_left 1; (first | assumption | (focus (simp; done)) | (focus (simp; omega)) | omega))))) : Prs w pb l := h
theorem Prs.open_ {w : World} {pb : Nat} {t : Tk} {l : List Tk} (h : Prs w pb (t :: l)) :
    ∃ b o n c i, Blk w pb 96 #[.slice (some ⟨b, o, none⟩) n c, .int .i64 (i : Nat)] ∧ n ≤ c ∧ c ≤ 9223372036854775807 ∧ i < n ∧ t.Fits ∧ w.cell? ⟨b, o + i * 3, none⟩ = some (.int .u8 t.k) ∧ w.cell? ⟨b, o + i * 3 + 1, none⟩ = some (.string t.text) ∧ w.cell? ⟨b, o + i * 3 + 2, none⟩ = some (.int .i64 t.pos) ∧
      ∀ w', ExtX (· = pb) w w' → Blk w' pb 96 #[.slice (some ⟨b, o, none⟩) n c, .int .i64 ((i + 1 : Nat) : Int)] → l ≠ [] → Prs w' pb l := by
  obtain ⟨b, o, n, c, i, L, hB, h1, h2, hT, hne, hl, hi, hcl⟩ := h
  obtain ⟨t', b', o', g, hf, e, q0, q1, q2⟩ := hT.at3 hi
  cases e
  have hL : n = L.length := hT.length
  have e : L.drop i = L[i]'(by omega) :: L.drop (i + 1) := List.drop_eq_getElem_cons (by omega)
  rw [e] at hl
  rw [List.getElem?_eq_getElem (by omega)] at g
  cases g
  cases hl
  refine ⟨b, o, n, c, i, hB, h1, h2, hi, hf, q0, q1, q2, fun w' hx hB' hl => ?_⟩
  refine ⟨b, o, n, c, i + 1, L, hB', h1, h2, hT.extx hx (by omega), hne, rfl, ?_, hcl⟩
  rcases Nat.lt_or_ge (i + 1) n with h | h
  · exact h
  · exact (hl (List.drop_eq_nil_of_le (by omega))).elim
theorem Prs.cls {w : World} {pb : Nat} {t : Tk} {l : List Tk} (h : Prs w pb (t :: l)) : Cls t := by
  obtain ⟨b, o, n, c, i, L, hB, h1, h2, hT, hne, hl, hi, hcl⟩ := h
  exact hcl t (List.mem_of_mem_drop (i := i) (by rw [← hl]; simp))
def thrown (l : List Tk) : Ending := .panicked [{ v := .iface 94 (.agg #[.int .i64 (posT l)]), recovered := false }]
def RetP {α : Type} (pb : Nat) (w : World) (V : World → α → Value → Prop) (r : Res α) (e : Ending) (w' : World) : Prop :=
  ExtX (· = pb) w w' ∧ match r with
  | .ok (a, l) => ∃ v, e = .returned v ∧ V w' a v ∧ Prs w' pb l
  | .error l => e = thrown l
theorem RetP.ok {α : Type} {pb : Nat} {w : World} {V : World → α → Value → Prop} {a : α} {l : List Tk} {e : Ending} {w' : World} (h : RetP pb w V (.ok (a, l)) e w') : ∃ v, e = .returned v ∧ V w' a v ∧ Prs w' pb l ∧ ExtX (· = pb) w w' := by
  obtain ⟨hx, v, e, hv, hp⟩ := h
  exact ⟨v, e, hv, hp, hx⟩
theorem RetP.error {α : Type} {pb : Nat} {w : World} {V : World → α → Value → Prop} {l : List Tk} {e : Ending} {w' : World} (h : RetP pb w V (.error l : Res α) e w') : e = thrown l ∧ ExtX (· = pb) w w' := ⟨h.2, h.1⟩
end Go.Proofs.YtaioeailgknfjaaGreatDoor
