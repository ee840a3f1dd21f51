/- Ends in memory. No program in sight. -/
import Derived.Test.YtmomahgedheekaaDoorFlat
import Derived.Test.YtmomahgedheekaaDoorPureV
namespace Go.Proofs.YtmomahgedheekaaDoor
open Go Go.RowKit Go.Sort

/-- An end's cells. -/
def ecells (e : En) : List Value := [.int .u8 e.k, .bool e.isInt, .int .i64 e.n, .string e.exn]
/-- An end holds what Go's types hold. -/
structure En.Fits (e : En) : Prop where
  k0 : 0 ≤ e.k
  k1 : e.k ≤ 255
  n0 : -9223372036854775808 ≤ e.n
  n1 : e.n ≤ 9223372036854775807
  exn1 : e.exn.size ≤ 9223372036854775807
/-- A value is an end. -/
def IsEnd (_ : World) (e : En) (v : Value) : Prop := v = .agg #[.int .u8 e.k, .bool e.isInt, .int .i64 e.n, .string e.exn] ∧ e.Fits
/-- A row of ends in memory. -/
def IsEnds (w : World) (l : List En) (a : Option Addr) (len : Nat) : Prop := IsFlat w 4 (l.map ecells) a len ∧ ∀ e ∈ l, e.Fits
theorem IsEnds.ext {w w' : World} (hx : Ext w w') {l : List En} {a : Option Addr} {len : Nat} (h : IsEnds w l a len) : IsEnds w' l a len := ⟨h.1.ext hx, h.2⟩
theorem IsEnds.length {w : World} {l : List En} {a : Option Addr} {len : Nat} (h : IsEnds w l a len) : len = l.length := by have := h.1.1; simpa using this
theorem IsEnds.at4 {w : World} {l : List En} {a : Option Addr} {len : Nat} (h : IsEnds w l a len) {i : Nat} (hi : i < len) :
    ∃ e b o, l[i]? = some e ∧ e.Fits ∧ a = some ⟨b, o, none⟩ ∧ w.cell? ⟨b, o + i * 4, none⟩ = some (.int .u8 e.k) ∧ w.cell? ⟨b, o + i * 4 + 1, none⟩ = some (.bool e.isInt) ∧ w.cell? ⟨b, o + i * 4 + 2, none⟩ = some (.int .i64 e.n) ∧ w.cell? ⟨b, o + i * 4 + 3, none⟩ = some (.string e.exn) := by
  have hl := h.length
  have hi' : l[i]? = some l[i] := List.getElem?_eq_getElem (hl ▸ hi)
  obtain ⟨b, o, ea, q⟩ := h.1.at_ (i := i) (cs := ecells l[i]) (by simp [hi'])
  exact ⟨_, b, o, hi', h.2 _ (List.mem_of_getElem? hi'), ea, q 0 _ rfl, q 1 _ rfl, q 2 _ rfl, q 3 _ rfl⟩
end Go.Proofs.YtmomahgedheekaaDoor
