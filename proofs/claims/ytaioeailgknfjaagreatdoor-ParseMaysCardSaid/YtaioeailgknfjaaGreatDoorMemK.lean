/- Tokens in memory. No program in sight. -/
import Derived.Test.YtaioeailgknfjaaGreatDoorFlat
import Derived.Test.YtaioeailgknfjaaGreatDoorPureK
namespace Go.Proofs.YtaioeailgknfjaaGreatDoor
open Go Go.RowKit Go.Sort

/-- Tokens as Go holds them: a kind, a text, a place. -/
structure Tk where
  k : Int
  text : ByteArray
  pos : Int
/-- A token's cells. -/
def tkcells (t : Tk) : List Value := [.int .u8 t.k, .string t.text, .int .i64 t.pos]
structure Tk.Fits (t : Tk) : Prop where
  k0 : 0 ≤ t.k
  k1 : t.k ≤ 255
  p0 : -9223372036854775808 ≤ t.pos
  p1 : t.pos ≤ 9223372036854775807
  text1 : t.text.size ≤ 9223372036854775807
/-- A row of tokens in memory. -/
def IsToks (w : World) (l : List Tk) (a : Option Addr) (len : Nat) : Prop := IsFlat w 3 (l.map tkcells) a len ∧ ∀ t ∈ l, t.Fits
theorem IsToks.ext {w w' : World} (hx : Ext w w') {l : List Tk} {a : Option Addr} {len : Nat} (h : IsToks w l a len) : IsToks w' l a len := ⟨h.1.ext hx, h.2⟩
theorem IsToks.length {w : World} {l : List Tk} {a : Option Addr} {len : Nat} (h : IsToks w l a len) : len = l.length := by have := h.1.1; simpa using this
theorem IsToks.at3 {w : World} {l : List Tk} {a : Option Addr} {len : Nat} (h : IsToks w l a len) {i : Nat} (hi : i < len) :
    ∃ t b o, l[i]? = some t ∧ t.Fits ∧ a = some ⟨b, o, none⟩ ∧ w.cell? ⟨b, o + i * 3, none⟩ = some (.int .u8 t.k) ∧ w.cell? ⟨b, o + i * 3 + 1, none⟩ = some (.string t.text) ∧ w.cell? ⟨b, o + i * 3 + 2, none⟩ = some (.int .i64 t.pos) := by
  have hl := h.length
  have hi' : l[i]? = some l[i] := List.getElem?_eq_getElem (hl ▸ hi)
  obtain ⟨b, o, ea, q⟩ := h.1.at_ (i := i) (cs := tkcells l[i]) (by simp [hi'])
  exact ⟨_, b, o, hi', h.2 _ (List.mem_of_getElem? hi'), ea, q 0 _ rfl, q 1 _ rfl, q 2 _ rfl⟩
theorem tkcells_len (l : List Tk) : ∀ cs ∈ l.map tkcells, cs.length = 3 := by
  intro cs h
  obtain ⟨t, _, rfl⟩ := List.mem_map.1 h
  rfl
/-- A token that was cut. -/
def Tok.tk (t : Tok) : Tk := ⟨t.k, t.text, t.pos⟩
end Go.Proofs.YtaioeailgknfjaaGreatDoor
