/- Rows of one-cell values in memory: bytes, texts. No program in sight. -/
import Derived.Test.YtaioeailgknfjaaGreatDoorMem
import Derived.Test.YtaioeailgknfjaaGreatDoorPureW
namespace Go.Proofs.YtaioeailgknfjaaGreatDoor
open Go Go.RowKit Go.Sort

/-- A row of values, a cell each. -/
def IsRow (w : World) (l : List Value) (a : Option Addr) (len : Nat) : Prop := len = l.length ∧ ∀ (i : Nat) v, l[i]? = some v → ∃ b o, a = some ⟨b, o, none⟩ ∧ w.cell? ⟨b, o + i, none⟩ = some v
/-- Bytes, as the program holds them. -/
def vby (l : List Int) : List Value := l.map fun c => .int .u8 c
/-- Texts, as the program holds them. -/
def vstr (l : List ByteArray) : List Value := l.map .string
theorem IsRow.ext {w w' : World} (hx : Ext w w') {l : List Value} {a : Option Addr} {len : Nat} (h : IsRow w l a len) : IsRow w' l a len :=
  ⟨h.1, fun i v hi => let ⟨b, o, e, q⟩ := h.2 i v hi; ⟨b, o, e, hx.cell q⟩⟩
theorem IsRow.nil (w : World) (a : Option Addr) : IsRow w [] a 0 := ⟨rfl, fun i v h => by simp at h⟩
theorem IsRow.byte {w : World} {l : List Int} {a : Option Addr} {len : Nat} (h : IsRow w (vby l) a len) {j : Nat} (hj : j < len) : ∃ c b o, l[j]? = some c ∧ a = some ⟨b, o, none⟩ ∧ w.cell? ⟨b, o + j, none⟩ = some (.int .u8 c) := by
  have hl := h.1
  simp [vby] at hl
  have hc : l[j]? = some l[j] := List.getElem?_eq_getElem (by omega)
  obtain ⟨b, o, e, q⟩ := h.2 j (.int .u8 l[j]) (by simp [vby, hc])
  exact ⟨_, b, o, hc, e, q⟩
theorem IsRow.str {w : World} {l : List ByteArray} {a : Option Addr} {len : Nat} (h : IsRow w (vstr l) a len) {j : Nat} (hj : j < len) : ∃ c b o, l[j]? = some c ∧ a = some ⟨b, o, none⟩ ∧ w.cell? ⟨b, o + j, none⟩ = some (.string c) := by
  have hl := h.1
  simp [vstr] at hl
  have hc : l[j]? = some l[j] := List.getElem?_eq_getElem (by omega)
  obtain ⟨b, o, e, q⟩ := h.2 j (.string l[j]) (by simp [vstr, hc])
  exact ⟨_, b, o, hc, e, q⟩
theorem IsRow.of_block {w : World} {l : List Value} {b : Nat} (h : ∀ (i : Nat) v, l[i]? = some v → w.cell? ⟨b, i, none⟩ = some v) : IsRow w l (some ⟨b, 0, none⟩) l.length :=
  ⟨rfl, fun i v hi => ⟨b, 0, rfl, by simpa using h i v hi⟩⟩
theorem IsRow.drop {w : World} {l : List Value} {b o len k : Nat} (h : IsRow w l (some ⟨b, o, none⟩) len) : IsRow w (l.drop k) (some ⟨b, o + k, none⟩) (len - k) :=
  ⟨by simp [h.1], fun i v hi => by
    rw [List.getElem?_drop] at hi
    obtain ⟨b', o', e, q⟩ := h.2 _ v hi
    simp at e
    obtain ⟨rfl, rfl⟩ := e
    exact ⟨_, _, rfl, by rw [← q]; congr 2; omega⟩⟩
/-- A row that is a new block. -/
theorem IsRow.new (w : World) (t : TypeId) (l : List Value) : IsRow (w.alloc (.cells l.toArray t)) l (some ⟨w.heap.size, 0, none⟩) l.length :=
  IsRow.of_block fun i v hi => by rw [World.cell?_alloc_new]; simpa using hi
theorem vby_drop (l : List Int) (k : Nat) : (vby l).drop k = vby (l.drop k) := by simp [vby, List.map_drop]
theorem vby_il_length (s : ByteArray) : (vby (il s)).length = s.size := by rw [vby, List.length_map, il_length]
theorem not_empty_of {s : ByteArray} (hz : s ≠ ByteArray.empty) : s.toList.isEmpty = false := by
  rw [ByteArray.toList_eq, Bool.eq_false_iff, ne_eq, List.isEmpty_iff]
  exact fun e => hz (ByteArray.ext (Array.toList_inj.1 e))
end Go.Proofs.YtaioeailgknfjaaGreatDoor
