/- Rows of texts that a call makes by append. No program's walk in sight. -/
import Derived.Test.YtaioeailgknfjaaGreatDoorAppend
import Derived.Test.YtaioeailgknfjaaGreatDoorRowMem
import Derived.Test.YtaioeailgknfjaaGreatDoorBytes
import Derived.Test.YtaioeailgknfjaaGreatDoorProg
import Derived.OwnWalk
namespace Go.Proofs.YtaioeailgknfjaaGreatDoor
open Go Go.RowKit Go.Sort

theorem infoStr : (Tryz.prog.info? 9).map (fun i => (i.zero, i.size, i.bytes)) = some (some (.string ByteArray.empty), 1, 16) := by kernel_rfl
/-- A row of one-cell values that a slice owns is a row in memory. -/
theorem owns_row1 {w : World} {base : Nat} {e : TypeId} {n : Nat} {v : Value} {xs : List Value} (h : w.ownsRow base e 1 v n xs) : ∃ a cap, v = .slice a n cap ∧ n ≤ cap ∧ cap ≤ 9223372036854775807 ∧ IsRow w xs a n := by
  have hl : xs.length = n := by have := h.1; omega
  rcases h.2 with ⟨rfl, rfl⟩ | ⟨g, cap, cur, rfl, hg, hh, h1, h2, h3, h4⟩
  · obtain rfl := List.eq_nil_of_length_eq_zero hl
    exact ⟨none, 0, rfl, Nat.le_refl _, by omega, IsRow.nil _ _⟩
  · refine ⟨_, cap, rfl, h1, h2, hl.symm, fun i u hu => ⟨g, 0, rfl, ?_⟩⟩
    have := h.cells (g := g) rfl i u hu
    simpa [Addr.add_lit] using this
/-- A call hands back a row of texts. -/
def RetStrs (l : List ByteArray) (w : World) (e : Ending) (w' : World) : Prop := ∃ a n cap, e = .returned (.slice a n cap) ∧ n ≤ cap ∧ cap ≤ 9223372036854775807 ∧ IsRow w' (vstr l) a n ∧ Ext w w'
theorem vstr_snoc (l : List ByteArray) (x : ByteArray) : vstr (l ++ [x]) = vstr l ++ [.string x] := by simp [vstr]
theorem vstr_length (l : List ByteArray) : (vstr l).length = l.length := by simp [vstr]
theorem list_size' (s : ByteArray) : s.data.toList.length = s.size := by rw [Array.length_toList]; rfl
theorem extract_bs (s : ByteArray) (f j : Nat) : s.extract f j = bs ((s.data.toList.drop f).take (j - f)) := by
  apply ByteArray.ext
  rw [ByteArray.data_extract]
  apply Array.toList_inj.1
  rw [Array.toList_extract]
  simp [bs, List.extract_eq_take_drop]
theorem extract_bs' (s : ByteArray) (f : Nat) : s.extract f s.size = bs (s.data.toList.drop f) := by
  rw [extract_bs, List.take_of_length_le]
  rw [List.length_drop, list_size']
  exact Nat.le_refl _
end Go.Proofs.YtaioeailgknfjaaGreatDoor
