/- Strings as rows of bytes. No program in sight. -/
import Derived.Lib.Hide
namespace Go.Proofs.YtaioeailgknfjaaGreatDoor
open Go

/-- A row of bytes as a string's bytes. -/
def bs (l : List UInt8) : ByteArray := ⟨l.toArray⟩
theorem bs_append (a b : List UInt8) : bs a ++ bs b = bs (a ++ b) := by
  unfold bs
  apply ByteArray.ext
  simp
theorem bs_size (a : List UInt8) : (bs a).size = a.length := by simp [bs, ByteArray.size]
theorem bs_list (a : List UInt8) : (bs a).data.toList = a := by simp [bs]
theorem bs_inj {a b : List UInt8} : bs a = bs b ↔ a = b := by
  constructor
  · intro h; rw [← bs_list a, h, bs_list]
  · rintro rfl; rfl
theorem bs_of (s : ByteArray) : s = bs s.data.toList := by
  obtain ⟨⟨l⟩⟩ := s
  rfl
end Go.Proofs.YtaioeailgknfjaaGreatDoor
