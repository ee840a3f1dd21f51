/- Part 9 of the proof: Scope1; no condition of ours. -/
import Derived.Test.YtaioeailgknfjaaGreatDoorPku1
import Derived.Test.YtaioeailgknfjaaGreatDoorPku2
import Derived.Test.YtaioeailgknfjaaGreatDoorPku5
set_option linter.unusedVariables false
set_option linter.unusedSimpArgs false
namespace Go.Proofs.YtaioeailgknfjaaGreatDoor
open Go Go.RowKit Go.Sort
set_option maxHeartbeats 400000 in
theorem strs_contains (x : ByteArray) (l : List ByteArray) (w : World) (a : Option Addr) (len cap : Nat) (h1 : len ≤ cap) (h2 : cap ≤ 9223372036854775807) (hl : IsRow w (vstr l) a len) :
    Calls Tryz.prog 70 #[.slice a len cap, .string x] w fun e w' => e = .returned (.bool (inB l x)) ∧ Ext w w' := by
  have HF : Hid (decide (0 ≤ fidx (fun y : ByteArray => x.toList == y.toList) l) = inB l x) := Lib.hid (fidx_nonneg _ l)
  have HI := Lib.hid (strs_index x l w a len cap h1 h2 hl)
  clear hl
  go_enter Tryz.func70, Tryz.ntmps70
  go_wp2_with (go_at_call 94; refine HI.out.mono ?_; rintro e w1 ⟨rfl, x1⟩)
  go_ret
  exact ⟨ret_bool HF.out, x1⟩
end Go.Proofs.YtaioeailgknfjaaGreatDoor
