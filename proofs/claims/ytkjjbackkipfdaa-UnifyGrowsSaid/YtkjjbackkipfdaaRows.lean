/-
  NARROWER THAN 'FOR EVERY INPUT', by the rows' own cells (each row's printed sentence says how): UnifyPlays: loops · UnifySame: loops · UnifyTurns: loops · UnifyNil: loops · UnifyAgain: loops.
  DERIVED. THE GIVEN ROWS OF THIS SEAT. 6 by the template 'for every input the law returns true; each argument reads behind the call as it read before'; 0 by the template 'total and deterministic' (their statements: YtkjjbackkipfdaaTotals.lean).
  GIVEN WITH THE SEED: the statements are not yours to turn. If you find one false, say at which input.
  Laid BY PROGRAM, IN A SANDBOX (cutbox-rows.mjs): the forced cells as the released guide's own fill.sh prints them over the translation 50be689390ff192d… (all of the seat's roots in one cut). By AI agents, Wed Nov 11 2026. No macro, syntax, notation, axiom, sorry.
-/
import Derived.Test.YtkjjbackkipfdaaChecked
import GoSem.Claim
import GoSem.ClaimJoined
import GoSem.ClaimMapViews
import Derived.JoinedTies
import Derived.KernelRfl
namespace Go.Proofs.Ytkjjbackkipfdaa
/- THE CELL 'sum', in the pinned program and in every row, IS THE sha256 OF THE DUMP (.gsa) THAT YtkjjbackkipfdaaProg.lean LOADS. Nothing in Lean hashes anything: it is a label: what it is worth is what the hold of that sum in a sandbox is worth. -/
noncomputable def Try.pinned : Pinned := { name := "ytkjjbackkipfdaa", sum := "50be689390ff192d4d383603edbab344a81983867c98e5728b23055e2eae48d9", checked := Try.checked }
namespace Rows
def none {H : Type} : Left H := { results := [], args := [] }

/-- 'enclavelaw09.UnifyPlays': WHATEVER THE INPUT: true; the input reads as it did. -/
def unifyPlaysSpec : ChangeSpec := { name := "unifyPlays", fn := fun _ => fun
  | [d1, d2, d3, d4] => { results := [.lit (.bool true)], args := [d1, d2, d3, d4] }
  | _ => none }
def unifyPlaysRow : OpenClaim := { program := "ytkjjbackkipfdaa", sum := "50be689390ff192d4d383603edbab344a81983867c98e5728b23055e2eae48d9", func := "enclave/enclavelaw09.UnifyPlays", spec := "unifyPlays", inPlace := ["maps.clone"], unfollowed := true, recurses := true, loops := true, apart := false }
def UnifyPlaysSaid : Prop := unifyPlaysRow.holds Try.pinned (OpenSpec.ofChange unifyPlaysSpec)

/-- ITS FALSE NEIGHBOUR: 'it returns false'. Refute it at one input. -/
def unifyPlaysWrong : ChangeSpec := { name := "unifyPlays", fn := fun _ => fun
  | [d1, d2, d3, d4] => { results := [.lit (.bool false)], args := [d1, d2, d3, d4] }
  | _ => none }
def UnifyPlaysWrongFalsely : Prop := unifyPlaysRow.holds Try.pinned (OpenSpec.ofChange unifyPlaysWrong)

/-- 'enclavelaw09.UnifySame': WHATEVER THE INPUT: true; the input reads as it did. -/
def unifySameSpec : ChangeSpec := { name := "unifySame", fn := fun _ => fun
  | [d1, d2] => { results := [.lit (.bool true)], args := [d1, d2] }
  | _ => none }
def unifySameRow : OpenClaim := { program := "ytkjjbackkipfdaa", sum := "50be689390ff192d4d383603edbab344a81983867c98e5728b23055e2eae48d9", func := "enclave/enclavelaw09.UnifySame", spec := "unifySame", inPlace := ["maps.clone"], unfollowed := true, recurses := true, loops := true, apart := false }
def UnifySameSaid : Prop := unifySameRow.holds Try.pinned (OpenSpec.ofChange unifySameSpec)

/-- ITS FALSE NEIGHBOUR: 'it returns false'. Refute it at one input. -/
def unifySameWrong : ChangeSpec := { name := "unifySame", fn := fun _ => fun
  | [d1, d2] => { results := [.lit (.bool false)], args := [d1, d2] }
  | _ => none }
def UnifySameWrongFalsely : Prop := unifySameRow.holds Try.pinned (OpenSpec.ofChange unifySameWrong)

/-- 'enclavelaw09.UnifyTurns': WHATEVER THE INPUT: true; the input reads as it did. -/
def unifyTurnsSpec : ChangeSpec := { name := "unifyTurns", fn := fun _ => fun
  | [d1, d2] => { results := [.lit (.bool true)], args := [d1, d2] }
  | _ => none }
def unifyTurnsRow : OpenClaim := { program := "ytkjjbackkipfdaa", sum := "50be689390ff192d4d383603edbab344a81983867c98e5728b23055e2eae48d9", func := "enclave/enclavelaw09.UnifyTurns", spec := "unifyTurns", inPlace := ["maps.clone"], unfollowed := true, recurses := true, loops := true, apart := false }
def UnifyTurnsSaid : Prop := unifyTurnsRow.holds Try.pinned (OpenSpec.ofChange unifyTurnsSpec)

/-- ITS FALSE NEIGHBOUR: 'it returns false'. Refute it at one input. -/
def unifyTurnsWrong : ChangeSpec := { name := "unifyTurns", fn := fun _ => fun
  | [d1, d2] => { results := [.lit (.bool false)], args := [d1, d2] }
  | _ => none }
def UnifyTurnsWrongFalsely : Prop := unifyTurnsRow.holds Try.pinned (OpenSpec.ofChange unifyTurnsWrong)

/-- 'enclavelaw09.UnifyGrows': WHATEVER THE INPUT: true; the input reads as it did. -/
def unifyGrowsSpec : ChangeSpec := { name := "unifyGrows", fn := fun _ => fun
  | [d] => { results := [.lit (.bool true)], args := [d] }
  | _ => none }
def unifyGrowsRow : OpenClaim := { program := "ytkjjbackkipfdaa", sum := "50be689390ff192d4d383603edbab344a81983867c98e5728b23055e2eae48d9", func := "enclave/enclavelaw09.UnifyGrows", spec := "unifyGrows", inPlace := ["maps.clone"], unfollowed := true, recurses := true, apart := false }
def UnifyGrowsSaid : Prop := unifyGrowsRow.holds Try.pinned (OpenSpec.ofChange unifyGrowsSpec)

/-- ITS FALSE NEIGHBOUR: 'it returns false'. Refute it at one input. -/
def unifyGrowsWrong : ChangeSpec := { name := "unifyGrows", fn := fun _ => fun
  | [d] => { results := [.lit (.bool false)], args := [d] }
  | _ => none }
def UnifyGrowsWrongFalsely : Prop := unifyGrowsRow.holds Try.pinned (OpenSpec.ofChange unifyGrowsWrong)

/-- 'enclavelaw09.UnifyNil': WHATEVER THE INPUT: true; the input reads as it did. -/
def unifyNilSpec : ChangeSpec := { name := "unifyNil", fn := fun _ => fun
  | [d] => { results := [.lit (.bool true)], args := [d] }
  | _ => none }
def unifyNilRow : OpenClaim := { program := "ytkjjbackkipfdaa", sum := "50be689390ff192d4d383603edbab344a81983867c98e5728b23055e2eae48d9", func := "enclave/enclavelaw09.UnifyNil", spec := "unifyNil", inPlace := ["maps.clone"], unfollowed := true, recurses := true, loops := true, apart := false }
def UnifyNilSaid : Prop := unifyNilRow.holds Try.pinned (OpenSpec.ofChange unifyNilSpec)

/-- ITS FALSE NEIGHBOUR: 'it returns false'. Refute it at one input. -/
def unifyNilWrong : ChangeSpec := { name := "unifyNil", fn := fun _ => fun
  | [d] => { results := [.lit (.bool false)], args := [d] }
  | _ => none }
def UnifyNilWrongFalsely : Prop := unifyNilRow.holds Try.pinned (OpenSpec.ofChange unifyNilWrong)

/-- 'enclavelaw09.UnifyAgain': WHATEVER THE INPUT: true; the input reads as it did. -/
def unifyAgainSpec : ChangeSpec := { name := "unifyAgain", fn := fun _ => fun
  | [d1, d2, d3] => { results := [.lit (.bool true)], args := [d1, d2, d3] }
  | _ => none }
def unifyAgainRow : OpenClaim := { program := "ytkjjbackkipfdaa", sum := "50be689390ff192d4d383603edbab344a81983867c98e5728b23055e2eae48d9", func := "enclave/enclavelaw09.UnifyAgain", spec := "unifyAgain", inPlace := ["maps.clone"], unfollowed := true, recurses := true, loops := true, apart := false }
def UnifyAgainSaid : Prop := unifyAgainRow.holds Try.pinned (OpenSpec.ofChange unifyAgainSpec)

/-- ITS FALSE NEIGHBOUR: 'it returns false'. Refute it at one input. -/
def unifyAgainWrong : ChangeSpec := { name := "unifyAgain", fn := fun _ => fun
  | [d1, d2, d3] => { results := [.lit (.bool false)], args := [d1, d2, d3] }
  | _ => none }
def UnifyAgainWrongFalsely : Prop := unifyAgainRow.holds Try.pinned (OpenSpec.ofChange unifyAgainWrong)

/- THE SECOND FORM. 'bulk': how many values and letters a reading holds, each counted each time it is reached (what is shared counts as often as it is met; a slice's spare places count too). A statement '..UptoSaid' is the law's where the arguments, and the package variables that the reading takes, are together of bulk at most 1048576: NARROWER than '..Said'. Prove '..Said' where nothing that the law and all that it calls make is longer than what came in: it says more and counts as full. Else prove '..UptoSaid'. A law counts once. -/
mutual
def uptoBulk {H : Type} : DataW H → Nat
  | .lit (.string bytes) => bytes.length + 1
  | .lit _ => 1
  | .nil => 1
  | .ptr d => uptoBulk d + 1
  | .slice elems spare => uptoBulkAll elems + uptoBulkAll spare + 1
  | .agg parts => uptoBulkAll parts + 1
  | .iface _ d => uptoBulk d + 1
  | .map entries => uptoBulkEntries entries + 1
  | .held _ => 1
def uptoBulkAll {H : Type} : List (DataW H) → Nat
  | [] => 0
  | d :: r => uptoBulk d + uptoBulkAll r
def uptoBulkEntries {H : Type} : List (Lit × DataW H) → Nat
  | [] => 0
  | x :: r => uptoBulkEntry x + uptoBulkEntries r
def uptoBulkEntry {H : Type} : Lit × DataW H → Nat
  | (.string bytes, d) => bytes.length + uptoBulk d + 1
  | (_, d) => uptoBulk d + 1
 end
def uptoSmall : (H : Type) → List (DataW H) → Bool := fun _ ds => decide (uptoBulkAll ds ≤ 1048576)
def OpenSpec.upto (s : _root_.Go.ChangeSpec) : _root_.Go.OpenSpec := { _root_.Go.OpenSpec.ofChange s with cond := some uptoSmall }

/-- 'enclavelaw09.UnifyPlays', WHERE WHAT IT READS IS OF BULK AT MOST 1048576: true; the input reads as it did. -/
def unifyPlaysUptoRow : OpenClaim := { program := "ytkjjbackkipfdaa", sum := "50be689390ff192d4d383603edbab344a81983867c98e5728b23055e2eae48d9", func := "enclave/enclavelaw09.UnifyPlays", spec := "unifyPlays", inPlace := ["maps.clone"], unfollowed := true, recurses := true, loops := true, apart := false, narrowed := true }
def UnifyPlaysUptoSaid : Prop := unifyPlaysUptoRow.holds Try.pinned (OpenSpec.upto unifyPlaysSpec)

/-- 'enclavelaw09.UnifySame', WHERE WHAT IT READS IS OF BULK AT MOST 1048576: true; the input reads as it did. -/
def unifySameUptoRow : OpenClaim := { program := "ytkjjbackkipfdaa", sum := "50be689390ff192d4d383603edbab344a81983867c98e5728b23055e2eae48d9", func := "enclave/enclavelaw09.UnifySame", spec := "unifySame", inPlace := ["maps.clone"], unfollowed := true, recurses := true, loops := true, apart := false, narrowed := true }
def UnifySameUptoSaid : Prop := unifySameUptoRow.holds Try.pinned (OpenSpec.upto unifySameSpec)

/-- 'enclavelaw09.UnifyTurns', WHERE WHAT IT READS IS OF BULK AT MOST 1048576: true; the input reads as it did. -/
def unifyTurnsUptoRow : OpenClaim := { program := "ytkjjbackkipfdaa", sum := "50be689390ff192d4d383603edbab344a81983867c98e5728b23055e2eae48d9", func := "enclave/enclavelaw09.UnifyTurns", spec := "unifyTurns", inPlace := ["maps.clone"], unfollowed := true, recurses := true, loops := true, apart := false, narrowed := true }
def UnifyTurnsUptoSaid : Prop := unifyTurnsUptoRow.holds Try.pinned (OpenSpec.upto unifyTurnsSpec)

/-- 'enclavelaw09.UnifyGrows', WHERE WHAT IT READS IS OF BULK AT MOST 1048576: true; the input reads as it did. -/
def unifyGrowsUptoRow : OpenClaim := { program := "ytkjjbackkipfdaa", sum := "50be689390ff192d4d383603edbab344a81983867c98e5728b23055e2eae48d9", func := "enclave/enclavelaw09.UnifyGrows", spec := "unifyGrows", inPlace := ["maps.clone"], unfollowed := true, recurses := true, apart := false, narrowed := true }
def UnifyGrowsUptoSaid : Prop := unifyGrowsUptoRow.holds Try.pinned (OpenSpec.upto unifyGrowsSpec)

/-- 'enclavelaw09.UnifyNil', WHERE WHAT IT READS IS OF BULK AT MOST 1048576: true; the input reads as it did. -/
def unifyNilUptoRow : OpenClaim := { program := "ytkjjbackkipfdaa", sum := "50be689390ff192d4d383603edbab344a81983867c98e5728b23055e2eae48d9", func := "enclave/enclavelaw09.UnifyNil", spec := "unifyNil", inPlace := ["maps.clone"], unfollowed := true, recurses := true, loops := true, apart := false, narrowed := true }
def UnifyNilUptoSaid : Prop := unifyNilUptoRow.holds Try.pinned (OpenSpec.upto unifyNilSpec)

/-- 'enclavelaw09.UnifyAgain', WHERE WHAT IT READS IS OF BULK AT MOST 1048576: true; the input reads as it did. -/
def unifyAgainUptoRow : OpenClaim := { program := "ytkjjbackkipfdaa", sum := "50be689390ff192d4d383603edbab344a81983867c98e5728b23055e2eae48d9", func := "enclave/enclavelaw09.UnifyAgain", spec := "unifyAgain", inPlace := ["maps.clone"], unfollowed := true, recurses := true, loops := true, apart := false, narrowed := true }
def UnifyAgainUptoSaid : Prop := unifyAgainUptoRow.holds Try.pinned (OpenSpec.upto unifyAgainSpec)

end Rows
end Go.Proofs.Ytkjjbackkipfdaa
