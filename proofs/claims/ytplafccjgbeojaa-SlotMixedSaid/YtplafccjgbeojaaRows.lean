/-
  No cell of these rows narrows 'for every input' (looked for: loops, veiled, ifaces, maps, wideKeys, modest, calm, conditions, laid).
  DERIVED. THE GIVEN ROWS OF THIS SEAT. 5 by the template 'for every input the law returns true; each argument reads behind the call as it read before'; 0 by the template 'total and deterministic' (their statements: YtplafccjgbeojaaTotals.lean).
  GIVEN WITH THE SEED: the statements are not yours to turn. If you find one false, say at which input.
  Laid BY PROGRAM, IN A SANDBOX (cutbox-rows.mjs): the forced cells as the released guide's own fill.sh prints them over the translation 39a6e5ed2ec2e47f… (all of the seat's roots in one cut). By AI agents, Wed Nov 11 2026. No macro, syntax, notation, axiom, sorry.
-/
import Derived.Test.YtplafccjgbeojaaChecked
import GoSem.Claim
import GoSem.ClaimJoined
import GoSem.ClaimMapViews
import Derived.JoinedTies
import Derived.KernelRfl
namespace Go.Proofs.Ytplafccjgbeojaa
/- THE CELL 'sum', in the pinned program and in every row, IS THE sha256 OF THE DUMP (.gsa) THAT YtplafccjgbeojaaProg.lean LOADS. Nothing in Lean hashes anything: it is a label: what it is worth is what the hold of that sum in a sandbox is worth. -/
noncomputable def Try.pinned : Pinned := { name := "ytplafccjgbeojaa", sum := "39a6e5ed2ec2e47f892ec9abe6275a74ecbee88df5fc19763a368348e5390e19", checked := Try.checked }
namespace Rows
def none {H : Type} : Left H := { results := [], args := [] }

/-- 'vintnerlaw16.SlotLate': WHATEVER THE INPUT: true; the input reads as it did. -/
def slotLateSpec : ChangeSpec := { name := "slotLate", fn := fun _ => fun
  | [d1, d2] => { results := [.lit (.bool true)], args := [d1, d2] }
  | _ => none }
def slotLateRow : OpenClaim := { program := "ytplafccjgbeojaa", sum := "39a6e5ed2ec2e47f892ec9abe6275a74ecbee88df5fc19763a368348e5390e19", func := "vintner/vintnerlaw16.SlotLate", spec := "slotLate", unfollowed := true, recurses := true, apart := false }
def SlotLateSaid : Prop := slotLateRow.holds Try.pinned (OpenSpec.ofChange slotLateSpec)

/-- ITS FALSE NEIGHBOUR: 'it returns false'. Refute it at one input. -/
def slotLateWrong : ChangeSpec := { name := "slotLate", fn := fun _ => fun
  | [d1, d2] => { results := [.lit (.bool false)], args := [d1, d2] }
  | _ => none }
def SlotLateWrongFalsely : Prop := slotLateRow.holds Try.pinned (OpenSpec.ofChange slotLateWrong)

/-- 'vintnerlaw16.SlotMixed': WHATEVER THE INPUT: true; the input reads as it did. -/
def slotMixedSpec : ChangeSpec := { name := "slotMixed", fn := fun _ => fun
  | [d1, d2] => { results := [.lit (.bool true)], args := [d1, d2] }
  | _ => none }
def slotMixedRow : OpenClaim := { program := "ytplafccjgbeojaa", sum := "39a6e5ed2ec2e47f892ec9abe6275a74ecbee88df5fc19763a368348e5390e19", func := "vintner/vintnerlaw16.SlotMixed", spec := "slotMixed", unfollowed := true, recurses := true, apart := false }
def SlotMixedSaid : Prop := slotMixedRow.holds Try.pinned (OpenSpec.ofChange slotMixedSpec)

/-- ITS FALSE NEIGHBOUR: 'it returns false'. Refute it at one input. -/
def slotMixedWrong : ChangeSpec := { name := "slotMixed", fn := fun _ => fun
  | [d1, d2] => { results := [.lit (.bool false)], args := [d1, d2] }
  | _ => none }
def SlotMixedWrongFalsely : Prop := slotMixedRow.holds Try.pinned (OpenSpec.ofChange slotMixedWrong)

/-- 'vintnerlaw16.SlotWhole': WHATEVER THE INPUT: true; the input reads as it did. -/
def slotWholeSpec : ChangeSpec := { name := "slotWhole", fn := fun _ => fun
  | [d1, d2] => { results := [.lit (.bool true)], args := [d1, d2] }
  | _ => none }
def slotWholeRow : OpenClaim := { program := "ytplafccjgbeojaa", sum := "39a6e5ed2ec2e47f892ec9abe6275a74ecbee88df5fc19763a368348e5390e19", func := "vintner/vintnerlaw16.SlotWhole", spec := "slotWhole", unfollowed := true, recurses := true, apart := false }
def SlotWholeSaid : Prop := slotWholeRow.holds Try.pinned (OpenSpec.ofChange slotWholeSpec)

/-- ITS FALSE NEIGHBOUR: 'it returns false'. Refute it at one input. -/
def slotWholeWrong : ChangeSpec := { name := "slotWhole", fn := fun _ => fun
  | [d1, d2] => { results := [.lit (.bool false)], args := [d1, d2] }
  | _ => none }
def SlotWholeWrongFalsely : Prop := slotWholeRow.holds Try.pinned (OpenSpec.ofChange slotWholeWrong)

/-- 'vintnerlaw16.SlotTimes': WHATEVER THE INPUT: true; the input reads as it did. -/
def slotTimesSpec : ChangeSpec := { name := "slotTimes", fn := fun _ => fun
  | [d] => { results := [.lit (.bool true)], args := [d] }
  | _ => none }
def slotTimesRow : OpenClaim := { program := "ytplafccjgbeojaa", sum := "39a6e5ed2ec2e47f892ec9abe6275a74ecbee88df5fc19763a368348e5390e19", func := "vintner/vintnerlaw16.SlotTimes", spec := "slotTimes", inPlace := ["internal/abi.NoEscape"], unfollowed := true, recurses := true, apart := false }
def SlotTimesSaid : Prop := slotTimesRow.holds Try.pinned (OpenSpec.ofChange slotTimesSpec)

/-- ITS FALSE NEIGHBOUR: 'it returns false'. Refute it at one input. -/
def slotTimesWrong : ChangeSpec := { name := "slotTimes", fn := fun _ => fun
  | [d] => { results := [.lit (.bool false)], args := [d] }
  | _ => none }
def SlotTimesWrongFalsely : Prop := slotTimesRow.holds Try.pinned (OpenSpec.ofChange slotTimesWrong)

/-- 'vintnerlaw16.SlotNil': WHATEVER THE INPUT: true; the input reads as it did. -/
def slotNilSpec : ChangeSpec := { name := "slotNil", fn := fun _ => fun
  | [d1, d2, d3] => { results := [.lit (.bool true)], args := [d1, d2, d3] }
  | _ => none }
def slotNilRow : OpenClaim := { program := "ytplafccjgbeojaa", sum := "39a6e5ed2ec2e47f892ec9abe6275a74ecbee88df5fc19763a368348e5390e19", func := "vintner/vintnerlaw16.SlotNil", spec := "slotNil", inPlace := ["internal/abi.NoEscape"], unfollowed := true, recurses := true, apart := false }
def SlotNilSaid : Prop := slotNilRow.holds Try.pinned (OpenSpec.ofChange slotNilSpec)

/-- ITS FALSE NEIGHBOUR: 'it returns false'. Refute it at one input. -/
def slotNilWrong : ChangeSpec := { name := "slotNil", fn := fun _ => fun
  | [d1, d2, d3] => { results := [.lit (.bool false)], args := [d1, d2, d3] }
  | _ => none }
def SlotNilWrongFalsely : Prop := slotNilRow.holds Try.pinned (OpenSpec.ofChange slotNilWrong)

/- THE SECOND FORM. 'bulk': how many values and letters a reading holds, each counted each time it is reached (what is shared counts as often as it is met; a slice's spare places count too). A statement '..UptoSaid' is the law's where the arguments, and the package variables that the reading takes, are together of bulk at most 1048576: NARROWER than '..Said'. Prove '..Said' where nothing that the law and all that it calls make is longer than what came in: it says more and counts as full. Else prove '..UptoSaid'. A law counts once. -/
mutual
def uptoBulk {H : Type} : DataW H → Nat
  | .lit (.string bytes) => bytes.length + 1
  | .lit _ => 1
  | .nil => 1
  | .ptr d => uptoBulk d + 1
  | .slice elems spare => uptoBulkAll elems + uptoBulkAll spare + 1
  | .agg parts => uptoBulkAll parts + 1
  | .iface _ d => uptoBulk d + 1
  | .map entries => uptoBulkEntries entries + 1
  | .held _ => 1
def uptoBulkAll {H : Type} : List (DataW H) → Nat
  | [] => 0
  | d :: r => uptoBulk d + uptoBulkAll r
def uptoBulkEntries {H : Type} : List (Lit × DataW H) → Nat
  | [] => 0
  | x :: r => uptoBulkEntry x + uptoBulkEntries r
def uptoBulkEntry {H : Type} : Lit × DataW H → Nat
  | (.string bytes, d) => bytes.length + uptoBulk d + 1
  | (_, d) => uptoBulk d + 1
 end
def uptoSmall : (H : Type) → List (DataW H) → Bool := fun _ ds => decide (uptoBulkAll ds ≤ 1048576)
def OpenSpec.upto (s : _root_.Go.ChangeSpec) : _root_.Go.OpenSpec := { _root_.Go.OpenSpec.ofChange s with cond := some uptoSmall }

/-- 'vintnerlaw16.SlotLate', WHERE WHAT IT READS IS OF BULK AT MOST 1048576: true; the input reads as it did. -/
def slotLateUptoRow : OpenClaim := { program := "ytplafccjgbeojaa", sum := "39a6e5ed2ec2e47f892ec9abe6275a74ecbee88df5fc19763a368348e5390e19", func := "vintner/vintnerlaw16.SlotLate", spec := "slotLate", unfollowed := true, recurses := true, apart := false, narrowed := true }
def SlotLateUptoSaid : Prop := slotLateUptoRow.holds Try.pinned (OpenSpec.upto slotLateSpec)

/-- 'vintnerlaw16.SlotMixed', WHERE WHAT IT READS IS OF BULK AT MOST 1048576: true; the input reads as it did. -/
def slotMixedUptoRow : OpenClaim := { program := "ytplafccjgbeojaa", sum := "39a6e5ed2ec2e47f892ec9abe6275a74ecbee88df5fc19763a368348e5390e19", func := "vintner/vintnerlaw16.SlotMixed", spec := "slotMixed", unfollowed := true, recurses := true, apart := false, narrowed := true }
def SlotMixedUptoSaid : Prop := slotMixedUptoRow.holds Try.pinned (OpenSpec.upto slotMixedSpec)

/-- 'vintnerlaw16.SlotWhole', WHERE WHAT IT READS IS OF BULK AT MOST 1048576: true; the input reads as it did. -/
def slotWholeUptoRow : OpenClaim := { program := "ytplafccjgbeojaa", sum := "39a6e5ed2ec2e47f892ec9abe6275a74ecbee88df5fc19763a368348e5390e19", func := "vintner/vintnerlaw16.SlotWhole", spec := "slotWhole", unfollowed := true, recurses := true, apart := false, narrowed := true }
def SlotWholeUptoSaid : Prop := slotWholeUptoRow.holds Try.pinned (OpenSpec.upto slotWholeSpec)

/-- 'vintnerlaw16.SlotTimes', WHERE WHAT IT READS IS OF BULK AT MOST 1048576: true; the input reads as it did. -/
def slotTimesUptoRow : OpenClaim := { program := "ytplafccjgbeojaa", sum := "39a6e5ed2ec2e47f892ec9abe6275a74ecbee88df5fc19763a368348e5390e19", func := "vintner/vintnerlaw16.SlotTimes", spec := "slotTimes", inPlace := ["internal/abi.NoEscape"], unfollowed := true, recurses := true, apart := false, narrowed := true }
def SlotTimesUptoSaid : Prop := slotTimesUptoRow.holds Try.pinned (OpenSpec.upto slotTimesSpec)

/-- 'vintnerlaw16.SlotNil', WHERE WHAT IT READS IS OF BULK AT MOST 1048576: true; the input reads as it did. -/
def slotNilUptoRow : OpenClaim := { program := "ytplafccjgbeojaa", sum := "39a6e5ed2ec2e47f892ec9abe6275a74ecbee88df5fc19763a368348e5390e19", func := "vintner/vintnerlaw16.SlotNil", spec := "slotNil", inPlace := ["internal/abi.NoEscape"], unfollowed := true, recurses := true, apart := false, narrowed := true }
def SlotNilUptoSaid : Prop := slotNilUptoRow.holds Try.pinned (OpenSpec.upto slotNilSpec)

end Rows
end Go.Proofs.Ytplafccjgbeojaa
