/-
  No cell of these rows narrows 'for every input' (looked for: loops, veiled, ifaces, maps, wideKeys, modest, calm, conditions, laid).
  DERIVED. THE GIVEN ROWS OF THIS SEAT. 6 by the template 'for every input the law returns true; each argument reads behind the call as it read before'; 0 by the template 'total and deterministic' (their statements: YtcbccogpogdbmaaTotals.lean).
  GIVEN WITH THE SEED: the statements are not yours to turn. If you find one false, say at which input.
  Laid BY PROGRAM, IN A SANDBOX (cutbox-rows.mjs): the forced cells as the released guide's own fill.sh prints them over the translation ead3bfe64c7d9715… (all of the seat's roots in one cut). By AI agents, Wed Nov 11 2026. No macro, syntax, notation, axiom, sorry.
-/
import Derived.Test.YtcbccogpogdbmaaChecked
import GoSem.Claim
import GoSem.ClaimJoined
import GoSem.ClaimMapViews
import Derived.JoinedTies
import Derived.KernelRfl
namespace Go.Proofs.Ytcbccogpogdbmaa
/- THE CELL 'sum', in the pinned program and in every row, IS THE sha256 OF THE DUMP (.gsa) THAT YtcbccogpogdbmaaProg.lean LOADS. Nothing in Lean hashes anything: it is a label: what it is worth is what the hold of that sum in a sandbox is worth. -/
noncomputable def Try.pinned : Pinned := { name := "ytcbccogpogdbmaa", sum := "ead3bfe64c7d9715b0ae63fdcc885d738a693dac93fcfc29f1b5b7115a4aae65", checked := Try.checked }
namespace Rows
def none {H : Type} : Left H := { results := [], args := [] }

/-- 'weirkeeplaw18.RedoRecords': WHATEVER THE INPUT: true; the input reads as it did. -/
def redoRecordsSpec : ChangeSpec := { name := "redoRecords", fn := fun _ => fun
  | [d1, d2] => { results := [.lit (.bool true)], args := [d1, d2] }
  | _ => none }
def redoRecordsRow : OpenClaim := { program := "ytcbccogpogdbmaa", sum := "ead3bfe64c7d9715b0ae63fdcc885d738a693dac93fcfc29f1b5b7115a4aae65", func := "weirkeep/weirkeeplaw18.RedoRecords", spec := "redoRecords", unfollowed := true, recurses := true, apart := false }
def RedoRecordsSaid : Prop := redoRecordsRow.holds Try.pinned (OpenSpec.ofChange redoRecordsSpec)

/-- ITS FALSE NEIGHBOUR: 'it returns false'. Refute it at one input. -/
def redoRecordsWrong : ChangeSpec := { name := "redoRecords", fn := fun _ => fun
  | [d1, d2] => { results := [.lit (.bool false)], args := [d1, d2] }
  | _ => none }
def RedoRecordsWrongFalsely : Prop := redoRecordsRow.holds Try.pinned (OpenSpec.ofChange redoRecordsWrong)

/-- 'weirkeeplaw18.RedoAgain': WHATEVER THE INPUT: true; the input reads as it did. -/
def redoAgainSpec : ChangeSpec := { name := "redoAgain", fn := fun _ => fun
  | [d1, d2] => { results := [.lit (.bool true)], args := [d1, d2] }
  | _ => none }
def redoAgainRow : OpenClaim := { program := "ytcbccogpogdbmaa", sum := "ead3bfe64c7d9715b0ae63fdcc885d738a693dac93fcfc29f1b5b7115a4aae65", func := "weirkeep/weirkeeplaw18.RedoAgain", spec := "redoAgain", unfollowed := true, recurses := true, apart := false }
def RedoAgainSaid : Prop := redoAgainRow.holds Try.pinned (OpenSpec.ofChange redoAgainSpec)

/-- ITS FALSE NEIGHBOUR: 'it returns false'. Refute it at one input. -/
def redoAgainWrong : ChangeSpec := { name := "redoAgain", fn := fun _ => fun
  | [d1, d2] => { results := [.lit (.bool false)], args := [d1, d2] }
  | _ => none }
def RedoAgainWrongFalsely : Prop := redoAgainRow.holds Try.pinned (OpenSpec.ofChange redoAgainWrong)

/-- 'weirkeeplaw18.RedoCuts': WHATEVER THE INPUT: true; the input reads as it did. -/
def redoCutsSpec : ChangeSpec := { name := "redoCuts", fn := fun _ => fun
  | [d1, d2, d3] => { results := [.lit (.bool true)], args := [d1, d2, d3] }
  | _ => none }
def redoCutsRow : OpenClaim := { program := "ytcbccogpogdbmaa", sum := "ead3bfe64c7d9715b0ae63fdcc885d738a693dac93fcfc29f1b5b7115a4aae65", func := "weirkeep/weirkeeplaw18.RedoCuts", spec := "redoCuts", unfollowed := true, recurses := true, apart := false }
def RedoCutsSaid : Prop := redoCutsRow.holds Try.pinned (OpenSpec.ofChange redoCutsSpec)

/-- ITS FALSE NEIGHBOUR: 'it returns false'. Refute it at one input. -/
def redoCutsWrong : ChangeSpec := { name := "redoCuts", fn := fun _ => fun
  | [d1, d2, d3] => { results := [.lit (.bool false)], args := [d1, d2, d3] }
  | _ => none }
def RedoCutsWrongFalsely : Prop := redoCutsRow.holds Try.pinned (OpenSpec.ofChange redoCutsWrong)

/-- 'weirkeeplaw18.RedoScript': WHATEVER THE INPUT: true; the input reads as it did. -/
def redoScriptSpec : ChangeSpec := { name := "redoScript", fn := fun _ => fun
  | [d1, d2, d3] => { results := [.lit (.bool true)], args := [d1, d2, d3] }
  | _ => none }
def redoScriptRow : OpenClaim := { program := "ytcbccogpogdbmaa", sum := "ead3bfe64c7d9715b0ae63fdcc885d738a693dac93fcfc29f1b5b7115a4aae65", func := "weirkeep/weirkeeplaw18.RedoScript", spec := "redoScript", unfollowed := true, recurses := true, apart := false }
def RedoScriptSaid : Prop := redoScriptRow.holds Try.pinned (OpenSpec.ofChange redoScriptSpec)

/-- ITS FALSE NEIGHBOUR: 'it returns false'. Refute it at one input. -/
def redoScriptWrong : ChangeSpec := { name := "redoScript", fn := fun _ => fun
  | [d1, d2, d3] => { results := [.lit (.bool false)], args := [d1, d2, d3] }
  | _ => none }
def RedoScriptWrongFalsely : Prop := redoScriptRow.holds Try.pinned (OpenSpec.ofChange redoScriptWrong)

/-- 'weirkeeplaw18.RedoFull': WHATEVER THE INPUT: true; the input reads as it did. -/
def redoFullSpec : ChangeSpec := { name := "redoFull", fn := fun _ => fun
  | [d1, d2] => { results := [.lit (.bool true)], args := [d1, d2] }
  | _ => none }
def redoFullRow : OpenClaim := { program := "ytcbccogpogdbmaa", sum := "ead3bfe64c7d9715b0ae63fdcc885d738a693dac93fcfc29f1b5b7115a4aae65", func := "weirkeep/weirkeeplaw18.RedoFull", spec := "redoFull", unfollowed := true, recurses := true, apart := false }
def RedoFullSaid : Prop := redoFullRow.holds Try.pinned (OpenSpec.ofChange redoFullSpec)

/-- ITS FALSE NEIGHBOUR: 'it returns false'. Refute it at one input. -/
def redoFullWrong : ChangeSpec := { name := "redoFull", fn := fun _ => fun
  | [d1, d2] => { results := [.lit (.bool false)], args := [d1, d2] }
  | _ => none }
def RedoFullWrongFalsely : Prop := redoFullRow.holds Try.pinned (OpenSpec.ofChange redoFullWrong)

/-- 'weirkeeplaw18.RedoPlans': WHATEVER THE INPUT: true; the input reads as it did. -/
def redoPlansSpec : ChangeSpec := { name := "redoPlans", fn := fun _ => fun
  | [d1, d2, d3] => { results := [.lit (.bool true)], args := [d1, d2, d3] }
  | _ => none }
def redoPlansRow : OpenClaim := { program := "ytcbccogpogdbmaa", sum := "ead3bfe64c7d9715b0ae63fdcc885d738a693dac93fcfc29f1b5b7115a4aae65", func := "weirkeep/weirkeeplaw18.RedoPlans", spec := "redoPlans", unfollowed := true, recurses := true, apart := false }
def RedoPlansSaid : Prop := redoPlansRow.holds Try.pinned (OpenSpec.ofChange redoPlansSpec)

/-- ITS FALSE NEIGHBOUR: 'it returns false'. Refute it at one input. -/
def redoPlansWrong : ChangeSpec := { name := "redoPlans", fn := fun _ => fun
  | [d1, d2, d3] => { results := [.lit (.bool false)], args := [d1, d2, d3] }
  | _ => none }
def RedoPlansWrongFalsely : Prop := redoPlansRow.holds Try.pinned (OpenSpec.ofChange redoPlansWrong)

/- THE SECOND FORM. 'bulk': how many values and letters a reading holds, each counted each time it is reached (what is shared counts as often as it is met; a slice's spare places count too). A statement '..UptoSaid' is the law's where the arguments, and the package variables that the reading takes, are together of bulk at most 1048576: NARROWER than '..Said'. Prove '..Said' where nothing that the law and all that it calls make is longer than what came in: it says more and counts as full. Else prove '..UptoSaid'. A law counts once. -/
mutual
def uptoBulk {H : Type} : DataW H → Nat
  | .lit (.string bytes) => bytes.length + 1
  | .lit _ => 1
  | .nil => 1
  | .ptr d => uptoBulk d + 1
  | .slice elems spare => uptoBulkAll elems + uptoBulkAll spare + 1
  | .agg parts => uptoBulkAll parts + 1
  | .iface _ d => uptoBulk d + 1
  | .map entries => uptoBulkEntries entries + 1
  | .held _ => 1
def uptoBulkAll {H : Type} : List (DataW H) → Nat
  | [] => 0
  | d :: r => uptoBulk d + uptoBulkAll r
def uptoBulkEntries {H : Type} : List (Lit × DataW H) → Nat
  | [] => 0
  | x :: r => uptoBulkEntry x + uptoBulkEntries r
def uptoBulkEntry {H : Type} : Lit × DataW H → Nat
  | (.string bytes, d) => bytes.length + uptoBulk d + 1
  | (_, d) => uptoBulk d + 1
 end
def uptoSmall : (H : Type) → List (DataW H) → Bool := fun _ ds => decide (uptoBulkAll ds ≤ 1048576)
def OpenSpec.upto (s : _root_.Go.ChangeSpec) : _root_.Go.OpenSpec := { _root_.Go.OpenSpec.ofChange s with cond := some uptoSmall }

/-- 'weirkeeplaw18.RedoRecords', WHERE WHAT IT READS IS OF BULK AT MOST 1048576: true; the input reads as it did. -/
def redoRecordsUptoRow : OpenClaim := { program := "ytcbccogpogdbmaa", sum := "ead3bfe64c7d9715b0ae63fdcc885d738a693dac93fcfc29f1b5b7115a4aae65", func := "weirkeep/weirkeeplaw18.RedoRecords", spec := "redoRecords", unfollowed := true, recurses := true, apart := false, narrowed := true }
def RedoRecordsUptoSaid : Prop := redoRecordsUptoRow.holds Try.pinned (OpenSpec.upto redoRecordsSpec)

/-- 'weirkeeplaw18.RedoAgain', WHERE WHAT IT READS IS OF BULK AT MOST 1048576: true; the input reads as it did. -/
def redoAgainUptoRow : OpenClaim := { program := "ytcbccogpogdbmaa", sum := "ead3bfe64c7d9715b0ae63fdcc885d738a693dac93fcfc29f1b5b7115a4aae65", func := "weirkeep/weirkeeplaw18.RedoAgain", spec := "redoAgain", unfollowed := true, recurses := true, apart := false, narrowed := true }
def RedoAgainUptoSaid : Prop := redoAgainUptoRow.holds Try.pinned (OpenSpec.upto redoAgainSpec)

/-- 'weirkeeplaw18.RedoCuts', WHERE WHAT IT READS IS OF BULK AT MOST 1048576: true; the input reads as it did. -/
def redoCutsUptoRow : OpenClaim := { program := "ytcbccogpogdbmaa", sum := "ead3bfe64c7d9715b0ae63fdcc885d738a693dac93fcfc29f1b5b7115a4aae65", func := "weirkeep/weirkeeplaw18.RedoCuts", spec := "redoCuts", unfollowed := true, recurses := true, apart := false, narrowed := true }
def RedoCutsUptoSaid : Prop := redoCutsUptoRow.holds Try.pinned (OpenSpec.upto redoCutsSpec)

/-- 'weirkeeplaw18.RedoScript', WHERE WHAT IT READS IS OF BULK AT MOST 1048576: true; the input reads as it did. -/
def redoScriptUptoRow : OpenClaim := { program := "ytcbccogpogdbmaa", sum := "ead3bfe64c7d9715b0ae63fdcc885d738a693dac93fcfc29f1b5b7115a4aae65", func := "weirkeep/weirkeeplaw18.RedoScript", spec := "redoScript", unfollowed := true, recurses := true, apart := false, narrowed := true }
def RedoScriptUptoSaid : Prop := redoScriptUptoRow.holds Try.pinned (OpenSpec.upto redoScriptSpec)

/-- 'weirkeeplaw18.RedoFull', WHERE WHAT IT READS IS OF BULK AT MOST 1048576: true; the input reads as it did. -/
def redoFullUptoRow : OpenClaim := { program := "ytcbccogpogdbmaa", sum := "ead3bfe64c7d9715b0ae63fdcc885d738a693dac93fcfc29f1b5b7115a4aae65", func := "weirkeep/weirkeeplaw18.RedoFull", spec := "redoFull", unfollowed := true, recurses := true, apart := false, narrowed := true }
def RedoFullUptoSaid : Prop := redoFullUptoRow.holds Try.pinned (OpenSpec.upto redoFullSpec)

/-- 'weirkeeplaw18.RedoPlans', WHERE WHAT IT READS IS OF BULK AT MOST 1048576: true; the input reads as it did. -/
def redoPlansUptoRow : OpenClaim := { program := "ytcbccogpogdbmaa", sum := "ead3bfe64c7d9715b0ae63fdcc885d738a693dac93fcfc29f1b5b7115a4aae65", func := "weirkeep/weirkeeplaw18.RedoPlans", spec := "redoPlans", unfollowed := true, recurses := true, apart := false, narrowed := true }
def RedoPlansUptoSaid : Prop := redoPlansUptoRow.holds Try.pinned (OpenSpec.upto redoPlansSpec)

end Rows
end Go.Proofs.Ytcbccogpogdbmaa
