/-
  No cell of these rows narrows 'for every input' (looked for: loops, veiled, ifaces, maps, wideKeys, modest, calm, conditions, laid).
  DERIVED. THE GIVEN ROWS OF THIS SEAT. 5 by the template 'for every input the law returns true; each argument reads behind the call as it read before'; 0 by the template 'total and deterministic' (their statements: YtafeemlojlngfaaTotals.lean).
  GIVEN WITH THE SEED: the statements are not yours to turn. If you find one false, say at which input.
  Laid BY PROGRAM, IN A SANDBOX (cutbox-rows.mjs): the forced cells as the released guide's own fill.sh prints them over the translation 59bb29c2a92763fe… (all of the seat's roots in one cut). By AI agents, Wed Nov 11 2026. No macro, syntax, notation, axiom, sorry.
-/
import Derived.Test.YtafeemlojlngfaaChecked
import GoSem.Claim
import GoSem.ClaimJoined
import GoSem.ClaimMapViews
import Derived.JoinedTies
import Derived.KernelRfl
namespace Go.Proofs.Ytafeemlojlngfaa
/- THE CELL 'sum', in the pinned program and in every row, IS THE sha256 OF THE DUMP (.gsa) THAT YtafeemlojlngfaaProg.lean LOADS. Nothing in Lean hashes anything: it is a label: what it is worth is what the hold of that sum in a sandbox is worth. -/
noncomputable def Try.pinned : Pinned := { name := "ytafeemlojlngfaa", sum := "59bb29c2a92763fe5a7e47497181f5502d51a0193bb7cef03815034054219375", checked := Try.checked }
namespace Rows
def none {H : Type} : Left H := { results := [], args := [] }

/-- 'weirkeeplaw19.PageScript': WHATEVER THE INPUT: true; the input reads as it did. -/
def pageScriptSpec : ChangeSpec := { name := "pageScript", fn := fun _ => fun
  | [d1, d2] => { results := [.lit (.bool true)], args := [d1, d2] }
  | _ => none }
def pageScriptRow : OpenClaim := { program := "ytafeemlojlngfaa", sum := "59bb29c2a92763fe5a7e47497181f5502d51a0193bb7cef03815034054219375", func := "weirkeep/weirkeeplaw19.PageScript", spec := "pageScript", unfollowed := true, recurses := true, apart := false }
def PageScriptSaid : Prop := pageScriptRow.holds Try.pinned (OpenSpec.ofChange pageScriptSpec)

/-- ITS FALSE NEIGHBOUR: 'it returns false'. Refute it at one input. -/
def pageScriptWrong : ChangeSpec := { name := "pageScript", fn := fun _ => fun
  | [d1, d2] => { results := [.lit (.bool false)], args := [d1, d2] }
  | _ => none }
def PageScriptWrongFalsely : Prop := pageScriptRow.holds Try.pinned (OpenSpec.ofChange pageScriptWrong)

/-- 'weirkeeplaw19.PageKeeps': WHATEVER THE INPUT: true; the input reads as it did. -/
def pageKeepsSpec : ChangeSpec := { name := "pageKeeps", fn := fun _ => fun
  | [d1, d2] => { results := [.lit (.bool true)], args := [d1, d2] }
  | _ => none }
def pageKeepsRow : OpenClaim := { program := "ytafeemlojlngfaa", sum := "59bb29c2a92763fe5a7e47497181f5502d51a0193bb7cef03815034054219375", func := "weirkeep/weirkeeplaw19.PageKeeps", spec := "pageKeeps", unfollowed := true, recurses := true, apart := false }
def PageKeepsSaid : Prop := pageKeepsRow.holds Try.pinned (OpenSpec.ofChange pageKeepsSpec)

/-- ITS FALSE NEIGHBOUR: 'it returns false'. Refute it at one input. -/
def pageKeepsWrong : ChangeSpec := { name := "pageKeeps", fn := fun _ => fun
  | [d1, d2] => { results := [.lit (.bool false)], args := [d1, d2] }
  | _ => none }
def PageKeepsWrongFalsely : Prop := pageKeepsRow.holds Try.pinned (OpenSpec.ofChange pageKeepsWrong)

/-- 'weirkeeplaw19.PageEvicts': WHATEVER THE INPUT: true; the input reads as it did. -/
def pageEvictsSpec : ChangeSpec := { name := "pageEvicts", fn := fun _ => fun
  | [d1, d2, d3] => { results := [.lit (.bool true)], args := [d1, d2, d3] }
  | _ => none }
def pageEvictsRow : OpenClaim := { program := "ytafeemlojlngfaa", sum := "59bb29c2a92763fe5a7e47497181f5502d51a0193bb7cef03815034054219375", func := "weirkeep/weirkeeplaw19.PageEvicts", spec := "pageEvicts", unfollowed := true, recurses := true, apart := false }
def PageEvictsSaid : Prop := pageEvictsRow.holds Try.pinned (OpenSpec.ofChange pageEvictsSpec)

/-- ITS FALSE NEIGHBOUR: 'it returns false'. Refute it at one input. -/
def pageEvictsWrong : ChangeSpec := { name := "pageEvicts", fn := fun _ => fun
  | [d1, d2, d3] => { results := [.lit (.bool false)], args := [d1, d2, d3] }
  | _ => none }
def PageEvictsWrongFalsely : Prop := pageEvictsRow.holds Try.pinned (OpenSpec.ofChange pageEvictsWrong)

/-- 'weirkeeplaw19.PageDirty': WHATEVER THE INPUT: true; the input reads as it did. -/
def pageDirtySpec : ChangeSpec := { name := "pageDirty", fn := fun _ => fun
  | [d1, d2, d3] => { results := [.lit (.bool true)], args := [d1, d2, d3] }
  | _ => none }
def pageDirtyRow : OpenClaim := { program := "ytafeemlojlngfaa", sum := "59bb29c2a92763fe5a7e47497181f5502d51a0193bb7cef03815034054219375", func := "weirkeep/weirkeeplaw19.PageDirty", spec := "pageDirty", unfollowed := true, recurses := true, apart := false }
def PageDirtySaid : Prop := pageDirtyRow.holds Try.pinned (OpenSpec.ofChange pageDirtySpec)

/-- ITS FALSE NEIGHBOUR: 'it returns false'. Refute it at one input. -/
def pageDirtyWrong : ChangeSpec := { name := "pageDirty", fn := fun _ => fun
  | [d1, d2, d3] => { results := [.lit (.bool false)], args := [d1, d2, d3] }
  | _ => none }
def PageDirtyWrongFalsely : Prop := pageDirtyRow.holds Try.pinned (OpenSpec.ofChange pageDirtyWrong)

/-- 'weirkeeplaw19.PageUse': WHATEVER THE INPUT: true; the input reads as it did. -/
def pageUseSpec : ChangeSpec := { name := "pageUse", fn := fun _ => fun
  | [d1, d2, d3] => { results := [.lit (.bool true)], args := [d1, d2, d3] }
  | _ => none }
def pageUseRow : OpenClaim := { program := "ytafeemlojlngfaa", sum := "59bb29c2a92763fe5a7e47497181f5502d51a0193bb7cef03815034054219375", func := "weirkeep/weirkeeplaw19.PageUse", spec := "pageUse", unfollowed := true, recurses := true, apart := false }
def PageUseSaid : Prop := pageUseRow.holds Try.pinned (OpenSpec.ofChange pageUseSpec)

/-- ITS FALSE NEIGHBOUR: 'it returns false'. Refute it at one input. -/
def pageUseWrong : ChangeSpec := { name := "pageUse", fn := fun _ => fun
  | [d1, d2, d3] => { results := [.lit (.bool false)], args := [d1, d2, d3] }
  | _ => none }
def PageUseWrongFalsely : Prop := pageUseRow.holds Try.pinned (OpenSpec.ofChange pageUseWrong)

/- THE SECOND FORM. 'bulk': how many values and letters a reading holds, each counted each time it is reached (what is shared counts as often as it is met; a slice's spare places count too). A statement '..UptoSaid' is the law's where the arguments, and the package variables that the reading takes, are together of bulk at most 1048576: NARROWER than '..Said'. Prove '..Said' where nothing that the law and all that it calls make is longer than what came in: it says more and counts as full. Else prove '..UptoSaid'. A law counts once. -/
mutual
def uptoBulk {H : Type} : DataW H → Nat
  | .lit (.string bytes) => bytes.length + 1
  | .lit _ => 1
  | .nil => 1
  | .ptr d => uptoBulk d + 1
  | .slice elems spare => uptoBulkAll elems + uptoBulkAll spare + 1
  | .agg parts => uptoBulkAll parts + 1
  | .iface _ d => uptoBulk d + 1
  | .map entries => uptoBulkEntries entries + 1
  | .held _ => 1
def uptoBulkAll {H : Type} : List (DataW H) → Nat
  | [] => 0
  | d :: r => uptoBulk d + uptoBulkAll r
def uptoBulkEntries {H : Type} : List (Lit × DataW H) → Nat
  | [] => 0
  | x :: r => uptoBulkEntry x + uptoBulkEntries r
def uptoBulkEntry {H : Type} : Lit × DataW H → Nat
  | (.string bytes, d) => bytes.length + uptoBulk d + 1
  | (_, d) => uptoBulk d + 1
 end
def uptoSmall : (H : Type) → List (DataW H) → Bool := fun _ ds => decide (uptoBulkAll ds ≤ 1048576)
def OpenSpec.upto (s : _root_.Go.ChangeSpec) : _root_.Go.OpenSpec := { _root_.Go.OpenSpec.ofChange s with cond := some uptoSmall }

/-- 'weirkeeplaw19.PageScript', WHERE WHAT IT READS IS OF BULK AT MOST 1048576: true; the input reads as it did. -/
def pageScriptUptoRow : OpenClaim := { program := "ytafeemlojlngfaa", sum := "59bb29c2a92763fe5a7e47497181f5502d51a0193bb7cef03815034054219375", func := "weirkeep/weirkeeplaw19.PageScript", spec := "pageScript", unfollowed := true, recurses := true, apart := false, narrowed := true }
def PageScriptUptoSaid : Prop := pageScriptUptoRow.holds Try.pinned (OpenSpec.upto pageScriptSpec)

/-- 'weirkeeplaw19.PageKeeps', WHERE WHAT IT READS IS OF BULK AT MOST 1048576: true; the input reads as it did. -/
def pageKeepsUptoRow : OpenClaim := { program := "ytafeemlojlngfaa", sum := "59bb29c2a92763fe5a7e47497181f5502d51a0193bb7cef03815034054219375", func := "weirkeep/weirkeeplaw19.PageKeeps", spec := "pageKeeps", unfollowed := true, recurses := true, apart := false, narrowed := true }
def PageKeepsUptoSaid : Prop := pageKeepsUptoRow.holds Try.pinned (OpenSpec.upto pageKeepsSpec)

/-- 'weirkeeplaw19.PageEvicts', WHERE WHAT IT READS IS OF BULK AT MOST 1048576: true; the input reads as it did. -/
def pageEvictsUptoRow : OpenClaim := { program := "ytafeemlojlngfaa", sum := "59bb29c2a92763fe5a7e47497181f5502d51a0193bb7cef03815034054219375", func := "weirkeep/weirkeeplaw19.PageEvicts", spec := "pageEvicts", unfollowed := true, recurses := true, apart := false, narrowed := true }
def PageEvictsUptoSaid : Prop := pageEvictsUptoRow.holds Try.pinned (OpenSpec.upto pageEvictsSpec)

/-- 'weirkeeplaw19.PageDirty', WHERE WHAT IT READS IS OF BULK AT MOST 1048576: true; the input reads as it did. -/
def pageDirtyUptoRow : OpenClaim := { program := "ytafeemlojlngfaa", sum := "59bb29c2a92763fe5a7e47497181f5502d51a0193bb7cef03815034054219375", func := "weirkeep/weirkeeplaw19.PageDirty", spec := "pageDirty", unfollowed := true, recurses := true, apart := false, narrowed := true }
def PageDirtyUptoSaid : Prop := pageDirtyUptoRow.holds Try.pinned (OpenSpec.upto pageDirtySpec)

/-- 'weirkeeplaw19.PageUse', WHERE WHAT IT READS IS OF BULK AT MOST 1048576: true; the input reads as it did. -/
def pageUseUptoRow : OpenClaim := { program := "ytafeemlojlngfaa", sum := "59bb29c2a92763fe5a7e47497181f5502d51a0193bb7cef03815034054219375", func := "weirkeep/weirkeeplaw19.PageUse", spec := "pageUse", unfollowed := true, recurses := true, apart := false, narrowed := true }
def PageUseUptoSaid : Prop := pageUseUptoRow.holds Try.pinned (OpenSpec.upto pageUseSpec)

end Rows
end Go.Proofs.Ytafeemlojlngfaa
