/-
  DERIVED. GIVEN WITH THE SEED: THE PROGRAM's TIES (one call each: nine closed facts by the kernel) AND EACH ROW's TIE, after the 31st guide's Derived/Test/Toyas{Tie, Card}.lean. No idea stands in it: it is a product of the set-up. Laid BY PROGRAM, IN A SANDBOX (cutbox-door.mjs). By AI agents, Wed Nov 11 2026. No macro, syntax, notation, axiom, sorry.
-/
import Derived.Test.YthhpamaeibjpaaaDoorRows
import Derived.LaidByTextLater
import Derived.SevenTiedAt
import Derived.LaidSub
import Derived.LaidOnce
namespace Go.Proofs.YthhpamaeibjpaaaDoor
open Go
set_option maxRecDepth 100000
theorem seatTie1 : Tryd.prog.laidByTextLater [("weirkeep/config.kinds", Rows.laid_weirkeep_config_kinds)] [.funcs] true :=
  Program.laidByTextLater_by_one 18 8 2 (by kernel_rfl) (by kernel_rfl) (by kernel_rfl) (by kernel_rfl) (by kernel_rfl) (by kernel_rfl) (fun _ _ => by kernel_rfl)
theorem noOwnUnsafe : Tryd.pinned.checked.prog.headLifts.contains "ownunsafe" = false := by kernel_rfl
theorem tie : Tryd.prog.laidByTextLater [("weirkeep/config.kinds", Rows.laid_weirkeep_config_kinds)] [.funcs] true :=
  Program.laidByTextLater.sub seatTie1 ["weirkeep/config.kinds"] (by kernel_rfl) (by kernel_rfl)
theorem configApplies_row_tie : Rows.configAppliesRow.laidByTextAt .later Tryd.pinned [.funcs] true :=
  OpenClaim.laidByTextAt_later rfl rfl tie noOwnUnsafe
theorem configKeeps_row_tie : Rows.configKeepsRow.laidByTextAt .later Tryd.pinned [.funcs] true :=
  OpenClaim.laidByTextAt_later rfl rfl tie noOwnUnsafe
theorem configCuts_row_tie : Rows.configCutsRow.laidByTextAt .later Tryd.pinned [.funcs] true :=
  OpenClaim.laidByTextAt_later rfl rfl tie noOwnUnsafe
theorem configWhere_row_tie : Rows.configWhereRow.laidByTextAt .later Tryd.pinned [.funcs] true :=
  OpenClaim.laidByTextAt_later rfl rfl tie noOwnUnsafe
theorem configTables_row_tie : Rows.configTablesRow.laidByTextAt .later Tryd.pinned [.funcs] true :=
  OpenClaim.laidByTextAt_later rfl rfl tie noOwnUnsafe
theorem configReplays_row_tie : Rows.configReplaysRow.laidByTextAt .later Tryd.pinned [.funcs] true :=
  OpenClaim.laidByTextAt_later rfl rfl tie noOwnUnsafe
theorem configAppliesUpto_row_tie : Rows.configAppliesUptoRow.laidByTextAt .later Tryd.pinned [.funcs] true :=
  OpenClaim.laidByTextAt_later rfl rfl tie noOwnUnsafe
theorem configKeepsUpto_row_tie : Rows.configKeepsUptoRow.laidByTextAt .later Tryd.pinned [.funcs] true :=
  OpenClaim.laidByTextAt_later rfl rfl tie noOwnUnsafe
theorem configCutsUpto_row_tie : Rows.configCutsUptoRow.laidByTextAt .later Tryd.pinned [.funcs] true :=
  OpenClaim.laidByTextAt_later rfl rfl tie noOwnUnsafe
theorem configWhereUpto_row_tie : Rows.configWhereUptoRow.laidByTextAt .later Tryd.pinned [.funcs] true :=
  OpenClaim.laidByTextAt_later rfl rfl tie noOwnUnsafe
theorem configTablesUpto_row_tie : Rows.configTablesUptoRow.laidByTextAt .later Tryd.pinned [.funcs] true :=
  OpenClaim.laidByTextAt_later rfl rfl tie noOwnUnsafe
theorem configReplaysUpto_row_tie : Rows.configReplaysUptoRow.laidByTextAt .later Tryd.pinned [.funcs] true :=
  OpenClaim.laidByTextAt_later rfl rfl tie noOwnUnsafe
end Go.Proofs.YthhpamaeibjpaaaDoor
