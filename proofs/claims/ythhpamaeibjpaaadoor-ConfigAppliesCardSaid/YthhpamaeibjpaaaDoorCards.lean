/-
  DERIVED. GIVEN WITH THE SEED: THE CARDS: each row of YthhpamaeibjpaaaDoorRows.lean that lists a variable, with what it lists TIED to the program's text (the seventh form; the later family's looks); each row that meets fmt, with fmt's text TOLD by the authors' own Lean function (tested against real Go, not proved from fmt's source: count such statements apart). THE CARD IS WHAT COUNTS. Prove the row's statement (the work); the ties are given (YthhpamaeibjpaaaDoorTie.lean); close each card by the builder's one call (the guide's Derived/Test/ToyasCard.lean, 'card_holds'). Laid BY PROGRAM, IN A SANDBOX (cutbox-door.mjs). By AI agents, Wed Nov 11 2026. No macro, syntax, notation, axiom, sorry.
-/
import Derived.Test.YthhpamaeibjpaaaDoorRows
import GoSem.ClaimSeven
namespace Go.Proofs.YthhpamaeibjpaaaDoor
namespace Rows

/-- THE TIED CARD OF 'weirkeeplaw12.ConfigApplies'. -/
def configAppliesCard : Claim7 := { stood := { row := configAppliesRow, standIns := [], harness := (true, "fdf8507e709f80c55a76f2d94aa4077bc4dc6233cf8601fc9754d963815a0646"), looks := false }, kinds := [], alts := [], laidByText := true, laidKinds := [.funcs], laidTests := true, laidLooks := .later }
def ConfigAppliesCardSaid : Prop := Claim7.holds Tryd.pinned (.plain (OpenSpec.ofChange configAppliesSpec)) configAppliesCard

/-- THE TIED CARD OF 'weirkeeplaw12.ConfigKeeps'. -/
def configKeepsCard : Claim7 := { stood := { row := configKeepsRow, standIns := [], harness := (true, "fdf8507e709f80c55a76f2d94aa4077bc4dc6233cf8601fc9754d963815a0646"), looks := false }, kinds := [], alts := [], laidByText := true, laidKinds := [.funcs], laidTests := true, laidLooks := .later }
def ConfigKeepsCardSaid : Prop := Claim7.holds Tryd.pinned (.plain (OpenSpec.ofChange configKeepsSpec)) configKeepsCard

/-- THE TIED CARD OF 'weirkeeplaw12.ConfigCuts'. -/
def configCutsCard : Claim7 := { stood := { row := configCutsRow, standIns := [], harness := (true, "fdf8507e709f80c55a76f2d94aa4077bc4dc6233cf8601fc9754d963815a0646"), looks := false }, kinds := [], alts := [], laidByText := true, laidKinds := [.funcs], laidTests := true, laidLooks := .later }
def ConfigCutsCardSaid : Prop := Claim7.holds Tryd.pinned (.plain (OpenSpec.ofChange configCutsSpec)) configCutsCard

/-- THE TIED CARD OF 'weirkeeplaw12.ConfigWhere'. -/
def configWhereCard : Claim7 := { stood := { row := configWhereRow, standIns := [], harness := (true, "fdf8507e709f80c55a76f2d94aa4077bc4dc6233cf8601fc9754d963815a0646"), looks := false }, kinds := [], alts := [], laidByText := true, laidKinds := [.funcs], laidTests := true, laidLooks := .later }
def ConfigWhereCardSaid : Prop := Claim7.holds Tryd.pinned (.plain (OpenSpec.ofChange configWhereSpec)) configWhereCard

/-- THE TIED CARD OF 'weirkeeplaw12.ConfigTables'. -/
def configTablesCard : Claim7 := { stood := { row := configTablesRow, standIns := [], harness := (true, "fdf8507e709f80c55a76f2d94aa4077bc4dc6233cf8601fc9754d963815a0646"), looks := false }, kinds := [], alts := [], laidByText := true, laidKinds := [.funcs], laidTests := true, laidLooks := .later }
def ConfigTablesCardSaid : Prop := Claim7.holds Tryd.pinned (.plain (OpenSpec.ofChange configTablesSpec)) configTablesCard

/-- THE TIED CARD OF 'weirkeeplaw12.ConfigReplays'. -/
def configReplaysCard : Claim7 := { stood := { row := configReplaysRow, standIns := [], harness := (true, "fdf8507e709f80c55a76f2d94aa4077bc4dc6233cf8601fc9754d963815a0646"), looks := false }, kinds := [], alts := [], laidByText := true, laidKinds := [.funcs], laidTests := true, laidLooks := .later }
def ConfigReplaysCardSaid : Prop := Claim7.holds Tryd.pinned (.plain (OpenSpec.ofChange configReplaysSpec)) configReplaysCard

/-- THE SECOND FORM's CARD OF 'weirkeeplaw12.ConfigApplies'. -/
def configAppliesUptoCard : Claim7 := { stood := { row := configAppliesUptoRow, standIns := [], harness := (true, "fdf8507e709f80c55a76f2d94aa4077bc4dc6233cf8601fc9754d963815a0646"), looks := false }, kinds := [], alts := [], laidByText := true, laidKinds := [.funcs], laidTests := true, laidLooks := .later }
def ConfigAppliesUptoCardSaid : Prop := Claim7.holds Tryd.pinned (.plain (OpenSpec.upto configAppliesSpec)) configAppliesUptoCard

/-- THE SECOND FORM's CARD OF 'weirkeeplaw12.ConfigKeeps'. -/
def configKeepsUptoCard : Claim7 := { stood := { row := configKeepsUptoRow, standIns := [], harness := (true, "fdf8507e709f80c55a76f2d94aa4077bc4dc6233cf8601fc9754d963815a0646"), looks := false }, kinds := [], alts := [], laidByText := true, laidKinds := [.funcs], laidTests := true, laidLooks := .later }
def ConfigKeepsUptoCardSaid : Prop := Claim7.holds Tryd.pinned (.plain (OpenSpec.upto configKeepsSpec)) configKeepsUptoCard

/-- THE SECOND FORM's CARD OF 'weirkeeplaw12.ConfigCuts'. -/
def configCutsUptoCard : Claim7 := { stood := { row := configCutsUptoRow, standIns := [], harness := (true, "fdf8507e709f80c55a76f2d94aa4077bc4dc6233cf8601fc9754d963815a0646"), looks := false }, kinds := [], alts := [], laidByText := true, laidKinds := [.funcs], laidTests := true, laidLooks := .later }
def ConfigCutsUptoCardSaid : Prop := Claim7.holds Tryd.pinned (.plain (OpenSpec.upto configCutsSpec)) configCutsUptoCard

/-- THE SECOND FORM's CARD OF 'weirkeeplaw12.ConfigWhere'. -/
def configWhereUptoCard : Claim7 := { stood := { row := configWhereUptoRow, standIns := [], harness := (true, "fdf8507e709f80c55a76f2d94aa4077bc4dc6233cf8601fc9754d963815a0646"), looks := false }, kinds := [], alts := [], laidByText := true, laidKinds := [.funcs], laidTests := true, laidLooks := .later }
def ConfigWhereUptoCardSaid : Prop := Claim7.holds Tryd.pinned (.plain (OpenSpec.upto configWhereSpec)) configWhereUptoCard

/-- THE SECOND FORM's CARD OF 'weirkeeplaw12.ConfigTables'. -/
def configTablesUptoCard : Claim7 := { stood := { row := configTablesUptoRow, standIns := [], harness := (true, "fdf8507e709f80c55a76f2d94aa4077bc4dc6233cf8601fc9754d963815a0646"), looks := false }, kinds := [], alts := [], laidByText := true, laidKinds := [.funcs], laidTests := true, laidLooks := .later }
def ConfigTablesUptoCardSaid : Prop := Claim7.holds Tryd.pinned (.plain (OpenSpec.upto configTablesSpec)) configTablesUptoCard

/-- THE SECOND FORM's CARD OF 'weirkeeplaw12.ConfigReplays'. -/
def configReplaysUptoCard : Claim7 := { stood := { row := configReplaysUptoRow, standIns := [], harness := (true, "fdf8507e709f80c55a76f2d94aa4077bc4dc6233cf8601fc9754d963815a0646"), looks := false }, kinds := [], alts := [], laidByText := true, laidKinds := [.funcs], laidTests := true, laidLooks := .later }
def ConfigReplaysUptoCardSaid : Prop := Claim7.holds Tryd.pinned (.plain (OpenSpec.upto configReplaysSpec)) configReplaysUptoCard
end Rows
end Go.Proofs.YthhpamaeibjpaaaDoor
