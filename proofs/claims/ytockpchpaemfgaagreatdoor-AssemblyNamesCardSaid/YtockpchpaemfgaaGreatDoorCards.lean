/-
  DERIVED. GIVEN WITH THE SEED: THE CARDS: each row of YtockpchpaemfgaaGreatDoorRows.lean that lists a variable, with what it lists TIED to the program's text (the seventh form; the later family's looks); each row that meets fmt, with fmt's text TOLD by the authors' own Lean function (tested against real Go, not proved from fmt's source: count such statements apart). THE CARD IS WHAT COUNTS. Prove the row's statement (the work); the ties are given (YtockpchpaemfgaaGreatDoorTie.lean); close each card by the builder's one call (the guide's Derived/Test/ToyasCard.lean, 'card_holds'). Laid BY PROGRAM, IN A SANDBOX (cutbox-door.mjs). By AI agents, Wed Nov 11 2026. No macro, syntax, notation, axiom, sorry.
-/
import Derived.Test.YtockpchpaemfgaaGreatDoorRows
import GoSem.ClaimSeven
namespace Go.Proofs.YtockpchpaemfgaaGreatDoor
namespace Rows

/-- THE TIED CARD OF 'dowellaw15.AssemblyNames'. -/
def assemblyNamesCard : Claim7 := { stood := { row := assemblyNamesRow, standIns := [], harness := (true, "48d16f3963195f0a2fa27b58ca85518ae322699fc31603f12db63fcd785310bd"), looks := true }, kinds := [], alts := [], laidByText := true, laidKinds := [.data, .data, .data, .data, .sentinel, .sentinel, .pinned], laidTests := true, laidLooks := .later }
def AssemblyNamesCardSaid : Prop := Claim7.holds Tryz.pinned (.plain (OpenSpec.ofChange assemblyNamesSpec)) assemblyNamesCard

/-- THE SECOND FORM's CARD OF 'dowellaw15.AssemblyNames'. -/
def assemblyNamesUptoCard : Claim7 := { stood := { row := assemblyNamesUptoRow, standIns := [], harness := (true, "48d16f3963195f0a2fa27b58ca85518ae322699fc31603f12db63fcd785310bd"), looks := true }, kinds := [], alts := [], laidByText := true, laidKinds := [.data, .data, .data, .data, .sentinel, .sentinel, .pinned], laidTests := true, laidLooks := .later }
def AssemblyNamesUptoCardSaid : Prop := Claim7.holds Tryz.pinned (.plain (OpenSpec.upto assemblyNamesSpec)) assemblyNamesUptoCard
end Rows
end Go.Proofs.YtockpchpaemfgaaGreatDoor
