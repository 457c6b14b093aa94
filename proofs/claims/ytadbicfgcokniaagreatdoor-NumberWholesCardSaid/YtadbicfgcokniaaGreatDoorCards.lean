/-
  DERIVED. GIVEN WITH THE SEED: THE CARDS: each row of YtadbicfgcokniaaGreatDoorRows.lean that lists a variable, with what it lists TIED to the program's text (the seventh form; the later family's looks); each row that meets fmt, with fmt's text TOLD by the authors' own Lean function (tested against real Go, not proved from fmt's source: count such statements apart). THE CARD IS WHAT COUNTS. Prove the row's statement (the work); the ties are given (YtadbicfgcokniaaGreatDoorTie.lean); close each card by the builder's one call (the guide's Derived/Test/ToyasCard.lean, 'card_holds'). Laid BY PROGRAM, IN A SANDBOX (cutbox-door.mjs). By AI agents, Wed Nov 11 2026. No macro, syntax, notation, axiom, sorry.
-/
import Derived.Test.YtadbicfgcokniaaGreatDoorRows
import GoSem.ClaimSeven
namespace Go.Proofs.YtadbicfgcokniaaGreatDoor
namespace Rows

/-- THE TIED CARD OF 'stencillaw03.NumberWholes'. -/
def numberWholesCard : Claim7 := { stood := { row := numberWholesRow, standIns := [], harness := (true, "580963b7cf08fed0cc5aec859e6ce235e1f0d6252137be40843ac708d7ce4aa9"), looks := true }, kinds := [], alts := [], laidByText := true, laidKinds := [.data, .data, .widerDeep, .widerDeep, .data, .data, .data, .data, .data, .data, .sentinel, .sentinel, .data, .data, .pinned, .pinned, .pinned, .pinned], laidTests := true, laidLooks := .later }
def NumberWholesCardSaid : Prop := Claim7.holds Tryz.pinned (.plain (OpenSpec.ofChange numberWholesSpec)) numberWholesCard

/-- THE SECOND FORM's CARD OF 'stencillaw03.NumberWholes'. -/
def numberWholesUptoCard : Claim7 := { stood := { row := numberWholesUptoRow, standIns := [], harness := (true, "580963b7cf08fed0cc5aec859e6ce235e1f0d6252137be40843ac708d7ce4aa9"), looks := true }, kinds := [], alts := [], laidByText := true, laidKinds := [.data, .data, .widerDeep, .widerDeep, .data, .data, .data, .data, .data, .data, .sentinel, .sentinel, .data, .data, .pinned, .pinned, .pinned, .pinned], laidTests := true, laidLooks := .later }
def NumberWholesUptoCardSaid : Prop := Claim7.holds Tryz.pinned (.plain (OpenSpec.upto numberWholesSpec)) numberWholesUptoCard
end Rows
end Go.Proofs.YtadbicfgcokniaaGreatDoor
