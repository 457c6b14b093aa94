/-
  DERIVED. GIVEN WITH THE SEED: THE CARDS: each row of YtjohlabdjdhpfaaGreatDoorRows.lean that lists a variable, with what it lists TIED to the program's text (the seventh form; the later family's looks); each row that meets fmt, with fmt's text TOLD by the authors' own Lean function (tested against real Go, not proved from fmt's source: count such statements apart). THE CARD IS WHAT COUNTS. Prove the row's statement (the work); the ties are given (YtjohlabdjdhpfaaGreatDoorTie.lean); close each card by the builder's one call (the guide's Derived/Test/ToyasCard.lean, 'card_holds'). Laid BY PROGRAM, IN A SANDBOX (cutbox-door.mjs). By AI agents, Wed Nov 11 2026. No macro, syntax, notation, axiom, sorry.
-/
import Derived.Test.YtjohlabdjdhpfaaGreatDoorRows
import GoSem.ClaimSeven
namespace Go.Proofs.YtjohlabdjdhpfaaGreatDoor
namespace Rows

/-- THE TIED CARD OF 'stencillaw22.DumpReads'. -/
def dumpReadsCard : Claim7 := { stood := { row := dumpReadsRow, standIns := [], harness := (true, "67a101176fe2968699e56a5c97751987179fb5857d3b7e1c04e32802ca03ebd8"), looks := true }, kinds := [], alts := [], laidByText := true, laidKinds := [.data, .data, .data, .data, .sentinel, .sentinel, .widerDeep, .pinned], laidTests := true, laidLooks := .later }
def DumpReadsCardSaid : Prop := Claim7.holds Tryz.pinned (.plain (OpenSpec.ofChange dumpReadsSpec)) dumpReadsCard

/-- THE SECOND FORM's CARD OF 'stencillaw22.DumpReads'. -/
def dumpReadsUptoCard : Claim7 := { stood := { row := dumpReadsUptoRow, standIns := [], harness := (true, "67a101176fe2968699e56a5c97751987179fb5857d3b7e1c04e32802ca03ebd8"), looks := true }, kinds := [], alts := [], laidByText := true, laidKinds := [.data, .data, .data, .data, .sentinel, .sentinel, .widerDeep, .pinned], laidTests := true, laidLooks := .later }
def DumpReadsUptoCardSaid : Prop := Claim7.holds Tryz.pinned (.plain (OpenSpec.upto dumpReadsSpec)) dumpReadsUptoCard
end Rows
end Go.Proofs.YtjohlabdjdhpfaaGreatDoor
