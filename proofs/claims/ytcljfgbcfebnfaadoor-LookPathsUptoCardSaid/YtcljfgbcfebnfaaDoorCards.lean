/-
  DERIVED. GIVEN WITH THE SEED: THE CARDS: each row of YtcljfgbcfebnfaaDoorRows.lean that lists a variable, with what it lists TIED to the program's text (the seventh form; the later family's looks); each row that meets fmt, with fmt's text TOLD by the authors' own Lean function (tested against real Go, not proved from fmt's source: count such statements apart). THE CARD IS WHAT COUNTS. Prove the row's statement (the work); the ties are given (YtcljfgbcfebnfaaDoorTie.lean); close each card by the builder's one call (the guide's Derived/Test/ToyasCard.lean, 'card_holds'). Laid BY PROGRAM, IN A SANDBOX (cutbox-door.mjs). By AI agents, Wed Nov 11 2026. No macro, syntax, notation, axiom, sorry.
-/
import Derived.Test.YtcljfgbcfebnfaaDoorRows
import GoSem.ClaimSeven
namespace Go.Proofs.YtcljfgbcfebnfaaDoor
namespace Rows

/-- THE TIED CARD OF 'stencillaw21.LookPaths'. -/
def lookPathsCard : Claim7 := { stood := { row := lookPathsRow, standIns := [], harness := (true, "ed25e272c8b645522cfad7f74059a6ebccf0174f73ee01b2ffbf6339c9f650b2"), looks := false }, kinds := [], alts := [], laidByText := true, laidKinds := [.data, .data, .data], laidTests := true, laidLooks := .later }
def LookPathsCardSaid : Prop := Claim7.holds Tryd.pinned (.plain (OpenSpec.ofChange lookPathsSpec)) lookPathsCard

/-- THE SECOND FORM's CARD OF 'stencillaw21.LookPaths'. -/
def lookPathsUptoCard : Claim7 := { stood := { row := lookPathsUptoRow, standIns := [], harness := (true, "ed25e272c8b645522cfad7f74059a6ebccf0174f73ee01b2ffbf6339c9f650b2"), looks := false }, kinds := [], alts := [], laidByText := true, laidKinds := [.data, .data, .data], laidTests := true, laidLooks := .later }
def LookPathsUptoCardSaid : Prop := Claim7.holds Tryd.pinned (.plain (OpenSpec.upto lookPathsSpec)) lookPathsUptoCard
end Rows
end Go.Proofs.YtcljfgbcfebnfaaDoor
