/-
  Closed facts on the row of stencillaw25.ScriptLines, for its card.
-/
import Derived.Test.YtijnbohjcmcfjaaGreatDoorRows
import Derived.ProofKit
import Derived.JoinedCond
namespace Go.Proofs.YtijnbohjcmcfjaaGreatDoor.Sc
set_option maxRecDepth 100000
theorem linesFacts : joinedFacts Tryz.pinned.checked.prog 4 Tryz.f4 (Rows.OpenSpec.upto Rows.scriptLinesSpec).bare Rows.scriptLinesUptoRow = true := by kernel_rfl
theorem linesInst : Tryz.f4.isInstance Tryz.pinned.checked.prog Rows.scriptLinesUptoRow.origin Rows.scriptLinesUptoRow.targs := of_decide_eq_true (by kernel_rfl)
theorem linesWrap : Tryz.f4.isWrapper Tryz.pinned.checked.prog Rows.scriptLinesUptoRow.wrapper Rows.scriptLinesUptoRow.mainSum := by
  unfold Func.isWrapper; first | (rw [if_pos (by decide +kernel)]; kernel_rfl) | (rw [if_neg (by decide +kernel)]; exact ⟨rfl, rfl⟩)
end Go.Proofs.YtijnbohjcmcfjaaGreatDoor.Sc
