/-
  Closed facts on the row of stencillaw25.ScriptBack, for its card.
-/
import Derived.Test.YtijnbohjcmcfjaaGreatDoorRows
import Derived.ProofKit
import Derived.JoinedCond
namespace Go.Proofs.YtijnbohjcmcfjaaGreatDoor.Sc
set_option maxRecDepth 100000
theorem backFacts : joinedFacts Tryz.pinned.checked.prog 3 Tryz.f3 (Rows.OpenSpec.upto Rows.scriptBackSpec).bare Rows.scriptBackUptoRow = true := by kernel_rfl
theorem backInst : Tryz.f3.isInstance Tryz.pinned.checked.prog Rows.scriptBackUptoRow.origin Rows.scriptBackUptoRow.targs := of_decide_eq_true (by kernel_rfl)
theorem backWrap : Tryz.f3.isWrapper Tryz.pinned.checked.prog Rows.scriptBackUptoRow.wrapper Rows.scriptBackUptoRow.mainSum := by
  unfold Func.isWrapper; first | (rw [if_pos (by decide +kernel)]; kernel_rfl) | (rw [if_neg (by decide +kernel)]; exact ⟨rfl, rfl⟩)
end Go.Proofs.YtijnbohjcmcfjaaGreatDoor.Sc
