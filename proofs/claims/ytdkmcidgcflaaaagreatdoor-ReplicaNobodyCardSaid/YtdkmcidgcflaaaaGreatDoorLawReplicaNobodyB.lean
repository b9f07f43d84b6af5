/- For every input the law ReplicaNobody returns true, and its arguments read behind the call as they read before. -/
import Derived.Test.YtdkmcidgcflaaaaGreatDoorRows
import Derived.SevenTiedAt
import Derived.KernelRfl
import Derived.JoinedOf
namespace Go.Proofs.YtdkmcidgcflaaaaGreatDoor.replicaNobody
set_option linter.unusedVariables false
theorem jf : joinedFacts Tryz.pinned.checked.prog 4 Tryz.f4 Rows.replicaNobodySpec Rows.replicaNobodyRow = true := by kernel_rfl
end Go.Proofs.YtdkmcidgcflaaaaGreatDoor.replicaNobody
