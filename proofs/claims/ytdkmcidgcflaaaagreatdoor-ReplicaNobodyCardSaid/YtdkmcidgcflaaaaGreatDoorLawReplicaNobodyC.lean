/- For every input the law ReplicaNobody returns true, and its arguments read behind the call as they read before. -/
import Derived.Test.YtdkmcidgcflaaaaGreatDoorRows
import Derived.SevenTiedAt
import Derived.KernelRfl
import Derived.JoinedOf
import Derived.Test.YtdkmcidgcflaaaaGreatDoorLawReplicaNobodyA
import Derived.Test.YtdkmcidgcflaaaaGreatDoorLawReplicaNobodyB
namespace Go.Proofs.YtdkmcidgcflaaaaGreatDoor.replicaNobody
set_option linter.unusedVariables false
theorem over : Rows.replicaNobodyRow.holds Tryz.pinned (OpenSpec.ofChange Rows.replicaNobodySpec) :=
  OpenClaim.holds_of_wide 4 Tryz.f4 rfl rfl rfl rfl rfl rfl rfl ⟨rfl, rfl, rfl, rfl, rfl⟩ rfl rfl rfl rfl rfl (by kernel_rfl) Tryz.func4 jf
    (of_decide_eq_true (by kernel_rfl)) (by unfold Func.isWrapper; first | (rw [if_pos (by decide +kernel)]; kernel_rfl) | (rw [if_neg (by decide +kernel)]; exact ⟨rfl, rfl⟩))
    (fun os started H enc _ => lifted os started H enc)
end Go.Proofs.YtdkmcidgcflaaaaGreatDoor.replicaNobody
