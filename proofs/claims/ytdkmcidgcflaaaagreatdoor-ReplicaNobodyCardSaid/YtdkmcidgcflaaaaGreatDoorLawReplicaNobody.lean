/- For every input the law ReplicaNobody returns true, and its arguments read behind the call as they read before. -/
import Derived.Test.YtdkmcidgcflaaaaGreatDoorRows
import Derived.SevenTiedAt
import Derived.KernelRfl
import Derived.JoinedOf
import Derived.Test.YtdkmcidgcflaaaaGreatDoorCards
import Derived.Test.YtdkmcidgcflaaaaGreatDoorTie
import Derived.Test.YtdkmcidgcflaaaaGreatDoorLawReplicaNobodyC
namespace Go.Proofs.YtdkmcidgcflaaaaGreatDoor
theorem replicaNobody_holds : Rows.ReplicaNobodyCardSaid :=
  Claim7.holds_tied_plain_at .later [] [.data] true (true, "69761f0a873ddc9f6e55e7d61a060cf6c695e672377ef92d92f0a6ffa3400f58") true replicaNobody.over (fun _ h => by cases h) (by kernel_rfl) (fun _ h => by cases h) replicaNobody_row_tie rfl ⟨rfl, rfl⟩ (by kernel_rfl) rfl
    (fun f fn hf hfn => by
      obtain rfl : f = 4 := Option.some.inj ((show Tryz.prog.funcNamed Rows.replicaNobodyRow.func = some 4 by kernel_rfl).symm.trans hf) |>.symm
      obtain rfl : fn = Tryz.f4 := (Option.some.inj (Tryz.func4.symm.trans hfn)).symm
      exact ⟨by kernel_rfl, fun j t ht => by
        rw [Tryz.params4] at ht
        have hm : t ∈ [55] := by simpa using Array.mem_of_getElem? ht
        have hall : ([55].all fun u => !Tryz.prog.wantsStandIn u) = true := by kernel_rfl
        exact (show Tryz.prog.wantsStandIn t = false by simpa using List.all_eq_true.1 hall t hm)⟩)
    (by kernel_rfl)
#print axioms replicaNobody_holds
end Go.Proofs.YtdkmcidgcflaaaaGreatDoor
