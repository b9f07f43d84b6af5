/-
  DERIVED. GIVEN WITH THE SEED: THE CARDS: each row of YtdkmcidgcflaaaaGreatDoorRows.lean that lists a variable, with what it lists TIED to the program's text (the seventh form; the later family's looks); each row that meets fmt, with fmt's text TOLD by the authors' own Lean function (tested against real Go, not proved from fmt's source: count such statements apart). THE CARD IS WHAT COUNTS. Prove the row's statement (the work); the ties are given (YtdkmcidgcflaaaaGreatDoorTie.lean); close each card by the builder's one call (the guide's Derived/Test/ToyasCard.lean, 'card_holds'). Laid BY PROGRAM, IN A SANDBOX (cutbox-door.mjs). By AI agents, Wed Nov 11 2026. No macro, syntax, notation, axiom, sorry.
-/
import Derived.Test.YtdkmcidgcflaaaaGreatDoorRows
import GoSem.ClaimSeven
namespace Go.Proofs.YtdkmcidgcflaaaaGreatDoor
namespace Rows

/-- THE TIED CARD OF 'usufructlaw18.ReplicaOpens'. -/
def replicaOpensCard : Claim7 := { stood := { row := replicaOpensRow, standIns := [], harness := (true, "69761f0a873ddc9f6e55e7d61a060cf6c695e672377ef92d92f0a6ffa3400f58"), looks := true }, kinds := [], alts := [], laidByText := true, laidKinds := [.data], laidTests := true, laidLooks := .later }
def ReplicaOpensCardSaid : Prop := Claim7.holds Tryz.pinned (.plain (OpenSpec.ofChange replicaOpensSpec)) replicaOpensCard

/-- THE TIED CARD OF 'usufructlaw18.ReplicaNobody'. -/
def replicaNobodyCard : Claim7 := { stood := { row := replicaNobodyRow, standIns := [], harness := (true, "69761f0a873ddc9f6e55e7d61a060cf6c695e672377ef92d92f0a6ffa3400f58"), looks := true }, kinds := [], alts := [], laidByText := true, laidKinds := [.data], laidTests := true, laidLooks := .later }
def ReplicaNobodyCardSaid : Prop := Claim7.holds Tryz.pinned (.plain (OpenSpec.ofChange replicaNobodySpec)) replicaNobodyCard

/-- THE TIED CARD OF 'usufructlaw19.WorldMakes'. -/
def worldMakesCard : Claim7 := { stood := { row := worldMakesRow, standIns := [], harness := (true, "69761f0a873ddc9f6e55e7d61a060cf6c695e672377ef92d92f0a6ffa3400f58"), looks := true }, kinds := [], alts := [], laidByText := true, laidKinds := [.data], laidTests := true, laidLooks := .later }
def WorldMakesCardSaid : Prop := Claim7.holds Tryz.pinned (.plain (OpenSpec.ofChange worldMakesSpec)) worldMakesCard

/-- THE SECOND FORM's CARD OF 'usufructlaw18.ReplicaOpens'. -/
def replicaOpensUptoCard : Claim7 := { stood := { row := replicaOpensUptoRow, standIns := [], harness := (true, "69761f0a873ddc9f6e55e7d61a060cf6c695e672377ef92d92f0a6ffa3400f58"), looks := true }, kinds := [], alts := [], laidByText := true, laidKinds := [.data], laidTests := true, laidLooks := .later }
def ReplicaOpensUptoCardSaid : Prop := Claim7.holds Tryz.pinned (.plain (OpenSpec.upto replicaOpensSpec)) replicaOpensUptoCard

/-- THE SECOND FORM's CARD OF 'usufructlaw18.ReplicaNobody'. -/
def replicaNobodyUptoCard : Claim7 := { stood := { row := replicaNobodyUptoRow, standIns := [], harness := (true, "69761f0a873ddc9f6e55e7d61a060cf6c695e672377ef92d92f0a6ffa3400f58"), looks := true }, kinds := [], alts := [], laidByText := true, laidKinds := [.data], laidTests := true, laidLooks := .later }
def ReplicaNobodyUptoCardSaid : Prop := Claim7.holds Tryz.pinned (.plain (OpenSpec.upto replicaNobodySpec)) replicaNobodyUptoCard

/-- THE SECOND FORM's CARD OF 'usufructlaw19.WorldMakes'. -/
def worldMakesUptoCard : Claim7 := { stood := { row := worldMakesUptoRow, standIns := [], harness := (true, "69761f0a873ddc9f6e55e7d61a060cf6c695e672377ef92d92f0a6ffa3400f58"), looks := true }, kinds := [], alts := [], laidByText := true, laidKinds := [.data], laidTests := true, laidLooks := .later }
def WorldMakesUptoCardSaid : Prop := Claim7.holds Tryz.pinned (.plain (OpenSpec.upto worldMakesSpec)) worldMakesUptoCard
end Rows
end Go.Proofs.YtdkmcidgcflaaaaGreatDoor
