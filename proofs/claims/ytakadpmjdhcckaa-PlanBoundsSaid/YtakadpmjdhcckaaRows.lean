/-
  No cell of these rows narrows 'for every input' (looked for: loops, veiled, ifaces, maps, wideKeys, modest, calm, conditions, laid).
  DERIVED. THE GIVEN ROWS OF THIS SEAT. 8 by the template 'for every input the law returns true; each argument reads behind the call as it read before'; 0 by the template 'total and deterministic' (their statements: YtakadpmjdhcckaaTotals.lean).
  GIVEN WITH THE SEED: the statements are not yours to turn. If you find one false, say at which input.
  Laid BY PROGRAM, IN A SANDBOX (cutbox-rows.mjs): the forced cells as the released guide's own fill.sh prints them over the translation 29f30f6dba471bd9… (all of the seat's roots in one cut). By AI agents, Wed Nov 11 2026. No macro, syntax, notation, axiom, sorry.
-/
import Derived.Test.YtakadpmjdhcckaaChecked
import GoSem.Claim
import GoSem.ClaimJoined
import GoSem.ClaimMapViews
import Derived.JoinedTies
import Derived.KernelRfl
namespace Go.Proofs.Ytakadpmjdhcckaa
/- THE CELL 'sum', in the pinned program and in every row, IS THE sha256 OF THE DUMP (.gsa) THAT YtakadpmjdhcckaaProg.lean LOADS. Nothing in Lean hashes anything: it is a label: what it is worth is what the hold of that sum in a sandbox is worth. -/
noncomputable def Try.pinned : Pinned := { name := "ytakadpmjdhcckaa", sum := "29f30f6dba471bd9c1c74bcfd05b0b7560dfd64d695ecb3acc8ea401bc0342fb", checked := Try.checked }
namespace Rows
def none {H : Type} : Left H := { results := [], args := [] }

/-- 'usufructlaw10.WireDown': WHATEVER THE INPUT: true; the input reads as it did. -/
def wireDownSpec : ChangeSpec := { name := "wireDown", fn := fun _ => fun
  | [d1, d2] => { results := [.lit (.bool true)], args := [d1, d2] }
  | _ => none }
def wireDownRow : OpenClaim := { program := "ytakadpmjdhcckaa", sum := "29f30f6dba471bd9c1c74bcfd05b0b7560dfd64d695ecb3acc8ea401bc0342fb", func := "usufruct/usufructlaw10.WireDown", spec := "wireDown", unfollowed := true, recurses := true, plainKeys := false, apart := false }
def WireDownSaid : Prop := wireDownRow.holds Try.pinned (OpenSpec.ofChange wireDownSpec)

/-- ITS FALSE NEIGHBOUR: 'it returns false'. Refute it at one input. -/
def wireDownWrong : ChangeSpec := { name := "wireDown", fn := fun _ => fun
  | [d1, d2] => { results := [.lit (.bool false)], args := [d1, d2] }
  | _ => none }
def WireDownWrongFalsely : Prop := wireDownRow.holds Try.pinned (OpenSpec.ofChange wireDownWrong)

/-- 'usufructlaw10.WireUps': WHATEVER THE INPUT: true; the input reads as it did. -/
def wireUpsSpec : ChangeSpec := { name := "wireUps", fn := fun _ => fun
  | [d1, d2, d3] => { results := [.lit (.bool true)], args := [d1, d2, d3] }
  | _ => none }
def wireUpsRow : OpenClaim := { program := "ytakadpmjdhcckaa", sum := "29f30f6dba471bd9c1c74bcfd05b0b7560dfd64d695ecb3acc8ea401bc0342fb", func := "usufruct/usufructlaw10.WireUps", spec := "wireUps", unfollowed := true, recurses := true, plainKeys := false, apart := false }
def WireUpsSaid : Prop := wireUpsRow.holds Try.pinned (OpenSpec.ofChange wireUpsSpec)

/-- ITS FALSE NEIGHBOUR: 'it returns false'. Refute it at one input. -/
def wireUpsWrong : ChangeSpec := { name := "wireUps", fn := fun _ => fun
  | [d1, d2, d3] => { results := [.lit (.bool false)], args := [d1, d2, d3] }
  | _ => none }
def WireUpsWrongFalsely : Prop := wireUpsRow.holds Try.pinned (OpenSpec.ofChange wireUpsWrong)

/-- 'usufructlaw10.WireAll': WHATEVER THE INPUT: true; the input reads as it did. -/
def wireAllSpec : ChangeSpec := { name := "wireAll", fn := fun _ => fun
  | [d1, d2] => { results := [.lit (.bool true)], args := [d1, d2] }
  | _ => none }
def wireAllRow : OpenClaim := { program := "ytakadpmjdhcckaa", sum := "29f30f6dba471bd9c1c74bcfd05b0b7560dfd64d695ecb3acc8ea401bc0342fb", func := "usufruct/usufructlaw10.WireAll", spec := "wireAll", unfollowed := true, recurses := true, plainKeys := false, apart := false }
def WireAllSaid : Prop := wireAllRow.holds Try.pinned (OpenSpec.ofChange wireAllSpec)

/-- ITS FALSE NEIGHBOUR: 'it returns false'. Refute it at one input. -/
def wireAllWrong : ChangeSpec := { name := "wireAll", fn := fun _ => fun
  | [d1, d2] => { results := [.lit (.bool false)], args := [d1, d2] }
  | _ => none }
def WireAllWrongFalsely : Prop := wireAllRow.holds Try.pinned (OpenSpec.ofChange wireAllWrong)

/-- 'usufructlaw10.WireMeets': WHATEVER THE INPUT: true; the input reads as it did. -/
def wireMeetsSpec : ChangeSpec := { name := "wireMeets", fn := fun _ => fun
  | [d1, d2] => { results := [.lit (.bool true)], args := [d1, d2] }
  | _ => none }
def wireMeetsRow : OpenClaim := { program := "ytakadpmjdhcckaa", sum := "29f30f6dba471bd9c1c74bcfd05b0b7560dfd64d695ecb3acc8ea401bc0342fb", func := "usufruct/usufructlaw10.WireMeets", spec := "wireMeets", unfollowed := true, recurses := true, plainKeys := false, apart := false }
def WireMeetsSaid : Prop := wireMeetsRow.holds Try.pinned (OpenSpec.ofChange wireMeetsSpec)

/-- ITS FALSE NEIGHBOUR: 'it returns false'. Refute it at one input. -/
def wireMeetsWrong : ChangeSpec := { name := "wireMeets", fn := fun _ => fun
  | [d1, d2] => { results := [.lit (.bool false)], args := [d1, d2] }
  | _ => none }
def WireMeetsWrongFalsely : Prop := wireMeetsRow.holds Try.pinned (OpenSpec.ofChange wireMeetsWrong)

/-- 'usufructlaw13.PlanBounds': WHATEVER THE INPUT: true; the input reads as it did. -/
def planBoundsSpec : ChangeSpec := { name := "planBounds", fn := fun _ => fun
  | [d1, d2, d3, d4] => { results := [.lit (.bool true)], args := [d1, d2, d3, d4] }
  | _ => none }
def planBoundsRow : OpenClaim := { program := "ytakadpmjdhcckaa", sum := "29f30f6dba471bd9c1c74bcfd05b0b7560dfd64d695ecb3acc8ea401bc0342fb", func := "usufruct/usufructlaw13.PlanBounds", spec := "planBounds", unfollowed := true, recurses := true, plainKeys := false, apart := false }
def PlanBoundsSaid : Prop := planBoundsRow.holds Try.pinned (OpenSpec.ofChange planBoundsSpec)

/-- ITS FALSE NEIGHBOUR: 'it returns false'. Refute it at one input. -/
def planBoundsWrong : ChangeSpec := { name := "planBounds", fn := fun _ => fun
  | [d1, d2, d3, d4] => { results := [.lit (.bool false)], args := [d1, d2, d3, d4] }
  | _ => none }
def PlanBoundsWrongFalsely : Prop := planBoundsRow.holds Try.pinned (OpenSpec.ofChange planBoundsWrong)

/-- 'usufructlaw13.PlanSplits': WHATEVER THE INPUT: true; the input reads as it did. -/
def planSplitsSpec : ChangeSpec := { name := "planSplits", fn := fun _ => fun
  | [d1, d2, d3, d4] => { results := [.lit (.bool true)], args := [d1, d2, d3, d4] }
  | _ => none }
def planSplitsRow : OpenClaim := { program := "ytakadpmjdhcckaa", sum := "29f30f6dba471bd9c1c74bcfd05b0b7560dfd64d695ecb3acc8ea401bc0342fb", func := "usufruct/usufructlaw13.PlanSplits", spec := "planSplits", unfollowed := true, recurses := true, plainKeys := false, apart := false }
def PlanSplitsSaid : Prop := planSplitsRow.holds Try.pinned (OpenSpec.ofChange planSplitsSpec)

/-- ITS FALSE NEIGHBOUR: 'it returns false'. Refute it at one input. -/
def planSplitsWrong : ChangeSpec := { name := "planSplits", fn := fun _ => fun
  | [d1, d2, d3, d4] => { results := [.lit (.bool false)], args := [d1, d2, d3, d4] }
  | _ => none }
def PlanSplitsWrongFalsely : Prop := planSplitsRow.holds Try.pinned (OpenSpec.ofChange planSplitsWrong)

/-- 'usufructlaw10.WireJoins': WHATEVER THE INPUT: true; the input reads as it did. -/
def wireJoinsSpec : ChangeSpec := { name := "wireJoins", fn := fun _ => fun
  | [d1, d2, d3] => { results := [.lit (.bool true)], args := [d1, d2, d3] }
  | _ => none }
def wireJoinsRow : OpenClaim := { program := "ytakadpmjdhcckaa", sum := "29f30f6dba471bd9c1c74bcfd05b0b7560dfd64d695ecb3acc8ea401bc0342fb", func := "usufruct/usufructlaw10.WireJoins", spec := "wireJoins", unfollowed := true, recurses := true, plainKeys := false, apart := false }
def WireJoinsSaid : Prop := wireJoinsRow.holds Try.pinned (OpenSpec.ofChange wireJoinsSpec)

/-- ITS FALSE NEIGHBOUR: 'it returns false'. Refute it at one input. -/
def wireJoinsWrong : ChangeSpec := { name := "wireJoins", fn := fun _ => fun
  | [d1, d2, d3] => { results := [.lit (.bool false)], args := [d1, d2, d3] }
  | _ => none }
def WireJoinsWrongFalsely : Prop := wireJoinsRow.holds Try.pinned (OpenSpec.ofChange wireJoinsWrong)

/-- 'usufructlaw07.FieldKinds': WHATEVER THE INPUT: true; the input reads as it did. -/
def fieldKindsSpec : ChangeSpec := { name := "fieldKinds", fn := fun _ => fun
  | [d1, d2, d3, d4] => { results := [.lit (.bool true)], args := [d1, d2, d3, d4] }
  | _ => none }
def fieldKindsRow : OpenClaim := { program := "ytakadpmjdhcckaa", sum := "29f30f6dba471bd9c1c74bcfd05b0b7560dfd64d695ecb3acc8ea401bc0342fb", func := "usufruct/usufructlaw07.FieldKinds", spec := "fieldKinds", unfollowed := true, recurses := true, plainKeys := false, apart := false }
def FieldKindsSaid : Prop := fieldKindsRow.holds Try.pinned (OpenSpec.ofChange fieldKindsSpec)

/-- ITS FALSE NEIGHBOUR: 'it returns false'. Refute it at one input. -/
def fieldKindsWrong : ChangeSpec := { name := "fieldKinds", fn := fun _ => fun
  | [d1, d2, d3, d4] => { results := [.lit (.bool false)], args := [d1, d2, d3, d4] }
  | _ => none }
def FieldKindsWrongFalsely : Prop := fieldKindsRow.holds Try.pinned (OpenSpec.ofChange fieldKindsWrong)

/- THE SECOND FORM. 'bulk': how many values and letters a reading holds, each counted each time it is reached (what is shared counts as often as it is met; a slice's spare places count too). A statement '..UptoSaid' is the law's where the arguments, and the package variables that the reading takes, are together of bulk at most 1048576: NARROWER than '..Said'. Prove '..Said' where nothing that the law and all that it calls make is longer than what came in: it says more and counts as full. Else prove '..UptoSaid'. A law counts once. -/
mutual
def uptoBulk {H : Type} : DataW H → Nat
  | .lit (.string bytes) => bytes.length + 1
  | .lit _ => 1
  | .nil => 1
  | .ptr d => uptoBulk d + 1
  | .slice elems spare => uptoBulkAll elems + uptoBulkAll spare + 1
  | .agg parts => uptoBulkAll parts + 1
  | .iface _ d => uptoBulk d + 1
  | .map entries => uptoBulkEntries entries + 1
  | .held _ => 1
def uptoBulkAll {H : Type} : List (DataW H) → Nat
  | [] => 0
  | d :: r => uptoBulk d + uptoBulkAll r
def uptoBulkEntries {H : Type} : List (Lit × DataW H) → Nat
  | [] => 0
  | x :: r => uptoBulkEntry x + uptoBulkEntries r
def uptoBulkEntry {H : Type} : Lit × DataW H → Nat
  | (.string bytes, d) => bytes.length + uptoBulk d + 1
  | (_, d) => uptoBulk d + 1
 end
def uptoSmall : (H : Type) → List (DataW H) → Bool := fun _ ds => decide (uptoBulkAll ds ≤ 1048576)
def OpenSpec.upto (s : _root_.Go.ChangeSpec) : _root_.Go.OpenSpec := { _root_.Go.OpenSpec.ofChange s with cond := some uptoSmall }

/-- 'usufructlaw10.WireDown', WHERE WHAT IT READS IS OF BULK AT MOST 1048576: true; the input reads as it did. -/
def wireDownUptoRow : OpenClaim := { program := "ytakadpmjdhcckaa", sum := "29f30f6dba471bd9c1c74bcfd05b0b7560dfd64d695ecb3acc8ea401bc0342fb", func := "usufruct/usufructlaw10.WireDown", spec := "wireDown", unfollowed := true, recurses := true, plainKeys := false, apart := false, narrowed := true }
def WireDownUptoSaid : Prop := wireDownUptoRow.holds Try.pinned (OpenSpec.upto wireDownSpec)

/-- 'usufructlaw10.WireUps', WHERE WHAT IT READS IS OF BULK AT MOST 1048576: true; the input reads as it did. -/
def wireUpsUptoRow : OpenClaim := { program := "ytakadpmjdhcckaa", sum := "29f30f6dba471bd9c1c74bcfd05b0b7560dfd64d695ecb3acc8ea401bc0342fb", func := "usufruct/usufructlaw10.WireUps", spec := "wireUps", unfollowed := true, recurses := true, plainKeys := false, apart := false, narrowed := true }
def WireUpsUptoSaid : Prop := wireUpsUptoRow.holds Try.pinned (OpenSpec.upto wireUpsSpec)

/-- 'usufructlaw10.WireAll', WHERE WHAT IT READS IS OF BULK AT MOST 1048576: true; the input reads as it did. -/
def wireAllUptoRow : OpenClaim := { program := "ytakadpmjdhcckaa", sum := "29f30f6dba471bd9c1c74bcfd05b0b7560dfd64d695ecb3acc8ea401bc0342fb", func := "usufruct/usufructlaw10.WireAll", spec := "wireAll", unfollowed := true, recurses := true, plainKeys := false, apart := false, narrowed := true }
def WireAllUptoSaid : Prop := wireAllUptoRow.holds Try.pinned (OpenSpec.upto wireAllSpec)

/-- 'usufructlaw10.WireMeets', WHERE WHAT IT READS IS OF BULK AT MOST 1048576: true; the input reads as it did. -/
def wireMeetsUptoRow : OpenClaim := { program := "ytakadpmjdhcckaa", sum := "29f30f6dba471bd9c1c74bcfd05b0b7560dfd64d695ecb3acc8ea401bc0342fb", func := "usufruct/usufructlaw10.WireMeets", spec := "wireMeets", unfollowed := true, recurses := true, plainKeys := false, apart := false, narrowed := true }
def WireMeetsUptoSaid : Prop := wireMeetsUptoRow.holds Try.pinned (OpenSpec.upto wireMeetsSpec)

/-- 'usufructlaw13.PlanBounds', WHERE WHAT IT READS IS OF BULK AT MOST 1048576: true; the input reads as it did. -/
def planBoundsUptoRow : OpenClaim := { program := "ytakadpmjdhcckaa", sum := "29f30f6dba471bd9c1c74bcfd05b0b7560dfd64d695ecb3acc8ea401bc0342fb", func := "usufruct/usufructlaw13.PlanBounds", spec := "planBounds", unfollowed := true, recurses := true, plainKeys := false, apart := false, narrowed := true }
def PlanBoundsUptoSaid : Prop := planBoundsUptoRow.holds Try.pinned (OpenSpec.upto planBoundsSpec)

/-- 'usufructlaw13.PlanSplits', WHERE WHAT IT READS IS OF BULK AT MOST 1048576: true; the input reads as it did. -/
def planSplitsUptoRow : OpenClaim := { program := "ytakadpmjdhcckaa", sum := "29f30f6dba471bd9c1c74bcfd05b0b7560dfd64d695ecb3acc8ea401bc0342fb", func := "usufruct/usufructlaw13.PlanSplits", spec := "planSplits", unfollowed := true, recurses := true, plainKeys := false, apart := false, narrowed := true }
def PlanSplitsUptoSaid : Prop := planSplitsUptoRow.holds Try.pinned (OpenSpec.upto planSplitsSpec)

/-- 'usufructlaw10.WireJoins', WHERE WHAT IT READS IS OF BULK AT MOST 1048576: true; the input reads as it did. -/
def wireJoinsUptoRow : OpenClaim := { program := "ytakadpmjdhcckaa", sum := "29f30f6dba471bd9c1c74bcfd05b0b7560dfd64d695ecb3acc8ea401bc0342fb", func := "usufruct/usufructlaw10.WireJoins", spec := "wireJoins", unfollowed := true, recurses := true, plainKeys := false, apart := false, narrowed := true }
def WireJoinsUptoSaid : Prop := wireJoinsUptoRow.holds Try.pinned (OpenSpec.upto wireJoinsSpec)

/-- 'usufructlaw07.FieldKinds', WHERE WHAT IT READS IS OF BULK AT MOST 1048576: true; the input reads as it did. -/
def fieldKindsUptoRow : OpenClaim := { program := "ytakadpmjdhcckaa", sum := "29f30f6dba471bd9c1c74bcfd05b0b7560dfd64d695ecb3acc8ea401bc0342fb", func := "usufruct/usufructlaw07.FieldKinds", spec := "fieldKinds", unfollowed := true, recurses := true, plainKeys := false, apart := false, narrowed := true }
def FieldKindsUptoSaid : Prop := fieldKindsUptoRow.holds Try.pinned (OpenSpec.upto fieldKindsSpec)

end Rows
end Go.Proofs.Ytakadpmjdhcckaa
