/-
  No cell of these rows narrows 'for every input' (looked for: loops, veiled, ifaces, maps, wideKeys, modest, calm, conditions, laid).
  DERIVED. THE GIVEN ROWS OF THIS SEAT. 4 by the template 'for every input the law returns true; each argument reads behind the call as it read before'; 0 by the template 'total and deterministic' (their statements: YtakadpmjdhcckaaGreatTotals.lean).
  GIVEN WITH THE SEED: the statements are not yours to turn. If you find one false, say at which input.
  Laid BY PROGRAM, IN A SANDBOX (cutbox-rows.mjs): the forced cells as the released guide's own fill.sh prints them over the translation 31049f8234c5490b… (all of the seat's roots in one cut). By AI agents, Wed Nov 11 2026. No macro, syntax, notation, axiom, sorry.
-/
import Derived.Test.YtakadpmjdhcckaaGreatChecked
import GoSem.Claim
import GoSem.ClaimJoined
import GoSem.ClaimMapViews
import Derived.JoinedTies
import Derived.KernelRfl
namespace Go.Proofs.YtakadpmjdhcckaaGreat
/- THE CELL 'sum', in the pinned program and in every row, IS THE sha256 OF THE DUMP (.gsa) THAT YtakadpmjdhcckaaGreatProg.lean LOADS. Nothing in Lean hashes anything: it is a label: what it is worth is what the hold of that sum in a sandbox is worth. -/
noncomputable def Tryz.pinned : Pinned := { name := "ytakadpmjdhcckaagreat", sum := "31049f8234c5490b421de7ff0465e7612aba13da16a86c4432e7531465475504", checked := Tryz.checked }
namespace Rows
def none {H : Type} : Left H := { results := [], args := [] }

/-- 'usufructlaw13.PlanTells': WHATEVER THE INPUT: true; the input reads as it did. -/
def planTellsSpec : ChangeSpec := { name := "planTells", fn := fun _ => fun
  | [d1, d2, d3] => { results := [.lit (.bool true)], args := [d1, d2, d3] }
  | _ => none }
def planTellsRow : OpenClaim := { program := "ytakadpmjdhcckaagreat", sum := "31049f8234c5490b421de7ff0465e7612aba13da16a86c4432e7531465475504", func := "usufruct/usufructlaw13.PlanTells", spec := "planTells", unfollowed := true, recurses := true, apart := false }
def PlanTellsSaid : Prop := planTellsRow.holds Tryz.pinned (OpenSpec.ofChange planTellsSpec)

/-- ITS FALSE NEIGHBOUR: 'it returns false'. Refute it at one input. -/
def planTellsWrong : ChangeSpec := { name := "planTells", fn := fun _ => fun
  | [d1, d2, d3] => { results := [.lit (.bool false)], args := [d1, d2, d3] }
  | _ => none }
def PlanTellsWrongFalsely : Prop := planTellsRow.holds Tryz.pinned (OpenSpec.ofChange planTellsWrong)

/-- 'usufructlaw13.PlanKeeps': WHATEVER THE INPUT: true; the input reads as it did. -/
def planKeepsSpec : ChangeSpec := { name := "planKeeps", fn := fun _ => fun
  | [d1, d2] => { results := [.lit (.bool true)], args := [d1, d2] }
  | _ => none }
def planKeepsRow : OpenClaim := { program := "ytakadpmjdhcckaagreat", sum := "31049f8234c5490b421de7ff0465e7612aba13da16a86c4432e7531465475504", func := "usufruct/usufructlaw13.PlanKeeps", spec := "planKeeps", unfollowed := true, recurses := true, apart := false }
def PlanKeepsSaid : Prop := planKeepsRow.holds Tryz.pinned (OpenSpec.ofChange planKeepsSpec)

/-- ITS FALSE NEIGHBOUR: 'it returns false'. Refute it at one input. -/
def planKeepsWrong : ChangeSpec := { name := "planKeeps", fn := fun _ => fun
  | [d1, d2] => { results := [.lit (.bool false)], args := [d1, d2] }
  | _ => none }
def PlanKeepsWrongFalsely : Prop := planKeepsRow.holds Tryz.pinned (OpenSpec.ofChange planKeepsWrong)

/-- 'usufructlaw07.FieldTells': WHATEVER THE INPUT: true; the input reads as it did. -/
def fieldTellsSpec : ChangeSpec := { name := "fieldTells", fn := fun _ => fun
  | [d1, d2, d3] => { results := [.lit (.bool true)], args := [d1, d2, d3] }
  | _ => none }
def fieldTellsRow : OpenClaim := { program := "ytakadpmjdhcckaagreat", sum := "31049f8234c5490b421de7ff0465e7612aba13da16a86c4432e7531465475504", func := "usufruct/usufructlaw07.FieldTells", spec := "fieldTells", unfollowed := true, recurses := true, apart := false }
def FieldTellsSaid : Prop := fieldTellsRow.holds Tryz.pinned (OpenSpec.ofChange fieldTellsSpec)

/-- ITS FALSE NEIGHBOUR: 'it returns false'. Refute it at one input. -/
def fieldTellsWrong : ChangeSpec := { name := "fieldTells", fn := fun _ => fun
  | [d1, d2, d3] => { results := [.lit (.bool false)], args := [d1, d2, d3] }
  | _ => none }
def FieldTellsWrongFalsely : Prop := fieldTellsRow.holds Tryz.pinned (OpenSpec.ofChange fieldTellsWrong)

/-- 'usufructlaw07.FieldReserves': WHATEVER THE INPUT: true; the input reads as it did. -/
def fieldReservesSpec : ChangeSpec := { name := "fieldReserves", fn := fun _ => fun
  | [d1, d2, d3, d4] => { results := [.lit (.bool true)], args := [d1, d2, d3, d4] }
  | _ => none }
def fieldReservesRow : OpenClaim := { program := "ytakadpmjdhcckaagreat", sum := "31049f8234c5490b421de7ff0465e7612aba13da16a86c4432e7531465475504", func := "usufruct/usufructlaw07.FieldReserves", spec := "fieldReserves", unfollowed := true, recurses := true, apart := false }
def FieldReservesSaid : Prop := fieldReservesRow.holds Tryz.pinned (OpenSpec.ofChange fieldReservesSpec)

/-- ITS FALSE NEIGHBOUR: 'it returns false'. Refute it at one input. -/
def fieldReservesWrong : ChangeSpec := { name := "fieldReserves", fn := fun _ => fun
  | [d1, d2, d3, d4] => { results := [.lit (.bool false)], args := [d1, d2, d3, d4] }
  | _ => none }
def FieldReservesWrongFalsely : Prop := fieldReservesRow.holds Tryz.pinned (OpenSpec.ofChange fieldReservesWrong)

/- THE SECOND FORM. 'bulk': how many values and letters a reading holds, each counted each time it is reached (what is shared counts as often as it is met; a slice's spare places count too). A statement '..UptoSaid' is the law's where the arguments, and the package variables that the reading takes, are together of bulk at most 1048576: NARROWER than '..Said'. Prove '..Said' where nothing that the law and all that it calls make is longer than what came in: it says more and counts as full. Else prove '..UptoSaid'. A law counts once. -/
mutual
def uptoBulk {H : Type} : DataW H → Nat
  | .lit (.string bytes) => bytes.length + 1
  | .lit _ => 1
  | .nil => 1
  | .ptr d => uptoBulk d + 1
  | .slice elems spare => uptoBulkAll elems + uptoBulkAll spare + 1
  | .agg parts => uptoBulkAll parts + 1
  | .iface _ d => uptoBulk d + 1
  | .map entries => uptoBulkEntries entries + 1
  | .held _ => 1
def uptoBulkAll {H : Type} : List (DataW H) → Nat
  | [] => 0
  | d :: r => uptoBulk d + uptoBulkAll r
def uptoBulkEntries {H : Type} : List (Lit × DataW H) → Nat
  | [] => 0
  | x :: r => uptoBulkEntry x + uptoBulkEntries r
def uptoBulkEntry {H : Type} : Lit × DataW H → Nat
  | (.string bytes, d) => bytes.length + uptoBulk d + 1
  | (_, d) => uptoBulk d + 1
 end
def uptoSmall : (H : Type) → List (DataW H) → Bool := fun _ ds => decide (uptoBulkAll ds ≤ 1048576)
def OpenSpec.upto (s : _root_.Go.ChangeSpec) : _root_.Go.OpenSpec := { _root_.Go.OpenSpec.ofChange s with cond := some uptoSmall }

/-- 'usufructlaw13.PlanTells', WHERE WHAT IT READS IS OF BULK AT MOST 1048576: true; the input reads as it did. -/
def planTellsUptoRow : OpenClaim := { program := "ytakadpmjdhcckaagreat", sum := "31049f8234c5490b421de7ff0465e7612aba13da16a86c4432e7531465475504", func := "usufruct/usufructlaw13.PlanTells", spec := "planTells", unfollowed := true, recurses := true, apart := false, narrowed := true }
def PlanTellsUptoSaid : Prop := planTellsUptoRow.holds Tryz.pinned (OpenSpec.upto planTellsSpec)

/-- 'usufructlaw13.PlanKeeps', WHERE WHAT IT READS IS OF BULK AT MOST 1048576: true; the input reads as it did. -/
def planKeepsUptoRow : OpenClaim := { program := "ytakadpmjdhcckaagreat", sum := "31049f8234c5490b421de7ff0465e7612aba13da16a86c4432e7531465475504", func := "usufruct/usufructlaw13.PlanKeeps", spec := "planKeeps", unfollowed := true, recurses := true, apart := false, narrowed := true }
def PlanKeepsUptoSaid : Prop := planKeepsUptoRow.holds Tryz.pinned (OpenSpec.upto planKeepsSpec)

/-- 'usufructlaw07.FieldTells', WHERE WHAT IT READS IS OF BULK AT MOST 1048576: true; the input reads as it did. -/
def fieldTellsUptoRow : OpenClaim := { program := "ytakadpmjdhcckaagreat", sum := "31049f8234c5490b421de7ff0465e7612aba13da16a86c4432e7531465475504", func := "usufruct/usufructlaw07.FieldTells", spec := "fieldTells", unfollowed := true, recurses := true, apart := false, narrowed := true }
def FieldTellsUptoSaid : Prop := fieldTellsUptoRow.holds Tryz.pinned (OpenSpec.upto fieldTellsSpec)

/-- 'usufructlaw07.FieldReserves', WHERE WHAT IT READS IS OF BULK AT MOST 1048576: true; the input reads as it did. -/
def fieldReservesUptoRow : OpenClaim := { program := "ytakadpmjdhcckaagreat", sum := "31049f8234c5490b421de7ff0465e7612aba13da16a86c4432e7531465475504", func := "usufruct/usufructlaw07.FieldReserves", spec := "fieldReserves", unfollowed := true, recurses := true, apart := false, narrowed := true }
def FieldReservesUptoSaid : Prop := fieldReservesUptoRow.holds Tryz.pinned (OpenSpec.upto fieldReservesSpec)

end Rows
end Go.Proofs.YtakadpmjdhcckaaGreat
