/-
  No cell of these rows narrows 'for every input' (looked for: loops, veiled, ifaces, maps, wideKeys, modest, calm, conditions, laid).
  DERIVED. THE GIVEN ROWS OF THIS SEAT. 6 by the template 'for every input the law returns true; each argument reads behind the call as it read before'; 0 by the template 'total and deterministic' (their statements: YtemcahobfhomiaaTotals.lean).
  GIVEN WITH THE SEED: the statements are not yours to turn. If you find one false, say at which input.
  Laid BY PROGRAM, IN A SANDBOX (cutbox-rows.mjs): the forced cells as the released guide's own fill.sh prints them over the translation 8bb576d6a65503f0… (all of the seat's roots in one cut). By AI agents, Wed Nov 11 2026. No macro, syntax, notation, axiom, sorry.
-/
import Derived.Test.YtemcahobfhomiaaChecked
import GoSem.Claim
import GoSem.ClaimJoined
import GoSem.ClaimMapViews
import Derived.JoinedTies
import Derived.KernelRfl
namespace Go.Proofs.Ytemcahobfhomiaa
/- THE CELL 'sum', in the pinned program and in every row, IS THE sha256 OF THE DUMP (.gsa) THAT YtemcahobfhomiaaProg.lean LOADS. Nothing in Lean hashes anything: it is a label: what it is worth is what the hold of that sum in a sandbox is worth. -/
noncomputable def Try.pinned : Pinned := { name := "ytemcahobfhomiaa", sum := "8bb576d6a65503f0b0506c9e644fe8eea3a079a9e5de4dc1b63eb86a09cc3935", checked := Try.checked }
namespace Rows
def none {H : Type} : Left H := { results := [], args := [] }

/-- 'usufructlaw05.LockLine': WHATEVER THE INPUT: true; the input reads as it did. -/
def lockLineSpec : ChangeSpec := { name := "lockLine", fn := fun _ => fun
  | [d1, d2, d3] => { results := [.lit (.bool true)], args := [d1, d2, d3] }
  | _ => none }
def lockLineRow : OpenClaim := { program := "ytemcahobfhomiaa", sum := "8bb576d6a65503f0b0506c9e644fe8eea3a079a9e5de4dc1b63eb86a09cc3935", func := "usufruct/usufructlaw05.LockLine", spec := "lockLine", plainKeys := false, apart := false }
def LockLineSaid : Prop := lockLineRow.holds Try.pinned (OpenSpec.ofChange lockLineSpec)

/-- ITS FALSE NEIGHBOUR: 'it returns false'. Refute it at one input. -/
def lockLineWrong : ChangeSpec := { name := "lockLine", fn := fun _ => fun
  | [d1, d2, d3] => { results := [.lit (.bool false)], args := [d1, d2, d3] }
  | _ => none }
def LockLineWrongFalsely : Prop := lockLineRow.holds Try.pinned (OpenSpec.ofChange lockLineWrong)

/-- 'usufructlaw05.LockJoins': WHATEVER THE INPUT: true; the input reads as it did. -/
def lockJoinsSpec : ChangeSpec := { name := "lockJoins", fn := fun _ => fun
  | [d1, d2, d3] => { results := [.lit (.bool true)], args := [d1, d2, d3] }
  | _ => none }
def lockJoinsRow : OpenClaim := { program := "ytemcahobfhomiaa", sum := "8bb576d6a65503f0b0506c9e644fe8eea3a079a9e5de4dc1b63eb86a09cc3935", func := "usufruct/usufructlaw05.LockJoins", spec := "lockJoins", plainKeys := false, apart := false }
def LockJoinsSaid : Prop := lockJoinsRow.holds Try.pinned (OpenSpec.ofChange lockJoinsSpec)

/-- ITS FALSE NEIGHBOUR: 'it returns false'. Refute it at one input. -/
def lockJoinsWrong : ChangeSpec := { name := "lockJoins", fn := fun _ => fun
  | [d1, d2, d3] => { results := [.lit (.bool false)], args := [d1, d2, d3] }
  | _ => none }
def LockJoinsWrongFalsely : Prop := lockJoinsRow.holds Try.pinned (OpenSpec.ofChange lockJoinsWrong)

/-- 'usufructlaw05.LockOne': WHATEVER THE INPUT: true; the input reads as it did. -/
def lockOneSpec : ChangeSpec := { name := "lockOne", fn := fun _ => fun
  | [d1, d2, d3] => { results := [.lit (.bool true)], args := [d1, d2, d3] }
  | _ => none }
def lockOneRow : OpenClaim := { program := "ytemcahobfhomiaa", sum := "8bb576d6a65503f0b0506c9e644fe8eea3a079a9e5de4dc1b63eb86a09cc3935", func := "usufruct/usufructlaw05.LockOne", spec := "lockOne", plainKeys := false, apart := false }
def LockOneSaid : Prop := lockOneRow.holds Try.pinned (OpenSpec.ofChange lockOneSpec)

/-- ITS FALSE NEIGHBOUR: 'it returns false'. Refute it at one input. -/
def lockOneWrong : ChangeSpec := { name := "lockOne", fn := fun _ => fun
  | [d1, d2, d3] => { results := [.lit (.bool false)], args := [d1, d2, d3] }
  | _ => none }
def LockOneWrongFalsely : Prop := lockOneRow.holds Try.pinned (OpenSpec.ofChange lockOneWrong)

/-- 'usufructlaw05.LockHolds': WHATEVER THE INPUT: true; the input reads as it did. -/
def lockHoldsSpec : ChangeSpec := { name := "lockHolds", fn := fun _ => fun
  | [d1, d2] => { results := [.lit (.bool true)], args := [d1, d2] }
  | _ => none }
def lockHoldsRow : OpenClaim := { program := "ytemcahobfhomiaa", sum := "8bb576d6a65503f0b0506c9e644fe8eea3a079a9e5de4dc1b63eb86a09cc3935", func := "usufruct/usufructlaw05.LockHolds", spec := "lockHolds", plainKeys := false, apart := false }
def LockHoldsSaid : Prop := lockHoldsRow.holds Try.pinned (OpenSpec.ofChange lockHoldsSpec)

/-- ITS FALSE NEIGHBOUR: 'it returns false'. Refute it at one input. -/
def lockHoldsWrong : ChangeSpec := { name := "lockHolds", fn := fun _ => fun
  | [d1, d2] => { results := [.lit (.bool false)], args := [d1, d2] }
  | _ => none }
def LockHoldsWrongFalsely : Prop := lockHoldsRow.holds Try.pinned (OpenSpec.ofChange lockHoldsWrong)

/-- 'usufructlaw05.LockPasses': WHATEVER THE INPUT: true; the input reads as it did. -/
def lockPassesSpec : ChangeSpec := { name := "lockPasses", fn := fun _ => fun
  | [d1, d2, d3] => { results := [.lit (.bool true)], args := [d1, d2, d3] }
  | _ => none }
def lockPassesRow : OpenClaim := { program := "ytemcahobfhomiaa", sum := "8bb576d6a65503f0b0506c9e644fe8eea3a079a9e5de4dc1b63eb86a09cc3935", func := "usufruct/usufructlaw05.LockPasses", spec := "lockPasses", plainKeys := false, apart := false }
def LockPassesSaid : Prop := lockPassesRow.holds Try.pinned (OpenSpec.ofChange lockPassesSpec)

/-- ITS FALSE NEIGHBOUR: 'it returns false'. Refute it at one input. -/
def lockPassesWrong : ChangeSpec := { name := "lockPasses", fn := fun _ => fun
  | [d1, d2, d3] => { results := [.lit (.bool false)], args := [d1, d2, d3] }
  | _ => none }
def LockPassesWrongFalsely : Prop := lockPassesRow.holds Try.pinned (OpenSpec.ofChange lockPassesWrong)

/-- 'usufructlaw05.LockSteps': WHATEVER THE INPUT: true; the input reads as it did. -/
def lockStepsSpec : ChangeSpec := { name := "lockSteps", fn := fun _ => fun
  | [d1, d2, d3, d4] => { results := [.lit (.bool true)], args := [d1, d2, d3, d4] }
  | _ => none }
def lockStepsRow : OpenClaim := { program := "ytemcahobfhomiaa", sum := "8bb576d6a65503f0b0506c9e644fe8eea3a079a9e5de4dc1b63eb86a09cc3935", func := "usufruct/usufructlaw05.LockSteps", spec := "lockSteps", unfollowed := true, recurses := true, plainKeys := false, apart := false }
def LockStepsSaid : Prop := lockStepsRow.holds Try.pinned (OpenSpec.ofChange lockStepsSpec)

/-- ITS FALSE NEIGHBOUR: 'it returns false'. Refute it at one input. -/
def lockStepsWrong : ChangeSpec := { name := "lockSteps", fn := fun _ => fun
  | [d1, d2, d3, d4] => { results := [.lit (.bool false)], args := [d1, d2, d3, d4] }
  | _ => none }
def LockStepsWrongFalsely : Prop := lockStepsRow.holds Try.pinned (OpenSpec.ofChange lockStepsWrong)

/- THE SECOND FORM. 'bulk': how many values and letters a reading holds, each counted each time it is reached (what is shared counts as often as it is met; a slice's spare places count too). A statement '..UptoSaid' is the law's where the arguments, and the package variables that the reading takes, are together of bulk at most 1048576: NARROWER than '..Said'. Prove '..Said' where nothing that the law and all that it calls make is longer than what came in: it says more and counts as full. Else prove '..UptoSaid'. A law counts once. -/
mutual
def uptoBulk {H : Type} : DataW H → Nat
  | .lit (.string bytes) => bytes.length + 1
  | .lit _ => 1
  | .nil => 1
  | .ptr d => uptoBulk d + 1
  | .slice elems spare => uptoBulkAll elems + uptoBulkAll spare + 1
  | .agg parts => uptoBulkAll parts + 1
  | .iface _ d => uptoBulk d + 1
  | .map entries => uptoBulkEntries entries + 1
  | .held _ => 1
def uptoBulkAll {H : Type} : List (DataW H) → Nat
  | [] => 0
  | d :: r => uptoBulk d + uptoBulkAll r
def uptoBulkEntries {H : Type} : List (Lit × DataW H) → Nat
  | [] => 0
  | x :: r => uptoBulkEntry x + uptoBulkEntries r
def uptoBulkEntry {H : Type} : Lit × DataW H → Nat
  | (.string bytes, d) => bytes.length + uptoBulk d + 1
  | (_, d) => uptoBulk d + 1
 end
def uptoSmall : (H : Type) → List (DataW H) → Bool := fun _ ds => decide (uptoBulkAll ds ≤ 1048576)
def OpenSpec.upto (s : _root_.Go.ChangeSpec) : _root_.Go.OpenSpec := { _root_.Go.OpenSpec.ofChange s with cond := some uptoSmall }

/-- 'usufructlaw05.LockLine', WHERE WHAT IT READS IS OF BULK AT MOST 1048576: true; the input reads as it did. -/
def lockLineUptoRow : OpenClaim := { program := "ytemcahobfhomiaa", sum := "8bb576d6a65503f0b0506c9e644fe8eea3a079a9e5de4dc1b63eb86a09cc3935", func := "usufruct/usufructlaw05.LockLine", spec := "lockLine", plainKeys := false, apart := false, narrowed := true }
def LockLineUptoSaid : Prop := lockLineUptoRow.holds Try.pinned (OpenSpec.upto lockLineSpec)

/-- 'usufructlaw05.LockJoins', WHERE WHAT IT READS IS OF BULK AT MOST 1048576: true; the input reads as it did. -/
def lockJoinsUptoRow : OpenClaim := { program := "ytemcahobfhomiaa", sum := "8bb576d6a65503f0b0506c9e644fe8eea3a079a9e5de4dc1b63eb86a09cc3935", func := "usufruct/usufructlaw05.LockJoins", spec := "lockJoins", plainKeys := false, apart := false, narrowed := true }
def LockJoinsUptoSaid : Prop := lockJoinsUptoRow.holds Try.pinned (OpenSpec.upto lockJoinsSpec)

/-- 'usufructlaw05.LockOne', WHERE WHAT IT READS IS OF BULK AT MOST 1048576: true; the input reads as it did. -/
def lockOneUptoRow : OpenClaim := { program := "ytemcahobfhomiaa", sum := "8bb576d6a65503f0b0506c9e644fe8eea3a079a9e5de4dc1b63eb86a09cc3935", func := "usufruct/usufructlaw05.LockOne", spec := "lockOne", plainKeys := false, apart := false, narrowed := true }
def LockOneUptoSaid : Prop := lockOneUptoRow.holds Try.pinned (OpenSpec.upto lockOneSpec)

/-- 'usufructlaw05.LockHolds', WHERE WHAT IT READS IS OF BULK AT MOST 1048576: true; the input reads as it did. -/
def lockHoldsUptoRow : OpenClaim := { program := "ytemcahobfhomiaa", sum := "8bb576d6a65503f0b0506c9e644fe8eea3a079a9e5de4dc1b63eb86a09cc3935", func := "usufruct/usufructlaw05.LockHolds", spec := "lockHolds", plainKeys := false, apart := false, narrowed := true }
def LockHoldsUptoSaid : Prop := lockHoldsUptoRow.holds Try.pinned (OpenSpec.upto lockHoldsSpec)

/-- 'usufructlaw05.LockPasses', WHERE WHAT IT READS IS OF BULK AT MOST 1048576: true; the input reads as it did. -/
def lockPassesUptoRow : OpenClaim := { program := "ytemcahobfhomiaa", sum := "8bb576d6a65503f0b0506c9e644fe8eea3a079a9e5de4dc1b63eb86a09cc3935", func := "usufruct/usufructlaw05.LockPasses", spec := "lockPasses", plainKeys := false, apart := false, narrowed := true }
def LockPassesUptoSaid : Prop := lockPassesUptoRow.holds Try.pinned (OpenSpec.upto lockPassesSpec)

/-- 'usufructlaw05.LockSteps', WHERE WHAT IT READS IS OF BULK AT MOST 1048576: true; the input reads as it did. -/
def lockStepsUptoRow : OpenClaim := { program := "ytemcahobfhomiaa", sum := "8bb576d6a65503f0b0506c9e644fe8eea3a079a9e5de4dc1b63eb86a09cc3935", func := "usufruct/usufructlaw05.LockSteps", spec := "lockSteps", unfollowed := true, recurses := true, plainKeys := false, apart := false, narrowed := true }
def LockStepsUptoSaid : Prop := lockStepsUptoRow.holds Try.pinned (OpenSpec.upto lockStepsSpec)

end Rows
end Go.Proofs.Ytemcahobfhomiaa
