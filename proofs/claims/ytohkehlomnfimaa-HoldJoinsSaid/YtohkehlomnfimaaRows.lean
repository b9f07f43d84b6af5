/-
  No cell of these rows narrows 'for every input' (looked for: loops, veiled, ifaces, maps, wideKeys, modest, calm, conditions, laid).
  DERIVED. THE GIVEN ROWS OF THIS SEAT. 7 by the template 'for every input the law returns true; each argument reads behind the call as it read before'; 0 by the template 'total and deterministic' (their statements: YtohkehlomnfimaaTotals.lean).
  GIVEN WITH THE SEED: the statements are not yours to turn. If you find one false, say at which input.
  Laid BY PROGRAM, IN A SANDBOX (cutbox-rows.mjs): the forced cells as the released guide's own fill.sh prints them over the translation f3d379e0e002ca9c… (all of the seat's roots in one cut). By AI agents, Wed Nov 11 2026. No macro, syntax, notation, axiom, sorry.
-/
import Derived.Test.YtohkehlomnfimaaChecked
import GoSem.Claim
import GoSem.ClaimJoined
import GoSem.ClaimMapViews
import Derived.JoinedTies
import Derived.KernelRfl
namespace Go.Proofs.Ytohkehlomnfimaa
/- THE CELL 'sum', in the pinned program and in every row, IS THE sha256 OF THE DUMP (.gsa) THAT YtohkehlomnfimaaProg.lean LOADS. Nothing in Lean hashes anything: it is a label: what it is worth is what the hold of that sum in a sandbox is worth. -/
noncomputable def Try.pinned : Pinned := { name := "ytohkehlomnfimaa", sum := "f3d379e0e002ca9c80c0f8a311a66a376204a748d9eca83a1106857332c1157f", checked := Try.checked }
namespace Rows
def none {H : Type} : Left H := { results := [], args := [] }

/-- 'usufructlaw06.HoldTime': WHATEVER THE INPUT: true; the input reads as it did. -/
def holdTimeSpec : ChangeSpec := { name := "holdTime", fn := fun _ => fun
  | [d1, d2, d3, d4] => { results := [.lit (.bool true)], args := [d1, d2, d3, d4] }
  | _ => none }
def holdTimeRow : OpenClaim := { program := "ytohkehlomnfimaa", sum := "f3d379e0e002ca9c80c0f8a311a66a376204a748d9eca83a1106857332c1157f", func := "usufruct/usufructlaw06.HoldTime", spec := "holdTime", unfollowed := true, recurses := true, plainKeys := false, apart := false }
def HoldTimeSaid : Prop := holdTimeRow.holds Try.pinned (OpenSpec.ofChange holdTimeSpec)

/-- ITS FALSE NEIGHBOUR: 'it returns false'. Refute it at one input. -/
def holdTimeWrong : ChangeSpec := { name := "holdTime", fn := fun _ => fun
  | [d1, d2, d3, d4] => { results := [.lit (.bool false)], args := [d1, d2, d3, d4] }
  | _ => none }
def HoldTimeWrongFalsely : Prop := holdTimeRow.holds Try.pinned (OpenSpec.ofChange holdTimeWrong)

/-- 'usufructlaw06.HoldTells': WHATEVER THE INPUT: true; the input reads as it did. -/
def holdTellsSpec : ChangeSpec := { name := "holdTells", fn := fun _ => fun
  | [d1, d2, d3] => { results := [.lit (.bool true)], args := [d1, d2, d3] }
  | _ => none }
def holdTellsRow : OpenClaim := { program := "ytohkehlomnfimaa", sum := "f3d379e0e002ca9c80c0f8a311a66a376204a748d9eca83a1106857332c1157f", func := "usufruct/usufructlaw06.HoldTells", spec := "holdTells", unfollowed := true, recurses := true, plainKeys := false, apart := false }
def HoldTellsSaid : Prop := holdTellsRow.holds Try.pinned (OpenSpec.ofChange holdTellsSpec)

/-- ITS FALSE NEIGHBOUR: 'it returns false'. Refute it at one input. -/
def holdTellsWrong : ChangeSpec := { name := "holdTells", fn := fun _ => fun
  | [d1, d2, d3] => { results := [.lit (.bool false)], args := [d1, d2, d3] }
  | _ => none }
def HoldTellsWrongFalsely : Prop := holdTellsRow.holds Try.pinned (OpenSpec.ofChange holdTellsWrong)

/-- 'usufructlaw06.HoldDoes': WHATEVER THE INPUT: true; the input reads as it did. -/
def holdDoesSpec : ChangeSpec := { name := "holdDoes", fn := fun _ => fun
  | [d1, d2, d3, d4] => { results := [.lit (.bool true)], args := [d1, d2, d3, d4] }
  | _ => none }
def holdDoesRow : OpenClaim := { program := "ytohkehlomnfimaa", sum := "f3d379e0e002ca9c80c0f8a311a66a376204a748d9eca83a1106857332c1157f", func := "usufruct/usufructlaw06.HoldDoes", spec := "holdDoes", unfollowed := true, recurses := true, plainKeys := false, apart := false }
def HoldDoesSaid : Prop := holdDoesRow.holds Try.pinned (OpenSpec.ofChange holdDoesSpec)

/-- ITS FALSE NEIGHBOUR: 'it returns false'. Refute it at one input. -/
def holdDoesWrong : ChangeSpec := { name := "holdDoes", fn := fun _ => fun
  | [d1, d2, d3, d4] => { results := [.lit (.bool false)], args := [d1, d2, d3, d4] }
  | _ => none }
def HoldDoesWrongFalsely : Prop := holdDoesRow.holds Try.pinned (OpenSpec.ofChange holdDoesWrong)

/-- 'usufructlaw06.HoldJoins': WHATEVER THE INPUT: true; the input reads as it did. -/
def holdJoinsSpec : ChangeSpec := { name := "holdJoins", fn := fun _ => fun
  | [d1, d2] => { results := [.lit (.bool true)], args := [d1, d2] }
  | _ => none }
def holdJoinsRow : OpenClaim := { program := "ytohkehlomnfimaa", sum := "f3d379e0e002ca9c80c0f8a311a66a376204a748d9eca83a1106857332c1157f", func := "usufruct/usufructlaw06.HoldJoins", spec := "holdJoins", unfollowed := true, recurses := true, plainKeys := false, apart := false }
def HoldJoinsSaid : Prop := holdJoinsRow.holds Try.pinned (OpenSpec.ofChange holdJoinsSpec)

/-- ITS FALSE NEIGHBOUR: 'it returns false'. Refute it at one input. -/
def holdJoinsWrong : ChangeSpec := { name := "holdJoins", fn := fun _ => fun
  | [d1, d2] => { results := [.lit (.bool false)], args := [d1, d2] }
  | _ => none }
def HoldJoinsWrongFalsely : Prop := holdJoinsRow.holds Try.pinned (OpenSpec.ofChange holdJoinsWrong)

/-- 'usufructlaw06.HoldLaws': WHATEVER THE INPUT: true; the input reads as it did. -/
def holdLawsSpec : ChangeSpec := { name := "holdLaws", fn := fun _ => fun
  | [d1, d2, d3] => { results := [.lit (.bool true)], args := [d1, d2, d3] }
  | _ => none }
def holdLawsRow : OpenClaim := { program := "ytohkehlomnfimaa", sum := "f3d379e0e002ca9c80c0f8a311a66a376204a748d9eca83a1106857332c1157f", func := "usufruct/usufructlaw06.HoldLaws", spec := "holdLaws", unfollowed := true, recurses := true, plainKeys := false, apart := false }
def HoldLawsSaid : Prop := holdLawsRow.holds Try.pinned (OpenSpec.ofChange holdLawsSpec)

/-- ITS FALSE NEIGHBOUR: 'it returns false'. Refute it at one input. -/
def holdLawsWrong : ChangeSpec := { name := "holdLaws", fn := fun _ => fun
  | [d1, d2, d3] => { results := [.lit (.bool false)], args := [d1, d2, d3] }
  | _ => none }
def HoldLawsWrongFalsely : Prop := holdLawsRow.holds Try.pinned (OpenSpec.ofChange holdLawsWrong)

/-- 'usufructlaw06.HoldStays': WHATEVER THE INPUT: true; the input reads as it did. -/
def holdStaysSpec : ChangeSpec := { name := "holdStays", fn := fun _ => fun
  | [d1, d2, d3, d4] => { results := [.lit (.bool true)], args := [d1, d2, d3, d4] }
  | _ => none }
def holdStaysRow : OpenClaim := { program := "ytohkehlomnfimaa", sum := "f3d379e0e002ca9c80c0f8a311a66a376204a748d9eca83a1106857332c1157f", func := "usufruct/usufructlaw06.HoldStays", spec := "holdStays", unfollowed := true, recurses := true, plainKeys := false, apart := false }
def HoldStaysSaid : Prop := holdStaysRow.holds Try.pinned (OpenSpec.ofChange holdStaysSpec)

/-- ITS FALSE NEIGHBOUR: 'it returns false'. Refute it at one input. -/
def holdStaysWrong : ChangeSpec := { name := "holdStays", fn := fun _ => fun
  | [d1, d2, d3, d4] => { results := [.lit (.bool false)], args := [d1, d2, d3, d4] }
  | _ => none }
def HoldStaysWrongFalsely : Prop := holdStaysRow.holds Try.pinned (OpenSpec.ofChange holdStaysWrong)

/-- 'usufructlaw06.HoldNew': WHATEVER THE INPUT: true; the input reads as it did. -/
def holdNewSpec : ChangeSpec := { name := "holdNew", fn := fun _ => fun
  | [d1, d2, d3, d4, d5] => { results := [.lit (.bool true)], args := [d1, d2, d3, d4, d5] }
  | _ => none }
def holdNewRow : OpenClaim := { program := "ytohkehlomnfimaa", sum := "f3d379e0e002ca9c80c0f8a311a66a376204a748d9eca83a1106857332c1157f", func := "usufruct/usufructlaw06.HoldNew", spec := "holdNew", unfollowed := true, recurses := true, plainKeys := false, apart := false }
def HoldNewSaid : Prop := holdNewRow.holds Try.pinned (OpenSpec.ofChange holdNewSpec)

/-- ITS FALSE NEIGHBOUR: 'it returns false'. Refute it at one input. -/
def holdNewWrong : ChangeSpec := { name := "holdNew", fn := fun _ => fun
  | [d1, d2, d3, d4, d5] => { results := [.lit (.bool false)], args := [d1, d2, d3, d4, d5] }
  | _ => none }
def HoldNewWrongFalsely : Prop := holdNewRow.holds Try.pinned (OpenSpec.ofChange holdNewWrong)

/- THE SECOND FORM. 'bulk': how many values and letters a reading holds, each counted each time it is reached (what is shared counts as often as it is met; a slice's spare places count too). A statement '..UptoSaid' is the law's where the arguments, and the package variables that the reading takes, are together of bulk at most 1048576: NARROWER than '..Said'. Prove '..Said' where nothing that the law and all that it calls make is longer than what came in: it says more and counts as full. Else prove '..UptoSaid'. A law counts once. -/
mutual
def uptoBulk {H : Type} : DataW H → Nat
  | .lit (.string bytes) => bytes.length + 1
  | .lit _ => 1
  | .nil => 1
  | .ptr d => uptoBulk d + 1
  | .slice elems spare => uptoBulkAll elems + uptoBulkAll spare + 1
  | .agg parts => uptoBulkAll parts + 1
  | .iface _ d => uptoBulk d + 1
  | .map entries => uptoBulkEntries entries + 1
  | .held _ => 1
def uptoBulkAll {H : Type} : List (DataW H) → Nat
  | [] => 0
  | d :: r => uptoBulk d + uptoBulkAll r
def uptoBulkEntries {H : Type} : List (Lit × DataW H) → Nat
  | [] => 0
  | x :: r => uptoBulkEntry x + uptoBulkEntries r
def uptoBulkEntry {H : Type} : Lit × DataW H → Nat
  | (.string bytes, d) => bytes.length + uptoBulk d + 1
  | (_, d) => uptoBulk d + 1
 end
def uptoSmall : (H : Type) → List (DataW H) → Bool := fun _ ds => decide (uptoBulkAll ds ≤ 1048576)
def OpenSpec.upto (s : _root_.Go.ChangeSpec) : _root_.Go.OpenSpec := { _root_.Go.OpenSpec.ofChange s with cond := some uptoSmall }

/-- 'usufructlaw06.HoldTime', WHERE WHAT IT READS IS OF BULK AT MOST 1048576: true; the input reads as it did. -/
def holdTimeUptoRow : OpenClaim := { program := "ytohkehlomnfimaa", sum := "f3d379e0e002ca9c80c0f8a311a66a376204a748d9eca83a1106857332c1157f", func := "usufruct/usufructlaw06.HoldTime", spec := "holdTime", unfollowed := true, recurses := true, plainKeys := false, apart := false, narrowed := true }
def HoldTimeUptoSaid : Prop := holdTimeUptoRow.holds Try.pinned (OpenSpec.upto holdTimeSpec)

/-- 'usufructlaw06.HoldTells', WHERE WHAT IT READS IS OF BULK AT MOST 1048576: true; the input reads as it did. -/
def holdTellsUptoRow : OpenClaim := { program := "ytohkehlomnfimaa", sum := "f3d379e0e002ca9c80c0f8a311a66a376204a748d9eca83a1106857332c1157f", func := "usufruct/usufructlaw06.HoldTells", spec := "holdTells", unfollowed := true, recurses := true, plainKeys := false, apart := false, narrowed := true }
def HoldTellsUptoSaid : Prop := holdTellsUptoRow.holds Try.pinned (OpenSpec.upto holdTellsSpec)

/-- 'usufructlaw06.HoldDoes', WHERE WHAT IT READS IS OF BULK AT MOST 1048576: true; the input reads as it did. -/
def holdDoesUptoRow : OpenClaim := { program := "ytohkehlomnfimaa", sum := "f3d379e0e002ca9c80c0f8a311a66a376204a748d9eca83a1106857332c1157f", func := "usufruct/usufructlaw06.HoldDoes", spec := "holdDoes", unfollowed := true, recurses := true, plainKeys := false, apart := false, narrowed := true }
def HoldDoesUptoSaid : Prop := holdDoesUptoRow.holds Try.pinned (OpenSpec.upto holdDoesSpec)

/-- 'usufructlaw06.HoldJoins', WHERE WHAT IT READS IS OF BULK AT MOST 1048576: true; the input reads as it did. -/
def holdJoinsUptoRow : OpenClaim := { program := "ytohkehlomnfimaa", sum := "f3d379e0e002ca9c80c0f8a311a66a376204a748d9eca83a1106857332c1157f", func := "usufruct/usufructlaw06.HoldJoins", spec := "holdJoins", unfollowed := true, recurses := true, plainKeys := false, apart := false, narrowed := true }
def HoldJoinsUptoSaid : Prop := holdJoinsUptoRow.holds Try.pinned (OpenSpec.upto holdJoinsSpec)

/-- 'usufructlaw06.HoldLaws', WHERE WHAT IT READS IS OF BULK AT MOST 1048576: true; the input reads as it did. -/
def holdLawsUptoRow : OpenClaim := { program := "ytohkehlomnfimaa", sum := "f3d379e0e002ca9c80c0f8a311a66a376204a748d9eca83a1106857332c1157f", func := "usufruct/usufructlaw06.HoldLaws", spec := "holdLaws", unfollowed := true, recurses := true, plainKeys := false, apart := false, narrowed := true }
def HoldLawsUptoSaid : Prop := holdLawsUptoRow.holds Try.pinned (OpenSpec.upto holdLawsSpec)

/-- 'usufructlaw06.HoldStays', WHERE WHAT IT READS IS OF BULK AT MOST 1048576: true; the input reads as it did. -/
def holdStaysUptoRow : OpenClaim := { program := "ytohkehlomnfimaa", sum := "f3d379e0e002ca9c80c0f8a311a66a376204a748d9eca83a1106857332c1157f", func := "usufruct/usufructlaw06.HoldStays", spec := "holdStays", unfollowed := true, recurses := true, plainKeys := false, apart := false, narrowed := true }
def HoldStaysUptoSaid : Prop := holdStaysUptoRow.holds Try.pinned (OpenSpec.upto holdStaysSpec)

/-- 'usufructlaw06.HoldNew', WHERE WHAT IT READS IS OF BULK AT MOST 1048576: true; the input reads as it did. -/
def holdNewUptoRow : OpenClaim := { program := "ytohkehlomnfimaa", sum := "f3d379e0e002ca9c80c0f8a311a66a376204a748d9eca83a1106857332c1157f", func := "usufruct/usufructlaw06.HoldNew", spec := "holdNew", unfollowed := true, recurses := true, plainKeys := false, apart := false, narrowed := true }
def HoldNewUptoSaid : Prop := holdNewUptoRow.holds Try.pinned (OpenSpec.upto holdNewSpec)

end Rows
end Go.Proofs.Ytohkehlomnfimaa
