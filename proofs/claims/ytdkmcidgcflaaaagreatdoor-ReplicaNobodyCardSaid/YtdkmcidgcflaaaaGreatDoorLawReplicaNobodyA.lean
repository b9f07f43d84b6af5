/- For every input the law ReplicaNobody returns true, and its arguments read behind the call as they read before. -/
import Derived.Test.YtdkmcidgcflaaaaGreatDoorRows
import Derived.Test.YtdkmcidgcflaaaaGreatDoorTie
import Derived.Test.YtdkmcidgcflaaaaGreatDoorCards
import Derived.SevenTiedAt
import Derived.LaidMore
import Derived.LaidLaws
import Derived.Stop.Joined
import Derived.Test.YtdkmcidgcflaaaaGreatDoorAvReplicaNobodyG2
import Derived.Test.YtdkmcidgcflaaaaGreatDoorAvReplicaNobodyD1
import Derived.Test.YtdkmcidgcflaaaaGreatDoorAvReplicaNobodyL1
namespace Go.Proofs.YtdkmcidgcflaaaaGreatDoor.replicaNobody
open Go.Av Go.ChangeShapes Go.WideShapes Go.ChangeAt Go.RowKit
set_option linter.unusedVariables false
theorem own : ownKnob Tryz.prog.godebug = none := by kernel_rfl
theorem laid : laidOutB Tryz.prog = true := by kernel_rfl
theorem fine : fineAll Tryz.prog Tryz.f4.params.toList = true := by kernel_rfl
theorem tys : tysOf Tryz.prog 12 Tryz.f4.params.toList = some [.st [.int .i64, .int .i64, .int .i64, .int .i64, .str, .st [.int .i64, .str, .str, .int .i64, .int .i64], .st [.int .i64, .int .i64, .int .i64, .int .i64, .int .i64, .bool, .sl 587 4720 (.st [.str, .int .i64, .int .i64, .st [.int .i64, .int .i64, .int .i64, .st [.arr 16 1 (.int .i64), .arr 16 1 (.int .i64), .arr 16 16 (.arr 16 1 (.int .i64))], .st [.arr 16 1 (.int .i64), .arr 16 1 (.int .i64), .arr 16 16 (.arr 16 1 (.int .i64))]], .st [.int .i64, .int .i64, .int .i64, .int .i64], .sl 5 40 (.st [.int .i64, .int .i64, .int .i64, .int .i64, .int .i64])]), .st [.int .i64, .str, .str, .int .i64, .int .i64]]]] := by kernel_rfl
theorem bool : Tryz.prog.underlying 4 = some .bool := by kernel_rfl
theorem law (vs : List V) (g0 : hasTys [.st [.int .i64, .int .i64, .int .i64, .int .i64, .str, .st [.int .i64, .str, .str, .int .i64, .int .i64], .st [.int .i64, .int .i64, .int .i64, .int .i64, .int .i64, .bool, .sl 587 4720 (.st [.str, .int .i64, .int .i64, .st [.int .i64, .int .i64, .int .i64, .st [.arr 16 1 (.int .i64), .arr 16 1 (.int .i64), .arr 16 16 (.arr 16 1 (.int .i64))], .st [.arr 16 1 (.int .i64), .arr 16 1 (.int .i64), .arr 16 16 (.arr 16 1 (.int .i64))]], .st [.int .i64, .int .i64, .int .i64, .int .i64], .sl 5 40 (.st [.int .i64, .int .i64, .int .i64, .int .i64, .int .i64])]), .st [.int .i64, .str, .str, .int .i64, .int .i64]]]] vs) : CallSpec Tryz.prog 4 vs [] fun o _ => o = .ret (.bool true) := by
  obtain ⟨v0, r0, rfl, h0, g1⟩ := hasTys_c g0
  obtain ⟨x0, rfl, w0⟩ := dec_Yl18D h0
  obtain rfl := hasTys_n g1
  have hC := C_ul18_ReplicaNobody.p _ (ReplicaNobody_true x0)
  rw [Pg_eq] at hC
  exact (hC []).mono fun o H x => x.1
theorem said (H : Type) (ds : List (DataW H)) (h : ds.length = Tryz.f4.params.toList.length) : Rows.replicaNobodySpec.fn H ds = { results := [.lit (.bool true)], args := ds } := by
  rw [Tryz.params4] at h
  cases ds with
  | nil => simp at h
  | cons d0 ds =>
  cases ds with
  | cons _ _ => simp at h
  | nil => rfl

theorem gG : Tryz.prog.globalNamed "usufruct/frame.nibbles" = some glB := by kernel_rfl
theorem tG : (Tryz.prog.globals[glB]?).map (·.type) = some 272 := by kernel_rfl
theorem uG : Tryz.prog.underlying 272 = some (.array glL.length 212) := by kernel_rfl
theorem uE : Tryz.prog.underlying 212 = some (.int .u32) := by kernel_rfl
theorem cE : Tryz.prog.cellsOf 212 = 1 := by kernel_rfl
theorem door_met (os : Os) (args : Array Value) : laidMetH Tryz.prog [("usufruct/frame.nibbles", Rows.laid_usufruct_frame_nibbles)] ((World.doorLaid Tryz.prog 400 os).forCall (fun _ _ => 0) ⟨#[], args, []⟩).memory :=
  laidMetH_of_parts3 (fuel := 8) (laidMet_of_run' 8 (by kernel_rfl) (by kernel_rfl)) (by kernel_rfl) (by kernel_rfl)
def args0 : Array Value := #[.agg #[.int .i64 0, .int .i64 0, .int .i64 0, .int .i64 0, .string ByteArray.empty, .int .i64 0, .string ByteArray.empty, .string ByteArray.empty, .int .i64 0, .int .i64 0, .int .i64 0, .int .i64 0, .int .i64 0, .int .i64 0, .int .i64 0, .bool false, .slice none 0 0, .int .i64 0, .string ByteArray.empty, .string ByteArray.empty, .int .i64 0, .int .i64 0]]
set_option maxRecDepth 100000 in
theorem wSh (os : Os) : ((World.doorLaid Tryz.prog 400 os).forCall (fun _ _ => 0) ⟨#[], args0, []⟩).Shaped Tryz.prog := World.shaped_of_RefB (by kernel_rfl) (by kernel_rfl)
set_option maxRecDepth 100000 in
theorem wOk (os : Os) : Input.okWideB Tryz.prog ((World.doorLaid Tryz.prog 400 os).forCall (fun _ _ => 0) ⟨#[], args0, []⟩) 4 ⟨#[], args0, []⟩ = true := by kernel_rfl
set_option maxRecDepth 100000 in
theorem wPre (os : Os) (H : Type) (enc : TypeId × Value → H) : Rows.replicaNobodySpec.preB enc Tryz.prog Tryz.f4 [] false ((World.doorLaid Tryz.prog 400 os).forCall (fun _ _ => 0) ⟨#[], args0, []⟩).memory args0 12 = true := by kernel_rfl
set_option maxRecDepth 100000 in
theorem wSz (os : Os) (H : Type) (enc : TypeId × Value → H) : Rows.replicaNobodySpec.sizedB enc Tryz.prog Tryz.f4 false ((World.doorLaid Tryz.prog 400 os).forCall (fun _ _ => 0) ⟨#[], args0, []⟩).memory args0 12 = true := by kernel_rfl
set_option maxRecDepth 100000 in
theorem lifted (os : Os) (started : os.Started) (H : Type) (enc : TypeId × Value → H) :
    ReturnsInHanded {} Tryz.checked os 4 .any (fun w args => (Rows.replicaNobodySpec.pre enc Tryz.prog Tryz.f4 [] false w args ∧ laidMetH Tryz.prog [("usufruct/frame.nibbles", Rows.laid_usufruct_frame_nibbles)] w) ∧ sizedMet enc Tryz.prog Tryz.f4 (OpenSpec.ofChange Rows.replicaNobodySpec) false w args) (Rows.replicaNobodySpec.post enc Tryz.prog Tryz.f4 false true false false) :=
  law_lifted_gl (C := Tryz.checked) (laid := [("usufruct/frame.nibbles", Rows.laid_usufruct_frame_nibbles)]) own (by kernel_rfl) Tryz.func4 rfl laid fine tys rfl bool said law (fun W h => of_laid (nm := "usufruct/frame.nibbles") gG tG uG uE cE h) os started H enc
    (ChangeSpec.witness_shaped (enc := enc) (C := Tryz.checked) (os := os) (X := fun w _ => laidMetH Tryz.prog [("usufruct/frame.nibbles", Rows.laid_usufruct_frame_nibbles)] w) false (World.doorLaid Tryz.prog 400 os) args0 12 rfl (wSh os) (wOk os) (wPre os H enc) (wSz os H enc) (door_met os _))
end Go.Proofs.YtdkmcidgcflaaaaGreatDoor.replicaNobody
