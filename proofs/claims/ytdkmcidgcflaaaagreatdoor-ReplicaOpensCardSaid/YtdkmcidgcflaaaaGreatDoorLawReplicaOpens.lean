/- For every input the law ReplicaOpens returns true, and its arguments read behind the call as they read before. -/
import Derived.Test.YtdkmcidgcflaaaaGreatDoorRows
import Derived.Test.YtdkmcidgcflaaaaGreatDoorTie
import Derived.Test.YtdkmcidgcflaaaaGreatDoorCards
import Derived.SevenTiedAt
import Derived.LaidMore
import Derived.LaidLaws
import Derived.Stop.Joined
import Derived.Test.YtdkmcidgcflaaaaGreatDoorAvReplicaOpensG2
import Derived.Test.YtdkmcidgcflaaaaGreatDoorAvReplicaOpensD1
import Derived.Test.YtdkmcidgcflaaaaGreatDoorAvReplicaOpensL1
namespace Go.Proofs.YtdkmcidgcflaaaaGreatDoor.replicaOpens
open Go.Av Go.ChangeShapes Go.WideShapes Go.ChangeAt Go.RowKit
set_option linter.unusedVariables false
theorem own : ownKnob Tryz.prog.godebug = none := by kernel_rfl
theorem laid : laidOutB Tryz.prog = true := by kernel_rfl
theorem fine : fineAll Tryz.prog Tryz.f3.params.toList = true := by kernel_rfl
theorem tys : tysOf Tryz.prog 12 Tryz.f3.params.toList = some [.int .i64, .int .i64, .int .i64, .sl 587 4720 (.st [.str, .int .i64, .int .i64, .st [.int .i64, .int .i64, .int .i64, .st [.arr 16 1 (.int .i64), .arr 16 1 (.int .i64), .arr 16 16 (.arr 16 1 (.int .i64))], .st [.arr 16 1 (.int .i64), .arr 16 1 (.int .i64), .arr 16 16 (.arr 16 1 (.int .i64))]], .st [.int .i64, .int .i64, .int .i64, .int .i64], .sl 5 40 (.st [.int .i64, .int .i64, .int .i64, .int .i64, .int .i64])]), .str] := by kernel_rfl
theorem bool : Tryz.prog.underlying 4 = some .bool := by kernel_rfl
theorem law (vs : List V) (g0 : hasTys [.int .i64, .int .i64, .int .i64, .sl 587 4720 (.st [.str, .int .i64, .int .i64, .st [.int .i64, .int .i64, .int .i64, .st [.arr 16 1 (.int .i64), .arr 16 1 (.int .i64), .arr 16 16 (.arr 16 1 (.int .i64))], .st [.arr 16 1 (.int .i64), .arr 16 1 (.int .i64), .arr 16 16 (.arr 16 1 (.int .i64))]], .st [.int .i64, .int .i64, .int .i64, .int .i64], .sl 5 40 (.st [.int .i64, .int .i64, .int .i64, .int .i64, .int .i64])]), .str] vs) : CallSpec Tryz.prog 3 vs [] fun o _ => o = .ret (.bool true) := by
  obtain ⟨v0, r0, rfl, h0, g1⟩ := hasTys_c g0
  obtain ⟨x0, rfl, w0⟩ := dec_int h0
  obtain ⟨v1, r1, rfl, h1, g2⟩ := hasTys_c g1
  obtain ⟨x1, rfl, w1⟩ := dec_int h1
  obtain ⟨v2, r2, rfl, h2, g3⟩ := hasTys_c g2
  obtain ⟨x2, rfl, w2⟩ := dec_int h2
  obtain ⟨v3, r3, rfl, h3, g4⟩ := hasTys_c g3
  obtain ⟨x3, rfl, w3⟩ := (dec_sl (f := E_TField) dec_TField) h3
  obtain ⟨v4, r4, rfl, h4, g5⟩ := hasTys_c g4
  obtain ⟨x4, rfl, w4⟩ := dec_str h4
  obtain rfl := hasTys_n g5
  have hC := C_ul18_ReplicaOpens.p _ (ReplicaOpens_true x0 x1 x2 x3 x4)
  rw [Pg_eq] at hC
  exact (hC []).mono fun o H x => x.1
theorem said (H : Type) (ds : List (DataW H)) (h : ds.length = Tryz.f3.params.toList.length) : Rows.replicaOpensSpec.fn H ds = { results := [.lit (.bool true)], args := ds } := by
  rw [Tryz.params3] at h
  cases ds with
  | nil => simp at h
  | cons d0 ds =>
  cases ds with
  | nil => simp at h
  | cons d1 ds =>
  cases ds with
  | nil => simp at h
  | cons d2 ds =>
  cases ds with
  | nil => simp at h
  | cons d3 ds =>
  cases ds with
  | nil => simp at h
  | cons d4 ds =>
  cases ds with
  | cons _ _ => simp at h
  | nil => rfl

theorem gG : Tryz.prog.globalNamed "usufruct/frame.nibbles" = some glB := by kernel_rfl
theorem tG : (Tryz.prog.globals[glB]?).map (·.type) = some 272 := by kernel_rfl
theorem uG : Tryz.prog.underlying 272 = some (.array glL.length 212) := by kernel_rfl
theorem uE : Tryz.prog.underlying 212 = some (.int .u32) := by kernel_rfl
theorem cE : Tryz.prog.cellsOf 212 = 1 := by kernel_rfl
theorem door_met (os : Os) (args : Array Value) : laidMetH Tryz.prog [("usufruct/frame.nibbles", Rows.laid_usufruct_frame_nibbles)] ((World.doorLaid Tryz.prog 400 os).forCall (fun _ _ => 0) ⟨#[], args, []⟩).memory :=
  laidMetH_of_parts3 (fuel := 8) (laidMet_of_run' 8 (by kernel_rfl) (by kernel_rfl)) (by kernel_rfl) (by kernel_rfl)
set_option maxRecDepth 100000 in
theorem lifted (os : Os) (started : os.Started) (H : Type) (enc : TypeId × Value → H) :
    ReturnsInHanded {} Tryz.checked os 3 .any (fun w args => (Rows.replicaOpensSpec.pre enc Tryz.prog Tryz.f3 [] false w args ∧ laidMetH Tryz.prog [("usufruct/frame.nibbles", Rows.laid_usufruct_frame_nibbles)] w) ∧ sizedMet enc Tryz.prog Tryz.f3 (OpenSpec.ofChange Rows.replicaOpensSpec) false w args) (Rows.replicaOpensSpec.post enc Tryz.prog Tryz.f3 false true false false) :=
  law_lifted_gl (C := Tryz.checked) (laid := [("usufruct/frame.nibbles", Rows.laid_usufruct_frame_nibbles)]) own (by kernel_rfl) Tryz.func3 rfl laid fine tys rfl bool said law (fun W h => of_laid (nm := "usufruct/frame.nibbles") gG tG uG uE cE h) os started H enc
    (ChangeSpec.witness_shaped (enc := enc) (C := Tryz.checked) (os := os) (X := fun w _ => laidMetH Tryz.prog [("usufruct/frame.nibbles", Rows.laid_usufruct_frame_nibbles)] w) false (World.doorLaid Tryz.prog 400 os) #[.int .i64 0, .int .i64 0, .int .i64 0, .slice none 0 0, .string ByteArray.empty] 12 rfl (World.shaped_of_RefB (by kernel_rfl) (by kernel_rfl)) (by kernel_rfl) (by kernel_rfl) (by kernel_rfl) (door_met os _))
theorem over : Rows.replicaOpensRow.holds Tryz.pinned (OpenSpec.ofChange Rows.replicaOpensSpec) :=
  OpenClaim.holds_of_wide 3 Tryz.f3 rfl rfl rfl rfl rfl rfl rfl ⟨rfl, rfl, rfl, rfl, rfl⟩ rfl rfl rfl rfl rfl (by kernel_rfl) Tryz.func3 (by kernel_rfl)
    (of_decide_eq_true (by kernel_rfl)) (by unfold Func.isWrapper; first | (rw [if_pos (by decide +kernel)]; kernel_rfl) | (rw [if_neg (by decide +kernel)]; exact ⟨rfl, rfl⟩))
    (fun os started H enc _ => lifted os started H enc)
end Go.Proofs.YtdkmcidgcflaaaaGreatDoor.replicaOpens
namespace Go.Proofs.YtdkmcidgcflaaaaGreatDoor
theorem replicaOpens_holds : Rows.ReplicaOpensCardSaid :=
  Claim7.holds_tied_plain_at .later [] [.data] true (true, "69761f0a873ddc9f6e55e7d61a060cf6c695e672377ef92d92f0a6ffa3400f58") true replicaOpens.over (fun _ h => by cases h) (by kernel_rfl) (fun _ h => by cases h) replicaOpens_row_tie rfl ⟨rfl, rfl⟩ (by kernel_rfl) rfl
    (fun f fn hf hfn => by
      obtain rfl : f = 3 := Option.some.inj ((show Tryz.prog.funcNamed Rows.replicaOpensRow.func = some 3 by kernel_rfl).symm.trans hf) |>.symm
      obtain rfl : fn = Tryz.f3 := (Option.some.inj (Tryz.func3.symm.trans hfn)).symm
      exact ⟨by kernel_rfl, fun j t ht => by
        rw [Tryz.params3] at ht
        have hm : t ∈ [3, 3, 3, 22, 9] := by simpa using Array.mem_of_getElem? ht
        have hall : ([3, 3, 3, 22, 9].all fun u => !Tryz.prog.wantsStandIn u) = true := by kernel_rfl
        exact (show Tryz.prog.wantsStandIn t = false by simpa using List.all_eq_true.1 hall t hm)⟩)
    (by kernel_rfl)
#print axioms replicaOpens_holds
end Go.Proofs.YtdkmcidgcflaaaaGreatDoor
