/- For every input the law BarrierTime returns true, and its arguments read behind the call as they read before. -/
import Derived.Test.YtefanbolbeplmaaGreatRows
import Derived.Test.YtefanbolbeplmaaGreatAvBarrierTimeG3
import Derived.Test.YtefanbolbeplmaaGreatAvBarrierTimeD1
import Derived.Test.YtefanbolbeplmaaGreatAvBarrierTimeL1
namespace Go.Proofs.YtefanbolbeplmaaGreat.barrierTime
open Go.Av Go.ChangeShapes Go.WideShapes Go.ChangeAt Go.RowKit
set_option linter.unusedVariables false
theorem own : ownKnob Tryz.prog.godebug = none := by kernel_rfl
theorem laid : laidOutB Tryz.prog = true := by kernel_rfl
theorem fine : fineAll Tryz.prog Tryz.f6.params.toList = true := by kernel_rfl
theorem tys : tysOf Tryz.prog 12 Tryz.f6.params.toList = some [.int .i64, .sl 9 104 (.st [.int .i64, .int .i64, .int .i64, .st [.int .i64, .str, .str, .int .i64, .int .i64], .sl 587 4720 (.st [.str, .int .i64, .int .i64, .st [.int .i64, .int .i64, .int .i64, .st [.arr 16 1 (.int .i64), .arr 16 1 (.int .i64), .arr 16 16 (.arr 16 1 (.int .i64))], .st [.arr 16 1 (.int .i64), .arr 16 1 (.int .i64), .arr 16 16 (.arr 16 1 (.int .i64))]], .st [.int .i64, .int .i64, .int .i64, .int .i64], .sl 5 40 (.st [.int .i64, .int .i64, .int .i64, .int .i64, .int .i64])])]), .int .i64] := by kernel_rfl
theorem bool : Tryz.prog.underlying 4 = some .bool := by kernel_rfl
theorem law (vs : List V) (g0 : hasTys [.int .i64, .sl 9 104 (.st [.int .i64, .int .i64, .int .i64, .st [.int .i64, .str, .str, .int .i64, .int .i64], .sl 587 4720 (.st [.str, .int .i64, .int .i64, .st [.int .i64, .int .i64, .int .i64, .st [.arr 16 1 (.int .i64), .arr 16 1 (.int .i64), .arr 16 16 (.arr 16 1 (.int .i64))], .st [.arr 16 1 (.int .i64), .arr 16 1 (.int .i64), .arr 16 16 (.arr 16 1 (.int .i64))]], .st [.int .i64, .int .i64, .int .i64, .int .i64], .sl 5 40 (.st [.int .i64, .int .i64, .int .i64, .int .i64, .int .i64])])]), .int .i64] vs) : bD Tryz.prog 6 vs [] fun o _ => o = .ret (.bool true) := by
  obtain ⟨v0, r0, rfl, h0, g1⟩ := bZ g0
  obtain ⟨x0, rfl, w0⟩ := dec_int h0
  obtain ⟨v1, r1, rfl, h1, g2⟩ := bZ g1
  obtain ⟨x1, rfl, w1⟩ := (dec_sl (f := E_Yl16D) dec_Yl16D) h1
  obtain ⟨v2, r2, rfl, h2, g3⟩ := bZ g2
  obtain ⟨x2, rfl, w2⟩ := dec_int h2
  obtain rfl := hasTys_n g3
  have hC := C_ul16_BarrierTime (BarrierTime_true x0 x1 x2 (w1.2.1) (fun d hd => (w1.2.2 d hd).2.2.2.1.1))
  rw [bE] at hC
  exact (hC []).mono fun o H x => x.1
theorem said (H : Type) (ds : List (DataW H)) (h : ds.length = Tryz.f6.params.toList.length) : Rows.barrierTimeSpec.fn H ds = { results := [.lit (.bool true)], args := ds } := by
  rw [Tryz.params6] at h
  cases ds with
  | nil => simp at h
  | cons d0 ds =>
  cases ds with
  | nil => simp at h
  | cons d1 ds =>
  cases ds with
  | nil => simp at h
  | cons d2 ds =>
  cases ds with
  | cons _ _ => simp at h
  | nil => rfl

set_option maxRecDepth 100000 in
theorem lifted (os : Os) (started : os.Started) (H : Type) (enc : TypeId × Value → H) :
    ReturnsInHanded {} Tryz.checked os 6 .any (Rows.barrierTimeSpec.pre6 enc Tryz.prog Tryz.f6 Rows.barrierTimeRow.domain false) (Rows.barrierTimeSpec.post enc Tryz.prog Tryz.f6 false true false false) :=
  law_lifted (C := Tryz.checked) own (by kernel_rfl) Tryz.func6 rfl laid fine tys rfl bool said law os started H enc
    (ChangeSpec.witness6 (enc := enc) (C := Tryz.checked) false ⟨#[], #[.int .i64 0, .slice none 0 0, .int .i64 0], []⟩ 12 (by kernel_rfl) (by kernel_rfl) (by kernel_rfl) (by kernel_rfl))
theorem over : Rows.barrierTimeRow.holds Tryz.pinned (OpenSpec.ofChange Rows.barrierTimeSpec) :=
  OpenClaim.holds_of_wide 6 Tryz.f6 rfl rfl rfl rfl rfl rfl rfl ⟨rfl, rfl, rfl, rfl, rfl⟩ rfl rfl rfl rfl rfl (by kernel_rfl) Tryz.func6 (by kernel_rfl)
    (of_decide_eq_true (by kernel_rfl)) (by unfold Func.isWrapper; first | (rw [if_pos (by decide +kernel)]; kernel_rfl) | (rw [if_neg (by decide +kernel)]; exact ⟨rfl, rfl⟩))
    (fun os started H enc _ => lifted os started H enc)
end Go.Proofs.YtefanbolbeplmaaGreat.barrierTime
namespace Go.Proofs.YtefanbolbeplmaaGreat
theorem barrierTime_holds : Rows.BarrierTimeSaid := barrierTime.over
#print axioms barrierTime_holds
end Go.Proofs.YtefanbolbeplmaaGreat
