/- For every input the law PlanBounds returns true, and its arguments read behind the call as they read before. -/
import Derived.Test.YtakadpmjdhcckaaRows
import Derived.Test.YtakadpmjdhcckaaAvPlanBoundsG3
import Derived.Test.YtakadpmjdhcckaaAvPlanBoundsD1
import Derived.Test.YtakadpmjdhcckaaAvPlanBoundsL1
namespace Go.Proofs.Ytakadpmjdhcckaa.planBounds
open Go.Av Go.ChangeShapes Go.WideShapes Go.ChangeAt Go.RowKit
set_option linter.unusedVariables false
theorem own : ownKnob Try.prog.godebug = none := by kernel_rfl
theorem laid : laidOutB Try.prog = true := by kernel_rfl
theorem fine : fineAll Try.prog Try.f7.params.toList = true := by kernel_rfl
theorem tys : tysOf Try.prog 12 Try.f7.params.toList = some [.sl 587 4720 (.st [.str, .int .i64, .int .i64, .st [.int .i64, .int .i64, .int .i64, .st [.arr 16 1 (.int .i64), .arr 16 1 (.int .i64), .arr 16 16 (.arr 16 1 (.int .i64))], .st [.arr 16 1 (.int .i64), .arr 16 1 (.int .i64), .arr 16 16 (.arr 16 1 (.int .i64))]], .st [.int .i64, .int .i64, .int .i64, .int .i64], .sl 5 40 (.st [.int .i64, .int .i64, .int .i64, .int .i64, .int .i64])]), .st [.int .i64, .str, .str, .int .i64, .int .i64], .int .i64, .int .i64] := by kernel_rfl
theorem bool : Try.prog.underlying 4 = some .bool := by kernel_rfl
theorem law (vs : List V) (g0 : hasTys [.sl 587 4720 (.st [.str, .int .i64, .int .i64, .st [.int .i64, .int .i64, .int .i64, .st [.arr 16 1 (.int .i64), .arr 16 1 (.int .i64), .arr 16 16 (.arr 16 1 (.int .i64))], .st [.arr 16 1 (.int .i64), .arr 16 1 (.int .i64), .arr 16 16 (.arr 16 1 (.int .i64))]], .st [.int .i64, .int .i64, .int .i64, .int .i64], .sl 5 40 (.st [.int .i64, .int .i64, .int .i64, .int .i64, .int .i64])]), .st [.int .i64, .str, .str, .int .i64, .int .i64], .int .i64, .int .i64] vs) : CallSpec Try.prog 7 vs [] fun o _ => o = .ret (.bool true) := by
  obtain ⟨v0, r0, rfl, h0, g1⟩ := hasTys_c g0
  obtain ⟨x0, rfl, w0⟩ := (dec_sl (f := E_TField) dec_TField) h0
  obtain ⟨v1, r1, rfl, h1, g2⟩ := hasTys_c g1
  obtain ⟨x1, rfl, w1⟩ := dec_TPlan h1
  obtain ⟨v2, r2, rfl, h2, g3⟩ := hasTys_c g2
  obtain ⟨x2, rfl, w2⟩ := dec_int h2
  obtain ⟨v3, r3, rfl, h3, g4⟩ := hasTys_c g3
  obtain ⟨x3, rfl, w3⟩ := dec_int h3
  obtain rfl := hasTys_n g4
  have hC := C_usufructlaw13_PlanBounds (PlanBounds_true x0 x1 x2 x3 (w1.1))
  rw [Pg_eq] at hC
  exact (hC []).mono fun o H x => x.1
theorem said (H : Type) (ds : List (DataW H)) (h : ds.length = Try.f7.params.toList.length) : Rows.planBoundsSpec.fn H ds = { results := [.lit (.bool true)], args := ds } := by
  rw [Try.params7] at h
  cases ds with
  | nil => simp at h
  | cons d0 ds =>
  cases ds with
  | nil => simp at h
  | cons d1 ds =>
  cases ds with
  | nil => simp at h
  | cons d2 ds =>
  cases ds with
  | nil => simp at h
  | cons d3 ds =>
  cases ds with
  | cons _ _ => simp at h
  | nil => rfl

set_option maxRecDepth 100000 in
theorem lifted (os : Os) (started : os.Started) (H : Type) (enc : TypeId × Value → H) :
    ReturnsInHanded {} Try.checked os 7 .any (Rows.planBoundsSpec.pre6 enc Try.prog Try.f7 Rows.planBoundsRow.domain false) (Rows.planBoundsSpec.post enc Try.prog Try.f7 false true false false) :=
  law_lifted (C := Try.checked) own (by kernel_rfl) Try.func7 rfl laid fine tys rfl bool said law os started H enc
    (ChangeSpec.witness6 (enc := enc) (C := Try.checked) false ⟨#[], #[.slice none 0 0, .agg #[.int .i64 0, .string ByteArray.empty, .string ByteArray.empty, .int .i64 0, .int .i64 0], .int .i64 0, .int .i64 0], []⟩ 12 (by kernel_rfl) (by kernel_rfl) (by kernel_rfl) (by kernel_rfl))
theorem over : Rows.planBoundsRow.holds Try.pinned (OpenSpec.ofChange Rows.planBoundsSpec) :=
  OpenClaim.holds_of_wide 7 Try.f7 rfl rfl rfl rfl rfl rfl rfl ⟨rfl, rfl, rfl, rfl, rfl⟩ rfl rfl rfl rfl rfl (by kernel_rfl) Try.func7 (by kernel_rfl)
    (of_decide_eq_true (by kernel_rfl)) (by unfold Func.isWrapper; first | (rw [if_pos (by decide +kernel)]; kernel_rfl) | (rw [if_neg (by decide +kernel)]; exact ⟨rfl, rfl⟩))
    (fun os started H enc _ => lifted os started H enc)
end Go.Proofs.Ytakadpmjdhcckaa.planBounds
namespace Go.Proofs.Ytakadpmjdhcckaa
theorem planBounds_holds : Rows.PlanBoundsSaid := planBounds.over
#print axioms planBounds_holds
end Go.Proofs.Ytakadpmjdhcckaa
