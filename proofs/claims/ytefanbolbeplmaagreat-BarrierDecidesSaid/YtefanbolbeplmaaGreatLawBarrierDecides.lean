/- For every input the law BarrierDecides returns true, and its arguments read behind the call as they read before. -/
import Derived.Test.YtefanbolbeplmaaGreatRows
import Derived.Test.YtefanbolbeplmaaGreatAvBarrierDecidesG3
import Derived.Test.YtefanbolbeplmaaGreatAvBarrierDecidesD1
import Derived.Test.YtefanbolbeplmaaGreatAvBarrierDecidesL1
namespace Go.Proofs.YtefanbolbeplmaaGreat.barrierDecides
open Go.Av Go.ChangeShapes Go.WideShapes Go.ChangeAt Go.RowKit
set_option linter.unusedVariables false
theorem own : ownKnob Tryz.prog.godebug = none := by kernel_rfl
theorem laid : laidOutB Tryz.prog = true := by kernel_rfl
theorem fine : fineAll Tryz.prog Tryz.f5.params.toList = true := by kernel_rfl
theorem tys : tysOf Tryz.prog 12 Tryz.f5.params.toList = some [.int .i64, .sl 9 104 (.st [.int .i64, .int .i64, .int .i64, .st [.int .i64, .str, .str, .int .i64, .int .i64], .sl 587 4720 (.st [.str, .int .i64, .int .i64, .st [.int .i64, .int .i64, .int .i64, .st [.arr 16 1 (.int .i64), .arr 16 1 (.int .i64), .arr 16 16 (.arr 16 1 (.int .i64))], .st [.arr 16 1 (.int .i64), .arr 16 1 (.int .i64), .arr 16 16 (.arr 16 1 (.int .i64))]], .st [.int .i64, .int .i64, .int .i64, .int .i64], .sl 5 40 (.st [.int .i64, .int .i64, .int .i64, .int .i64, .int .i64])])])] := by kernel_rfl
theorem bool : Tryz.prog.underlying 4 = some .bool := by kernel_rfl
theorem law (vs : List V) (g0 : hasTys [.int .i64, .sl 9 104 (.st [.int .i64, .int .i64, .int .i64, .st [.int .i64, .str, .str, .int .i64, .int .i64], .sl 587 4720 (.st [.str, .int .i64, .int .i64, .st [.int .i64, .int .i64, .int .i64, .st [.arr 16 1 (.int .i64), .arr 16 1 (.int .i64), .arr 16 16 (.arr 16 1 (.int .i64))], .st [.arr 16 1 (.int .i64), .arr 16 1 (.int .i64), .arr 16 16 (.arr 16 1 (.int .i64))]], .st [.int .i64, .int .i64, .int .i64, .int .i64], .sl 5 40 (.st [.int .i64, .int .i64, .int .i64, .int .i64, .int .i64])])])] vs) : CallSpec Tryz.prog 5 vs [] fun o _ => o = .ret (.bool true) := by
  obtain ⟨v0, r0, rfl, h0, g1⟩ := hasTys_c g0
  obtain ⟨x0, rfl, w0⟩ := dec_int h0
  obtain ⟨v1, r1, rfl, h1, g2⟩ := hasTys_c g1
  obtain ⟨x1, rfl, w1⟩ := (dec_sl (f := E_Yl16D) dec_Yl16D) h1
  obtain rfl := hasTys_n g2
  have hC := C_ul16_BarrierDecides (BarrierDecides_true x0 x1 (w1.2.1) (fun d hd => (w1.2.2 d hd).2.2.2.1.1))
  rw [Pg_eq] at hC
  exact (hC []).mono fun o H x => x.1
theorem said (H : Type) (ds : List (DataW H)) (h : ds.length = Tryz.f5.params.toList.length) : Rows.barrierDecidesSpec.fn H ds = { results := [.lit (.bool true)], args := ds } := by
  rw [Tryz.params5] at h
  cases ds with
  | nil => simp at h
  | cons d0 ds =>
  cases ds with
  | nil => simp at h
  | cons d1 ds =>
  cases ds with
  | cons _ _ => simp at h
  | nil => rfl

set_option maxRecDepth 100000 in
theorem lifted (os : Os) (started : os.Started) (H : Type) (enc : TypeId × Value → H) :
    ReturnsInHanded {} Tryz.checked os 5 .any (Rows.barrierDecidesSpec.pre6 enc Tryz.prog Tryz.f5 Rows.barrierDecidesRow.domain false) (Rows.barrierDecidesSpec.post enc Tryz.prog Tryz.f5 false true false false) :=
  law_lifted (C := Tryz.checked) own (by kernel_rfl) Tryz.func5 rfl laid fine tys rfl bool said law os started H enc
    (ChangeSpec.witness6 (enc := enc) (C := Tryz.checked) false ⟨#[], #[.int .i64 0, .slice none 0 0], []⟩ 12 (by kernel_rfl) (by kernel_rfl) (by kernel_rfl) (by kernel_rfl))
theorem over : Rows.barrierDecidesRow.holds Tryz.pinned (OpenSpec.ofChange Rows.barrierDecidesSpec) :=
  OpenClaim.holds_of_wide 5 Tryz.f5 rfl rfl rfl rfl rfl rfl rfl ⟨rfl, rfl, rfl, rfl, rfl⟩ rfl rfl rfl rfl rfl (by kernel_rfl) Tryz.func5 (by kernel_rfl)
    (of_decide_eq_true (by kernel_rfl)) (by unfold Func.isWrapper; first | (rw [if_pos (by decide +kernel)]; kernel_rfl) | (rw [if_neg (by decide +kernel)]; exact ⟨rfl, rfl⟩))
    (fun os started H enc _ => lifted os started H enc)
end Go.Proofs.YtefanbolbeplmaaGreat.barrierDecides
namespace Go.Proofs.YtefanbolbeplmaaGreat
theorem barrierDecides_holds : Rows.BarrierDecidesSaid := barrierDecides.over
#print axioms barrierDecides_holds
end Go.Proofs.YtefanbolbeplmaaGreat
