/- For every input the law LockLine returns true, and its arguments read behind the call as they read before. -/
import Derived.Test.YtemcahobfhomiaaRows
import Derived.Test.YtemcahobfhomiaaAvG2
namespace Go.Proofs.Ytemcahobfhomiaa.lockLine
open Go.Av Go.ChangeShapes Go.WideShapes Go.ChangeAt Go.RowKit
set_option linter.unusedVariables false
theorem own : ownKnob Try.prog.godebug = none := by kernel_rfl
theorem laid : laidOutB Try.prog = true := by kernel_rfl
theorem fine : fineAll Try.prog Try.f3.params.toList = true := by kernel_rfl
theorem tys : tysOf Try.prog 12 Try.f3.params.toList = some [.st [.int .i64, .int .i64, .int .i64, .int .i64], .st [.int .i64, .int .i64, .int .i64, .int .i64], .st [.int .i64, .int .i64, .int .i64, .int .i64]] := by kernel_rfl
theorem bool : Try.prog.underlying 4 = some .bool := by kernel_rfl
theorem law (vs : List V) (h : hasTys [.st [.int .i64, .int .i64, .int .i64, .int .i64], .st [.int .i64, .int .i64, .int .i64, .int .i64], .st [.int .i64, .int .i64, .int .i64, .int .i64]] vs) : CallSpec Try.prog 3 vs [] fun o _ => o = .ret (.bool true) := by
  obtain ⟨a, b, c, rfl⟩ := dec3L h
  exact (LockLine_ok a b c []).mono fun o H x => x.1
theorem said (H : Type) (ds : List (DataW H)) (h : ds.length = Try.f3.params.toList.length) : Rows.lockLineSpec.fn H ds = { results := [.lit (.bool true)], args := ds } := by
  rw [Try.params3] at h
  cases ds with
  | nil => simp at h
  | cons d0 ds =>
  cases ds with
  | nil => simp at h
  | cons d1 ds =>
  cases ds with
  | nil => simp at h
  | cons d2 ds =>
  cases ds with
  | cons _ _ => simp at h
  | nil => rfl

set_option maxRecDepth 100000 in
theorem lifted (os : Os) (started : os.Started) (H : Type) (enc : TypeId × Value → H) :
    ReturnsInHanded {} Try.checked os 3 .any (Rows.lockLineSpec.pre6 enc Try.prog Try.f3 Rows.lockLineRow.domain false) (Rows.lockLineSpec.post enc Try.prog Try.f3 false true false false) :=
  law_lifted (C := Try.checked) own (by kernel_rfl) Try.func3 rfl laid fine tys rfl bool said law os started H enc
    (ChangeSpec.witness6 (enc := enc) (C := Try.checked) false ⟨#[], #[.agg #[.int .i64 0, .int .i64 0, .int .i64 0, .int .i64 0], .agg #[.int .i64 0, .int .i64 0, .int .i64 0, .int .i64 0], .agg #[.int .i64 0, .int .i64 0, .int .i64 0, .int .i64 0]], []⟩ 12 (by kernel_rfl) (by kernel_rfl) (by kernel_rfl) (by kernel_rfl))
theorem over : Rows.lockLineRow.holds Try.pinned (OpenSpec.ofChange Rows.lockLineSpec) :=
  OpenClaim.holds_of_wide 3 Try.f3 rfl rfl rfl rfl rfl rfl rfl ⟨rfl, rfl, rfl, rfl, rfl⟩ rfl rfl rfl rfl rfl (by kernel_rfl) Try.func3 (by kernel_rfl)
    (of_decide_eq_true (by kernel_rfl)) (by unfold Func.isWrapper; first | (rw [if_pos (by decide +kernel)]; kernel_rfl) | (rw [if_neg (by decide +kernel)]; exact ⟨rfl, rfl⟩))
    (fun os started H enc _ => lifted os started H enc)
end Go.Proofs.Ytemcahobfhomiaa.lockLine
namespace Go.Proofs.Ytemcahobfhomiaa
theorem lockLine_holds : Rows.LockLineSaid := lockLine.over
#print axioms lockLine_holds
end Go.Proofs.Ytemcahobfhomiaa
