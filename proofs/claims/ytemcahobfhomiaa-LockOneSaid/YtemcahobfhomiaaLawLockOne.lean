/- For every input the law LockOne returns true, and its arguments read behind the call as they read before. -/
import Derived.Test.YtemcahobfhomiaaRows
import Derived.Test.YtemcahobfhomiaaAvG4
namespace Go.Proofs.Ytemcahobfhomiaa.lockOne
open Go.Av Go.ChangeShapes Go.WideShapes Go.ChangeAt Go.RowKit
set_option linter.unusedVariables false
theorem own : ownKnob Try.prog.godebug = none := by kernel_rfl
theorem laid : laidOutB Try.prog = true := by kernel_rfl
theorem fine : fineAll Try.prog Try.f5.params.toList = true := by kernel_rfl
theorem tys : tysOf Try.prog 12 Try.f5.params.toList = some [.int .i64, .int .i64, .sl 4 32 (.st [.int .i64, .int .i64, .int .i64, .int .i64])] := by kernel_rfl
theorem bool : Try.prog.underlying 4 = some .bool := by kernel_rfl
theorem law (vs : List V) (h : hasTys [.int .i64, .int .i64, .sl 4 32 (.st [.int .i64, .int .i64, .int .i64, .int .i64])] vs) : CallSpec Try.prog 5 vs [] fun o _ => o = .ret (.bool true) := by
  obtain ⟨a, v, l, rfl⟩ := decIIDs h
  exact (LockOne_ok a v l []).mono fun o H x => x.1
theorem said (H : Type) (ds : List (DataW H)) (h : ds.length = Try.f5.params.toList.length) : Rows.lockOneSpec.fn H ds = { results := [.lit (.bool true)], args := ds } := by
  rw [Try.params5] at h
  cases ds with
  | nil => simp at h
  | cons d0 ds =>
  cases ds with
  | nil => simp at h
  | cons d1 ds =>
  cases ds with
  | nil => simp at h
  | cons d2 ds =>
  cases ds with
  | cons _ _ => simp at h
  | nil => rfl

set_option maxRecDepth 100000 in
theorem lifted (os : Os) (started : os.Started) (H : Type) (enc : TypeId × Value → H) :
    ReturnsInHanded {} Try.checked os 5 .any (Rows.lockOneSpec.pre6 enc Try.prog Try.f5 Rows.lockOneRow.domain false) (Rows.lockOneSpec.post enc Try.prog Try.f5 false true false false) :=
  law_lifted (C := Try.checked) own (by kernel_rfl) Try.func5 rfl laid fine tys rfl bool said law os started H enc
    (ChangeSpec.witness6 (enc := enc) (C := Try.checked) false ⟨#[], #[.int .i64 0, .int .i64 0, .slice none 0 0], []⟩ 12 (by kernel_rfl) (by kernel_rfl) (by kernel_rfl) (by kernel_rfl))
theorem over : Rows.lockOneRow.holds Try.pinned (OpenSpec.ofChange Rows.lockOneSpec) :=
  OpenClaim.holds_of_wide 5 Try.f5 rfl rfl rfl rfl rfl rfl rfl ⟨rfl, rfl, rfl, rfl, rfl⟩ rfl rfl rfl rfl rfl (by kernel_rfl) Try.func5 (by kernel_rfl)
    (of_decide_eq_true (by kernel_rfl)) (by unfold Func.isWrapper; first | (rw [if_pos (by decide +kernel)]; kernel_rfl) | (rw [if_neg (by decide +kernel)]; exact ⟨rfl, rfl⟩))
    (fun os started H enc _ => lifted os started H enc)
end Go.Proofs.Ytemcahobfhomiaa.lockOne
namespace Go.Proofs.Ytemcahobfhomiaa
theorem lockOne_holds : Rows.LockOneSaid := lockOne.over
#print axioms lockOne_holds
end Go.Proofs.Ytemcahobfhomiaa
