/- For every input the law LockPasses returns true, and its arguments read behind the call as they read before. -/
import Derived.Test.YtemcahobfhomiaaRows
import Derived.Test.YtemcahobfhomiaaAvG2
namespace Go.Proofs.Ytemcahobfhomiaa.lockPasses
open Go.Av Go.ChangeShapes Go.WideShapes Go.ChangeAt Go.RowKit
set_option linter.unusedVariables false
theorem own : ownKnob Try.prog.godebug = none := by kernel_rfl
theorem laid : laidOutB Try.prog = true := by kernel_rfl
theorem fine : fineAll Try.prog Try.f7.params.toList = true := by kernel_rfl
theorem tys : tysOf Try.prog 12 Try.f7.params.toList = some [.int .i64, .int .i64, .sl 1 8 (.int .i64)] := by kernel_rfl
theorem bool : Try.prog.underlying 4 = some .bool := by kernel_rfl
theorem law (vs : List V) (h : hasTys [.int .i64, .int .i64, .sl 1 8 (.int .i64)] vs) : CallSpec Try.prog 7 vs [] fun o _ => o = .ret (.bool true) := by
  obtain ⟨a, v, xs, rfl⟩ := decIIL h
  exact (LockPasses_ok a v xs []).mono fun o H x => x.1
theorem said (H : Type) (ds : List (DataW H)) (h : ds.length = Try.f7.params.toList.length) : Rows.lockPassesSpec.fn H ds = { results := [.lit (.bool true)], args := ds } := by
  rw [Try.params7] at h
  cases ds with
  | nil => simp at h
  | cons d0 ds =>
  cases ds with
  | nil => simp at h
  | cons d1 ds =>
  cases ds with
  | nil => simp at h
  | cons d2 ds =>
  cases ds with
  | cons _ _ => simp at h
  | nil => rfl

set_option maxRecDepth 100000 in
theorem lifted (os : Os) (started : os.Started) (H : Type) (enc : TypeId × Value → H) :
    ReturnsInHanded {} Try.checked os 7 .any (Rows.lockPassesSpec.pre6 enc Try.prog Try.f7 Rows.lockPassesRow.domain false) (Rows.lockPassesSpec.post enc Try.prog Try.f7 false true false false) :=
  law_lifted (C := Try.checked) own (by kernel_rfl) Try.func7 rfl laid fine tys rfl bool said law os started H enc
    (ChangeSpec.witness6 (enc := enc) (C := Try.checked) false ⟨#[], #[.int .i64 0, .int .i64 0, .slice none 0 0], []⟩ 12 (by kernel_rfl) (by kernel_rfl) (by kernel_rfl) (by kernel_rfl))
theorem over : Rows.lockPassesRow.holds Try.pinned (OpenSpec.ofChange Rows.lockPassesSpec) :=
  OpenClaim.holds_of_wide 7 Try.f7 rfl rfl rfl rfl rfl rfl rfl ⟨rfl, rfl, rfl, rfl, rfl⟩ rfl rfl rfl rfl rfl (by kernel_rfl) Try.func7 (by kernel_rfl)
    (of_decide_eq_true (by kernel_rfl)) (by unfold Func.isWrapper; first | (rw [if_pos (by decide +kernel)]; kernel_rfl) | (rw [if_neg (by decide +kernel)]; exact ⟨rfl, rfl⟩))
    (fun os started H enc _ => lifted os started H enc)
end Go.Proofs.Ytemcahobfhomiaa.lockPasses
namespace Go.Proofs.Ytemcahobfhomiaa
theorem lockPasses_holds : Rows.LockPassesSaid := lockPasses.over
#print axioms lockPasses_holds
end Go.Proofs.Ytemcahobfhomiaa
