/- For every input the law WireMeets returns true, and its arguments read behind the call as they read before. -/
import Derived.Test.YtakadpmjdhcckaaRows
import Derived.Test.YtakadpmjdhcckaaAvWireMeetsG2
import Derived.Test.YtakadpmjdhcckaaAvWireMeetsL1
namespace Go.Proofs.Ytakadpmjdhcckaa.wireMeets
open Go.Av Go.ChangeShapes Go.WideShapes Go.ChangeAt Go.RowKit
set_option linter.unusedVariables false
theorem own : ownKnob Try.prog.godebug = none := by kernel_rfl
theorem laid : laidOutB Try.prog = true := by kernel_rfl
theorem fine : fineAll Try.prog Try.f6.params.toList = true := by kernel_rfl
theorem tys : tysOf Try.prog 12 Try.f6.params.toList = some [.int .i64, .int .i64] := by kernel_rfl
theorem bool : Try.prog.underlying 4 = some .bool := by kernel_rfl
theorem law (vs : List V) (g0 : hasTys [.int .i64, .int .i64] vs) : CallSpec Try.prog 6 vs [] fun o _ => o = .ret (.bool true) := by
  obtain ⟨v0, r0, rfl, h0, g1⟩ := hasTys_c g0
  obtain ⟨x0, rfl, w0⟩ := dec_int h0
  obtain ⟨v1, r1, rfl, h1, g2⟩ := hasTys_c g1
  obtain ⟨x1, rfl, w1⟩ := dec_int h1
  obtain rfl := hasTys_n g2
  have hC := C_usufructlaw10_WireMeets (WireMeets_true x0 x1)
  rw [Pg_eq] at hC
  exact (hC []).mono fun o H x => x.1
theorem said (H : Type) (ds : List (DataW H)) (h : ds.length = Try.f6.params.toList.length) : Rows.wireMeetsSpec.fn H ds = { results := [.lit (.bool true)], args := ds } := by
  rw [Try.params6] at h
  cases ds with
  | nil => simp at h
  | cons d0 ds =>
  cases ds with
  | nil => simp at h
  | cons d1 ds =>
  cases ds with
  | cons _ _ => simp at h
  | nil => rfl

set_option maxRecDepth 100000 in
theorem lifted (os : Os) (started : os.Started) (H : Type) (enc : TypeId × Value → H) :
    ReturnsInHanded {} Try.checked os 6 .any (Rows.wireMeetsSpec.pre6 enc Try.prog Try.f6 Rows.wireMeetsRow.domain false) (Rows.wireMeetsSpec.post enc Try.prog Try.f6 false true false false) :=
  law_lifted (C := Try.checked) own (by kernel_rfl) Try.func6 rfl laid fine tys rfl bool said law os started H enc
    (ChangeSpec.witness6 (enc := enc) (C := Try.checked) false ⟨#[], #[.int .i64 0, .int .i64 0], []⟩ 12 (by kernel_rfl) (by kernel_rfl) (by kernel_rfl) (by kernel_rfl))
theorem over : Rows.wireMeetsRow.holds Try.pinned (OpenSpec.ofChange Rows.wireMeetsSpec) :=
  OpenClaim.holds_of_wide 6 Try.f6 rfl rfl rfl rfl rfl rfl rfl ⟨rfl, rfl, rfl, rfl, rfl⟩ rfl rfl rfl rfl rfl (by kernel_rfl) Try.func6 (by kernel_rfl)
    (of_decide_eq_true (by kernel_rfl)) (by unfold Func.isWrapper; first | (rw [if_pos (by decide +kernel)]; kernel_rfl) | (rw [if_neg (by decide +kernel)]; exact ⟨rfl, rfl⟩))
    (fun os started H enc _ => lifted os started H enc)
end Go.Proofs.Ytakadpmjdhcckaa.wireMeets
namespace Go.Proofs.Ytakadpmjdhcckaa
theorem wireMeets_holds : Rows.WireMeetsSaid := wireMeets.over
#print axioms wireMeets_holds
end Go.Proofs.Ytakadpmjdhcckaa
