/- For every input the law FieldLoose returns true, and its arguments read behind the call as they read before. -/
import Derived.Test.YtakadpmjdhcckabGreatRows
import Derived.Test.YtakadpmjdhcckabGreatAvFieldLooseG4
import Derived.Test.YtakadpmjdhcckabGreatAvFieldLooseD1
import Derived.Test.YtakadpmjdhcckabGreatAvFieldLooseL1
namespace Go.Proofs.YtakadpmjdhcckabGreat.fieldLoose
open Go.Av Go.ChangeShapes Go.WideShapes Go.ChangeAt Go.RowKit
set_option linter.unusedVariables false
theorem own : ownKnob Tryz.prog.godebug = none := by kernel_rfl
theorem laid : laidOutB Tryz.prog = true := by kernel_rfl
theorem fine : fineAll Tryz.prog Tryz.f9.params.toList = true := by kernel_rfl
theorem tys : tysOf Tryz.prog 12 Tryz.f9.params.toList = some [.int .i64, .int .i64, .int .i64, .sl 5 40 (.st [.int .i64, .int .i64, .int .i64, .int .i64, .int .i64]), .int .i64, .int .i64] := by kernel_rfl
theorem bool : Tryz.prog.underlying 4 = some .bool := by kernel_rfl
theorem law (vs : List V) (g0 : hasTys [.int .i64, .int .i64, .int .i64, .sl 5 40 (.st [.int .i64, .int .i64, .int .i64, .int .i64, .int .i64]), .int .i64, .int .i64] vs) : CallSpec Tryz.prog 9 vs [] fun o _ => o = .ret (.bool true) := by
  obtain ⟨v0, r0, rfl, h0, g1⟩ := hasTys_c g0
  obtain ⟨x0, rfl, w0⟩ := dec_int h0
  obtain ⟨v1, r1, rfl, h1, g2⟩ := hasTys_c g1
  obtain ⟨x1, rfl, w1⟩ := dec_int h1
  obtain ⟨v2, r2, rfl, h2, g3⟩ := hasTys_c g2
  obtain ⟨x2, rfl, w2⟩ := dec_int h2
  obtain ⟨v3, r3, rfl, h3, g4⟩ := hasTys_c g3
  obtain ⟨x3, rfl, w3⟩ := (dec_sl (f := E_Tusufructlaw07_Do) dec_Tusufructlaw07_Do) h3
  obtain ⟨v4, r4, rfl, h4, g5⟩ := hasTys_c g4
  obtain ⟨x4, rfl, w4⟩ := dec_int h4
  obtain ⟨v5, r5, rfl, h5, g6⟩ := hasTys_c g5
  obtain ⟨x5, rfl, w5⟩ := dec_int h5
  obtain rfl := hasTys_n g6
  have hC := C_usufructlaw07_FieldLoose (FieldLoose_true x0 x1 x2 x3 x4 x5)
  rw [Pg_eq] at hC
  exact (hC []).mono fun o H x => x.1
theorem said (H : Type) (ds : List (DataW H)) (h : ds.length = Tryz.f9.params.toList.length) : Rows.fieldLooseSpec.fn H ds = { results := [.lit (.bool true)], args := ds } := by
  rw [Tryz.params9] at h
  cases ds with
  | nil => simp at h
  | cons d0 ds =>
  cases ds with
  | nil => simp at h
  | cons d1 ds =>
  cases ds with
  | nil => simp at h
  | cons d2 ds =>
  cases ds with
  | nil => simp at h
  | cons d3 ds =>
  cases ds with
  | nil => simp at h
  | cons d4 ds =>
  cases ds with
  | nil => simp at h
  | cons d5 ds =>
  cases ds with
  | cons _ _ => simp at h
  | nil => rfl

set_option maxRecDepth 100000 in
theorem lifted (os : Os) (started : os.Started) (H : Type) (enc : TypeId × Value → H) :
    ReturnsInHanded {} Tryz.checked os 9 .any (Rows.fieldLooseSpec.pre6 enc Tryz.prog Tryz.f9 Rows.fieldLooseRow.domain false) (Rows.fieldLooseSpec.post enc Tryz.prog Tryz.f9 false true false false) :=
  law_lifted (C := Tryz.checked) own (by kernel_rfl) Tryz.func9 rfl laid fine tys rfl bool said law os started H enc
    (ChangeSpec.witness6 (enc := enc) (C := Tryz.checked) false ⟨#[], #[.int .i64 0, .int .i64 0, .int .i64 0, .slice none 0 0, .int .i64 0, .int .i64 0], []⟩ 12 (by kernel_rfl) (by kernel_rfl) (by kernel_rfl) (by kernel_rfl))
theorem over : Rows.fieldLooseRow.holds Tryz.pinned (OpenSpec.ofChange Rows.fieldLooseSpec) :=
  OpenClaim.holds_of_wide 9 Tryz.f9 rfl rfl rfl rfl rfl rfl rfl ⟨rfl, rfl, rfl, rfl, rfl⟩ rfl rfl rfl rfl rfl (by kernel_rfl) Tryz.func9 (by kernel_rfl)
    (of_decide_eq_true (by kernel_rfl)) (by unfold Func.isWrapper; first | (rw [if_pos (by decide +kernel)]; kernel_rfl) | (rw [if_neg (by decide +kernel)]; exact ⟨rfl, rfl⟩))
    (fun os started H enc _ => lifted os started H enc)
end Go.Proofs.YtakadpmjdhcckabGreat.fieldLoose
namespace Go.Proofs.YtakadpmjdhcckabGreat
theorem fieldLoose_holds : Rows.FieldLooseSaid := fieldLoose.over
#print axioms fieldLoose_holds
end Go.Proofs.YtakadpmjdhcckabGreat
