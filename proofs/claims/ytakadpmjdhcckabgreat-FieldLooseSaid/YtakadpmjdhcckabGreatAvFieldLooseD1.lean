/- Arguments of the law, read as typed values. -/
import Derived.Test.YtakadpmjdhcckabGreatAvFieldLooseM1
namespace Go.Av
set_option linter.unusedSectionVars false
set_option linter.unusedSimpArgs false
open Go.ChangeShapes Go.WideShapes Go.ChangeAt Go.RowKit
set_option linter.unusedVariables false
def W_Tusufructlaw07_Do (x : Tusufructlaw07_Do) : Prop := (Lit.int .i64 x.Verb).wf = true ∧ (Lit.int .i64 x.I).wf = true ∧ (Lit.int .i64 x.K).wf = true ∧ (Lit.int .i64 x.N).wf = true ∧ (Lit.int .i64 x.M).wf = true
theorem dec_Tusufructlaw07_Do {v : V} (hh : hasTy (.st [.int .i64, .int .i64, .int .i64, .int .i64, .int .i64]) v) : ∃ x : Tusufructlaw07_Do, v = E_Tusufructlaw07_Do x ∧ W_Tusufructlaw07_Do x := by
  obtain ⟨vs, rfl, g0⟩ := dec_st hh
  obtain ⟨v0, r0, rfl, h0, g1⟩ := hasTys_c g0
  obtain ⟨x0, rfl, w0⟩ := dec_int h0
  obtain ⟨v1, r1, rfl, h1, g2⟩ := hasTys_c g1
  obtain ⟨x1, rfl, w1⟩ := dec_int h1
  obtain ⟨v2, r2, rfl, h2, g3⟩ := hasTys_c g2
  obtain ⟨x2, rfl, w2⟩ := dec_int h2
  obtain ⟨v3, r3, rfl, h3, g4⟩ := hasTys_c g3
  obtain ⟨x3, rfl, w3⟩ := dec_int h3
  obtain ⟨v4, r4, rfl, h4, g5⟩ := hasTys_c g4
  obtain ⟨x4, rfl, w4⟩ := dec_int h4
  obtain rfl := hasTys_n g5
  exact ⟨⟨x0, x1, x2, x3, x4⟩, rfl, w0, w1, w2, w3, w4⟩
end Go.Av
