/- Arguments of the law, read as typed values. -/
import Derived.Test.YtdkmcidgcflaaaaGreatDoorAvReplicaNobodyM1
set_option linter.unusedSimpArgs false
set_option linter.unusedVariables false
set_option linter.unusedSectionVars false
namespace Go.Av
section
open Go.ChangeShapes Go.WideShapes Go.ChangeAt Go.RowKit
def W_TPlan (x : TPlan) : Prop := (Lit.int .i64 x.Kind).wf = true ∧ x.Name.size ≤ reachBytes ∧ x.Other.size ≤ reachBytes ∧ (Lit.int .i64 x.A).wf = true ∧ (Lit.int .i64 x.B).wf = true
theorem dec_TPlan {v : V} (hh : hasTy (.st [.int .i64, .str, .str, .int .i64, .int .i64]) v) : ∃ x : TPlan, v = E_TPlan x ∧ W_TPlan x := by
  obtain ⟨vs, rfl, g0⟩ := dec_st hh
  obtain ⟨v0, r0, rfl, h0, g1⟩ := hasTys_c g0
  obtain ⟨x0, rfl, w0⟩ := dec_int h0
  obtain ⟨v1, r1, rfl, h1, g2⟩ := hasTys_c g1
  obtain ⟨x1, rfl, w1⟩ := dec_str h1
  obtain ⟨v2, r2, rfl, h2, g3⟩ := hasTys_c g2
  obtain ⟨x2, rfl, w2⟩ := dec_str h2
  obtain ⟨v3, r3, rfl, h3, g4⟩ := hasTys_c g3
  obtain ⟨x3, rfl, w3⟩ := dec_int h3
  obtain ⟨v4, r4, rfl, h4, g5⟩ := hasTys_c g4
  obtain ⟨x4, rfl, w4⟩ := dec_int h4
  obtain rfl := hasTys_n g5
  exact ⟨⟨x0, x1, x2, x3, x4⟩, rfl, w0, w1, w2, w3, w4⟩
def W_TRights (x : TRights) : Prop := (∀ a ∈ x.Given.toList, (Lit.int .i64 a).wf = true) ∧ (∀ a ∈ x.Used.toList, (Lit.int .i64 a).wf = true) ∧ (∀ a ∈ x.Moved.toList, (∀ aa ∈ a.toList, (Lit.int .i64 aa).wf = true))
theorem dec_TRights {v : V} (hh : hasTy (.st [.arr 16 1 (.int .i64), .arr 16 1 (.int .i64), .arr 16 16 (.arr 16 1 (.int .i64))]) v) : ∃ x : TRights, v = E_TRights x ∧ W_TRights x := by
  obtain ⟨vs, rfl, g0⟩ := dec_st hh
  obtain ⟨v0, r0, rfl, h0, g1⟩ := hasTys_c g0
  obtain ⟨x0, rfl, w0⟩ := (dec_arr (f := (V.int .i64)) dec_int) h0
  obtain ⟨v1, r1, rfl, h1, g2⟩ := hasTys_c g1
  obtain ⟨x1, rfl, w1⟩ := (dec_arr (f := (V.int .i64)) dec_int) h1
  obtain ⟨v2, r2, rfl, h2, g3⟩ := hasTys_c g2
  obtain ⟨x2, rfl, w2⟩ := (dec_arr (f := E_A16_i64) (dec_arr (f := (V.int .i64)) dec_int)) h2
  obtain rfl := hasTys_n g3
  exact ⟨⟨x0, x1, x2⟩, rfl, w0, w1, w2⟩
def W_TCounter (x : TCounter) : Prop := (Lit.int .i64 x.Init).wf = true ∧ (Lit.int .i64 x.Low).wf = true ∧ (Lit.int .i64 x.High).wf = true ∧ W_TRights x.Down ∧ W_TRights x.Up
theorem dec_TCounter {v : V} (hh : hasTy (.st [.int .i64, .int .i64, .int .i64, .st [.arr 16 1 (.int .i64), .arr 16 1 (.int .i64), .arr 16 16 (.arr 16 1 (.int .i64))], .st [.arr 16 1 (.int .i64), .arr 16 1 (.int .i64), .arr 16 16 (.arr 16 1 (.int .i64))]]) v) : ∃ x : TCounter, v = E_TCounter x ∧ W_TCounter x := by
  obtain ⟨vs, rfl, g0⟩ := dec_st hh
  obtain ⟨v0, r0, rfl, h0, g1⟩ := hasTys_c g0
  obtain ⟨x0, rfl, w0⟩ := dec_int h0
  obtain ⟨v1, r1, rfl, h1, g2⟩ := hasTys_c g1
  obtain ⟨x1, rfl, w1⟩ := dec_int h1
  obtain ⟨v2, r2, rfl, h2, g3⟩ := hasTys_c g2
  obtain ⟨x2, rfl, w2⟩ := dec_int h2
  obtain ⟨v3, r3, rfl, h3, g4⟩ := hasTys_c g3
  obtain ⟨x3, rfl, w3⟩ := dec_TRights h3
  obtain ⟨v4, r4, rfl, h4, g5⟩ := hasTys_c g4
  obtain ⟨x4, rfl, w4⟩ := dec_TRights h4
  obtain rfl := hasTys_n g5
  exact ⟨⟨x0, x1, x2, x3, x4⟩, rfl, w0, w1, w2, w3, w4⟩
def W_TLock (x : TLock) : Prop := (Lit.int .i64 x.Seq).wf = true ∧ (Lit.int .i64 x.Ver).wf = true ∧ (Lit.int .i64 x.Holder).wf = true ∧ (Lit.int .i64 x.Value).wf = true
theorem dec_TLock {v : V} (hh : hasTy (.st [.int .i64, .int .i64, .int .i64, .int .i64]) v) : ∃ x : TLock, v = E_TLock x ∧ W_TLock x := by
  obtain ⟨vs, rfl, g0⟩ := dec_st hh
  obtain ⟨v0, r0, rfl, h0, g1⟩ := hasTys_c g0
  obtain ⟨x0, rfl, w0⟩ := dec_int h0
  obtain ⟨v1, r1, rfl, h1, g2⟩ := hasTys_c g1
  obtain ⟨x1, rfl, w1⟩ := dec_int h1
  obtain ⟨v2, r2, rfl, h2, g3⟩ := hasTys_c g2
  obtain ⟨x2, rfl, w2⟩ := dec_int h2
  obtain ⟨v3, r3, rfl, h3, g4⟩ := hasTys_c g3
  obtain ⟨x3, rfl, w3⟩ := dec_int h3
  obtain rfl := hasTys_n g4
  exact ⟨⟨x0, x1, x2, x3⟩, rfl, w0, w1, w2, w3⟩
def W_THold (x : THold) : Prop := (Lit.int .i64 x.Replica).wf = true ∧ (Lit.int .i64 x.Number).wf = true ∧ (Lit.int .i64 x.Amount).wf = true ∧ (Lit.int .i64 x.Due).wf = true ∧ (Lit.int .i64 x.State).wf = true
theorem dec_THold {v : V} (hh : hasTy (.st [.int .i64, .int .i64, .int .i64, .int .i64, .int .i64]) v) : ∃ x : THold, v = E_THold x ∧ W_THold x := by
  obtain ⟨vs, rfl, g0⟩ := dec_st hh
  obtain ⟨v0, r0, rfl, h0, g1⟩ := hasTys_c g0
  obtain ⟨x0, rfl, w0⟩ := dec_int h0
  obtain ⟨v1, r1, rfl, h1, g2⟩ := hasTys_c g1
  obtain ⟨x1, rfl, w1⟩ := dec_int h1
  obtain ⟨v2, r2, rfl, h2, g3⟩ := hasTys_c g2
  obtain ⟨x2, rfl, w2⟩ := dec_int h2
  obtain ⟨v3, r3, rfl, h3, g4⟩ := hasTys_c g3
  obtain ⟨x3, rfl, w3⟩ := dec_int h3
  obtain ⟨v4, r4, rfl, h4, g5⟩ := hasTys_c g4
  obtain ⟨x4, rfl, w4⟩ := dec_int h4
  obtain rfl := hasTys_n g5
  exact ⟨⟨x0, x1, x2, x3, x4⟩, rfl, w0, w1, w2, w3, w4⟩
def W_TField (x : TField) : Prop := x.Name.size ≤ reachBytes ∧ (Lit.int .i64 x.Kind).wf = true ∧ (Lit.int .i64 x.Epoch).wf = true ∧ W_TCounter x.Counter ∧ W_TLock x.Lock ∧ (x.Holds.length ≤ maxLen ∧ x.Holds.length * 40 ≤ reachBytes ∧ ∀ a ∈ x.Holds, W_THold a)
theorem dec_TField {v : V} (hh : hasTy (.st [.str, .int .i64, .int .i64, .st [.int .i64, .int .i64, .int .i64, .st [.arr 16 1 (.int .i64), .arr 16 1 (.int .i64), .arr 16 16 (.arr 16 1 (.int .i64))], .st [.arr 16 1 (.int .i64), .arr 16 1 (.int .i64), .arr 16 16 (.arr 16 1 (.int .i64))]], .st [.int .i64, .int .i64, .int .i64, .int .i64], .sl 5 40 (.st [.int .i64, .int .i64, .int .i64, .int .i64, .int .i64])]) v) : ∃ x : TField, v = E_TField x ∧ W_TField x := by
  obtain ⟨vs, rfl, g0⟩ := dec_st hh
  obtain ⟨v0, r0, rfl, h0, g1⟩ := hasTys_c g0
  obtain ⟨x0, rfl, w0⟩ := dec_str h0
  obtain ⟨v1, r1, rfl, h1, g2⟩ := hasTys_c g1
  obtain ⟨x1, rfl, w1⟩ := dec_int h1
  obtain ⟨v2, r2, rfl, h2, g3⟩ := hasTys_c g2
  obtain ⟨x2, rfl, w2⟩ := dec_int h2
  obtain ⟨v3, r3, rfl, h3, g4⟩ := hasTys_c g3
  obtain ⟨x3, rfl, w3⟩ := dec_TCounter h3
  obtain ⟨v4, r4, rfl, h4, g5⟩ := hasTys_c g4
  obtain ⟨x4, rfl, w4⟩ := dec_TLock h4
  obtain ⟨v5, r5, rfl, h5, g6⟩ := hasTys_c g5
  obtain ⟨x5, rfl, w5⟩ := (dec_sl (f := E_THold) dec_THold) h5
  obtain rfl := hasTys_n g6
  exact ⟨⟨x0, x1, x2, x3, x4, x5⟩, rfl, w0, w1, w2, w3, w4, w5⟩
def W_TMessage (x : TMessage) : Prop := (Lit.int .i64 x.Kind).wf = true ∧ (Lit.int .i64 x.From).wf = true ∧ (Lit.int .i64 x.To).wf = true ∧ (Lit.int .i64 x.Version).wf = true ∧ (Lit.int .i64 x.Number).wf = true ∧ True ∧ (x.Fields.length ≤ maxLen ∧ x.Fields.length * 4720 ≤ reachBytes ∧ ∀ a ∈ x.Fields, W_TField a) ∧ W_TPlan x.Plan
theorem dec_TMessage {v : V} (hh : hasTy (.st [.int .i64, .int .i64, .int .i64, .int .i64, .int .i64, .bool, .sl 587 4720 (.st [.str, .int .i64, .int .i64, .st [.int .i64, .int .i64, .int .i64, .st [.arr 16 1 (.int .i64), .arr 16 1 (.int .i64), .arr 16 16 (.arr 16 1 (.int .i64))], .st [.arr 16 1 (.int .i64), .arr 16 1 (.int .i64), .arr 16 16 (.arr 16 1 (.int .i64))]], .st [.int .i64, .int .i64, .int .i64, .int .i64], .sl 5 40 (.st [.int .i64, .int .i64, .int .i64, .int .i64, .int .i64])]), .st [.int .i64, .str, .str, .int .i64, .int .i64]]) v) : ∃ x : TMessage, v = E_TMessage x ∧ W_TMessage x := by
  obtain ⟨vs, rfl, g0⟩ := dec_st hh
  obtain ⟨v0, r0, rfl, h0, g1⟩ := hasTys_c g0
  obtain ⟨x0, rfl, w0⟩ := dec_int h0
  obtain ⟨v1, r1, rfl, h1, g2⟩ := hasTys_c g1
  obtain ⟨x1, rfl, w1⟩ := dec_int h1
  obtain ⟨v2, r2, rfl, h2, g3⟩ := hasTys_c g2
  obtain ⟨x2, rfl, w2⟩ := dec_int h2
  obtain ⟨v3, r3, rfl, h3, g4⟩ := hasTys_c g3
  obtain ⟨x3, rfl, w3⟩ := dec_int h3
  obtain ⟨v4, r4, rfl, h4, g5⟩ := hasTys_c g4
  obtain ⟨x4, rfl, w4⟩ := dec_int h4
  obtain ⟨v5, r5, rfl, h5, g6⟩ := hasTys_c g5
  obtain ⟨x5, rfl, w5⟩ := dec_bool h5
  obtain ⟨v6, r6, rfl, h6, g7⟩ := hasTys_c g6
  obtain ⟨x6, rfl, w6⟩ := (dec_sl (f := E_TField) dec_TField) h6
  obtain ⟨v7, r7, rfl, h7, g8⟩ := hasTys_c g7
  obtain ⟨x7, rfl, w7⟩ := dec_TPlan h7
  obtain rfl := hasTys_n g8
  exact ⟨⟨x0, x1, x2, x3, x4, x5, x6, x7⟩, rfl, w0, w1, w2, w3, w4, w5, w6, w7⟩
def W_Yl18D (x : Yl18D) : Prop := (Lit.int .i64 x.Verb).wf = true ∧ (Lit.int .i64 x.To).wf = true ∧ (Lit.int .i64 x.A).wf = true ∧ (Lit.int .i64 x.B).wf = true ∧ x.Name.size ≤ reachBytes ∧ W_TPlan x.Plan ∧ W_TMessage x.M
theorem dec_Yl18D {v : V} (hh : hasTy (.st [.int .i64, .int .i64, .int .i64, .int .i64, .str, .st [.int .i64, .str, .str, .int .i64, .int .i64], .st [.int .i64, .int .i64, .int .i64, .int .i64, .int .i64, .bool, .sl 587 4720 (.st [.str, .int .i64, .int .i64, .st [.int .i64, .int .i64, .int .i64, .st [.arr 16 1 (.int .i64), .arr 16 1 (.int .i64), .arr 16 16 (.arr 16 1 (.int .i64))], .st [.arr 16 1 (.int .i64), .arr 16 1 (.int .i64), .arr 16 16 (.arr 16 1 (.int .i64))]], .st [.int .i64, .int .i64, .int .i64, .int .i64], .sl 5 40 (.st [.int .i64, .int .i64, .int .i64, .int .i64, .int .i64])]), .st [.int .i64, .str, .str, .int .i64, .int .i64]]]) v) : ∃ x : Yl18D, v = E_Yl18D x ∧ W_Yl18D x := by
  obtain ⟨vs, rfl, g0⟩ := dec_st hh
  obtain ⟨v0, r0, rfl, h0, g1⟩ := hasTys_c g0
  obtain ⟨x0, rfl, w0⟩ := dec_int h0
  obtain ⟨v1, r1, rfl, h1, g2⟩ := hasTys_c g1
  obtain ⟨x1, rfl, w1⟩ := dec_int h1
  obtain ⟨v2, r2, rfl, h2, g3⟩ := hasTys_c g2
  obtain ⟨x2, rfl, w2⟩ := dec_int h2
  obtain ⟨v3, r3, rfl, h3, g4⟩ := hasTys_c g3
  obtain ⟨x3, rfl, w3⟩ := dec_int h3
  obtain ⟨v4, r4, rfl, h4, g5⟩ := hasTys_c g4
  obtain ⟨x4, rfl, w4⟩ := dec_str h4
  obtain ⟨v5, r5, rfl, h5, g6⟩ := hasTys_c g5
  obtain ⟨x5, rfl, w5⟩ := dec_TPlan h5
  obtain ⟨v6, r6, rfl, h6, g7⟩ := hasTys_c g6
  obtain ⟨x6, rfl, w6⟩ := dec_TMessage h6
  obtain rfl := hasTys_n g7
  exact ⟨⟨x0, x1, x2, x3, x4, x5, x6⟩, rfl, w0, w1, w2, w3, w4, w5, w6⟩
end
end Go.Av
