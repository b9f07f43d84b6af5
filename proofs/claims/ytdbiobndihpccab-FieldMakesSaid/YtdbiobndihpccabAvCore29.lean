/- Arguments of a call, read as typed values. -/
import Derived.Test.YtdbiobndihpccabAvCore28
namespace Go.Av
set_option linter.unusedSimpArgs false
set_option linter.unusedVariables false

theorem hasTys_c {t : Ty} {ts : List Ty} {vs : List V} (h : hasTys (t :: ts) vs) : ∃ v r, vs = v :: r ∧ hasTy t v ∧ hasTys ts r := by simpa only [hasTys] using h
theorem hasTys_n {vs : List V} (h : hasTys [] vs) : vs = [] := by simpa only [hasTys] using h
theorem dec_int {k : IntKind} {v : V} (h : hasTy (.int k) v) : ∃ n : Int, v = .int k n ∧ (Lit.int k n).wf = true := by simpa only [hasTy] using h
theorem dec_bool {v : V} (h : hasTy .bool v) : ∃ b : Bool, v = .bool b ∧ True := by simp only [hasTy] at h; obtain ⟨b, h⟩ := h; exact ⟨b, h, trivial⟩
theorem dec_str {v : V} (h : hasTy .str v) : ∃ s : ByteArray, v = .str s ∧ s.size ≤ reachBytes := by simpa only [hasTy] using h
theorem dec_st {ts : List Ty} {v : V} (h : hasTy (.st ts) v) : ∃ vs, v = .st vs ∧ hasTys ts vs := by simpa only [hasTy] using h
theorem dec_sl {α : Type} {f : α → V} {W : α → Prop} {e b : Nat} {t : Ty} (d : ∀ {v : V}, hasTy t v → ∃ x, v = f x ∧ W x) {v : V} (h : hasTy (.sl e b t) v) : ∃ l : List α, v = .sl e .no (l.map f) ∧ (l.length ≤ maxLen ∧ l.length * b ≤ reachBytes ∧ ∀ a ∈ l, W a) := by
  simp only [hasTy] at h
  obtain ⟨xs, rfl, h1, h2, h3⟩ := h
  obtain ⟨l, rfl, hl⟩ := decList (f := f) (Q := W) fun x hx => d (h3 x hx)
  exact ⟨l, rfl, by simpa using h1, by simpa using h2, hl⟩
theorem dec_arr {α : Type} {f : α → V} {W : α → Prop} {n e : Nat} {t : Ty} (d : ∀ {v : V}, hasTy t v → ∃ x, v = f x ∧ W x) {v : V} (h : hasTy (.arr n e t) v) : ∃ l : Vector α n, v = .arr e (l.toList.map f) ∧ ∀ a ∈ l.toList, W a := by
  simp only [hasTy] at h
  obtain ⟨xs, rfl, h1, h3⟩ := h
  obtain ⟨l, rfl, hl⟩ := decList (f := f) (Q := W) fun x hx => d (h3 x hx)
  have hn : l.length = n := by simpa using h1
  subst hn
  exact ⟨⟨l.toArray, by simp⟩, by simp [Vector.toList], by simpa [Vector.toList] using hl⟩
end Go.Av
