/- A whole array, seen as a slice. -/
import Derived.Test.YtdbiobndihpccabAvCore31
namespace Go.Av
set_option linter.unusedVariables false
set_option linter.unusedSimpArgs false

section
variable {P : Program} {E : Operand → V} {H : List AObj} {dst : Option Tmp} {ty : TypeId} {pos : String} {aft : Array Edge} {gd : Option (Nat × Bool)}
theorem OpS.sliceArr {t : TypeId} {n e : Nat} {b : Bool} {x : Operand} {vs : List V} (hl : arrOf P t = some (n, e, b)) (hx : E x = .cptr (.arr e vs)) (hn : vs.length = n) :
    OpS P ⟨dst, .slice t x none none none, ty, pos, aft, gd⟩ E H (.sl e .exact vs) H :=
  .quiet fun g rc w h hr => by
    obtain ⟨et, hu, hs, _⟩ := arrOf_get hl
    obtain ⟨h1, h2⟩ := hx ▸ h x (by simp [Op.operands])
    simp only [RC] at h2
    obtain ⟨a, c, h3, h4, h5, h6⟩ := h2
    have hv : rc x = .pointer (some a) := by
      have ha : valAgg (rc x) = false := h1.symm
      cases hc : rc x <;> simp_all [Value.cells, valAgg]
    have ha0 : a.add 0 = a := by rw [add_addr' h3]; cases a; simp at h3; simp [h3]
    have hrun : (execOp rc ⟨dst, .slice t x none none none, ty, pos, aft, gd⟩).run P w = .ok (.value (.slice (some a) n n)) w := by
      simp [execOp, Instr.sliceAt, Instr.sliceBounds, run_underlying hu, hv, Instr.sureAddr, run_sizeOf' hs, ha0, go_sem]
    refine ⟨_, hrun, RV.of_leaf rfl ?_⟩
    simp only [RC]
    refine ⟨some a, n, by simp [hn], by omega, hn.symm, c, h5, by simp, fun ad e1 => ?_⟩
    cases e1
    exact ⟨fun _ => h3, h6⟩
end
section
variable {P : Program} {E : Operand → V} {H : List AObj} {dst : Option Tmp} {ty : TypeId} {pos : String} {aft : Array Edge} {gd : Option (Nat × Bool)}
theorem OpS.ixStr {t : TypeId} {x i : Operand} {s : ByteArray} {k : IntKind} {n c : Int} (hl : P.underlying t = some .string) (hx : E x = .str s) (hi : E i = .int k n) (hc : bix s n = some c) : OpS P ⟨dst, .index t x i, ty, pos, aft, gd⟩ E H (.int .u8 c) H :=
  .quiet fun g rc w h hr => by
    have ex := (hx ▸ h x (by simp [Op.operands])).str_eq
    have ei := (hi ▸ h i (by simp [Op.operands])).int_eq
    unfold bix at hc
    split at hc
    · rename_i hb
      cases hc
      refine ⟨_, ?_, RV.int g .u8 _⟩
      have h1 : n.toNat < s.size := by omega
      have h2 : s[n.toNat]? = some s[n.toNat] := getElem?_pos s n.toNat h1
      simp [execOp, Instr.index, asIntOf, ex, ei, run_underlying hl, hb.1, h2]
    · cases hc
end
theorem lt_cells {v : V} {m : Nat} (h : v.lt m = true) : (AObj.cells v).lt m = true := h
theorem subren {v v' : V} {f : Nat → Nat} (h : v'.ren f = v) : v.sub (v'.ren f) := by rw [h]; exact V.sub.refl _
end Go.Av
