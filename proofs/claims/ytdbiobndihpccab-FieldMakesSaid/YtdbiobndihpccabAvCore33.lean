/- Strings, compared. -/
import Derived.Test.YtdbiobndihpccabAvCore32
import Derived.Laws.Strings
namespace Go.Av
set_option linter.unusedVariables false
set_option linter.unusedSimpArgs false

/-- One string ahead of another one. -/
def bLs (a b : ByteArray) : Bool := Op.bytesLess a.toList b.toList
theorem str_beq (a b : ByteArray) : (a.toList == b.toList) = decide (a = b) := by
  rw [ByteArray.toList_eq, ByteArray.toList_eq]
  apply Bool.eq_iff_iff.2
  simp only [beq_iff_eq, decide_eq_true_eq]
  constructor
  · intro h
    have h1 : a.data = b.data := Array.toList_inj.1 h
    cases a; cases b; simp_all
  · rintro rfl; rfl
section
variable {P : Program} {E : Operand → V} {H : List AObj} {dst : Option Tmp} {ty : TypeId} {pos : String} {aft : Array Edge} {gd : Option (Nat × Bool)} {t t' : TypeId} {x y : Operand} {a b : ByteArray}
theorem OpS.eqlS (hx : E x = .str a) (hy : E y = .str b) : OpS P ⟨dst, .binOp .eql t x y t', ty, pos, aft, gd⟩ E H (.bool (decide (a = b))) H :=
  .quiet fun g rc w h hr => by
    have ex := (hx ▸ h x (by simp [Op.operands])).str_eq
    have ey := (hy ▸ h y (by simp [Op.operands])).str_eq
    exact ⟨_, by simp [execOp, ex, ey, binOp, Op.stringOp, eqGuard, str_beq], RV.bool g _⟩
theorem OpS.neqS (hx : E x = .str a) (hy : E y = .str b) : OpS P ⟨dst, .binOp .neq t x y t', ty, pos, aft, gd⟩ E H (.bool (!decide (a = b))) H :=
  .quiet fun g rc w h hr => by
    have ex := (hx ▸ h x (by simp [Op.operands])).str_eq
    have ey := (hy ▸ h y (by simp [Op.operands])).str_eq
    exact ⟨.bool (!decide (a = b)), by simp [execOp, ex, ey, binOp, Op.stringOp, eqGuard, str_beq], RV.bool g _⟩
theorem OpS.lssS (hx : E x = .str a) (hy : E y = .str b) : OpS P ⟨dst, .binOp .lss t x y t', ty, pos, aft, gd⟩ E H (.bool (bLs a b)) H :=
  .quiet fun g rc w h hr => by
    have ex := (hx ▸ h x (by simp [Op.operands])).str_eq
    have ey := (hy ▸ h y (by simp [Op.operands])).str_eq
    exact ⟨.bool (bLs a b), by simp [execOp, ex, ey, binOp, Op.stringOp, eqGuard, bLs], RV.bool g _⟩
theorem OpS.geqS (hx : E x = .str a) (hy : E y = .str b) : OpS P ⟨dst, .binOp .geq t x y t', ty, pos, aft, gd⟩ E H (.bool (!bLs a b)) H :=
  .quiet fun g rc w h hr => by
    have ex := (hx ▸ h x (by simp [Op.operands])).str_eq
    have ey := (hy ▸ h y (by simp [Op.operands])).str_eq
    exact ⟨.bool (!bLs a b), by simp [execOp, ex, ey, binOp, Op.stringOp, eqGuard, bLs], RV.bool g _⟩
end
end Go.Av
