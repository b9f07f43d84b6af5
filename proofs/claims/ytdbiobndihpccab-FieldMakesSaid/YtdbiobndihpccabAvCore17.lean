/- Rules on typed values: parts, memory, buffers of one's own. -/
import Derived.Test.YtdbiobndihpccabAvCore16
namespace Go.Av
set_option linter.unusedSimpArgs false
set_option linter.unusedVariables false
set_option linter.unusedSectionVars false

section
variable {P : Program} {E : Operand → V} {H : List AObj} {dst : Option Tmp} {ty : TypeId} {pos : String} {aft : Array Edge} {gd : Option (Nat × Bool)}

theorem OpS.ixS {α : Type} [Inhabited α] {f : α → V} {xs : List α} {t et : TypeId} {x i : Operand} {e : Nat} {b : Bool} {by_ : Nat} {tk : Tk} {k : IntKind} {n : Int} {j : Nat} (hl : sliOf P t = some (et, e, b, by_))
    (hx : E x = .sl e tk (xs.map f)) (hi : E i = .int k n) (hj : six xs n = some j) : OpS P ⟨dst, .indexAddr t x i, ty, pos, aft, gd⟩ E H (.cptr (f (xs.getD j default))) H := by
  obtain ⟨h0, h1, rfl, h2⟩ := six_get hj
  exact .indexAddrS hl hx hi h0 (by simpa using h1) (by simp [List.getD, h2])

theorem OpS.ixO {α : Type} {xs : List α} {t et : TypeId} {x i : Operand} {e : Nat} {b : Bool} {by_ : Nat} {o q len : Nat} {k : IntKind} {n : Int} {j : Nat} (hl : sliOf P t = some (et, e, b, by_))
    (hx : E x = .slo e o [] 0 0 len q) (hi : E i = .int k n) (he : len = xs.length) (hj : six xs n = some j) : OpS P ⟨dst, .indexAddr t x i, ty, pos, aft, gd⟩ E H (.ptr o [j] (j * e)) H := by
  obtain ⟨h0, h1, rfl, h2⟩ := six_get hj
  have := OpS.indexAddrO (P := P) (E := E) (H := H) (dst := dst) (ty := ty) (pos := pos) (aft := aft) (gd := gd) hl hx hi h0 (by omega)
  simpa using this

theorem OpS.ixC {α : Type} {f : α → V} {m : Nat} {xs : Vector α m} {t : TypeId} {x i : Operand} {e : Nat} {b : Bool} {k : IntKind} {n : Int} {j : Fin m} (hl : arrOf P t = some (m, e, b))
    (hx : E x = .cptr (.arr e (xs.toList.map f))) (hi : E i = .int k n) (hj : fix_ m n = some j) : OpS P ⟨dst, .indexAddr t x i, ty, pos, aft, gd⟩ E H (.cptr (f (xs.get j))) H := by
  obtain ⟨h0, h1, h2⟩ := fix_get hj
  exact .indexAddrC hl hx hi h0 h1 (by rw [h2]; exact vec_at f xs j)

theorem OpS.ixP {m : Nat} {t : TypeId} {x i : Operand} {e : Nat} {b : Bool} {o at_ : Nat} {path : List Nat} {k : IntKind} {n : Int} {j : Fin m} (hl : arrOf P t = some (m, e, b))
    (hx : E x = .ptr o path at_) (hi : E i = .int k n) (hj : fix_ m n = some j) : OpS P ⟨dst, .indexAddr t x i, ty, pos, aft, gd⟩ E H (.ptr o (path ++ [j.val]) (at_ + j.val * e)) H := by
  obtain ⟨h0, h1, h2⟩ := fix_get hj
  rw [← h2]
  exact .indexAddr hl hx hi h0 h1

theorem OpS.ixV {α : Type} {f : α → V} {m : Nat} {xs : Vector α m} {t : TypeId} {x i : Operand} {e : Nat} {b : Bool} {k : IntKind} {n : Int} {j : Fin m} (hl : arrOf P t = some (m, e, b))
    (hx : E x = .arr e (xs.toList.map f)) (hi : E i = .int k n) (hj : fix_ m n = some j) (hb : (f (xs.get j)).isAgg = b) : OpS P ⟨dst, .index t x i, ty, pos, aft, gd⟩ E H (f (xs.get j)) H := by
  obtain ⟨h0, h1, h2⟩ := fix_get hj
  exact .index hl hx hi h0 h1 (by rw [h2]; exact vec_at f xs j) hb

theorem OpS.loadP {t : TypeId} {a : Operand} {n : Nat} {b : Bool} {o : Nat} {path : List Nat} {off off' : Nat} {v u : V} (hs : szOf P t = some n) (hag : aggOf P t = some b)
    (hx : E a = .ptr o path off) (ho : H[o]? = some (.cells v)) (hu : AtP v path off' u) (hoff : off = off') (hn : flen u = n) (hb : u.isAgg = b) : OpS P ⟨dst, .load t a, ty, pos, aft, gd⟩ E H u H :=
  .load hs hag hx ho hu.spec.1 (by rw [hu.spec.2]; omega) hn hb

/-- Cells are written. -/
theorem store_run {t : TypeId} {a x : Operand} {n : Nat} {off : Nat} {v old u : V} {path : List Nat} {g : Gh} {w : World} {rc : Operand → Value} {p : Place} {cs : Array Value} {cty : TypeId} {cv junk : List Value} (hs : szOf P t = some n)
    (q2 : rc a = .pointer (some ⟨p.block, off, none⟩)) (h2 : RC g u (rc x).cells.toList) (k1 : w.heap[p.block]? = some (.cells cs cty (0, 0))) (k2 : cs.toList = cv ++ junk) (k3 : RC g v cv)
    (hold : v.at path = some old) (hoff : v.offOf path 0 = off) (hn : flen u = n) (hn' : flen old = n) :
    ∃ row : Array Value, (execOp rc ⟨dst, .store t a x, ty, pos, aft, gd⟩).run P w = .ok .skip (w.setRow p.block row) ∧ row.size = cs.size ∧ ∃ c', row.toList = c' ++ junk ∧ RC g (v.setAt path u) c' := by
  obtain ⟨pre, c, post, e1, e2, e3, e4⟩ := k3.at (acc := 0) hold
  have hc1 : (rc x).cells.toList.length = n := h2.len.trans hn
  have hc2 : c.length = n := e3.len.trans hn'
  have htot : cs.toList = pre ++ c ++ post ++ junk := by rw [k2, e1]
  have hsz : cs.size = pre.length + c.length + post.length + junk.length := by
    have := congrArg List.length htot
    simpa [Nat.add_assoc] using this
  have hst := run_storeCells_at P p.block pre.length cty (rc x).cells.toList 0 cs w k1 (by omega) (fun y hy => h2.one y hy)
  have hoff' : off = pre.length := by omega
  have hsize : (rc x).cells.size = n := by simpa using hc1
  have hrow : (cs.toList.take (pre.length + 0) ++ (rc x).cells.toList ++ cs.toList.drop (pre.length + 0 + (rc x).cells.toList.length)) = pre ++ (rc x).cells.toList ++ (post ++ junk) := by
    have htot' : cs.toList = (pre ++ c) ++ (post ++ junk) := by rw [htot]; simp
    have d1 : cs.toList.take (pre.length + 0) = pre := by rw [htot', Nat.add_zero, List.append_assoc, List.take_left]
    have d2 : cs.toList.drop (pre.length + 0 + (rc x).cells.toList.length) = post ++ junk := by
      rw [htot', show pre.length + 0 + (rc x).cells.toList.length = (pre ++ c).length from by rw [List.length_append]; omega, List.drop_left]
    rw [d1, d2]
  rw [hrow] at hst
  refine ⟨(pre ++ (rc x).cells.toList ++ (post ++ junk)).toArray, ?_, by simp; omega, pre ++ (rc x).cells.toList ++ post, by simp, e4 u _ h2 (by omega)⟩
  simp only [execOp, Instr.storeAt, q2, Instr.sureAddr, storeVar, Sem.run_bind, Sem.run_pure, Result.andThen_ok, run_sizeOf' hs]
  rw [hsize]
  simp [hoff', hst]

theorem RSub.rcv {u0 u : V} (h : RSub u0 u) (hk : okV u0 = true) {g : Gh} {x : Value} (hx : RV g u0 x) : RC g u x.cells.toList := h.rc g _ (hx.ok hk).2

theorem OpS.storeP {t : TypeId} {a x : Operand} {n : Nat} {o : Nat} {path : List Nat} {off off' : Nat} {v old u0 u v' : V} {H2 : List AObj} (hs : szOf P t = some n)
    (ha : E a = .ptr o path off) (hx : E x = u0) (hk : okV u0 = true) (hsub : RSub u0 u) (ho : H[o]? = some (.cells v)) (hold : AtP v path off' old) (hoff : off = off') (hset : SetP v path u v') (hn : flen u = n) (hn' : flen old = n)
    (hH : H.set o (.cells v') = H2) : OpS P ⟨dst, .store t a x, ty, pos, aft, gd⟩ E H .undef H2 := by
  subst hH
  intro g rc w h hr
  obtain ⟨p, q1, q2⟩ := (ha ▸ h a (by simp [Op.operands])).ptr_eq
  have h2 := hsub.rcv hk (hx ▸ h x (by simp [Op.operands]))
  obtain ⟨cs, cty, k1, ⟨junk, k2, k3⟩, k4⟩ := hr.obj o p _ q1 ho
  obtain ⟨row, hrun, hsz, c', hrow, hc'⟩ := store_run (dst := dst) (ty := ty) (pos := pos) (aft := aft) (gd := gd) hs q2 h2 k1 k2 k3 hold.spec.1 (by rw [hold.spec.2]; omega) hn hn'
  rw [hset.spec] at hc'
  rw [hrun]
  have hb := setRow_heap w p.block cs row cty (0, 0) k1
  refine ⟨g, trivial, hr.write q1 ho rfl k4 (fun b hb => setRow_other w p.block b _ hb) ?_, .write q1 ho rfl (fun b hb => setRow_other w p.block b _ hb) rfl rfl rfl (by simp) (Nat.le_refl _)⟩
  have hl := hc'.len
  refine ⟨_, cty, hb, ⟨junk, ?_, ?_⟩, k4⟩
  · rw [hrow, ← hl, List.take_left]
  · rw [hrow, ← hl, List.take_left]; exact hc'

/-- A buffer's cells. -/
theorem HR.bufc {g : Gh} {w : World} (hr : HR g H w) {o e : Nat} {p : Place} {vs : List V} {u : V} {path : List Nat} {off : Nat} (hp : g.ρ[o]? = some p) (ho : H[o]? = some (.buf e vs)) (hu : AtP (.arr e vs) path off u) (hne : path ≠ []) :
    p.vac = false ∧ ∃ cs ty, w.heap[p.block]? = some (.cells cs ty (0, 0)) ∧ (∃ c junk, cs.toList = c ++ junk ∧ RC g (.arr e vs) c) ∧ cs.size = p.size ∧ ∀ i, g.I p.block i = none := by
  rcases hr.obj o p _ hp ho with ⟨_, rfl⟩ | ⟨h0, cs, ty, h1, ⟨c, j, h2, h3⟩, h4⟩
  · exfalso
    cases hu with
    | nil => exact hne rfl
    | ar hk _ => simp at hk
  · exact ⟨h0, cs, ty, h1, ⟨c, j, h2, by simp only [RC]; exact h3⟩, h4⟩

theorem OpS.loadB {t : TypeId} {a : Operand} {n : Nat} {b : Bool} {o e j : Nat} {path : List Nat} {off off' : Nat} {vs : List V} {u : V} (hs : szOf P t = some n) (hag : aggOf P t = some b)
    (hx : E a = .ptr o (j :: path) off) (ho : H[o]? = some (.buf e vs)) (hu : AtP (.arr e vs) (j :: path) off' u) (hoff : off = off') (hn : flen u = n) (hb : u.isAgg = b) : OpS P ⟨dst, .load t a, ty, pos, aft, gd⟩ E H u H :=
  .quiet fun g rc w h hr => by
    obtain ⟨p, q1, q2⟩ := (hx ▸ h a (by simp [Op.operands])).ptr_eq
    obtain ⟨_, cs, cty, h1, ⟨cv, junk, h2, h3⟩, _, h4⟩ := hr.bufc q1 ho hu (by simp)
    obtain ⟨pre, c, post, e1, e2, e3, _⟩ := h3.at (acc := 0) hu.spec.1
    have hoff2 : off = pre.length := by have := hu.spec.2 0; omega
    refine ⟨mkVal b c, ?_, mkVal_rv hb e3⟩
    have := run_loadVar' (P := P) (a := ⟨p.block, off, none⟩) rfl hs hag (e3.len.trans hn) (fun e => by subst e; rw [← hn, flen_leaf hb]) w (fun i y hy => by
      simp only [World.cell?, h1]
      have : cs.toList[off + i]? = some y := by
        rw [h2, e1, hoff2]
        simp only [List.append_assoc]
        rw [List.getElem?_append_right (by omega), show pre.length + i - pre.length = i from by omega, List.getElem?_append_left (List.getElem?_eq_some_iff.1 hy).1]
        exact hy
      simpa using this)
    simp [execOp, Instr.loadAt, q2, Instr.sureAddr, this]

theorem OpS.storeB {t : TypeId} {a x : Operand} {n : Nat} {o e j : Nat} {path : List Nat} {off off' : Nat} {vs vs' : List V} {old u0 u : V} {H2 : List AObj} (hs : szOf P t = some n)
    (ha : E a = .ptr o (j :: path) off) (hx : E x = u0) (hk : okV u0 = true) (hsub : RSub u0 u) (ho : H[o]? = some (.buf e vs)) (hold : AtP (.arr e vs) (j :: path) off' old) (hoff : off = off') (hset : SetP (.arr e vs) (j :: path) u (.arr e vs')) (hn : flen u = n) (hn' : flen old = n)
    (hH : H.set o (.buf e vs') = H2) : OpS P ⟨dst, .store t a x, ty, pos, aft, gd⟩ E H .undef H2 := by
  subst hH
  intro g rc w h hr
  obtain ⟨p, q1, q2⟩ := (ha ▸ h a (by simp [Op.operands])).ptr_eq
  have h2 := hsub.rcv hk (hx ▸ h x (by simp [Op.operands]))
  obtain ⟨hv, cs, cty, k1, ⟨cv, junk, k2, k3⟩, k5, k4⟩ := hr.bufc q1 ho hold (by simp)
  obtain ⟨row, hrun, hsz, c', hrow, hc'⟩ := store_run (dst := dst) (ty := ty) (pos := pos) (aft := aft) (gd := gd) hs q2 h2 k1 k2 k3 hold.spec.1 (by rw [hold.spec.2]; omega) hn hn'
  rw [hset.spec] at hc'
  rw [hrun]
  have hb := setRow_heap w p.block cs row cty (0, 0) k1
  have hown : p.own (.buf e vs) = true := by simp [Place.own, hv]
  refine ⟨g, trivial, hr.write q1 ho hown k4 (fun b hb => setRow_other w p.block b _ hb) ?_, .write q1 ho hown (fun b hb => setRow_other w p.block b _ hb) rfl rfl rfl (by simp) (Nat.le_refl _)⟩
  simp only [RC] at hc'
  exact .inr ⟨hv, _, cty, hb, ⟨c', junk, hrow, hc'⟩, by rw [hsz, k5], k4⟩
end
end Go.Av
