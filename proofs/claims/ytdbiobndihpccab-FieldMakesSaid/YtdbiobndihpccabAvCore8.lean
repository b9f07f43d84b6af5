/- Operations over abstract values: parts, memory, calls. -/
import Derived.Test.YtdbiobndihpccabAvCore7
import Derived.Laws.Cells
namespace Go.Av
set_option linter.unusedVariables false
set_option linter.unusedSimpArgs false

def okV : V → Bool
  | .undef => false
  | .tup _ => false
  | _ => true

theorem RV.ok {g : Gh} {v : V} {x : Value} (h : RV g v x) (hk : okV v = true) : v.isAgg = valAgg x ∧ RC g v x.cells.toList :=
  h.val (fun e => by subst e; cases hk) (fun vs e => by subst e; cases hk)

theorem RV.leafval {g : Gh} {v : V} {x : Value} (h : RV g v x) (hk : okV v = true) (ha : v.isAgg = false) : RC g v [x] := by
  obtain ⟨h1, h2⟩ := h.ok hk
  have : x.cells.toList = [x] := by
    rw [ha] at h1
    cases x <;> first | rfl | (simp [valAgg] at h1)
  rwa [this] at h2

theorem RV.ptr_eq {g : Gh} {o : Nat} {path : List Nat} {off : Nat} {x : Value} (h : RV g (.ptr o path off) x) : ∃ p, g.ρ[o]? = some p ∧ x = .pointer (some ⟨p.block, off, none⟩) := by
  have := h.leafval rfl rfl
  simp only [RC, List.cons.injEq, and_true] at this
  exact this

theorem RV.cptr_eq {g : Gh} {v : V} {x : Value} (h : RV g (.cptr v) x) : ∃ (a : Addr) (c : List Value), a.spot = none ∧ x = .pointer (some a) ∧ RC g v c ∧ g.holds a c := by
  have := h.leafval rfl rfl
  simp only [RC, List.cons.injEq, and_true] at this
  exact this

theorem RV.agg_eq {g : Gh} {v : V} {x : Value} (h : RV g v x) (ha : v.isAgg = true) : ∃ cs : Array Value, x = .agg cs ∧ RC g v cs.toList := by
  have hk : okV v = true := by cases v <;> simp_all [V.isAgg, okV]
  obtain ⟨h1, h2⟩ := h.ok hk
  rw [ha] at h1
  cases x <;> simp [valAgg] at h1
  exact ⟨_, rfl, by simpa [Value.cells] using h2⟩

theorem RV.sl_eq {g : Gh} {e : Nat} {tk : Tk} {xs : List V} {x : Value} (h : RV g (.sl e tk xs) x) :
    ∃ (a : Option Addr) (cap : Nat), x = .slice a xs.length cap ∧ xs.length ≤ cap ∧ tk.ok g e a xs.length cap ∧
      ∃ c : List Value, RCu g e xs c ∧ (a = none → cap = 0) ∧ ∀ ad, a = some ad → (xs ≠ [] → ad.spot = none) ∧ g.holds ad c := by
  have := h.leafval rfl rfl
  simp only [RC, List.cons.injEq, and_true] at this
  exact this

theorem RV.nils_eq {g : Gh} {x : Value} (h : RV g .nils x) : x = .slice none 0 0 := by
  have := h.leafval rfl rfl
  simpa only [RC, List.cons.injEq, and_true] using this

theorem RV.slo_eq {g : Gh} {e o : Nat} {path : List Nat} {off lo len cap : Nat} {x : Value} (h : RV g (.slo e o path off lo len cap) x) :
    ∃ p, g.ρ[o]? = some p ∧ ∃ (a : Option Addr) (c : Nat), x = .slice a len c ∧ len ≤ c ∧ ((p.vac = true ∧ c = 0) ∨ (a = some ⟨p.block, off + lo * e, none⟩ ∧ (cap = 1 → p.vac = false ∧ off + (lo + c) * e ≤ p.size))) := by
  have := h.leafval rfl rfl
  simp only [RC, List.cons.injEq, and_true] at this
  exact this

theorem RV.of_leaf {g : Gh} {v : V} {x : Value} (ha : v.isAgg = false) (h : RC g v [x]) : RV g v x := RC.leaf ha h

/-- The value that cells make up. -/
def mkVal (agg : Bool) (c : List Value) : Value := if agg then .agg c.toArray else c.headD Go.undef

theorem mkVal_rv {g : Gh} {u : V} {c : List Value} {b : Bool} (hb : u.isAgg = b) (h : RC g u c) : RV g u (mkVal b c) := by
  cases b with
  | true => exact RC.agg hb h
  | false =>
    have hl : c.length = 1 := by
      rw [h.len]
      cases u <;> first | rfl | (simp [V.isAgg] at hb)
    cases c with
    | nil => simp at hl
    | cons x r =>
      cases r with
      | nil => exact RC.leaf hb h
      | cons y r => simp at hl

theorem run_part {P : Program} {t : TypeId} {pre c post : List Value} {cs : Array Value} {off n : Nat} {b : Bool} (hc : cs.toList = pre ++ c ++ post) (hp : pre.length = off) (hn : c.length = n)
    (hs : szOf P t = some n) (ha : aggOf P t = some b) (hb : b = false → n = 1) (w : World) : (part t cs off).run P w = .ok (mkVal b c) w := by
  unfold part
  rw [Sem.run_bind, run_isAgg' ha]
  cases b with
  | true =>
    simp only [Result.andThen_ok, if_true, mkVal]
    rw [Sem.run_bind, run_sizeOf' hs]
    simp only [Result.andThen_ok, Sem.run_pure]
    congr 2
    apply Array.ext'
    rw [Array.toList_extract, hc, List.extract_eq_take_drop]
    simp only [List.append_assoc]
    rw [show off + n - off = c.length from by omega, ← hp, List.drop_left, List.take_left]
  | false =>
    have h1 := hb rfl
    subst h1
    cases c with
    | nil => simp at hn
    | cons x r =>
      have : cs[off]? = some x := by
        have : cs.toList[off]? = some x := by
          rw [hc, ← hp, List.append_assoc, List.getElem?_append_right (Nat.le_refl _)]
          simp
        simpa using this
      simp [mkVal, this]

theorem flen_leaf {u : V} (h : u.isAgg = false) : flen u = 1 := by cases u <;> first | rfl | (simp [V.isAgg] at h)

section
variable {P : Program} {E : Operand → V} {H : List AObj} {dst : Option Tmp} {ty : TypeId} {pos : String} {aft : Array Edge} {gd : Option (Nat × Bool)}

theorem OpS.field {t : TypeId} {x : Operand} {k : Nat} {l : List (Nat × Nat × Bool)} {off n : Nat} {b : Bool} {vs : List V} {u : V} (hl : layOf P t = some l) (hk : l[k]? = some (off, n, b))
    (hx : E x = .st vs) (hu : vs[k]? = some u) (ho : flenL (vs.take k) = off) (hn : flen u = n) (hb : u.isAgg = b) : OpS P ⟨dst, .field t x k, ty, pos, aft, gd⟩ E H u H :=
  .quiet fun g rc w h _ => by
    obtain ⟨cs, e, hc⟩ := (hx ▸ h x (by simp [Op.operands])).agg_eq rfl
    simp only [RC] at hc
    obtain ⟨pre, c, post, e1, e2, e3, _⟩ := hc.get hu
    obtain ⟨fs, f, hfs, hf, rfl, hsz, hag⟩ := layOf_get hl hk
    refine ⟨mkVal b c, ?_, mkVal_rv hb e3⟩
    have hp := run_part (P := P) (t := f.type) (b := b) e1 (e2.trans ho) (e3.len.trans hn) hsz hag (fun e => by subst e; rw [← hn, flen_leaf hb]) w
    simp [execOp, Instr.field, run_underlying hfs, hf, e, asAgg, hp]

theorem OpS.index {t : TypeId} {x i : Operand} {len e : Nat} {b : Bool} {vs : List V} {u : V} {k : IntKind} {n : Int} (hl : arrOf P t = some (len, e, b))
    (hx : E x = .arr e vs) (hi : E i = .int k n) (h0 : 0 ≤ n) (h1 : n < len) (hu : vs[n.toNat]? = some u) (hb : u.isAgg = b) : OpS P ⟨dst, .index t x i, ty, pos, aft, gd⟩ E H u H :=
  .quiet fun g rc w h _ => by
    obtain ⟨cs, ex, hc⟩ := (hx ▸ h x (by simp [Op.operands])).agg_eq rfl
    have ei := (hi ▸ h i (by simp [Op.operands])).int_eq
    simp only [RC] at hc
    obtain ⟨pre, c, post, e1, e2, el, e3, _⟩ := hc.get hu
    obtain ⟨et, hut, hsz, hag⟩ := arrOf_get hl
    refine ⟨mkVal b c, ?_, mkVal_rv hb e3⟩
    have hp := run_part (P := P) (t := et) (b := b) e1 e2 el hsz hag (fun eb => by subst eb; rw [← el, e3.len, flen_leaf hb]) w
    simp [execOp, Instr.index, run_underlying hut, ex, ei, asIntOf, h0, h1, run_sizeOf' hsz, hp]

theorem add_addr {b off n : Nat} : (⟨b, off, none⟩ : Addr).add n = ⟨b, off + n, none⟩ := by unfold Addr.add; split <;> simp_all

theorem add_addr' {a : Addr} {n : Nat} (h : a.spot = none) : a.add n = ⟨a.block, a.off + n, none⟩ := by cases a; simp only at h; subst h; exact add_addr

/-- The address of a part of an object. -/
theorem OpS.fieldAddr {t : TypeId} {x : Operand} {k : Nat} {l : List (Nat × Nat × Bool)} {off n : Nat} {b : Bool} {o : Nat} {path : List Nat} {at_ : Nat} (hl : layOf P t = some l) (hk : l[k]? = some (off, n, b)) (hn : (n == 0) = false)
    (hx : E x = .ptr o path at_) : OpS P ⟨dst, .fieldAddr t x k, ty, pos, aft, gd⟩ E H (.ptr o (path ++ [k]) (at_ + off)) H :=
  .quiet fun g rc w h _ => by
    obtain ⟨p, h1, h2⟩ := (hx ▸ h x (by simp [Op.operands])).ptr_eq
    obtain ⟨fs, f, hfs, hf, rfl, hsz, hag⟩ := layOf_get hl hk
    refine ⟨.pointer (some ⟨p.block, at_ + f.offset, none⟩), ?_, RV.of_leaf rfl (by simp only [RC]; exact ⟨p, h1, rfl⟩)⟩
    have hn' : ¬ n = 0 := by simpa using hn
    simp [execOp, Instr.fieldAt, run_underlying hfs, hf, h2, Instr.sureAddr, fieldPlace, run_sizeOf' hsz, hn', add_addr]

theorem OpS.fieldAddrC {t : TypeId} {x : Operand} {k : Nat} {l : List (Nat × Nat × Bool)} {off n : Nat} {b : Bool} {vs : List V} {u : V} (hl : layOf P t = some l) (hk : l[k]? = some (off, n, b)) (hn : (n == 0) = false)
    (hx : E x = .cptr (.st vs)) (hu : vs[k]? = some u) (ho : flenL (vs.take k) = off) : OpS P ⟨dst, .fieldAddr t x k, ty, pos, aft, gd⟩ E H (.cptr u) H :=
  .quiet fun g rc w h _ => by
    obtain ⟨a, c, h1, h2, h3, h4⟩ := (hx ▸ h x (by simp [Op.operands])).cptr_eq
    obtain ⟨fs, f, hfs, hf, rfl, hsz, hag⟩ := layOf_get hl hk
    simp only [RC] at h3
    obtain ⟨pre, c', post, e1, e2, e3, _⟩ := h3.get hu
    refine ⟨.pointer (some (a.add f.offset)), ?_, RV.of_leaf rfl ?_⟩
    · have hn' : ¬ n = 0 := by simpa using hn
      simp [execOp, Instr.fieldAt, run_underlying hfs, hf, h2, Instr.sureAddr, fieldPlace, run_sizeOf' hsz, hn']
    · simp only [RC]
      refine ⟨a.add f.offset, c', by rw [add_addr' h1], rfl, e3, fun i y hy => ?_⟩
      rw [add_addr' h1]
      have := h4 (f.offset + i) y (by
        rw [e1, List.append_assoc, List.getElem?_append_right (by omega), show f.offset + i - pre.length = i from by omega, List.getElem?_append_left (List.getElem?_eq_some_iff.1 hy).1]
        exact hy)
      simpa [Nat.add_assoc] using this

theorem OpS.indexAddr {t : TypeId} {x i : Operand} {len e : Nat} {b : Bool} {o : Nat} {path : List Nat} {at_ : Nat} {k : IntKind} {n : Int} (hl : arrOf P t = some (len, e, b))
    (hx : E x = .ptr o path at_) (hi : E i = .int k n) (h0 : 0 ≤ n) (h1 : n < len) : OpS P ⟨dst, .indexAddr t x i, ty, pos, aft, gd⟩ E H (.ptr o (path ++ [n.toNat]) (at_ + n.toNat * e)) H :=
  .quiet fun g rc w h _ => by
    obtain ⟨p, q1, q2⟩ := (hx ▸ h x (by simp [Op.operands])).ptr_eq
    have ei := (hi ▸ h i (by simp [Op.operands])).int_eq
    obtain ⟨et, hut, hsz, hag⟩ := arrOf_get hl
    refine ⟨.pointer (some ⟨p.block, at_ + n.toNat * e, none⟩), ?_, RV.of_leaf rfl (by simp only [RC]; exact ⟨p, q1, rfl⟩)⟩
    simp [execOp, Instr.indexAt, run_underlying hut, ei, q2, asIntOf, Instr.sureAddr, h0, h1, run_sizeOf' hsz, add_addr]

theorem OpS.indexAddrC {t : TypeId} {x i : Operand} {len e : Nat} {b : Bool} {vs : List V} {u : V} {k : IntKind} {n : Int} (hl : arrOf P t = some (len, e, b))
    (hx : E x = .cptr (.arr e vs)) (hi : E i = .int k n) (h0 : 0 ≤ n) (h1 : n < len) (hu : vs[n.toNat]? = some u) : OpS P ⟨dst, .indexAddr t x i, ty, pos, aft, gd⟩ E H (.cptr u) H :=
  .quiet fun g rc w h _ => by
    obtain ⟨a, c, q1, q2, q3, q4⟩ := (hx ▸ h x (by simp [Op.operands])).cptr_eq
    have ei := (hi ▸ h i (by simp [Op.operands])).int_eq
    obtain ⟨et, hut, hsz, hag⟩ := arrOf_get hl
    simp only [RC] at q3
    obtain ⟨pre, c', post, e1, e2, el, e3, _⟩ := q3.get hu
    refine ⟨.pointer (some (a.add (n.toNat * e))), ?_, RV.of_leaf rfl ?_⟩
    · simp [execOp, Instr.indexAt, run_underlying hut, ei, q2, asIntOf, Instr.sureAddr, h0, h1, run_sizeOf' hsz]
    · simp only [RC]
      refine ⟨a.add (n.toNat * e), c', by rw [add_addr' q1], rfl, e3, fun i y hy => ?_⟩
      rw [add_addr' q1]
      have := q4 (n.toNat * e + i) y (by
        rw [e1, List.append_assoc, List.getElem?_append_right (by omega), show n.toNat * e + i - pre.length = i from by omega, List.getElem?_append_left (List.getElem?_eq_some_iff.1 hy).1]
        exact hy)
      simpa [Nat.add_assoc] using this

theorem OpS.indexAddrS {t et : TypeId} {x i : Operand} {e : Nat} {b : Bool} {by_ : Nat} {tk : Tk} {vs : List V} {u : V} {k : IntKind} {n : Int} (hl : sliOf P t = some (et, e, b, by_))
    (hx : E x = .sl e tk vs) (hi : E i = .int k n) (h0 : 0 ≤ n) (h1 : n < vs.length) (hu : vs[n.toNat]? = some u) : OpS P ⟨dst, .indexAddr t x i, ty, pos, aft, gd⟩ E H (.cptr u) H :=
  .quiet fun g rc w h _ => by
    obtain ⟨a, cap, q2, q3, _, c, q4, q5, q6⟩ := (hx ▸ h x (by simp [Op.operands])).sl_eq
    have ei := (hi ▸ h i (by simp [Op.operands])).int_eq
    obtain ⟨hut, hsz, hag, _⟩ := sliOf_get hl
    obtain ⟨pre, c', post, e1, e2, el, e3, _⟩ := q4.get hu
    cases a with
    | none => have := q5 rfl; omega
    | some a =>
      obtain ⟨q1, q4⟩ := q6 a rfl
      refine ⟨.pointer (some (a.add (n.toNat * e))), ?_, RV.of_leaf rfl ?_⟩
      · simp [execOp, Instr.indexAt, run_underlying hut, ei, q2, asIntOf, h0, h1, run_sizeOf' hsz]
      · simp only [RC]
        refine ⟨a.add (n.toNat * e), c', by rw [add_addr' (q1 (by rintro rfl; simp at h1; omega))], rfl, e3, fun i y hy => ?_⟩
        rw [add_addr' (q1 (by rintro rfl; simp at h1; omega))]
        have := q4 (n.toNat * e + i) y (by
          rw [e1, List.append_assoc, List.getElem?_append_right (by omega), show n.toNat * e + i - pre.length = i from by omega, List.getElem?_append_left (List.getElem?_eq_some_iff.1 hy).1]
          exact hy)
        simpa [Nat.add_assoc] using this

theorem OpS.indexAddrO {t et : TypeId} {x i : Operand} {e : Nat} {b : Bool} {by_ : Nat} {o : Nat} {path : List Nat} {at_ lo len cap : Nat} {k : IntKind} {n : Int} (hl : sliOf P t = some (et, e, b, by_))
    (hx : E x = .slo e o path at_ lo len cap) (hi : E i = .int k n) (h0 : 0 ≤ n) (h1 : n < len) : OpS P ⟨dst, .indexAddr t x i, ty, pos, aft, gd⟩ E H (.ptr o (path ++ [lo + n.toNat]) (at_ + (lo + n.toNat) * e)) H :=
  .quiet fun g rc w h _ => by
    obtain ⟨p, q1, a, c, q2, q4, q3⟩ := (hx ▸ h x (by simp [Op.operands])).slo_eq
    obtain ⟨rfl, _⟩ := q3.resolve_left (fun hv => by omega)
    have ei := (hi ▸ h i (by simp [Op.operands])).int_eq
    obtain ⟨hut, hsz, hag, _⟩ := sliOf_get hl
    refine ⟨.pointer (some ⟨p.block, at_ + (lo + n.toNat) * e, none⟩), ?_, RV.of_leaf rfl (by simp only [RC]; exact ⟨p, q1, rfl⟩)⟩
    simp [execOp, Instr.indexAt, run_underlying hut, ei, q2, asIntOf, h0, h1, run_sizeOf' hsz, add_addr, Nat.add_mul, Nat.add_assoc]

theorem run_loadVar' {t : TypeId} {a : Addr} {c : List Value} {n : Nat} {b : Bool} (ha : a.spot = none) (hs : szOf P t = some n) (hag : aggOf P t = some b) (hn : c.length = n) (hb : b = false → n = 1) (w : World)
    (hc : ∀ (i : Nat) y, c[i]? = some y → w.cell? ⟨a.block, a.off + i, none⟩ = some y) : (loadVar t a).run P w = .ok (mkVal b c) w := by
  unfold loadVar
  rw [Sem.run_bind, run_isAgg' hag]
  have hload := run_loadCells_list (P := P) w a c (fun j y hy => by rw [add_addr' ha]; exact hc j y hy)
  cases b with
  | true =>
    simp only [Result.andThen_ok, if_true, mkVal]
    rw [Sem.run_bind, run_sizeOf' hs]
    simp only [Result.andThen_ok, Sem.run_bind, ← hn, hload, Sem.run_pure]
  | false =>
    have h1 := hb rfl
    subst h1
    cases c with
    | nil => simp at hn
    | cons x r =>
      have := hc 0 x rfl
      have e : (⟨a.block, a.off + 0, none⟩ : Addr) = a := by cases a; simp only at ha; subst ha; rfl
      rw [e] at this
      simp [mkVal, this]

/-- What an object's part holds. -/
theorem HR.cells {g : Gh} {w : World} (hr : HR g H w) {o : Nat} {p : Place} {v u : V} {path : List Nat} (hp : g.ρ[o]? = some p) (ho : H[o]? = some (.cells v)) (hu : v.at path = some u) :
    ∃ c, RC g u c ∧ ∀ (i : Nat) y, c[i]? = some y → w.cell? ⟨p.block, v.offOf path 0 + i, none⟩ = some y := by
  obtain ⟨cs, ty, h1, ⟨junk, h2, h3⟩, h4⟩ := hr.obj o p _ hp ho
  obtain ⟨pre, c, post, e1, e2, e3, _⟩ := h3.at (acc := 0) hu
  refine ⟨c, e3, fun i y hy => ?_⟩
  simp only [World.cell?, h1]
  have : cs.toList[v.offOf path 0 + i]? = some y := by
    rw [h2, e1, ← e2]
    simp only [List.append_assoc]
    rw [List.getElem?_append_right (by omega), show 0 + pre.length + i - pre.length = i from by omega, List.getElem?_append_left (List.getElem?_eq_some_iff.1 hy).1]
    exact hy
  simpa using this

theorem OpS.load {t : TypeId} {a : Operand} {n : Nat} {b : Bool} {o : Nat} {path : List Nat} {off : Nat} {v u : V} (hs : szOf P t = some n) (hag : aggOf P t = some b)
    (hx : E a = .ptr o path off) (ho : H[o]? = some (.cells v)) (hu : v.at path = some u) (hoff : v.offOf path 0 = off) (hn : flen u = n) (hb : u.isAgg = b) : OpS P ⟨dst, .load t a, ty, pos, aft, gd⟩ E H u H :=
  .quiet fun g rc w h hr => by
    obtain ⟨p, q1, q2⟩ := (hx ▸ h a (by simp [Op.operands])).ptr_eq
    obtain ⟨c, hc, hcell⟩ := hr.cells q1 ho hu
    subst hoff
    refine ⟨mkVal b c, ?_, mkVal_rv hb hc⟩
    have := run_loadVar' (P := P) (a := ⟨p.block, v.offOf path 0, none⟩) rfl hs hag (hc.len.trans hn) (fun e => by subst e; rw [← hn, flen_leaf hb]) w hcell
    simp [execOp, Instr.loadAt, q2, Instr.sureAddr, this]

theorem OpS.loadC {t : TypeId} {a : Operand} {n : Nat} {b : Bool} {u : V} (hs : szOf P t = some n) (hag : aggOf P t = some b)
    (hx : E a = .cptr u) (hn : flen u = n) (hb : u.isAgg = b) : OpS P ⟨dst, .load t a, ty, pos, aft, gd⟩ E H u H :=
  .quiet fun g rc w h hr => by
    obtain ⟨ad, c, q1, q2, q3, q4⟩ := (hx ▸ h a (by simp [Op.operands])).cptr_eq
    refine ⟨mkVal b c, ?_, mkVal_rv hb q3⟩
    have := run_loadVar' (P := P) (a := ad) q1 hs hag (q3.len.trans hn) (fun e => by subst e; rw [← hn, flen_leaf hb]) w (fun i y hy => hr.agree _ _ _ (q4 i y hy))
    simp [execOp, Instr.loadAt, q2, Instr.sureAddr, this]

theorem OpS.alloc {t : TypeId} {z : V} (hz : ZeroV P t z) : OpS P ⟨dst, .alloc t, ty, pos, aft, gd⟩ E H (.ptr H.length [] 0) (H ++ [.cells z]) := by
  intro g rc w _ hr
  obtain ⟨val, h1, h2, h3⟩ := hz.run w g
  have hrun : (execOp rc ⟨dst, .alloc t, ty, pos, aft, gd⟩).run P w = .ok (.value (.pointer (some ⟨w.heap.size, 0, none⟩))) (w.alloc (.cells val.cells t)) := by
    simp [execOp, Instr.alloc, h1, newVar, newRow]
  rw [hrun]
  have hlen := h2.len
  refine ⟨{ g with ρ := g.ρ ++ [⟨w.heap.size, 0, 0, false⟩] }, ?_, hr.alloc _ _ ⟨w.heap.size, 0, 0, false⟩ rfl ?_, .alloc hr _ _ _ rfl⟩
  · refine RV.of_leaf rfl ?_
    simp only [RC]
    exact ⟨⟨w.heap.size, 0, 0, false⟩, by rw [← hr.len]; simp, rfl⟩
  · refine ⟨val.cells, t, heap_alloc_eq _ _, ⟨[], by rw [← hlen, List.take_length, List.append_nil], ?_⟩, fun i => hr.fresh (Nat.le_refl _) i⟩
    rw [← hlen, List.take_length]
    exact h2.mono (g.le_push _)

theorem OpS.box {t : TypeId} {x : Operand} {v : V} (hx : E x = v) (hk : okV v = true) : OpS P ⟨dst, .box t x, ty, pos, aft, gd⟩ E H (.ptr H.length [] 0) (H ++ [.cells v]) := by
  intro g rc w h hr
  obtain ⟨h3, h2⟩ := (hx ▸ h x (by simp [Op.operands])).ok hk
  have hrun : (execOp rc ⟨dst, .box t x, ty, pos, aft, gd⟩).run P w = .ok (.value (.pointer (some ⟨w.heap.size, 0, none⟩))) (w.alloc (.cells (rc x).cells t)) := by
    simp [execOp, Instr.box, newVar, newRow]
  rw [hrun]
  have hlen := h2.len
  refine ⟨{ g with ρ := g.ρ ++ [⟨w.heap.size, 0, 0, false⟩] }, ?_, hr.alloc _ _ ⟨w.heap.size, 0, 0, false⟩ rfl ?_, .alloc hr _ _ _ rfl⟩
  · refine RV.of_leaf rfl ?_
    simp only [RC]
    exact ⟨⟨w.heap.size, 0, 0, false⟩, by rw [← hr.len]; simp, rfl⟩
  · refine ⟨(rc x).cells, t, heap_alloc_eq _ _, ⟨[], by rw [← hlen, List.take_length, List.append_nil], ?_⟩, fun i => hr.fresh (Nat.le_refl _) i⟩
    rw [← hlen, List.take_length]
    exact h2.mono (g.le_push _)

theorem OpS.store {t : TypeId} {a x : Operand} {n : Nat} {o : Nat} {path : List Nat} {off : Nat} {v old u : V} (hs : szOf P t = some n)
    (ha : E a = .ptr o path off) (hx : E x = u) (hk : okV u = true) (ho : H[o]? = some (.cells v)) (hold : v.at path = some old) (hoff : v.offOf path 0 = off) (hn : flen u = n) (hn' : flen old = n) :
    OpS P ⟨dst, .store t a x, ty, pos, aft, gd⟩ E H .undef (H.set o (.cells (v.setAt path u))) := by
  intro g rc w h hr
  obtain ⟨p, q1, q2⟩ := (ha ▸ h a (by simp [Op.operands])).ptr_eq
  obtain ⟨h3, h2⟩ := (hx ▸ h x (by simp [Op.operands])).ok hk
  obtain ⟨cs, cty, k1, ⟨junk, k2, k3⟩, k4⟩ := hr.obj o p _ q1 ho
  obtain ⟨pre, c, post, e1, e2, e3, e4⟩ := k3.at (acc := 0) hold
  have hc1 : (rc x).cells.toList.length = n := h2.len.trans hn
  have hc2 : c.length = n := e3.len.trans hn'
  have htot : cs.toList = pre ++ c ++ post ++ junk := by rw [k2, e1]
  have hsz : cs.size = pre.length + c.length + post.length + junk.length := by
    have := congrArg List.length htot
    simpa [Nat.add_assoc] using this
  have hst := run_storeCells_at P p.block pre.length cty (rc x).cells.toList 0 cs w k1 (by omega) (fun y hy => h2.one y hy)
  have hrun : (execOp rc ⟨dst, .store t a x, ty, pos, aft, gd⟩).run P w = .ok .skip (w.setRow p.block (pre ++ (rc x).cells.toList ++ (post ++ junk)).toArray) := by
    have hoff' : off = pre.length := by omega
    have hsize : (rc x).cells.size = n := by simpa using hc1
    have hrow : (cs.toList.take (pre.length + 0) ++ (rc x).cells.toList ++ cs.toList.drop (pre.length + 0 + (rc x).cells.toList.length)) = pre ++ (rc x).cells.toList ++ (post ++ junk) := by
      have htot' : cs.toList = (pre ++ c) ++ (post ++ junk) := by rw [htot]; simp
      have d1 : cs.toList.take (pre.length + 0) = pre := by rw [htot', Nat.add_zero, List.append_assoc, List.take_left]
      have d2 : cs.toList.drop (pre.length + 0 + (rc x).cells.toList.length) = post ++ junk := by
        rw [htot', show pre.length + 0 + (rc x).cells.toList.length = (pre ++ c).length from by rw [List.length_append]; omega, List.drop_left]
      rw [d1, d2]
    rw [hrow] at hst
    simp only [execOp, Instr.storeAt, q2, Instr.sureAddr, storeVar, Sem.run_bind, Sem.run_pure, Result.andThen_ok, run_sizeOf' hs]
    rw [hsize]
    simp [hoff', hst]
  rw [hrun]
  have hset := e4 u (rc x).cells.toList h2 (by omega)
  refine ⟨g, trivial, hr.write q1 ho rfl k4 (fun b hb => setRow_other w p.block b _ hb) ?_, Ev.write q1 ho rfl (fun b hb => setRow_other w p.block b _ hb) rfl rfl rfl (by simp) (Nat.le_refl _)⟩
  refine ⟨_, cty, setRow_heap w p.block cs _ cty (0, 0) k1, ⟨junk, ?_, ?_⟩, k4⟩
  · have hl : flen (v.setAt path u) = (pre ++ (rc x).cells.toList ++ post).length := hset.len.symm
    rw [hl]
    show pre ++ (rc x).cells.toList ++ (post ++ junk) = _ ++ junk
    rw [show pre ++ (rc x).cells.toList ++ (post ++ junk) = (pre ++ (rc x).cells.toList ++ post) ++ junk from by simp, List.take_left]
  · have hl : flen (v.setAt path u) = (pre ++ (rc x).cells.toList ++ post).length := hset.len.symm
    rw [hl]
    show RC g _ (List.take _ (pre ++ (rc x).cells.toList ++ (post ++ junk)))
    rw [show pre ++ (rc x).cells.toList ++ (post ++ junk) = (pre ++ (rc x).cells.toList ++ post) ++ junk from by simp, List.take_left]
    exact hset

end

end Go.Av
