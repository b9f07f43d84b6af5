/- Operations over abstract values: literals, len, max, min, pieces of slices; what a function hands out; panics. -/
import Derived.Test.YtdbiobndihpccabAvCore10
namespace Go.Av
set_option linter.unusedVariables false
set_option linter.unusedSimpArgs false

theorem splice (off : Nat) : ∀ (c : List Value) (k : Nat) (arr : Array Value), off + k + c.length ≤ arr.size →
    ((c.zipIdx k).foldl (fun (cs : Array Value) (p : Value × Nat) => match p with | (x, j) => cs.setIfInBounds (off + j) x) arr).toList = arr.toList.take (off + k) ++ c ++ arr.toList.drop (off + k + c.length)
  | [], k, arr, _ => by simp
  | x :: c, k, arr, h => by
    simp only [List.zipIdx_cons, List.foldl_cons]
    rw [splice off c (k + 1) (arr.setIfInBounds (off + k) x) (by simp at h ⊢; omega)]
    have e := list_seg_step arr.toList (off + k) x c (by simp at h ⊢; omega)
    simpa [Array.toList_setIfInBounds, Nat.add_assoc] using e

theorem fill_one (place : Nat → Option (Nat × Nat)) (cells : Array Value) (i off size : Nat) (v : Value) (rest : List (Nat × Value)) (hp : place i = some (off, size)) (hv : v.cells.size = size) (hf : off + size ≤ cells.size) :
    ∃ cells', cells'.toList = cells.toList.take off ++ v.cells.toList ++ cells.toList.drop (off + size) ∧ Instr.fill place cells ((i, v) :: rest) = Instr.fill place cells' rest := by
  refine ⟨(v.cells.zipIdx.foldl (fun cs (c, j) => cs.setIfInBounds (off + j) c) cells), ?_, ?_⟩
  · have := splice off v.cells.toList 0 cells (by simp; omega)
    rw [← Array.foldl_toList, Array.toList_zipIdx]
    rw [this]
    simp [hv]
  · simp only [Instr.fill, hp, hv]
    rw [if_neg (by simp; omega)]

/-- Parts put into a whole, one after the other. -/
def setParts : V → List (Nat × V) → V
  | cur, [] => cur
  | cur, (i, u) :: r => setParts (cur.setAt [i] u) r

def fillOK (place : Nat → Option (Nat × Nat)) : V → List (Nat × V) → Prop
  | _, [] => True
  | cur, (i, u) :: r => okV u = true ∧ (∃ off n old, place i = some (off, n) ∧ cur.at [i] = some old ∧ cur.offOf [i] 0 = off ∧ flen old = n ∧ flen u = n) ∧ fillOK place (cur.setAt [i] u) r

theorem fill_rc {g : Gh} {place : Nat → Option (Nat × Nat)} : ∀ {vs : List (Nat × V)} {xs : List (Nat × Value)} {cur : V} {cells : Array Value}, RC g cur cells.toList → fillOK place cur vs →
    (vs.length = xs.length ∧ ∀ (k : Nat) i u, vs[k]? = some (i, u) → ∃ x, xs[k]? = some (i, x) ∧ RV g u x) →
    ∃ cells', Instr.fill place cells xs = some cells' ∧ RC g (setParts cur vs) cells'.toList
  | [], [], cur, cells, h, _, _ => ⟨cells, rfl, h⟩
  | [], _ :: _, _, _, _, _, h => by simp at h
  | (i, u) :: vs, xs, cur, cells, h, hok, hxs => by
    obtain ⟨hk, ⟨off, n, old, h1, h2, h3, h4, h5⟩, hrest⟩ := hok
    obtain ⟨hlen, hget⟩ := hxs
    cases xs with
    | nil => simp at hlen
    | cons x0 xs =>
      obtain ⟨x, hx, hv⟩ := hget 0 i u rfl
      simp at hx; subst hx
      obtain ⟨_, hc⟩ := hv.ok hk
      obtain ⟨pre, c, post, e1, e2, e3, e4⟩ := h.at (acc := 0) h2
      have hxl : x.cells.size = n := by rw [← h5, ← hc.len]; simp
      have hcl : c.length = n := e3.len.trans h4
      have htot : cells.size = pre.length + c.length + post.length := by
        have := congrArg List.length e1
        simpa [Nat.add_assoc] using this
      obtain ⟨cells', q1, q2⟩ := fill_one place cells i off n x xs h1 hxl (by omega)
      have hpre : pre.length = off := by omega
      have hrow : cells'.toList = pre ++ x.cells.toList ++ post := by
        rw [q1, e1]
        have d1 : (pre ++ c ++ post).take off = pre := by rw [← hpre, List.append_assoc, List.take_left]
        have d2 : (pre ++ c ++ post).drop (off + n) = post := by rw [show off + n = (pre ++ c).length from by rw [List.length_append]; omega, List.drop_left]
        rw [d1, d2]
      have hcells' : RC g (cur.setAt [i] u) cells'.toList := by
        rw [hrow]
        exact e4 u _ hc (by simp; omega)
      obtain ⟨cells'', r1, r2⟩ := fill_rc hcells' hrest ⟨by simpa using hlen, fun k j v hkv => hget (k + 1) j v (by simpa using hkv)⟩
      exact ⟨cells'', by rw [q2, r1], r2⟩

section
variable {P : Program} {E : Operand → V} {H : List AObj} {dst : Option Tmp} {ty : TypeId} {pos : String} {aft : Array Edge} {gd : Option (Nat × Bool)}

theorem run_mapM_array {α β : Type} (f : α → Sem β) (h : α → β) (w : World) : ∀ (l : List α), (∀ x ∈ l, (f x).run P w = .ok (h x) w) → (l.mapM f).run P w = .ok (l.map h) w
  | [], _ => by simp
  | x :: l, hl => by
    rw [List.mapM_cons, Sem.run_bind, hl x (by simp)]
    simp only [Result.andThen_ok, Sem.run_bind, run_mapM_array f h w l fun y hy => hl y (by simp [hy]), Sem.run_pure, List.map_cons]

def placeSt (l : List (Nat × Nat × Bool)) (i : Nat) : Option (Nat × Nat) := (l[i]?).map fun x => (x.1, x.2.1)

theorem mapM_len {α β : Type} {f : α → Option β} : ∀ {l : List α} {l' : List β}, l.mapM f = some l' → l'.length = l.length
  | [], l', h => by simp at h; subst h; rfl
  | a :: l, l', h => by
    rw [List.mapM_cons] at h
    cases ha : f a with
    | none => simp [ha] at h
    | some b =>
      cases hl : l.mapM f with
      | none => simp [ha, hl] at h
      | some r =>
        simp [ha, hl] at h
        subst h
        simp [mapM_len hl]

theorem partsRel {g : Gh} {rc : Operand → Value} {parts : Array (Nat × Operand)} (h : ∀ x ∈ (parts.toList.map (·.2)), RV g (E x) (rc x)) :
    (parts.toList.map fun p => (p.1, E p.2)).length = (parts.map fun (i, x) => (i, rc x)).toList.length ∧
      ∀ (k : Nat) i u, (parts.toList.map fun p => (p.1, E p.2))[k]? = some (i, u) → ∃ x, (parts.map fun (i, x) => (i, rc x)).toList[k]? = some (i, x) ∧ RV g u x := by
  refine ⟨by simp, fun k i u hk => ?_⟩
  rw [List.getElem?_map] at hk
  cases hp : parts.toList[k]? with
  | none => simp [hp] at hk
  | some p =>
    simp only [hp, Option.map_some, Option.some.injEq, Prod.mk.injEq] at hk
    obtain ⟨rfl, rfl⟩ := hk
    refine ⟨rc p.2, ?_, h p.2 (List.mem_map_of_mem (List.mem_of_getElem? hp))⟩
    have hp' : parts[k]? = some p := by simpa using hp
    simp [hp']

theorem OpS.buildSt {t : TypeId} {parts : Array (Nat × Operand)} {l : List (Nat × Nat × Bool)} {z v : V} (hl : layOf P t = some l) (hz : ZeroV P t z)
    (hok : fillOK (placeSt l) z (parts.toList.map fun p => (p.1, E p.2))) (hv : setParts z (parts.toList.map fun p => (p.1, E p.2)) = v) (ha : v.isAgg = true) : OpS P ⟨dst, .build t parts, ty, pos, aft, gd⟩ E H v H :=
  .quiet fun g rc w h _ => by
    obtain ⟨val, h1, h2, h3⟩ := hz.run w g
    obtain ⟨cells', e1, e2⟩ := fill_rc h2 hok (partsRel (rc := rc) fun x hx => h x (by simpa [Op.operands] using hx))
    refine ⟨.agg cells', ?_, by rw [← hv] at ha ⊢; exact RC.agg ha e2⟩
    have hu : ∃ fs, P.underlying t = some (.struct fs) ∧ fs.toList.mapM (fun f => match szOf P f.type, aggOf P f.type with | some n, some b => some (f.offset, n, b) | _, _ => none) = some l := by
      unfold layOf at hl
      split at hl
      · rename_i fs hfs; exact ⟨fs, hfs, hl⟩
      · cases hl
    obtain ⟨fs, hfs, hlay⟩ := hu
    have hplaces : (fs.mapM (fun f => (do pure (f.offset, ← sizeOf f.type) : Sem (Nat × Nat)))).run P w = .ok (l.map fun x => (x.1, x.2.1)).toArray w := by
      rw [Array.mapM_eq_mapM_toList, Sem.run_map]
      have : (fs.toList.mapM (fun f => (do pure (f.offset, ← sizeOf f.type) : Sem (Nat × Nat)))).run P w = .ok (fs.toList.map fun f => (f.offset, (szOf P f.type).getD 0)) w := by
        refine run_mapM_array _ _ w _ fun f hf => ?_
        obtain ⟨k, hk, hfk⟩ := List.mem_iff_getElem.1 hf
        have hkl : k < l.length := by rw [mapM_len hlay]; exact hk
        obtain ⟨f', hf', hy⟩ := mapM_get hlay (List.getElem?_eq_getElem hkl)
        rw [List.getElem?_eq_getElem hk, hfk] at hf'
        cases hf'
        split at hy
        · rename_i n b hn hb
          simp only [Sem.run_bind, run_sizeOf' hn, Result.andThen_ok, Sem.run_pure, hn, Option.getD_some]
        · cases hy
      rw [this]
      simp only [Result.andThen_ok]
      congr 2
      apply List.ext_getElem?
      intro k
      simp only [List.getElem?_map]
      by_cases hkl : k < l.length
      · obtain ⟨f', hf', hy⟩ := mapM_get hlay (List.getElem?_eq_getElem hkl)
        rw [hf', List.getElem?_eq_getElem hkl]
        split at hy
        · rename_i n b hn hb
          simp only [Option.some.injEq] at hy
          simp [← hy, hn]
        · cases hy
      · rw [List.getElem?_eq_none (Nat.le_of_not_lt hkl), List.getElem?_eq_none (by rw [← mapM_len hlay]; exact Nat.le_of_not_lt hkl)]
        rfl
    have hplace : (fun i => (l.map fun x => (x.1, x.2.1)).toArray[i]?) = placeSt l := by
      funext i
      simp [placeSt]
    simp only [execOp, Instr.build, Sem.run_bind, h1, Result.andThen_ok, run_underlying hfs, hplaces, hplace, e1, Sem.run_pure]

theorem OpS.buildArr {t : TypeId} {parts : Array (Nat × Operand)} {len e : Nat} {b : Bool} {z v : V} (hl : arrOf P t = some (len, e, b)) (hz : ZeroV P t z)
    (hok : fillOK (fun i => some (i * e, e)) z (parts.toList.map fun p => (p.1, E p.2))) (hv : setParts z (parts.toList.map fun p => (p.1, E p.2)) = v) (ha : v.isAgg = true) : OpS P ⟨dst, .build t parts, ty, pos, aft, gd⟩ E H v H :=
  .quiet fun g rc w h _ => by
    obtain ⟨val, h1, h2, h3⟩ := hz.run w g
    obtain ⟨et, hut, hsz, hag⟩ := arrOf_get hl
    obtain ⟨cells', e1, e2⟩ := fill_rc h2 hok (partsRel (rc := rc) fun x hx => h x (by simpa [Op.operands] using hx))
    refine ⟨.agg cells', ?_, by rw [← hv] at ha ⊢; exact RC.agg ha e2⟩
    simp only [execOp, Instr.build, Sem.run_bind, h1, Result.andThen_ok, run_underlying hut, run_sizeOf' hsz, e1, Sem.run_pure]

/-- Values told one after the other. -/
def seqParts : Nat → List V → List (Nat × V)
  | _, [] => []
  | k, v :: vs => (k, v) :: seqParts (k + 1) vs

theorem fill_seq {g : Gh} {e : Nat} : ∀ {vs : List V} {xs : List (Nat × Value)} {k : Nat} {cells : Array Value} {done junk : List Value}, cells.toList = done ++ junk → done.length = k * e → junk.length = vs.length * e →
    (∀ v ∈ vs, okV v = true ∧ flen v = e) →
    ((seqParts k vs).length = xs.length ∧ ∀ (j : Nat) i u, (seqParts k vs)[j]? = some (i, u) → ∃ x, xs[j]? = some (i, x) ∧ RV g u x) →
    ∃ cells' c, Instr.fill (fun i => some (i * e, e)) cells xs = some cells' ∧ cells'.toList = done ++ c ∧ RCu g e vs c
  | [], [], k, cells, done, junk, h, _, hj, _, _ => ⟨cells, [], rfl, by simp at hj; subst hj; simpa using h, by simp [RCu]⟩
  | [], _ :: _, _, _, _, _, _, _, _, _, h => by simp [seqParts] at h
  | v :: vs, xs, k, cells, done, junk, h, hd, hj, hok, hxs => by
    obtain ⟨hlen, hget⟩ := hxs
    cases xs with
    | nil => simp [seqParts] at hlen
    | cons x0 xs =>
      obtain ⟨x, hx, hv⟩ := hget 0 k v rfl
      simp at hx; subst hx
      obtain ⟨hkv, hfl⟩ := hok v (by simp)
      obtain ⟨_, hc⟩ := hv.ok hkv
      have hxl : x.cells.size = e := by rw [← hfl, ← hc.len]; simp
      have hsz : cells.size = done.length + junk.length := by
        have := congrArg List.length h
        simpa using this
      have hjl : junk.length = e + vs.length * e := by rw [hj]; simp [Nat.succ_mul, Nat.add_comm]
      obtain ⟨cells', q1, q2⟩ := fill_one (fun i => some (i * e, e)) cells k (k * e) e x xs rfl hxl (by omega)
      have hrow : cells'.toList = (done ++ x.cells.toList) ++ junk.drop e := by
        rw [q1, h, ← hd, List.take_left, List.drop_append]
        rw [List.drop_eq_nil_of_le (by omega), List.nil_append, show done.length + e - done.length = e from by omega]
      obtain ⟨cells'', c, r1, r2, r3⟩ := fill_seq (vs := vs) (k := k + 1) hrow (by simp [hd, hxl, Nat.succ_mul]) (by simp [hjl]) (fun u hu => hok u (by simp [hu]))
        ⟨by simpa [seqParts] using hlen, fun j i u hj => hget (j + 1) i u (by simpa [seqParts] using hj)⟩
      refine ⟨cells'', x.cells.toList ++ c, by rw [q2, r1], by rw [r2]; simp, ?_⟩
      simp only [RCu]
      exact ⟨_, c, rfl, by simpa using hxl, hc, r3⟩

theorem OpS.buildSlice {t et : TypeId} {len : Nat} {parts : Array (Nat × Operand)} {e by_ : Nat} {b : Bool} {z : V} {vs : List V} (hl : sliOf P t = some (et, e, b, by_)) (hz : ZeroV P et z) (hze : flen z = e) (hlen : vs.length = len) (hsm : len * e ≤ 2 ^ 24)
    (hp : (parts.toList.map fun p => (p.1, E p.2)) = seqParts 0 vs) (hok : ∀ v ∈ vs, okV v = true ∧ flen v = e) : OpS P ⟨dst, .buildSlice t len parts, ty, pos, aft, gd⟩ E H (.sl e .exact vs) H := by
  intro g rc w h hr
  obtain ⟨hut, hsz, _, _⟩ := sliOf_get hl
  obtain ⟨val, h1, h2, h3⟩ := hz.run w g
  have hvs : val.cells.size = e := by rw [← hze, ← h2.len]; simp
  have hpr := partsRel (E := E) (rc := rc) (parts := parts) (g := g) fun x hx => h x (by simpa [Op.operands] using hx)
  rw [hp] at hpr
  have key : ∀ zz : Array Value, ∃ cells' c, Instr.fill (fun i => some (i * e, e)) ((Array.range (len * e)).map (zz[· % zz.size]!)) (parts.map fun (i, x) => (i, rc x)).toList = some cells' ∧ cells'.toList = c ∧ RCu g e vs c := by
    intro zz
    obtain ⟨cells', c, q1, q2, q3⟩ := fill_seq (g := g) (e := e) (vs := vs) (k := 0) (done := []) (junk := ((Array.range (len * e)).map (zz[· % zz.size]!)).toList) (cells := (Array.range (len * e)).map (zz[· % zz.size]!)) (by simp) (by simp) (by simp [hlen]) hok hpr
    exact ⟨cells', c, q1, by simpa using q2, q3⟩
  have hrun : ∃ (cells' : Array Value) (c : List Value), cells'.toList = c ∧ RCu g e vs c ∧ (execOp rc ⟨dst, .buildSlice t len parts, ty, pos, aft, gd⟩).run P w = .ok (.value (.slice (some ⟨w.heap.size, 0, none⟩) len len)) (w.alloc (.cells cells' et)) := by
    by_cases h0 : len * e = 0
    · obtain ⟨cells', c, q1, q2, q3⟩ := key #[]
      refine ⟨cells', c, q2, q3, ?_⟩
      simp only [execOp, Instr.buildSlice, Sem.run_bind, run_underlying hut, Result.andThen_ok, run_sizeOf' hsz]
      rw [if_neg (by omega), if_pos h0]
      simp only [Sem.run_bind, Sem.run_pure, Result.andThen_ok]
      rw [q1]
      simp [newRow]
    · obtain ⟨cells', c, q1, q2, q3⟩ := key val.cells
      refine ⟨cells', c, q2, q3, ?_⟩
      simp only [execOp, Instr.buildSlice, Sem.run_bind, run_underlying hut, Result.andThen_ok, run_sizeOf' hsz]
      rw [if_neg (by omega), if_neg h0]
      simp only [Sem.run_bind, Sem.run_pure, Result.andThen_ok, h1]
      rw [q1]
      simp [newRow]
  obtain ⟨cells', c, q1, q2, hrun⟩ := hrun
  rw [hrun]
  have hr2 := hr.lay cells' et c [] (by simp [q1])
  have hev2 := Ev.lay hr (.cells cells' et) c
  refine ⟨_, ?_, hr2, hev2⟩
  refine RV.of_leaf rfl ?_
  simp only [RC]
  exact ⟨some ⟨w.heap.size, 0, none⟩, len, by rw [hlen], by omega, hlen.symm, c, q2.mono hev2.le, (fun h => by cases h), fun ad h => by cases h; exact ⟨fun _ => rfl, Gh.put_holds⟩⟩

theorem OpS.len {t et : TypeId} {x : Operand} {vx : V} {e e' by_ : Nat} {b : Bool} {ys : List V} (hl : sliOf P t = some (et, e, b, by_)) (hx : E x = vx) (hrd : vx.sub (.sl e' .no ys)) :
    OpS P ⟨dst, .call ⟨.builtin .len, #[x], #[t]⟩, ty, pos, aft, gd⟩ E H (.int .i64 ys.length) H :=
  .quiet fun g rc w h hr => by
    obtain ⟨hut, _⟩ := sliOf_get hl
    obtain ⟨a, cap, ex, _⟩ := (hrd g _ (hx ▸ h x (by simp [Op.operands, Call.operands]))).sl_eq
    exact ⟨.int .i64 ys.length, by simp [execOp, resolve, invoke, Go.builtin, Builtin.len_, run_underlying hut, ex, goInt], RV.int g _ _⟩

theorem OpS.lenO {t et : TypeId} {x : Operand} {e e' by_ : Nat} {b : Bool} {o : Nat} {path : List Nat} {off lo len cap : Nat} (hl : sliOf P t = some (et, e, b, by_)) (hx : E x = .slo e' o path off lo len cap) :
    OpS P ⟨dst, .call ⟨.builtin .len, #[x], #[t]⟩, ty, pos, aft, gd⟩ E H (.int .i64 len) H :=
  .quiet fun g rc w h hr => by
    obtain ⟨hut, _⟩ := sliOf_get hl
    obtain ⟨p, _, a, c, ex, _⟩ := (hx ▸ h x (by simp [Op.operands, Call.operands])).slo_eq
    exact ⟨.int .i64 len, by simp [execOp, resolve, invoke, Go.builtin, Builtin.len_, run_underlying hut, ex, goInt], RV.int g _ _⟩

theorem OpS.lenS {t : TypeId} {x : Operand} {s : ByteArray} (hl : P.underlying t = some .string) (hx : E x = .str s) :
    OpS P ⟨dst, .call ⟨.builtin .len, #[x], #[t]⟩, ty, pos, aft, gd⟩ E H (.int .i64 s.size) H :=
  .quiet fun g rc w h hr => by
    have ex := (hx ▸ h x (by simp [Op.operands, Call.operands])).str_eq
    exact ⟨.int .i64 s.size, by simp [execOp, resolve, invoke, Go.builtin, Builtin.len_, run_underlying hl, ex, goInt], RV.int g _ _⟩

theorem OpS.bmax {x y : Operand} {ats : Array TypeId} {k : IntKind} {a b : Int} (hx : E x = .int k a) (hy : E y = .int k b) : OpS P ⟨dst, .call ⟨.builtin .max, #[x, y], ats⟩, ty, pos, aft, gd⟩ E H (.int k (max a b)) H :=
  .quiet fun g rc w h hr => by
    have ex := (hx ▸ h x (by simp [Op.operands, Call.operands])).int_eq
    have ey := (hy ▸ h y (by simp [Op.operands, Call.operands])).int_eq
    refine ⟨.int k (max a b), ?_, RV.int g _ _⟩
    have : max a b = if b > a then b else a := by by_cases hq : b > a <;> simp [hq] <;> omega
    simp [execOp, resolve, invoke, Go.builtin, Builtin.max_, Builtin.max2, ex, ey, this]

theorem OpS.bmin {x y : Operand} {ats : Array TypeId} {k : IntKind} {a b : Int} (hx : E x = .int k a) (hy : E y = .int k b) : OpS P ⟨dst, .call ⟨.builtin .min, #[x, y], ats⟩, ty, pos, aft, gd⟩ E H (.int k (min a b)) H :=
  .quiet fun g rc w h hr => by
    have ex := (hx ▸ h x (by simp [Op.operands, Call.operands])).int_eq
    have ey := (hy ▸ h y (by simp [Op.operands, Call.operands])).int_eq
    refine ⟨.int k (min a b), ?_, RV.int g _ _⟩
    have : min a b = if b < a then b else a := by by_cases hq : b < a <;> simp [hq] <;> omega
    simp [execOp, resolve, invoke, Go.builtin, Builtin.min_, Builtin.min2, ex, ey, this]

end

/-! What a function hands out. -/

def readRes (tmps : Array Value) : ResultVar → Sem Value
  | .tmp t => pure (tmps.getD t Go.undef)
  | .cell a t => do loadVar t (← asAddr (tmps.getD a Go.undef))

theorem results_eq (fn : Func) (tmps : Array Value) : results fn tmps = (fn.results.mapM (readRes tmps) >>= fun vs => pure (if h : vs.size = 1 then vs[0] else .tuple vs)) := by
  unfold results
  congr 1

inductive ResV (P : Program) (s : St) : ResultVar → V → Prop where
  | tmp {t : Tmp} {v : V} (h : look s.env t = v) (hk : okV v = true) : ResV P s (.tmp t) v
  | cell {a : Tmp} {ty : TypeId} {n : Nat} {b : Bool} {o : Nat} {path : List Nat} {off : Nat} {u v : V} (hs : szOf P ty = some n) (hag : aggOf P ty = some b)
      (hx : look s.env a = .ptr o path off) (ho : s.H[o]? = some (.cells u)) (hu : u.at path = some v) (hoff : u.offOf path 0 = off) (hn : flen v = n) (hb : v.isAgg = b) : ResV P s (.cell a ty) v
  | cellC {a : Tmp} {ty : TypeId} {n : Nat} {b : Bool} {u : V} (hs : szOf P ty = some n) (hag : aggOf P ty = some b) (hx : look s.env a = .cptr u) (hn : flen u = n) (hb : u.isAgg = b) : ResV P s (.cell a ty) u

theorem ResV.run {P : Program} {s : St} {r : ResultVar} {v : V} (h : ResV P s r v) {g : Gh} {n : Nat} {a : Act} {w : World} (ha : RAct g n s.env a) (hr : HR g s.H w) :
    ∃ x, (readRes a.tmps r).run P w = .ok x w ∧ RV g v x ∧ okV v = true := by
  cases h with
  | @tmp t v h hk => exact ⟨_, rfl, h ▸ ha.env t, hk⟩
  | @cell ad ty n' b o path off u v hs hag hx ho hu hoff hn hb =>
    obtain ⟨p, q1, q2⟩ := (hx ▸ ha.env ad).ptr_eq
    obtain ⟨c, hc, hcell⟩ := hr.cells q1 ho hu
    subst hoff
    refine ⟨mkVal b c, ?_, mkVal_rv hb hc, ?_⟩
    · have := run_loadVar' (P := P) (a := ⟨p.block, u.offOf path 0, none⟩) rfl hs hag (hc.len.trans hn) (fun e => by subst e; rw [← hn, flen_leaf hb]) w hcell
      simp only [readRes, Sem.run_bind, q2, asAddr, Sem.run_pure, Result.andThen_ok, this]
    · cases v <;> first | rfl | (simp only [RC] at hc)
  | @cellC ad ty n' b u hs hag hx hn hb =>
    obtain ⟨a', c, q1, q2, hc, q4⟩ := (hx ▸ ha.env ad).cptr_eq
    refine ⟨mkVal b c, ?_, mkVal_rv hb hc, ?_⟩
    · have := run_loadVar' (P := P) (a := a') q1 hs hag (hc.len.trans hn) (fun e => by subst e; rw [← hn, flen_leaf hb]) w (fun i y hy => hr.agree _ _ _ (q4 i y hy))
      simp only [readRes, Sem.run_bind, q2, asAddr, Sem.run_pure, Result.andThen_ok, this]
    · cases v <;> first | rfl | (simp only [RC] at hc)

inductive ResL (P : Program) (s : St) : List ResultVar → List V → Prop where
  | nil : ResL P s [] []
  | cons {r : ResultVar} {v : V} {rs : List ResultVar} {vs : List V} (h : ResV P s r v) (t : ResL P s rs vs) : ResL P s (r :: rs) (v :: vs)

theorem ResL.run {P : Program} {s : St} {rs : List ResultVar} {vs : List V} (h : ResL P s rs vs) {g : Gh} {n : Nat} {a : Act} {w : World} (ha : RAct g n s.env a) (hr : HR g s.H w) :
    ∃ xs, (rs.mapM (readRes a.tmps)).run P w = .ok xs w ∧ RVl g vs xs := by
  induction h with
  | nil => exact ⟨[], by simp, by simp [RVl]⟩
  | @cons r v rs vs h _ ih =>
    obtain ⟨x, h1, h2, h3⟩ := h.run ha hr
    obtain ⟨xs, h4, h5⟩ := ih
    obtain ⟨q1, q2⟩ := h2.ok h3
    refine ⟨x :: xs, ?_, by simp only [RVl]; exact ⟨x, xs, rfl, q1, q2, h5⟩⟩
    rw [List.mapM_cons, Sem.run_bind, h1]
    simp only [Result.andThen_ok, Sem.run_bind, h4, Sem.run_pure]

theorem ResOK.one {P : Program} {fn : Func} {n : Nat} {s : St} {r : ResultVar} {v : V} (hr : fn.results = #[r]) (h : ResV P s r v) : ResOK P fn n s v := by
  intro g a w ha hrel
  obtain ⟨x, h1, h2, _⟩ := h.run ha hrel
  refine ⟨x, ?_, h2⟩
  rw [results_eq, Sem.run_bind, hr, Array.mapM_eq_mapM_toList, Sem.run_map]
  have : ([r].mapM (readRes a.tmps)).run P w = .ok [x] w := by
    rw [List.mapM_cons, Sem.run_bind, h1]; simp
  rw [this]
  simp

theorem ResOK.many {P : Program} {fn : Func} {n : Nat} {s : St} {rs : List ResultVar} {vs : List V} (hr : fn.results.toList = rs) (h : ResL P s rs vs) (h1 : vs.length ≠ 1) : ResOK P fn n s (.tup vs) := by
  intro g a w ha hrel
  obtain ⟨xs, h2, h3⟩ := h.run ha hrel
  refine ⟨.tuple xs.toArray, ?_, ⟨xs.toArray, rfl, by simpa using h3⟩⟩
  have hl : xs.length = vs.length := h3.rvs.len
  rw [results_eq, Sem.run_bind, Array.mapM_eq_mapM_toList, Sem.run_map, hr, h2]
  simp only [Result.andThen_ok, Sem.run_pure]
  rw [dif_neg (by simp; omega)]

end Go.Av
