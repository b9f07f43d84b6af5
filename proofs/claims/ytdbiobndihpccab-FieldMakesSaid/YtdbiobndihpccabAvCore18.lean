/- Rules on typed values: append. -/
import Derived.Test.YtdbiobndihpccabAvCore17
namespace Go.Av
set_option linter.unusedSimpArgs false
set_option linter.unusedVariables false
set_option linter.unusedSectionVars false

section
variable {P : Program} {E : Operand → V} {H : List AObj} {dst : Option Tmp} {ty : TypeId} {pos : String} {aft : Array Edge} {gd : Option (Nat × Bool)}

theorem OpS.appT {α : Type} {f : α → V} {st xt et xe : TypeId} {x y : Operand} {e by_ : Nat} {eag : Bool} {z : V} {xs ys zs : List α} {o : Nat} {vy : V} {H2 : List AObj} (hst : sliOf P st = some (et, e, eag, by_))
    (hxt : P.underlying xt = some (.slice xe)) (hz : ZeroV P et z) (hze : flen z = e) (hby : 0 < by_) (hx : E x = .sl e (.tok o) (xs.map f)) (ho : H[o]? = some .tail) (hy : E y = vy) (hrd : Rd vy H e (ys.map f))
    (hr : app by_ xs ys = some zs) (hH : H.set o .dead ++ [.tail] = H2) :
    OpS P ⟨dst, .call ⟨.builtin .append, #[x, y], #[st, xt]⟩, ty, pos, aft, gd⟩ E H (.sl e (.tok H.length) (zs.map f)) H2 := by
  obtain ⟨h1, rfl⟩ := app_get hr
  subst hH
  rw [List.map_append]
  exact .append hst hxt hz hze hby hx ho hy hrd (by simpa using h1)

theorem OpS.appX {α : Type} {f : α → V} {st xt et xe : TypeId} {x y : Operand} {e by_ : Nat} {eag : Bool} {z : V} {xs ys zs : List α} {vx vy : V} {H2 : List AObj} (hst : sliOf P st = some (et, e, eag, by_))
    (hxt : P.underlying xt = some (.slice xe)) (hz : ZeroV P et z) (hze : flen z = e) (hby : 0 < by_) (hx : E x = vx) (hxs : vx.sub (.sl e .exact (xs.map f))) (hy : E y = vy) (hrd : Rd vy H e (ys.map f))
    (hr : app by_ xs ys = some zs) (hH : H ++ [.tail] = H2) :
    OpS P ⟨dst, .call ⟨.builtin .append, #[x, y], #[st, xt]⟩, ty, pos, aft, gd⟩ E H (.sl e (.tok H.length) (zs.map f)) H2 := by
  obtain ⟨h1, rfl⟩ := app_get hr
  subst hH
  rw [List.map_append]
  exact .appendX hst hxt hz hze hby hx hxs hy hrd (by simpa using h1)

/-- A new block that is a buffer. -/
theorem new_buf {g : Gh} {w : World} (hr : HR g H w) {et : TypeId} {e : Nat} {xs ys : List V} {c0 c : List Value} {zv : Value} {newCap : Nat} (hzs : zv.cells.size = e)
    (hc0 : RCu g e xs c0) (hc : RCu g e ys c) (hnc : xs.length + ys.length ≤ newCap) :
    ∃ g', RV g' (.slo e H.length [] 0 0 (xs ++ ys).length 1) (.slice (some ⟨w.heap.size, 0, none⟩) (xs.length + ys.length) newCap) ∧
      HR g' (H ++ [.buf e (xs ++ ys)]) (w.drew.alloc (.cells (c0.toArray ++ c.toArray ++ Builtin.zeroCells zv.cells (newCap - (xs.length + ys.length))) et)) ∧
      Ev g H w g' (H ++ [.buf e (xs ++ ys)]) (w.drew.alloc (.cells (c0.toArray ++ c.toArray ++ Builtin.zeroCells zv.cells (newCap - (xs.length + ys.length))) et)) := by
  have hsize : (Builtin.zeroCells zv.cells (newCap - (xs.length + ys.length))).size = (newCap - (xs.length + ys.length)) * e := by rw [zeroCells_size, hzs]
  generalize Builtin.zeroCells zv.cells (newCap - (xs.length + ys.length)) = rest at *
  have hr1 : HR g H w.drew := hr.drew rfl
  have hcat := hc0.append hc
  have hlc : (c0 ++ c).length = (xs.length + ys.length) * e := by rw [hcat.len, List.length_append]
  have hcs : (c0.toArray ++ c.toArray ++ rest).size = newCap * e := by
    have h1 : (c0.toArray ++ c.toArray ++ rest).size = (c0 ++ c).length + rest.size := by simp
    rw [h1, hlc, hsize, ← Nat.add_mul]
    congr 1; omega
  have hws : w.drew.heap.size = w.heap.size := rfl
  let p : Place := ⟨w.heap.size, 0, newCap * e, false⟩
  have hb := heap_alloc_eq w.drew (.cells (c0.toArray ++ c.toArray ++ rest) et)
  rw [hws] at hb
  have hev1 : Ev g H w g H w.drew := Ev.drew rfl rfl rfl rfl (by show w.drawn ≤ w.drawn + 1; omega)
  refine ⟨{ g with ρ := g.ρ ++ [p] }, ?_, hr1.alloc _ _ p rfl ?_, hev1.trans (.alloc hr1 _ _ p rfl)⟩
  · refine RV.of_leaf rfl ?_
    simp only [RC]
    refine ⟨p, ?_, some ⟨w.heap.size, 0, none⟩, newCap, by simp, by simpa using hnc, .inr ⟨by simp [p], fun _ => ⟨rfl, by simp [p]⟩⟩⟩
    show (g.ρ ++ [p])[H.length]? = some p
    rw [← hr.len]; simp
  · exact .inr ⟨rfl, _, et, hb, ⟨c0 ++ c, rest.toList, by simp, hcat.mono (g.le_push _)⟩, hcs, fun i => hr.fresh (Nat.le_refl _) i⟩

theorem OpS.appNew {st xt et xe : TypeId} {x y : Operand} {e by_ : Nat} {eag : Bool} {z : V} {ys : List V} {vx vy : V} {H2 : List AObj} (hst : sliOf P st = some (et, e, eag, by_))
    (hxt : P.underlying xt = some (.slice xe)) (hz : ZeroV P et z) (hze : flen z = e) (hby : 0 < by_) (hx : E x = vx) (hxs : vx.sub (.sl e .exact [])) (hy : E y = vy) (hrd : Rd vy H e ys)
    (hroom : ys.length * by_ ≤ 2 ^ 47) (hH : H ++ [.buf e ys] = H2) :
    OpS P ⟨dst, .call ⟨.builtin .append, #[x, y], #[st, xt]⟩, ty, pos, aft, gd⟩ E H (.slo e H.length [] 0 0 ys.length 1) H2 := by
  subst hH
  intro g rc w h hr
  obtain ⟨base, sCap, ex, hlen, htk, c0, hc0, hnone, hsome⟩ := (hxs g _ (hx ▸ h x (by simp [Op.operands, Call.operands]))).sl_eq
  obtain ⟨a, cap, c, ey, hc, ha, hcell⟩ := hrd g w _ (hy ▸ h y (by simp [Op.operands, Call.operands])) hr
  rw [run_append_exec ex ey]
  simp only [Tk.ok] at htk
  simp only [RCu] at hc0
  subst hc0
  rcases Nat.lt_or_ge sCap (([] : List V).length + ys.length) with hgrow | hfit
  · obtain ⟨val, hv1, hv2, _⟩ := hz.run w.drew g
    obtain ⟨newCap, hnc, hrun⟩ := run_append_new (P := P) (ty := ty) (w := w) (sCap := sCap) (cap := cap) (xs := []) (c0 := []) hst hxt hgrow hby (by simpa using hroom) hv1 rfl hc ha hcell rfl (by simp [RCu])
      (fun e => rfl) (fun ad e => ⟨fun h => absurd rfl h, fun i y hy => by simp at hy⟩)
    rw [hrun]
    simp only [Result.andThen_ok]
    have hzs : val.cells.size = e := by rw [← hze, ← hv2.len]; simp
    obtain ⟨g', h1, h2, h3⟩ := new_buf hr (et := et) (xs := []) (c0 := []) hzs (by simp [RCu]) hc hnc
    exact ⟨g', h1, h2, h3⟩
  · rw [run_append_in (P := P) (ty := ty) (w := w) (sCap := sCap) (cap := cap) hst hxt hfit rfl hc ha hcell]
    have hys : ys = [] := List.eq_nil_of_length_eq_zero (by simp at hfit htk; omega)
    subst hys
    simp only [RCu] at hc
    subst hc
    have hnop : (putIn base (([] : List V).length * e) []).run P w = .ok () w := by cases base <;> rfl
    rw [hnop]
    simp only [Result.andThen_ok]
    have hadd : HR { g with ρ := g.ρ ++ [⟨0, 0, 0, true⟩] } (H ++ [.buf e []]) w := hr.add ⟨0, 0, 0, true⟩ (.buf e []) (.inl ⟨rfl, rfl⟩) (fun h => by simp [Place.own] at h)
    refine ⟨_, ?_, hadd, ⟨g.le_push _, rfl, rfl, rfl, Nat.le_refl _, Nat.le_refl _, fun _ _ _ => rfl, fun _ _ _ _ => rfl, ?_⟩⟩
    · refine RV.of_leaf rfl ?_
      simp only [RC]
      refine ⟨⟨0, 0, 0, true⟩, by show (g.ρ ++ [_])[H.length]? = _; rw [← hr.len]; simp, base, sCap, by simp, by simp, .inl ⟨rfl, by simp at htk; exact htk⟩⟩
    · rintro b ⟨a', q, ob1, h1, h2, l1, e'⟩
      rcases Nat.lt_or_ge a' g.ρ.length with hlt | hge
      · exact .inl ⟨a', q, ob1, by rwa [List.getElem?_append_left hlt] at h1, by rwa [List.getElem?_append_left (hr.len ▸ hlt)] at h2, l1, e'⟩
      · have hle : a' < (g.ρ ++ [(⟨0, 0, 0, true⟩ : Place)]).length := (List.getElem?_eq_some_iff.1 h1).1
        have : a' = g.ρ.length := by simp at hle; omega
        subst this
        rw [List.getElem?_append_right (Nat.le_refl _)] at h1
        rw [hr.len, List.getElem?_append_right (Nat.le_refl _)] at h2
        simp at h1 h2
        subst h1 h2
        simp [Place.own] at l1

/-- An object moved to another number. -/
theorem HR.move {g : Gh} {w w' : World} (hr : HR g H w) {o : Nat} {p : Place} {ob ob' : AObj} (hp : g.ρ[o]? = some p) (ho : H[o]? = some ob) (hl : p.own ob = true)
    (hI : ∀ i, g.I p.block i = none) (hk : ∀ b, b ≠ p.block → w'.heap[b]? = w.heap[b]?) (hn : ORel { g with ρ := g.ρ ++ [p] } w' p ob')
    (h1 : w'.os = w.os) (h2 : w'.tape = w.tape) (h3 : w'.output = w.output) (h4 : w.heap.size ≤ w'.heap.size) (h5 : w.drawn ≤ w'.drawn) :
    HR { g with ρ := g.ρ ++ [p] } (H.set o .dead ++ [ob']) w' ∧ Ev g H w { g with ρ := g.ρ ++ [p] } (H.set o .dead ++ [ob']) w' := by
  have hw := hr.write (ob' := .dead) hp ho hl hI hk trivial
  have hv := Ev.write (g := g) (H := H) (ob' := .dead) hp ho hl hk h1 h2 h3 h4 h5
  have hlive : ∀ (a : Nat) (q : Place) (ob1 : AObj), g.ρ[a]? = some q → (H.set o .dead)[a]? = some ob1 → q.own ob1 = true → q.block ≠ p.block := by
    intro a q ob1 k1 k2 l1 e
    by_cases ea : a = o
    · subst ea
      rw [List.getElem?_set_self (List.getElem?_eq_some_iff.1 ho).1] at k2
      cases k2
      simp [Place.own] at l1
    · rw [List.getElem?_set_ne (Ne.symm ea)] at k2
      exact ea (hr.inj a o q p ob1 ob k1 hp k2 ho l1 hl e)
  refine ⟨hw.add p ob' hn fun _ a q ob1 => hlive a q ob1, ⟨g.le_push _, h1, h2, h3, h4, h5, hv.keep, fun b i _ _ => rfl, fun b hb => ?_⟩⟩
  rcases Lv.push (g := g) (H := H.set o .dead) (by simp [hr.len]) hb with hl' | hl'
  · exact hv.live b hl'
  · exact .inl ⟨o, p, ob, hp, ho, hl, hl'⟩

theorem RCu.snoc {g : Gh} {e : Nat} {xs ys : List V} {c d j : List Value} {cs : Array Value} {off : Nat} (h : RCu g e xs c) (k : RCu g e ys d) (hc : cs.toList = c ++ j) (ho : off = xs.length * e) (hf : off + d.length ≤ cs.size) :
    ∃ j', (cs.toList.take (off + 0) ++ d ++ cs.toList.drop (off + 0 + d.length)).toArray.toList = (c ++ d) ++ j' ∧ RCu g e (xs ++ ys) (c ++ d) ∧ (cs.toList.take (off + 0) ++ d ++ cs.toList.drop (off + 0 + d.length)).toArray.size = cs.size := by
  refine ⟨cs.toList.drop (off + 0 + d.length), ?_, h.append k, by simp; omega⟩
  have hl : c.length = off := by rw [h.len, ho]
  show cs.toList.take (off + 0) ++ d ++ _ = _
  rw [Nat.add_zero, ← hl, hc, List.take_left]

theorem OpS.appOwn {st xt et xe : TypeId} {x y : Operand} {e by_ : Nat} {eag : Bool} {z : V} {vs ys : List V} {o len : Nat} {vy : V} {H2 : List AObj} (hst : sliOf P st = some (et, e, eag, by_))
    (hxt : P.underlying xt = some (.slice xe)) (hz : ZeroV P et z) (hze : flen z = e) (hby : 0 < by_) (hx : E x = .slo e o [] 0 0 len 1) (ho : H[o]? = some (.buf e vs)) (hlen : len = vs.length) (hy : E y = vy) (hrd : Rd vy H e ys)
    (hroom : (vs.length + ys.length) * by_ ≤ 2 ^ 47) (hH : H.set o .dead ++ [.buf e (vs ++ ys)] = H2) :
    OpS P ⟨dst, .call ⟨.builtin .append, #[x, y], #[st, xt]⟩, ty, pos, aft, gd⟩ E H (.slo e H.length [] 0 0 (vs ++ ys).length 1) H2 := by
  subst hH hlen
  intro g rc w h hr
  obtain ⟨p, hp, base, sCap, ex, hle, hcase⟩ := (hx ▸ h x (by simp [Op.operands, Call.operands])).slo_eq
  obtain ⟨a, cap, c, ey, hc, ha, hcell⟩ := hrd g w _ (hy ▸ h y (by simp [Op.operands, Call.operands])) hr
  rw [run_append_exec ex ey]
  have hlk : (H.set o AObj.dead).length = H.length := by simp
  -- what the buffer holds
  have hbuf : ∃ c0, RCu g e vs c0 ∧ (base = none → vs = []) ∧ (∀ ad, base = some ad → (vs ≠ [] → ad.spot = none) ∧ ∀ (i : Nat) y, c0[i]? = some y → w.cell? ⟨ad.block, ad.off + i, none⟩ = some y) := by
    rcases hr.obj o p _ hp ho with ⟨hv, rfl⟩ | ⟨hv, cs, cty, h1, ⟨c0, j, h2, h3⟩, h4⟩
    · exact ⟨[], by simp [RCu], fun _ => rfl, fun ad _ => ⟨fun h => absurd rfl h, fun i y hy => by simp at hy⟩⟩
    · obtain ⟨rfl, _⟩ := hcase.resolve_left (fun hc => by rw [hv] at hc; cases hc.1)
      refine ⟨c0, h3, (fun h => by cases h), fun ad h => ?_⟩
      cases h
      refine ⟨fun _ => rfl, fun i y hy => ?_⟩
      simp only [World.cell?, h1]
      have : cs.toList[i]? = some y := by rw [h2, List.getElem?_append_left (List.getElem?_eq_some_iff.1 hy).1]; exact hy
      simpa using this
  obtain ⟨c0, hc0, hb0, hcell0⟩ := hbuf
  rcases Nat.lt_or_ge sCap (vs.length + ys.length) with hgrow | hfit
  · have hrk := hr.kill o
    obtain ⟨val, hv1, hv2, _⟩ := hz.run w.drew g
    obtain ⟨newCap, hnc, hrun⟩ := run_append_new (P := P) (ty := ty) (w := w) (sCap := sCap) (cap := cap) hst hxt hgrow hby hroom hv1 rfl hc ha hcell rfl hc0 hb0 hcell0
    rw [hrun]
    simp only [Result.andThen_ok]
    have hzs : val.cells.size = e := by rw [← hze, ← hv2.len]; simp
    obtain ⟨g', h1, h2, h3⟩ := new_buf hrk (et := et) hzs hc0 hc hnc
    exact ⟨g', by simpa [hlk] using h1, h2, (Ev.kill o).trans h3⟩
  · rw [run_append_in (P := P) (ty := ty) (w := w) (sCap := sCap) (cap := cap) hst hxt hfit rfl hc ha hcell]
    rcases hcase with ⟨hv, rfl⟩ | ⟨rfl, hsz⟩
    · -- nothing there, nothing appended
      have hv0 : vs = [] := List.eq_nil_of_length_eq_zero (by omega)
      have hy0 : ys = [] := List.eq_nil_of_length_eq_zero (by omega)
      subst hv0 hy0
      simp only [RCu] at hc
      subst hc
      have hnop : (putIn base (([] : List V).length * e) []).run P w = .ok () w := by cases base <;> rfl
      rw [hnop]
      simp only [Result.andThen_ok]
      have hrk := hr.kill o
      have hadd := hrk.add ⟨0, 0, 0, true⟩ (.buf e []) (.inl ⟨rfl, rfl⟩) (fun h => by simp [Place.own] at h)
      refine ⟨_, ?_, hadd, (Ev.kill o).trans ⟨g.le_push _, rfl, rfl, rfl, Nat.le_refl _, Nat.le_refl _, fun _ _ _ => rfl, fun _ _ _ _ => rfl, ?_⟩⟩
      · refine RV.of_leaf rfl ?_
        simp only [RC]
        refine ⟨⟨0, 0, 0, true⟩, by show (g.ρ ++ [_])[H.length]? = _; rw [← hr.len]; simp, base, 0, by simp, by simp, .inl ⟨rfl, rfl⟩⟩
      · rintro b ⟨a', q, ob1, h1, h2, l1, e'⟩
        rcases Nat.lt_or_ge a' g.ρ.length with hlt | hge
        · exact .inl ⟨a', q, ob1, by rwa [List.getElem?_append_left hlt] at h1, by rwa [List.getElem?_append_left (hrk.len ▸ hlt)] at h2, l1, e'⟩
        · have hle' : a' < (g.ρ ++ [(⟨0, 0, 0, true⟩ : Place)]).length := (List.getElem?_eq_some_iff.1 h1).1
          have : a' = g.ρ.length := by simp at hle'; omega
          subst this
          rw [List.getElem?_append_right (Nat.le_refl _)] at h1
          rw [hrk.len, List.getElem?_append_right (Nat.le_refl _)] at h2
          simp at h1 h2
          subst h1 h2
          simp [Place.own] at l1
    · obtain ⟨hv, hcapsz⟩ := hsz rfl
      obtain ⟨_, cs, cty, hcs, ⟨c0', j, hcj, hc0'⟩, hcsz, hI⟩ := (hr.obj o p _ hp ho).resolve_left (fun h => by rw [hv] at h; cases h.1)
      have hown : p.own (.buf e vs) = true := by simp [Place.own, hv]
      have hlc : c.length = ys.length * e := hc.len
      have hmul : (vs.length + ys.length) * e ≤ sCap * e := Nat.mul_le_mul_right _ hfit
      rw [Nat.add_mul] at hmul
      have hfit2 : vs.length * e + c.length ≤ cs.size := by rw [hcsz]; simp at hcapsz; omega
      have hst' := run_storeCells_at P p.block (vs.length * e) cty c 0 cs w hcs (by omega) (fun v hv => hc.one v hv)
      have hadd : (⟨p.block, 0 + 0 * e, none⟩ : Addr).add (vs.length * e) = ⟨p.block, vs.length * e, none⟩ := by rw [add_addr]; simp
      simp only [putIn, hadd, hst', Result.andThen_ok]
      obtain ⟨j', k1, k2, k3⟩ := hc0'.snoc hc hcj rfl hfit2
      have hb := setRow_heap w p.block cs (cs.toList.take (vs.length * e + 0) ++ c ++ cs.toList.drop (vs.length * e + 0 + c.length)).toArray cty (0, 0) hcs
      obtain ⟨q1, q2⟩ := hr.move (w' := w.setRow p.block (cs.toList.take (vs.length * e + 0) ++ c ++ cs.toList.drop (vs.length * e + 0 + c.length)).toArray) (ob' := .buf e (vs ++ ys)) hp ho hown hI (fun b hb => setRow_other w p.block b _ hb)
        (.inr ⟨hv, _, cty, hb, ⟨c0' ++ c, j', k1, k2.mono (g.le_push _)⟩, by rw [k3, hcsz], hI⟩) rfl rfl rfl (by simp) (Nat.le_refl _)
      refine ⟨_, ?_, q1, q2⟩
      refine RV.of_leaf rfl ?_
      simp only [RC]
      exact ⟨p, by show (g.ρ ++ [p])[H.length]? = some p; rw [← hr.len]; simp, some ⟨p.block, 0 + 0 * e, none⟩, sCap, by simp, by simpa using hfit, .inr ⟨rfl, fun _ => ⟨hv, hcapsz⟩⟩⟩

/-- Reading a buffer of one's own. -/
theorem Rd.own {e o len q : Nat} {vs : List V} {H : List AObj} (ho : H[o]? = some (.buf e vs)) (hl : len = vs.length) : Rd (.slo e o [] 0 0 len q) H e vs := by
  subst hl
  intro g w x h hr
  obtain ⟨p, h1, a, cp, rfl, h3, h4⟩ := h.slo_eq
  rcases hr.obj o p _ h1 ho with ⟨hv, rfl⟩ | ⟨hv, cs, cty, k1, ⟨c, j, k2, k3⟩, k4⟩
  · exact ⟨a, cp, [], rfl, by simp [RCu], fun _ => rfl, fun ad _ => ⟨fun hn => absurd rfl hn, fun i y hy => by simp at hy⟩⟩
  · obtain ⟨rfl, _⟩ := h4.resolve_left (fun hc => by rw [hv] at hc; cases hc.1)
    refine ⟨_, cp, c, rfl, k3, (fun h => by cases h), fun ad h => ?_⟩
    cases h
    refine ⟨fun _ => rfl, fun i y hy => ?_⟩
    simp only [World.cell?, k1]
    have : cs.toList[i]? = some y := by rw [k2, List.getElem?_append_left (List.getElem?_eq_some_iff.1 hy).1]; exact hy
    simpa using this
end
end Go.Av
