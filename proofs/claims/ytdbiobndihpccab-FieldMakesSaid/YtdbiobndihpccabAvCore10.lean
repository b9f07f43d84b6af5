/- Operations over abstract values: append, len, max, min, literals; what a function hands out. -/
import Derived.Test.YtdbiobndihpccabAvCore9
namespace Go.Av
set_option linter.unusedVariables false
set_option linter.unusedSimpArgs false

/-- One object more. -/
theorem HR.add {g : Gh} {H : List AObj} {w : World} (h : HR g H w) (p : Place) (ob : AObj) (ho : ORel { g with ρ := g.ρ ++ [p] } w p ob)
    (hd : p.own ob = true → ∀ (o : Nat) (q : Place) (ob' : AObj), g.ρ[o]? = some q → H[o]? = some ob' → q.own ob' = true → q.block ≠ p.block) : HR { g with ρ := g.ρ ++ [p] } (H ++ [ob]) w := by
  have low : ∀ (a : Nat) (q : Place) (ob1 : AObj), (g.ρ ++ [p])[a]? = some q → (H ++ [ob])[a]? = some ob1 → (a = g.ρ.length ∧ q = p ∧ ob1 = ob) ∨ (g.ρ[a]? = some q ∧ H[a]? = some ob1) := by
    intro a q ob1 h1 h2
    rcases Nat.lt_or_ge a g.ρ.length with hl | hl
    · exact .inr ⟨by rwa [List.getElem?_append_left hl] at h1, by rwa [List.getElem?_append_left (h.len ▸ hl)] at h2⟩
    · have hlen : a < (g.ρ ++ [p]).length := (List.getElem?_eq_some_iff.1 h1).1
      have : a = g.ρ.length := by simp at hlen; omega
      subst this
      rw [List.getElem?_append_right (Nat.le_refl _)] at h1
      rw [h.len, List.getElem?_append_right (Nat.le_refl _)] at h2
      simp at h1 h2
      exact .inl ⟨rfl, h1.symm, h2.symm⟩
  refine ⟨h.agree, by simp [h.len], ?_, ?_⟩
  · intro a q ob1 h1 h2
    rcases low a q ob1 h1 h2 with ⟨_, rfl, rfl⟩ | ⟨h1, h2⟩
    · exact ho
    · exact (h.obj a q ob1 h1 h2).keep (g.le_push _) rfl (fun _ => rfl)
  · intro a a' q q' ob1 ob2 h1 h1' h2 h2' l1 l2 e
    rcases low a q ob1 h1 h2 with ⟨ea, rfl, rfl⟩ | ⟨k1, k2⟩ <;> rcases low a' q' ob2 h1' h2' with ⟨ea', rfl, rfl⟩ | ⟨k1', k2'⟩
    · omega
    · exact absurd e.symm (hd l1 a' q' ob2 k1' k2' l2)
    · exact absurd e (hd l2 a q ob1 k1 k2 l1)
    · exact h.inj a a' q q' ob1 ob2 k1 k1' k2 k2' l1 l2 e

theorem Lv.push {g : Gh} {H : List AObj} {p : Place} {ob : AObj} {b : Nat} (hl : g.ρ.length = H.length) (h : Lv { g with ρ := g.ρ ++ [p] } (H ++ [ob]) b) : Lv g H b ∨ p.block = b := by
  obtain ⟨a, q, ob1, h1, h2, l1, e⟩ := h
  rcases Nat.lt_or_ge a g.ρ.length with hlt | hge
  · exact .inl ⟨a, q, ob1, by rwa [List.getElem?_append_left hlt] at h1, by rwa [List.getElem?_append_left (hl ▸ hlt)] at h2, l1, e⟩
  · have hlen : a < (g.ρ ++ [p]).length := (List.getElem?_eq_some_iff.1 h1).1
    have : a = g.ρ.length := by simp at hlen; omega
    subst this
    rw [List.getElem?_append_right (Nat.le_refl _)] at h1
    simp at h1
    subst h1
    exact .inr e

theorem RCu.append {g : Gh} {e : Nat} : ∀ {xs ys : List V} {c d : List Value}, RCu g e xs c → RCu g e ys d → RCu g e (xs ++ ys) (c ++ d)
  | [], _, _, _, h, k => by simp only [RCu] at h; subst h; exact k
  | _ :: _, _, _, _, h, k => by
    simp only [RCu] at h
    obtain ⟨a, b, rfl, h1, h2, h3⟩ := h
    simp only [List.cons_append, RCu]
    exact ⟨a, _, by simp, h1, h2, h3.append k⟩

theorem RCu.drop {g : Gh} {e : Nat} : ∀ {xs : List V} {c : List Value} (n : Nat), RCu g e xs c → RCu g e (xs.drop n) (c.drop (n * e))
  | xs, c, 0, h => by simpa using h
  | [], c, n + 1, h => by simp only [RCu] at h; subst h; simp [RCu]
  | x :: xs, c, n + 1, h => by
    simp only [RCu] at h
    obtain ⟨a, b, rfl, h1, h2, h3⟩ := h
    rw [List.drop_succ_cons, Nat.succ_mul, Nat.add_comm, ← h1]
    rw [List.drop_append]
    have : List.drop (a.length + n * a.length) a = [] := List.drop_eq_nil_of_le (by omega)
    rw [this, List.nil_append, show a.length + n * a.length - a.length = n * a.length from by omega, h1]
    exact h3.drop n

theorem RCu.take {g : Gh} {e : Nat} : ∀ {xs : List V} {c : List Value} (n : Nat), RCu g e xs c → RCu g e (xs.take n) (c.take (n * e))
  | xs, c, 0, h => by simp [RCu]
  | [], c, n + 1, h => by simp only [RCu] at h; subst h; simp [RCu]
  | x :: xs, c, n + 1, h => by
    simp only [RCu] at h
    obtain ⟨a, b, rfl, h1, h2, h3⟩ := h
    rw [List.take_succ_cons, Nat.succ_mul, Nat.add_comm, ← h1, List.take_append]
    have : List.take (a.length + n * a.length) a = a := List.take_of_length_le (by omega)
    rw [this, show a.length + n * a.length - a.length = n * a.length from by omega, h1]
    simp only [RCu]
    exact ⟨a, _, rfl, h1, h2, h3.take n⟩

/-- A slice that can be read: so many values, of so many cells each. -/
def Rd (v : V) (H : List AObj) (e : Nat) (ys : List V) : Prop :=
  ∀ g w x, RV g v x → HR g H w → ∃ (a : Option Addr) (cap : Nat) (c : List Value), x = .slice a ys.length cap ∧ RCu g e ys c ∧ (a = none → ys = []) ∧
    ∀ ad, a = some ad → (ys ≠ [] → ad.spot = none) ∧ ∀ (i : Nat) y, c[i]? = some y → w.cell? ⟨ad.block, ad.off + i, none⟩ = some y

theorem Rd.sl {e : Nat} {tk : Tk} {ys : List V} {H : List AObj} : Rd (.sl e tk ys) H e ys := by
  intro g w x h hr
  obtain ⟨a, cap, rfl, h2, _, c, h4, h5, h6⟩ := h.sl_eq
  refine ⟨a, cap, c, rfl, h4, fun ha => ?_, fun ad ha => ⟨(h6 ad ha).1, fun i y hy => hr.agree _ _ _ ((h6 ad ha).2 i y hy)⟩⟩
  have := h5 ha
  exact List.eq_nil_of_length_eq_zero (by omega)

theorem Rd.nils {e : Nat} {H : List AObj} : Rd .nils H e [] := by
  intro g w x h hr
  have := h.nils_eq
  subst this
  exact ⟨none, 0, [], rfl, by simp [RCu], fun _ => rfl, fun ad h => by cases h⟩

theorem Rd.slo {e o : Nat} {path : List Nat} {off lo len cap : Nat} {v : V} {zs : List V} {H : List AObj} (ho : H[o]? = some (.cells v)) (hu : v.at path = some (.arr e zs)) (hoff : v.offOf path 0 = off) (hl : lo + len ≤ zs.length) :
    Rd (.slo e o path off lo len cap) H e ((zs.drop lo).take len) := by
  intro g w x h hr
  obtain ⟨p, h1, a, cp, rfl, h3, h4⟩ := h.slo_eq
  rcases h4 with ⟨_, rfl⟩ | ⟨rfl, _⟩
  · obtain rfl : len = 0 := by omega
    exact ⟨a, 0, [], by simp, by simp [RCu], by simp, fun ad _ => ⟨fun hn => absurd (by simp) hn, fun i y hy => by simp at hy⟩⟩
  obtain ⟨c, hc, hcell⟩ := hr.cells h1 ho hu
  simp only [RC] at hc
  subst hoff
  refine ⟨some ⟨p.block, v.offOf path 0 + lo * e, none⟩, cp, (c.drop (lo * e)).take (len * e), by rw [List.length_take, List.length_drop, Nat.min_eq_left (by omega)], (hc.drop lo).take len, (by intro h; cases h), ?_⟩
  rintro ad h
  cases h
  refine ⟨fun _ => rfl, fun i y hy => ?_⟩
  have hi : i < ((c.drop (lo * e)).take (len * e)).length := (List.getElem?_eq_some_iff.1 hy).1
  rw [List.getElem?_take_of_lt (by simp at hi; omega), List.getElem?_drop] at hy
  have := hcell (lo * e + i) y hy
  simpa [Nat.add_assoc] using this

theorem run_firstCells {P : Program} {w : World} {a : Option Addr} {n cap e : Nat} {c : List Value} {ys : List V} {g : Gh} (hn : n = ys.length) (hc : RCu g e ys c) (ha : a = none → ys = [])
    (h : ∀ ad, a = some ad → (ys ≠ [] → ad.spot = none) ∧ ∀ (i : Nat) y, c[i]? = some y → w.cell? ⟨ad.block, ad.off + i, none⟩ = some y) : (Builtin.firstCells e n (.slice a n cap)).run P w = .ok c.toArray w := by
  cases a with
  | none =>
    have := ha rfl
    subst this
    simp only [RCu] at hc
    subst hc
    rfl
  | some ad =>
    obtain ⟨h1, h2⟩ := h ad rfl
    have := run_loadCells_list (P := P) w ad c (fun j y hy => by rw [add_addr' (h1 (by rintro rfl; simp only [RCu] at hc; subst hc; simp at hy))]; exact h2 j y hy)
    rw [hc.len, ← hn] at this
    exact this

theorem growBy_le (m : Nat) : ∀ (r c : Nat), 256 ≤ c → c < m → Builtin.growBy m r c ≤ 2 * m
  | 0, c, _, _ => by simp only [Builtin.growBy]; omega
  | r + 1, c, h, hm => by
    simp only [Builtin.growBy]
    rw [if_neg (by omega)]
    rcases Nat.lt_or_ge (c + (c + 768) / 4) m with hl | hg
    · exact growBy_le m r _ (by omega) hl
    · cases r with
      | zero => simp only [Builtin.growBy]; omega
      | succ r => simp only [Builtin.growBy]; rw [if_pos hg]; omega

theorem nextslicecap_le {need cap : Nat} (h : cap < need) : Builtin.nextslicecap need cap ≤ 2 * need := by
  unfold Builtin.nextslicecap
  split
  · omega
  · split
    · omega
    · exact growBy_le need 4 cap (by omega) h

section
variable {P : Program} {E : Operand → V} {H : List AObj} {dst : Option Tmp} {ty : TypeId} {pos : String} {aft : Array Edge} {gd : Option (Nat × Bool)}

def putIn (base : Option Addr) (off : Nat) (c : List Value) : Sem Unit := match base with | some b => storeCells (b.add off) c | none => pure ()

theorem run_append_in {w : World} {st xt et xe : TypeId} {e by_ : Nat} {eag : Bool} {base a : Option Addr} {sLen sCap n cap : Nat} {c : List Value} {ys : List V} {g : Gh} (hst : sliOf P st = some (et, e, eag, by_))
    (hxt : P.underlying xt = some (.slice xe)) (hfit : sLen + n ≤ sCap) (hn : n = ys.length) (hc : RCu g e ys c) (ha : a = none → ys = [])
    (h : ∀ ad, a = some ad → (ys ≠ [] → ad.spot = none) ∧ ∀ (i : Nat) y, c[i]? = some y → w.cell? ⟨ad.block, ad.off + i, none⟩ = some y) :
    (Builtin.append_ #[st, xt] ty #[.slice base sLen sCap, .slice a n cap]).run P w =
      ((putIn base (sLen * e) c).run P w).andThen fun _ w' => .ok (.slice base (sLen + n) sCap) w' := by
  obtain ⟨hut, hsz, _, _⟩ := sliOf_get hst
  have hf := run_firstCells (P := P) (w := w) (cap := cap) hn hc ha h
  unfold Builtin.append_
  simp only [List.getElem?_toArray, List.getElem?_cons_zero, List.getElem?_cons_succ, Sem.run_bind, run_underlying hut, Result.andThen_ok, run_sizeOf' hsz, run_underlying hxt, Sem.run_pure, Bool.false_eq_true, if_false,
    Builtin.lenOf, hfit, if_true, Bool.not_false, hf]
  cases base with
  | none => rfl
  | some b => simp only [Sem.run_bind, Sem.run_pure, putIn]

theorem run_append_new {w : World} {st xt et xe : TypeId} {e by_ : Nat} {eag : Bool} {base a : Option Addr} {sLen sCap n cap : Nat} {c c0 : List Value} {xs ys : List V} {g : Gh} {zv : Value} (hst : sliOf P st = some (et, e, eag, by_))
    (hxt : P.underlying xt = some (.slice xe)) (hfit : sCap < sLen + n) (hby : 0 < by_) (hroom : (sLen + n) * by_ ≤ 2 ^ 47) (hzv : (zeroValue et).run P w.drew = .ok zv w.drew)
    (hn : n = ys.length) (hc : RCu g e ys c) (ha : a = none → ys = [])
    (h : ∀ ad, a = some ad → (ys ≠ [] → ad.spot = none) ∧ ∀ (i : Nat) y, c[i]? = some y → w.cell? ⟨ad.block, ad.off + i, none⟩ = some y)
    (hn0 : sLen = xs.length) (hc0 : RCu g e xs c0) (ha0 : base = none → xs = [])
    (h0 : ∀ ad, base = some ad → (xs ≠ [] → ad.spot = none) ∧ ∀ (i : Nat) y, c0[i]? = some y → w.cell? ⟨ad.block, ad.off + i, none⟩ = some y) :
    ∃ newCap, sLen + n ≤ newCap ∧ (Builtin.append_ #[st, xt] ty #[.slice base sLen sCap, .slice a n cap]).run P w =
      .ok (.slice (some ⟨w.heap.size, 0, none⟩) (sLen + n) newCap) (w.drew.alloc (.cells (c0.toArray ++ c.toArray ++ Builtin.zeroCells zv.cells (newCap - (sLen + n))) et)) := by
  obtain ⟨hut, hsz, _, hbytes⟩ := sliOf_get hst
  have hf := run_firstCells (P := P) (w := w.drew) (cap := cap) hn hc ha h
  have hf0 := run_firstCells (P := P) (w := w.drew) (cap := sCap) hn0 hc0 ha0 h0
  obtain ⟨ti, hti, htb⟩ : ∃ ti, P.info? et = some ti ∧ ti.bytes = by_ := by
    unfold szOf at hsz
    cases hq : P.info? et with
    | none => simp [hq] at hsz
    | some ti => exact ⟨ti, rfl, by simpa [hq] using hbytes⟩
  have hty : ∀ w : World, (typeInfo et).run P w = .ok ti w := by intro w; simp [typeInfo, hti]
  have hnc : ¬ (Builtin.nextslicecap (sLen + n) sCap * by_ > 2 ^ 48) := by
    have := nextslicecap_le hfit
    have h2 : Builtin.nextslicecap (sLen + n) sCap * by_ ≤ 2 * (sLen + n) * by_ := Nat.mul_le_mul_right _ this
    have h3 : 2 * (sLen + n) * by_ = 2 * ((sLen + n) * by_) := Nat.mul_assoc _ _ _
    omega
  refine ⟨(Question.appendCap (sLen + n) sCap et).cut (w.tape w.drawn (.appendCap (sLen + n) sCap et)), by simp only [Question.cut]; omega, ?_⟩
  have hnf : ¬ (sLen + n ≤ sCap) := by omega
  have hb0 : ¬ by_ = 0 := by omega
  have hdrew : ({ w with drawn := w.drawn + 1 } : World) = w.drew := rfl
  unfold Builtin.append_
  simp only [List.getElem?_toArray, List.getElem?_cons_zero, List.getElem?_cons_succ, Sem.run_bind, run_underlying hut, Result.andThen_ok, run_sizeOf' hsz, run_underlying hxt, Sem.run_pure, Bool.false_eq_true, if_false,
    Builtin.lenOf, hnf, Bool.not_false, if_true, false_or, hty, htb, hb0, and_false, hnc, run_choose, Question.forced, hdrew, run_askRoom, hf, hf0, hzv, newRow, run_newObj]
  rfl

theorem run_append_exec {w : World} {rc : Operand → Value} {x y : Operand} {ats : Array TypeId} {vx vy : Value} (ex : rc x = vx) (ey : rc y = vy) :
    (execOp rc ⟨dst, .call ⟨.builtin .append, #[x, y], ats⟩, ty, pos, aft, gd⟩).run P w = ((Builtin.append_ ats ty #[vx, vy]).run P w).andThen fun v w' => .ok (.value v) w' := by
  subst ex ey
  simp [execOp, resolve, invoke, Go.builtin]

theorem zeroCells_size (z : Array Value) (n : Nat) : (Builtin.zeroCells z n).size = n * z.size := by simp [Builtin.zeroCells]

/-- What is made by an append that has no room, its own room behind it told. -/
theorem append_new_tok {g : Gh} {w : World} (hr : HR g H w) {et : TypeId} {e : Nat} {xs ys : List V} {c0 c : List Value} {zv : Value} {newCap : Nat} (hzs : zv.cells.size = e)
    (hc0 : RCu g e xs c0) (hc : RCu g e ys c) (hnc : xs.length + ys.length ≤ newCap) :
    ∃ g', RV g' (.sl e (.tok H.length) (xs ++ ys)) (.slice (some ⟨w.heap.size, 0, none⟩) (xs.length + ys.length) newCap) ∧
      HR g' (H ++ [.tail]) (w.drew.alloc (.cells (c0.toArray ++ c.toArray ++ Builtin.zeroCells zv.cells (newCap - (xs.length + ys.length))) et)) ∧
      Ev g H w g' (H ++ [.tail]) (w.drew.alloc (.cells (c0.toArray ++ c.toArray ++ Builtin.zeroCells zv.cells (newCap - (xs.length + ys.length))) et)) := by
  have hsize : (Builtin.zeroCells zv.cells (newCap - (xs.length + ys.length))).size = (newCap - (xs.length + ys.length)) * e := by rw [zeroCells_size, hzs]
  generalize Builtin.zeroCells zv.cells (newCap - (xs.length + ys.length)) = rest at *
  have hr1 : HR g H w.drew := hr.drew rfl
  have hr2 := hr1.lay (c0.toArray ++ c.toArray ++ rest) et (c0 ++ c) rest.toList (by simp)
  have hev2 := Ev.lay hr1 (.cells (c0.toArray ++ c.toArray ++ rest) et) (c0 ++ c)
  have hcat := hc0.append hc
  have hlc : (c0 ++ c).length = (xs.length + ys.length) * e := by rw [hcat.len, List.length_append]
  have hcs : (c0.toArray ++ c.toArray ++ rest).size = newCap * e := by
    have h1 : (c0.toArray ++ c.toArray ++ rest).size = (c0 ++ c).length + rest.size := by simp
    rw [h1, hlc, hsize, ← Nat.add_mul]
    congr 1; omega
  have hws : w.drew.heap.size = w.heap.size := rfl
  let p : Place := ⟨w.heap.size, (xs.length + ys.length) * e, newCap * e, false⟩
  have hb := heap_alloc_eq w.drew (.cells (c0.toArray ++ c.toArray ++ rest) et)
  rw [hws] at hb
  refine ⟨{ (g.put w.heap.size 0 (c0 ++ c)) with ρ := g.ρ ++ [p] }, ?_, hr2.add p .tail ?_ ?_, ?_⟩
  · refine RV.of_leaf rfl ?_
    have hle : g.le { (g.put w.heap.size 0 (c0 ++ c)) with ρ := g.ρ ++ [p] } := hev2.le.trans (Gh.le_push _ _)
    simp only [RC]
    refine ⟨some ⟨w.heap.size, 0, none⟩, newCap, by simp, by simpa using hnc, .inr ⟨p, ⟨w.heap.size, 0, none⟩, ?_, rfl, rfl, rfl, rfl, ?_, ?_⟩, c0 ++ c, hcat.mono hle, (fun h => by cases h), ?_⟩
    · show (g.ρ ++ [p])[H.length]? = some p
      rw [← hr.len]; simp
    · simp [p]
    · simp [p]
    · rintro ad h
      cases h
      exact ⟨fun _ => rfl, (Gh.put_holds (g := g) (b := w.heap.size) (lo := 0) (cs := c0 ++ c)).mono (Gh.le_push _ _)⟩
  · refine .inr ⟨_, et, hb, hcs, fun i hi => ?_⟩
    have hi' : (xs.length + ys.length) * e ≤ i := hi
    show (g.put w.heap.size 0 (c0 ++ c)).I w.heap.size i = none
    simp only [Gh.put]
    rw [if_neg (by omega)]
    exact hr.fresh (Nat.le_refl _) i
  · intro _ o q ob' h1 h2 h3 h4
    have hq : g.ρ[o]? = some q := h1
    have := (hr.obj o q ob' hq h2).inb h3
    have h4' : q.block = w.heap.size := h4
    omega
  · have hev1 : Ev g H w g H w.drew := Ev.drew rfl rfl rfl rfl (by show w.drawn ≤ w.drawn + 1; omega)
    have h12 := hev1.trans hev2
    refine ⟨h12.le.trans (Gh.le_push _ _), h12.os, h12.tape, h12.output, h12.size, h12.drawn, h12.keep, h12.imm, fun b hb' => ?_⟩
    rcases Lv.push (g := g.put w.heap.size 0 (c0 ++ c)) hr.len hb' with hl | hl
    · exact h12.live b hl
    · have : w.heap.size = b := hl
      exact .inr (by omega)

/-- Append to a view whose room behind it is told. -/
theorem OpS.append {st xt et xe : TypeId} {x y : Operand} {e by_ : Nat} {eag : Bool} {z : V} {xs ys : List V} {o : Nat} {vy : V} (hst : sliOf P st = some (et, e, eag, by_))
    (hxt : P.underlying xt = some (.slice xe)) (hz : ZeroV P et z) (hze : flen z = e) (hby : 0 < by_) (hx : E x = .sl e (.tok o) xs) (ho : H[o]? = some .tail) (hy : E y = vy) (hrd : Rd vy H e ys)
    (hroom : (xs.length + ys.length) * by_ ≤ 2 ^ 47) :
    OpS P ⟨dst, .call ⟨.builtin .append, #[x, y], #[st, xt]⟩, ty, pos, aft, gd⟩ E H (.sl e (.tok H.length) (xs ++ ys)) (H.set o .dead ++ [.tail]) := by
  intro g rc w h hr
  obtain ⟨base, sCap, ex, hlen, htk, c0, hc0, hnone, hsome⟩ := (hx ▸ h x (by simp [Op.operands, Call.operands])).sl_eq
  obtain ⟨a, cap, c, ey, hc, ha, hcell⟩ := hrd g w _ (hy ▸ h y (by simp [Op.operands, Call.operands])) hr
  rw [run_append_exec ex ey]
  have hol : o < H.length := (List.getElem?_eq_some_iff.1 ho).1
  have hlk : (H.set o AObj.dead).length = H.length := by simp
  rcases Nat.lt_or_ge sCap (xs.length + ys.length) with hgrow | hfit
  · -- a new block
    have hrk := hr.kill o
    obtain ⟨val, hv1, hv2, _⟩ := hz.run w.drew g
    obtain ⟨newCap, hnc, hrun⟩ := run_append_new (P := P) (ty := ty) (w := w) (sCap := sCap) (cap := cap) hst hxt hgrow hby hroom hv1 rfl hc ha hcell rfl hc0
      (fun e => List.eq_nil_of_length_eq_zero (by have := hnone e; omega)) (fun ad e => ⟨(hsome ad e).1, fun i y hy => hr.agree _ _ _ ((hsome ad e).2 i y hy)⟩)
    rw [hrun]
    simp only [Result.andThen_ok]
    have hzs : val.cells.size = e := by rw [← hze, ← hv2.len]; simp
    obtain ⟨g', h1, h2, h3⟩ := append_new_tok hrk (et := et) hzs hc0 hc hnc
    exact ⟨g', by simpa [hlk] using h1, h2, (Ev.kill o).trans h3⟩
  · rw [run_append_in (P := P) (ty := ty) (w := w) (sCap := sCap) (cap := cap) hst hxt hfit rfl hc ha hcell]
    rcases htk with hcap | ⟨p, ad, hp, hpv, hba, hsp, hbl, hfr, hsz⟩
    · -- nothing is appended
      have hys : ys = [] := List.eq_nil_of_length_eq_zero (by omega)
      subst hys
      simp only [RCu] at hc
      subst hc
      have hnop : (putIn base (xs.length * e) []).run P w = .ok () w := by cases base <;> rfl
      rw [hnop]
      simp only [Result.andThen_ok]
      have hrk := hr.kill o
      refine ⟨_, ?_, hrk.vacant, (Ev.kill o).trans (.vacant hrk)⟩
      refine RV.of_leaf rfl ?_
      simp only [RC, List.append_nil]
      exact ⟨base, sCap, by simp, hlen, .inl hcap, c0, hc0.mono (g.le_push _), hnone, fun ad e => ⟨fun hn => (hsome ad e).1 hn, (hsome ad e).2.mono (g.le_push _)⟩⟩
    · -- in place
      subst hba
      obtain ⟨_, hh0⟩ := hsome ad rfl
      have hsp' := hsp
      have hob : ∃ cs cty, w.heap[p.block]? = some (.cells cs cty (0, 0)) ∧ cs.size = p.size := by
        rcases hr.obj o p _ hp ho with hx | ⟨cs, cty, h1, h2, _⟩
        · rw [hpv] at hx; cases hx
        · exact ⟨cs, cty, h1, h2⟩
      obtain ⟨cs, cty, hcs, hcsz⟩ := hob
      have hlc : c.length = ys.length * e := hc.len
      have hmul : (xs.length + ys.length) * e ≤ sCap * e := Nat.mul_le_mul_right _ hfit
      rw [Nat.add_mul] at hmul
      have hst' := run_storeCells_at P p.block p.front cty c 0 cs w hcs (by omega) (fun v hv => hc.one v hv)
      have hadd : ad.add (xs.length * e) = ⟨p.block, p.front, none⟩ := by rw [add_addr' hsp', hbl, hfr]
      simp only [putIn, hadd, hst', Result.andThen_ok]
      refine ⟨_, ?_, hr.extend (new := c) hp ho hpv hcs (by omega) rfl, Ev.extend hr hp ho hpv rfl⟩
      have hle : g.le { (g.put p.block p.front c) with ρ := g.ρ ++ [⟨p.block, p.front + c.length, p.size, false⟩] } := (Ev.extend (w' := w.setRow p.block cs) hr hp ho hpv (new := c) rfl).le
      refine RV.of_leaf rfl ?_
      simp only [RC]
      refine ⟨some ad, sCap, by simp, by simpa using hfit, .inr ⟨⟨p.block, p.front + c.length, p.size, false⟩, ad, ?_, rfl, rfl, hsp', hbl, ?_, hsz⟩, c0 ++ c, (hc0.append hc).mono hle, (fun h => by cases h), ?_⟩
      · show (g.ρ ++ [_])[H.length]? = some _
        rw [← hr.len]; simp
      · simp only [List.length_append, Nat.add_mul]
        omega
      · rintro ad' h'
        cases h'
        refine ⟨fun _ => hsp', fun i x hx => ?_⟩
        rcases Nat.lt_or_ge i c0.length with hi | hi
        · rw [List.getElem?_append_left hi] at hx
          exact hle.imm _ _ _ (hh0 i x hx)
        · rw [List.getElem?_append_right hi] at hx
          have hc0l : c0.length = xs.length * e := hc0.len
          have := (Gh.put_holds (g := g) (b := p.block) (lo := p.front) (cs := c)) (i - c0.length) x hx
          show (g.put p.block p.front c).I ad.block (ad.off + i) = some x
          rw [hbl, show ad.off + i = p.front + (i - c0.length) from by omega]
          exact this

/-- Append to a view with no room behind it: the new room behind it is told. -/
theorem OpS.appendX {st xt et xe : TypeId} {x y : Operand} {e by_ : Nat} {eag : Bool} {z : V} {xs ys : List V} {vx vy : V} (hst : sliOf P st = some (et, e, eag, by_))
    (hxt : P.underlying xt = some (.slice xe)) (hz : ZeroV P et z) (hze : flen z = e) (hby : 0 < by_) (hx : E x = vx) (hxs : vx.sub (.sl e .exact xs)) (hy : E y = vy) (hrd : Rd vy H e ys)
    (hroom : (xs.length + ys.length) * by_ ≤ 2 ^ 47) :
    OpS P ⟨dst, .call ⟨.builtin .append, #[x, y], #[st, xt]⟩, ty, pos, aft, gd⟩ E H (.sl e (.tok H.length) (xs ++ ys)) (H ++ [.tail]) := by
  intro g rc w h hr
  obtain ⟨base, sCap, ex, hlen, htk, c0, hc0, hnone, hsome⟩ := (hxs g _ (hx ▸ h x (by simp [Op.operands, Call.operands]))).sl_eq
  obtain ⟨a, cap, c, ey, hc, ha, hcell⟩ := hrd g w _ (hy ▸ h y (by simp [Op.operands, Call.operands])) hr
  rw [run_append_exec ex ey]
  simp only [Tk.ok] at htk
  rcases Nat.lt_or_ge sCap (xs.length + ys.length) with hgrow | hfit
  · obtain ⟨val, hv1, hv2, _⟩ := hz.run w.drew g
    obtain ⟨newCap, hnc, hrun⟩ := run_append_new (P := P) (ty := ty) (w := w) (sCap := sCap) (cap := cap) hst hxt hgrow hby hroom hv1 rfl hc ha hcell rfl hc0
      (fun e => List.eq_nil_of_length_eq_zero (by have := hnone e; omega)) (fun ad e => ⟨(hsome ad e).1, fun i y hy => hr.agree _ _ _ ((hsome ad e).2 i y hy)⟩)
    rw [hrun]
    simp only [Result.andThen_ok]
    have hzs : val.cells.size = e := by rw [← hze, ← hv2.len]; simp
    obtain ⟨g', h1, h2, h3⟩ := append_new_tok hr (et := et) hzs hc0 hc hnc
    exact ⟨g', h1, h2, h3⟩
  · rw [run_append_in (P := P) (ty := ty) (w := w) (sCap := sCap) (cap := cap) hst hxt hfit rfl hc ha hcell]
    have hys : ys = [] := List.eq_nil_of_length_eq_zero (by omega)
    subst hys
    simp only [RCu] at hc
    subst hc
    have hnop : (putIn base (xs.length * e) []).run P w = .ok () w := by cases base <;> rfl
    rw [hnop]
    simp only [Result.andThen_ok]
    refine ⟨_, ?_, hr.vacant, .vacant hr⟩
    refine RV.of_leaf rfl ?_
    simp only [RC, List.append_nil]
    exact ⟨base, sCap, by simp, hlen, .inl htk, c0, hc0.mono (g.le_push _), hnone, fun ad e => ⟨fun hn => (hsome ad e).1 hn, (hsome ad e).2.mono (g.le_push _)⟩⟩

end

end Go.Av
