/- slices.SortFunc over a buffer: what the shelf says of it, told over abstract values. -/
import Derived.Test.YtdbiobndihpccabAvCore26
import Derived.Shelf.SlSortCmp.WholeK
namespace Go.Av
set_option linter.unusedSimpArgs false
set_option linter.unusedVariables false
set_option linter.unusedSectionVars false
open Go.Sort Go.Proofs

/-- A list, sorted: the places' numbers are sorted. -/
def sortF {α : Type} [Inhabited α] (cf : α → α → Int) (xs : List α) : List α :=
  if xs.length = 0 then xs else
  (Sort.pdq (ltOf fun i j : Nat => cf (xs.getD (min i (xs.length - 1)) default) (xs.getD (min j (xs.length - 1)) default)) (Array.range xs.length) 0 xs.length (Lib.bitLen xs.length) true true).toList.map fun i => xs.getD (min i (xs.length - 1)) default
def sortM {α : Type} [Inhabited α] (cf : α → α → Int) (xs : List α) : Option (List α) := if xs.length < 4611686018427387904 then some (sortF cf xs) else none
/-- A strict weak order is one by any road to it. -/
theorem swo_via {α β : Type} {cf : α → α → Int} (h : SWO (ltOf cf)) (f : β → α) : SWO (ltOf fun x y => cf (f x) (f y)) :=
  ⟨fun x => h.irrefl (f x), fun x y z => h.trans (f x) (f y) (f z), fun x y z => h.ntrans (f x) (f y) (f z)⟩

theorem RCu.chunk {g : Gh} {e : Nat} : ∀ {vs : List V} {c : List Value} {j : Nat} {v : V}, RCu g e vs c → vs[j]? = some v → RC g v ((c.drop (j * e)).take e) ∧ ((c.drop (j * e)).take e).length = e
  | [], _, _, _, _, h => by simp at h
  | u :: vs, c, 0, v, k, h => by
    simp only [RCu] at k
    obtain ⟨a, b, rfl, h1, h2, h3⟩ := k
    simp at h; subst h
    rw [Nat.zero_mul, List.drop_zero, ← h1, List.take_left]
    exact ⟨h2, rfl⟩
  | u :: vs, c, j + 1, v, k, h => by
    simp only [RCu] at k
    obtain ⟨a, b, rfl, h1, h2, h3⟩ := k
    have := RCu.chunk h3 (j := j) (by simpa using h)
    rw [Nat.succ_mul, Nat.add_comm, ← h1, List.drop_append, List.drop_eq_nil_of_le (by omega), List.nil_append, show a.length + j * a.length - a.length = j * a.length from by omega, h1]
    exact this
theorem RCu.mk {g : Gh} {e : Nat} : ∀ {vs : List V} {c : List Value}, c.length = vs.length * e → (∀ (j : Nat) v, vs[j]? = some v → RC g v ((c.drop (j * e)).take e)) → RCu g e vs c
  | [], c, h, _ => by simp at h; simp [RCu, h]
  | v :: vs, c, h, k => by
    simp only [RCu]
    have hl : c.length = vs.length * e + e := by simpa [Nat.succ_mul] using h
    refine ⟨c.take e, c.drop e, (List.take_append_drop e c).symm, by simp; omega, ?_, ?_⟩
    · have := k 0 v rfl
      simpa using this
    · refine RCu.mk (by simp; omega) fun j u hu => ?_
      have := k (j + 1) u (by simpa using hu)
      rw [List.drop_drop]
      rwa [Nat.succ_mul, Nat.add_comm] at this

/-- A world that only grew. -/
theorem grown_of {w w' : World} (h1 : w'.os = w.os) (h2 : w'.tape = w.tape) (h3 : w'.output = w.output) (h4 : w.heap.size ≤ w'.heap.size) (h5 : w.drawn ≤ w'.drawn) (h6 : ∀ b, b < w.heap.size → w'.heap[b]? = w.heap[b]?) :
    ∃ q os', w' = grow (w.drewN q) os' := by
  refine ⟨w'.drawn - w.drawn, w'.heap.extract w.heap.size w'.heap.size, ?_⟩
  cases w' with
  | mk heap' tape' drawn' os' output' =>
    cases w with
    | mk heap tape drawn os output =>
      simp only at h1 h2 h3 h4 h5 h6
      subst h1 h2 h3
      simp only [grow, World.drewN, World.mk.injEq, and_true, true_and]
      refine ⟨?_, by omega⟩
      apply Array.ext_getElem?
      intro k
      rw [Array.getElem?_append]
      split
      · rename_i hk; exact h6 k hk
      · rename_i hk
        rw [Array.getElem?_extract]
        by_cases hk2 : k < heap'.size
        · rw [if_pos (by omega), show heap.size + (k - heap.size) = k from by omega]
        · rw [if_neg (by omega), Array.getElem?_eq_none (by omega)]

/-- A comparing function, as the shelf asks for it. -/
theorem cmpLays_of {P : Program} {f : FuncId} {caps : List V} {cb : Array Value} {k size : Nat} {enc : Nat → List Value} {u : Nat → V} {cf : Nat → Nat → Int} {g : Gh} {blk off : Nat} {w : World}
    (hcmp : ∀ i j, PureC P f ([u i, u j] ++ caps) (.int .i64 (cf i j))) (henc : ∀ i, RC g (u i) (enc i)) (hag : ∀ i, (u i).isAgg = true) (hul : ∀ i, (u i).lt 0 = true) (hcl : V.ltL 0 caps = true) (hcb : RVl g caps cb.toList)
    (hI : ∀ i, g.I blk i = none) (hw : ∀ b i x, g.I b i = some x → w.cell? ⟨b, i, none⟩ = some x) : CmpLays P f cb enc k cf blk off size w := by
  intro m os dk hs x y
  have hW : ∀ b i x, g.I b i = some x → (sortWorldK enc k w blk off m dk os).cell? ⟨b, i, none⟩ = some x := by
    intro b i z hz
    have hb : b ≠ blk := fun e => by rw [e, hI] at hz; cases hz
    have hc := hw b i z hz
    have hlt : b < w.heap.size := by
      rcases Nat.lt_or_ge b w.heap.size with h | h
      · exact h
      · simp [World.cell?, Array.getElem?_eq_none h] at hc
    have he : (sortWorldK enc k w blk off m dk os).heap[b]? = w.heap[b]? := by
      unfold sortWorldK putRowK putRow mapBlock grow
      rw [Array.getElem?_append_left (by simp [Array.size_modify, ahead]; exact hlt)]
      simp [Array.getElem?_modify, ahead, Ne.symm hb]
    simpa only [World.cell?, he] using hc
  have le0 : ∀ {v : V} {c : List Value}, v.lt 0 = true → RC g v c → RC { I := g.I, ρ := [] } v c := fun hl h => RC.alike (m := 0) (g := g) (g' := { I := g.I, ρ := [] }) ⟨fun _ _ _ h => h, fun o p h => by omega⟩ hl h
  have hx : RVs { I := g.I, ρ := [] } ([u x, u y] ++ caps) ([Value.agg (enc x).toArray, .agg (enc y).toArray] ++ cb.toList) := by
    refine ⟨_, _, rfl, RC.agg (hag x) (le0 (hul x) (henc x)), _, _, rfl, RC.agg (hag y) (le0 (hul y) (henc y)), ?_⟩
    exact (RVl.alike (m := 0) (g := g) (g' := { I := g.I, ρ := [] }) ⟨fun _ _ _ h => h, fun o p h => by omega⟩ hcl hcb).rvs
  have hr : HR { I := g.I, ρ := [] } [] (sortWorldK enc k w blk off m dk os) := ⟨hW, rfl, fun o p ob h => by simp at h, fun o o' p p' ob ob' h => by simp at h⟩
  have hc := hcmp x y [] { I := g.I, ρ := [] } _ _ hx hr
  have e2 : ([Value.agg (enc x).toArray, .agg (enc y).toArray] ++ cb.toList).toArray = #[Value.agg (enc x).toArray, .agg (enc y).toArray] ++ cb := by apply Array.ext'; simp
  rw [e2] at hc
  refine hc.mono ?_
  rintro e w' ⟨g', H', o, ⟨rfl, rfl⟩, ho, hr', hev⟩
  cases e <;> simp only [OutRel] at ho
  have hv := ho.int_eq
  refine ⟨by rw [hv], grown_of hev.os hev.tape hev.output hev.size hev.drawn fun b hb => hev.keep b hb ?_⟩
  rintro ⟨o, p, ob, h, _⟩
  simp at h

theorem range_get {n i : Nat} (h : i < n) : (Array.range n)[i]! = i := by simp [h]

set_option maxHeartbeats 1000000 in
/-- slices.SortFunc over a buffer. -/
theorem sort_spec {P : Program} {ρ : Shelf.Ren} {α : Type} [Inhabited α] {f : α → V} {k : Nat} (L : SlLaysF0.n6 P ρ) (none_ : ∀ (p : Option Addr) (cap : Nat) (fv : Value) (w : World), Calls P (ρ.f 6) #[.slice p 0 cap, fv] w fun e w' => e = .returned (.tuple #[]) ∧ w' = w)
    (aE : ∀ w, (isAgg (ρ.t 24)).run P w = .ok true w) (zE : ∀ w, (Go.sizeOf (ρ.t 24)).run P w = .ok k w) (T : TyOk f k true) (cf : α → α → Int) (hO : SWO (ltOf cf)) {c : FuncId} (hE : enters P c = true) {caps : List V} (hcl : V.ltL 0 caps = true) (hcmp : ∀ x y, PureC P c ([f x, f y] ++ caps) (.int .i64 (cf x y)))
    {H : List AObj} {o q len : Nat} {xs zs : List α} (ho : H[o]? = some (.buf k (xs.map f))) (hlen : len = xs.length) (hm : sortM cf xs = some zs) :
    CallSpec P (ρ.f 6) [.slo k o [] 0 0 len q, .fn c [] caps] H fun out H' => out = .ret (.tup []) ∧ H' = H.set o (.buf k (zs.map f)) := by
  subst hlen
  have hsz : xs.length < 4611686018427387904 := by
    unfold sortM at hm
    split at hm
    · assumption
    · cases hm
  have hzs : zs = sortF cf xs := by unfold sortM at hm; rw [if_pos hsz] at hm; exact (Option.some.inj hm).symm
  intro g w vals hv hr
  obtain ⟨v1, r1, rfl, hv1, v2, r2, rfl, hv2, hv3⟩ := hv
  simp only [RVs] at hv3
  subst hv3
  obtain ⟨p, hp, a, cp, rfl, hle, hcase⟩ := hv1.slo_eq
  obtain ⟨a', cb, rfl, ha', hcb⟩ := hv2.fn_eq
  simp only [RVl] at ha'
  obtain rfl : a' = #[] := Array.toList_eq_nil_iff.1 ha'
  by_cases hnil : xs.length = 0
  · -- nothing to sort
    have hx0 : xs = [] := List.eq_nil_of_length_eq_zero hnil
    subst hx0
    have hz0 : zs = [] := by rw [hzs]; simp [sortF]
    subst hz0
    have hset : H.set o (.buf k (([] : List α).map f)) = H := by
      apply List.ext_getElem?
      intro i
      by_cases hi : o = i
      · subst hi; rw [List.getElem?_set_self (List.getElem?_eq_some_iff.1 ho).1, ho]
      · rw [List.getElem?_set_ne hi]
    refine (none_ a cp _ w).mono ?_
    rintro e w' ⟨rfl, rfl⟩
    exact ⟨g, _, _, ⟨rfl, rfl⟩, ⟨#[], rfl, by simp [RVl]⟩, hset.symm ▸ hr, hset.symm ▸ Ev.refl _ _ _⟩
  · have hn0 : 0 < xs.length := by omega
    obtain ⟨hvac, cs, cty, hcs, ⟨cc, junk, hcj, hcc⟩, hcsz, hI⟩ : p.vac = false ∧ ∃ cs ty, w.heap[p.block]? = some (.cells cs ty (0, 0)) ∧ (∃ c junk, cs.toList = c ++ junk ∧ RCu g k (xs.map f) c) ∧ cs.size = p.size ∧ ∀ i, g.I p.block i = none := by
      rcases hr.obj o p _ hp ho with ⟨_, h⟩ | h
      · exact absurd (by simpa using congrArg List.length h) hnil
      · exact h
    obtain ⟨rfl, _⟩ := hcase.resolve_left (fun hc => by rw [hvac] at hc; cases hc.1)
    have hcl' : cc.length = xs.length * k := by simpa using hcc.len
    let n := xs.length
    let u : Nat → V := fun i => f (xs.getD (min i (n - 1)) default)
    let enc : Nat → List Value := fun i => (cc.drop (min i (n - 1) * k)).take k
    have hchunk : ∀ i, RC g (u i) (enc i) ∧ (enc i).length = k := by
      intro i
      have hi : min i (n - 1) < xs.length := by have : n = xs.length := rfl; omega
      exact hcc.chunk (by simp [u, List.getD, hi])
    have hone : ∀ i, ∀ v ∈ enc i, v.oneCell' = true := fun i => (hchunk i).1.one
    have hblk : p.block < w.heap.size := (Array.getElem?_eq_some_iff.1 hcs).1
    have hgetcs : ∀ t, t < n * k → cs[t]? = cc[t]? := by
      intro t ht
      have hnk : n * k = xs.length * k := rfl
      have : cs.toList[t]? = cc[t]? := by rw [hcj, List.getElem?_append_left (by omega)]
      simpa using this
    have henc : ∀ j t, j < n → t < k → (enc j)[t]? = cc[j * k + t]? := by
      intro j t hj ht
      show ((cc.drop (min j (n - 1) * k)).take k)[t]? = _
      rw [List.getElem?_take_of_lt ht, List.getElem?_drop, show min j (n - 1) = j from by omega]
    have hk0 : ∀ t, t < n * k → 0 < k := fun t ht => by
      rcases Nat.eq_zero_or_pos k with h | h
      · subst h; simp at ht
      · exact h
    have hH : HoldsK enc k w p.block 0 (Array.range n) := by
      intro t ht
      have ht' : t < n * k := by simpa using ht
      have hkp := hk0 t ht'
      have hjd : t / k < n := Nat.div_lt_of_lt_mul (by rwa [Nat.mul_comm] at ht')
      have hmd : t % k < k := Nat.mod_lt _ hkp
      have hval : cs[t]? = some ((flatK enc k (Array.range n))[t]!) := by
        rw [get_flatK _ _ _ _ (by simpa using ht'), range_get hjd, hgetcs t ht']
        have h1 := henc (t / k) (t % k) hjd hmd
        rw [show t / k * k + t % k = t from by rw [Nat.mul_comm]; exact Nat.div_add_mod t k] at h1
        rw [← h1]
        have hl : t % k < (enc (t / k)).length := by rw [(hchunk _).2]; exact hmd
        rw [List.getElem?_eq_getElem hl, List.getElem!_eq_getElem?_getD, List.getElem?_eq_getElem hl]; rfl
      refine ⟨?_, ?_⟩
      · simp only [World.cell?, hcs, Nat.zero_add, id]
        simpa using hval
      · simp [World.frozen?, hcs]
    have eg : ∀ args w, (callFunc c args).run P w = .ok (.enter c args) w := by
      intro args w
      unfold enters at hE
      split at hE
      · rename_i fn hfn
        simp only [Bool.and_eq_true, bne_iff_ne, ne_eq] at hE
        have hb : ¬ fn.body = none := by intro hq; rw [hq] at hE; simp at hE
        simp [callFunc, hfn, hE.1, hb]
      · cases hE
    have hswo := swo_via hO (fun i : Nat => xs.getD (min i (n - 1)) default)
    have hcmpL : CmpLays P c cb enc k (fun i j => cf (xs.getD (min i (n - 1)) default) (xs.getD (min j (n - 1)) default)) p.block 0 (Array.range n).size w :=
      cmpLays_of (caps := caps) (u := u) (g := g) (fun i j => hcmp _ _) (fun i => (hchunk i).1) (fun i => T.ag _) (fun i => T.lt _ 0) hcl hcb hI hr.agree
    have hmain := AnyQ.slices_SortFunc_eq L k aE zE enc (fun i => (hchunk i).2) hone _ hswo c cb p.block 0 cp (Array.range n) w eg hcmpL hH hblk (by simpa using hsz)
    have hps := pdq_sorts _ hswo (Array.range n) 0 n (Lib.bitLen n) true true (Nat.zero_le _) (by simp) (Or.inl rfl)
    simp only [Array.size_range] at hmain
    generalize hr' : Sort.pdq (ltOf fun i j : Nat => cf (xs.getD (min i (n - 1)) default) (xs.getD (min j (n - 1)) default)) (Array.range n) 0 n (Lib.bitLen n) true true = r at hmain hps
    have hzr : zs = r.toList.map fun i => xs.getD (min i (n - 1)) default := by rw [hzs]; unfold sortF; rw [if_neg hnil]; rw [← hr']
    obtain ⟨⟨hrs, _, hperm⟩, _⟩ := hps
    have hrn : r.size = n := by simpa using hrs
    have hrlt : ∀ j, j < n → r[j]! < n := by
      intro j hj
      have hm : r[j]! ∈ (r.extract 0 n).toList := by
        have h1 : (r.extract 0 n).toList = r.toList := by rw [← hrn]; simp
        rw [h1]
        have : j < r.toList.length := by simp; omega
        have h2 : r.toList[j] = r[j]! := by simp [hrn, hj]
        rw [← h2]; exact List.getElem_mem this
      have := hperm.mem_iff.1 hm
      simp at this
      omega
    have e3 : [Value.slice (some ⟨p.block, 0 + 0 * k, none⟩) xs.length cp, .func (.func c) #[] cb].toArray = #[.slice (some ⟨p.block, 0, none⟩) n cp, .func (.func c) #[] cb] := by simp [n]
    rw [e3]
    refine hmain.mono ?_
    rintro e w' ⟨rfl, m, os, rfl⟩
    have hH' := holdsK_sortWorldK_c enc k w p.block 0 (Array.range n) r m os hH hblk (by simp [hrn])
    have hother : ∀ b, b < w.heap.size → b ≠ p.block → (sortWorldK enc k w p.block 0 m r os).heap[b]? = w.heap[b]? := by
      intro b hlt hb
      unfold sortWorldK putRowK putRow mapBlock grow
      rw [Array.getElem?_append_left (by simp [Array.size_modify]; exact hlt)]
      simp [Array.getElem?_modify, Ne.symm hb, ahead]
    have hsize := size_sortWorldK_c enc k w p.block 0 m r os
    have hrow : ∃ cs' : Array Value, (sortWorldK enc k w p.block 0 m r os).heap[p.block]? = some (.cells cs' cty (0, 0)) ∧ cs'.size = cs.size := by
      unfold sortWorldK putRowK putRow mapBlock grow
      rw [Array.getElem?_append_left (by simp [Array.size_modify]; exact hblk)]
      refine ⟨putCells id 0 (flatK enc k r) cs, ?_, by simp [putCells]⟩
      have : (Sort.ahead w m).heap[p.block]? = some (.cells cs cty (0, 0)) := hcs
      have h2 : w.heap[p.block]? = some (.cells cs cty (0, 0)) := hcs
      rw [Array.getElem?_modify, if_pos rfl]
      show Option.map _ w.heap[p.block]? = _
      rw [h2]; rfl
    obtain ⟨cs', hcs', hsz'⟩ := hrow
    have hcell : ∀ t, t < n * k → cs'.toList[t]? = some ((flatK enc k r)[t]!) := by
      intro t ht
      have := (hH' t (by simp [hrn]; exact ht)).1
      simp only [World.cell?, hcs', Nat.zero_add, id] at this
      simpa using this
    have hfit : n * k ≤ cs'.size := by
      have h1 : cs.toList.length = cc.length + junk.length := by rw [hcj]; simp
      have h2 : n * k = xs.length * k := rfl
      simp at h1; omega
    have hchk : ∀ j, j < n → ((cs'.toList.take (n * k)).drop (j * k)).take k = enc r[j]! := by
      intro j hj
      have hjk : j * k + k ≤ n * k := by have := Nat.mul_le_mul_right k (show j + 1 ≤ n from hj); rwa [Nat.add_mul, Nat.one_mul] at this
      apply List.ext_getElem?
      intro t
      by_cases ht : t < k
      · rw [List.getElem?_take_of_lt ht, List.getElem?_drop, List.getElem?_take_of_lt (by omega), hcell (j * k + t) (by omega)]
        rw [get_flatK _ _ _ _ (by rw [hrn]; omega)]
        have hd : (j * k + t) / k = j := by rw [Nat.mul_comm, Nat.mul_add_div (by omega), Nat.div_eq_of_lt ht, Nat.add_zero]
        have hmd : (j * k + t) % k = t := by rw [Nat.mul_comm, Nat.mul_add_mod, Nat.mod_eq_of_lt ht]
        rw [hd, hmd]
        have hl : t < (enc r[j]!).length := by rw [(hchunk _).2]; exact ht
        rw [List.getElem!_eq_getElem?_getD, List.getElem?_eq_getElem hl]; rfl
      · rw [List.getElem?_eq_none (by rw [List.length_take]; omega), List.getElem?_eq_none (by rw [(hchunk _).2]; omega)]
    have hrcu : RCu g k (zs.map f) (cs'.toList.take (n * k)) := by
      refine RCu.mk ?_ fun j v hv => ?_
      · rw [hzr]; simp [hrn]; omega
      · rw [hzr] at hv
        simp only [List.map_map, List.getElem?_map] at hv
        have hj : j < n := by
          rcases Nat.lt_or_ge j n with h | h
          · exact h
          · rw [List.getElem?_eq_none (by simp [hrn]; exact h)] at hv; cases hv
        have hrj : r.toList[j]? = some r[j]! := by
          rw [List.getElem?_eq_getElem (by simp [hrn]; exact hj)]
          simp [hrn, hj]
        rw [hrj] at hv
        simp only [Option.map_some, Option.some.injEq] at hv
        subst hv
        rw [hchk j hj]
        exact (hchunk _).1
    have hfin : ORel g (sortWorldK enc k w p.block 0 m r os) p (.buf k (zs.map f)) :=
      .inr ⟨hvac, cs', cty, hcs', ⟨cs'.toList.take (n * k), cs'.toList.drop (n * k), (List.take_append_drop _ _).symm, hrcu⟩, by rw [hsz', hcsz], hI⟩
    have hown : p.own (.buf k (xs.map f)) = true := by simp [Place.own, hvac]
    have hk' : ∀ b, b ≠ p.block → b < w.heap.size → (sortWorldK enc k w p.block 0 m r os).heap[b]? = w.heap[b]? := fun b h1 h2 => hother b h2 h1
    refine ⟨g, _, _, ⟨rfl, rfl⟩, ⟨#[], rfl, by simp [RVl]⟩, ?_, ?_⟩
    · refine ⟨?_, by simp [hr.len], ?_, ?_⟩
      · intro b i x hx
        have hb : b ≠ p.block := fun e => by rw [e, hI] at hx; cases hx
        have := hr.agree b i x hx
        simpa only [World.cell?, hk' b hb (hr.imm_lt hx)] using this
      · intro a' q' ob1 h1 h2
        by_cases e : a' = o
        · subst e
          rw [hp] at h1; cases h1
          rw [List.getElem?_set_self (List.getElem?_eq_some_iff.1 ho).1] at h2
          cases h2
          exact hfin
        · rw [List.getElem?_set_ne (Ne.symm e)] at h2
          cases hlive : q'.own ob1 with
          | false => exact (hr.obj a' q' ob1 h1 h2).free hlive
          | true =>
            have hb : q'.block ≠ p.block := fun eb => e (hr.inj a' o q' p ob1 _ h1 hp h2 ho hlive hown eb)
            exact (hr.obj a' q' ob1 h1 h2).keep (.refl g) (hk' _ hb ((hr.obj a' q' ob1 h1 h2).inb hlive)) (fun _ => rfl)
      · intro a1 a2 q1 q2 ob1 ob2 h1 h1' h2 h2' l1 l2 e
        have key : ∀ (a : Nat) (q : Place) (ob1 : AObj), g.ρ[a]? = some q → (H.set o (.buf k (zs.map f)))[a]? = some ob1 → q.own ob1 = true → ∃ ob2, H[a]? = some ob2 ∧ q.own ob2 = true := by
          intro a q ob1 h1 h2 l1
          by_cases ea : a = o
          · subst ea
            rw [hp] at h1; cases h1
            exact ⟨_, ho, hown⟩
          · rw [List.getElem?_set_ne (Ne.symm ea)] at h2; exact ⟨ob1, h2, l1⟩
        obtain ⟨x, hx, lx⟩ := key a1 q1 ob1 h1 h2 l1
        obtain ⟨y, hy, ly⟩ := key a2 q2 ob2 h1' h2' l2
        exact hr.inj a1 a2 q1 q2 x y h1 h1' hx hy lx ly e
    · refine ⟨.refl g, rfl, rfl, rfl, hsize, ?_, ?_, fun _ _ _ _ => rfl, ?_⟩
      · show w.drawn ≤ (Sort.ahead w m).drawn
        simp [Sort.ahead]
      · intro b hb hn
        exact hk' b (fun e => hn ⟨o, p, _, hp, ho, hown, e.symm⟩) hb
      · rintro b ⟨a1, q1, ob1, h1, h2, l1, e⟩
        by_cases ea : a1 = o
        · subst ea
          rw [hp] at h1; cases h1
          exact .inl ⟨a1, p, _, hp, ho, hown, e⟩
        · rw [List.getElem?_set_ne (Ne.symm ea)] at h2
          exact .inl ⟨a1, q1, ob1, h1, h2, l1, e⟩
end Go.Av
