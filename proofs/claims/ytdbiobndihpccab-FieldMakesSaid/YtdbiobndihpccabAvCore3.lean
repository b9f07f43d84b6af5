/- Abstract memory: objects that may be written, cells that never turn again; what a step may do to the world. -/
import Derived.Test.YtdbiobndihpccabAvCore2
namespace Go.Av
set_option linter.unusedVariables false
set_option linter.unusedSimpArgs false

inductive AObj where
  | cells (v : V)
  | buf (e : Nat) (vs : List V)
  | tail
  | map (es : List (V × V))
  | dead
  deriving Inhabited

/-- Does the object's block belong to it? -/
def Place.own (p : Place) : AObj → Bool
  | .dead => false
  | .tail => !p.vac
  | .buf _ _ => !p.vac
  | _ => true

def REs (g : Gh) : List (V × V) → List MapEntry → Prop
  | [], l => l = []
  | kv :: r, l => ∃ e es, l = e :: es ∧ RV g kv.1 e.key ∧ RV g kv.2 e.val ∧ REs g r es

theorem REs.mono {g g' : Gh} (h : g.le g') : ∀ {es : List (V × V)} {l : List MapEntry}, REs g es l → REs g' es l
  | [], _, k => k
  | _ :: _, _, k => by
    obtain ⟨e, es, h1, h2, h3, h4⟩ := k
    exact ⟨e, es, h1, h2.mono h, h3.mono h, REs.mono h h4⟩

def ORel (g : Gh) (w : World) (p : Place) : AObj → Prop
  | .cells v => ∃ cs ty, w.heap[p.block]? = some (.cells cs ty (0, 0)) ∧ (∃ junk, cs.toList = (cs.toList.take (flen v)) ++ junk ∧ RC g v (cs.toList.take (flen v))) ∧ ∀ i, g.I p.block i = none
  | .buf e vs => (p.vac = true ∧ vs = []) ∨ p.vac = false ∧ ∃ cs ty, w.heap[p.block]? = some (.cells cs ty (0, 0)) ∧ (∃ c junk, cs.toList = c ++ junk ∧ RCu g e vs c) ∧ cs.size = p.size ∧ ∀ i, g.I p.block i = none
  | .tail => p.vac = true ∨ ∃ cs ty, w.heap[p.block]? = some (.cells cs ty (0, 0)) ∧ cs.size = p.size ∧ ∀ i, p.front ≤ i → g.I p.block i = none
  | .map es => ∃ ents clock, w.heap[p.block]? = some (.map ents clock) ∧ REs g es ents.toList ∧ (∀ e ∈ ents.toList, e.born < clock)
  | .dead => True

theorem ORel.keep {g g' : Gh} {w w' : World} {p : Place} {ob : AObj} (h : ORel g w p ob) (le : g.le g') (hw : w'.heap[p.block]? = w.heap[p.block]?)
    (hi : ∀ i, g'.I p.block i = g.I p.block i) : ORel g' w' p ob := by
  cases ob with
  | cells v => obtain ⟨cs, ty, h1, ⟨j, h2, h2'⟩, h3⟩ := h; exact ⟨cs, ty, hw ▸ h1, ⟨j, h2, h2'.mono le⟩, fun i => (hi i).trans (h3 i)⟩
  | buf e vs =>
    rcases h with h | ⟨h0, cs, ty, h1, ⟨c, j, h2, h2'⟩, h3⟩
    · exact .inl h
    · exact .inr ⟨h0, cs, ty, hw ▸ h1, ⟨c, j, h2, h2'.mono le⟩, h3.1, fun i => (hi i).trans (h3.2 i)⟩
  | tail =>
    rcases h with h | ⟨cs, ty, h1, h2, h3⟩
    · exact .inl h
    · exact .inr ⟨cs, ty, hw ▸ h1, h2, fun i hp => (hi i).trans (h3 i hp)⟩
  | map es => obtain ⟨e, c, h1, h2, h3⟩ := h; exact ⟨e, c, hw ▸ h1, h2.mono le, h3⟩
  | dead => trivial

theorem ORel.inb {g : Gh} {w : World} {p : Place} {ob : AObj} (h : ORel g w p ob) (hl : p.own ob = true) : p.block < w.heap.size := by
  cases ob with
  | cells v => obtain ⟨cs, ty, h1, _⟩ := h; exact (Array.getElem?_eq_some_iff.1 h1).1
  | buf e vs =>
    rcases h with h | ⟨_, cs, ty, h1, _⟩
    · simp [Place.own, h.1] at hl
    · exact (Array.getElem?_eq_some_iff.1 h1).1
  | tail =>
    rcases h with h | ⟨cs, ty, h1, _⟩
    · simp [Place.own, h] at hl
    · exact (Array.getElem?_eq_some_iff.1 h1).1
  | map es => obtain ⟨cs, ty, h1, _⟩ := h; exact (Array.getElem?_eq_some_iff.1 h1).1
  | dead => simp [Place.own] at hl

theorem ORel.free {g g' : Gh} {w w' : World} {p : Place} {ob : AObj} (h : ORel g w p ob) (hl : p.own ob = false) : ORel g' w' p ob := by
  cases ob with
  | cells v => simp [Place.own] at hl
  | buf e vs =>
    have hv : p.vac = true := by simpa [Place.own] using hl
    rcases h with h | ⟨h0, _⟩
    · exact .inl h
    · rw [hv] at h0; cases h0
  | tail => exact .inl (by simpa [Place.own] using hl)
  | map es => simp [Place.own] at hl
  | dead => trivial

structure HR (g : Gh) (H : List AObj) (w : World) : Prop where
  agree : ∀ b i x, g.I b i = some x → w.cell? ⟨b, i, none⟩ = some x
  len : g.ρ.length = H.length
  obj : ∀ (o : Nat) p ob, g.ρ[o]? = some p → H[o]? = some ob → ORel g w p ob
  inj : ∀ (o o' : Nat) p p' ob ob', g.ρ[o]? = some p → g.ρ[o']? = some p' → H[o]? = some ob → H[o']? = some ob' → p.own ob = true → p'.own ob' = true → p.block = p'.block → o = o'

/-- The blocks that may be written. -/
def Lv (g : Gh) (H : List AObj) (b : Nat) : Prop := ∃ (o : Nat) (p : Place) (ob : AObj), g.ρ[o]? = some p ∧ H[o]? = some ob ∧ p.own ob = true ∧ p.block = b

structure Ev (g : Gh) (H : List AObj) (w : World) (g' : Gh) (H' : List AObj) (w' : World) : Prop where
  le : g.le g'
  os : w'.os = w.os
  tape : w'.tape = w.tape
  output : w'.output = w.output
  size : w.heap.size ≤ w'.heap.size
  drawn : w.drawn ≤ w'.drawn
  keep : ∀ b, b < w.heap.size → ¬ Lv g H b → w'.heap[b]? = w.heap[b]?
  imm : ∀ b i, b < w.heap.size → ¬ Lv g H b → g'.I b i = g.I b i
  live : ∀ b, Lv g' H' b → Lv g H b ∨ w.heap.size ≤ b

theorem Ev.refl (g : Gh) (H : List AObj) (w : World) : Ev g H w g H w := ⟨.refl g, rfl, rfl, rfl, Nat.le_refl _, Nat.le_refl _, fun _ _ _ => rfl, fun _ _ _ _ => rfl, fun _ h => .inl h⟩

theorem Ev.trans {g g' g'' : Gh} {H H' H'' : List AObj} {w w' w'' : World} (h : Ev g H w g' H' w') (k : Ev g' H' w' g'' H'' w'') : Ev g H w g'' H'' w'' where
  le := h.le.trans k.le
  os := k.os.trans h.os
  tape := k.tape.trans h.tape
  output := k.output.trans h.output
  size := Nat.le_trans h.size k.size
  drawn := Nat.le_trans h.drawn k.drawn
  keep b hb hn := by
    have : ¬ Lv g' H' b := fun hl => by rcases h.live b hl with x | x; exact hn x; omega
    rw [k.keep b (by have := h.size; omega) this, h.keep b hb hn]
  imm b i hb hn := by
    have : ¬ Lv g' H' b := fun hl => by rcases h.live b hl with x | x; exact hn x; omega
    rw [k.imm b i (by have := h.size; omega) this, h.imm b i hb hn]
  live b hb := by
    rcases k.live b hb with x | x
    · exact h.live b x
    · exact .inr (by have := h.size; omega)

theorem HR.inb {g : Gh} {H : List AObj} {w : World} (h : HR g H w) {b : Nat} (hb : Lv g H b) : b < w.heap.size := by
  obtain ⟨o, p, ob, h1, h2, h3, rfl⟩ := hb
  exact (h.obj o p ob h1 h2).inb h3

theorem HR.fresh {g : Gh} {H : List AObj} {w : World} (h : HR g H w) {b : Nat} (hb : w.heap.size ≤ b) (i : Nat) : g.I b i = none := by
  cases hx : g.I b i with
  | none => rfl
  | some x =>
    have := h.agree b i x hx
    simp [World.cell?, Array.getElem?_eq_none hb] at this

/-- A draw. -/
theorem HR.drew {g : Gh} {H : List AObj} {w w' : World} (h : HR g H w) (hh : w'.heap = w.heap) : HR g H w' where
  agree b i x hx := by simpa only [World.cell?, hh] using h.agree b i x hx
  len := h.len
  obj o p ob h1 h2 := (h.obj o p ob h1 h2).keep (.refl g) (by rw [hh]) (fun _ => rfl)
  inj := h.inj

theorem Ev.drew {g : Gh} {H : List AObj} {w w' : World} (hh : w'.heap = w.heap) (h1 : w'.os = w.os) (h2 : w'.tape = w.tape) (h3 : w'.output = w.output) (h4 : w.drawn ≤ w'.drawn) : Ev g H w g H w' :=
  ⟨.refl g, h1, h2, h3, by rw [hh]; exact Nat.le_refl _, h4, fun _ _ _ => by rw [hh], fun _ _ _ _ => rfl, fun _ h => .inl h⟩

/-- Cells that never turn again, laid. -/
def Gh.put (g : Gh) (b lo : Nat) (cs : List Value) : Gh := { g with I := fun b' i => if b' = b ∧ lo ≤ i ∧ i < lo + cs.length then cs[i - lo]? else g.I b' i }

theorem Gh.put_le {g : Gh} {b lo : Nat} {cs : List Value} (h : ∀ i, lo ≤ i → g.I b i = none) : g.le (g.put b lo cs) where
  imm b' i x hx := by
    simp only [Gh.put]
    split
    · rename_i hc
      rw [hc.1, h i hc.2.1] at hx
      cases hx
    · exact hx
  pre _ _ h := h

theorem Gh.put_holds {g : Gh} {b lo : Nat} {cs : List Value} : (g.put b lo cs).holds ⟨b, lo, none⟩ cs := by
  intro i x hx
  have hl : i < cs.length := (List.getElem?_eq_some_iff.1 hx).1
  simp only [Gh.put]
  rw [if_pos ⟨trivial, Nat.le_add_right _ _, by omega⟩]
  rw [show lo + i - lo = i from by omega]
  exact hx

theorem heap_alloc_lt (w : World) (o : Obj) (k : Nat) (h : k < w.heap.size) : (w.alloc o).heap[k]? = w.heap[k]? := by
  show (w.heap.push o)[k]? = _
  rw [Array.getElem?_push, if_neg (by omega)]

theorem heap_alloc_eq (w : World) (o : Obj) : (w.alloc o).heap[w.heap.size]? = some o := by
  show (w.heap.push o)[w.heap.size]? = _
  simp

theorem size_alloc' (w : World) (o : Obj) : (w.alloc o).heap.size = w.heap.size + 1 := by
  show (w.heap.push o).size = _
  simp

theorem cell_alloc_lt (w : World) (o : Obj) (b i : Nat) (h : b < w.heap.size) : (w.alloc o).cell? ⟨b, i, none⟩ = w.cell? ⟨b, i, none⟩ := by
  simp only [World.cell?, heap_alloc_lt w o b h]

theorem HR.imm_lt {g : Gh} {H : List AObj} {w : World} (h : HR g H w) {b i : Nat} {x : Value} (hx : g.I b i = some x) : b < w.heap.size := by
  rcases Nat.lt_or_ge b w.heap.size with hb | hb
  · exact hb
  · rw [h.fresh hb] at hx; cases hx

/-- A new block that may be written. -/
theorem HR.alloc {g : Gh} {H : List AObj} {w : World} (h : HR g H w) (o : Obj) (ob : AObj) (p : Place) (hp : p.block = w.heap.size)
    (ho : ORel { g with ρ := g.ρ ++ [p] } (w.alloc o) p ob) : HR { g with ρ := g.ρ ++ [p] } (H ++ [ob]) (w.alloc o) where
  agree b i x hx := by rw [cell_alloc_lt w o b i (h.imm_lt hx)]; exact h.agree b i x hx
  len := by simp [h.len]
  obj o' p' ob' h1 h2 := by
    have hle : g.le { g with ρ := g.ρ ++ [p] } := ⟨fun _ _ _ hx => hx, fun o q hq => by
      show (g.ρ ++ [p])[o]? = some q
      rw [List.getElem?_append_left (List.getElem?_eq_some_iff.1 hq).1]; exact hq⟩
    rcases Nat.lt_or_ge o' g.ρ.length with hl | hl
    · have h1' : g.ρ[o']? = some p' := by rwa [List.getElem?_append_left hl] at h1
      have h2' : H[o']? = some ob' := by rwa [List.getElem?_append_left (h.len ▸ hl)] at h2
      cases hlive : p'.own ob' with
      | true =>
        have hb := (h.obj o' p' ob' h1' h2').inb hlive
        exact (h.obj o' p' ob' h1' h2').keep hle (heap_alloc_lt w o _ hb) (fun _ => rfl)
      | false =>
        exact (h.obj o' p' ob' h1' h2').free hlive
    · have hlen : o' < (g.ρ ++ [p]).length := (List.getElem?_eq_some_iff.1 h1).1
      have : o' = g.ρ.length := by simp at hlen; omega
      subst this
      rw [List.getElem?_append_right (Nat.le_refl _)] at h1
      rw [h.len, List.getElem?_append_right (Nat.le_refl _)] at h2
      simp at h1 h2
      subst h1 h2
      exact ho
  inj a a' q q' ob1 ob2 h1 h1' h2 h2' l1 l2 e := by
    have key : ∀ (a : Nat) (q : Place) (ob1 : AObj), (g.ρ ++ [p])[a]? = some q → (H ++ [ob])[a]? = some ob1 → q.own ob1 = true → (a = g.ρ.length ∧ q.block = w.heap.size) ∨ (g.ρ[a]? = some q ∧ H[a]? = some ob1 ∧ q.block < w.heap.size) := by
      intro a q ob1 h1 h2 l1
      rcases Nat.lt_or_ge a g.ρ.length with hl | hl
      · have h1' : g.ρ[a]? = some q := by rwa [List.getElem?_append_left hl] at h1
        have h2' : H[a]? = some ob1 := by rwa [List.getElem?_append_left (h.len ▸ hl)] at h2
        exact .inr ⟨h1', h2', (h.obj a q ob1 h1' h2').inb l1⟩
      · have hlen : a < (g.ρ ++ [p]).length := (List.getElem?_eq_some_iff.1 h1).1
        have : a = g.ρ.length := by simp at hlen; omega
        subst this
        rw [List.getElem?_append_right (Nat.le_refl _)] at h1
        simp at h1
        exact .inl ⟨rfl, by rw [← h1]; exact hp⟩
    rcases key a q ob1 h1 h2 l1 with ⟨x, y⟩ | ⟨x, y, z⟩ <;> rcases key a' q' ob2 h1' h2' l2 with ⟨x', y'⟩ | ⟨x', y', z'⟩
    · omega
    · omega
    · omega
    · exact h.inj a a' q q' ob1 ob2 x x' y y' l1 l2 e

theorem Gh.le_push (g : Gh) (p : Place) : g.le { g with ρ := g.ρ ++ [p] } :=
  ⟨fun _ _ _ hx => hx, fun o q hq => by
    show (g.ρ ++ [p])[o]? = some q
    rw [List.getElem?_append_left (List.getElem?_eq_some_iff.1 hq).1]; exact hq⟩

theorem Ev.alloc {g : Gh} {H : List AObj} {w : World} (h : HR g H w) (o : Obj) (ob : AObj) (p : Place) (hp : p.block = w.heap.size) :
    Ev g H w { g with ρ := g.ρ ++ [p] } (H ++ [ob]) (w.alloc o) where
  le := g.le_push p
  os := rfl
  tape := rfl
  output := rfl
  drawn := Nat.le_refl _
  size := by rw [size_alloc']; omega
  keep b hb _ := heap_alloc_lt w o b hb
  imm _ _ _ _ := rfl
  live b hb := by
    obtain ⟨a, q, ob1, h1, h2, l1, e⟩ := hb
    rcases Nat.lt_or_ge a g.ρ.length with hl | hl
    · exact .inl ⟨a, q, ob1, by rwa [List.getElem?_append_left hl] at h1, by rwa [List.getElem?_append_left (h.len ▸ hl)] at h2, l1, e⟩
    · have hlen : a < (g.ρ ++ [p]).length := (List.getElem?_eq_some_iff.1 h1).1
      have : a = g.ρ.length := by simp at hlen; omega
      subst this
      rw [List.getElem?_append_right (Nat.le_refl _)] at h1
      simp at h1
      exact .inr (by rw [← e, ← h1, hp]; exact Nat.le_refl _)

/-- A new block whose first cells never turn again. -/
theorem HR.lay {g : Gh} {H : List AObj} {w : World} (h : HR g H w) (cs : Array Value) (ty : TypeId) (pre : List Value) (post : List Value) (hc : cs.toList = pre ++ post) :
    HR (g.put w.heap.size 0 pre) H (w.alloc (.cells cs ty)) where
  agree b i x hx := by
    simp only [Gh.put] at hx
    split at hx
    · rename_i hcnd
      obtain ⟨rfl, _, hl⟩ := hcnd
      simp only [World.cell?, heap_alloc_eq]
      simp at hl hx ⊢
      have : cs.toList[i]? = some x := by rw [hc, List.getElem?_append_left hl]; exact hx
      simpa using this
    · rw [cell_alloc_lt w _ b i (h.imm_lt hx)]; exact h.agree b i x hx
  len := h.len
  obj o p ob h1 h2 := by
    cases hlive : p.own ob with
    | false => exact (h.obj o p ob h1 h2).free hlive
    | true =>
      have hb := (h.obj o p ob h1 h2).inb hlive
      refine (h.obj o p ob h1 h2).keep (Gh.put_le fun i _ => h.fresh (Nat.le_refl _) i) (heap_alloc_lt w _ _ hb) (fun i => ?_)
      simp only [Gh.put]
      rw [if_neg (by omega)]
  inj := h.inj

theorem Ev.lay {g : Gh} {H : List AObj} {w : World} (h : HR g H w) (o : Obj) (pre : List Value) : Ev g H w (g.put w.heap.size 0 pre) H (w.alloc o) where
  le := Gh.put_le fun i _ => h.fresh (Nat.le_refl _) i
  os := rfl
  tape := rfl
  output := rfl
  drawn := Nat.le_refl _
  size := by rw [size_alloc']; omega
  keep b hb _ := heap_alloc_lt w o b hb
  imm b i hb _ := by simp only [Gh.put]; rw [if_neg (by omega)]
  live _ hb := .inl hb

/-- An object's block is written. -/
theorem HR.write {g : Gh} {H : List AObj} {w w' : World} (h : HR g H w) {o : Nat} {p : Place} {ob ob' : AObj} (hp : g.ρ[o]? = some p) (ho : H[o]? = some ob) (hl : p.own ob = true)
    (hI : ∀ i, g.I p.block i = none) (hk : ∀ b, b ≠ p.block → w'.heap[b]? = w.heap[b]?) (hn : ORel g w' p ob') : HR g (H.set o ob') w' where
  agree b i x hx := by
    have hb : b ≠ p.block := fun e => by rw [e, hI] at hx; cases hx
    simpa only [World.cell?, hk b hb] using h.agree b i x hx
  len := by simp [h.len]
  obj a q ob1 h1 h2 := by
    by_cases e : a = o
    · subst e
      have : q = p := by rw [hp] at h1; exact (Option.some.inj h1).symm
      subst this
      rw [List.getElem?_set_self (List.getElem?_eq_some_iff.1 ho).1] at h2
      cases h2
      exact hn
    · rw [List.getElem?_set_ne (Ne.symm e)] at h2
      cases hlive : q.own ob1 with
      | false => exact (h.obj a q ob1 h1 h2).free hlive
      | true =>
        have hb : q.block ≠ p.block := fun eb => e (h.inj a o q p ob1 ob h1 hp h2 ho hlive hl eb)
        exact (h.obj a q ob1 h1 h2).keep (.refl g) (hk _ hb) (fun _ => rfl)
  inj a a' q q' ob1 ob2 h1 h1' h2 h2' l1 l2 e := by
    have key : ∀ (a : Nat) (q : Place) (ob1 : AObj), g.ρ[a]? = some q → (H.set o ob')[a]? = some ob1 → q.own ob1 = true → ∃ ob2, H[a]? = some ob2 ∧ q.own ob2 = true := by
      intro a q ob1 h1 h2 l1
      by_cases ea : a = o
      · subst ea
        rw [hp] at h1; cases h1
        exact ⟨ob, ho, hl⟩
      · rw [List.getElem?_set_ne (Ne.symm ea)] at h2; exact ⟨ob1, h2, l1⟩
    obtain ⟨x, hx, lx⟩ := key a q ob1 h1 h2 l1
    obtain ⟨y, hy, ly⟩ := key a' q' ob2 h1' h2' l2
    exact h.inj a a' q q' x y h1 h1' hx hy lx ly e

theorem Ev.write {g : Gh} {H : List AObj} {w w' : World} {o : Nat} {p : Place} {ob ob' : AObj} (hp : g.ρ[o]? = some p) (ho : H[o]? = some ob) (hl : p.own ob = true)
    (hk : ∀ b, b ≠ p.block → w'.heap[b]? = w.heap[b]?) (h1 : w'.os = w.os) (h2 : w'.tape = w.tape) (h3 : w'.output = w.output) (h4 : w.heap.size ≤ w'.heap.size) (h5 : w.drawn ≤ w'.drawn) : Ev g H w g (H.set o ob') w' where
  le := .refl g
  os := h1
  tape := h2
  output := h3
  size := h4
  drawn := h5
  keep b _ hn := hk b fun e => hn ⟨o, p, ob, hp, ho, hl, e.symm⟩
  imm _ _ _ _ := rfl
  live b hb := by
    obtain ⟨a, q, ob1, h1, h2, l1, e⟩ := hb
    by_cases ea : a = o
    · subst ea
      rw [hp] at h1; cases h1
      exact .inl ⟨a, p, ob, hp, ho, hl, e⟩
    · rw [List.getElem?_set_ne (Ne.symm ea)] at h2
      exact .inl ⟨a, q, ob1, h1, h2, l1, e⟩

/-- An object is no longer spoken of. -/
theorem HR.kill {g : Gh} {H : List AObj} {w : World} (h : HR g H w) (o : Nat) : HR g (H.set o .dead) w where
  agree := h.agree
  len := by simp [h.len]
  obj a q ob1 h1 h2 := by
    by_cases e : a = o
    · subst e
      have hlt : a < (H.set a AObj.dead).length := (List.getElem?_eq_some_iff.1 h2).1
      rw [List.getElem?_set_self (by simpa using hlt)] at h2
      cases h2
      trivial
    · rw [List.getElem?_set_ne (Ne.symm e)] at h2
      exact h.obj a q ob1 h1 h2
  inj a a' q q' ob1 ob2 h1 h1' h2 h2' l1 l2 e := by
    have key : ∀ (a : Nat) (q : Place) (ob1 : AObj), (H.set o .dead)[a]? = some ob1 → q.own ob1 = true → H[a]? = some ob1 := by
      intro a q ob1 h2 l1
      by_cases ea : a = o
      · subst ea
        have hlt : a < (H.set a AObj.dead).length := (List.getElem?_eq_some_iff.1 h2).1
        rw [List.getElem?_set_self (by simpa using hlt)] at h2
        cases h2
        simp [Place.own] at l1
      · rwa [List.getElem?_set_ne (Ne.symm ea)] at h2
    exact h.inj a a' q q' ob1 ob2 h1 h1' (key a q ob1 h2 l1) (key a' q' ob2 h2' l2) l1 l2 e

theorem Ev.kill {g : Gh} {H : List AObj} {w : World} (o : Nat) : Ev g H w g (H.set o .dead) w where
  le := .refl g
  os := rfl
  tape := rfl
  output := rfl
  drawn := Nat.le_refl _
  size := Nat.le_refl _
  keep _ _ _ := rfl
  imm _ _ _ _ := rfl
  live b hb := by
    obtain ⟨a, q, ob1, h1, h2, l1, e⟩ := hb
    by_cases ea : a = o
    · subst ea
      have hlt : a < (H.set a AObj.dead).length := (List.getElem?_eq_some_iff.1 h2).1
      rw [List.getElem?_set_self (by simpa using hlt)] at h2
      cases h2
      simp [Place.own] at l1
    · rw [List.getElem?_set_ne (Ne.symm ea)] at h2
      exact .inl ⟨a, q, ob1, h1, h2, l1, e⟩

/-- The cells behind a view's end are written, and never turn again. -/
theorem HR.extend {g : Gh} {H : List AObj} {w w' : World} (h : HR g H w) {o : Nat} {p : Place} (hp : g.ρ[o]? = some p) (ho : H[o]? = some .tail) (hv : p.vac = false)
    {cs : Array Value} {ty : TypeId} {new : List Value} (hw : w.heap[p.block]? = some (.cells cs ty (0, 0))) (hfit : p.front + new.length ≤ cs.size)
    (hw' : w' = w.setRow p.block (cs.toList.take p.front ++ new ++ cs.toList.drop (p.front + new.length)).toArray) :
    HR { (g.put p.block p.front new) with ρ := g.ρ ++ [⟨p.block, p.front + new.length, p.size, false⟩] } (H.set o .dead ++ [.tail]) w' := by
  subst hw'
  have hown : p.own .tail = true := by simp [Place.own, hv]
  have hI : ∀ i, p.front ≤ i → g.I p.block i = none := by
    rcases h.obj o p _ hp ho with hx | ⟨_, _, _, _, hi⟩
    · rw [hv] at hx; cases hx
    · exact hi
  have hsz : cs.size = p.size := by
    rcases h.obj o p _ hp ho with hx | ⟨cs', ty', h1, h2, _⟩
    · rw [hv] at hx; cases hx
    · rw [hw] at h1; cases h1; exact h2
  have hk : ∀ b, b ≠ p.block → (w.setRow p.block (cs.toList.take p.front ++ new ++ cs.toList.drop (p.front + new.length)).toArray).heap[b]? = w.heap[b]? := fun b hb => setRow_other w p.block b _ hb
  have hs := setRow_heap w p.block cs (cs.toList.take p.front ++ new ++ cs.toList.drop (p.front + new.length)).toArray ty (0, 0) hw
  have hle : g.le { (g.put p.block p.front new) with ρ := g.ρ ++ [⟨p.block, p.front + new.length, p.size, false⟩] } :=
    (Gh.put_le (cs := new) hI).trans (Gh.le_push (g.put p.block p.front new) _)
  have hol : o < g.ρ.length := (List.getElem?_eq_some_iff.1 hp).1
  have hfs : p.front ≤ cs.size := by omega
  refine ⟨?_, by simp [h.len], ?_, ?_⟩
  · intro b i x hx
    simp only [Gh.put] at hx
    split at hx
    · rename_i hc
      obtain ⟨rfl, h1, h2⟩ := hc
      simp only [World.cell?, hs]
      simp only [Option.isSome_none, Bool.false_eq_true, if_false, List.getElem?_toArray]
      have l1 : (cs.toList.take p.front).length = p.front := by simp; omega
      rw [List.append_assoc, List.getElem?_append_right (by omega), l1, List.getElem?_append_left (by omega)]
      exact hx
    · rename_i hc
      have old := h.agree b i x hx
      by_cases hb : b = p.block
      · subst hb
        have hlt : i < p.front := by
          rcases Nat.lt_or_ge i p.front with hh | hh
          · exact hh
          · rw [hI i hh] at hx; cases hx
        simp only [World.cell?, hs, hw] at old ⊢
        simp only [Option.isSome_none, Bool.false_eq_true, if_false, List.getElem?_toArray] at old ⊢
        rw [List.append_assoc, List.getElem?_append_left (by simp; omega), List.getElem?_take_of_lt hlt]
        simpa using old
      · simpa only [World.cell?, hk b hb] using old
  · intro a q ob1 h1 h2
    rcases Nat.lt_or_ge a g.ρ.length with hl | hl
    · have h1' : g.ρ[a]? = some q := by rwa [List.getElem?_append_left hl] at h1
      rw [List.getElem?_append_left (by simp [← h.len]; exact hl)] at h2
      by_cases e : a = o
      · subst e
        rw [List.getElem?_set_self (h.len ▸ hl)] at h2
        cases h2; trivial
      · rw [List.getElem?_set_ne (Ne.symm e)] at h2
        cases hlive : q.own ob1 with
        | false => exact (h.obj a q ob1 h1' h2).free hlive
        | true =>
          have hb : q.block ≠ p.block := fun eb => e (h.inj a o q p ob1 .tail h1' hp h2 ho hlive hown eb)
          refine (h.obj a q ob1 h1' h2).keep hle (hk _ hb) (fun i => ?_)
          simp only [Gh.put]
          rw [if_neg (fun hc => hb hc.1)]
    · have hlen : a < (g.ρ ++ [(⟨p.block, p.front + new.length, p.size, false⟩ : Place)]).length := (List.getElem?_eq_some_iff.1 h1).1
      have : a = g.ρ.length := by simp at hlen; omega
      subst this
      rw [List.getElem?_append_right (Nat.le_refl _)] at h1
      rw [List.getElem?_append_right (by simp [h.len])] at h2
      simp [h.len] at h1 h2
      subst h1 h2
      refine .inr ⟨_, ty, hs, ?_, fun i hi => ?_⟩
      · simp; omega
      · have hi' : p.front + new.length ≤ i := hi
        simp only [Gh.put]
        rw [if_neg (by omega)]
        exact hI i (by omega)
  · intro a a' q q' ob1 ob2 h1 h1' h2 h2' l1 l2 e
    have key : ∀ (a : Nat) (q : Place) (ob1 : AObj), (g.ρ ++ [(⟨p.block, p.front + new.length, p.size, false⟩ : Place)])[a]? = some q → (H.set o .dead ++ [.tail])[a]? = some ob1 → q.own ob1 = true →
        (a = g.ρ.length ∧ q.block = p.block) ∨ (g.ρ[a]? = some q ∧ H[a]? = some ob1 ∧ q.block ≠ p.block) := by
      intro a q ob1 h1 h2 l1
      rcases Nat.lt_or_ge a g.ρ.length with hl | hl
      · have h1' : g.ρ[a]? = some q := by rwa [List.getElem?_append_left hl] at h1
        rw [List.getElem?_append_left (by simp [← h.len]; exact hl)] at h2
        by_cases e : a = o
        · subst e
          rw [List.getElem?_set_self (h.len ▸ hl)] at h2
          cases h2
          simp [Place.own] at l1
        · rw [List.getElem?_set_ne (Ne.symm e)] at h2
          exact .inr ⟨h1', h2, fun eb => e (h.inj a o q p ob1 .tail h1' hp h2 ho l1 hown eb)⟩
      · have hlen : a < (g.ρ ++ [(⟨p.block, p.front + new.length, p.size, false⟩ : Place)]).length := (List.getElem?_eq_some_iff.1 h1).1
        have : a = g.ρ.length := by simp at hlen; omega
        subst this
        rw [List.getElem?_append_right (Nat.le_refl _)] at h1
        simp at h1
        exact .inl ⟨rfl, by rw [← h1]⟩
    rcases key a q ob1 h1 h2 l1 with ⟨x, y⟩ | ⟨x, y, z⟩ <;> rcases key a' q' ob2 h1' h2' l2 with ⟨x', y'⟩ | ⟨x', y', z'⟩
    · omega
    · exact absurd (e ▸ y) z'
    · exact absurd (e ▸ y') z
    · exact h.inj a a' q q' ob1 ob2 x x' y y' l1 l2 e

theorem Ev.extend {g : Gh} {H : List AObj} {w w' : World} (h : HR g H w) {o : Nat} {p : Place} (hp : g.ρ[o]? = some p) (ho : H[o]? = some .tail) (hv : p.vac = false)
    {new : List Value} {row : Array Value} (hw' : w' = w.setRow p.block row) :
    Ev g H w { (g.put p.block p.front new) with ρ := g.ρ ++ [⟨p.block, p.front + new.length, p.size, false⟩] } (H.set o .dead ++ [.tail]) w' := by
  subst hw'
  have hown : p.own .tail = true := by simp [Place.own, hv]
  have hI : ∀ i, p.front ≤ i → g.I p.block i = none := by
    rcases h.obj o p _ hp ho with hx | ⟨_, _, _, _, hi⟩
    · rw [hv] at hx; cases hx
    · exact hi
  have hlv : Lv g H p.block := ⟨o, p, .tail, hp, ho, hown, rfl⟩
  refine ⟨(Gh.put_le (cs := new) hI).trans (Gh.le_push (g.put p.block p.front new) _), rfl, rfl, rfl, by simp, Nat.le_refl _, ?_, ?_, ?_⟩
  · intro b _ hn; exact setRow_other w p.block b _ fun e => hn (e ▸ hlv)
  · intro b i _ hn
    simp only [Gh.put]
    rw [if_neg (fun hc : b = p.block ∧ p.front ≤ i ∧ i < p.front + new.length => hn (hc.1 ▸ hlv))]
  · intro b hb
    obtain ⟨a, q, ob1, h1, h2, l1, e⟩ := hb
    rcases Nat.lt_or_ge a g.ρ.length with hl | hl
    · have h1' : g.ρ[a]? = some q := by rwa [List.getElem?_append_left hl] at h1
      rw [List.getElem?_append_left (by simp [← h.len]; exact hl)] at h2
      by_cases ea : a = o
      · subst ea
        rw [List.getElem?_set_self (h.len ▸ hl)] at h2
        cases h2
        simp [Place.own] at l1
      · rw [List.getElem?_set_ne (Ne.symm ea)] at h2
        exact .inl ⟨a, q, ob1, h1', h2, l1, e⟩
    · have hlen : a < (g.ρ ++ [(⟨p.block, p.front + new.length, p.size, false⟩ : Place)]).length := (List.getElem?_eq_some_iff.1 h1).1
      have : a = g.ρ.length := by simp at hlen; omega
      subst this
      rw [List.getElem?_append_right (Nat.le_refl _)] at h1
      simp at h1
      exact .inl (by rw [← e, ← h1]; exact hlv)

end Go.Av
