/- Abstract values over the model, rules for walks. -/
import Derived.Test.YtdkmcidgcflaaaaGreatDoorAvReplicaNobodyK1
import Derived.WalkKit
import Derived.ProofKit
import Derived.OpenShut
import Derived.ShutString
import Derived.ChangeOld
import Derived.Below
import Derived.SizedLaws
import Derived.Maps.Keyed
import Derived.DeepKeys5
import Derived.Laws.Cover3
import Derived.Shelf.SlSortCmp.WholeK
import Derived.Tactics
import Derived.Tactics2
import Derived.Defers
import Derived.Recover
import Derived.Laws.Strings
import Derived.Laws.MakeOwn
import Derived.Laws.BytesArg
import Derived.LoopN
set_option linter.unusedSimpArgs false
set_option linter.unusedVariables false
set_option linter.unusedSectionVars false
namespace Go.Av
variable {parts : Array (Nat × Operand)} {ops : Array Oper} {ats : Array TypeId} {eag : Bool} {k : IntKind} {ids path rest : List Nat} {cs : List Value} {N by_ cap d i id j lo m o off' q : Nat} {hi x y : Operand} {dst : Option Tmp} {P : Program} {et t' ty xt : TypeId} {w w' : World}
section
open Go.ChangeShapes Go.WideShapes Go.ChangeAt Go.RowKit

/-- Types of arguments, as trees. -/
inductive Ty where
 | bool
 | int (k : IntKind)
 | str
 | sl (e by_ : Nat) (t : Ty)
 | st (fs : List Ty)
 | arr (n e : Nat) (t : Ty)

def seqOff (P : Program) : Nat → List Field → Option Nat
 | n, [] => some n
 | n, f :: fs => if f.offset = n then seqOff P (n + P.cellsOf f.type) fs else none

def tyOf (P : Program) : Nat → TypeId → Option Ty
 | 0, _ => none
 | n + 1, t =>
  match P.underlying t with
  | some .bool => some .bool
  | some (.int k) => some (.int k)
  | some .string => some .str
  | some (.slice e) => if 0 < P.cellsOf e then (tyOf P n e).map (.sl (P.cellsOf e) (P.bytesOf e)) else none
  | some (.struct fs) => if seqOff P 0 fs.toList = some (P.cellsOf t) then (fs.toList.mapM fun f => tyOf P n f.type).map .st else none
  | some (.array k e) => if P.cellsOf t = k * P.cellsOf e then (tyOf P n e).map (.arr k (P.cellsOf e)) else none
  | _ => none

mutual
/-- A value of such a type, as an argument brings it. -/
def hasTy : Ty → V → Prop
  | .bool, v => ∃ b, v = .bool b
  | .int k, v => ∃ n, v = .int k n ∧ (Lit.int k n).wf = true
  | .str, v => ∃ s, v = .str s ∧ s.size ≤ reachBytes
  | .sl e by_ t, v => ∃ xs, v = .sl e .no xs ∧ xs.length ≤ maxLen ∧ xs.length * by_ ≤ reachBytes ∧ ∀ x ∈ xs, hasTy t x
  | .st ts, v => ∃ vs, v = .st vs ∧ hasTys ts vs
  | .arr n e t, v => ∃ vs, v = .arr e vs ∧ vs.length = n ∧ ∀ x ∈ vs, hasTy t x
def hasTys : List Ty → List V → Prop
  | [], vs => vs = []
  | t :: ts, vs => ∃ v r, vs = v :: r ∧ hasTy t v ∧ hasTys ts r
end

theorem decList {α : Type} {f : α → V} {Q : α → Prop} : ∀ {vs : List V}, (∀ x ∈ vs, ∃ a, x = f a ∧ Q a) → ∃ l : List α, vs = l.map f ∧ ∀ a ∈ l, Q a
 | [], _ => ⟨[], rfl, by simp⟩
 | v :: vs, h => by
  obtain ⟨a, rfl, ha⟩ := h v (by simp)
  obtain ⟨l, rfl, hl⟩ := decList (vs := vs) (fun x hx => h x (by simp [hx]))
  exact ⟨a :: l, rfl, by intro x hx; rcases List.mem_cons.1 hx with rfl | hx; exact ha; exact hl x hx⟩

def heapI (W : World) (b i : Nat) : Option Value := W.cell? ⟨b, i, none⟩
def gh0 (W : World) : Gh := ⟨heapI W, []⟩

theorem mapM_range {β : Type} {f : Nat → Option β} {n : Nat} {r : List β} (h : (List.range n).mapM f = some r) : r.length = n ∧ ∀ i, i < n → f i = r[i]? := by
 have hl := mapM_some_length h
 refine ⟨by simpa using hl, fun i hi => ?_⟩
 exact mapM_some_get h i i (by simp [hi])

section
variable {H : Type} {enc : TypeId × Value → H} {P : Program} {W : World} {base : Nat} {spare : Nat → Bool} {held : Bool}

theorem cells?_get {a : Addr} {n : Nat} (h : W.cells? base a n = some cs) : cs.length = n ∧ ∀ i x, cs[i]? = some x → W.cell? (a.add i) = some x := by
 unfold World.cells? at h
 split at h
 ·obtain ⟨h1, h2⟩ := mapM_range h
  refine ⟨h1, fun i x hx => ?_⟩
  have hi : i < n := by rw [← h1]; exact (List.getElem?_eq_some_iff.1 hx).1
  rw [h2 i hi, hx]
 ·cases h

theorem cell_spot {a : Addr} {x : Value} (h : W.cell? a = some x) : a.spot = none := by
 unfold World.cell? at h
 split at h
 ·split at h
  ·cases h
  ·rename_i hs; simpa using hs
 ·cases h

theorem holds_of_cells {a : Addr} {n : Nat} (h : W.cells? base a n = some cs) : (gh0 W).holds a cs ∧ (cs ≠ [] → a.spot = none) := by
 obtain ⟨_, h2⟩ := cells?_get h
 have hs : cs ≠ [] → a.spot = none := by
  intro hne
  cases cs with
  | nil => exact absurd rfl hne
  | cons x r =>
   have := cell_spot (h2 0 x rfl)
   simpa [Addr.add] using this
 refine ⟨fun i x hx => ?_, hs⟩
 have hne : cs ≠ [] := by rintro rfl; simp at hx
 have := h2 i x hx
 rw [add_addr' (hs hne)] at this
 exact this

/-- Elements one behind the other. -/
theorem open_elems {g : Gh} {T : Ty} {e : Nat} : ∀ (n : Nat) (a : Addr), a.spot = none → (∀ i, i < n → ∃ v c, hasTy T v ∧ RC g v c ∧ c.length = e ∧ g.holds (a.add (i * e)) c) →
  ∃ vs c, vs.length = n ∧ (∀ v ∈ vs, hasTy T v) ∧ RCu g e vs c ∧ g.holds a c
 | 0, a, _, _ => ⟨[], [], rfl, by simp, by simp [RCu], fun i x h => by simp at h⟩
 | n + 1, a, ha, h => by
  obtain ⟨v, c, h1, h2, h3, h4⟩ := h 0 (by omega)
  have hadd : ∀ m, a.add m = ⟨a.block, a.off + m, none⟩ := fun m => add_addr' ha
  obtain ⟨vs, c', k1, k2, k3, k4⟩ := open_elems n (a.add e) (by rw [hadd]) (fun i hi => by
   obtain ⟨v, c, h1, h2, h3, h4⟩ := h (i + 1) (by omega)
   refine ⟨v, c, h1, h2, h3, ?_⟩
   have : (a.add e).add (i * e) = a.add ((i + 1) * e) := by
    rw [hadd, hadd, add_addr' rfl, Nat.add_mul, Nat.one_mul]
    show (⟨a.block, a.off + e + i * e, none⟩ : Addr) = _
    rw [show a.off + e + i * e = a.off + (i * e + e) from by omega]
   rw [this]; exact h4)
  refine ⟨v :: vs, c ++ c', by simp [k1], ?_, ?_, ?_⟩
  ·intro x hx
   rcases List.mem_cons.1 hx with rfl | hx
   ·exact h1
   ·exact k2 x hx
  ·simp only [RCu]
   exact ⟨c, c', rfl, h3, h2, k3⟩
  ·intro i x hx
   rcases Nat.lt_or_ge i c.length with hi | hi
   ·rw [List.getElem?_append_left hi] at hx
    have := h4 i x hx
    rw [hadd] at this
    simpa using this
   ·rw [List.getElem?_append_right hi] at hx
    have := k4 (i - c.length) x hx
    rw [hadd] at this
    rw [show a.off + i = a.off + e + (i - c.length) from by omega]
    exact this

/-- Elements of an array, cut out of its cells. -/
theorem cut_elems {g : Gh} {T : Ty} {e : Nat} : ∀ (n : Nat) (cs : List Value), cs.length = n * e → (∀ i, i < n → ∃ v, hasTy T v ∧ RC g v ((cs.drop (i * e)).take e)) →
  ∃ vs, vs.length = n ∧ (∀ v ∈ vs, hasTy T v) ∧ RCu g e vs cs
 | 0, cs, hl, _ => ⟨[], rfl, by simp, by simp only [RCu]; exact List.eq_nil_of_length_eq_zero (by simpa using hl)⟩
 | n + 1, cs, hl, h => by
  obtain ⟨v, h1, h2⟩ := h 0 (by omega)
  rw [Nat.add_mul, Nat.one_mul] at hl
  obtain ⟨vs, k1, k2, k3⟩ := cut_elems (e := e) n (cs.drop e) (by rw [List.length_drop, hl]; omega) (fun i hi => by
   obtain ⟨v, h1, h2⟩ := h (i + 1) (by omega)
   refine ⟨v, h1, ?_⟩
   rw [List.drop_drop, show e + i * e = (i + 1) * e from by rw [Nat.add_mul]; omega]
   exact h2)
  refine ⟨v :: vs, by simp [k1], ?_, ?_⟩
  ·intro x hx
   rcases List.mem_cons.1 hx with rfl | hx
   ·exact h1
   ·exact k2 x hx
  ·simp only [RCu]
   refine ⟨cs.take e, cs.drop e, (List.take_append_drop _ _).symm, by simp; omega, ?_, k3⟩
   simpa using h2

theorem mem_weightsAll {t : TypeId} {n : Nat} : ∀ {ds : List (DataW H)} {d : DataW H}, d ∈ ds → n ∈ d.weights P t → n ∈ DataW.weightsAll P t ds
 | d0 :: ds, d, hd, hn => by
  simp only [DataW.weightsAll, List.mem_append]
  rcases List.mem_cons.1 hd with rfl | hd
  ·exact .inl hn
  ·exact .inr (mem_weightsAll hd hn)

/-- Fields, cut out of a struct's cells. -/
theorem cut_fields {g : Gh} : ∀ (fs : List Field) (Ts : List Ty) (off : Nat) (cs : List Value), Ts.length = fs.length → seqOff P off fs = some (off + cs.length) →
  (∀ (i : Nat) f T, fs[i]? = some f → Ts[i]? = some T → ∃ v, hasTy T v ∧ RC g v ((cs.drop (f.offset - off)).take (P.cellsOf f.type))) → ∃ vs, hasTys Ts vs ∧ RCs g vs cs
 | [], Ts, off, cs, hl, hs, _ => by
  simp only [seqOff, Option.some.injEq] at hs
  have h1 : Ts = [] := List.eq_nil_of_length_eq_zero (by simpa using hl)
  have h2 : cs = [] := List.eq_nil_of_length_eq_zero (by omega)
  subst h1 h2
  exact ⟨[], by simp [hasTys], by simp [RCs]⟩
 | f :: fs, Ts, off, cs, hl, hs, h => by
  cases Ts with
  | nil => simp at hl
  | cons T Ts =>
   simp only [seqOff] at hs
   split at hs
   case isFalse => cases hs
   case isTrue hoff =>
    have hge : ∀ (fs : List Field) n m, seqOff P n fs = some m → n ≤ m := by
     intro fs
     induction fs with
     | nil => intro n m h; simp [seqOff] at h; omega
     | cons f fs ih =>
      intro n m h
      simp only [seqOff] at h
      split at h
      ·have := ih _ _ h; omega
      ·cases h
    have hb := hge _ _ _ hs
    obtain ⟨v, h1, h2⟩ := h 0 f T rfl rfl
    obtain ⟨vs, k1, k2⟩ := cut_fields fs Ts (off + P.cellsOf f.type) (cs.drop (P.cellsOf f.type)) (by simpa using hl) (by rw [hs, List.length_drop]; congr 1; omega) (fun i f' T' hf hT => by
     obtain ⟨v, h1, h2⟩ := h (i + 1) f' T' hf hT
     refine ⟨v, h1, ?_⟩
     have hfo : ∀ (fs : List Field) n m, seqOff P n fs = some m → ∀ (i : Nat) f, fs[i]? = some f → n ≤ f.offset := by
      intro fs
      induction fs with
      | nil => intro n m _ i f h; simp at h
      | cons f0 fs ih =>
       intro n m h i f hf
       simp only [seqOff] at h
       split at h
       case isFalse => cases h
       case isTrue e =>
        cases i with
        | zero => simp at hf; subst hf; omega
        | succ i => have := ih _ _ h i f (by simpa using hf); omega
     have := hfo _ _ _ hs i f' hf
     rw [List.drop_drop, show P.cellsOf f.type + (f'.offset - (off + P.cellsOf f.type)) = f'.offset - off from by omega]
     exact h2)
    refine ⟨v :: vs, ?_, ?_⟩
    ·simp only [hasTys]
     exact ⟨v, vs, rfl, h1, k1⟩
    ·simp only [RCs]
     refine ⟨cs.take (P.cellsOf f.type), cs.drop (P.cellsOf f.type), (List.take_append_drop _ _).symm, ?_, k2⟩
     rw [hoff, Nat.sub_self] at h2
     simpa using h2

/-- An argument's reading, opened. -/
theorem open_ty : ∀ (n : Nat) (t : TypeId) (T : Ty), tyOf P n t = some T → ∀ (fuel : Nat) (cs : List Value) (x : DataW H × List MemPlace),
  DataW.trod enc P W base (fun _ => true) held fuel t cs = some x → (∀ m ∈ x.1.weights P t, m ≤ reachBytes) → ∃ v, hasTy T v ∧ RC (gh0 W) v cs
 | 0, _, _, hT => by cases hT
 | n + 1, t, T, hT => by
  intro fuel cs x h hw
  unfold tyOf at hT
  split at hT
  case h_1 hu =>
   cases hT
   obtain ⟨b, rfl, _⟩ := DataW.trod_bool hu h
   exact ⟨.bool b, by simp [hasTy], by simp [RC]⟩
  case h_2 k hu =>
   cases hT
   obtain ⟨m, rfl, _, hm⟩ := DataW.trod_int hu h
   exact ⟨.int k m, by simp [hasTy, hm], by simp [RC]⟩
  case h_3 hu =>
   cases hT
   obtain ⟨s, rfl, rfl, _⟩ := DataW.trod_string hu h
   refine ⟨.str s, ?_, by simp [RC]⟩
   simp only [hasTy]
   exact ⟨s, rfl, by have := hw s.data.toList.length (by simp [DataW.weights]); simpa using this⟩
  case h_4 e hu =>
   split at hT
   case isFalse => cases hT
   case isTrue he0 =>
   obtain ⟨T', hT', rfl⟩ := Option.map_eq_some_iff.1 hT
   rcases DataW.trod_slice hu h with ⟨rfl, rfl⟩ | ⟨a, len, cap, elems, rest, m, _, rfl, rfl, _, hl, hm, hlen, hel, _, _⟩
   ·refine ⟨.sl (P.cellsOf e) .no [], by simp [hasTy], ?_⟩
    simp only [RC]
    exact ⟨none, 0, rfl, by simp, trivial, [], by simp [RCu], fun _ => rfl, fun ad h => by cases h⟩
   ·have hel' : ∀ i, i < len → ∃ v c, hasTy T' v ∧ RC (gh0 W) v c ∧ c.length = P.cellsOf e ∧ (gh0 W).holds (a.add (i * P.cellsOf e)) c ∧ (a.add (i * P.cellsOf e)).spot = none := by
     intro i hi
     have hi' : i < elems.length := by omega
     have := hel i hi
     rw [List.getElem?_eq_getElem hi', Option.bind_eq_some_iff] at this
     obtain ⟨c, hc, ht⟩ := this
     obtain ⟨v, h1, h2⟩ := open_ty n e T' hT' m c elems[i] ht (fun k hk => hw k (by
      simp only [DataW.weights, hu, List.mem_cons, List.mem_append]
      exact .inr (.inl (mem_weightsAll (List.mem_map.2 ⟨_, List.getElem_mem hi', rfl⟩) hk))))
     obtain ⟨k1, k2⟩ := holds_of_cells hc
     have hcl := (cells?_get hc).1
     exact ⟨v, c, h1, h2, hcl, k1, k2 (by rintro rfl; simp at hcl; omega)⟩
    have hspot : 0 < len → a.spot = none := by
     intro h0
     obtain ⟨_, _, _, _, _, _, h⟩ := hel' 0 h0
     simpa [Addr.add] using h
    have hlb : len * P.bytesOf e ≤ reachBytes := by
     have := hw ((elems.length + rest.length) * P.bytesOf e) (by simp [DataW.weights, hu])
     rw [Nat.add_mul, hlen] at this
     omega
    rcases Nat.eq_zero_or_pos len with h0 | h0
    ·subst h0
     refine ⟨.sl (P.cellsOf e) .no [], by simp [hasTy], ?_⟩
     simp only [RC]
     exact ⟨some a, cap, by simp, by simp, trivial, [], by simp [RCu], (fun h => by cases h), fun ad h => ⟨fun h => absurd rfl h, fun i x hx => by simp at hx⟩⟩
    ·obtain ⟨vs, c, k1, k2, k3, k4⟩ := open_elems len a (hspot h0) (fun i hi => by obtain ⟨v, c, h1, h2, h3, h4, _⟩ := hel' i hi; exact ⟨v, c, h1, h2, h3, h4⟩)
     refine ⟨.sl (P.cellsOf e) .no vs, ?_, ?_⟩
     ·simp only [hasTy]
      exact ⟨vs, rfl, by omega, by rw [k1]; exact hlb, k2⟩
     ·simp only [RC]
      exact ⟨some a, cap, by simp [k1], by omega, trivial, c, k3, (fun h => by cases h), fun ad h => by cases h; exact ⟨fun _ => hspot h0, k4⟩⟩
  case h_5 fs hu =>
   split at hT
   case isFalse => cases hT
   case isTrue hseq =>
   obtain ⟨Ts, hTs, rfl⟩ := Option.map_eq_some_iff.1 hT
   obtain ⟨xs, m, _, rfl, hlen, hxl, hf⟩ := DataW.trod_struct hu h
   have hTl := mapM_some_length hTs
   obtain ⟨vs, h1, h2⟩ := cut_fields (P := P) (g := gh0 W) fs.toList Ts 0 cs hTl (by rw [hseq, hlen]; simp) (fun i f T' hfi hTi => by
    have hfi' : fs[i]? = some f := by simpa using hfi
    have hix : i < xs.length := by rw [hxl]; exact (Array.getElem?_eq_some_iff.1 hfi').1
    have := hf i f hfi'
    rw [List.getElem?_eq_getElem hix] at this
    have hTf : tyOf P n f.type = some T' := by
     have := mapM_some_get hTs i f hfi
     rw [this, hTi]
    obtain ⟨v, h1, h2⟩ := open_ty n f.type T' hTf m _ xs[i] this (fun k hk => hw k (by
     simp only [DataW.weights, hu]
     refine DataW.weights_mem_each (j := i) (t := f.type) (d := xs[i].1) ?_ ?_ k hk
     ·simp [hfi']
     ·simp [hix]))
    exact ⟨v, h1, by simpa using h2⟩)
   exact ⟨.st vs, by simp only [hasTy]; exact ⟨vs, rfl, h1⟩, by simp only [RC]; exact h2⟩
  case h_6 k e hu =>
   split at hT
   case isFalse => cases hT
   case isTrue hsz =>
   obtain ⟨T', hT', rfl⟩ := Option.map_eq_some_iff.1 hT
   obtain ⟨xs, m, _, rfl, hlen, hxl, hf⟩ := DataW.trod_array hu h
   obtain ⟨vs, h1, h2, h3⟩ := cut_elems (g := gh0 W) (T := T') (e := P.cellsOf e) k cs (by rw [hlen, hsz]) (fun i hi => by
    have hix : i < xs.length := by omega
    have := hf i hi
    rw [List.getElem?_eq_getElem hix] at this
    exact open_ty n e T' hT' m _ xs[i] this (fun q hq => hw q (by
     simp only [DataW.weights, hu]
     exact mem_weightsAll (List.mem_map.2 ⟨_, List.getElem_mem hix, rfl⟩) hq)))
   exact ⟨.arr (P.cellsOf e) vs, by simp only [hasTy]; exact ⟨vs, rfl, h1, h2⟩, by simp only [RC]; exact h3⟩
  case h_7 => cases hT

/-- All parameters' types, as trees. -/
def tysOf (P : Program) (n : Nat) (ts : List TypeId) : Option (List Ty) := ts.mapM (tyOf P n)

theorem open_value {n : Nat} {r : Reach} {b0 : Nat} {t : TypeId} {T : Ty} {v : Value} {d : DataW H} {ps : List MemPlace} (hT : tyOf P n t = some T) (hval : Value.okWide P W r b0 t v)
  (hd : DataW.Trod enc P W base (fun _ => true) held t v d ps) (hw : ∀ m ∈ d.weights P t, m ≤ reachBytes) : ∃ a, hasTy T a ∧ RV (gh0 W) a v := by
 obtain ⟨fuel, hf⟩ := hd
 obtain ⟨a, h1, h2⟩ := open_ty n t T hT fuel _ (d, ps) hf hw
 refine ⟨a, h1, ?_⟩
 have hagg : a.isAgg = valAgg v := by
  cases n with
  | zero => cases hT
  | succ n =>
  unfold tyOf at hT
  split at hT
  case h_1 hu =>
   cases hT
   simp only [hasTy] at h1
   obtain ⟨b, rfl⟩ := h1
   simp only [Value.okWide, hu, Cell.okWide] at hval
   cases v <;> simp_all [Cell.ok, valAgg, V.isAgg]
  case h_2 k hu =>
   cases hT
   simp only [hasTy] at h1
   obtain ⟨b, rfl, _⟩ := h1
   simp only [Value.okWide, hu, Cell.okWide] at hval
   cases v <;> simp_all [Cell.ok, valAgg, V.isAgg]
  case h_3 hu =>
   cases hT
   simp only [hasTy] at h1
   obtain ⟨b, rfl, _⟩ := h1
   simp only [Value.okWide, hu, Cell.okWide] at hval
   cases v <;> simp_all [Cell.ok, valAgg, V.isAgg]
  case h_4 e hu =>
   split at hT
   case isFalse => cases hT
   case isTrue =>
   obtain ⟨T', _, rfl⟩ := Option.map_eq_some_iff.1 hT
   simp only [hasTy] at h1
   obtain ⟨b, rfl, _⟩ := h1
   obtain ⟨a, l, c, rfl⟩ := okWide_slice hu hval
   rfl
  case h_5 fs hu =>
   split at hT
   case isFalse => cases hT
   case isTrue =>
   obtain ⟨T', _, rfl⟩ := Option.map_eq_some_iff.1 hT
   simp only [hasTy] at h1
   obtain ⟨b, rfl, _⟩ := h1
   simp only [Value.okWide, hu] at hval
   obtain ⟨cs, rfl, _⟩ := hval
   rfl
  case h_6 k e hu =>
   split at hT
   case isFalse => cases hT
   case isTrue =>
   obtain ⟨T', _, rfl⟩ := Option.map_eq_some_iff.1 hT
   simp only [hasTy] at h1
   obtain ⟨b, rfl, _⟩ := h1
   simp only [Value.okWide, hu] at hval
   obtain ⟨cs, rfl, _⟩ := hval
   rfl
  case h_7 => cases hT
 cases a <;> first | exact ⟨hagg, h2⟩ | (simp only [RC] at h2)

theorem open_all {n : Nat} {r : Reach} {b0 : Nat} : ∀ {ts : List TypeId} {Ts : List Ty} {vs : List Value} {ds : List (DataW H)} {ps : List MemPlace}, tysOf P n ts = some Ts →
  (∀ (j : Nat) t v, ts[j]? = some t → vs[j]? = some v → Value.okWide P W r b0 t v) → DataW.TrodAll enc P W base (fun _ => true) held ts vs ds ps → (∀ m ∈ DataW.weightsEach P ts ds, m ≤ reachBytes) →
  ∃ avs, hasTys Ts avs ∧ RVs (gh0 W) avs vs ∧ ds.length = ts.length
 | [], Ts, vs, ds, ps, hT, _, hA, _ => by
  obtain ⟨rfl, rfl, rfl⟩ := trodAll_nil hA
  simp [tysOf] at hT
  subst hT
  exact ⟨[], by simp [hasTys], by simp [RVs], rfl⟩
 | t :: ts, Ts, vs, ds, ps, hT, hv, hA, hw => by
  obtain ⟨v, vs', d, ds', p, q, rfl, rfl, rfl, h0, hA'⟩ := trodAll_cons hA
  simp only [tysOf, List.mapM_cons, Option.pure_def, Option.bind_eq_bind, Option.bind_eq_some_iff, Option.some.injEq] at hT
  obtain ⟨T, hT0, Ts', hTs, rfl⟩ := hT
  obtain ⟨a, h1, h2⟩ := open_value hT0 (hv 0 t v rfl rfl) h0 (fun m hm => hw m (by simp only [DataW.weightsEach, List.mem_append]; exact .inl hm))
  obtain ⟨avs, h3, h4, h5⟩ := open_all hTs (fun j t v ht hvv => hv (j + 1) t v (by simpa using ht) (by simpa using hvv)) hA' (fun m hm => hw m (by simp only [DataW.weightsEach, List.mem_append]; exact .inr hm))
  refine ⟨a :: avs, ?_, ?_, by simp [h5]⟩
  ·simp only [hasTys]
   exact ⟨a, avs, rfl, h1, h3⟩
  ·exact ⟨v, vs', rfl, h2, h4⟩

/-- Arguments read behind the call as they did. -/
def fineAll (P : Program) (ts : List TypeId) : Bool := ts.all fun t => P.readableRec t && decide (t < P.types.size)

theorem shut_all (hl : laidOutB P = true) {W' : World} (hb : Below W.heap.size W W') : ∀ {ts : List TypeId} {vs : List Value} {ds : List (DataW H)} {ps : List MemPlace}, fineAll P ts = true →
  DataW.TrodAll enc P W 0 (fun _ => true) true ts vs ds ps → DataW.TrodAll enc P W' 0 (fun b => decide (b < W.heap.size)) true ts vs ds ps
 | [], vs, ds, ps, _, h => by
  obtain ⟨rfl, rfl, rfl⟩ := trodAll_nil h
  exact rfl
 | t :: ts, vs, ds, ps, hf, h => by
  obtain ⟨v, vs', d, ds', p, q, rfl, rfl, rfl, h0, h1⟩ := trodAll_cons h
  simp only [fineAll, List.all_cons, Bool.and_eq_true, decide_eq_true_eq] at hf
  refine ⟨p, q, ?_, shut_all hl hb (by simp only [fineAll]; exact hf.2) h1, rfl⟩
  exact Below.trod hl hf.1.1 hf.1.2 h0 hb (by obtain ⟨m, hm⟩ := h0; exact DataW.trod_lt m _ _ _ hm)
end

end
section
variable {g : Gh} {v : V} {p : Place}
open Go.ChangeShapes Go.WideShapes

mutual
/-- A value without places: its cells, whatever the memory. -/
def flatC : V → Option (List Value)
  | .bool b => some [.bool b]
  | .int k n => some [.int k n]
  | .str s => some [.string s]
  | .st vs => flatL vs
  | .arr _ vs => flatL vs
  | _ => none
def flatL : List V → Option (List Value)
  | [] => some []
  | v :: vs => match flatC v, flatL vs with | some a, some b => some (a ++ b) | _, _ => none
end

mutual
theorem flatC_rc {g : Gh} : ∀ {v : V} {c c' : List Value}, flatC v = some c → RC g v c' → c' = c
 | .bool b, _, _, h, k => by simp only [flatC, Option.some.injEq] at h; subst h; simpa only [RC] using k
 | .int _ _, _, _, h, k => by simp only [flatC, Option.some.injEq] at h; subst h; simpa only [RC] using k
 | .str _, _, _, h, k => by simp only [flatC, Option.some.injEq] at h; subst h; simpa only [RC] using k
 | .st vs, _, _, h, k => by simp only [flatC] at h; simp only [RC] at k; exact flatL_rcs h k
 | .arr _ vs, _, _, h, k => by simp only [flatC] at h; simp only [RC] at k; exact flatL_rcu h k
 | .nilp, _, _, h, _ => by simp [flatC] at h
 | .ptr _ _ _, _, _, h, _ => by simp [flatC] at h
 | .cptr _, _, _, h, _ => by simp [flatC] at h
 | .nils, _, _, h, _ => by simp [flatC] at h
 | .sl _ _ _, _, _, h, _ => by simp [flatC] at h
 | .slo _ _ _ _ _ _ _, _, _, h, _ => by simp [flatC] at h
 | .fn _ _ _, _, _, h, _ => by simp [flatC] at h
 | .nilfn, _, _, h, _ => by simp [flatC] at h
 | .ifc _ _, _, _, h, _ => by simp [flatC] at h
 | .nili, _, _, h, _ => by simp [flatC] at h
 | .tup _, _, _, h, _ => by simp [flatC] at h
 | .map _, _, _, h, _ => by simp [flatC] at h
 | .nilmap, _, _, h, _ => by simp [flatC] at h
 | .undef, _, _, h, _ => by simp [flatC] at h
theorem flatL_rcs {g : Gh} : ∀ {vs : List V} {c c' : List Value}, flatL vs = some c → RCs g vs c' → c' = c
 | [], _, _, h, k => by simp only [flatL, Option.some.injEq] at h; subst h; simpa only [RCs] using k
 | v :: vs, _, _, h, k => by
  simp only [flatL] at h
  simp only [RCs] at k
  obtain ⟨c1, c2, rfl, k1, k2⟩ := k
  split at h
  ·rename_i a b ha hb
   cases h
   rw [flatC_rc ha k1, flatL_rcs hb k2]
  ·cases h
theorem flatL_rcu {g : Gh} {e : Nat} : ∀ {vs : List V} {c c' : List Value}, flatL vs = some c → RCu g e vs c' → c' = c
 | [], _, _, h, k => by simp only [flatL, Option.some.injEq] at h; subst h; simpa only [RCu] using k
 | v :: vs, _, _, h, k => by
  simp only [flatL] at h
  simp only [RCu] at k
  obtain ⟨c1, c2, rfl, _, k1, k2⟩ := k
  split at h
  ·rename_i a b ha hb
   cases h
   rw [flatC_rc ha k1, flatL_rcu hb k2]
  ·cases h
end

/-- The value itself. -/
def flatV (v : V) : Option Value := (flatC v).map (mkVal v.isAgg)

theorem flatV_rv {x y : Value} (h : flatV v = some y) (k : RV g v x) : x = y := by
 unfold flatV at h
 rw [Option.map_eq_some_iff] at h
 obtain ⟨c, hc, rfl⟩ := h
 have hk : v.isAgg = valAgg x ∧ RC g v x.cells.toList := by
  cases v <;> first | exact k | (simp [flatC] at hc)
 have := flatC_rc hc hk.2
 subst this
 rw [hk.1]
 cases x <;> simp [valAgg, mkVal, Value.cells]

def keyOk (P : Program) (k : TypeId) (v : V) : Prop := ∃ x l, flatV v = some x ∧ keyOf P k x = some l

theorem keyOk.get {P : Program} {k : TypeId} (h : keyOk P k v) {x : Value} (hx : RV g v x) : ∃ l, flatV v = some x ∧ keyOf P k x = some l := by
 obtain ⟨y, l, h1, h2⟩ := h
 have := flatV_rv h1 hx
 subst this
 exact ⟨l, h1, h2⟩

theorem RV.map_eq {x : Value} (h : RV g (.map o) x) : ∃ p, g.ρ[o]? = some p ∧ x = .map (some p.block) := by
 have hv := h.leafval rfl rfl
 simp only [RC] at hv
 obtain ⟨p, h1, h2⟩ := hv
 exact ⟨p, h1, by simpa using h2⟩

theorem REs.get {g : Gh} : ∀ {es : List (V × V)} {l : List MapEntry} {j : Nat} {e : MapEntry}, REs g es l → l[j]? = some e → ∃ p, es[j]? = some p ∧ RV g p.1 e.key ∧ RV g p.2 e.val
 | [], _, _, _, h, hj => by simp only [REs] at h; subst h; simp at hj
 | kv :: es, l, 0, e, h, hj => by
  obtain ⟨e', r, rfl, h1, h2, _⟩ := h
  simp at hj; subst hj
  exact ⟨kv, rfl, h1, h2⟩
 | kv :: es, l, j + 1, e, h, hj => by
  obtain ⟨e', r, rfl, _, _, h3⟩ := h
  exact h3.get (by simpa using hj)

theorem REs.geti {g : Gh} : ∀ {es : List (V × V)} {l : List MapEntry} {j : Nat} {p : V × V}, REs g es l → es[j]? = some p → ∃ e, l[j]? = some e ∧ RV g p.1 e.key ∧ RV g p.2 e.val
 | [], _, _, _, h, hj => by simp at hj
 | kv :: es, l, 0, p, h, hj => by
  obtain ⟨e', r, rfl, h1, h2, _⟩ := h
  simp at hj; subst hj
  exact ⟨e', rfl, h1, h2⟩
 | kv :: es, l, j + 1, p, h, hj => by
  obtain ⟨e', r, rfl, _, _, h3⟩ := h
  exact h3.geti (by simpa using hj)

theorem REs.push {g : Gh} : ∀ {es : List (V × V)} {l : List MapEntry} {p : V × V} {e : MapEntry}, REs g es l → RV g p.1 e.key → RV g p.2 e.val → REs g (es ++ [p]) (l ++ [e])
 | [], l, p, e, h, h1, h2 => by simp only [REs] at h; subst h; exact ⟨e, [], rfl, h1, h2, rfl⟩
 | kv :: es, l, p, e, h, h1, h2 => by
  obtain ⟨e', r, rfl, h3, h4, h5⟩ := h
  exact ⟨e', r ++ [e], rfl, h3, h4, h5.push h1 h2⟩

theorem REs.set {g : Gh} : ∀ {es : List (V × V)} {l : List MapEntry} {j : Nat} {p : V × V} {e : MapEntry}, REs g es l → RV g p.1 e.key → RV g p.2 e.val → REs g (es.set j p) (l.set j e)
 | [], l, _, p, e, h, h1, h2 => by simp only [REs] at h; subst h; simp [REs]
 | kv :: es, l, 0, p, e, h, h1, h2 => by
  obtain ⟨e', r, rfl, h3, h4, h5⟩ := h
  exact ⟨e, r, rfl, h1, h2, h5⟩
 | kv :: es, l, j + 1, p, e, h, h1, h2 => by
  obtain ⟨e', r, rfl, h3, h4, h5⟩ := h
  exact ⟨e', r.set j e, rfl, h3, h4, h5.set h1 h2⟩

/-- What an entry list tells of a key. -/
inductive GetM (es : List (V × V)) (k : V) : Option V → Prop where
 | some {k' v : V} (h : (k', v) ∈ es) (he : flatV k' = flatV k) : GetM es k (some v)
 | none (h : ∀ p ∈ es, flatV p.1 ≠ flatV k) : GetM es k none

section
variable {P : Program} {E : Operand → V} {H : List AObj} {dst : Option Tmp} {ty : TypeId} {pos : String} {aft : Array Edge} {gd : Option (Nat × Bool)}

theorem OpS.makeMap {t : TypeId} : OpS P ⟨dst, .makeMap t none, ty, pos, aft, gd⟩ E H (.map H.length) (H ++ [.map []]) := by
 intro g rc w h hr
 have hrun : (execOp rc ⟨dst, .makeMap t none, ty, pos, aft, gd⟩).run P w = .ok (.value (.map (some w.heap.size))) (w.alloc (.map #[] 0)) := by
  simp [execOp, RowKit.run_makeMap]
 rw [hrun]
 refine ⟨{ g with ρ := g.ρ ++ [⟨w.heap.size, 0, 0, false⟩] }, ?_, hr.alloc _ _ ⟨w.heap.size, 0, 0, false⟩ rfl ?_, .alloc hr _ _ _ rfl⟩
 ·refine RV.of_leaf rfl ?_
  simp only [RC]
  exact ⟨⟨w.heap.size, 0, 0, false⟩, by rw [← hr.len]; simp, rfl⟩
 ·exact ⟨#[], 0, heap_alloc_eq _ _, by simp [REs], by simp⟩

/-- Finding a key's entry. -/
theorem run_find {k : TypeId} (K : Maps.Keyed P k) {es : List (V × V)} {l : List MapEntry} (hl : REs g es l) {kv : V} {x : Value} (hx : RV g kv x) (hk : keyOk P k kv) (hes : ∀ p ∈ es, keyOk P k p.1)
  (hnd : (es.map fun p => flatV p.1).Nodup) :
  ((Instr.findKey k x l).run P w = .ok none w ∧ ∀ p ∈ es, flatV p.1 ≠ flatV kv) ∨
  ∃ j e p, (Instr.findKey k x l).run P w = .ok (some (j, e.val)) w ∧ l[j]? = some e ∧ es[j]? = some p ∧ RV g p.1 e.key ∧ RV g p.2 e.val ∧ e.key = x ∧ flatV p.1 = flatV kv := by
 obtain ⟨lit, hf, hkey⟩ := hk.get hx
 have hall : ∀ e ∈ l, ∃ lt, keyOf P k e.key = some lt := by
  intro e he
  obtain ⟨j, hj⟩ := List.mem_iff_getElem?.1 he
  obtain ⟨p, hp, h1, _⟩ := hl.get hj
  obtain ⟨lt, _, h2⟩ := (hes p (List.mem_of_getElem? hp)).get h1
  exact ⟨lt, h2⟩
 rcases K.find w hkey l hall with ⟨h1, h2⟩ | ⟨j, e, h1, h2, h3⟩
 ·refine .inl ⟨h1, fun p hp he => ?_⟩
  obtain ⟨j, hj⟩ := List.mem_iff_getElem?.1 hp
  obtain ⟨e, he', q1, _⟩ := hl.geti hj
  obtain ⟨_, q2, _⟩ := (hes p hp).get q1
  rw [he, hf] at q2
  exact h2 e (List.mem_of_getElem? he') (Option.some.inj q2).symm
 ·obtain ⟨p, hp, q1, q2⟩ := hl.get h2
  obtain ⟨_, q3, _⟩ := (hes p (List.mem_of_getElem? hp)).get q1
  exact .inr ⟨j, e, p, h1, h2, hp, q1, q2, h3, by rw [q3, hf, h3]⟩

theorem nodup_get {α β : Type} {f : α → β} : ∀ {l : List α} {p q : α}, (l.map f).Nodup → p ∈ l → q ∈ l → f p = f q → p = q
 | a :: l, p, q, hn, hp, hq, he => by
  simp only [List.map_cons, List.nodup_cons, List.mem_map, not_exists, not_and] at hn
  rcases List.mem_cons.1 hp with rfl | hp'
  ·rcases List.mem_cons.1 hq with rfl | hq'
   ·rfl
   ·exact absurd he.symm (hn.1 q hq')
  ·rcases List.mem_cons.1 hq with rfl | hq'
   ·exact absurd he (hn.1 p hp')
   ·exact nodup_get hn.2 hp' hq' he

theorem OpS.lookup {t k et : TypeId} {m i : Operand} {o : Nat} {es : List (V × V)} {kv z : V} {r : Option V} (hu : P.underlying t = some (.map k et)) (K : Maps.Keyed P k) (hz : ZeroV P et z) (hm : E m = .map o) (hi : E i = kv)
  (ho : H[o]? = some (.map es)) (hk : keyOk P k kv) (hes : ∀ p ∈ es, keyOk P k p.1) (hnd : (es.map fun p => flatV p.1).Nodup) (hr : GetM es kv r) (hok : okV (r.getD z) = true) :
  OpS P ⟨dst, .lookup t m i true, ty, pos, aft, gd⟩ E H (.tup [r.getD z, .bool r.isSome]) H :=
 .quiet fun g rc w h hH => by
  obtain ⟨p, q1, q2⟩ := (hm ▸ h m (by simp [Op.operands])).map_eq
  have hx := hi ▸ h i (by simp [Op.operands])
  obtain ⟨ents, clock, b1, b2, b3⟩ := hH.obj o p _ q1 ho
  obtain ⟨_, hf, hkey⟩ := hk.get hx
  have hchk := K.check w ents.isEmpty hkey
  obtain ⟨val, z1, z2, z3⟩ := hz.run w g
  rcases run_find K b2 hx hk hes hnd (w := w) with ⟨f1, f2⟩ | ⟨j, e, pr, f1, f2, f3, f4, f5, f6, f7⟩
  ·cases hr with
   | some h' he => exact absurd he (f2 _ h')
   | none _ =>
    refine ⟨.tuple #[val, .bool false], ?_, ?_⟩
    ·simp [execOp, Instr.lookup, run_underlying hu, q2, MapKept.run_getObj_map b1, hchk, f1, z1]
    ·refine ⟨#[val, .bool false], rfl, ?_⟩
     simp only [RVl]
     exact ⟨val, _, rfl, z3, z2, .bool false, [], rfl, rfl, by simp [RC, Value.cells], rfl⟩
  ·cases hr with
   | none hn => exact absurd f7 (hn _ (List.mem_of_getElem? f3))
   | @some k' v h' he =>
    have := nodup_get (f := fun p : V × V => flatV p.1) hnd (List.mem_of_getElem? f3) h' (f7.trans he.symm)
    subst this
    obtain ⟨g1, g2⟩ := f5.ok hok
    refine ⟨.tuple #[e.val, .bool true], ?_, ?_⟩
    ·simp [execOp, Instr.lookup, run_underlying hu, q2, MapKept.run_getObj_map b1, hchk, f1]
    ·refine ⟨#[e.val, .bool true], rfl, ?_⟩
     simp only [RVl]
     exact ⟨e.val, _, rfl, g1, g2, .bool true, [], rfl, rfl, by simp [RC, Value.cells], rfl⟩

/-- What an entry list is when a key is given a value. -/
inductive PutM (es : List (V × V)) (k v : V) : List (V × V) → Prop where
 | old {j : Nat} {k' v' : V} (h : es[j]? = some (k', v')) (he : flatV k' = flatV k) : PutM es k v (es.set j (k', v))
 | new (h : ∀ p ∈ es, flatV p.1 ≠ flatV k) : PutM es k v (es ++ [(k, v)])

theorem nodup_idx {α β : Type} {f : α → β} {l : List α} {p q : α} (hn : (l.map f).Nodup) (hi : l[i]? = some p) (hj : l[j]? = some q) (he : f p = f q) : i = j := by
 have h1 : (l.map f)[i]? = some (f p) := by simp [hi]
 have h2 : (l.map f)[j]? = some (f q) := by simp [hj]
 rw [← he] at h2
 have hil : i < (l.map f).length := (List.getElem?_eq_some_iff.1 h1).1
 have hjl : j < (l.map f).length := (List.getElem?_eq_some_iff.1 h2).1
 rw [List.getElem?_eq_getElem hil] at h1
 rw [List.getElem?_eq_getElem hjl] at h2
 exact (List.getElem_inj (h₀ := hil) (h₁ := hjl) hn).1 ((Option.some.inj h1).trans (Option.some.inj h2).symm)

theorem run_update {t k : TypeId} {es es' : List (V × V)} {kv xv : V} (hu : P.underlying t = some (.map k et)) (K : Maps.Keyed P k) (hH : HR g H w) (q1 : g.ρ[o]? = some p)
  (ho : H[o]? = some (.map es)) {x y : Value} (hx : RV g kv x) (hy : RV g xv y) (hk : keyOk P k kv) (hes : ∀ p ∈ es, keyOk P k p.1) (hnd : (es.map fun p => flatV p.1).Nodup) (hp : PutM es kv xv es') :
  ∃ w', (Instr.mapUpdate t (.map (some p.block)) x y).run P w = .ok () w' ∧ HR g (H.set o (.map es')) w' ∧ Ev g H w g (H.set o (.map es')) w' := by
 obtain ⟨ents, clock, b1, b2, b3⟩ := hH.obj o p _ q1 ho
 obtain ⟨_, hf, hkey⟩ := hk.get hx
 have hchk := K.check w false hkey
 have hI : ∀ i, g.I p.block i = none := by
  intro i
  cases hc : g.I p.block i with
  | none => rfl
  | some v =>
   have := hH.agree _ _ _ hc
   simp [World.cell?, b1] at this
 have hblk : p.block < w.heap.size := (Array.getElem?_eq_some_iff.1 b1).1
 have fin : ∀ (ents' : Array MapEntry) (clock' : Nat), REs g es' ents'.toList → (∀ e ∈ ents'.toList, e.born < clock') →
   HR g (H.set o (.map es')) { w with heap := w.heap.setIfInBounds p.block (.map ents' clock') } ∧ Ev g H w g (H.set o (.map es')) { w with heap := w.heap.setIfInBounds p.block (.map ents' clock') } := by
  intro ents' clock' h1 h2
  have hother : ∀ b, b ≠ p.block → (w.heap.setIfInBounds p.block (.map ents' clock'))[b]? = w.heap[b]? := fun b hb => by rw [Array.getElem?_setIfInBounds_ne (fun e => hb e.symm)]
  refine ⟨hH.write q1 ho rfl hI hother ⟨ents', clock', ?_, h1, h2⟩, Ev.write q1 ho rfl hother rfl rfl rfl (by simp) (Nat.le_refl _)⟩
  show (w.heap.setIfInBounds p.block (.map ents' clock'))[p.block]? = _
  rw [Array.getElem?_setIfInBounds_self_of_lt hblk]
 rcases run_find K b2 hx hk hes hnd (w := w) with ⟨f1, f2⟩ | ⟨j, e, pr, f1, f2, f3, f4, f5, f6, f7⟩
 ·cases hp with
  | old h' he => exact absurd he (f2 _ (List.mem_of_getElem? h'))
  | new _ =>
   refine ⟨{ w with heap := w.heap.setIfInBounds p.block (.map (ents.push ⟨x, y, clock⟩) (clock + 1)) }, ?_, fin _ _ ?_ ?_⟩
   ·simp [Instr.mapUpdate, run_underlying hu, MapKept.run_getObj_map b1, hchk, f1, MapKept.run_setObj_map _ b1]
   ·rw [Array.toList_push]; exact b2.push hx hy
   ·intro e he
    rw [Array.toList_push] at he
    rcases List.mem_append.1 he with he | he
    ·have := b3 e he; omega
    ·simp at he; subst he; simp
 ·cases hp with
  | new hn => exact absurd f7 (hn _ (List.mem_of_getElem? f3))
  | @old j' k' v' h' he =>
   have hj : j = j' := nodup_idx (f := fun p : V × V => flatV p.1) hnd f3 h' (f7.trans he.symm)
   subst hj
   rw [f3] at h'
   cases h'
   have f2' : ents[j]? = some e := by simpa using f2
   have hst := K.stays w hkey
   refine ⟨{ w with heap := w.heap.setIfInBounds p.block (.map (ents.modify j fun e => { e with key := x, val := y }) clock) }, ?_, fin _ _ ?_ ?_⟩
   ·simp [Instr.mapUpdate, run_underlying hu, MapKept.run_getObj_map b1, hchk, f1, f2', f6, hst, MapKept.run_setObj_map _ b1]
   ·have : (ents.modify j fun e => { e with key := x, val := y }).toList = ents.toList.set j ⟨x, y, e.born⟩ := by
     apply List.ext_getElem?
     intro q
     rw [List.getElem?_set]
     simp only [Array.getElem?_toList, Array.getElem?_modify]
     by_cases hq : j = q
     ·subst hq
      have hjl : j < ents.size := (Array.getElem?_eq_some_iff.1 f2').1
      rw [if_pos rfl, if_pos rfl, f2']
      simp [hjl]
     ·rw [if_neg hq, if_neg hq]
    rw [this]
    exact b2.set (by rw [← f6]; exact f4) hy
   ·intro e' he'
    obtain ⟨q, hq⟩ := List.mem_iff_getElem?.1 he'
    simp only [Array.getElem?_toList, Array.getElem?_modify] at hq
    split at hq
    ·rename_i e2
     subst e2
     rw [f2'] at hq
     simp at hq
     subst hq
     exact b3 e (List.mem_of_getElem? f2)
    ·exact b3 e' (List.mem_of_getElem? (by simpa using hq))

theorem OpS.mapUpdate {t k et : TypeId} {m i x : Operand} {o : Nat} {es es' : List (V × V)} {kv xv : V} (hu : P.underlying t = some (.map k et)) (K : Maps.Keyed P k) (hm : E m = .map o) (hi : E i = kv) (hx : E x = xv)
  (ho : H[o]? = some (.map es)) (hk : keyOk P k kv) (hes : ∀ p ∈ es, keyOk P k p.1) (hnd : (es.map fun p => flatV p.1).Nodup) (hp : PutM es kv xv es') :
  OpS P ⟨dst, .mapUpdate t m i x, ty, pos, aft, gd⟩ E H .undef (H.set o (.map es')) := by
 intro g rc w h hH
 obtain ⟨p, q1, q2⟩ := (hm ▸ h m (by simp [Op.operands])).map_eq
 obtain ⟨w', h1, h2, h3⟩ := run_update hu K hH q1 ho (hi ▸ h i (by simp [Op.operands])) (hx ▸ h x (by simp [Op.operands])) hk hes hnd hp
 have hrun : (execOp rc ⟨dst, .mapUpdate t m i x, ty, pos, aft, gd⟩).run P w = .ok .skip w' := by
  simp [execOp, q2, h1]
 rw [hrun]
 exact ⟨g, trivial, h2, h3⟩
theorem OpS.insert {t k et : TypeId} {m i x : Operand} {o : Nat} {es es' : List (V × V)} {kv xv : V} (hu : P.underlying t = some (.map k et)) (K : Maps.Keyed P k) (hm : E m = .map o) (hi : E i = kv) (hx : E x = xv)
  (ho : H[o]? = some (.map es)) (hk : keyOk P k kv) (hes : ∀ p ∈ es, keyOk P k p.1) (hnd : (es.map fun p => flatV p.1).Nodup) (hp : PutM es kv xv es') :
  OpS P ⟨dst, .insert t m i x, ty, pos, aft, gd⟩ E H .undef (H.set o (.map es')) := by
 intro g rc w h hH
 obtain ⟨p, q1, q2⟩ := (hm ▸ h m (by simp [Op.operands])).map_eq
 obtain ⟨w', h1, h2, h3⟩ := run_update hu K hH q1 ho (hi ▸ h i (by simp [Op.operands])) (hx ▸ h x (by simp [Op.operands])) hk hes hnd hp
 have hrun : (execOp rc ⟨dst, .insert t m i x, ty, pos, aft, gd⟩).run P w = .ok .skip w' := by
  simp [execOp, q2, h1]
 rw [hrun]
 exact ⟨g, trivial, h2, h3⟩
end

end
section
variable {v v' : V} {vs' : List V} {g : Gh}

/-! What a mirror tells. -/

def Ok {α : Type} (m : Option α) (K : α → Prop) : Prop := ∃ a, m = some a ∧ K a
/-- A value that is named. -/
def letM {α β : Type} (e : α) (k : α → Option β) : Option β := k e
/-- What is asked only if .. -/
def gd {α : Type} [Inhabited α] (p : Prop) [Decidable p] (m : Option α) : Option α := if p then m else some default
/-- An index, if it is one. -/
def six {α : Type} (xs : List α) (n : Int) : Option Nat := if 0 ≤ n ∧ n < (xs.length : Int) then some n.toNat else none
def fix_ (k : Nat) (n : Int) : Option (Fin k) := if h : 0 ≤ n ∧ n < (k : Int) then some ⟨n.toNat, by omega⟩ else none
/-- One list behind another one, if there is room. -/
def app {α : Type} (b : Nat) (xs ys : List α) : Option (List α) := if (xs.length + ys.length) * b ≤ 140737488355328 then some (xs ++ ys) else none
def loopM {σ ρ : Type} (body : σ → Option (σ ⊕ ρ)) : Nat → σ → Option ρ
 | 0, _ => none
 | n + 1, s => match body s with
  | none => none
  | some (.inl t) => loopM body n t
  | some (.inr r) => some r
def fuel : Nat := 1180591620717411303424
section
variable {α β : Type} {K : β → Prop}
theorem Ok.of {m : Option β} {r : β} (h : m = some r) : Ok m fun a => a = r := ⟨r, h, rfl⟩
theorem Ok.bnd {m : Option α} {k : α → Option β} (h : Ok (m.bind k) K) : ∃ a, m = some a ∧ Ok (k a) K := by
 obtain ⟨b, h1, h2⟩ := h
 cases m with
 | none => simp at h1
 | some a => exact ⟨a, rfl, b, h1, h2⟩
theorem Ok.nam {e : α} {k : α → Option β} (h : Ok (letM e k) K) : ∃ a, a = e ∧ Ok (k a) K := ⟨e, rfl, h⟩
theorem Ok.ret {a : β} (h : Ok (some a) K) : K a := by obtain ⟨b, h1, h2⟩ := h; cases h1; exact h2
theorem Ok.no (h : Ok (none : Option β) K) : False := by obtain ⟨b, h1, h2⟩ := h; cases h1
theorem Ok.t {c : Prop} [Decidable c] {X Y : Option β} (h : Ok (if c then X else Y) K) (hc : c) : Ok X K := by rwa [if_pos hc] at h
theorem Ok.f {c : Prop} [Decidable c] {X Y : Option β} (h : Ok (if c then X else Y) K) (hc : ¬ c) : Ok Y K := by rwa [if_neg hc] at h
theorem Ok.ff {b : Bool} {X Y : Option β} (h : Ok (if b = true then X else Y) K) (hc : b = false) : Ok Y K := h.f (by simp [hc])
theorem gd_get [Inhabited α] {p : Prop} [Decidable p] {m : Option α} {a : α} (h : gd p m = some a) (hp : p) : m = some a := by rwa [gd, if_pos hp] at h
theorem six_get {xs : List α} {n : Int} (h : six xs n = some j) : 0 ≤ n ∧ n < (xs.length : Int) ∧ j = n.toNat ∧ j < xs.length := by
 unfold six at h
 split at h
 ·rename_i hc; cases h; exact ⟨hc.1, hc.2, rfl, by omega⟩
 ·cases h
theorem six_lt {xs : List α} {n : Int} (h : six xs n = some j) : j < xs.length := (six_get h).2.2.2
theorem fix_get {k : Nat} {n : Int} {j : Fin k} (h : fix_ k n = some j) : 0 ≤ n ∧ n < (k : Int) ∧ n.toNat = j.val := by
 unfold fix_ at h
 split at h
 ·rename_i hc; cases h; exact ⟨hc.1, hc.2, rfl⟩
 ·cases h
theorem app_get {b : Nat} {xs ys zs : List α} (h : app b xs ys = some zs) : (xs.length + ys.length) * b ≤ 140737488355328 ∧ zs = xs ++ ys := by
 unfold app at h
 split at h
 ·rename_i hc; cases h; exact ⟨hc, rfl⟩
 ·cases h
end

/-- A round of a loop. -/
def loopK {σ ρ : Type} (body : σ → Option (σ ⊕ ρ)) (n : Nat) (q : ρ) : σ ⊕ ρ → Prop
 | .inl t => loopM body n t = some q
 | .inr r => r = q
theorem loopM.step {σ ρ : Type} {body : σ → Option (σ ⊕ ρ)} {n : Nat} {s : σ} {q : ρ} (h : loopM body n s = some q) : ∃ m, m < n ∧ Ok (body s) (loopK body m q) := by
 cases n with
 | zero => simp [loopM] at h
 | succ n =>
  refine ⟨n, Nat.lt_succ_self n, ?_⟩
  simp only [loopM] at h
  cases hb : body s with
  | none => rw [hb] at h; cases h
  | some z =>
   rw [hb] at h
   cases z with
   | inl t => exact ⟨_, rfl, h⟩
   | inr r => exact ⟨_, rfl, Option.some.inj h⟩

theorem AWp.condM {n : Nat} {Q : AEx → St → Prop} {s : St} {c : Operand} {x y : Code} {b : Bool} {α : Type} {X Y : Option α} {K : α → Prop} (hc : ev s.env c = .bool b) (h : Ok (if b = true then X else Y) K)
  (h1 : b = true → Ok X K → AWp P n m x Q s) (h2 : b = false → Ok Y K → AWp P n m y Q s) : AWp P n m (.cond c x y) Q s :=
 .cond hc (fun e => h1 e (h.t e)) (fun e => h2 e (h.ff e))
theorem AWp.condT {n : Nat} {Q : AEx → St → Prop} {s : St} {c : Operand} {x y : Code} (hc : ev s.env c = .bool true) (h1 : AWp P n m x Q s) : AWp P n m (.cond c x y) Q s :=
 .cond hc (fun _ => h1) (fun e => by cases e)
theorem AWp.condF {n : Nat} {Q : AEx → St → Prop} {s : St} {c : Operand} {x y : Code} (hc : ev s.env c = .bool false) (h1 : AWp P n m y Q s) : AWp P n m (.cond c x y) Q s :=
 .cond hc (fun e => by cases e) (fun _ => h1)

/-! One value tells no more than another one: by its cells. -/

structure RSub (v v' : V) : Prop where
 agg : v.isAgg = v'.isAgg
 fl : flen v = flen v'
 rc : ∀ g cs, RC g v cs → RC g v' cs

theorem RSub.refl (v : V) : RSub v v := ⟨rfl, rfl, fun _ _ h => h⟩
theorem RSub.eq (h : v = v') : RSub v v' := h ▸ .refl v
theorem RSub.trans {a b c : V} (h : RSub a b) (k : RSub b c) : RSub a c := ⟨h.agg.trans k.agg, h.fl.trans k.fl, fun g cs x => k.rc g cs (h.rc g cs x)⟩
theorem RSub.nils (e : Nat) : RSub .nils (.sl e .exact []) := ⟨rfl, rfl, fun g cs h => by
 simp only [RC] at h ⊢
 exact ⟨none, 0, h, by simp, rfl, [], by simp [RCu], fun _ => rfl, fun ad h => by cases h⟩⟩
theorem RSub.forget (e : Nat) (tk : Tk) (xs : List V) : RSub (.sl e tk xs) (.sl e .no xs) := ⟨rfl, rfl, fun g cs h => by
 simp only [RC] at h ⊢
 obtain ⟨a, cap, h1, h3, h4, h5⟩ := h
 exact ⟨a, cap, h1, h3, trivial, h5⟩⟩
theorem RSub.tok (e o : Nat) (xs : List V) : RSub (.sl e .exact xs) (.sl e (.tok o) xs) := ⟨rfl, rfl, fun g cs h => by
 simp only [RC] at h ⊢
 obtain ⟨a, cap, h1, h3, h4, h5⟩ := h
 exact ⟨a, cap, h1, h3, .inl h4, h5⟩⟩
theorem RSub.nils_no (e : Nat) : RSub .nils (.sl e .no []) := (RSub.nils e).trans (.forget e _ _)
theorem RSub.nils_tok (e o : Nat) : RSub .nils (.sl e (.tok o) []) := (RSub.nils e).trans (.tok e o _)

inductive RSubL : List V → List V → Prop where
 | nil : RSubL [] []
 | cons {v v' : V} {vs vs' : List V} (h : RSub v v') (t : RSubL vs vs') : RSubL (v :: vs) (v' :: vs')

theorem RSubL.refl : ∀ (l : List V), RSubL l l
 | [] => .nil
 | v :: l => .cons (.refl v) (RSubL.refl l)
theorem RSubL.fl {vs vs' : List V} (h : RSubL vs vs') : flenL vs = flenL vs' := by
 induction h with
 | nil => rfl
 | cons h _ ih => simp [flenL, h.fl, ih]
theorem RSubL.rcs {vs : List V} (h : RSubL vs vs') : ∀ {cs : List Value}, RCs g vs cs → RCs g vs' cs := by
 induction h with
 | nil => exact fun h => h
 | cons h _ ih =>
  intro cs hc
  simp only [RCs] at hc ⊢
  obtain ⟨a, b, h1, h2, h3⟩ := hc
  exact ⟨a, b, h1, h.rc g _ h2, ih h3⟩
theorem RSubL.rcu {e : Nat} {vs : List V} (h : RSubL vs vs') : ∀ {cs : List Value}, RCu g e vs cs → RCu g e vs' cs := by
 induction h with
 | nil => exact fun h => h
 | cons h _ ih =>
  intro cs hc
  simp only [RCu] at hc ⊢
  obtain ⟨a, b, h1, h0, h2, h3⟩ := hc
  exact ⟨a, b, h1, h0, h.rc g _ h2, ih h3⟩
theorem RSubL.len {vs : List V} (h : RSubL vs vs') : vs.length = vs'.length := by
 induction h with
 | nil => rfl
 | cons _ _ ih => simp [ih]
theorem RSub.st {vs vs' : List V} (h : RSubL vs vs') : RSub (.st vs) (.st vs') := ⟨rfl, by simp [flen, h.fl], fun g cs hc => by simp only [RC] at hc ⊢; exact h.rcs hc⟩
theorem RSub.arr {e : Nat} {vs vs' : List V} (h : RSubL vs vs') : RSub (.arr e vs) (.arr e vs') := ⟨rfl, by simp [flen, h.len], fun g cs hc => by simp only [RC] at hc ⊢; exact h.rcu hc⟩
theorem RSub.sl {e : Nat} {tk : Tk} {vs vs' : List V} (h : RSubL vs vs') : RSub (.sl e tk vs) (.sl e tk vs') := ⟨rfl, rfl, fun g cs hc => by
 simp only [RC] at hc ⊢
 obtain ⟨a, cap, h1, h3, h4, c, h5, h6, h7⟩ := hc
 refine ⟨a, cap, by rw [← h.len]; exact h1, by rw [← h.len]; exact h3, by rw [← h.len]; exact h4, c, h.rcu h5, h6, fun ad e => ⟨fun hn => (h7 ad e).1 fun hv => hn (by subst hv; cases h; rfl), (h7 ad e).2⟩⟩⟩
theorem RSub.sub {v v' : V} (h : RSub v v') (ht : (match v with | .tup _ => false | .undef => false | _ => true) = true) : v.sub v' := fun g x hx => by
 refine RV.of ?_ ?_
 ·cases v <;> first | (simp at ht; done) | exact h.agg.symm.trans hx.1
 ·cases v <;> first | (simp at ht; done) | exact h.rc g _ hx.2

/-! Types of typed values. -/

structure TyOk {α : Type} (f : α → V) (n : Nat) (b : Bool) : Prop where
 fl : ∀ x, flen (f x) = n
 ag : ∀ x, (f x).isAgg = b
 ok : ∀ x, okV (f x) = true
 lt : ∀ x m, (f x).lt m = true
 nu : ∀ x, (match f x with | .tup _ => false | .undef => false | _ => true) = true

theorem ltL_nil : V.ltL m [] = true := rfl
theorem ltL_c {vs : List V} (h : v.lt m = true) (t : V.ltL m vs = true) : V.ltL m (v :: vs) = true := by simp only [V.ltL, h, t, Bool.and_self]
theorem lt_st {vs : List V} (h : V.ltL m vs = true) : (V.st vs).lt m = true := by simpa only [V.lt] using h
theorem lt_tup {vs : List V} (h : V.ltL m vs = true) : (V.tup vs).lt m = true := by simpa only [V.lt] using h
theorem lt_arr {e : Nat} {vs : List V} (h : V.ltL m vs = true) : (V.arr e vs).lt m = true := by simpa only [V.lt] using h
theorem lt_sl {e : Nat} {tk : Tk} {vs : List V} (ht : tk.lt m = true) (h : V.ltL m vs = true) : (V.sl e tk vs).lt m = true := by simp only [V.lt, ht, h, Bool.and_self]
theorem lt_fn {f : FuncId} {a b : List V} (h : V.ltL m a = true) (k : V.ltL m b = true) : (V.fn f a b).lt m = true := by simp only [V.lt, h, k, Bool.and_self]
theorem lt_cptr (h : v.lt m = true) : (V.cptr v).lt m = true := by simpa only [V.lt] using h
theorem lt_ifc {t : TypeId} (h : v.lt m = true) : (V.ifc t v).lt m = true := by simpa only [V.lt] using h

theorem TyOk.int (k : IntKind) : TyOk (V.int k) 1 false := ⟨fun _ => rfl, fun _ => rfl, fun _ => rfl, fun _ _ => rfl, fun _ => rfl⟩
theorem TyOk.bool : TyOk V.bool 1 false := ⟨fun _ => rfl, fun _ => rfl, fun _ => rfl, fun _ _ => rfl, fun _ => rfl⟩
theorem TyOk.str : TyOk V.str 1 false := ⟨fun _ => rfl, fun _ => rfl, fun _ => rfl, fun _ _ => rfl, fun _ => rfl⟩
theorem TyOk.ltm {α : Type} {f : α → V} {n : Nat} {b : Bool} (h : TyOk f n b) (m : Nat) (l : List α) : V.ltL m (l.map f) = true := ltL_map (fun x => h.lt x m) l
theorem TyOk.sl {α : Type} {f : α → V} {n : Nat} {b : Bool} (h : TyOk f n b) : TyOk (fun l : List α => V.sl n .no (l.map f)) 1 false :=
 ⟨fun _ => rfl, fun _ => rfl, fun _ => rfl, fun l m => lt_sl rfl (h.ltm m l), fun _ => rfl⟩
theorem TyOk.arr {α : Type} {f : α → V} {n k : Nat} {b : Bool} (h : TyOk f n b) : TyOk (fun l : Vector α k => V.arr n (l.toList.map f)) (k * n) true :=
 ⟨fun l => by simp [flen], fun _ => rfl, fun _ => rfl, fun l m => lt_arr (h.ltm m l.toList), fun _ => rfl⟩
theorem TyOk.cptr {α : Type} {f : α → V} {n : Nat} {b : Bool} (h : TyOk f n b) : TyOk (fun x : α => V.cptr (f x)) 1 false :=
 ⟨fun _ => rfl, fun _ => rfl, fun _ => rfl, fun x m => lt_cptr (h.lt x m), fun _ => rfl⟩
theorem TyOk.cl {α : Type} {f : α → V} {n : Nat} {b : Bool} (h : TyOk f n b) (φ : Nat → Nat) (x : α) : (f x).ren φ = f x := V.ren_closed φ (h.lt x 0)

/-! Parts at a path. -/

inductive AtP : V → List Nat → Nat → V → Prop where
 | nil {v : V} : AtP v [] 0 v
 | st {vs : List V} {k d off : Nat} {w u : V} {p : List Nat} (hk : vs[k]? = some w) (ho : flenL (vs.take k) = d) (h : AtP w p off u) : AtP (.st vs) (k :: p) (d + off) u
 | ar {e k off : Nat} {vs : List V} {w u : V} {p : List Nat} (hk : vs[k]? = some w) (h : AtP w p off u) : AtP (.arr e vs) (k :: p) (k * e + off) u

theorem AtP.ls {α : Type} [Inhabited α] {f : α → V} {xs : List α} {e off : Nat} {u : V} {p : List Nat} (hj : j < xs.length) (h : AtP (f (xs.getD j default)) p off u) : AtP (.arr e (xs.map f)) (j :: p) (j * e + off) u :=
 .ar (by simp [List.getD, hj]) h
theorem vec_at {α : Type} (f : α → V) {k : Nat} (xs : Vector α k) (j : Fin k) : (xs.toList.map f)[j.val]? = some (f (xs.get j)) := by
 rw [List.getElem?_map]
 have : xs.toList[j.val]? = some (xs.get j) := by
  rw [List.getElem?_eq_getElem (by simp)]
  simp [Vector.get]
 rw [this]; rfl
theorem AtP.vc {α : Type} {f : α → V} {k : Nat} {xs : Vector α k} {e off : Nat} {u : V} {p : List Nat} (j : Fin k) (h : AtP (f (xs.get j)) p off u) : AtP (.arr e (xs.toList.map f)) (j.val :: p) (j.val * e + off) u := by
 exact .ar (vec_at f xs j) h

theorem AtP.spec {u : V} {p : List Nat} {off : Nat} (h : AtP v p off u) : v.at p = some u ∧ ∀ acc, v.offOf p acc = acc + off := by
 induction h with
 | nil => exact ⟨by simp [V.at], fun acc => by simp [V.offOf]⟩
 | st hk ho h ih =>
  refine ⟨by simp only [V.at, hk]; exact ih.1, fun acc => ?_⟩
  simp only [V.offOf, List.getD_eq_getElem?_getD, hk, Option.getD_some, ih.2]
  omega
 | ar hk h ih =>
  refine ⟨by simp only [V.at, hk]; exact ih.1, fun acc => ?_⟩
  simp only [V.offOf, List.getD_eq_getElem?_getD, hk, Option.getD_some, ih.2]
  omega

inductive SetP : V → List Nat → V → V → Prop where
 | nil {v u : V} : SetP v [] u u
 | st {vs vs' : List V} {k : Nat} {w w' u : V} {p : List Nat} (hk : vs[k]? = some w) (h : SetP w p u w') (he : vs.set k w' = vs') : SetP (.st vs) (k :: p) u (.st vs')
 | ar {vs vs' : List V} {e k : Nat} {w w' u : V} {p : List Nat} (hk : vs[k]? = some w) (h : SetP w p u w') (he : vs.set k w' = vs') : SetP (.arr e vs) (k :: p) u (.arr e vs')

theorem SetP.ls {α : Type} [Inhabited α] {f : α → V} {xs : List α} {e : Nat} {u : V} {p : List Nat} (y : α) (hj : j < xs.length) (h : SetP (f (xs.getD j default)) p u (f y)) : SetP (.arr e (xs.map f)) (j :: p) u (.arr e ((xs.set j y).map f)) :=
 .ar (w := f (xs.getD j default)) (by simp [List.getD, hj]) h List.map_set.symm
theorem SetP.vc {α : Type} {f : α → V} {k : Nat} {xs : Vector α k} {e : Nat} {u : V} {p : List Nat} (y : α) (j : Fin k) (h : SetP (f (xs.get j)) p u (f y)) : SetP (.arr e (xs.toList.map f)) (j.val :: p) u (.arr e ((xs.set j.val y).toList.map f)) := by
 refine .ar (w := f (xs.get j)) (vec_at f xs j) h ?_
 rw [Vector.toList_set, List.map_set]
theorem SetP.spec {u : V} {p : List Nat} (h : SetP v p u v') : v.setAt p u = v' := by
 induction h with
 | nil => exact V.setAt_nil _ _
 | st hk h he ih => rw [V.setAt_st, List.getD_eq_getElem?_getD, hk, Option.getD_some, ih, he]
 | ar hk h he ih => rw [V.setAt_arr, List.getD_eq_getElem?_getD, hk, Option.getD_some, ih, he]

end
section
variable {v v' : V} {g : Gh} {p : Place} {H2 : List AObj} {vs' : List V}

section
variable {P : Program} {E : Operand → V} {H : List AObj} {dst : Option Tmp} {ty : TypeId} {pos : String} {aft : Array Edge} {gd : Option (Nat × Bool)}

theorem OpS.ixS {α : Type} [Inhabited α] {f : α → V} {xs : List α} {t : TypeId} {i : Operand} {e : Nat} {b : Bool} {tk : Tk} {n : Int} (hl : sliOf P t = some (et, e, b, by_))
  (hx : E x = .sl e tk (xs.map f)) (hi : E i = .int k n) (hj : six xs n = some j) : OpS P ⟨dst, .indexAddr t x i, ty, pos, aft, gd⟩ E H (.cptr (f (xs.getD j default))) H := by
 obtain ⟨h0, h1, rfl, h2⟩ := six_get hj
 exact .indexAddrS hl hx hi h0 (by simpa using h1) (by simp [List.getD, h2])

theorem OpS.ixO {α : Type} {xs : List α} {t : TypeId} {i : Operand} {e : Nat} {b : Bool} {len : Nat} {n : Int} (hl : sliOf P t = some (et, e, b, by_))
  (hx : E x = .slo e o [] 0 0 len q) (hi : E i = .int k n) (he : len = xs.length) (hj : six xs n = some j) : OpS P ⟨dst, .indexAddr t x i, ty, pos, aft, gd⟩ E H (.ptr o [j] (j * e)) H := by
 obtain ⟨h0, h1, rfl, h2⟩ := six_get hj
 have := OpS.indexAddrO (P := P) (E := E) (H := H) (dst := dst) (ty := ty) (pos := pos) (aft := aft) (gd := gd) hl hx hi h0 (by omega)
 simpa using this

theorem OpS.ixC {α : Type} {f : α → V} {xs : Vector α m} {t : TypeId} {i : Operand} {e : Nat} {b : Bool} {n : Int} {j : Fin m} (hl : arrOf P t = some (m, e, b))
  (hx : E x = .cptr (.arr e (xs.toList.map f))) (hi : E i = .int k n) (hj : fix_ m n = some j) : OpS P ⟨dst, .indexAddr t x i, ty, pos, aft, gd⟩ E H (.cptr (f (xs.get j))) H := by
 obtain ⟨h0, h1, h2⟩ := fix_get hj
 exact .indexAddrC hl hx hi h0 h1 (by rw [h2]; exact vec_at f xs j)

theorem OpS.ixP {t : TypeId} {i : Operand} {e : Nat} {b : Bool} {at_ : Nat} {n : Int} {j : Fin m} (hl : arrOf P t = some (m, e, b))
  (hx : E x = .ptr o path at_) (hi : E i = .int k n) (hj : fix_ m n = some j) : OpS P ⟨dst, .indexAddr t x i, ty, pos, aft, gd⟩ E H (.ptr o (path ++ [j.val]) (at_ + j.val * e)) H := by
 obtain ⟨h0, h1, h2⟩ := fix_get hj
 rw [← h2]
 exact .indexAddr hl hx hi h0 h1

theorem OpS.ixV {α : Type} {f : α → V} {xs : Vector α m} {t : TypeId} {i : Operand} {e : Nat} {b : Bool} {n : Int} {j : Fin m} (hl : arrOf P t = some (m, e, b))
  (hx : E x = .arr e (xs.toList.map f)) (hi : E i = .int k n) (hj : fix_ m n = some j) (hb : (f (xs.get j)).isAgg = b) : OpS P ⟨dst, .index t x i, ty, pos, aft, gd⟩ E H (f (xs.get j)) H := by
 obtain ⟨h0, h1, h2⟩ := fix_get hj
 exact .index hl hx hi h0 h1 (by rw [h2]; exact vec_at f xs j) hb

theorem OpS.loadP {t : TypeId} {a : Operand} {n : Nat} {b : Bool} {off : Nat} {u : V} (hs : szOf P t = some n) (hag : aggOf P t = some b)
  (hx : E a = .ptr o path off) (ho : H[o]? = some (.cells v)) (hu : AtP v path off' u) (hoff : off = off') (hn : flen u = n) (hb : u.isAgg = b) : OpS P ⟨dst, .load t a, ty, pos, aft, gd⟩ E H u H :=
 .load hs hag hx ho hu.spec.1 (by rw [hu.spec.2]; omega) hn hb

/-- Cells are written. -/
theorem store_run {t : TypeId} {a : Operand} {n : Nat} {off : Nat} {old u : V} {rc : Operand → Value} {cs : Array Value} {cty : TypeId} {cv junk : List Value} (hs : szOf P t = some n)
  (q2 : rc a = .pointer (some ⟨p.block, off, none⟩)) (h2 : RC g u (rc x).cells.toList) (k1 : w.heap[p.block]? = some (.cells cs cty (0, 0))) (k2 : cs.toList = cv ++ junk) (k3 : RC g v cv)
  (hold : v.at path = some old) (hoff : v.offOf path 0 = off) (hn : flen u = n) (hn' : flen old = n) :
  ∃ row : Array Value, (execOp rc ⟨dst, .store t a x, ty, pos, aft, gd⟩).run P w = .ok .skip (w.setRow p.block row) ∧ row.size = cs.size ∧ ∃ c', row.toList = c' ++ junk ∧ RC g (v.setAt path u) c' := by
 obtain ⟨pre, c, post, e1, e2, e3, e4⟩ := k3.at (acc := 0) hold
 have hc1 : (rc x).cells.toList.length = n := h2.len.trans hn
 have hc2 : c.length = n := e3.len.trans hn'
 have htot : cs.toList = pre ++ c ++ post ++ junk := by rw [k2, e1]
 have hsz : cs.size = pre.length + c.length + post.length + junk.length := by
  have := congrArg List.length htot
  simpa [Nat.add_assoc] using this
 have hst := run_storeCells_at P p.block pre.length cty (rc x).cells.toList 0 cs w k1 (by omega) (fun y hy => h2.one y hy)
 have hoff' : off = pre.length := by omega
 have hsize : (rc x).cells.size = n := by simpa using hc1
 have hrow : (cs.toList.take (pre.length + 0) ++ (rc x).cells.toList ++ cs.toList.drop (pre.length + 0 + (rc x).cells.toList.length)) = pre ++ (rc x).cells.toList ++ (post ++ junk) := by
  have htot' : cs.toList = (pre ++ c) ++ (post ++ junk) := by rw [htot]; simp
  have d1 : cs.toList.take (pre.length + 0) = pre := by rw [htot', Nat.add_zero, List.append_assoc, List.take_left]
  have d2 : cs.toList.drop (pre.length + 0 + (rc x).cells.toList.length) = post ++ junk := by
   rw [htot', show pre.length + 0 + (rc x).cells.toList.length = (pre ++ c).length from by rw [List.length_append]; omega, List.drop_left]
  rw [d1, d2]
 rw [hrow] at hst
 refine ⟨(pre ++ (rc x).cells.toList ++ (post ++ junk)).toArray, ?_, by simp; omega, pre ++ (rc x).cells.toList ++ post, by simp, e4 u _ h2 (by omega)⟩
 simp only [execOp, Instr.storeAt, q2, Instr.sureAddr, storeVar, Sem.run_bind, Sem.run_pure, Result.andThen_ok, run_sizeOf' hs]
 rw [hsize]
 simp [hoff', hst]

theorem RSub.rcv {u0 u : V} (h : RSub u0 u) (hk : okV u0 = true) {x : Value} (hx : RV g u0 x) : RC g u x.cells.toList := h.rc g _ (hx.ok hk).2

theorem OpS.storeP {t : TypeId} {a : Operand} {n : Nat} {off : Nat} {old u0 u : V} (hs : szOf P t = some n)
  (ha : E a = .ptr o path off) (hx : E x = u0) (hk : okV u0 = true) (hsub : RSub u0 u) (ho : H[o]? = some (.cells v)) (hold : AtP v path off' old) (hoff : off = off') (hset : SetP v path u v') (hn : flen u = n) (hn' : flen old = n)
  (hH : H.set o (.cells v') = H2) : OpS P ⟨dst, .store t a x, ty, pos, aft, gd⟩ E H .undef H2 := by
 subst hH
 intro g rc w h hr
 obtain ⟨p, q1, q2⟩ := (ha ▸ h a (by simp [Op.operands])).ptr_eq
 have h2 := hsub.rcv hk (hx ▸ h x (by simp [Op.operands]))
 obtain ⟨cs, cty, k1, ⟨junk, k2, k3⟩, k4⟩ := hr.obj o p _ q1 ho
 obtain ⟨row, hrun, hsz, c', hrow, hc'⟩ := store_run (dst := dst) (ty := ty) (pos := pos) (aft := aft) (gd := gd) hs q2 h2 k1 k2 k3 hold.spec.1 (by rw [hold.spec.2]; omega) hn hn'
 rw [hset.spec] at hc'
 rw [hrun]
 have hb := setRow_heap w p.block cs row cty (0, 0) k1
 refine ⟨g, trivial, hr.write q1 ho rfl k4 (fun b hb => setRow_other w p.block b _ hb) ?_, .write q1 ho rfl (fun b hb => setRow_other w p.block b _ hb) rfl rfl rfl (by simp) (Nat.le_refl _)⟩
 have hl := hc'.len
 refine ⟨_, cty, hb, ⟨junk, ?_, ?_⟩, k4⟩
 ·rw [hrow, ← hl, List.take_left]
 ·rw [hrow, ← hl, List.take_left]; exact hc'

/-- A buffer's cells. -/
theorem HR.bufc (hr : HR g H w) {e : Nat} {vs : List V} {u : V} {off : Nat} (hp : g.ρ[o]? = some p) (ho : H[o]? = some (.buf e vs)) (hu : AtP (.arr e vs) path off u) (hne : path ≠ []) :
  p.vac = false ∧ ∃ cs ty, w.heap[p.block]? = some (.cells cs ty (0, 0)) ∧ (∃ c junk, cs.toList = c ++ junk ∧ RC g (.arr e vs) c) ∧ cs.size = p.size ∧ ∀ i, g.I p.block i = none := by
 rcases hr.obj o p _ hp ho with ⟨_, rfl⟩ | ⟨h0, cs, ty, h1, ⟨c, j, h2, h3⟩, h4⟩
 ·exfalso
  cases hu with
  | nil => exact hne rfl
  | ar hk _ => simp at hk
 ·exact ⟨h0, cs, ty, h1, ⟨c, j, h2, by simp only [RC]; exact h3⟩, h4⟩

theorem OpS.loadB {t : TypeId} {a : Operand} {n : Nat} {b : Bool} {e : Nat} {off : Nat} {vs : List V} {u : V} (hs : szOf P t = some n) (hag : aggOf P t = some b)
  (hx : E a = .ptr o (j :: path) off) (ho : H[o]? = some (.buf e vs)) (hu : AtP (.arr e vs) (j :: path) off' u) (hoff : off = off') (hn : flen u = n) (hb : u.isAgg = b) : OpS P ⟨dst, .load t a, ty, pos, aft, gd⟩ E H u H :=
 .quiet fun g rc w h hr => by
  obtain ⟨p, q1, q2⟩ := (hx ▸ h a (by simp [Op.operands])).ptr_eq
  obtain ⟨_, cs, cty, h1, ⟨cv, junk, h2, h3⟩, _, h4⟩ := hr.bufc q1 ho hu (by simp)
  obtain ⟨pre, c, post, e1, e2, e3, _⟩ := h3.at (acc := 0) hu.spec.1
  have hoff2 : off = pre.length := by have := hu.spec.2 0; omega
  refine ⟨mkVal b c, ?_, mkVal_rv hb e3⟩
  have := run_loadVar' (P := P) (a := ⟨p.block, off, none⟩) rfl hs hag (e3.len.trans hn) (fun e => by subst e; rw [← hn, flen_leaf hb]) w (fun i y hy => by
   simp only [World.cell?, h1]
   have : cs.toList[off + i]? = some y := by
    rw [h2, e1, hoff2]
    simp only [List.append_assoc]
    rw [List.getElem?_append_right (by omega), show pre.length + i - pre.length = i from by omega, List.getElem?_append_left (List.getElem?_eq_some_iff.1 hy).1]
    exact hy
   simpa using this)
  simp [execOp, Instr.loadAt, q2, Instr.sureAddr, this]

theorem OpS.storeB {t : TypeId} {a : Operand} {n : Nat} {e : Nat} {off : Nat} {vs : List V} {old u0 u : V} (hs : szOf P t = some n)
  (ha : E a = .ptr o (j :: path) off) (hx : E x = u0) (hk : okV u0 = true) (hsub : RSub u0 u) (ho : H[o]? = some (.buf e vs)) (hold : AtP (.arr e vs) (j :: path) off' old) (hoff : off = off') (hset : SetP (.arr e vs) (j :: path) u (.arr e vs')) (hn : flen u = n) (hn' : flen old = n)
  (hH : H.set o (.buf e vs') = H2) : OpS P ⟨dst, .store t a x, ty, pos, aft, gd⟩ E H .undef H2 := by
 subst hH
 intro g rc w h hr
 obtain ⟨p, q1, q2⟩ := (ha ▸ h a (by simp [Op.operands])).ptr_eq
 have h2 := hsub.rcv hk (hx ▸ h x (by simp [Op.operands]))
 obtain ⟨hv, cs, cty, k1, ⟨cv, junk, k2, k3⟩, k5, k4⟩ := hr.bufc q1 ho hold (by simp)
 obtain ⟨row, hrun, hsz, c', hrow, hc'⟩ := store_run (dst := dst) (ty := ty) (pos := pos) (aft := aft) (gd := gd) hs q2 h2 k1 k2 k3 hold.spec.1 (by rw [hold.spec.2]; omega) hn hn'
 rw [hset.spec] at hc'
 rw [hrun]
 have hb := setRow_heap w p.block cs row cty (0, 0) k1
 have hown : p.own (.buf e vs) = true := by simp [Place.own, hv]
 refine ⟨g, trivial, hr.write q1 ho hown k4 (fun b hb => setRow_other w p.block b _ hb) ?_, .write q1 ho hown (fun b hb => setRow_other w p.block b _ hb) rfl rfl rfl (by simp) (Nat.le_refl _)⟩
 simp only [RC] at hc'
 exact .inr ⟨hv, _, cty, hb, ⟨c', junk, hrow, hc'⟩, by rw [hsz, k5], k4⟩
end
end
section
variable {vx vy : V} {H2 : List AObj} {g : Gh} {ys : List V} {p : Place} {ob' : AObj}

section
variable {P : Program} {E : Operand → V} {H : List AObj} {dst : Option Tmp} {ty : TypeId} {pos : String} {aft : Array Edge} {gd : Option (Nat × Bool)}

theorem OpS.appT {α : Type} {f : α → V} {st : TypeId} {e : Nat} {z : V} {xs ys zs : List α} (hst : sliOf P st = some (et, e, eag, by_))
  (hxt : NoI P xt) (hz : ZeroV P et z) (hze : flen z = e) (hby : 0 < by_) (hx : E x = .sl e (.tok o) (xs.map f)) (ho : H[o]? = some .tail) (hy : E y = vy) (hrd : Rd vy H e (ys.map f))
  (hr : app by_ xs ys = some zs) (hH : H.set o .dead ++ [.tail] = H2) :
  OpS P ⟨dst, .call ⟨.builtin .append, #[x, y], #[st, xt]⟩, ty, pos, aft, gd⟩ E H (.sl e (.tok H.length) (zs.map f)) H2 := by
 obtain ⟨h1, rfl⟩ := app_get hr
 subst hH
 rw [List.map_append]
 exact .append hst hxt hz hze hby hx ho hy hrd (by simpa using h1)

theorem OpS.appX {α : Type} {f : α → V} {st : TypeId} {e : Nat} {z : V} {xs ys zs : List α} (hst : sliOf P st = some (et, e, eag, by_))
  (hxt : NoI P xt) (hz : ZeroV P et z) (hze : flen z = e) (hby : 0 < by_) (hx : E x = vx) (hxs : vx.sub (.sl e .exact (xs.map f))) (hy : E y = vy) (hrd : Rd vy H e (ys.map f))
  (hr : app by_ xs ys = some zs) (hH : H ++ [.tail] = H2) :
  OpS P ⟨dst, .call ⟨.builtin .append, #[x, y], #[st, xt]⟩, ty, pos, aft, gd⟩ E H (.sl e (.tok H.length) (zs.map f)) H2 := by
 obtain ⟨h1, rfl⟩ := app_get hr
 subst hH
 rw [List.map_append]
 exact .appendX hst hxt hz hze hby hx hxs hy hrd (by simpa using h1)

/-- A new block that is a buffer. -/
theorem new_buf (hr : HR g H w) {e : Nat} {xs : List V} {c0 c : List Value} {zv : Value} {newCap : Nat} (hzs : zv.cells.size = e)
  (hc0 : RCu g e xs c0) (hc : RCu g e ys c) (hnc : xs.length + ys.length ≤ newCap) :
  ∃ g', RV g' (.slo e H.length [] 0 0 (xs ++ ys).length 1) (.slice (some ⟨w.heap.size, 0, none⟩) (xs.length + ys.length) newCap) ∧
   HR g' (H ++ [.buf e (xs ++ ys)]) (w.drew.alloc (.cells (c0.toArray ++ c.toArray ++ Builtin.zeroCells zv.cells (newCap - (xs.length + ys.length))) et)) ∧
   Ev g H w g' (H ++ [.buf e (xs ++ ys)]) (w.drew.alloc (.cells (c0.toArray ++ c.toArray ++ Builtin.zeroCells zv.cells (newCap - (xs.length + ys.length))) et)) := by
 have hsize : (Builtin.zeroCells zv.cells (newCap - (xs.length + ys.length))).size = (newCap - (xs.length + ys.length)) * e := by rw [zeroCells_size, hzs]
 generalize Builtin.zeroCells zv.cells (newCap - (xs.length + ys.length)) = rest at *
 have hr1 : HR g H w.drew := hr.drew rfl
 have hcat := hc0.append hc
 have hlc : (c0 ++ c).length = (xs.length + ys.length) * e := by rw [hcat.len, List.length_append]
 have hcs : (c0.toArray ++ c.toArray ++ rest).size = newCap * e := by
  have h1 : (c0.toArray ++ c.toArray ++ rest).size = (c0 ++ c).length + rest.size := by simp
  rw [h1, hlc, hsize, ← Nat.add_mul]
  congr 1; omega
 have hws : w.drew.heap.size = w.heap.size := rfl
 let p : Place := ⟨w.heap.size, 0, newCap * e, false⟩
 have hb := heap_alloc_eq w.drew (.cells (c0.toArray ++ c.toArray ++ rest) et)
 rw [hws] at hb
 have hev1 : Ev g H w g H w.drew := Ev.drew rfl rfl rfl rfl (by show w.drawn ≤ w.drawn + 1; omega)
 refine ⟨{ g with ρ := g.ρ ++ [p] }, ?_, hr1.alloc _ _ p rfl ?_, hev1.trans (.alloc hr1 _ _ p rfl)⟩
 ·refine RV.of_leaf rfl ?_
  simp only [RC]
  refine ⟨p, ?_, some ⟨w.heap.size, 0, none⟩, newCap, by simp, by simpa using hnc, .inr ⟨by simp [p], fun _ => ⟨rfl, by simp [p]⟩⟩⟩
  show (g.ρ ++ [p])[H.length]? = some p
  rw [← hr.len]; simp
 ·exact .inr ⟨rfl, _, et, hb, ⟨c0 ++ c, rest.toList, by simp, hcat.mono (g.le_push _)⟩, hcs, fun i => hr.fresh (Nat.le_refl _) i⟩

theorem OpS.appNew {st : TypeId} {e : Nat} {z : V} (hst : sliOf P st = some (et, e, eag, by_))
  (hxt : NoI P xt) (hz : ZeroV P et z) (hze : flen z = e) (hby : 0 < by_) (hx : E x = vx) (hxs : vx.sub (.sl e .exact [])) (hy : E y = vy) (hrd : Rd vy H e ys)
  (hroom : ys.length * by_ ≤ 2 ^ 47) (hH : H ++ [.buf e ys] = H2) :
  OpS P ⟨dst, .call ⟨.builtin .append, #[x, y], #[st, xt]⟩, ty, pos, aft, gd⟩ E H (.slo e H.length [] 0 0 ys.length 1) H2 := by
 subst hH
 intro g rc w h hr
 obtain ⟨base, sCap, ex, hlen, htk, c0, hc0, hnone, hsome⟩ := (hxs g _ (hx ▸ h x (by simp [Op.operands, Call.operands]))).sl_eq
 obtain ⟨c, hc, hrx⟩ := hrd g w _ (hy ▸ h y (by simp [Op.operands, Call.operands])) hr
 rw [run_append_exec ex rfl]
 simp only [Tk.ok] at htk
 simp only [RCu] at hc0
 subst hc0
 rcases Nat.lt_or_ge sCap (([] : List V).length + ys.length) with hgrow | hfit
 ·obtain ⟨val, hv1, hv2, _⟩ := hz.run w.drew g
  obtain ⟨newCap, hnc, hrun⟩ := run_append_new (P := P) (ty := ty) (w := w) (sCap := sCap) (g := g) (xs := []) (c0 := []) hst hxt hgrow hby (by simpa using hroom) hv1 hrx rfl (by simp [RCu])
   (fun e => rfl) (fun ad e => ⟨fun h => absurd rfl h, fun i y hy => by simp at hy⟩)
  rw [hrun]
  simp only [Result.andThen_ok]
  have hzs : val.cells.size = e := by rw [← hze, ← hv2.len]; simp
  obtain ⟨g', h1, h2, h3⟩ := new_buf hr (et := et) (xs := []) (c0 := []) hzs (by simp [RCu]) hc hnc
  exact ⟨g', h1, h2, h3⟩
 ·rw [run_append_in (P := P) (ty := ty) (w := w) (sCap := sCap) hst hxt hfit (hrx P w rfl)]
  have hys : ys = [] := List.eq_nil_of_length_eq_zero (by simp at hfit htk; omega)
  subst hys
  simp only [RCu] at hc
  subst hc
  have hnop : (putIn base (([] : List V).length * e) []).run P w = .ok () w := by cases base <;> rfl
  rw [hnop]
  simp only [Result.andThen_ok]
  have hadd : HR { g with ρ := g.ρ ++ [⟨0, 0, 0, true⟩] } (H ++ [.buf e []]) w := hr.add ⟨0, 0, 0, true⟩ (.buf e []) (.inl ⟨rfl, rfl⟩) (fun h => by simp [Place.own] at h)
  refine ⟨_, ?_, hadd, ⟨g.le_push _, rfl, rfl, rfl, Nat.le_refl _, Nat.le_refl _, fun _ _ _ => rfl, fun _ _ _ _ => rfl, ?_⟩⟩
  ·refine RV.of_leaf rfl ?_
   simp only [RC]
   refine ⟨⟨0, 0, 0, true⟩, by show (g.ρ ++ [_])[H.length]? = _; rw [← hr.len]; simp, base, sCap, by simp, by simp, .inl ⟨rfl, by simp at htk; exact htk⟩⟩
  ·rintro b ⟨a', q, ob1, h1, h2, l1, e'⟩
   rcases Nat.lt_or_ge a' g.ρ.length with hlt | hge
   ·exact .inl ⟨a', q, ob1, by rwa [List.getElem?_append_left hlt] at h1, by rwa [List.getElem?_append_left (hr.len ▸ hlt)] at h2, l1, e'⟩
   ·have hle : a' < (g.ρ ++ [(⟨0, 0, 0, true⟩ : Place)]).length := (List.getElem?_eq_some_iff.1 h1).1
    have : a' = g.ρ.length := by simp at hle; omega
    subst this
    rw [List.getElem?_append_right (Nat.le_refl _)] at h1
    rw [hr.len, List.getElem?_append_right (Nat.le_refl _)] at h2
    simp at h1 h2
    subst h1 h2
    simp [Place.own] at l1

/-- An object moved to another number. -/
theorem HR.move (hr : HR g H w) {ob : AObj} (hp : g.ρ[o]? = some p) (ho : H[o]? = some ob) (hl : p.own ob = true)
  (hI : ∀ i, g.I p.block i = none) (hk : ∀ b, b ≠ p.block → w'.heap[b]? = w.heap[b]?) (hn : ORel { g with ρ := g.ρ ++ [p] } w' p ob')
  (h1 : w'.os = w.os) (h2 : w'.tape = w.tape) (h3 : w'.output = w.output) (h4 : w.heap.size ≤ w'.heap.size) (h5 : w.drawn ≤ w'.drawn) :
  HR { g with ρ := g.ρ ++ [p] } (H.set o .dead ++ [ob']) w' ∧ Ev g H w { g with ρ := g.ρ ++ [p] } (H.set o .dead ++ [ob']) w' := by
 have hw := hr.write (ob' := .dead) hp ho hl hI hk trivial
 have hv := Ev.write (g := g) (H := H) (ob' := .dead) hp ho hl hk h1 h2 h3 h4 h5
 have hlive : ∀ (a : Nat) (q : Place) (ob1 : AObj), g.ρ[a]? = some q → (H.set o .dead)[a]? = some ob1 → q.own ob1 = true → q.block ≠ p.block := by
  intro a q ob1 k1 k2 l1 e
  by_cases ea : a = o
  ·subst ea
   rw [List.getElem?_set_self (List.getElem?_eq_some_iff.1 ho).1] at k2
   cases k2
   simp [Place.own] at l1
  ·rw [List.getElem?_set_ne (Ne.symm ea)] at k2
   exact ea (hr.inj a o q p ob1 ob k1 hp k2 ho l1 hl e)
 refine ⟨hw.add p ob' hn fun _ a q ob1 => hlive a q ob1, ⟨g.le_push _, h1, h2, h3, h4, h5, hv.keep, fun b i _ _ => rfl, fun b hb => ?_⟩⟩
 rcases Lv.push (g := g) (H := H.set o .dead) (by simp [hr.len]) hb with hl' | hl'
 ·exact hv.live b hl'
 ·exact .inl ⟨o, p, ob, hp, ho, hl, hl'⟩

theorem RCu.snoc {e : Nat} {xs : List V} {c d j : List Value} {cs : Array Value} {off : Nat} (h : RCu g e xs c) (k : RCu g e ys d) (hc : cs.toList = c ++ j) (ho : off = xs.length * e) (hf : off + d.length ≤ cs.size) :
  ∃ j', (cs.toList.take (off + 0) ++ d ++ cs.toList.drop (off + 0 + d.length)).toArray.toList = (c ++ d) ++ j' ∧ RCu g e (xs ++ ys) (c ++ d) ∧ (cs.toList.take (off + 0) ++ d ++ cs.toList.drop (off + 0 + d.length)).toArray.size = cs.size := by
 refine ⟨cs.toList.drop (off + 0 + d.length), ?_, h.append k, by simp; omega⟩
 have hl : c.length = off := by rw [h.len, ho]
 show cs.toList.take (off + 0) ++ d ++ _ = _
 rw [Nat.add_zero, ← hl, hc, List.take_left]

theorem OpS.appOwn {st : TypeId} {e : Nat} {z : V} {vs : List V} {len : Nat} (hst : sliOf P st = some (et, e, eag, by_))
  (hxt : NoI P xt) (hz : ZeroV P et z) (hze : flen z = e) (hby : 0 < by_) (hx : E x = .slo e o [] 0 0 len 1) (ho : H[o]? = some (.buf e vs)) (hlen : len = vs.length) (hy : E y = vy) (hrd : Rd vy H e ys)
  (hroom : (vs.length + ys.length) * by_ ≤ 2 ^ 47) (hH : H.set o .dead ++ [.buf e (vs ++ ys)] = H2) :
  OpS P ⟨dst, .call ⟨.builtin .append, #[x, y], #[st, xt]⟩, ty, pos, aft, gd⟩ E H (.slo e H.length [] 0 0 (vs ++ ys).length 1) H2 := by
 subst hH hlen
 intro g rc w h hr
 obtain ⟨p, hp, base, sCap, ex, hle, hcase⟩ := (hx ▸ h x (by simp [Op.operands, Call.operands])).slo_eq
 obtain ⟨c, hc, hrx⟩ := hrd g w _ (hy ▸ h y (by simp [Op.operands, Call.operands])) hr
 rw [run_append_exec ex rfl]
 have hlk : (H.set o AObj.dead).length = H.length := by simp
 -- what the buffer holds
 have hbuf : ∃ c0, RCu g e vs c0 ∧ (base = none → vs = []) ∧ (∀ ad, base = some ad → (vs ≠ [] → ad.spot = none) ∧ ∀ (i : Nat) y, c0[i]? = some y → w.cell? ⟨ad.block, ad.off + i, none⟩ = some y) := by
  rcases hr.obj o p _ hp ho with ⟨hv, rfl⟩ | ⟨hv, cs, cty, h1, ⟨c0, j, h2, h3⟩, h4⟩
  ·exact ⟨[], by simp [RCu], fun _ => rfl, fun ad _ => ⟨fun h => absurd rfl h, fun i y hy => by simp at hy⟩⟩
  ·obtain ⟨rfl, _⟩ := hcase.resolve_left (fun hc => by rw [hv] at hc; cases hc.1)
   refine ⟨c0, h3, (fun h => by cases h), fun ad h => ?_⟩
   cases h
   refine ⟨fun _ => rfl, fun i y hy => ?_⟩
   simp only [World.cell?, h1]
   have : cs.toList[i]? = some y := by rw [h2, List.getElem?_append_left (List.getElem?_eq_some_iff.1 hy).1]; exact hy
   simpa using this
 obtain ⟨c0, hc0, hb0, hcell0⟩ := hbuf
 rcases Nat.lt_or_ge sCap (vs.length + ys.length) with hgrow | hfit
 ·have hrk := hr.kill o
  obtain ⟨val, hv1, hv2, _⟩ := hz.run w.drew g
  obtain ⟨newCap, hnc, hrun⟩ := run_append_new (P := P) (ty := ty) (w := w) (sCap := sCap) hst hxt hgrow hby hroom hv1 hrx rfl hc0 hb0 hcell0
  rw [hrun]
  simp only [Result.andThen_ok]
  have hzs : val.cells.size = e := by rw [← hze, ← hv2.len]; simp
  obtain ⟨g', h1, h2, h3⟩ := new_buf hrk (et := et) hzs hc0 hc hnc
  exact ⟨g', by simpa [hlk] using h1, h2, (Ev.kill o).trans h3⟩
 ·rw [run_append_in (P := P) (ty := ty) (w := w) (sCap := sCap) hst hxt hfit (hrx P w rfl)]
  rcases hcase with ⟨hv, rfl⟩ | ⟨rfl, hsz⟩
  ·-- nothing there, nothing appended
   have hv0 : vs = [] := List.eq_nil_of_length_eq_zero (by omega)
   have hy0 : ys = [] := List.eq_nil_of_length_eq_zero (by omega)
   subst hv0 hy0
   simp only [RCu] at hc
   subst hc
   have hnop : (putIn base (([] : List V).length * e) []).run P w = .ok () w := by cases base <;> rfl
   rw [hnop]
   simp only [Result.andThen_ok]
   have hrk := hr.kill o
   have hadd := hrk.add ⟨0, 0, 0, true⟩ (.buf e []) (.inl ⟨rfl, rfl⟩) (fun h => by simp [Place.own] at h)
   refine ⟨_, ?_, hadd, (Ev.kill o).trans ⟨g.le_push _, rfl, rfl, rfl, Nat.le_refl _, Nat.le_refl _, fun _ _ _ => rfl, fun _ _ _ _ => rfl, ?_⟩⟩
   ·refine RV.of_leaf rfl ?_
    simp only [RC]
    refine ⟨⟨0, 0, 0, true⟩, by show (g.ρ ++ [_])[H.length]? = _; rw [← hr.len]; simp, base, 0, by simp, by simp, .inl ⟨rfl, rfl⟩⟩
   ·rintro b ⟨a', q, ob1, h1, h2, l1, e'⟩
    rcases Nat.lt_or_ge a' g.ρ.length with hlt | hge
    ·exact .inl ⟨a', q, ob1, by rwa [List.getElem?_append_left hlt] at h1, by rwa [List.getElem?_append_left (hrk.len ▸ hlt)] at h2, l1, e'⟩
    ·have hle' : a' < (g.ρ ++ [(⟨0, 0, 0, true⟩ : Place)]).length := (List.getElem?_eq_some_iff.1 h1).1
     have : a' = g.ρ.length := by simp at hle'; omega
     subst this
     rw [List.getElem?_append_right (Nat.le_refl _)] at h1
     rw [hrk.len, List.getElem?_append_right (Nat.le_refl _)] at h2
     simp at h1 h2
     subst h1 h2
     simp [Place.own] at l1
  ·obtain ⟨hv, hcapsz⟩ := hsz rfl
   obtain ⟨_, cs, cty, hcs, ⟨c0', j, hcj, hc0'⟩, hcsz, hI⟩ := (hr.obj o p _ hp ho).resolve_left (fun h => by rw [hv] at h; cases h.1)
   have hown : p.own (.buf e vs) = true := by simp [Place.own, hv]
   have hlc : c.length = ys.length * e := hc.len
   have hmul : (vs.length + ys.length) * e ≤ sCap * e := Nat.mul_le_mul_right _ hfit
   rw [Nat.add_mul] at hmul
   have hfit2 : vs.length * e + c.length ≤ cs.size := by rw [hcsz]; simp at hcapsz; omega
   have hst' := run_storeCells_at P p.block (vs.length * e) cty c 0 cs w hcs (by omega) (fun v hv => hc.one v hv)
   have hadd : (⟨p.block, 0 + 0 * e, none⟩ : Addr).add (vs.length * e) = ⟨p.block, vs.length * e, none⟩ := by rw [add_addr]; simp
   simp only [putIn, hadd, hst', Result.andThen_ok]
   obtain ⟨j', k1, k2, k3⟩ := hc0'.snoc hc hcj rfl hfit2
   have hb := setRow_heap w p.block cs (cs.toList.take (vs.length * e + 0) ++ c ++ cs.toList.drop (vs.length * e + 0 + c.length)).toArray cty (0, 0) hcs
   obtain ⟨q1, q2⟩ := hr.move (w' := w.setRow p.block (cs.toList.take (vs.length * e + 0) ++ c ++ cs.toList.drop (vs.length * e + 0 + c.length)).toArray) (ob' := .buf e (vs ++ ys)) hp ho hown hI (fun b hb => setRow_other w p.block b _ hb)
    (.inr ⟨hv, _, cty, hb, ⟨c0' ++ c, j', k1, k2.mono (g.le_push _)⟩, by rw [k3, hcsz], hI⟩) rfl rfl rfl (by simp) (Nat.le_refl _)
   refine ⟨_, ?_, q1, q2⟩
   refine RV.of_leaf rfl ?_
   simp only [RC]
   exact ⟨p, by show (g.ρ ++ [p])[H.length]? = some p; rw [← hr.len]; simp, some ⟨p.block, 0 + 0 * e, none⟩, sCap, by simp, by simpa using hfit, .inr ⟨rfl, fun _ => ⟨hv, hcapsz⟩⟩⟩

/-- Reading a buffer of one's own. -/
theorem Rd.own {e len : Nat} {vs : List V} {H : List AObj} (ho : H[o]? = some (.buf e vs)) (hl : len = vs.length) : Rd (.slo e o [] 0 0 len q) H e vs := by
 subst hl
 intro g w x h hr
 obtain ⟨p, h1, a, cp, rfl, h3, h4⟩ := h.slo_eq
 rcases hr.obj o p _ h1 ho with ⟨hv, rfl⟩ | ⟨hv, cs, cty, k1, ⟨c, j, k2, k3⟩, k4⟩
 ·exact rd_of (c := []) (by simp [RCu]) (fun _ => rfl) (fun ad _ => ⟨fun hn => absurd rfl hn, fun i y hy => by simp at hy⟩)
 ·obtain ⟨rfl, _⟩ := h4.resolve_left (fun hc => by rw [hv] at hc; cases hc.1)
  refine rd_of k3 (fun h => by cases h) fun ad h => ?_
  cases h
  refine ⟨fun _ => rfl, fun i y hy => ?_⟩
  simp only [World.cell?, k1]
  have : cs.toList[i]? = some y := by rw [k2, List.getElem?_append_left (List.getElem?_eq_some_iff.1 hy).1]; exact hy
  simpa using this
end
end
section
variable {g : Gh} {p : Place} {ob' : AObj} {H H' : List AObj} {env' : List (Nat × V)}

/-- An object of which no more is told. -/
def ASub : AObj → AObj → Prop
 | .cells v, .cells v' => RSub v v'
 | .buf e vs, .buf e' vs' => e = e' ∧ RSubL vs vs'
 | .tail, .tail => True
 | .map es, .map es' => es = es'
 | _, .dead => True
 | _, _ => False

theorem ASub.rel {ob : AObj} (h : ASub ob ob') (k : ORel g w p ob) : ORel g w p ob' := by
 cases ob <;> cases ob' <;> simp only [ASub] at h <;> try exact trivial
 ·obtain ⟨cs, ty, h1, ⟨j, h2, h3⟩, h4⟩ := k
  exact ⟨cs, ty, h1, ⟨j, h.fl ▸ h2, h.fl ▸ h.rc g _ h3⟩, h4⟩
 ·obtain ⟨rfl, h⟩ := h
  rcases k with ⟨x, rfl⟩ | ⟨h0, cs, ty, h1, ⟨c, j, h2, h3⟩, h4⟩
  ·cases h; exact .inl ⟨x, rfl⟩
  ·exact .inr ⟨h0, cs, ty, h1, ⟨c, j, h2, h.rcu h3⟩, h4⟩
 ·exact k
 ·subst h; exact k
theorem ASub.own {p : Place} {ob ob' : AObj} (h : ASub ob ob') (k : p.own ob' = true) : p.own ob = true := by
 cases ob <;> cases ob' <;> simp only [ASub] at h <;> first | exact k | (simp [Place.own] at k; done)
theorem ASub.refl (ob : AObj) : ASub ob ob := by
 cases ob <;> simp only [ASub]
 ·exact .refl _
 ·exact ⟨trivial, .refl _⟩

inductive SelHS (f : Nat → Nat) (m : Nat) (H : List AObj) : List Nat → List AObj → Prop where
 | nil : SelHS f m H [] []
 | cons {i : Nat} {ob ob0 : AObj} {is : List Nat} {r : List AObj} (hl : ob.lt m = true) (hi : H[i]? = some ob0) (hs : ASub ob0 (ob.ren f)) (k : SelHS f m H is r) : SelHS f m H (i :: is) (ob :: r)

theorem SelHS.get {f : Nat → Nat} (h : SelHS f m H ids H') : ids.length = H'.length ∧ ∀ (k : Nat) (ob : AObj), H'[k]? = some ob → ∃ i ob0, ids[k]? = some i ∧ ob.lt m = true ∧ H[i]? = some ob0 ∧ ASub ob0 (ob.ren f) := by
 induction h with
 | nil => exact ⟨rfl, fun k ob h => by simp at h⟩
 | cons hl hi hs _ ih =>
  refine ⟨by simp [ih.1], fun k ob h => ?_⟩
  cases k with
  | zero => simp at h; subst h; exact ⟨_, _, rfl, hl, hi, hs⟩
  | succ k => simpa using ih.2 k ob (by simpa using h)

theorem own_ren (q : Place) (f : Nat → Nat) (ob : AObj) : q.own (ob.ren f) = q.own ob := by cases ob <;> rfl

/-- What is told of an object, told by other numbers. -/
theorem ORel.turned {f : Nat → Nat} {m : Nat} {g g' : Gh} (tr : g.turned f m g') (hI : g'.I = g.I) {w : World} {q : Place} {ob : AObj} (e2 : ob.lt m = true) (this : ORel g w q (ob.ren f)) : ORel g' w q ob := by
 cases ob with
 | cells v =>
  obtain ⟨cs, cty, q1, ⟨j, q2, q3⟩, q4⟩ := this
  simp only [flen_ren] at q2 q3
  exact ⟨cs, cty, q1, ⟨j, q2, q3.turned tr (by simpa only [AObj.lt] using e2)⟩, hI ▸ q4⟩
 | buf e vs =>
  rcases this with ⟨x, y⟩ | ⟨q0, cs, ty, q1, ⟨c, j, q2, q3⟩, q4, q5⟩
  ·exact .inl ⟨x, List.eq_nil_of_length_eq_zero (by rw [← V.renL_length f, y]; rfl)⟩
  ·exact .inr ⟨q0, cs, ty, q1, ⟨c, j, q2, q3.turned tr (by simpa only [AObj.lt] using e2)⟩, q4, hI ▸ q5⟩
 | tail =>
  rcases this with x | ⟨cs, ty, q1, q2, q3⟩
  ·exact .inl x
  ·exact .inr ⟨cs, ty, q1, q2, hI ▸ q3⟩
 | map es => obtain ⟨en, cl, q1, q2, q3⟩ := this; exact ⟨en, cl, q1, q2.turned tr (by simpa only [AObj.lt] using e2), q3⟩
 | dead => trivial

theorem sel_hr (h2 : HR g H w) (hnd : ids.Nodup) (hH : SelHS (fun k => ids.getD k 0) ids.length H ids H') :
  g.turned (fun k => ids.getD k 0) ids.length { g with ρ := ids.map fun i => g.ρ.getD i ⟨0, 0, 0, true⟩ } ∧ HR { g with ρ := ids.map fun i => g.ρ.getD i ⟨0, 0, 0, true⟩ } H' w ∧
  (∀ (k : Nat) (q : Place) (ob : AObj), (ids.map fun i => g.ρ.getD i ⟨0, 0, 0, true⟩)[k]? = some q → H'[k]? = some ob → ∃ i ob0, ids[k]? = some i ∧ H[i]? = some ob0 ∧ ASub ob0 (ob.ren (fun k => ids.getD k 0)) ∧ g.ρ[i]? = some q) := by
 obtain ⟨hlen, hget⟩ := hH.get
 have hρ : ∀ (k : Nat) (p : Place), k < ids.length → g.ρ[ids.getD k 0]? = some p → (ids.map fun i => g.ρ.getD i ⟨0, 0, 0, true⟩)[k]? = some p := by
  intro k p hk hp
  simp only [List.getElem?_map]
  have : ids[k]? = some (ids.getD k 0) := by simp [List.getD, hk]
  rw [this, Option.map_some, List.getD_eq_getElem?_getD (l := g.ρ), hp]
  rfl
 have hρ' : ∀ (k : Nat) (q : Place) (ob : AObj), (ids.map fun i => g.ρ.getD i ⟨0, 0, 0, true⟩)[k]? = some q → H'[k]? = some ob →
   ∃ i ob0, ids[k]? = some i ∧ ob.lt ids.length = true ∧ H[i]? = some ob0 ∧ ASub ob0 (ob.ren (fun k => ids.getD k 0)) ∧ g.ρ[i]? = some q := by
  intro k q ob hq hob
  obtain ⟨i, ob0, h1, h2', h3, h4⟩ := hget k ob hob
  refine ⟨i, ob0, h1, h2', h3, h4, ?_⟩
  simp only [List.getElem?_map, h1, Option.map_some, Option.some.injEq] at hq
  have hi : i < g.ρ.length := by rw [h2.len]; exact (List.getElem?_eq_some_iff.1 h3).1
  rw [← hq]
  simp [List.getD, hi]
 have tr : g.turned (fun k => ids.getD k 0) ids.length { g with ρ := ids.map fun i => g.ρ.getD i ⟨0, 0, 0, true⟩ } := ⟨fun _ _ _ h => h, fun o p ho hp => hρ o p ho hp⟩
 refine ⟨tr, ⟨h2.agree, by simp [hlen], ?_, ?_, h2.gl⟩, fun k q ob hq ho => ?_⟩
 ·intro k q ob hq hob
  obtain ⟨i, ob0, e1, e2, e3, e4, e5⟩ := hρ' k q ob hq hob
  exact (e4.rel (h2.obj i q _ e5 e3)).turned tr rfl e2
 ·intro k k' q q' ob1 ob2 hq hq' ho ho' l1 l2 e
  obtain ⟨i, ob0, e1, _, e3, e4, e5⟩ := hρ' k q ob1 hq ho
  obtain ⟨i', ob0', e1', _, e3', e4', e5'⟩ := hρ' k' q' ob2 hq' ho'
  have hii := h2.inj i i' q q' _ _ e5 e5' e3 e3' (e4.own (by rw [own_ren]; exact l1)) (e4'.own (by rw [own_ren]; exact l2)) e
  subst hii
  have hk := (List.getElem?_eq_some_iff.1 e1).1
  have hk' := (List.getElem?_eq_some_iff.1 e1').1
  exact (List.getElem?_inj hk hnd).1 (e1.trans e1'.symm)
 ·obtain ⟨i, ob0, e1, _, e3, e4, e5⟩ := hρ' k q ob hq ho
  exact ⟨i, ob0, e1, e3, e4, e5⟩

theorem Wk.selS {n : Nat} {env : List (Nat × V)} (ids : List Nat)
  (hnd : ids.Nodup) (hm : ids.take m = List.range m) (he : SelE (fun k => ids.getD k 0) ids.length env env') (hH : SelHS (fun k => ids.getD k 0) ids.length H ids H') : Wk n m ⟨env, H⟩ ⟨env', H'⟩ := by
 intro B g a w b1 b2 h1 h2 h3
 obtain ⟨tr, hr, hρ'⟩ := sel_hr h2 hnd hH
 refine ⟨_, ⟨fun t => ?_, h1.size, h1.defers⟩, hr, ?_⟩
 ·obtain ⟨q1, q2⟩ := he.look t
  exact (q2 g _ (h1.env t)).turned tr q1
 ·refine ⟨⟨h3.le.imm, fun o p hp => ?_⟩, h3.os, h3.tape, h3.output, h3.size, h3.drawn, h3.keep, h3.imm, ?_⟩
  ·have ho : o < m := by have := (List.getElem?_eq_some_iff.1 hp).1; omega
   have e : ids[o]? = some o := by
    have : (ids.take m)[o]? = some o := by rw [hm]; simp [ho]
    rwa [List.getElem?_take_of_lt ho] at this
   have hk : o < ids.length := (List.getElem?_eq_some_iff.1 e).1
   refine tr.2 o p hk ?_
   have : ids.getD o 0 = o := by rw [List.getD_eq_getElem?_getD, e]; rfl
   simp only [this]
   exact h3.le.pre o p hp
  ·intro b hb
   obtain ⟨k, q, ob, hq, hob, l1, e⟩ := hb
   obtain ⟨i, ob0, e1, e3, e4, e5⟩ := hρ' k q ob hq hob
   exact h3.live b ⟨i, q, ob0, e5, e3, e4.own (by rw [own_ren]; exact l1), e⟩

end
section
variable {H Hc : List AObj} {args' first : List V} {v v2 : V}

/-- Objects put in their places, new ones behind. -/
def setL : List AObj → List Nat → List AObj → List AObj
 | H, [], obs => H ++ obs
 | H, _ :: _, [] => H
 | H, i :: is, ob :: obs => setL (H.set i ob) is obs

theorem setL_len : ∀ {ids : List Nat} {L H : List AObj}, ids.length ≤ L.length → (setL H ids L).length = H.length + (L.length - ids.length)
 | [], L, H, _ => by simp [setL]
 | _ :: _, [], _, h => by simp at h
 | i :: is, ob :: obs, H, h => by
  simp only [setL]
  rw [setL_len (by simpa using h)]
  simp

theorem setL_get : ∀ {ids : List Nat} {L H : List AObj} {o : Nat} {ob : AObj}, ids.Nodup → (∀ i ∈ ids, i < H.length) → ids.length ≤ L.length → (setL H ids L)[o]? = some ob →
  (∃ k, L[k]? = some ob ∧ ((k < ids.length ∧ ids[k]? = some o) ∨ (ids.length ≤ k ∧ o = H.length + (k - ids.length)))) ∨ (o ∉ ids ∧ o < H.length ∧ H[o]? = some ob)
 | [], L, H, o, ob, _, _, _, h => by
  simp only [setL] at h
  rcases Nat.lt_or_ge o H.length with hl | hl
  ·rw [List.getElem?_append_left hl] at h
   exact .inr ⟨by simp, hl, h⟩
  ·rw [List.getElem?_append_right hl] at h
   exact .inl ⟨o - H.length, h, .inr ⟨by simp, by simp; omega⟩⟩
 | _ :: _, [], _, _, _, _, _, h, _ => by simp at h
 | i :: is, x :: obs, H, o, ob, hnd, hlt, hle, h => by
  simp only [setL] at h
  have hnd' := List.nodup_cons.1 hnd
  rcases setL_get (ids := is) (L := obs) (H := H.set i x) hnd'.2 (fun j hj => by simpa using hlt j (by simp [hj])) (by simpa using hle) h with ⟨k, h1, h2⟩ | ⟨h1, h2, h3⟩
  ·refine .inl ⟨k + 1, by simpa using h1, ?_⟩
   rcases h2 with ⟨h2, h3⟩ | ⟨h2, h3⟩
   ·exact .inl ⟨by simpa using h2, by simpa using h3⟩
   ·exact .inr ⟨by simpa using h2, by simp at h3 ⊢; omega⟩
  ·by_cases e : o = i
   ·subst e
    rw [List.getElem?_set_self (hlt o (by simp))] at h3
    exact .inl ⟨0, by simpa using h3, .inl ⟨by simp, by simp⟩⟩
   ·rw [List.getElem?_set_ne (Ne.symm e)] at h3
    exact .inr ⟨by simp [e, h1], by simpa using h2, h3⟩

/-! What is told, told by other numbers. -/

structure Gh.rend (f : Nat → Nat) (g g' : Gh) : Prop where
 imm : ∀ b i x, g.I b i = some x → g'.I b i = some x
 pre : ∀ (o : Nat) p, g.ρ[o]? = some p → g'.ρ[f o]? = some p

theorem Tk.ok.rend {f : Nat → Nat} {g g' : Gh} (h : g.rend f g') {e : Nat} {tk : Tk} {a : Option Addr} {len cap : Nat} (k : tk.ok g e a len cap) : (tk.ren f).ok g' e a len cap := by
 cases tk with
 | no => trivial
 | nn => exact k
 | exact => exact k
 | tok o =>
  rcases k with k | ⟨p, ad, h1, h2⟩
  ·exact .inl k
  ·exact .inr ⟨p, ad, h.pre _ _ h1, h2⟩

mutual
theorem RC.rend {f : Nat → Nat} {g g' : Gh} (h : g.rend f g') : ∀ {v : V} {cs : List Value}, RC g v cs → RC g' (v.ren f) cs
 | .bool _, _, k => by simpa only [V.ren, RC] using k
 | .int _ _, _, k => by simpa only [V.ren, RC] using k
 | .str _, _, k => by simpa only [V.ren, RC] using k
 | .nilp, _, k => by simpa only [V.ren, RC] using k
 | .ptr _ _ _, _, k => by
  simp only [V.ren, RC] at k ⊢
  obtain ⟨p, h1, h2⟩ := k
  exact ⟨p, h.pre _ _ h1, h2⟩
 | .cptr _, _, k => by
  simp only [V.ren, RC] at k ⊢
  obtain ⟨a, c, h1, h2, h3, h4⟩ := k
  exact ⟨a, c, h1, h2, RC.rend h h3, fun i x hx => h.imm _ _ _ (h4 i x hx)⟩
 | .nils, _, k => by simpa only [V.ren, RC] using k
 | .sl _ _ _, _, k => by
  simp only [V.ren, RC] at k ⊢
  obtain ⟨a, cap, h1, h2, h3, c, h4, h5, h6⟩ := k
  rw [V.renL_length]
  exact ⟨a, cap, h1, h2, h3.rend h, c, RCu.rend h h4, h5, fun ad e => ⟨fun hn => (h6 ad e).1 (fun e => hn (by subst e; rfl)), fun i x hx => h.imm _ _ _ ((h6 ad e).2 i x hx)⟩⟩
 | .slo _ _ _ _ _ _ _, _, k => by
  simp only [V.ren, RC] at k ⊢
  obtain ⟨p, h1, h2⟩ := k
  exact ⟨p, h.pre _ _ h1, h2⟩
 | .fn _ _ _, _, k => by
  simp only [V.ren, RC] at k ⊢
  obtain ⟨a, b, h1, h2, h3⟩ := k
  exact ⟨a, b, h1, RVl.rend h h2, RVl.rend h h3⟩
 | .nilfn, _, k => by simpa only [V.ren, RC] using k
 | .ifc _ v, _, k => by
  simp only [V.ren, RC] at k ⊢
  obtain ⟨x, h1, h2, h3⟩ := k
  exact ⟨x, h1, by rw [V.ren_isAgg]; exact h2, RC.rend h h3⟩
 | .nili, _, k => by simpa only [V.ren, RC] using k
 | .st _, _, k => by
  simp only [V.ren, RC] at k ⊢
  exact RCs.rend h k
 | .arr _ _, _, k => by
  simp only [V.ren, RC] at k ⊢
  exact RCu.rend h k
 | .tup _, _, k => by simp only [RC] at k
 | .map _, _, k => by
  simp only [V.ren, RC] at k ⊢
  obtain ⟨p, h1, h2⟩ := k
  exact ⟨p, h.pre _ _ h1, h2⟩
 | .nilmap, _, k => by simpa only [V.ren, RC] using k
 | .undef, _, k => by simp only [RC] at k
theorem RCs.rend {f : Nat → Nat} {g g' : Gh} (h : g.rend f g') : ∀ {vs : List V} {cs : List Value}, RCs g vs cs → RCs g' (V.renL f vs) cs
 | [], _, k => by simpa only [V.renL, RCs] using k
 | _ :: _, _, k => by
  simp only [V.renL, RCs] at k ⊢
  obtain ⟨a, b, h1, h2, h3⟩ := k
  exact ⟨a, b, h1, RC.rend h h2, RCs.rend h h3⟩
theorem RCu.rend {f : Nat → Nat} {g g' : Gh} (h : g.rend f g') : ∀ {e : Nat} {vs : List V} {cs : List Value}, RCu g e vs cs → RCu g' e (V.renL f vs) cs
 | _, [], _, k => by simpa only [V.renL, RCu] using k
 | _, _ :: _, _, k => by
  simp only [V.renL, RCu] at k ⊢
  obtain ⟨a, b, h1, h0, h2, h3⟩ := k
  exact ⟨a, b, h1, h0, RC.rend h h2, RCu.rend h h3⟩
theorem RVl.rend {f : Nat → Nat} {g g' : Gh} (h : g.rend f g') : ∀ {vs : List V} {cs : List Value}, RVl g vs cs → RVl g' (V.renL f vs) cs
 | [], _, k => by simpa only [V.renL, RVl] using k
 | _ :: _, _, k => by
  simp only [V.renL, RVl] at k ⊢
  obtain ⟨x, r, h1, h0, h2, h3⟩ := k
  exact ⟨x, r, h1, by rw [V.ren_isAgg]; exact h0, RC.rend h h2, RVl.rend h h3⟩
end

theorem RV.rend {f : Nat → Nat} {g g' : Gh} (h : g.rend f g') {v : V} {x : Value} (k : RV g v x) : RV g' (v.ren f) x := by
 cases v with
 | undef => trivial
 | tup vs => obtain ⟨xs, e, k⟩ := k; simp only [V.ren]; exact ⟨xs, e, k.rend h⟩
 | _ => exact RV.of ((V.ren_isAgg f _).trans k.1) (k.2.rend h)

theorem REs.rend {f : Nat → Nat} {g g' : Gh} (h : g.rend f g') : ∀ {es : List (V × V)} {l : List MapEntry}, REs g es l → REs g' (esRen f es) l
 | [], _, k => k
 | _ :: _, _, k => by
  obtain ⟨e, es, h1, h2, h3, h4⟩ := k
  exact ⟨e, es, h1, h2.rend h, h3.rend h, h4.rend h⟩

theorem ORel.rend {f : Nat → Nat} {g g' : Gh} (h : g.rend f g') (hI : g'.I = g.I) {w : World} {p : Place} {ob : AObj} (k : ORel g w p ob) : ORel g' w p (ob.ren f) := by
 cases ob with
 | cells v =>
  obtain ⟨cs, ty, h1, ⟨j, h2, h3⟩, h4⟩ := k
  refine ⟨cs, ty, h1, ⟨j, ?_, ?_⟩, hI ▸ h4⟩
  ·rw [flen_ren]; exact h2
  ·rw [flen_ren]; exact h3.rend h
 | buf e vs =>
  rcases k with ⟨x, rfl⟩ | ⟨h0, cs, ty, h1, ⟨c, j, h2, h3⟩, h4, h5⟩
  ·exact .inl ⟨x, rfl⟩
  ·exact .inr ⟨h0, cs, ty, h1, ⟨c, j, h2, h3.rend h⟩, h4, hI ▸ h5⟩
 | tail =>
  rcases k with x | ⟨cs, ty, q1, q2, q3⟩
  ·exact .inl x
  ·exact .inr ⟨cs, ty, q1, q2, hI ▸ q3⟩
 | map es => obtain ⟨en, cl, q1, q2, q3⟩ := k; exact ⟨en, cl, q1, q2.rend h, q3⟩
 | dead => trivial

def Out.ren (f : Nat → Nat) : Out → Out
 | .ret v => .ret (v.ren f)
 | .pan v => .pan (v.ren f)

theorem OutRel.rend {f : Nat → Nat} {g g' : Gh} (h : g.rend f g') {e : Ending} {o : Out} (k : OutRel g e o) : OutRel g' e (o.ren f) := by
 cases e <;> cases o <;> simp only [OutRel, Out.ren] at k ⊢
 ·exact k.rend h
 ·obtain ⟨x, h1, h2⟩ := k
  exact ⟨x, h1, h2.rend h⟩

theorem RVs.turned {f : Nat → Nat} {m : Nat} {g g' : Gh} (h : g.turned f m g') : ∀ {vs : List V} {xs : List Value}, V.ltL m vs = true → RVs g (V.renL f vs) xs → RVs g' vs xs
 | [], _, _, k => k
 | v :: vs, _, hl, k => by
  simp only [V.ltL, Bool.and_eq_true] at hl
  obtain ⟨x, r, h1, h2, h3⟩ := k
  exact ⟨x, r, h1, h2.turned h hl.1, RVs.turned h hl.2 h3⟩

/-- Where a callee's object is found at its caller's. -/
def back (ids : List Nat) (n : Nat) (k : Nat) : Nat := if k < ids.length then ids.getD k 0 else n + (k - ids.length)

theorem CallSpec.at {P : Program} {f : FuncId} {args : List V} {H : List AObj} {R : Out → List AObj → Prop} (h : CallSpec P f args H R) {H₂ : List AObj} {ids : List Nat} (hnd : ids.Nodup)
  (hH : SelHS (fun k => ids.getD k 0) ids.length H₂ ids H) (ha : V.ltL ids.length args = true) :
  CallSpec P f (V.renL (fun k => ids.getD k 0) args) H₂ fun o H' => ∃ o0 H0, R o0 H0 ∧ o = o0.ren (back ids H₂.length) ∧ H' = setL H₂ ids (H0.map (AObj.ren (back ids H₂.length))) := by
 intro g w xs hx hr
 obtain ⟨hlen, hget⟩ := hH.get
 obtain ⟨tr, hr1, hρ'⟩ := sel_hr hr hnd hH
 have hids : ∀ i ∈ ids, i < H₂.length := by
  intro i hi
  obtain ⟨k, hk, e⟩ := List.getElem_of_mem hi
  have hk2 : k < H.length := by omega
  obtain ⟨i', ob0, e1, _, e3, _⟩ := hget k H[k] (List.getElem?_eq_getElem hk2)
  rw [List.getElem?_eq_getElem hk, e] at e1
  cases e1
  exact (List.getElem?_eq_some_iff.1 e3).1
 refine (h _ w xs (hx.turned tr ha) hr1).mono ?_
 rintro e w' ⟨g', H0, o0, hR, ho, hr', hev⟩
 have hρl : (ids.map fun i => g.ρ.getD i ⟨0, 0, 0, true⟩).length = ids.length := by simp
 have hgl : ids.length ≤ g'.ρ.length := by
  rcases Nat.lt_or_ge g'.ρ.length ids.length with hlt | hge
  ·exfalso
   have hk : g'.ρ.length < (ids.map fun i => g.ρ.getD i ⟨0, 0, 0, true⟩).length := by omega
   have := hev.le.pre g'.ρ.length _ (List.getElem?_eq_getElem hk)
   simp at this
  ·exact hge
 have hH0 : ids.length ≤ H0.length := by rw [← hr'.len]; exact hgl
 -- the callee's places at the caller's
 have hpre : ∀ (o : Nat) p, g'.ρ[o]? = some p → (g.ρ ++ g'.ρ.drop ids.length)[back ids H₂.length o]? = some p := by
  intro o p hp
  unfold back
  split
  ·rename_i ho
   have hi : ids.getD o 0 < g.ρ.length := by
    rw [hr.len]
    refine hids _ ?_
    rw [List.getD_eq_getElem?_getD, List.getElem?_eq_getElem ho]
    exact List.getElem_mem ho
   rw [List.getElem?_append_left hi]
   have h1 : (ids.map fun i => g.ρ.getD i ⟨0, 0, 0, true⟩)[o]? = some (g.ρ.getD (ids.getD o 0) ⟨0, 0, 0, true⟩) := by
    rw [List.getElem?_map, List.getElem?_eq_getElem ho, List.getD_eq_getElem?_getD (l := ids), List.getElem?_eq_getElem ho]; rfl
   have h2 := hev.le.pre o _ h1
   rw [hp] at h2
   cases h2
   rw [List.getD_eq_getElem?_getD (l := g.ρ), List.getElem?_eq_getElem hi]; rfl
  ·rename_i ho
   rw [List.getElem?_append_right (by rw [hr.len]; omega), List.getElem?_drop, hr.len]
   rw [show ids.length + (H₂.length + (o - ids.length) - H₂.length) = o from by omega]
   exact hp
 let g2 : Gh := { I := g'.I, ρ := g.ρ ++ g'.ρ.drop ids.length }
 have rd : g'.rend (back ids H₂.length) g2 := ⟨fun _ _ _ h => h, hpre⟩
 have le2 : g.le g2 := ⟨fun b i x hx => hev.le.imm b i x hx, fun o p hp => by
  show (g.ρ ++ g'.ρ.drop ids.length)[o]? = some p
  rw [List.getElem?_append_left (List.getElem?_eq_some_iff.1 hp).1]; exact hp⟩
 have lv1 : ∀ b, Lv { g with ρ := ids.map fun i => g.ρ.getD i ⟨0, 0, 0, true⟩ } H b → ∃ (o : Nat) (p : Place) (ob : AObj), o ∈ ids ∧ g.ρ[o]? = some p ∧ H₂[o]? = some ob ∧ p.own ob = true ∧ p.block = b := by
  rintro b ⟨k, q, ob, hq, hob, l1, e⟩
  obtain ⟨i, ob0, e1, e3, e4, e5⟩ := hρ' k q ob hq hob
  exact ⟨i, q, ob0, List.mem_of_getElem? e1, e5, e3, e4.own (by rw [own_ren]; exact l1), e⟩
 -- where an object behind the call comes from
 have key : ∀ (o : Nat) (p : Place) (ob : AObj), g2.ρ[o]? = some p → (setL H₂ ids (H0.map (AObj.ren (back ids H₂.length))))[o]? = some ob →
   (∃ (k : Nat) (ob0 : AObj), o = back ids H₂.length k ∧ g'.ρ[k]? = some p ∧ H0[k]? = some ob0 ∧ ob = ob0.ren (back ids H₂.length)) ∨ (o ∉ ids ∧ g.ρ[o]? = some p ∧ H₂[o]? = some ob) := by
  intro o p ob hp hob
  rcases setL_get hnd hids (by simpa using hH0) hob with ⟨k, h1, h2⟩ | ⟨h1, h2, h3⟩
  ·left
   rw [List.getElem?_map, Option.map_eq_some_iff] at h1
   obtain ⟨ob0, h1, rfl⟩ := h1
   have hb : o = back ids H₂.length k := by
    unfold back
    rcases h2 with ⟨h2, h3⟩ | ⟨h2, h3⟩
    ·rw [if_pos h2, List.getD_eq_getElem?_getD, h3]; rfl
    ·rw [if_neg (by omega)]; exact h3
   have hk : k < g'.ρ.length := by rw [hr'.len]; exact (List.getElem?_eq_some_iff.1 h1).1
   refine ⟨k, ob0, hb, ?_, h1, rfl⟩
   have := hpre k _ (List.getElem?_eq_getElem hk)
   rw [← hb] at this
   have hp' : (g.ρ ++ g'.ρ.drop ids.length)[o]? = some p := hp
   rw [this] at hp'
   rw [List.getElem?_eq_getElem hk]
   exact hp'
  ·right
   refine ⟨h1, ?_, h3⟩
   have hp' : (g.ρ ++ g'.ρ.drop ids.length)[o]? = some p := hp
   rwa [List.getElem?_append_left (by rw [hr.len]; exact h2)] at hp'
 -- an object that was not handed over
 have apart : ∀ (o : Nat) (p : Place) (ob : AObj), o ∉ ids → g.ρ[o]? = some p → H₂[o]? = some ob → p.own ob = true → p.block < w.heap.size ∧ ¬ Lv { g with ρ := ids.map fun i => g.ρ.getD i ⟨0, 0, 0, true⟩ } H p.block := by
  intro o p ob h1 h2 h3 h4
  refine ⟨(hr.obj o p ob h2 h3).inb h4, fun hl => ?_⟩
  obtain ⟨o', p', ob', k1, k2, k3, k4, k5⟩ := lv1 _ hl
  have := hr.inj o' o p' p ob' ob k2 h2 k3 h3 k4 h4 k5
  exact h1 (this ▸ k1)
 have live0 : ∀ (k : Nat) (p : Place) (ob : AObj), g'.ρ[k]? = some p → H0[k]? = some ob → p.own ob = true → Lv { g with ρ := ids.map fun i => g.ρ.getD i ⟨0, 0, 0, true⟩ } H p.block ∨ w.heap.size ≤ p.block :=
  fun k p ob h1 h2 h3 => hev.live p.block ⟨k, p, ob, h1, h2, h3, rfl⟩
 refine ⟨g2, _, _, ⟨o0, H0, hR, rfl, rfl⟩, ho.rend rd, ⟨hr'.agree, ?_, ?_, ?_, hr'.gl⟩, ⟨le2, hev.os, hev.tape, hev.output, hev.size, hev.drawn, ?_, ?_, ?_⟩⟩
 ·rw [setL_len (by simpa using hH0)]
  simp [g2, hr.len, hr'.len]
 ·intro o p ob hp hob
  rcases key o p ob hp hob with ⟨k, ob0, _, h1, h2, rfl⟩ | ⟨h1, h2, h3⟩
  ·exact (hr'.obj k p ob0 h1 h2).rend rd rfl
  ·cases hown : p.own ob with
   | false => exact (hr.obj o p ob h2 h3).free hown
   | true =>
    obtain ⟨q1, q2⟩ := apart o p ob h1 h2 h3 hown
    exact (hr.obj o p ob h2 h3).keep le2 (hev.keep _ q1 q2) (fun i => hev.imm _ i q1 q2)
 ·intro o o' p p' ob ob' hp hp' hob hob' l1 l2 eb
  rcases key o p ob hp hob with ⟨k, ob0, rfl, h1, h2, rfl⟩ | ⟨h1, h2, h3⟩ <;> rcases key o' p' ob' hp' hob' with ⟨k', ob0', rfl, h1', h2', rfl⟩ | ⟨h1', h2', h3'⟩
  ·rw [own_ren] at l1 l2
   rw [hr'.inj k k' p p' ob0 ob0' h1 h1' h2 h2' l1 l2 eb]
  ·rw [own_ren] at l1
   obtain ⟨q1, q2⟩ := apart o' p' ob' h1' h2' h3' l2
   rcases live0 k p ob0 h1 h2 l1 with x | x
   ·exact absurd (eb ▸ x) q2
   ·omega
  ·rw [own_ren] at l2
   obtain ⟨q1, q2⟩ := apart o p ob h1 h2 h3 l1
   rcases live0 k' p' ob0' h1' h2' l2 with x | x
   ·exact absurd (eb ▸ x) q2
   ·omega
  ·exact hr.inj o o' p p' ob ob' h2 h2' h3 h3' l1 l2 eb
 ·intro b hb hn
  exact hev.keep b hb fun hl => by
   obtain ⟨o', p', ob', k1, k2, k3, k4, k5⟩ := lv1 _ hl
   exact hn ⟨o', p', ob', k2, k3, k4, k5⟩
 ·intro b i hb hn
  exact hev.imm b i hb fun hl => by
   obtain ⟨o', p', ob', k1, k2, k3, k4, k5⟩ := lv1 _ hl
   exact hn ⟨o', p', ob', k2, k3, k4, k5⟩
 ·rintro b ⟨o, p, ob, hp, hob, l1, rfl⟩
  rcases key o p ob hp hob with ⟨k, ob0, _, h1, h2, rfl⟩ | ⟨h1, h2, h3⟩
  ·rw [own_ren] at l1
   rcases live0 k p ob0 h1 h2 l1 with x | x
   ·obtain ⟨o', p', ob', k1, k2, k3, k4, k5⟩ := lv1 _ x
    exact .inl ⟨o', p', ob', k2, k3, k4, k5⟩
   ·exact .inr x
  ·exact .inl ⟨o, p, ob, h2, h3, l1, rfl⟩

/-- A call that is handed objects. -/
theorem OpS.callH {E : Operand → V} {H3 : List AObj} {pos : String} {aft : Array Edge} {gd : Option (Nat × Bool)} {args : Array Operand} {f : FuncId} {cap : List V} {H0 H1 : List AObj} 
  (hE : enters P f = true) (hx : E x = .fn f first cap) (ids : List Nat) (hs : CallSpec P f args' Hc fun o H' => o = .ret v ∧ H' = H0) (hnd : ids.Nodup) (hH : SelHS (fun k => ids.getD k 0) ids.length H ids Hc) (hl : V.ltL ids.length args' = true)
  (ha : SubL (first ++ args.toList.map E ++ cap) (V.renL (fun k => ids.getD k 0) args')) (hv : v.ren (back ids H.length) = v2) (hr : H0.map (AObj.ren (back ids H.length)) = H1) (h3 : setL H ids H1 = H3) :
  OpS P ⟨dst, .call ⟨.value x, args, ats⟩, ty, pos, aft, gd⟩ E H v2 H3 :=
 .call hE hx ((hs.at hnd hH hl).sub ha) fun o H'' ⟨o0, H0', ⟨q1, q2⟩, q3, q4⟩ => by subst q1 q2 q3 q4 hv hr h3; exact ⟨rfl, rfl⟩

theorem mapc {f : AObj → AObj} {a b : AObj} {l l' : List AObj} (h : f a = b) (t : l.map f = l') : (a :: l).map f = b :: l' := by simp [h, t]

end
section
variable {v v' : V} {g : Gh} {args vs' : List V} {p : Place} {s' : St}

/-- The cells of what was an object. -/
def FzI (g : Gh) (p : Place) : AObj → Prop
 | .cells v => ∃ c, RC g v c ∧ g.holds ⟨p.block, 0, none⟩ c
 | .buf e vs => (p.vac = true ∧ vs = []) ∨ (p.vac = false ∧ ∃ c, RCu g e vs c ∧ g.holds ⟨p.block, 0, none⟩ c)
 | _ => False

def AObj.fz : AObj → Bool
 | .cells _ => true
 | .buf _ _ => true
 | _ => false

structure FzR (o : Nat) (ob : AObj) (v v' : V) : Prop where
 agg : v.isAgg = v'.isAgg
 fl : flen v = flen v'
 rc : ∀ (g : Gh) (p : Place), g.ρ[o]? = some p → FzI g p ob → ∀ cs, RC g v cs → RC g v' cs

theorem FzR.of {ob : AObj} (h : RSub v v') : FzR o ob v v' := ⟨h.agg, h.fl, fun g p _ _ cs k => h.rc g cs k⟩
theorem FzR.refl {o : Nat} {ob : AObj} (v : V) : FzR o ob v v := .of (.refl v)
theorem holds_mid {b : Nat} {pre c post : List Value} {off : Nat} (h : g.holds ⟨b, 0, none⟩ (pre ++ c ++ post)) (ho : off = pre.length) : g.holds ⟨b, off, none⟩ c := by
 intro i x hx
 have := h (pre.length + i) x (by rw [List.append_assoc, List.getElem?_append_right (by omega), show pre.length + i - pre.length = i from by omega, List.getElem?_append_left (List.getElem?_eq_some_iff.1 hx).1]; exact hx)
 subst ho
 simpa using this
theorem FzR.ptr {o off off' : Nat} {path : List Nat} {v u : V} (h : AtP v path off' u) (ho : off = off') : FzR o (.cells v) (.ptr o path off) (.cptr u) := by
 refine ⟨rfl, rfl, fun g p hp hI cs hc => ?_⟩
 simp only [RC] at hc ⊢
 obtain ⟨q, hq, rfl⟩ := hc
 rw [hp] at hq; cases hq
 obtain ⟨c, h1, h2⟩ := hI
 obtain ⟨pre, d, post, e1, e2, e3, _⟩ := h1.at (acc := 0) h.spec.1
 refine ⟨_, d, rfl, rfl, e3, holds_mid (e1 ▸ h2) ?_⟩
 have := h.spec.2 0
 omega
theorem FzR.ptrB {off e : Nat} {vs : List V} {u : V} (h : AtP (.arr e vs) (j :: path) off' u) (ho : off = off') : FzR o (.buf e vs) (.ptr o (j :: path) off) (.cptr u) := by
 refine ⟨rfl, rfl, fun g p hp hI cs hc => ?_⟩
 simp only [RC] at hc ⊢
 obtain ⟨q, hq, rfl⟩ := hc
 rw [hp] at hq; cases hq
 rcases hI with ⟨_, rfl⟩ | ⟨_, c, h1, h2⟩
 ·cases h with
  | ar hk _ => simp at hk
 have h1' : RC g (.arr e vs) c := by simp only [RC]; exact h1
 obtain ⟨pre, d, post, e1, e2, e3, _⟩ := h1'.at (acc := 0) h.spec.1
 refine ⟨_, d, rfl, rfl, e3, holds_mid (e1 ▸ h2) ?_⟩
 have := h.spec.2 0
 omega
theorem FzR.slo {o e len q : Nat} {vs : List V} (hl : len = vs.length) : FzR o (.buf e vs) (.slo e o [] 0 0 len q) (.sl e .no vs) := by
 subst hl
 refine ⟨rfl, rfl, fun g p hp hI cs hc => ?_⟩
 simp only [RC] at hc ⊢
 obtain ⟨p', hp', a, cc, rfl, hle, hcase⟩ := hc
 rw [hp] at hp'; cases hp'
 rcases hI with ⟨hv, rfl⟩ | ⟨hv, c, h1, h2⟩
 ·refine ⟨a, cc, rfl, hle, trivial, [], by simp [RCu], ?_, fun ad _ => ⟨fun h => absurd rfl h, fun i x hx => by simp at hx⟩⟩
  intro ha
  rcases hcase with ⟨_, h⟩ | ⟨h, _⟩
  ·exact h
  ·rw [ha] at h; cases h
 ·obtain ⟨rfl, _⟩ := hcase.resolve_left (fun hc => by rw [hv] at hc; cases hc.1)
  refine ⟨_, cc, rfl, hle, trivial, c, h1, (fun h => by cases h), fun ad h => ?_⟩
  cases h
  exact ⟨fun _ => rfl, by simpa using h2⟩
inductive FzL (o : Nat) (ob : AObj) : List V → List V → Prop where
 | nil : FzL o ob [] []
 | cons {v v' : V} {vs vs' : List V} (h : FzR o ob v v') (t : FzL o ob vs vs') : FzL o ob (v :: vs) (v' :: vs')
theorem FzL.refl {o : Nat} {ob : AObj} : ∀ (l : List V), FzL o ob l l
 | [] => .nil
 | v :: l => .cons (.refl v) (FzL.refl l)
theorem FzL.fl {o : Nat} {ob : AObj} {vs vs' : List V} (h : FzL o ob vs vs') : flenL vs = flenL vs' ∧ vs.length = vs'.length := by
 induction h with
 | nil => exact ⟨rfl, rfl⟩
 | cons h _ ih => exact ⟨by simp [flenL, h.fl, ih.1], by simp [ih.2]⟩
theorem FzL.rcs {ob : AObj} {vs : List V} (h : FzL o ob vs vs') (hp : g.ρ[o]? = some p) (hI : FzI g p ob) : ∀ {cs : List Value}, RCs g vs cs → RCs g vs' cs := by
 induction h with
 | nil => exact fun h => h
 | cons h _ ih =>
  intro cs hc
  simp only [RCs] at hc ⊢
  obtain ⟨a, b, h1, h2, h3⟩ := hc
  exact ⟨a, b, h1, h.rc g p hp hI _ h2, ih h3⟩
theorem FzL.rcu {e : Nat} {ob : AObj} {vs : List V} (h : FzL o ob vs vs') (hp : g.ρ[o]? = some p) (hI : FzI g p ob) : ∀ {cs : List Value}, RCu g e vs cs → RCu g e vs' cs := by
 induction h with
 | nil => exact fun h => h
 | cons h _ ih =>
  intro cs hc
  simp only [RCu] at hc ⊢
  obtain ⟨a, b, h1, h0, h2, h3⟩ := hc
  exact ⟨a, b, h1, h0, h.rc g p hp hI _ h2, ih h3⟩
theorem FzL.rvl {ob : AObj} {vs : List V} (h : FzL o ob vs vs') (hp : g.ρ[o]? = some p) (hI : FzI g p ob) : ∀ {xs : List Value}, RVl g vs xs → RVl g vs' xs := by
 induction h with
 | nil => exact fun h => h
 | cons h _ ih =>
  intro cs hc
  simp only [RVl] at hc ⊢
  obtain ⟨x, r, h1, h0, h2, h3⟩ := hc
  exact ⟨x, r, h1, h.agg ▸ h0, h.rc g p hp hI _ h2, ih h3⟩
theorem FzR.st {o : Nat} {ob : AObj} {vs vs' : List V} (h : FzL o ob vs vs') : FzR o ob (.st vs) (.st vs') := ⟨rfl, by simp [flen, h.fl.1], fun g p hp hI cs hc => by simp only [RC] at hc ⊢; exact h.rcs hp hI hc⟩
theorem FzR.arr {o e : Nat} {ob : AObj} {vs vs' : List V} (h : FzL o ob vs vs') : FzR o ob (.arr e vs) (.arr e vs') := ⟨rfl, by simp [flen, h.fl.2], fun g p hp hI cs hc => by simp only [RC] at hc ⊢; exact h.rcu hp hI hc⟩
theorem FzR.fn {o : Nat} {ob : AObj} {f : FuncId} {a b a' b' : List V} (h : FzL o ob a a') (k : FzL o ob b b') : FzR o ob (.fn f a b) (.fn f a' b') := ⟨rfl, rfl, fun g p hp hI cs hc => by
 simp only [RC] at hc ⊢
 obtain ⟨x, y, h1, h2, h3⟩ := hc
 exact ⟨x, y, h1, h.rvl hp hI h2, k.rvl hp hI h3⟩⟩
theorem FzR.sl {o e : Nat} {ob : AObj} {tk : Tk} {vs vs' : List V} (h : FzL o ob vs vs') : FzR o ob (.sl e tk vs) (.sl e tk vs') := ⟨rfl, rfl, fun g p hp hI cs hc => by
 simp only [RC] at hc ⊢
 obtain ⟨a, cap, h1, h3, h4, c, h5, h6, h7⟩ := hc
 have hl := h.fl.2
 refine ⟨a, cap, by rw [← hl]; exact h1, by rw [← hl]; exact h3, by rw [← hl]; exact h4, c, h.rcu hp hI h5, h6, fun ad e => ⟨fun hn => (h7 ad e).1 fun hv => hn (by subst hv; cases h; rfl), (h7 ad e).2⟩⟩⟩

/-- The environment, once an object no longer turns. -/
inductive EnvF (o : Nat) (ob : AObj) (env : List (Nat × V)) : List (Nat × V) → Prop where
 | nil : EnvF o ob env []
 | same {t : Nat} {v : V} {r : List (Nat × V)} (h : look env t = v) (k : EnvF o ob env r) : EnvF o ob env ((t, v) :: r)
 | cons {t : Nat} {v v' : V} {r : List (Nat × V)} (h : look env t = v) (hk : okV v = true) (hs : FzR o ob v v') (k : EnvF o ob env r) : EnvF o ob env ((t, v') :: r)

theorem EnvF.look {o : Nat} {ob : AObj} {env env' : List (Nat × V)} (h : EnvF o ob env env') {g : Gh} {p : Place} (hp : g.ρ[o]? = some p) (hI : FzI g p ob) (t : Nat) {x : Value} : RV g (Av.look env t) x → RV g (Av.look env' t) x := by
 induction h with
 | nil => exact fun _ => trivial
 | same h _ ih =>
  rw [look_cons]
  split
  ·rename_i e; subst e; rw [h]; exact id
  ·exact ih
 | cons h hk hs _ ih =>
  rw [look_cons]
  split
  ·rename_i e; subst e; rw [h]
   intro hx
   have := hx.ok hk
   exact .of (hs.agg.symm.trans this.1) (hs.rc g p hp hI _ this.2)
  ·exact ih

def AFz (o : Nat) (ob : AObj) : AObj → AObj → Prop
 | .cells v, .cells v' => FzR o ob v v'
 | x, y => x = y
theorem AFz.refl {o : Nat} {ob : AObj} (x : AObj) : AFz o ob x x := by cases x <;> first | exact FzR.refl _ | rfl
inductive ObF (o : Nat) (ob : AObj) : List AObj → List AObj → Prop where
 | nil : ObF o ob [] []
 | cons {x y : AObj} {l l' : List AObj} (h : AFz o ob x y) (t : ObF o ob l l') : ObF o ob (x :: l) (y :: l')
theorem ObF.refl {o : Nat} {ob : AObj} : ∀ (l : List AObj), ObF o ob l l
 | [] => .nil
 | x :: l => .cons (.refl x) (ObF.refl l)
theorem ObF.get {ob : AObj} {l l' : List AObj} (h : ObF o ob l l') : l.length = l'.length ∧ ∀ (k : Nat) y, l'[k]? = some y → ∃ x, l[k]? = some x ∧ AFz o ob x y := by
 induction h with
 | nil => exact ⟨rfl, fun k y h => by simp at h⟩
 | cons h _ ih =>
  refine ⟨by simp [ih.1], fun k y hk => ?_⟩
  cases k with
  | zero => simp at hk; subst hk; exact ⟨_, rfl, h⟩
  | succ k => simpa using ih.2 k y (by simpa using hk)
theorem AFz.rel {ob x y : AObj} (h : AFz o ob x y) {q : Place} (hp : g.ρ[o]? = some p) (hI : FzI g p ob) (k : ORel g w q x) : ORel g w q y := by
 cases x with
 | cells v =>
  cases y with
  | cells v' =>
   obtain ⟨cs, ty, h1, ⟨j, h2, h3⟩, h4⟩ := k
   have hf : flen v = flen v' := FzR.fl h
   exact ⟨cs, ty, h1, ⟨j, hf ▸ h2, hf ▸ FzR.rc h g p hp hI _ h3⟩, h4⟩
  | _ => cases h
 | _ => cases h; exact k
theorem AFz.own {o : Nat} {ob x y : AObj} (h : AFz o ob x y) (q : Place) : q.own y = q.own x := by
 cases x with
 | cells v => cases y with
  | cells v' => rfl
  | _ => cases h
 | _ => cases h; rfl

theorem HR.freeze {H : List AObj} (hr : HR g H w) {ob : AObj} (hp : g.ρ[o]? = some p) (ho : H[o]? = some ob) (hf : ob.fz = true) :
  ∃ g' : Gh, g.le g' ∧ g'.ρ = g.ρ ∧ FzI g' p ob ∧ HR g' (H.set o .dead) w ∧ (∀ b i, b < w.heap.size → ¬ Lv g H b → g'.I b i = g.I b i) := by
 have main : ∀ (c junk : List Value) (cs : Array Value) (cty : TypeId), w.heap[p.block]? = some (.cells cs cty (0, 0)) → cs.toList = c ++ junk → (∀ i, g.I p.block i = none) → p.own ob = true →
   g.le (g.put p.block 0 c) ∧ HR (g.put p.block 0 c) (H.set o .dead) w ∧ (∀ b i, b < w.heap.size → ¬ Lv g H b → (g.put p.block 0 c).I b i = g.I b i) := by
  intro c junk cs cty h1 h2 h3 hl
  have le : g.le (g.put p.block 0 c) := Gh.put_le fun i _ => h3 i
  refine ⟨le, ⟨?_, by simp [Gh.put, hr.len], ?_, ?_, fun i n hn => le.imm _ _ _ (hr.gl i n hn)⟩, ?_⟩
  ·intro b i x hx
   simp only [Gh.put] at hx
   split at hx
   ·rename_i hc
    obtain ⟨rfl, _, hi⟩ := hc
    simp only [World.cell?, h1]
    have : cs.toList[i]? = some x := by rw [h2, List.getElem?_append_left (by omega)]; simpa using hx
    simpa using this
   ·exact hr.agree b i x hx
  ·intro a q ob1 k1 k2
   by_cases ea : a = o
   ·subst ea
    rw [List.getElem?_set_self (List.getElem?_eq_some_iff.1 ho).1] at k2
    cases k2; trivial
   ·rw [List.getElem?_set_ne (Ne.symm ea)] at k2
    cases hlive : q.own ob1 with
    | false => exact (hr.obj a q ob1 k1 k2).free hlive
    | true =>
     have hb : q.block ≠ p.block := fun eb => ea (hr.inj a o q p ob1 ob k1 hp k2 ho hlive hl eb)
     refine (hr.obj a q ob1 k1 k2).keep le rfl (fun i => ?_)
     simp only [Gh.put]
     rw [if_neg (fun hc => hb hc.1)]
  ·exact (hr.kill o).inj
  ·intro b i _ hn
   simp only [Gh.put]
   rw [if_neg]
   rintro ⟨rfl, _⟩
   exact hn ⟨o, p, ob, hp, ho, hl, rfl⟩
 cases ob with
 | cells v =>
  obtain ⟨cs, ty, h1, ⟨junk, h2, h3⟩, h4⟩ := hr.obj o p _ hp ho
  obtain ⟨q1, q2, q3⟩ := main _ junk cs ty h1 h2 h4 rfl
  exact ⟨_, q1, rfl, ⟨_, h3.mono q1, Gh.put_holds⟩, q2, q3⟩
 | buf e vs =>
  rcases hr.obj o p _ hp ho with ⟨hv, rfl⟩ | ⟨hv, cs, ty, h1, ⟨c, junk, h2, h3⟩, _, h4⟩
  ·exact ⟨g, .refl g, rfl, .inl ⟨hv, rfl⟩, hr.kill o, fun _ _ _ _ => rfl⟩
  ·obtain ⟨q1, q2, q3⟩ := main c junk cs ty h1 h2 h4 (by simp [Place.own, hv])
   exact ⟨_, q1, rfl, .inr ⟨hv, c, h3.mono q1, Gh.put_holds⟩, q2, q3⟩
 | tail => cases hf
 | map es => cases hf
 | dead => cases hf

theorem Wk.freeze {n m : Nat} {env env' : List (Nat × V)} {H H' : List AObj} (o : Nat) {ob : AObj} (ho : H[o]? = some ob) (hf : ob.fz = true) (he : EnvF o ob env env') (hH : ObF o ob (H.set o .dead) H') : Wk n m ⟨env, H⟩ ⟨env', H'⟩ := by
 intro B g a w b1 b2 h1 h2 h3
 have hol : o < g.ρ.length := by rw [h2.len]; exact (List.getElem?_eq_some_iff.1 ho).1
 have hp := List.getElem?_eq_getElem hol
 obtain ⟨g', le, hρ, hI, hr, himm⟩ := h2.freeze hp ho hf
 have hp' : g'.ρ[o]? = some g.ρ[o] := by rw [hρ]; exact hp
 obtain ⟨hlen, hget⟩ := hH.get
 refine ⟨g', ⟨fun t => he.look hp' hI t ((h1.env t).mono le), h1.size, h1.defers⟩, ⟨hr.agree, by rw [hr.len, hlen], ?_, ?_, hr.gl⟩, ?_⟩
 ·intro k q y hq hy
  obtain ⟨x, hx, hxy⟩ := hget k y hy
  exact hxy.rel hp' hI (hr.obj k q x hq hx)
 ·intro k k' q q' y y' hq hq' hy hy' l1 l2 e
  obtain ⟨x, hx, hxy⟩ := hget k y hy
  obtain ⟨x', hx', hxy'⟩ := hget k' y' hy'
  exact hr.inj k k' q q' x x' hq hq' hx hx' (by rw [← hxy.own]; exact l1) (by rw [← hxy'.own]; exact l2) e
 ·have ev : Ev g H w g' H' w := by
   refine ⟨le, rfl, rfl, rfl, Nat.le_refl _, Nat.le_refl _, fun _ _ _ => rfl, himm, ?_⟩
   rintro b ⟨k, q, y, hq, hy, l1, e⟩
   obtain ⟨x, hx, hxy⟩ := hget k y hy
   rw [hxy.own] at l1
   by_cases ek : k = o
   ·subst ek
    rw [List.getElem?_set_self (by rw [← h2.len]; exact hol)] at hx
    cases hx
    simp [Place.own] at l1
   ·rw [List.getElem?_set_ne (Ne.symm ek)] at hx
    exact .inl ⟨k, q, x, by rw [← hρ]; exact hq, hx, l1, e⟩
  exact h3.trans ev

/-! The end of a function that is handed objects, or hands some out. -/

def endF (P : Program) (fn : Func) (n m : Nat) (R : Out → List AObj → Prop) : AEx → St → Prop
 | .normal, s | .ret, s => ∃ s' v, Wk n m s s' ∧ ResOK P fn n s' v ∧ R (.ret v) s'.H
 | .panic v, s => R (.pan v) s.H
 | _, _ => False

theorem CallSpec.of_bodyF {f : FuncId} {fn : Func} {c : Code} {H : List AObj} {R : Out → List AObj → Prop} (n m : Nat)
  (hf : P.funcs[f]? = some fn) (hb : fn.body = some c) (hnn : fn.ntmps = n) (hmm : H.length = m) (hn : args.length ≤ n)
  (h : AWp P n m c (endF P fn n m R) ⟨argEnv 0 args, H⟩) : CallSpec P f args H R := by
 subst hnn hmm
 intro g w xs hx hr
 have hxl := hx.len
 refine calls_of_wp hf hb ?_
 have ha : RAct g fn.ntmps (argEnv 0 args) { tmps := xs.toArray ++ Array.replicate (fn.ntmps - xs.toArray.size) Go.undef, defers := [] } := by
  refine ⟨fun t => ?_, by simp; omega, rfl⟩
  have := argEnv_look args xs 0 g hx t
  simp only [Nat.not_lt_zero, if_false, Nat.sub_zero] at this
  have e : (xs.toArray ++ Array.replicate (fn.ntmps - xs.toArray.size) Go.undef).getD t Go.undef = xs.getD t Go.undef := by
   rw [Array.getD_eq_getD_getElem?, List.getD_eq_getElem?_getD]
   by_cases hl : t < xs.length
   ·rw [Array.getElem?_append_left (by simpa using hl)]; simp
   ·rw [Array.getElem?_append_right (by simpa using Nat.le_of_not_lt hl), List.getElem?_eq_none (by omega), Array.getElem?_replicate]
    split <;> rfl
  show RV g _ ((xs.toArray ++ Array.replicate (fn.ntmps - xs.toArray.size) Go.undef).getD t Go.undef)
  rw [e]; exact this
 refine wp_mono (h ⟨g, H, w⟩ g _ w rfl (by simpa using hr.len) ha hr (.refl _ _ _)) ?_
 rintro e a' w' ⟨g', s', ae, hq, hx', r1, r2, r3⟩
 have done : (∃ s'' v, Wk fn.ntmps H.length s' s'' ∧ ResOK P fn fn.ntmps s'' v ∧ R (.ret v) s''.H) →
   a'.defers = [] ∧ ∃ x, (results fn a'.tmps).run P w' = .ok x w' ∧ ∃ g'' H' o, R o H' ∧ OutRel g'' (.returned x) o ∧ HR g'' H' w' ∧ Ev g H w g'' H' w' := by
  rintro ⟨s'', v, hw, hres, hR⟩
  obtain ⟨g2, q1, q2, q3⟩ := hw ⟨g, H, w⟩ g' a' w' rfl (by simpa using hr.len) r1 r2 r3
  obtain ⟨x, hx, hv⟩ := hres g2 a' w' q1 q2
  exact ⟨r1.defers, x, hx, g2, s''.H, _, hR, hv, q2, q3⟩
 cases e <;> cases ae <;> simp only [ExRel] at hx' <;> try exact hx'.elim
 ·exact done hq
 ·exact hq.elim
 ·exact hq.elim
 ·exact done hq
 ·exact ⟨r1.defers, _, _, _, hq, hx', r2, r3⟩

theorem PureC.ofF {f : FuncId} {r : V} (h : CallSpec P f args [] fun o H' => o = .ret r ∧ H' = []) (ha : V.ltL 0 args = true) (hr : r.lt 0 = true) : PureC P f args r :=
 .of (h.mono fun _ _ x => x.1) ha hr

theorem endF1 {fn : Func} {n : Nat} {s : St} {r : ResultVar} {H' : List AObj} (hr : fn.results = #[r]) (hw : Wk n m s s') (h : ResV P s' r v) (he : v = v') (hH : s'.H = H') : endF P fn n m (fun o H'' => o = .ret v' ∧ H'' = H') .ret s :=
 ⟨s', v, hw, .one hr h, by rw [he], hH⟩
theorem endFN {fn : Func} {n : Nat} {s : St} {rs : List ResultVar} {vs : List V} {H' : List AObj} (hr : fn.results.toList = rs) (hw : Wk n m s s') (h : ResL P s' rs vs) (h1 : (vs.length == 1) = false) (he : V.tup vs = v') (hH : s'.H = H') :
  endF P fn n m (fun o H'' => o = .ret v' ∧ H'' = H') .ret s :=
 ⟨s', .tup vs, hw, .many hr h (by simpa using h1), by rw [he], hH⟩
end
section
variable {r : List (Nat × V)} {v v' v2 : V} {vs' : List V} {s' : St} {H' : List AObj}

theorem SelE.leaf {f : Nat → Nat} {m : Nat} {env : List (Nat × V)} {t : Nat} {v0 : V} (h : Av.look env t = v0) (hk : okV v0 = true) (hs : RSub v0 v) (hl : ∀ m, v.lt m = true) (k : SelE f m env r) : SelE f m env ((t, v) :: r) :=
 .cons (hl m) (by
  rw [h, V.ren_closed f (hl 0)]
  refine hs.sub ?_
  cases v0 <;> first | rfl | exact hk) k
theorem SelE.spec {f : Nat → Nat} {m : Nat} {env : List (Nat × V)} {t : Nat} {v0 v1 : V} (h : Av.look env t = v0) (hk : okV v0 = true) (hs : RSub v0 v1) (he : v.ren f = v1) (hl : v.lt m = true) (k : SelE f m env r) : SelE f m env ((t, v) :: r) :=
 .cons hl (by
  rw [h, he]
  refine hs.sub ?_
  cases v0 <;> first | rfl | exact hk) k
theorem RSub.leafr {v0 : V} (f : Nat → Nat) (hs : RSub v0 v) (hl : ∀ m, v.lt m = true) : RSub v0 (v.ren f) := by rw [V.ren_closed f (hl 0)]; exact hs
theorem RSubL.leafr {α : Type} {F : α → V} {n : Nat} {b : Bool} (h : TyOk F n b) (f : Nat → Nat) {xs ys : List α} (he : xs = ys) : RSubL (xs.map F) (V.renL f (ys.map F)) := by
 rw [V.renL_closed f (h.ltm 0 ys), he]; exact .refl _
theorem RSub.slo {e o l l' q : Nat} (h : l = l') : RSub (.slo e o [] 0 0 l q) (.slo e o [] 0 0 l' q) := by subst h; exact .refl _
theorem vsub (hk : okV v = true) (h : RSub v v') : v.sub v' := h.sub (by cases v <;> first | rfl | exact hk)
theorem lt_buf {α : Type} {F : α → V} {n : Nat} {b : Bool} (h : TyOk F n b) {m e : Nat} {xs : List α} : (AObj.buf e (xs.map F)).lt m = true := h.ltm m xs
theorem ren_buf {α : Type} {F : α → V} {n : Nat} {b : Bool} (h : TyOk F n b) (f : Nat → Nat) {e : Nat} {xs : List α} : (AObj.buf e (xs.map F)).ren f = .buf e (xs.map F) := by simp only [AObj.ren, V.renL_closed f (h.ltm 0 xs)]
theorem ren_cells {f : Nat → Nat} (h : v.ren f = v') : (AObj.cells v).ren f = .cells v' := by simp only [AObj.ren, h]
theorem ren_st {vs : List V} {f : Nat → Nat} (h : V.renL f vs = vs') : (V.st vs).ren f = .st vs' := by simp only [V.ren, h]
theorem renL_c {vs : List V} {f : Nat → Nat} (h : v.ren f = v') (t : V.renL f vs = vs') : V.renL f (v :: vs) = v' :: vs' := by simp only [V.renL, h, t]
theorem flL_nil : flenL [] = 0 := rfl
theorem flL_c {vs : List V} {a b : Nat} (h : flen v = a) (t : flenL vs = b) : flenL (v :: vs) = a + b := by simp only [flenL, h, t]
theorem fl_st {vs : List V} {a : Nat} (h : flenL vs = a) : flen (.st vs) = a := by simpa only [flen] using h
def onS {α β γ : Type} (f : α → Option γ) (g : β → Option γ) : α ⊕ β → Option γ
 | .inl a => f a
 | .inr b => g b

theorem Ok.inrq {α β γ : Type} {f : α → Option γ} {g : β → Option γ} {q : α ⊕ β} {K : γ → Prop} (h : Ok (onS f g q) K) {b : β} (e : (.inr b : α ⊕ β) = q) : Ok (g b) K := by subst e; exact h

/-- A loop, round by round with its mirror. -/
theorem AWp.loopT {P : Program} {n m : Nat} {Q : AEx → St → Prop} {s : St} {c : Code} {σ ρ : Type} {body : σ → Option (σ ⊕ ρ)} {s0 : σ} {q : ρ} (S : σ → St) (hq : loopM body N s0 = some q) (h0 : Wk n m s (S s0))
  (round : ∀ (N : Nat) (t : σ), Ok (body t) (loopK body N q) → AWp P n m c (thenQ (fun s' => ∃ t', loopM body N t' = some q ∧ Wk n m s' (S t')) Q) (S t)) : AWp P n m (.loop c) Q s := by
 refine .loopS (ι := {p : Nat × σ // loopM body p.1 p.2 = some q}) (fun p => S p.1.2) (fun p => p.1.1) ⟨(N, s0), hq⟩ h0 ?_
 rintro ⟨⟨k, t⟩, ht⟩
 obtain ⟨j, hj, hk⟩ := loopM.step ht
 refine (round j t hk).mono ?_
 intro e s' h
 cases e with
 | normal =>
  obtain ⟨t', h1, h2⟩ := h
  exact ⟨⟨(j, t'), h1⟩, hj, h2⟩
 | _ => exact h

/-- What holds at the end of a code does not hang on how the state is told. -/
def NC (n m : Nat) (Q : AEx → St → Prop) : Prop := ∀ s s', Wk n m s s' → Q .normal s' → Q .normal s
section
variable {P : Program} {n m : Nat} {Q : AEx → St → Prop} {s : St} {x : Code}
theorem nc_then {y : Code} : NC n m (thenQ (AWp P n m y Q) Q) := fun _ _ h k => AWp.wk h k
theorem nc_block (h : NC n m Q) : NC n m (blockQ id Q) := fun s s' w k => h s s' w k
theorem nc_end {fn : Func} {R : Out → List AObj → Prop} : NC n m (endF P fn n m R) := fun _ _ h ⟨s2, v, h1, h2⟩ => ⟨s2, v, h.trans h1, h2⟩

/-- Where ways meet; some of them may have gone another way. -/
theorem AWp.cutL {X R γ : Type} {mm : Option (X ⊕ R)} {k1 : X → Option γ} {k2 : R → Option γ} {K : γ → Prop} (S : X → St) (hc : NC n m Q) (h : Ok (Option.bind mm (onS k1 k2)) K)
  (h1 : ∀ q, mm = some q → Ok (onS k1 k2 q) K → AWp P n m x (thenQ (fun s' => ∃ z, (.inl z : X ⊕ R) = q ∧ Wk n m s' (S z)) Q) s) (h2 : ∀ z, Ok (k1 z) K → Q .normal (S z)) : AWp P n m x Q s := by
 obtain ⟨q, hq, h⟩ := h.bnd
 refine (h1 q hq h).mono fun e s' hq => ?_
 cases e with
 | normal =>
  obtain ⟨z, rfl, hw⟩ := hq
  exact hc _ _ hw (h2 z h)
 | _ => exact hq
theorem AWp.cutX {X γ : Type} {mm : Option X} {k1 : X → Option γ} {K : γ → Prop} (S : X → St) (hc : NC n m Q) (h : Ok (Option.bind mm k1) K)
  (h1 : ∀ q, mm = some q → AWp P n m x (thenQ (fun s' => ∃ z, z = q ∧ Wk n m s' (S z)) Q) s) (h2 : ∀ z, Ok (k1 z) K → Q .normal (S z)) : AWp P n m x Q s := by
 obtain ⟨q, hq, h⟩ := h.bnd
 refine (h1 q hq).mono fun e s' hq => ?_
 cases e with
 | normal =>
  obtain ⟨z, rfl, hw⟩ := hq
  exact hc _ _ hw (h2 z h)
 | _ => exact hq
end

theorem endF_wk {P : Program} {fn : Func} {n m : Nat} {R : Out → List AObj → Prop} {s : St} (h : Wk n m s s') (k : endF P fn n m R .ret s') : endF P fn n m R .ret s := by
 obtain ⟨s2, v, h1, h2, h3⟩ := k
 exact ⟨s2, v, h.trans h1, h2, h3⟩

/-- A literal of a struct. -/
inductive FillW (E : Operand → V) (l : List (Nat × Nat × Bool)) : List V → List (Nat × Operand) → List V → Prop where
 | nil {vs : List V} : FillW E l vs [] vs
 | cons {i off n : Nat} {b : Bool} {x : Operand} {u : V} {vs vs' r : List V} {ps : List (Nat × Operand)} (hx : E x = u) (hk : okV u = true) (hi : l[i]? = some (off, n, b)) (hn : flen u = n) (he : vs.set i u = vs') (t : FillW E l vs' ps r) : FillW E l vs ((i, x) :: ps) r

theorem flL_get : ∀ {zs : List V} {k : Nat} {z : V}, zs[k]? = some z → ∀ u : V, flen u = flen z → ∀ i, flenL ((zs.set k u).take i) = flenL (zs.take i)
 | [], _, _, h, _, _, _ => by simp at h
 | z0 :: zs, 0, z, h, u, hu, i => by
  simp at h; subst h
  cases i with
  | zero => rfl
  | succ i => simp [flenL, hu]
 | z0 :: zs, k + 1, z, h, u, hu, i => by
  cases i with
  | zero => rfl
  | succ i => simp only [List.set_cons_succ, List.take_succ_cons, flenL]; rw [flL_get (by simpa using h) u hu i]

/-- The places of a struct's fields. -/
def okLay (l : List (Nat × Nat × Bool)) (zs : List V) : Bool := decide (l.length = zs.length) && (List.range zs.length).all fun i => match l[i]?, zs[i]? with
 | some (off, n, _), some z => off == flenL (zs.take i) && n == flen z
 | _, _ => false

structure LayOk (l : List (Nat × Nat × Bool)) (zs : List V) : Prop where
 len : l.length = zs.length
 at_ : ∀ i off n b, l[i]? = some (off, n, b) → ∃ z, zs[i]? = some z ∧ off = flenL (zs.take i) ∧ n = flen z

theorem okLay_ok {l : List (Nat × Nat × Bool)} {zs : List V} (h : okLay l zs = true) : LayOk l zs := by
 simp only [okLay, Bool.and_eq_true, decide_eq_true_eq, List.all_eq_true, List.mem_range] at h
 refine ⟨h.1, fun i off n b hi => ?_⟩
 have hlt : i < zs.length := by rw [← h.1]; exact (List.getElem?_eq_some_iff.1 hi).1
 have := h.2 i hlt
 rw [hi, List.getElem?_eq_getElem hlt] at this
 simp only [Bool.and_eq_true, beq_iff_eq] at this
 exact ⟨_, List.getElem?_eq_getElem hlt, this.1, this.2⟩

theorem LayOk.set {l : List (Nat × Nat × Bool)} {zs : List V} (h : LayOk l zs) {i off n : Nat} {b : Bool} (hi : l[i]? = some (off, n, b)) {u : V} (hu : flen u = n) : LayOk l (zs.set i u) := by
 obtain ⟨z, hz, _, hn⟩ := h.at_ i off n b hi
 refine ⟨by simp [h.len], fun j off' n' b' hj => ?_⟩
 obtain ⟨z', hz', ho', hn'⟩ := h.at_ j off' n' b' hj
 have hfl := flL_get hz u (hu.trans hn) j
 by_cases e : i = j
 ·subst e
  rw [hi] at hj; cases hj
  exact ⟨u, by rw [List.getElem?_set_self (List.getElem?_eq_some_iff.1 hz).1], by rw [hfl]; exact ho', hu.symm⟩
 ·exact ⟨z', by rw [List.getElem?_set_ne e]; exact hz', by rw [hfl]; exact ho', hn'⟩

theorem FillW.spec {E : Operand → V} {l : List (Nat × Nat × Bool)} {zs vs : List V} {ps : List (Nat × Operand)} (h : FillW E l zs ps vs) (hl : LayOk l zs) :
  fillOK (placeSt l) (.st zs) (ps.map fun p => (p.1, E p.2)) ∧ setParts (.st zs) (ps.map fun p => (p.1, E p.2)) = .st vs := by
 induction h with
 | nil => exact ⟨trivial, rfl⟩
 | @cons i off n b x u zs vs' r ps hx hk hi hn he _ ih =>
  subst he
  obtain ⟨z, hz, ho, hn'⟩ := hl.at_ i off n b hi
  obtain ⟨h1, h2⟩ := ih (hl.set hi hn)
  have hset : (V.st zs).setAt [i] u = .st (zs.set i u) := by rw [V.setAt_st, V.setAt_nil]
  simp only [List.map_cons, fillOK, setParts, hx, hset]
  refine ⟨⟨hk, ⟨off, n, z, by simp [placeSt, hi], by simp [V.at, hz], ?_, hn'.symm, hn⟩, h1⟩, h2⟩
  have hg : zs.getD i .undef = z := by simp [List.getD, hz]
  simp only [V.offOf, ho]
  omega

theorem OpS.vs {P : Program} {o : Oper} {E : Operand → V} {H : List AObj} (h : OpS P o E H v H') (hk : okV v = true) (hs : RSub v v2) : OpS P o E H v2 H' := by
 have hv := vsub hk hs
 intro g rc w hx hr
 have := h g rc w hx hr
 revert this
 cases (execOp rc o).run P w with
 | ok nx w' =>
  cases nx <;> intro this <;> simp only [OkRes] at this ⊢ <;> try exact this
  ·obtain ⟨g', h1, h2⟩ := this; exact ⟨g', hv _ _ h1, h2⟩
  ·obtain ⟨g', h1, h2⟩ := this; exact ⟨g', hv _ _ h1, h2⟩
  ·refine this.mono fun e w'' he => ?_
   cases e with
   | returned x => obtain ⟨g', h1, h2⟩ := he; exact ⟨g', hv _ _ h1, h2⟩
   | panicked c => exact he
   | outgrown => exact he
 | halt x w' => exact fun h => h

section
variable {P : Program} {E : Operand → V} {H : List AObj} {dst : Option Tmp} {ty : TypeId} {pos : String} {aft : Array Edge} {gd : Option (Nat × Bool)}

theorem OpS.buildStW {t : TypeId} {l : List (Nat × Nat × Bool)} {zs vs : List V} (hl : layOf P t = some l) (hz : ZeroV P t (.st zs)) (ho : okLay l zs = true) (hp : FillW E l zs parts.toList vs) :
  OpS P ⟨dst, .build t parts, ty, pos, aft, gd⟩ E H (.st vs) H := .buildSt hl hz (hp.spec (okLay_ok ho)).1 (hp.spec (okLay_ok ho)).2 rfl
end
end
section
variable {v v' vx vy : V} {us vs' ys : List V} {H2 : List AObj} {g : Gh}

abbrev wr (k : IntKind) (n : Int) : Int := k.wrap n
/-- A piece of a list. -/
def ssl {α : Type} (xs : List α) (l h : Int) : Option (List α) := if 0 ≤ l ∧ l ≤ h ∧ h ≤ (xs.length : Int) then some ((xs.take h.toNat).drop l.toNat) else none
/-- A string's byte. -/
def bix (s : ByteArray) (i : Int) : Option Int := if h : 0 ≤ i ∧ i < (s.size : Int) then some ((s[i.toNat]'(by omega)).toNat : Int) else none
theorem ssl_get {α : Type} {xs ys : List α} {l h : Int} (e : ssl xs l h = some ys) : 0 ≤ l ∧ l ≤ h ∧ h ≤ (xs.length : Int) ∧ ys = (xs.take h.toNat).drop l.toNat := by
 unfold ssl at e
 split at e
 ·rename_i hc; cases e; exact ⟨hc.1, hc.2.1, hc.2.2, rfl⟩
 ·cases e

/-! Told by other numbers. -/
theorem ren_sl {α : Type} {F : α → V} {n : Nat} {b : Bool} (h : TyOk F n b) (f : Nat → Nat) {e : Nat} {tk : Tk} {xs : List α} : (V.sl e tk (xs.map F)).ren f = .sl e (tk.ren f) (xs.map F) := by simp only [V.ren, V.renL_closed f (h.ltm 0 xs)]
theorem ren_cptr {f : Nat → Nat} (h : v.ren f = v') : (V.cptr v).ren f = .cptr v' := by simp only [V.ren, h]
theorem ren_tup {vs : List V} {f : Nat → Nat} (h : V.renL f vs = vs') : (V.tup vs).ren f = .tup vs' := by simp only [V.ren, h]

/-! What is equal. -/

structure EqOk {α : Type} [DecidableEq α] (f : α → V) : Prop where
 is : ∀ x y, eqV (f x) (f y) = decide (x = y)
structure ShOk {α : Type} (f : α → V) (s : Sh) : Prop where
 is : ∀ x, hasSh s (f x) = true

theorem eqk_int (k : IntKind) : EqOk (V.int k) := ⟨fun x y => by simp [eqV]⟩
theorem bytes_beq (x y : ByteArray) : (x == y) = decide (x = y) := by
 cases x with | mk a => cases y with | mk b =>
 show (a == b) = _
 by_cases h : a = b
 ·simp [h]
 ·have h2 : (a == b) = false := by simpa using h
  rw [h2]; symm; simp [h]
theorem eqk_str : EqOk V.str := ⟨fun x y => bytes_beq x y⟩
theorem shk_int (k : IntKind) : ShOk (V.int k) (.int k) := ⟨fun x => by simp [hasSh]⟩
theorem shk_str : ShOk V.str .str := ⟨fun x => rfl⟩
theorem eqVL_map {α : Type} [DecidableEq α] {f : α → V} (h : EqOk f) : ∀ xs ys : List α, eqVL (xs.map f) (ys.map f) = decide (xs = ys)
 | [], [] => by simp [eqVL]
 | [], _ :: _ => by simp [eqVL]
 | _ :: _, [] => by simp [eqVL]
 | x :: xs, y :: ys => by simp only [List.map_cons, eqVL, h.is, eqVL_map h xs ys, List.cons.injEq, Bool.decide_and]
theorem eqk_arr {α : Type} [DecidableEq α] {f : α → V} {e n : Nat} (h : EqOk f) : EqOk (fun x : Vector α n => V.arr e (x.toList.map f)) := ⟨fun x y => by
 simp only [eqV, eqVL_map h]
 by_cases hx : x = y
 ·simp [hx]
 ·have : x.toList ≠ y.toList := fun h => hx (by apply Vector.toList_inj.1 h)
  simp [hx, this]⟩
theorem hasShA_map {α : Type} {f : α → V} {s : Sh} (h : ShOk f s) : ∀ xs : List α, hasShA s (xs.map f) = true
 | [] => rfl
 | x :: xs => by simp only [List.map_cons, hasShA, h.is, hasShA_map h xs, Bool.and_self]
theorem hasShF_nil {acc : Nat} : hasShF acc [] [] = true := rfl
theorem hasShF_c {acc off n : Nat} {s : Sh} {fs : List (Nat × Sh)} {vs : List V} (ho : off = acc) (h : hasSh s v = true) (hn : flen v = n) (t : hasShF (acc + n) fs vs = true) : hasShF acc ((off, s) :: fs) (v :: vs) = true := by
 subst ho hn; simp [hasShF, h, t]
theorem hasSh_st {n : Nat} {fs : List (Nat × Sh)} {vs : List V} (h1 : flenL vs = n) (h2 : hasShF 0 fs vs = true) : hasSh (.st fs n) (.st vs) = true := by simp [hasSh, h1, h2]
theorem eqv_nil : eqVL [] [] = true := rfl
theorem eqv_c {x y : V} {xs : List V} {a b : Bool} (h : eqV x y = a) (t : eqVL xs ys = b) : eqVL (x :: xs) (y :: ys) = (a && b) := by simp [eqVL, h, t]
theorem eqv_st {xs : List V} {a b : Bool} (h : eqVL xs ys = a) (e : a = b) : eqV (.st xs) (.st ys) = b := by simp [eqV, h, e]
theorem shk_arr {α : Type} {f : α → V} {s : Sh} {e n : Nat} (h : ShOk f s) : ShOk (fun x : Vector α n => V.arr e (x.toList.map f)) (.arr n e s) := ⟨fun x => by simp [hasSh, hasShA_map h]⟩

section
variable {P : Program} {E : Operand → V} {H : List AObj} {dst : Option Tmp} {ty : TypeId} {pos : String} {aft : Array Edge} {gd : Option (Nat × Bool)}

theorem OpS.eqlT {α : Type} [DecidableEq α] {f : α → V} {t : TypeId} {x : Operand} {s : Sh} {a b : α} (ht : EqT P t s) (he : EqOk f) (hs : ShOk f s) (hx : E x = f a) (hy : E y = f b) (ax : (f a).isAgg = true) (ay : (f b).isAgg = true) :
  OpS P ⟨dst, .binOp .eql t x y t', ty, pos, aft, gd⟩ E H (.bool (decide (a = b))) H := by
 rw [← he.is]; exact .eqlV ht hx hy (hs.is a) (hs.is b) ax ay
theorem OpS.neqT {α : Type} [DecidableEq α] {f : α → V} {t : TypeId} {x : Operand} {s : Sh} {a b : α} (ht : EqT P t s) (he : EqOk f) (hs : ShOk f s) (hx : E x = f a) (hy : E y = f b) (ax : (f a).isAgg = true) (ay : (f b).isAgg = true) :
  OpS P ⟨dst, .binOp .neq t x y t', ty, pos, aft, gd⟩ E H (.bool (!decide (a = b))) H := by
 rw [← he.is]; exact .neqV ht hx hy (hs.is a) (hs.is b) ax ay

theorem OpS.lenT {α : Type} {f : α → V} {xs : List α} {t et : TypeId} {x : Operand} {e e' by_ : Nat} {b : Bool} (hl : sliOf P t = some (et, e, b, by_)) (hx : E x = vx) (hrd : vx.sub (.sl e' .no (xs.map f))) :
  OpS P ⟨dst, .call ⟨.builtin .len, #[x], #[t]⟩, ty, pos, aft, gd⟩ E H (.int .i64 (xs.length : Int)) H := by
 have := OpS.len (P := P) (E := E) (H := H) (dst := dst) (ty := ty) (pos := pos) (aft := aft) (gd := gd) hl hx hrd
 simpa using this

/-- The values of operands, one by one. -/
inductive ValsW (E : Operand → V) (e : Nat) : List (Nat × Operand) → Nat → List V → List V → Prop where
 | nil {k : Nat} : ValsW E e [] k [] []
 | cons {k : Nat} {x : Operand} {u0 u : V} {ps : List (Nat × Operand)} {us0 us : List V} (hx : E x = u0) (hk : okV u0 = true) (hs : RSub u0 u) (hn : flen u = e) (t : ValsW E e ps (k + 1) us0 us) : ValsW E e ((k, x) :: ps) k (u0 :: us0) (u :: us)
theorem ValsW.spec {e : Nat} {ps : List (Nat × Operand)} {k : Nat} {us0 : List V} (h : ValsW E e ps k us0 us) : ValsL E e ps k us0 ∧ RSubL us0 us := by
 induction h with
 | nil => exact ⟨.nil, .nil⟩
 | cons hx hk hs hn _ ih => exact ⟨.cons hx hk (hs.fl.trans hn) ih.1, .cons hs ih.2⟩
theorem OpS.buildSliceW {t et : TypeId} {len : Nat} {e by_ : Nat} {b : Bool} {z : V} {vs0 vs : List V} (hl : sliOf P t = some (et, e, b, by_)) (hz : ZeroV P et z) (hze : flen z = e) (hlen : vs.length = len) (hsm : len * e ≤ 2 ^ 24)
  (hp : ValsW E e parts.toList 0 vs0 vs) : OpS P ⟨dst, .buildSlice t len parts, ty, pos, aft, gd⟩ E H (.sl e .exact vs) H :=
 OpS.vs (.buildSliceL hl hz hze (hp.spec.2.len.trans hlen) hsm hp.spec.1) rfl (.sl hp.spec.2)

theorem OpS.appOwnT {α : Type} {f : α → V} {st et : TypeId} {x : Operand} {e by_ : Nat} {z : V} {xs ys zs : List α} {len : Nat} (hst : sliOf P st = some (et, e, eag, by_))
  (hxt : NoI P xt) (hz : ZeroV P et z) (hze : flen z = e) (hby : 0 < by_) (hx : E x = .slo e o [] 0 0 len 1) (ho : H[o]? = some (.buf e (xs.map f))) (hlen : len = xs.length) (hy : E y = vy) (hrd : Rd vy H e (ys.map f))
  (hr : app by_ xs ys = some zs) (hH : H.set o .dead ++ [.buf e (zs.map f)] = H2) :
  OpS P ⟨dst, .call ⟨.builtin .append, #[x, y], #[st, xt]⟩, ty, pos, aft, gd⟩ E H (.slo e H.length [] 0 0 zs.length 1) H2 := by
 obtain ⟨h1, rfl⟩ := app_get hr
 subst hH
 have := OpS.appOwn (P := P) (E := E) (H := H) (dst := dst) (ty := ty) (pos := pos) (aft := aft) (gd := gd) hst hxt hz hze hby hx ho (by simpa using hlen) hy hrd (by simpa using h1) rfl
 simpa using this
theorem OpS.appNewT {α : Type} {f : α → V} {st et : TypeId} {x : Operand} {e by_ : Nat} {z : V} {ys zs : List α} (hst : sliOf P st = some (et, e, eag, by_))
  (hxt : NoI P xt) (hz : ZeroV P et z) (hze : flen z = e) (hby : 0 < by_) (hx : E x = vx) (hxs : vx.sub (.sl e .exact [])) (hy : E y = vy) (hrd : Rd vy H e (ys.map f))
  (hr : app by_ [] ys = some zs) (hH : H ++ [.buf e (zs.map f)] = H2) :
  OpS P ⟨dst, .call ⟨.builtin .append, #[x, y], #[st, xt]⟩, ty, pos, aft, gd⟩ E H (.slo e H.length [] 0 0 zs.length 1) H2 := by
 obtain ⟨h1, rfl⟩ := app_get hr
 subst hH
 have := OpS.appNew (P := P) (E := E) (H := H) (dst := dst) (ty := ty) (pos := pos) (aft := aft) (gd := gd) hst hxt hz hze hby hx hxs hy hrd (by simpa using h1) rfl
 simpa using this


/-! Pieces. -/
theorem slice_core {P : Program} {t et : TypeId} {e by_ : Nat} {b : Bool} {a : Option Addr} {xs : List V} {l h : Nat} {c : List Value} (hl : sliOf P t = some (et, e, b, by_))
  (hc : RCu g e xs c) (hn : a = none → cap = 0) (ha : ∀ ad, a = some ad → (xs ≠ [] → ad.spot = none) ∧ g.holds ad c) (h1 : l ≤ h) (h2 : h ≤ xs.length) (h3 : h ≤ m) (h4 : m ≤ cap) (h5 : xs.length ≤ cap) {tk : Tk} (htk : tk = .no ∨ (tk = .exact ∧ m = h)) :
  RV g (.sl e tk ((xs.take h).drop l)) (.slice (if m = l then a else a.map (·.add (l * e))) (h - l) (m - l)) := by
 refine RV.of_leaf rfl ?_
 have hlen : ((xs.take h).drop l).length = h - l := by simp; omega
 simp only [RC]
 refine ⟨_, m - l, by rw [hlen], by omega, ?_, (c.take (h * e)).drop (l * e), (hc.take h).drop l, ?_, ?_⟩
 ·rcases htk with rfl | ⟨rfl, rfl⟩
  ·trivial
  ·rw [hlen]; rfl
 ·intro hh
  split at hh
  ·omega
  ·have := hn (by simpa using hh)
   omega
 ·intro ad had
  split at had
  ·rename_i hml
   obtain ⟨k1, k2⟩ := ha ad had
   have hnil : (xs.take h).drop l = [] := List.eq_nil_of_length_eq_zero (by rw [hlen]; omega)
   refine ⟨fun hne => absurd hnil hne, ?_⟩
   have hd : (c.take (h * e)).drop (l * e) = [] := by
    apply List.drop_eq_nil_of_le
    rw [List.length_take]
    have : h * e ≤ l * e := Nat.mul_le_mul_right _ (by omega)
    omega
   rw [hd]
   intro i x hx
   simp at hx
  ·obtain ⟨ad0, hd0, rfl⟩ := Option.map_eq_some_iff.1 had
   obtain ⟨k1, k2⟩ := ha ad0 hd0
   refine ⟨fun hne => ?_, ?_⟩
   ·have hx : xs ≠ [] := fun hx => hne (by simp [hx])
    rw [add_addr' (k1 hx)]
   ·intro i x hx
    have hil := (List.getElem?_eq_some_iff.1 hx).1
    have hx0 : xs ≠ [] := by
     intro hx0
     subst hx0
     simp only [RCu] at hc
     subst hc
     simp at hil
    rw [add_addr' (k1 hx0)]
    rw [List.getElem?_drop, List.getElem?_take_of_lt (by simp at hil; omega)] at hx
    have := k2 (l * e + i) x hx
    simpa [Nat.add_assoc] using this

theorem run_bound {P : Program} {n : Int} {y : Nat} {code : BoundsCode} (h0 : 0 ≤ n) (h1 : n ≤ (y : Int)) : (Instr.sliceBound (.int k n) y code).run P w = .ok n.toNat w := by
 simp [Instr.sliceBound, asIntOf, h0, h1]

section
variable {P : Program} {E : Operand → V} {H : List AObj} {dst : Option Tmp} {ty : TypeId} {pos : String} {aft : Array Edge} {gd : Option (Nat × Bool)}
theorem slice_rule {α : Type} {f : α → V} {t et : TypeId} {x : Operand} {e by_ : Nat} {b : Bool} {tk tk' : Tk} {xs zs : List α} {l h : Int} (lo hi mx : Option Operand) (hl : sliOf P t = some (et, e, b, by_)) (hx : E x = .sl e tk (xs.map f)) (hz : ssl xs l h = some zs)
  (hlo : match lo with | none => l = 0 | some o => ∃ k, E o = .int k l) (hhi : match hi with | none => h = (xs.length : Int) | some o => ∃ k, E o = .int k h) (hmx : match mx with | none => True | some o => hi.isSome = true ∧ ∃ k, E o = .int k h) (htk : tk' = .no ∨ (tk' = .exact ∧ mx.isSome = true)) :
  OpS P ⟨dst, .slice t x lo hi mx, ty, pos, aft, gd⟩ E H (.sl e tk' (zs.map f)) H := by
 obtain ⟨h0, h1, h2, rfl⟩ := ssl_get hz
 refine .quiet fun g rc w hh hr => ?_
 obtain ⟨hut, hsz, hag, _⟩ := sliOf_get hl
 obtain ⟨a, cap, ex, hle, htk0, c, hc, hnone, hsome⟩ := (hx ▸ hh x (by simp [Op.operands])).sl_eq
 have hle' : xs.length ≤ cap := by simpa using hle
 have core := fun m h3 h4 h5 => slice_core (P := P) (l := l.toNat) (h := h.toNat) (m := m) hl hc hnone hsome (by omega) (by simp; omega) h3 h4 hle (tk := tk') h5
 have hlv : ∀ o, lo = some o → ∃ k, rc o = .int k l := by
  intro o ho
  subst ho
  obtain ⟨k, hk⟩ := hlo
  exact ⟨k, (hk ▸ hh o (by simp [Op.operands])).int_eq⟩
 have hhv : ∀ o, hi = some o → ∃ k, rc o = .int k h := by
  intro o ho
  subst ho
  obtain ⟨k, hk⟩ := hhi
  exact ⟨k, (hk ▸ hh o (by simp [Op.operands])).int_eq⟩
 have hmv : ∀ o, mx = some o → ∃ k, rc o = .int k h := by
  intro o ho
  subst ho
  obtain ⟨_, k, hk⟩ := hmx
  exact ⟨k, (hk ▸ hh o (by simp [Op.operands])).int_eq⟩
 have key : ∀ m, (Instr.sliceBounds true xs.length cap (lo.map rc) (hi.map rc) (mx.map rc)).run P w = .ok (l.toNat, h.toNat, m) w → h.toNat ≤ m → m ≤ cap → (tk' = .no ∨ (tk' = .exact ∧ m = h.toNat)) →
   ∃ v, (execOp rc ⟨dst, .slice t x lo hi mx, ty, pos, aft, gd⟩).run P w = .ok (.value v) w ∧ RV g (.sl e tk' (((xs.take h.toNat).drop l.toNat).map f)) v := by
  intro m hm h3 h4 h5
  refine ⟨_, ?_, by have := core m h3 h4 h5; rw [List.map_drop, List.map_take]; exact this⟩
  have ex' : rc x = .slice a xs.length cap := by simpa using ex
  simp [execOp, Instr.sliceAt, Instr.slice, run_underlying hut, ex', hm, run_sizeOf' hsz]
 cases mx with
 | none =>
  have htk2 : ∀ m, tk' = .no ∨ (tk' = .exact ∧ m = h.toNat) := fun m => .inl (htk.resolve_right (fun q => by simp at q))
  refine key cap ?_ (by omega) (Nat.le_refl _) (htk2 _)
  cases hi with
  | none =>
   have hh' : h.toNat = xs.length := by simp only at hhi; omega
   cases lo with
   | none => simp only at hlo; subst hlo; simp [Instr.sliceBounds, hh']
   | some o =>
    obtain ⟨k, hk⟩ := hlv o rfl
    simp [Instr.sliceBounds, hk, run_bound h0 (show l ≤ (xs.length : Int) by omega), hh']
  | some oh =>
   obtain ⟨kh, hkh⟩ := hhv oh rfl
   cases lo with
   | none => simp only at hlo; subst hlo; simp [Instr.sliceBounds, hkh, run_bound (show 0 ≤ h by omega) (show h ≤ (cap : Int) by omega)]
   | some o =>
    obtain ⟨k, hk⟩ := hlv o rfl
    simp [Instr.sliceBounds, hk, hkh, run_bound (show 0 ≤ h by omega) (show h ≤ (cap : Int) by omega), run_bound h0 (show l ≤ ((h.toNat : Nat) : Int) by omega)]
 | some om =>
  obtain ⟨km, hkm⟩ := hmv om rfl
  refine key h.toNat ?_ (Nat.le_refl _) (by omega) ?_
  ·cases hi with
   | none => simp at hmx
   | some oh =>
    obtain ⟨kh, hkh⟩ := hhv oh rfl
    cases lo with
    | none => simp only at hlo; subst hlo; simp [Instr.sliceBounds, hkh, hkm, run_bound (show 0 ≤ h by omega) (show h ≤ (cap : Int) by omega), run_bound (show 0 ≤ h by omega) (show h ≤ ((h.toNat : Nat) : Int) by omega)]
    | some o =>
     obtain ⟨k, hk⟩ := hlv o rfl
     simp [Instr.sliceBounds, hk, hkh, hkm, run_bound (show 0 ≤ h by omega) (show h ≤ (cap : Int) by omega), run_bound (show 0 ≤ h by omega) (show h ≤ ((h.toNat : Nat) : Int) by omega), run_bound h0 (show l ≤ ((h.toNat : Nat) : Int) by omega)]
  ·rcases htk with q | q
   ·exact .inl q
   ·exact .inr ⟨q.1, rfl⟩

variable {α : Type} {f : α → V} {t et : TypeId} {x lo hi : Operand} {e by_ : Nat} {b : Bool} {tk : Tk} {xs zs : List α} {l h : Int} {kl kh : IntKind}
theorem OpS.slice_snn (hl : sliOf P t = some (et, e, b, by_)) (hx : E x = .sl e tk (xs.map f)) (h1 : E lo = .int kl l) (hz : ssl xs l (xs.length : Int) = some zs) : OpS P ⟨dst, .slice t x (some lo) none none, ty, pos, aft, gd⟩ E H (.sl e .no (zs.map f)) H :=
 slice_rule _ _ _ hl hx hz ⟨_, h1⟩ rfl trivial (.inl rfl)
theorem OpS.slice_ssn (hl : sliOf P t = some (et, e, b, by_)) (hx : E x = .sl e tk (xs.map f)) (h1 : E lo = .int kl l) (h2 : E hi = .int kh h) (hz : ssl xs l h = some zs) : OpS P ⟨dst, .slice t x (some lo) (some hi) none, ty, pos, aft, gd⟩ E H (.sl e .no (zs.map f)) H :=
 slice_rule _ _ _ hl hx hz ⟨_, h1⟩ ⟨_, h2⟩ trivial (.inl rfl)
theorem OpS.slice_nss {mx : Operand} {km : IntKind} (hl : sliOf P t = some (et, e, b, by_)) (hx : E x = .sl e tk (xs.map f)) (h2 : E hi = .int kh h) (h3 : E mx = .int km h) (hz : ssl xs 0 h = some zs) : OpS P ⟨dst, .slice t x none (some hi) (some mx), ty, pos, aft, gd⟩ E H (.sl e .exact (zs.map f)) H :=
 slice_rule _ _ _ hl hx hz rfl ⟨_, h2⟩ ⟨rfl, _, h3⟩ (.inr ⟨rfl, rfl⟩)
end
end
end
section
variable {v v' v2 : V} {args' first : List V} {Hc : List AObj}

/-- A slice is nil, or it is not. -/
theorem AWp.splitNil {P : Program} {n : Nat} {Q : AEx → St → Prop} {env : List (Nat × V)} {H : List AObj} {c : Code} {t e : Nat} {tk : Tk} {xs : List V} (h : look env t = .sl e tk xs)
  (h1 : xs = [] → AWp P n m c Q ⟨(t, .nils) :: env, H⟩) (h2 : AWp P n m c Q ⟨(t, .sl e .nn xs) :: env, H⟩) : AWp P n m c Q ⟨env, H⟩ := by
 intro B g a w b1 b2 r1 r2 r3
 have hv := r1.env t
 rw [show (⟨env, H⟩ : St).env = env from rfl, h] at hv
 obtain ⟨ad, cap, hx, hlen, htk, cc, hc, hn, hs⟩ := hv.sl_eq
 have upd : ∀ v : V, RV g v (a.tmps.getD t Go.undef) → RAct g n ((t, v) :: env) a := fun v hv' => ⟨fun t' => by
  rw [look_cons]
  split
  ·rename_i e; subst e; exact hv'
  ·exact r1.env t', r1.size, r1.defers⟩
 cases ad with
 | none =>
  have hc0 := hn rfl
  have hnil : xs = [] := List.eq_nil_of_length_eq_zero (by omega)
  refine h1 hnil B g a w b1 b2 (upd _ ?_) r2 r3
  rw [hx]
  refine RV.of_leaf rfl ?_
  subst hnil hc0
  simp [RC]
 | some ad =>
  refine h2 B g a w b1 b2 (upd _ ?_) r2 r3
  rw [hx]
  refine RV.of_leaf rfl ?_
  simp only [RC]
  exact ⟨some ad, cap, rfl, hlen, by simp [Tk.ok], cc, hc, hn, hs⟩

theorem RSub.nn (e : Nat) (xs : List V) : RSub (.sl e .nn xs) (.sl e .no xs) := .forget _ _ _

/-- Nil as a buffer. -/
theorem Wk.nilbuf {n : Nat} {env : List (Nat × V)} {H : List AObj} {t : Nat} (e : Nat) (h : look env t = .nils) : Wk n m ⟨env, H⟩ ⟨(t, .slo e H.length [] 0 0 0 1) :: env, H ++ [.buf e []]⟩ := by
 intro B g a w b1 b2 r1 r2 r3
 have hadd : HR { g with ρ := g.ρ ++ [⟨0, 0, 0, true⟩] } (H ++ [.buf e []]) w := r2.add ⟨0, 0, 0, true⟩ (.buf e []) (.inl ⟨rfl, rfl⟩) (fun h => by simp [Place.own] at h)
 have hv := r1.env t
 rw [show (⟨env, H⟩ : St).env = env from rfl, h] at hv
 have hx := hv.nils_eq
 refine ⟨_, ⟨fun t' => ?_, r1.size, r1.defers⟩, hadd, r3.trans ⟨g.le_push _, rfl, rfl, rfl, Nat.le_refl _, Nat.le_refl _, fun _ _ _ => rfl, fun _ _ _ _ => rfl, ?_⟩⟩
 ·rw [look_cons]
  split
  ·rename_i e'; subst e'
   rw [hx]
   refine RV.of_leaf rfl ?_
   simp only [RC]
   exact ⟨⟨0, 0, 0, true⟩, by show (g.ρ ++ [_])[H.length]? = _; rw [← r2.len]; simp, none, 0, rfl, Nat.le_refl _, .inl ⟨rfl, rfl⟩⟩
  ·exact (r1.env t').mono (g.le_push _)
 ·rintro b ⟨a', q, ob1, h1, h2, l1, e'⟩
  rcases Nat.lt_or_ge a' g.ρ.length with hlt | hge
  ·exact ⟨a', q, ob1, by rwa [List.getElem?_append_left hlt] at h1, by rwa [List.getElem?_append_left (r2.len ▸ hlt)] at h2, l1, e'⟩ |> .inl
  ·have hle : a' < (g.ρ ++ [(⟨0, 0, 0, true⟩ : Place)]).length := (List.getElem?_eq_some_iff.1 h1).1
   have : a' = g.ρ.length := by simp at hle; omega
   subst this
   rw [List.getElem?_append_right (Nat.le_refl _)] at h1
   rw [r2.len, List.getElem?_append_right (Nat.le_refl _)] at h2
   simp at h1 h2
   subst h1 h2
   simp [Place.own] at l1

theorem run_eql_slice_nil {P : Program} (w : World) (t e : TypeId) (a : Option Addr) (l c : Nat) (h : P.underlying t = some (.slice e)) : (Go.binOp .eql t (.slice a l c) (.slice none 0 0)).run P w = .ok (.bool a.isNone) w := by
 simp only [Go.binOp]
 simp [run_equal_slice_nil w t e a l c h]

section
variable {P : Program} {E : Operand → V} {H : List AObj} {dst : Option Tmp} {ty : TypeId} {pos : String} {aft : Array Edge} {gd : Option (Nat × Bool)}
theorem OpS.eqlNil {t : TypeId} {e : Nat} {b : Bool} (hl : sliOf P t = some (et, e, b, by_)) (hx : E x = .nils) (hy : E y = .nils) : OpS P ⟨dst, .binOp .eql t x y t', ty, pos, aft, gd⟩ E H (.bool true) H :=
 .quiet fun g rc w h _ => by
  obtain ⟨hut, _⟩ := sliOf_get hl
  have e1 := (hx ▸ h x (by simp [Op.operands])).nils_eq
  have e2 := (hy ▸ h y (by simp [Op.operands])).nils_eq
  have hr := run_eql_slice_nil (P := P) w t et none 0 0 hut
  exact ⟨.bool true, by simp only [execOp, e1, e2, eqGuard, Sem.run_bind]; simp [hr], RV.bool g _⟩
theorem OpS.eqlNn {t : TypeId} {e e' : Nat} {b : Bool} {xs : List V} (hl : sliOf P t = some (et, e, b, by_)) (hx : E x = .sl e' .nn xs) (hy : E y = .nils) : OpS P ⟨dst, .binOp .eql t x y t', ty, pos, aft, gd⟩ E H (.bool false) H :=
 .quiet fun g rc w h _ => by
  obtain ⟨hut, _⟩ := sliOf_get hl
  obtain ⟨a, cap, e1, _, hnn, _⟩ := (hx ▸ h x (by simp [Op.operands])).sl_eq
  have e2 := (hy ▸ h y (by simp [Op.operands])).nils_eq
  have hr := run_eql_slice_nil (P := P) w t et a xs.length cap hut
  have hn : a.isNone = false := by cases a with
   | none => exact absurd rfl hnn
   | some _ => rfl
  exact ⟨.bool false, by simp only [execOp, e1, e2, eqGuard, Sem.run_bind]; simp [hr, hn], RV.bool g _⟩
end
theorem vsubr {f : Nat → Nat} (h : v.sub v') (hl : v'.lt 0 = true) : v.sub (v'.ren f) := by rw [V.ren_closed f hl]; exact h
/-- A call that hands out new objects. -/
theorem OpS.callN {P : Program} {E : Operand → V} {H H3 : List AObj} {dst : Option Tmp} {ty : TypeId} {pos : String} {aft : Array Edge} {gd : Option (Nat × Bool)} {args : Array Operand} {f : FuncId} {cap : List V} {H0 H1 : List AObj} 
  (hE : enters P f = true) (hx : E x = .fn f first cap) (ids : List Nat) (hs : CallSpec P f args' Hc fun o H' => o = .ret v ∧ H' = H0) (hnd : ids.Nodup) (hH : SelHS (fun k => ids.getD k 0) ids.length H ids Hc) (hl : V.ltL ids.length args' = true)
  (ha : SubL (first ++ args.toList.map E ++ cap) (V.renL (fun k => ids.getD k 0) args')) (hv : v.ren (back ids H.length) = v2) (hr : H0.map (AObj.ren (back ids H.length)) = H1) (h3 : setL H ids H1 = H3) :
  OpS P ⟨dst, .call ⟨.value x, args, ats⟩, ty, pos, aft, gd⟩ E H v2 H3 := .callH hE hx ids hs hnd hH hl ha hv hr h3
end
theorem OkRes.mono {P : Program} {K K' : Value → World → Prop} (hk : ∀ x w, K x w → K' x w) {r : Result Next} (h : OkRes P K r) : OkRes P K' r := by
 cases r with
 | ok nx w' =>
  cases nx <;> simp only [OkRes] at h ⊢ <;> try exact h
  ·exact hk _ _ h
  ·exact hk _ _ h
  ·exact h.mono fun e w'' he => by
    cases e with
    | returned x => exact hk _ _ he
    | panicked c => exact he
    | outgrown => exact he
 | halt x w' => exact h

theorem OpS.fz {P : Program} {op : Oper} {env : List (Nat × V)} {H H' : List AObj} {v v0 v1 : V} {ob : AObj} (o t : Nat) (ho : H[o]? = some ob) (hf : ob.fz = true) (hl : look env t = v0) (hk : okV v0 = true) (hz : FzR o ob v0 v1)
  (h : OpS P op (ev ((t, v1) :: env)) (H.set o .dead) v H') : OpS P op (ev env) H v H' := by
 intro g rc w hx hr
 have hol : o < g.ρ.length := by rw [hr.len]; exact (List.getElem?_eq_some_iff.1 ho).1
 have hp := List.getElem?_eq_getElem hol
 obtain ⟨g', le, hρ, hI, hr', himm⟩ := hr.freeze hp ho hf
 have hp' : g'.ρ[o]? = some g.ρ[o] := by rw [hρ]; exact hp
 have hev : Ev g H w g' (H.set o .dead) w := by
  refine ⟨le, rfl, rfl, rfl, Nat.le_refl _, Nat.le_refl _, fun _ _ _ => rfl, himm, ?_⟩
  rintro b ⟨k, q, y, hq, hy, l1, e⟩
  by_cases ek : k = o
  ·subst ek
   rw [List.getElem?_set_self (by rw [← hr.len]; exact hol)] at hy
   cases hy
   simp [Place.own] at l1
  ·rw [List.getElem?_set_ne (Ne.symm ek)] at hy
   exact .inl ⟨k, q, y, by rw [← hρ]; exact hq, hy, l1, e⟩
 refine (h g' rc w (fun x hxm => ?_) hr').mono fun x w' ⟨g2, h1, h2, h3⟩ => ⟨g2, h1, h2, hev.trans h3⟩
 have hv := (hx x hxm).mono le
 cases x with
 | tmp t' =>
  show RV g' (look ((t, v1) :: env) t') _
  rw [look_cons]
  split
  ·rename_i e; subst e
   have hv' : RV g' (look env t') (rc (.tmp t')) := hv
   rw [hl] at hv'
   have := hv'.ok hk
   exact .of (hz.agg.symm.trans this.1) (hz.rc g' _ hp' hI _ this.2)
  ·exact hv
 | const c => exact hv
 | global c => exact hv
 | func c => exact hv
/-- A map whose keys may be asked for. -/
structure AMap (K α : Type) (ok : K → Bool) where
 es : List (K × α)
 nd : (es.map (·.1)).Nodup
 oks : ∀ p ∈ es, ok p.1 = true

section
variable {K α : Type} {ok : K → Bool}
def AMap.empty : AMap K α ok := ⟨[], by simp, by simp⟩
instance : Inhabited (AMap K α ok) := ⟨.empty⟩

variable [DecidableEq K]
def findK (k : K) : List (K × α) → Option α
 | [] => none
 | p :: r => if p.1 = k then some p.2 else findK k r
def putK (k : K) (a : α) : List (K × α) → List (K × α)
 | [] => [(k, a)]
 | p :: r => if p.1 = k then (k, a) :: r else p :: putK k a r
theorem putK_keys (k : K) (a : α) : ∀ l : List (K × α), ∀ q, q ∈ (putK k a l).map (·.1) ↔ q = k ∨ q ∈ l.map (·.1)
 | [], q => by simp [putK]
 | p :: r, q => by
  simp only [putK]
  split
  ·rename_i h
   subst h
   simp
  ·simp only [List.map_cons, List.mem_cons, putK_keys k a r q]
   constructor
   ·rintro (h | h | h)
    ·exact .inr (.inl h)
    ·exact .inl h
    ·exact .inr (.inr h)
   ·rintro (h | h | h)
    ·exact .inr (.inl h)
    ·exact .inl h
    ·exact .inr (.inr h)
theorem putK_nodup (k : K) (a : α) : ∀ l : List (K × α), (l.map (·.1)).Nodup → ((putK k a l).map (·.1)).Nodup
 | [], _ => by simp [putK]
 | p :: r, h => by
  simp only [List.map_cons, List.nodup_cons] at h
  simp only [putK]
  split
  ·rename_i e
   subst e
   simp only [List.map_cons, List.nodup_cons]
   exact h
  ·rename_i e
   simp only [List.map_cons, List.nodup_cons]
   refine ⟨fun hm => ?_, putK_nodup k a r h.2⟩
   rcases (putK_keys k a r p.1).1 hm with hm | hm
   ·exact e hm
   ·exact h.1 hm
def AMap.get (m : AMap K α ok) (k : K) : Option (Option α) := if ok k = true then some (findK k m.es) else none
def AMap.put (m : AMap K α ok) (k : K) (a : α) : Option (AMap K α ok) :=
 if h : ok k = true then some ⟨putK k a m.es, putK_nodup k a m.es m.nd, fun p hp => by
  have : p.1 ∈ (putK k a m.es).map (·.1) := List.mem_map.2 ⟨p, hp, rfl⟩
  rcases (putK_keys k a m.es p.1).1 this with e | e
  ·rw [e]; exact h
  ·obtain ⟨q, hq, e⟩ := List.mem_map.1 e
   rw [← e]; exact m.oks q hq⟩ else none
end

/-- Keys of a type. -/
structure KeyT (P : Program) (k : TypeId) {K : Type} (fk : K → V) (ok : K → Bool) : Prop where
 ok : ∀ x, ok x = true → keyOk P k (fk x)
 inj : ∀ x y, flatV (fk x) = flatV (fk y) → x = y

section
variable {P : Program} {E : Operand → V} {H : List AObj} {dst : Option Tmp} {ty : TypeId} {pos : String} {aft : Array Edge} {gd : Option (Nat × Bool)}
variable {K α : Type} [DecidableEq K] {fk : K → V} {fv : α → V} {ok : K → Bool}
end

def inI64 (x : Int) : Bool := decide (-9223372036854775808 ≤ x ∧ x ≤ 9223372036854775807)
theorem inI64_wf {x : Int} (h : inI64 x = true) : (Lit.int .i64 x).wf = true := by
 simp [inI64] at h
 simp [Lit.wf, IntKind.min, IntKind.max, IntKind.signed, IntKind.bits]; omega
section
open Go.Sort Go.Proofs

theorem RCu.mk {g : Gh} {e : Nat} : ∀ {vs : List V} {c : List Value}, c.length = vs.length * e → (∀ (j : Nat) v, vs[j]? = some v → RC g v ((c.drop (j * e)).take e)) → RCu g e vs c
 | [], c, h, _ => by simp at h; simp [RCu, h]
 | v :: vs, c, h, k => by
  simp only [RCu]
  have hl : c.length = vs.length * e + e := by simpa [Nat.succ_mul] using h
  refine ⟨c.take e, c.drop e, (List.take_append_drop e c).symm, by simp; omega, ?_, ?_⟩
  ·have := k 0 v rfl
   simpa using this
  ·refine RCu.mk (by simp; omega) fun j u hu => ?_
   have := k (j + 1) u (by simpa using hu)
   rw [List.drop_drop]
   rwa [Nat.succ_mul, Nat.add_comm] at this

end
section
variable {v : V}

theorem hasTys_c {t : Ty} {ts : List Ty} {vs : List V} (h : hasTys (t :: ts) vs) : ∃ v r, vs = v :: r ∧ hasTy t v ∧ hasTys ts r := by simpa only [hasTys] using h
theorem hasTys_n {vs : List V} (h : hasTys [] vs) : vs = [] := by simpa only [hasTys] using h
theorem dec_int (h : hasTy (.int k) v) : ∃ n : Int, v = .int k n ∧ (Lit.int k n).wf = true := by simpa only [hasTy] using h
theorem dec_bool (h : hasTy .bool v) : ∃ b : Bool, v = .bool b ∧ True := by simp only [hasTy] at h; obtain ⟨b, h⟩ := h; exact ⟨b, h, trivial⟩
theorem dec_str (h : hasTy .str v) : ∃ s : ByteArray, v = .str s ∧ s.size ≤ reachBytes := by simpa only [hasTy] using h
theorem dec_st {ts : List Ty} (h : hasTy (.st ts) v) : ∃ vs, v = .st vs ∧ hasTys ts vs := by simpa only [hasTy] using h
theorem dec_sl {α : Type} {f : α → V} {W : α → Prop} {e b : Nat} {t : Ty} (d : ∀ {v : V}, hasTy t v → ∃ x, v = f x ∧ W x) (h : hasTy (.sl e b t) v) : ∃ l : List α, v = .sl e .no (l.map f) ∧ (l.length ≤ maxLen ∧ l.length * b ≤ reachBytes ∧ ∀ a ∈ l, W a) := by
 simp only [hasTy] at h
 obtain ⟨xs, rfl, h1, h2, h3⟩ := h
 obtain ⟨l, rfl, hl⟩ := decList (f := f) (Q := W) fun x hx => d (h3 x hx)
 exact ⟨l, rfl, by simpa using h1, by simpa using h2, hl⟩
theorem dec_arr {α : Type} {f : α → V} {W : α → Prop} {n e : Nat} {t : Ty} (d : ∀ {v : V}, hasTy t v → ∃ x, v = f x ∧ W x) (h : hasTy (.arr n e t) v) : ∃ l : Vector α n, v = .arr e (l.toList.map f) ∧ ∀ a ∈ l.toList, W a := by
 simp only [hasTy] at h
 obtain ⟨xs, rfl, h1, h3⟩ := h
 obtain ⟨l, rfl, hl⟩ := decList (f := f) (Q := W) fun x hx => d (h3 x hx)
 have hn : l.length = n := by simpa using h1
 subst hn
 exact ⟨⟨l.toArray, by simp⟩, by simp [Vector.toList], by simpa [Vector.toList] using hl⟩
end
section
variable {a : Act} {v : V} {H' : List AObj} {g : Gh} {args : List V}

/-- The operation panics, with a value and in a world of which K holds. -/
def PanRes (P : Program) (K : Value → World → Prop) : Result Next → Prop
 | .halt (.panic v) w' => K v w'
 | .ok (.enter f args) w' => Calls P f args w' fun e w'' => match e with
  | .panicked ch => ∃ x, ch = [{ v := x, recovered := false }] ∧ K x w''
  | _ => False
 | _ => False

def PanS (P : Program) (o : Oper) (ev : Operand → V) (H : List AObj) (v : V) (H' : List AObj) : Prop :=
 ∀ g (rc : Operand → Value) w, (∀ x ∈ o.op.operands, RV g (ev x) (rc x)) → HR g H w →
  PanRes P (fun x w' => ∃ g', RV g' v x ∧ HR g' H' w' ∧ Ev g H w g' H' w') ((execOp rc o).run P w)

theorem upon_of_pan {P : Program} {o : Oper} {next : Act → World → Prop} {Q : Exit → Act → World → Prop} {K : Value → World → Prop} {r : Result Next}
  (h : PanRes P K r) (hk : ∀ x w', K x w' → Q (.panic [{ v := x, recovered := false }]) a w') : o.upon P a next Q r := by
 cases r with
 | ok nx w' =>
  cases nx <;> simp only [PanRes] at h <;> try exact h.elim
  simp only [Oper.upon]
  refine Calls.mono h fun e w'' he => ?_
  cases e with
  | returned x => exact he.elim
  | panicked c => obtain ⟨x, rfl, hK⟩ := he; exact hk _ _ hK
  | outgrown => exact he.elim
 | halt x w' =>
  cases x <;> simp only [PanRes] at h <;> try exact h.elim
  exact hk _ _ h

/-- The frame, with something deferred. -/
structure RActD (g : Gh) (n : Nat) (D : List Deferred) (env : List (Nat × V)) (a : Act) : Prop where
 env : REnv g env a
 size : a.tmps.size = n
 defers : a.defers = D
theorem RActD.put {g : Gh} {n : Nat} {D : List Deferred} {env : List (Nat × V)} {a : Act} (h : RActD g n D env a) {dst : Option Tmp} (hd : okDst n dst = true) {v : V} {x : Value} (hv : RV g v x) :
  RActD g n D (putD dst v env) (a.put dst x) := by
 refine ⟨fun t => ?_, by rw [size_put]; exact h.size, by cases dst <;> exact h.defers⟩
 cases dst with
 | none => exact h.env t
 | some d =>
  simp only [putD, look_cons]
  rw [getD_put a d t x (by rw [h.size]; simpa [okDst] using hd)]
  split
  ·exact hv
  ·exact h.env t
theorem RActD.mono {g g' : Gh} {n : Nat} {D : List Deferred} {env : List (Nat × V)} {a : Act} (h : RActD g n D env a) (le : g.le g') : RActD g' n D env a := ⟨h.env.mono le, h.size, h.defers⟩

theorem Steps.runD {P : Program} {n : Nat} {D : List Deferred} {F : List AObj → Prop} {Q : Exit → Act → World → Prop} : ∀ {l : List Nat} {s s' : St} {ks : List Kd}, Steps P ops n F l s ks s' →
  ∀ {g : Gh} {a : Act} {w : World}, RActD g n D s.env a → HR g s.H w → (∀ g' a' w', RActD g' n D s'.env a' → HR g' s'.H w' → Ev g s.H w g' s'.H w' → wpOps P ops Q rest a' w') → wpOps P ops Q (l ++ rest) a w := by
 intro l s s' ks h
 induction h with
 | nil s _ => intro g a w ha hr hq; exact hq g a w ha hr (.refl _ _ _)
 | @cons i l s s₁ s' k v ks o ho hF h t ih =>
  intro g a w ha hr hq
  rw [List.cons_append, wpOps_cons]
  obtain ⟨e1, e2, e3, _⟩ := h.env
  refine h.run (g := g) (H := s.H) (H' := s₁.H) (fun x _ => ha.env.ev hr x) (fun j want d _ _ => ha.env d) hF ?_ hr ho ?_
  ·cases k with
   | sil => exact .inl ⟨rfl, e3 (by simp) (by simp)⟩
   | qui => exact .inr (.inr ⟨by simp, rfl, rfl⟩)
   | new => exact .inr (.inr ⟨by simp, rfl, rfl⟩)
   | eff => exact .inr (.inr ⟨by simp, rfl, rfl⟩)
  ·intro g' x w' hv hr' hev
   have ha' : RActD g' n D s₁.env (a.put o.dst x) := by rw [e1]; exact (ha.mono hev.le).put e2 hv
   exact ih ha' hr' fun g'' a'' w'' h1 h2 h3 => hq g'' a'' w'' h1 h2 (hev.trans h3)

theorem pan_op {P : Program} {n : Nat} {D : List Deferred} {Q : Exit → Act → World → Prop} {o : Oper} (ho : ops[i]? = some o) (hg : o.guard = none) {s : St} 
  (h : PanS P o (ev s.env) s.H v H') (ha : RActD g n D s.env a) (hr : HR g s.H w)
  (hq : ∀ g' x w', RV g' v x → RActD g' n D s.env a → HR g' H' w' → Ev g s.H w g' H' w' → Q (.panic [{ v := x, recovered := false }]) a w') : wpOps P ops Q (i :: rest) a w := by
 rw [wpOps_cons]
 unfold wpOp
 rw [ho]
 simp only [Region.wanted, hg]
 refine .inl ?_
 exact upon_of_pan (h g a.eval w (fun x _ => ha.env.ev hr x) hr) fun x w' ⟨g', h1, h2, h3⟩ => hq g' x w' h1 (ha.mono h3.le) h2 h3

/-- A region that panics at one of its operations. -/
theorem AWp.regionP {P : Program} {n : Nat} {Q : AEx → St → Prop} {s : St} (l1 : List Nat) (i : Nat) (l2 : List Nat) (hl : List.range ops.size = l1 ++ i :: l2) {o : Oper} (ho : ops[i]? = some o) (hg : o.guard = none)
  (h : Run (fun _ => True) false P ops n [] l1 [] (fun _ s' => ∃ v H', PanS P o (ev s'.env) s'.H v H' ∧ Q (.panic v) ⟨s'.env, H'⟩) s) : AWp P n m (.region id ops false) Q s := by
 obtain ⟨s', ks, h1, _, v, H', h2, h3⟩ := h trivial
 intro B g a w b1 b2 r1 r2 r3
 refine wp_region ?_
 rw [hl]
 refine h1.runD (D := []) ⟨r1.env, r1.size, r1.defers⟩ r2 fun g' a' w' q1 q2 q3 => ?_
 refine pan_op ho hg h2 q1 q2 fun g'' x w'' p1 p2 p3 p4 => ?_
 exact ⟨g'', ⟨s'.env, H'⟩, .panic v, h3, ⟨x, rfl, p1⟩, ⟨p2.env, p2.size, p2.defers⟩, p3, (r3.trans q3).trans p4⟩

/-- A function that panics, and leaves the objects alone. -/
def PanC (P : Program) (f : FuncId) (args : List V) (v : V) : Prop := ∀ H, CallSpec P f args H fun o H' => o = .pan v ∧ H' = H
theorem PanC.ofF {P : Program} {f : FuncId} {r : V} (h : CallSpec P f args [] fun o H' => o = .pan r ∧ H' = []) (ha : V.ltL 0 args = true) (hr : r.lt 0 = true) : PanC P f args r :=
 fun H => ((h.mono (R' := fun o _ => o = .pan r) fun _ _ x => x.1).frame ha (fun o _ e => by subst e; exact hr) H).mono fun _ _ ⟨⟨_, h1⟩, h2⟩ => ⟨h1, h2⟩

section
variable {P : Program} {E : Operand → V} {H : List AObj} {dst : Option Tmp} {ty : TypeId} {pos : String} {aft : Array Edge} {gd : Option (Nat × Bool)}
theorem PanS.panic {x : Operand} {t : TypeId} {v : V} (hx : E x = .ifc t v) : PanS P ⟨dst, .panic x, ty, pos, aft, gd⟩ E H (.ifc t v) H := by
 intro g rc w h hr
 have hv := hx ▸ h x (by simp [Op.operands])
 have hv2 : ∃ y : Value, rc x = .iface t y := by
  obtain ⟨h1, h2⟩ := hv
  simp only [RC] at h2
  obtain ⟨y, h3, _⟩ := h2
  have ha : valAgg (rc x) = false := h1.symm
  refine ⟨y, ?_⟩
  cases hc : rc x <;> simp_all [Value.cells, valAgg]
 obtain ⟨y, hy⟩ := hv2
 have hrun : (execOp rc ⟨dst, .panic x, ty, pos, aft, gd⟩).run P w = .halt (.panic (.iface t y)) w := by
  simp [execOp, hy]
  rfl
 rw [hrun]
 exact ⟨g, hy ▸ hv, hr, .refl _ _ _⟩
theorem PanS.call {x : Operand} {args : Array Operand} {ats : Array TypeId} {f : FuncId} {first cap args' : List V} {v : V} (hE : enters P f = true) (hx : E x = .fn f first cap)
  (ha : SubL (first ++ args.toList.map E ++ cap) args') (hs : PanC P f args' v) : PanS P ⟨dst, .call ⟨.value x, args, ats⟩, ty, pos, aft, gd⟩ E H v H := by
 intro g rc w h hr
 obtain ⟨a', b', e, h1, h2⟩ := (hx ▸ h x (by simp [Op.operands, Call.operands])).fn_eq
 have hargs : RVs g (args.toList.map E) (args.toList.map rc) := RVs.map fun y hy => h y (by simp [Op.operands, Call.operands]; exact .inr (by simpa using hy))
 have hall := (h1.rvs.append hargs).append h2.rvs
 have hrun : (execOp rc ⟨dst, .call ⟨.value x, args, ats⟩, ty, pos, aft, gd⟩).run P w = .ok (.enter f (a' ++ args.map rc ++ b')) w := by
  unfold enters at hE
  split at hE
  ·rename_i fn hfn
   simp only [Bool.and_eq_true, bne_iff_ne, ne_eq] at hE
   have hb : ¬ fn.body = none := by intro hq; rw [hq] at hE; simp at hE
   simp [execOp, resolve, e, Deferred.ofValue, invoke, callFunc, hfn, hE.1, hb]
  ·cases hE
 rw [hrun]
 refine Calls.mono (R := fun e w' => ∃ g' H'' o, (o = .pan v ∧ H'' = H) ∧ OutRel g' e o ∧ HR g' H'' w' ∧ Ev g H w g' H'' w') ?_ ?_
 ·have := hs H g w (a'.toList ++ args.toList.map rc ++ b'.toList) (hall.sub ha) hr
  have e2 : (a'.toList ++ args.toList.map rc ++ b'.toList).toArray = a' ++ args.map rc ++ b' := by apply Array.ext'; simp
  rwa [e2] at this
 ·rintro e w' ⟨g', H'', o, ⟨rfl, rfl⟩, q2, q3, q4⟩
  cases e <;> simp only [OutRel] at q2
  obtain ⟨y, rfl, q2⟩ := q2
  exact ⟨y, rfl, g', q2, q3, q4⟩
end
end
section
variable {g : Gh} {args first : List V} {a : Act} {v : V} {s' : St}
theorem RAct.start {n : Nat} {xs : List Value} (hx : RVs g args xs) (hn : args.length ≤ n) : RAct g n (argEnv 0 args) { tmps := xs.toArray ++ Array.replicate (n - xs.toArray.size) Go.undef, defers := [] } := by
 have hxl := hx.len
 refine ⟨fun t => ?_, by simp; omega, rfl⟩
 have := argEnv_look args xs 0 g hx t
 simp only [Nat.not_lt_zero, if_false, Nat.sub_zero] at this
 have e : (xs.toArray ++ Array.replicate (n - xs.toArray.size) Go.undef).getD t Go.undef = xs.getD t Go.undef := by
  rw [Array.getD_eq_getD_getElem?, List.getD_eq_getElem?_getD]
  by_cases hl : t < xs.length
  ·rw [Array.getElem?_append_left (by simpa using hl)]; simp
  ·rw [Array.getElem?_append_right (by simpa using Nat.le_of_not_lt hl), List.getElem?_eq_none (by omega), Array.getElem?_replicate]
   split <;> rfl
 show RV g _ ((xs.toArray ++ Array.replicate (n - xs.toArray.size) Go.undef).getD t Go.undef)
 rw [e]; exact this

theorem wpS_recover {P : Program} {d2 ty ty2 : Nat} {p1 p2 : String} {af1 af2 : Array Edge} {Q : Exit → Act → List Frame → World → Prop} {cs : List Frame} 
  (h0 : ops[0]? = some ⟨some d, .call ⟨.builtin .recover, #[], #[]⟩, ty, p1, af1, none⟩) (h1 : ops[1]? = some ⟨some d2, .assign (.tmp d), ty2, p2, af2, none⟩) (hs : ops.size = 2) (hd : d < a.tmps.size) {v : Value} {cs' : List Frame}
  (hr : (recoverD cs = some (v, cs')) ∨ (recoverD cs = none ∧ v = .nilIface ∧ cs' = cs)) (hq : Q .normal ((a.put (some d) v).put (some d2) v) cs' w) : wpOpsS P ops Q [0, 1] a cs w := by
 have hv : (a.put (some d) v).eval (.tmp d) = v := by simp [Act.eval, Act.put, hd]
 simp only [wpOpsS, h0, h1, Region.wanted, if_true]
 have e0 : ((execOp a.eval ⟨some d, .call ⟨.builtin .recover, #[], #[]⟩, ty, p1, af1, none⟩).run P w) = .ok .recover w := by simp [execOp, go_sem]
 rw [e0]
 have e1 : (execOp (a.put (some d) v).eval ⟨some d2, .assign (.tmp d), ty2, p2, af2, none⟩).run P w = .ok (.value v) w := by simp [execOp, hv]
 rcases hr with hr | ⟨hr, rfl, rfl⟩
 ·simp only [hr, e1, Oper.upon]
  exact hq
 ·simp only [hr, e1, Oper.upon]
  exact hq

theorem OpS.assertSame {P : Program} {E : Operand → V} {H : List AObj} {dst : Option Tmp} {ty : TypeId} {pos : String} {aft : Array Edge} {gd : Option (Nat × Bool)} {xT t : TypeId} (hu : P.underlying t = some (.int k)) (hx : E x = .ifc t v) :
  OpS P ⟨dst, .typeAssert x xT t true, ty, pos, aft, gd⟩ E H (.tup [v, .bool true]) H :=
 .quiet fun g rc w h _ => by
  have hv := hx ▸ h x (by simp [Op.operands])
  obtain ⟨h1, h2⟩ := hv
  simp only [RC] at h2
  obtain ⟨y, h3, h4, h5⟩ := h2
  have hy : rc x = .iface t y := by
   have ha : valAgg (rc x) = false := h1.symm
   cases hc : rc x <;> simp_all [Value.cells, valAgg]
  refine ⟨.tuple #[y, .bool true], ?_, ⟨#[y, .bool true], rfl, ?_⟩⟩
  ·simp [execOp, hy, Instr.typeAssert, run_underlying hu, go_sem]
  ·simp only [RVl]
   exact ⟨y, [.bool true], rfl, h4, h5, .bool true, [], rfl, rfl, by simp [RC, Value.cells], rfl⟩

section
variable {P : Program} {E : Operand → V} {H : List AObj} {dst : Option Tmp} {ty : TypeId} {pos : String} {aft : Array Edge} {gd : Option (Nat × Bool)}
theorem ifc_eq {t : TypeId} {x : Value} (h : RV g (.ifc t v) x) : ∃ y, x = .iface t y := by
 obtain ⟨h1, h2⟩ := h
 simp only [RC] at h2
 obtain ⟨y, h3, _⟩ := h2
 have ha : valAgg x = false := h1.symm
 refine ⟨y, ?_⟩
 cases hc : x <;> simp_all [Value.cells, valAgg]
theorem nili_eq {x : Value} (h : RV g .nili x) : x = .nilIface := by
 obtain ⟨h1, h2⟩ := h
 simp only [RC] at h2
 have ha : valAgg x = false := h1.symm
 cases hc : x <;> simp_all [Value.cells, valAgg]
theorem OpS.neqIN {t : TypeId} {u : TypeId} (hu : (match P.underlying t with | some (.interface _) => true | _ => false) = true) (hx : E x = .ifc u v) (hy : E y = .nili) : OpS P ⟨dst, .binOp .neq t x y t, ty, pos, aft, gd⟩ E H (.bool true) H :=
 .quiet fun g rc w h _ => by
  obtain ⟨z, hz⟩ := ifc_eq (hx ▸ h x (by simp [Op.operands]))
  have hz2 := nili_eq (hy ▸ h y (by simp [Op.operands]))
  refine ⟨.bool true, ?_, ⟨rfl, by simp [RC, Value.cells]⟩⟩
  cases hd : P.underlying t with
  | none => rw [hd] at hu; cases hu
  | some d =>
   cases d <;> rw [hd] at hu <;> try cases hu
   have h2 : ∀ d, (Op.equalIn (d + 1) t (.iface u z) .nilIface).run P w = .ok false w := fun d => by simp [Op.equalIn, run_underlying hd]
   have h3 : (Op.equalIn Op.maxDepth t (.iface u z) .nilIface).run P w = .ok false w := h2 9999
   simp [execOp, hz, hz2, binOp, Op.equal, h3, eqGuard, go_sem]
theorem OpS.neqNN {t : TypeId} (hu : (match P.underlying t with | some (.interface _) => true | _ => false) = true) (hx : E x = .nili) (hy : E (.const .nilIface) = .nili) : OpS P ⟨dst, .binOp .neq t x (.const .nilIface) t, ty, pos, aft, gd⟩ E H (.bool false) H :=
 .quiet fun g rc w h _ => by
  have hz := nili_eq (hx ▸ h x (by simp [Op.operands]))
  have hz2 := nili_eq (hy ▸ h (.const .nilIface) (by simp [Op.operands]))
  refine ⟨.bool false, ?_, ⟨rfl, by simp [RC, Value.cells]⟩⟩
  cases hd : P.underlying t with
  | none => rw [hd] at hu; cases hu
  | some d =>
   cases d <;> rw [hd] at hu <;> try cases hu
   have h2 : ∀ d, (Op.equalIn (d + 1) t .nilIface .nilIface).run P w = .ok true w := fun d => by simp [Op.equalIn, run_underlying hd]
   have h3 : (Op.equalIn Op.maxDepth t .nilIface .nilIface).run P w = .ok true w := h2 9999
   simp [execOp, hz, hz2, binOp, Op.equal, h3, eqGuard, go_sem]
theorem OpS.eqlFN {t : TypeId} {f : FuncId} {a b : List V} (hu : (match P.underlying t with | some (.func ..) => true | _ => false) = true) (hx : E x = .fn f a b) (hy : E y = .nilfn) : OpS P ⟨dst, .binOp .eql t x y t, ty, pos, aft, gd⟩ E H (.bool false) H :=
 .quiet fun g rc w h _ => by
  obtain ⟨a', b', e, _, _⟩ := (hx ▸ h x (by simp [Op.operands])).fn_eq
  have hz2 : rc y = .nilFunc := by
   obtain ⟨h1, h2⟩ := hy ▸ h y (by simp [Op.operands])
   simp only [RC] at h2
   have ha : valAgg (rc y) = false := h1.symm
   cases hc : rc y <;> simp_all [Value.cells, valAgg]
  refine ⟨.bool false, ?_, ⟨rfl, by simp [RC, Value.cells]⟩⟩
  cases hd : P.underlying t with
  | none => rw [hd] at hu; cases hu
  | some d =>
   cases d <;> rw [hd] at hu <;> try cases hu
   have h2 : ∀ d, (Op.equalIn (d + 1) t (.func (.func f) a' b') .nilFunc).run P w = .ok false w := fun d => by simp [Op.equalIn, run_underlying hd]
   have h3 : (Op.equalIn Op.maxDepth t (.func (.func f) a' b') .nilFunc).run P w = .ok false w := h2 9999
   simp [execOp, e, hz2, binOp, Op.equal, h3, eqGuard, go_sem]
end
theorem AWp.toD {P : Program} {n : Nat} {c y : Code} {s : St} (h : AWp P n m c (fun ex z => ex = .normal ∧ z = s') s) {B : Base} (b1 : B.H.length = m) (b2 : B.g.ρ.length = m) (r1 : RAct g n s.env a) (r2 : HR g s.H w) (r3 : Ev B.g B.H B.w g s.H w)
  {K : Exit → Act → World → Prop} (k : ∀ g' a' w', RAct g' n s'.env a' → HR g' s'.H w' → Ev B.g B.H B.w g' s'.H w' → y.wp P K a' w') : (Code.seq c y).wp P K a w := by
 refine wp_seq (wp_mono (h B g a w b1 b2 r1 r2 r3) ?_)
 rintro e a' w' ⟨g', z, ae, ⟨rfl, rfl⟩, hx, q1, q2, q3⟩
 cases e <;> simp only [ExRel] at hx <;> try exact hx.elim
 exact k g' a' w' q1 q2 q3


theorem evf_rv {env : List (Nat × V)} (k : REnv g env a) {f : FuncId} {cap : List V} (h : ev env x = .fn f first cap) : RV g (ev env x) (a.eval x) := by
 cases x with
 | tmp t => exact k t
 | const v => exact constV_rv g v
 | global b =>
  simp only [ev, glV] at h
  cases e : Nat.beq b glB <;> rw [e] at h <;> cases h
 | func f => exact ⟨rfl, #[], #[], by simp [Act.eval, Value.cells], by simp [RVl], by simp [RVl]⟩

theorem defer_op {P : Program} {n : Nat} {Q : Exit → Act → World → Prop} {ty : TypeId} {pos : String} {aft : Array Edge} (ho : ops[i]? = some ⟨none, .defer ⟨.value x, #[], #[]⟩, ty, pos, aft, none⟩) {env : List (Nat × V)} {f : FuncId} {cap : List V} (hx : ev env x = .fn f [] cap)
  (ha : RActD g n [] env a)
  (hq : ∀ (b' : Array Value), RVl g cap b'.toList → RActD g n [{ target := .fn (.func f) b', args := #[] }] env { a with defers := [{ target := .fn (.func f) b', args := #[] }] } → wpOps P ops Q rest { a with defers := [{ target := .fn (.func f) b', args := #[] }] } w) : wpOps P ops Q (i :: rest) a w := by
 rw [wpOps_cons]
 unfold wpOp
 rw [ho]
 simp only [Region.wanted]
 refine .inl ?_
 obtain ⟨a', b', e, h1, h2⟩ := (hx ▸ evf_rv ha.env hx).fn_eq
 have ha' : a' = #[] := by
  simp only [RVl] at h1
  exact Array.toList_eq_nil_iff.1 h1
 subst ha'
 have hrun : (execOp a.eval ⟨none, .defer ⟨.value x, #[], #[]⟩, ty, pos, aft, none⟩).run P w = .ok (.defer { target := .fn (.func f) b', args := #[] }) w := by
  simp [execOp, resolve, e, Deferred.ofValue]
 show Oper.upon _ _ _ _ _ _
 rw [hrun]
 simp only [Oper.upon, ha.defers, Act.put]
 exact hq b' h2 ⟨ha.env, ha.size, rfl⟩

theorem invoke_fn {P : Program} {f : FuncId} (hE : enters P f = true) (b : Array Value) (w : World) : (invoke (.fn (.func f) b) #[]).run P w = .ok (.enter f b) w := by
 unfold enters at hE
 split at hE
 ·rename_i fn hfn
  simp only [Bool.and_eq_true, bne_iff_ne, ne_eq] at hE
  have hb : ¬ fn.body = none := by intro hq; rw [hq] at hE; simp at hE
  simp [invoke, callFunc, hfn, hE.1, hb]
 ·cases hE
theorem ResOK.drop {P : Program} {fn : Func} {n : Nat} {s : St} (h : ResOK P fn n s v) {D : List Deferred} (ha : RActD g n D s.env a) (hr : HR g s.H w) : ∃ x, (results fn a.tmps).run P w = .ok x w ∧ RV g v x :=
 h g { a with defers := [] } w ⟨ha.env, ha.size, rfl⟩ hr


theorem runD_of {P : Program} {n : Nat} {D : List Deferred} {Q : Exit → Act → World → Prop} {l : List Nat} {s : St} (h : Run (fun _ => True) false P ops n [] l [] (fun _ z => z = s') s) (ha : RActD g n D s.env a) (hr : HR g s.H w)
  (hq : ∀ g' a' w', RActD g' n D s'.env a' → HR g' s'.H w' → Ev g s.H w g' s'.H w' → wpOps P ops Q rest a' w') : wpOps P ops Q (l ++ rest) a w := by
 obtain ⟨s3, ks, st, _, hs3⟩ := h trivial
 subst hs3
 exact st.runD ha hr hq
def tail3 : Code → Code
 | .seq _ (.seq _ (.seq _ y)) => y
 | c => c
def tryM (a b : Option Int) : Option (Int × Int) := match a with
 | some r => some (r, 0)
 | none => match b with
  | some e => some (0, e)
  | none => none
end
section
variable {v v' : V}

section
variable {P : Program} {E : Operand → V} {H : List AObj} {dst : Option Tmp} {ty : TypeId} {pos : String} {aft : Array Edge} {gd : Option (Nat × Bool)}
theorem OpS.sliceArr {t : TypeId} {n e : Nat} {b : Bool} {vs : List V} (hl : arrOf P t = some (n, e, b)) (hx : E x = .cptr (.arr e vs)) (hn : vs.length = n) :
  OpS P ⟨dst, .slice t x none none none, ty, pos, aft, gd⟩ E H (.sl e .exact vs) H :=
 .quiet fun g rc w h hr => by
  obtain ⟨et, hu, hs, _⟩ := arrOf_get hl
  obtain ⟨h1, h2⟩ := hx ▸ h x (by simp [Op.operands])
  simp only [RC] at h2
  obtain ⟨a, c, h3, h4, h5, h6⟩ := h2
  have hv : rc x = .pointer (some a) := by
   have ha : valAgg (rc x) = false := h1.symm
   cases hc : rc x <;> simp_all [Value.cells, valAgg]
  have ha0 : a.add 0 = a := by rw [add_addr' h3]; cases a; simp at h3; simp [h3]
  have hrun : (execOp rc ⟨dst, .slice t x none none none, ty, pos, aft, gd⟩).run P w = .ok (.value (.slice (some a) n n)) w := by
   simp [execOp, Instr.sliceAt, Instr.sliceBounds, run_underlying hu, hv, Instr.sureAddr, run_sizeOf' hs, ha0, go_sem]
  refine ⟨_, hrun, RV.of_leaf rfl ?_⟩
  simp only [RC]
  refine ⟨some a, n, by simp [hn], by omega, hn.symm, c, h5, by simp, fun ad e1 => ?_⟩
  cases e1
  exact ⟨fun _ => h3, h6⟩
end
section
variable {P : Program} {E : Operand → V} {H : List AObj} {dst : Option Tmp} {ty : TypeId} {pos : String} {aft : Array Edge} {gd : Option (Nat × Bool)}
theorem OpS.ixStr {t : TypeId} {i : Operand} {s : ByteArray} {n c : Int} (hl : P.underlying t = some .string) (hx : E x = .str s) (hi : E i = .int k n) (hc : bix s n = some c) : OpS P ⟨dst, .index t x i, ty, pos, aft, gd⟩ E H (.int .u8 c) H :=
 .quiet fun g rc w h hr => by
  have ex := (hx ▸ h x (by simp [Op.operands])).str_eq
  have ei := (hi ▸ h i (by simp [Op.operands])).int_eq
  unfold bix at hc
  split at hc
  ·rename_i hb
   cases hc
   refine ⟨_, ?_, RV.int g .u8 _⟩
   have h1 : n.toNat < s.size := by omega
   have h2 : s[n.toNat]? = some s[n.toNat] := getElem?_pos s n.toNat h1
   simp [execOp, Instr.index, asIntOf, ex, ei, run_underlying hl, hb.1, h2]
  ·cases hc
end
theorem lt_cells (h : v.lt m = true) : (AObj.cells v).lt m = true := h
theorem subren {f : Nat → Nat} (h : v'.ren f = v) : v.sub (v'.ren f) := by rw [h]; exact V.sub.refl _
end
/-- One string ahead of another one. -/
def bLs (a b : ByteArray) : Bool := Op.bytesLess a.toList b.toList
theorem str_beq (a b : ByteArray) : (a.toList == b.toList) = decide (a = b) := by
 rw [ByteArray.toList_eq, ByteArray.toList_eq]
 apply Bool.eq_iff_iff.2
 simp only [beq_iff_eq, decide_eq_true_eq]
 constructor
 ·intro h
  have h1 : a.data = b.data := Array.toList_inj.1 h
  cases a; cases b; simp_all
 ·rintro rfl; rfl
section
variable {P : Program} {E : Operand → V} {H : List AObj} {dst : Option Tmp} {ty : TypeId} {pos : String} {aft : Array Edge} {gd : Option (Nat × Bool)} {t t' : TypeId} {x y : Operand} {a b : ByteArray}
theorem OpS.eqlS (hx : E x = .str a) (hy : E y = .str b) : OpS P ⟨dst, .binOp .eql t x y t', ty, pos, aft, gd⟩ E H (.bool (decide (a = b))) H :=
 .quiet fun g rc w h hr => by
  have ex := (hx ▸ h x (by simp [Op.operands])).str_eq
  have ey := (hy ▸ h y (by simp [Op.operands])).str_eq
  exact ⟨_, by simp [execOp, ex, ey, binOp, Op.stringOp, eqGuard, str_beq], RV.bool g _⟩
theorem OpS.neqS (hx : E x = .str a) (hy : E y = .str b) : OpS P ⟨dst, .binOp .neq t x y t', ty, pos, aft, gd⟩ E H (.bool (!decide (a = b))) H :=
 .quiet fun g rc w h hr => by
  have ex := (hx ▸ h x (by simp [Op.operands])).str_eq
  have ey := (hy ▸ h y (by simp [Op.operands])).str_eq
  exact ⟨.bool (!decide (a = b)), by simp [execOp, ex, ey, binOp, Op.stringOp, eqGuard, str_beq], RV.bool g _⟩
theorem OpS.lssS (hx : E x = .str a) (hy : E y = .str b) : OpS P ⟨dst, .binOp .lss t x y t', ty, pos, aft, gd⟩ E H (.bool (bLs a b)) H :=
 .quiet fun g rc w h hr => by
  have ex := (hx ▸ h x (by simp [Op.operands])).str_eq
  have ey := (hy ▸ h y (by simp [Op.operands])).str_eq
  exact ⟨.bool (bLs a b), by simp [execOp, ex, ey, binOp, Op.stringOp, eqGuard, bLs], RV.bool g _⟩
theorem OpS.geqS (hx : E x = .str a) (hy : E y = .str b) : OpS P ⟨dst, .binOp .geq t x y t', ty, pos, aft, gd⟩ E H (.bool (!bLs a b)) H :=
 .quiet fun g rc w h hr => by
  have ex := (hx ▸ h x (by simp [Op.operands])).str_eq
  have ey := (hy ▸ h y (by simp [Op.operands])).str_eq
  exact ⟨.bool (!bLs a b), by simp [execOp, ex, ey, binOp, Op.stringOp, eqGuard, bLs], RV.bool g _⟩
end
section
variable {g : Gh} {H' H2 : List AObj}

section
variable {P : Program} {E : Operand → V} {H : List AObj} {dst : Option Tmp} {ty : TypeId} {pos : String} {aft : Array Edge} {gd : Option (Nat × Bool)}

theorem nils_eq {v : Value} (h : RV g .nils v) : v = .slice none 0 0 := by
 obtain ⟨h3, h4⟩ := h
 simp only [RC] at h4
 cases v <;> simp [valAgg, V.isAgg] at h3 <;> first | (simp [Value.cells] at h4; done) | simp_all [Value.cells]

theorem OpS.capNil {t : TypeId} {e : Nat} {b : Bool} (hl : sliOf P t = some (et, e, b, by_)) (hx : E x = .nils) :
  OpS P ⟨dst, .call ⟨.builtin .cap, #[x], #[t]⟩, ty, pos, aft, gd⟩ E H (.int .i64 0) H :=
 .quiet fun g rc w h hr => by
  obtain ⟨hut, _⟩ := sliOf_get hl
  have ex := nils_eq (hx ▸ h x (by simp [Op.operands, Call.operands]))
  exact ⟨.int .i64 0, by simp [execOp, resolve, invoke, Go.builtin, Builtin.cap_, run_underlying hut, ex, goInt], RV.int g _ _⟩

theorem OpS.lenN {t : TypeId} {e : Nat} {b : Bool} (hl : sliOf P t = some (et, e, b, by_)) (hx : E x = .nils) :
  OpS P ⟨dst, .call ⟨.builtin .len, #[x], #[t]⟩, ty, pos, aft, gd⟩ E H (.int .i64 0) H :=
 .quiet fun g rc w h hr => by
  obtain ⟨hut, _⟩ := sliOf_get hl
  have ex := nils_eq (hx ▸ h x (by simp [Op.operands, Call.operands]))
  exact ⟨.int .i64 0, by simp [execOp, resolve, invoke, Go.builtin, Builtin.len_, run_underlying hut, ex, goInt], RV.int g _ _⟩

theorem OpS.sliceNil0 {t : TypeId} {e : Nat} {b : Bool} (hl : sliOf P t = some (et, e, b, by_)) (hx : E x = .nils) (h2 : E hi = .int k 0) :
  OpS P ⟨dst, .slice t x none (some hi) none, ty, pos, aft, gd⟩ E H .nils H :=
 .quiet fun g rc w hh hr => by
  obtain ⟨hut, hsz, _⟩ := sliOf_get hl
  have ex := nils_eq (hx ▸ hh x (by simp [Op.operands]))
  have ey := (h2 ▸ hh hi (by simp [Op.operands])).int_eq
  refine ⟨.slice none 0 0, ?_, RV.of_leaf rfl (by simp [RC])⟩
  simp [execOp, Instr.sliceAt, Instr.slice, Instr.sliceBounds, Instr.sliceBound, asIntOf, run_underlying hut, ex, ey, run_sizeOf' hsz]

theorem OpS.sliceOwn0 {t : TypeId} {e : Nat} {b : Bool} {o len : Nat} (hl : sliOf P t = some (et, e, b, by_)) (hx : E x = .slo e o [] 0 0 len 1) (h2 : E hi = .int k 0) :
  OpS P ⟨dst, .slice t x none (some hi) none, ty, pos, aft, gd⟩ E H (.slo e o [] 0 0 0 1) H :=
 .quiet fun g rc w hh hr => by
  obtain ⟨hut, hsz, _⟩ := sliOf_get hl
  obtain ⟨p, hp, a, c, ex, hle, hcase⟩ := (hx ▸ hh x (by simp [Op.operands])).slo_eq
  have ey := (h2 ▸ hh hi (by simp [Op.operands])).int_eq
  refine ⟨.slice a 0 c, ?_, RV.of_leaf rfl ?_⟩
  ·have hs : (Instr.sliceBounds true len c none (some (rc hi)) none).run P w = .ok (0, 0, c) w := by
    simp [Instr.sliceBounds, ey, run_bound (show (0 : Int) ≤ 0 by omega) (show (0 : Int) ≤ (c : Int) by omega)]
   have hz : (if c = 0 then a else a.map (·.add (0 * e))) = a := by
    split
    ·rfl
    ·cases a with
     | none => rfl
     | some ad => simp only [Option.map_some, Nat.zero_mul]; rw [show ad.add 0 = ad by cases ad; simp [Addr.add]]
   simp only [Nat.zero_mul] at hz
   simp [execOp, Instr.sliceAt, Instr.slice, run_underlying hut, ex, hs, run_sizeOf' hsz, hz]
  ·simp only [RC]
   exact ⟨p, hp, a, c, rfl, by omega, by simpa using hcase⟩

theorem OpS.appMake {st : TypeId} {e : Nat} {z : V} {n : Int} {q : IntKind} (hst : sliOf P st = some (et, e, eag, by_))
    (hxt : P.underlying xt = some (.int q)) (hz : ZeroV P et z) (hze : flen z = e) (hby : 0 < by_) (hx : E x = .nils) (hy : E y = .int .i64 n) (h0 : 0 < n) (hroom : n * by_ ≤ 140737488355328) (hH : H ++ [.buf e []] = H2) :
    OpS P ⟨dst, .call ⟨.builtin .append, #[x, y], #[st, xt]⟩, ty, pos, aft, gd⟩ E H (.slo e H.length [] 0 0 n.toNat 1) H2 := by
  subst hH
  intro g rc w h hr
  have ex := nils_eq (hx ▸ h x (by simp [Op.operands, Call.operands]))
  have ey := (hy ▸ h y (by simp [Op.operands, Call.operands])).int_eq
  rw [run_append_exec ex ey]
  obtain ⟨hut, hsz, _, hbytes⟩ := sliOf_get hst
  obtain ⟨ti, hti, htb⟩ : ∃ ti, P.info? et = some ti ∧ ti.bytes = by_ := by
    unfold szOf at hsz
    cases hq : P.info? et with
    | none => simp [hq] at hsz
    | some ti => exact ⟨ti, rfl, by simpa [hq] using hbytes⟩
  have hty : ∀ w : World, (typeInfo et).run P w = .ok ti w := by intro w; simp [typeInfo, hti]
  obtain ⟨m, rfl⟩ : ∃ m : Nat, n = (m : Int) := ⟨n.toNat, by omega⟩
  have hm : m * by_ ≤ 140737488355328 := by
    have e1 : ((m : Int) * (by_ : Int)) = ((m * by_ : Nat) : Int) := (Int.natCast_mul m by_).symm
    rw [e1] at hroom; omega
  have hm1 : m ≤ 140737488355328 := Nat.le_trans (Nat.le_mul_of_pos_right m hby) hm
  have hw : IntKind.i64.wrap (m : Int) = (m : Int) := wrap_id (by omega) (by omega)
  have hnc : ¬ (Builtin.nextslicecap m 0 * by_ > 2 ^ 48) := by
    have := nextslicecap_le (need := m) (cap := 0) (by omega)
    have h2 : Builtin.nextslicecap m 0 * by_ ≤ 2 * m * by_ := Nat.mul_le_mul_right _ this
    have h3 : 2 * m * by_ = 2 * (m * by_) := Nat.mul_assoc _ _ _
    omega
  obtain ⟨zv, hzv, hv2, _⟩ := hz.run w.drew g
  have hzs : zv.cells.size = e := by rw [← hze, ← hv2.len]; simp
  have hneg : ¬ ((m : Int) < 0) := by omega
  have hbig : ¬ ((m : Int) * (by_ : Int) > 2 ^ 48) := by have : ((m : Int) * (by_ : Int)) = ((m * by_ : Nat) : Int) := (Int.natCast_mul m by_).symm
                                                         rw [this]; omega
  have hfit : ¬ (m ≤ 0) := by omega
  have hmax : ¬ ((m : Int) > IntKind.i64.max) := by
    have : IntKind.i64.max = 9223372036854775807 := by decide
    omega
  have hdrew : ({ w with drawn := w.drawn + 1 } : World) = w.drew := rfl
  generalize hcap : (Question.appendCap m 0 et).cut (w.tape w.drawn (.appendCap m 0 et)) = newCap
  have hnc2 : m ≤ newCap := by rw [← hcap]; simp only [Question.cut]; omega
  let new : Array Value := if m * e = 0 then #[] else Builtin.zeroCells zv.cells m
  have hnew : new.size = m * e := by
    show (if m * e = 0 then #[] else Builtin.zeroCells zv.cells m).size = _
    split
    · rename_i h; simp [h]
    · rw [zeroCells_size, hzs]
  have hrun : (Builtin.append_ #[st, xt] ty #[.slice none 0 0, .int .i64 (m : Int)]).run P w =
      .ok (.slice (some ⟨w.heap.size, 0, none⟩) m newCap) (w.drew.alloc (.cells (#[] ++ new ++ Builtin.zeroCells zv.cells (newCap - m)) et)) := by
    have hap : (if m * e = 0 then pure #[] else (do pure (Builtin.zeroCells (← zeroValue et).cells m) : Sem (Array Value))).run P w.drew = .ok new w.drew := by
      show _ = Result.ok (if m * e = 0 then #[] else Builtin.zeroCells zv.cells m) w.drew
      split
      · rfl
      · simp [hzv]
    unfold Builtin.append_
    simp only [List.getElem?_toArray, List.getElem?_cons_zero, List.getElem?_cons_succ, Sem.run_bind, run_underlying hut, Result.andThen_ok, run_sizeOf' hsz, run_underlying hxt, Sem.run_pure, if_true,
      asInt, asIntOf, hw, hneg, if_false, hty, htb, hbig, Int.toNat_natCast, Nat.zero_add, hfit, hmax, false_and, hnc, run_choose, Question.forced, hdrew, hcap, run_askRoom, Bool.not_true, Bool.false_eq_true, hap, hzv, newRow, run_newObj, Builtin.firstCells]
    rfl
  rw [hrun]
  simp only [Result.andThen_ok]
  have hr1 : HR g H w.drew := hr.drew rfl
  have hev1 : Ev g H w g H w.drew := Ev.drew rfl rfl rfl rfl (by show w.drawn ≤ w.drawn + 1; omega)
  let p : Place := ⟨w.heap.size, 0, newCap * e, false⟩
  have hb := heap_alloc_eq w.drew (.cells (#[] ++ new ++ Builtin.zeroCells zv.cells (newCap - m)) et)
  have hws : w.drew.heap.size = w.heap.size := rfl
  rw [hws] at hb
  have hcs : (#[] ++ new ++ Builtin.zeroCells zv.cells (newCap - m)).size = newCap * e := by
    have h1 : (#[] ++ new ++ Builtin.zeroCells zv.cells (newCap - m)).size = new.size + (Builtin.zeroCells zv.cells (newCap - m)).size := by simp
    rw [h1, hnew, zeroCells_size, hzs, ← Nat.add_mul]
    congr 1; omega
  refine ⟨{ g with ρ := g.ρ ++ [p] }, ?_, hr1.alloc _ _ p rfl ?_, hev1.trans (.alloc hr1 _ _ p rfl)⟩
  · refine RV.of_leaf rfl ?_
    simp only [RC]
    refine ⟨p, ?_, some ⟨w.heap.size, 0, none⟩, newCap, by simp, by simpa using hnc2, .inr ⟨by simp [p], fun _ => ⟨rfl, by simp [p]⟩⟩⟩
    show (g.ρ ++ [p])[H.length]? = some p
    rw [← hr.len]; simp
  · exact .inr ⟨rfl, _, et, hb, ⟨[], (#[] ++ new ++ Builtin.zeroCells zv.cells (newCap - m)).toList, by simp, by simp [RCu]⟩, hcs, fun i => hr.fresh (Nat.le_refl _) i⟩
end
/-- Room that is asked for. -/
def mkM (b : Nat) (n : Int) : Option Unit := if 0 < n ∧ n * (b : Int) ≤ 140737488355328 then some () else none
theorem mkM_get {b : Nat} {n : Int} {u : Unit} (h : mkM b n = some u) : 0 < n ∧ n * (b : Int) ≤ 140737488355328 := by
 unfold mkM at h
 split at h
 ·assumption
 ·cases h

theorem Ok.spl {α : Type} {b : Bool} {X Y : Option α} {K : α → Prop} {p : Prop} (h : Ok (if b = true then X else Y) K) (t : b = true → Ok X K → p) (f : b = false → Ok Y K → p) : p := by
 cases hb : b with
 | true => exact t hb (h.t hb)
 | false => exact f hb (h.ff hb)

section
variable {F : List AObj → Prop} {draw : Bool} {P : Program} {ops : Array Oper} {n i : Nat} {ord l : List Nat} {acc : List Kd} {Q : AEx → St → Prop} {o : Oper} {v : V} {E : List (Nat × V)} {H : List AObj}
/-- A guard that is known to be met. -/
theorem S.ysil (d j d' : Nat) (want : Bool) (ho : ops[i]? = some o) (hd : dstG n d j want o = true) (hj : guardDst ops j = some d') (hb : look E d' = .bool want)
  (h : ∀ H, F H → OpS P o (ev E) H v H) (t : Run F draw P ops n ord l (.sil :: acc) Q ⟨(d, v) :: E, H⟩) : Run F draw P ops n ord (i :: l) acc Q ⟨E, H⟩ := by
 obtain ⟨h1, hg, h3⟩ := dstG_get hd
 have := Run.cons (F := F) (acc := acc) (Q := Q) (draw := draw) (ord := ord) (l := l) ho (.gsil ⟨E, H⟩ v j d' want True hg hj (fun _ => hb) (fun e => absurd trivial e) h3 (fun _ => h)) id
 rw [h1, if_pos trivial] at this
 exact this t
theorem S.yqui (d j d' : Nat) (want : Bool) (ho : ops[i]? = some o) (hd : dstG n d j want o = true) (hj : guardDst ops j = some d') (hb : look E d' = .bool want)
  (h : ∀ X, OpS P o (ev E) (H ++ X) v (H ++ X)) (t : Run F draw P ops n ord l (.qui :: acc) Q ⟨(d, v) :: E, H⟩) : Run F draw P ops n ord (i :: l) acc Q ⟨E, H⟩ := by
 obtain ⟨h1, hg, h3⟩ := dstG_get hd
 have := Run.cons (F := F) (acc := acc) (Q := Q) (draw := draw) (ord := ord) (l := l) ho (.gqui ⟨E, H⟩ v j d' want True hg hj (fun _ => hb) (fun e => absurd trivial e) h3 (fun _ => h)) id
 rw [h1, if_pos trivial] at this
 exact this t
theorem S.yeff (d j d' : Nat) (want : Bool) (ho : ops[i]? = some o) (hd : dstG n d j want o = true) (hj : guardDst ops j = some d') (hb : look E d' = .bool want)
  (h : OpS P o (ev E) H v H') (hF : F H') (t : Run F draw P ops n ord l (.eff :: acc) Q ⟨(d, v) :: E, H'⟩) : Run F draw P ops n ord (i :: l) acc Q ⟨E, H⟩ := by
 obtain ⟨h1, hg, h3⟩ := dstG_get hd
 have := Run.cons (F := F) (acc := acc) (Q := Q) (draw := draw) (ord := ord) (l := l) ho (.gyes ⟨E, H⟩ v H' j d' want hg hj hb h3 h) (fun _ => hF)
 rw [h1] at this
 exact this t
/-- A guard that is known not to be met. -/
theorem S.gno (d j d' : Nat) (want : Bool) {b : Bool} (ho : ops[i]? = some o) (hd : dstG n d j want o = true) (hj : guardDst ops j = some d') (hb : look E d' = .bool b) (hne : b = !want)
  (t : Run F draw P ops n ord l (.sil :: acc) Q ⟨(d, .tup []) :: E, H⟩) : Run F draw P ops n ord (i :: l) acc Q ⟨E, H⟩ := by
 obtain ⟨h1, hg, h3⟩ := dstG_get hd
 have := Run.cons (P := P) (F := F) (acc := acc) (Q := Q) (draw := draw) (ord := ord) (l := l) ho (Stp.gno (P := P) ⟨E, H⟩ j d' want hg hj (.inl (by rw [hb, hne])) h3) id
 rw [h1] at this
 exact this t
end

/-- Maps from whole numbers to values that are told. -/
def encC (es : List (Int × V)) : List (V × V) := es.map fun p => (.int .i64 p.1, p.2)
def i64M (k : Int) : Option Unit := if inI64 k = true then some () else none
theorem i64M_get {k : Int} {u : Unit} (h : i64M k = some u) : inI64 k = true := by
 unfold i64M at h
 split at h
 ·assumption
 ·cases h
theorem keyC_ok {P : Program} {k : TypeId} (hk : P.underlying k = some (.int .i64)) {a : Int} (h : inI64 a = true) : keyOk P k (.int .i64 a) := ⟨.int .i64 a, .int .i64 a, rfl, Maps.keyOf_int_mk hk (inI64_wf h)⟩
theorem flat_int {a b : Int} : flatV (V.int .i64 a) = flatV (V.int .i64 b) ↔ a = b := by
 constructor
 ·intro h
  have : (some (Value.int .i64 a)) = some (Value.int .i64 b) := h
  cases this; rfl
 ·rintro rfl; rfl
section
variable {P : Program} {E : Operand → V} {H : List AObj} {dst : Option Tmp} {ty : TypeId} {pos : String} {aft : Array Edge} {gd : Option (Nat × Bool)}
theorem encC_ok {k : TypeId} (hk : P.underlying k = some (.int .i64)) {es : List (Int × V)} (h : (es.map (·.1)).all inI64 = true) : ∀ p ∈ encC es, keyOk P k p.1 := by
 rintro p hp
 obtain ⟨q, hq, rfl⟩ := List.mem_map.1 hp
 exact keyC_ok hk (List.all_eq_true.1 h _ (List.mem_map_of_mem hq))
theorem encC_nd {es : List (Int × V)} (h : (es.map (·.1)).Nodup) : ((encC es).map fun p => flatV p.1).Nodup := by
 have e : ((encC es).map fun p => flatV p.1) = (es.map (·.1)).map fun a => some (Value.int .i64 a) := by
  simp only [encC, List.map_map]; rfl
 rw [e]
 exact List.Pairwise.map _ (fun a b hab hc => hab (by simpa using hc)) h
theorem OpS.insC {t k : TypeId} {m i : Operand} {o : Nat} {es : List (Int × V)} {a : Int} {xv : V} (hu : P.underlying t = some (.map k et)) (hk : P.underlying k = some (.int .i64)) (hm : E m = .map o) (hi : E i = .int .i64 a) (hx : E x = xv)
  (ho : H[o]? = some (.map (encC es))) (ha : inI64 a = true) (hall : (es.map (·.1)).all inI64 = true) (hnd : (es.map (·.1)).Nodup) (hn : (es.map (·.1)).all (fun b => !decide (b = a)) = true) (hH : H.set o (.map (encC (es ++ [(a, xv)]))) = H2) :
  OpS P ⟨dst, .insert t m i x, ty, pos, aft, gd⟩ E H .undef H2 := by
 subst hH
 have e : encC (es ++ [(a, xv)]) = encC es ++ [(.int .i64 a, xv)] := by simp [encC]
 rw [e]
 refine .insert hu (Maps.int_keyed hk) hm hi hx ho (keyC_ok hk ha) (encC_ok hk hall) (encC_nd hnd) (.new ?_)
 rintro p hp
 obtain ⟨q, hq, rfl⟩ := List.mem_map.1 hp
 have := List.all_eq_true.1 hn _ (List.mem_map_of_mem hq)
 intro hc
 exact absurd (flat_int.1 hc) (by simpa using this)
theorem getC {es : List (Int × V)} {a : Int} {v : V} (h : (a, v) ∈ es) : GetM (encC es) (.int .i64 a) (some v) := .some (k' := .int .i64 a) (List.mem_map.2 ⟨_, h, rfl⟩) rfl
theorem getC0 {es : List (Int × V)} {a : Int} (h : (es.map (·.1)).all (fun b => !decide (a = b)) = true) : GetM (encC es) (.int .i64 a) none := by
 refine .none ?_
 rintro p hp
 obtain ⟨q, hq, rfl⟩ := List.mem_map.1 hp
 have := List.all_eq_true.1 h _ (List.mem_map_of_mem hq)
 intro hc
 exact absurd (flat_int.1 hc).symm (by simpa using this)
theorem OpS.lookC {t k : TypeId} {m i : Operand} {o : Nat} {es : List (Int × V)} {a a0 : Int} {v z : V} (hu : P.underlying t = some (.map k et)) (hk : P.underlying k = some (.int .i64)) (hz : ZeroV P et z) (hm : E m = .map o) (hi : E i = .int .i64 a)
  (ho : H[o]? = some (.map (encC es))) (ha : inI64 a = true) (hall : (es.map (·.1)).all inI64 = true) (hnd : (es.map (·.1)).Nodup) (he : a = a0) (hr : (a0, v) ∈ es) (hok : okV v = true) :
  OpS P ⟨dst, .lookup t m i true, ty, pos, aft, gd⟩ E H (.tup [v, .bool true]) H := by
 subst he
 exact .lookup hu (Maps.int_keyed hk) hz hm hi ho (keyC_ok hk ha) (encC_ok hk hall) (encC_nd hnd) (getC hr) hok
theorem OpS.lookC0 {t k : TypeId} {m i : Operand} {o : Nat} {es : List (Int × V)} {a : Int} {z : V} (hu : P.underlying t = some (.map k et)) (hk : P.underlying k = some (.int .i64)) (hz : ZeroV P et z) (hm : E m = .map o) (hi : E i = .int .i64 a)
  (ho : H[o]? = some (.map (encC es))) (ha : inI64 a = true) (hall : (es.map (·.1)).all inI64 = true) (hnd : (es.map (·.1)).Nodup) (hr : (es.map (·.1)).all (fun b => !decide (a = b)) = true) (hok : okV z = true) :
  OpS P ⟨dst, .lookup t m i true, ty, pos, aft, gd⟩ E H (.tup [z, .bool false]) H :=
 .lookup hu (Maps.int_keyed hk) hz hm hi ho (keyC_ok hk ha) (encC_ok hk hall) (encC_nd hnd) (getC0 hr) hok
/-- A map asked for a value alone. -/
theorem OpS.lookV {t k : TypeId} {m i : Operand} {o : Nat} {es : List (Int × V)} {a a0 : Int} {v z : V} (hu : P.underlying t = some (.map k et)) (hk : P.underlying k = some (.int .i64)) (hz : ZeroV P et z) (hm : E m = .map o) (hi : E i = .int .i64 a)
  (ho : H[o]? = some (.map (encC es))) (ha : inI64 a = true) (hall : (es.map (·.1)).all inI64 = true) (hnd : (es.map (·.1)).Nodup) (he : a = a0) (hr : (a0, v) ∈ es) (hok : okV v = true) :
  OpS P ⟨dst, .lookup t m i false, ty, pos, aft, gd⟩ E H v H := by
 subst he
 exact .quiet fun g rc w h hH => by
  obtain ⟨p, q1, q2⟩ := (hm ▸ h m (by simp [Op.operands])).map_eq
  have hx := hi ▸ h i (by simp [Op.operands])
  obtain ⟨ents, clock, b1, b2, b3⟩ := hH.obj o p _ q1 ho
  have K := Maps.int_keyed hk
  have hkk := keyC_ok hk ha
  obtain ⟨_, hf, hkey⟩ := hkk.get hx
  have hchk := K.check w ents.isEmpty hkey
  have hes := encC_ok hk hall
  rcases run_find K b2 hx hkk hes (encC_nd hnd) (w := w) with ⟨f1, f2⟩ | ⟨j, e, pr, f1, f2, f3, f4, f5, f6, f7⟩
  ·cases getC hr with
   | some h' he => exact absurd he (f2 _ h')
  ·have h' : ((V.int .i64 a, v) : V × V) ∈ encC es := List.mem_map.2 ⟨_, hr, rfl⟩
   have := nodup_get (f := fun p : V × V => flatV p.1) (encC_nd hnd) (List.mem_of_getElem? f3) h' f7
   subst this
   exact ⟨e.val, by simp [execOp, Instr.lookup, run_underlying hu, q2, MapKept.run_getObj_map b1, hchk, f1], f5⟩
theorem cNm {env : List (Nat × V)} : ev env (.const (.map none)) = .nilmap := rfl
/-- A choice that is known. -/
theorem OpS.pickT {c : Operand} {v : V} (hc : E c = .bool true) (hx : E x = v) : OpS P ⟨dst, .pick c x y, ty, pos, aft, gd⟩ E H v H := .pick hc (fun _ => by rw [hx]; exact .refl _) (fun e => by cases e)
theorem OpS.pickF {c : Operand} {v : V} (hc : E c = .bool false) (hy : E y = v) : OpS P ⟨dst, .pick c x y, ty, pos, aft, gd⟩ E H v H := .pick hc (fun e => by cases e) (fun _ => by rw [hy]; exact .refl _)
end
end
section
variable {H2 : List AObj}

section
variable {P : Program} {E : Operand → V} {H : List AObj} {dst : Option Tmp} {ty : TypeId} {pos : String} {aft : Array Edge} {gd : Option (Nat × Bool)}
theorem OpS.buildOwn {t : TypeId} {len : Nat} {e : Nat} {b : Bool} {z : V} {vs0 vs : List V} (hl : sliOf P t = some (et, e, b, by_)) (hz : ZeroV P et z) (hze : flen z = e) (hlen : vs.length = len) (hsm : len * e ≤ 2 ^ 24)
  (hpw : ValsW E e parts.toList 0 vs0 vs) (hH : H ++ [.buf e vs] = H2) : OpS P ⟨dst, .buildSlice t len parts, ty, pos, aft, gd⟩ E H (.slo e H.length [] 0 0 len 1) H2 := by
 subst hH
 have hlen0 : vs0.length = len := hpw.spec.2.len.trans hlen
 obtain ⟨hp, hok⟩ := hpw.spec.1.spec
 intro g rc w h hr
 obtain ⟨hut, hsz, _, _⟩ := sliOf_get hl
 obtain ⟨val, h1, h2, h3⟩ := hz.run w g
 have hvs : val.cells.size = e := by rw [← hze, ← h2.len]; simp
 have hpr := partsRel (E := E) (rc := rc) (parts := parts) (g := g) fun x hx => h x (by simpa [Op.operands] using hx)
 rw [hp] at hpr
 have key : ∀ zz : Array Value, ∃ cells' c, Instr.fill (fun i => some (i * e, e)) ((Array.range (len * e)).map (zz[· % zz.size]!)) (parts.map fun (i, x) => (i, rc x)).toList = some cells' ∧ cells'.toList = c ∧ RCu g e vs0 c := by
  intro zz
  obtain ⟨cells', c, q1, q2, q3⟩ := fill_seq (g := g) (e := e) (vs := vs0) (k := 0) (done := []) (junk := ((Array.range (len * e)).map (zz[· % zz.size]!)).toList) (cells := (Array.range (len * e)).map (zz[· % zz.size]!)) (by simp) (by simp) (by simp [hlen0]) hok hpr
  exact ⟨cells', c, q1, by simpa using q2, q3⟩
 have hrun : ∃ (cells' : Array Value) (c : List Value), cells'.toList = c ∧ RCu g e vs0 c ∧ (execOp rc ⟨dst, .buildSlice t len parts, ty, pos, aft, gd⟩).run P w = .ok (.value (.slice (some ⟨w.heap.size, 0, none⟩) len len)) (w.alloc (.cells cells' et)) := by
  by_cases h0 : len * e = 0
  ·obtain ⟨cells', c, q1, q2, q3⟩ := key #[]
   refine ⟨cells', c, q2, q3, ?_⟩
   simp only [execOp, Instr.buildSlice, Sem.run_bind, run_underlying hut, Result.andThen_ok, run_sizeOf' hsz]
   rw [if_neg (by omega), if_pos h0]
   simp only [Sem.run_bind, Sem.run_pure, Result.andThen_ok]
   rw [q1]
   simp [newRow]
  ·obtain ⟨cells', c, q1, q2, q3⟩ := key val.cells
   refine ⟨cells', c, q2, q3, ?_⟩
   simp only [execOp, Instr.buildSlice, Sem.run_bind, run_underlying hut, Result.andThen_ok, run_sizeOf' hsz]
   rw [if_neg (by omega), if_neg h0]
   simp only [Sem.run_bind, Sem.run_pure, Result.andThen_ok, h1]
   rw [q1]
   simp [newRow]
 obtain ⟨cells', c, q1, q2, hrun⟩ := hrun
 rw [hrun]
 have q3 : RCu g e vs c := hpw.spec.2.rcu q2
 have hcl : cells'.size = len * e := by
  have := q3.len
  rw [← q1] at this
  simpa [hlen] using this
 let p : Place := ⟨w.heap.size, 0, len * e, false⟩
 have hb := heap_alloc_eq w (.cells cells' et)
 refine ⟨{ g with ρ := g.ρ ++ [p] }, ?_, hr.alloc _ _ p rfl ?_, .alloc hr _ _ p rfl⟩
 ·refine RV.of_leaf rfl ?_
  simp only [RC]
  refine ⟨p, ?_, some ⟨w.heap.size, 0, none⟩, len, rfl, Nat.le_refl _, .inr ⟨by simp [p], fun _ => ⟨rfl, by simp [p]⟩⟩⟩
  show (g.ρ ++ [p])[H.length]? = some p
  rw [← hr.len]; simp
 ·exact .inr ⟨rfl, cells', et, hb, ⟨c, [], by simp [q1], q3.mono (g.le_push _)⟩, hcl, fun i => hr.fresh (Nat.le_refl _) i⟩
end
end
theorem bl_nil (x : List UInt8) : Op.bytesLess x [] = false := by cases x <;> rfl
theorem bl_cons (a b : UInt8) (x y : List UInt8) : Op.bytesLess (a :: x) (b :: y) = true ↔ a.toNat < b.toNat ∨ (a.toNat = b.toNat ∧ Op.bytesLess x y = true) := by
 simp only [Op.bytesLess, Bool.or_eq_true, Bool.and_eq_true, decide_eq_true_eq, beq_iff_eq, UInt8.lt_iff_toNat_lt, ← UInt8.toNat_inj]
theorem bl_trans : ∀ x y z : List UInt8, Op.bytesLess x y = true → Op.bytesLess y z = true → Op.bytesLess x z = true
 | _, y, [], _, k => by rw [bl_nil] at k; cases k
 | _, [], _ :: _, h, _ => by rw [bl_nil] at h; cases h
 | [], _ :: _, _ :: _, _, _ => rfl
 | a :: x, b :: y, c :: z, h, k => by
  rw [bl_cons] at h k ⊢
  rcases h with h | ⟨h1, h2⟩
  ·rcases k with k | ⟨k1, k2⟩
   ·exact .inl (by omega)
   ·exact .inl (by omega)
  ·rcases k with k | ⟨k1, k2⟩
   ·exact .inl (by omega)
   ·exact .inr ⟨by omega, bl_trans x y z h2 k2⟩
theorem bl_tri : ∀ x y : List UInt8, Op.bytesLess x y = false → Op.bytesLess y x = false → x = y
 | [], [], _, _ => rfl
 | [], _ :: _, h, _ => by cases h
 | _ :: _, [], _, h => by cases h
 | a :: x, b :: y, h, k => by
  have h' := mt (bl_cons a b x y).2 (by rw [h]; decide)
  have k' := mt (bl_cons b a y x).2 (by rw [k]; decide)
  have e : a = b := UInt8.toNat_inj.1 (by omega)
  subst e
  have h2 : Op.bytesLess x y = false := Bool.eq_false_iff.2 fun q => h' (.inr ⟨rfl, q⟩)
  have k2 : Op.bytesLess y x = false := Bool.eq_false_iff.2 fun q => k' (.inr ⟨rfl, q⟩)
  rw [bl_tri x y h2 k2]
theorem bLs_trans {x y z : ByteArray} (h : bLs x y = true) (k : bLs y z = true) : bLs x z = true := bl_trans _ _ _ h k
theorem byteArray_toList_inj {x y : ByteArray} (h : x.toList = y.toList) : x = y := by
 have := str_beq x y
 rw [h] at this
 simpa using this
theorem bLs_tri {x y : ByteArray} (h : bLs x y = false) (k : bLs y x = false) : x = y := byteArray_toList_inj (bl_tri _ _ h k)
section
variable {a : Act}

/-- The step 'b' waits for the step 'a'. -/
def addE (ops : Array Oper) (a b : Nat) : Array Oper := (ops.toList.modify b fun o => { o with after := o.after.push ⟨a, .data⟩ }).toArray
theorem addE_size (ops : Array Oper) (a b : Nat) : (addE ops a b).size = ops.size := by simp [addE]
theorem addE_get (ops : Array Oper) (a b i : Nat) : (addE ops a b)[i]? = (ops[i]?).map fun o => if b = i then { o with after := o.after.push ⟨a, .data⟩ } else o := by
 unfold addE
 rw [List.getElem?_toArray, List.getElem?_modify, Array.getElem?_toList]
 by_cases h : b = i
 ·simp [h]
 ·simp [h]
theorem addE_yielded (ops : Array Oper) (a b : Nat) (t : Array Value) (j : Nat) : yielded (addE ops a b) t j = yielded ops t j := by
 unfold yielded
 rw [addE_get]
 cases ops[j]? with
 | none => rfl
 | some o => by_cases h : b = j <;> simp [h]
theorem addE_op {a b : Nat} {Q : Exit → Act → World → Prop} {K : Act → World → Prop} {x : Act} (h : wpOp P (addE ops a b) Q i K x w) : wpOp P ops Q i K x w := by
 unfold wpOp at h ⊢
 rw [addE_get] at h
 have hy : yielded (addE ops a b) x.tmps = yielded ops x.tmps := funext (addE_yielded ops a b x.tmps)
 rw [hy] at h
 cases ho : ops[i]? with
 | none => rw [ho] at h; exact h
 | some o =>
  rw [ho] at h
  by_cases e : b = i
  ·simp only [Option.map_some, if_pos e] at h
   exact h
  ·simp only [Option.map_some, if_neg e] at h
   exact h
def plainOp (o : Oper) : Bool := match o.op with | .alloc _ => true | .fieldAddr .. => true | .load .. => true | .store .. => true | .move _ => true | .assign _ => true | .build .. => true | .makeSlice .. => true | .buildSlice .. => true | .indexAddr .. => true | _ => false
def plainRes : Result Next → Prop
 | .ok (.value _) _ => True
 | .ok .skip _ => True
 | .halt _ _ => True
 | _ => False
theorem plain_v {s : Sem Value} : plainRes ((do pure (Next.value (← s)) : Sem Next).run P w) := by
 simp only [Sem.run_bind]
 cases s.run P w <;> trivial
theorem plain_u {s : Sem Unit} : plainRes ((do s; pure Next.skip : Sem Next).run P w) := by
 simp only [Sem.run_bind]
 cases s.run P w <;> trivial
theorem plain_res {o : Oper} {r : Operand → Value} (h : plainOp o = true) : plainRes ((execOp r o).run P w) := by
 unfold plainOp at h
 unfold execOp
 split at h
 ·rename_i e; simp only [e]; exact plain_v
 ·rename_i e; simp only [e]; exact plain_v
 ·rename_i e; simp only [e]; exact plain_v
 ·rename_i e; simp only [e]; exact plain_u
 ·rename_i e; simp only [e]; trivial
 ·rename_i e; simp only [e]; trivial
 ·rename_i e; simp only [e]; exact plain_v
 ·rename_i e; simp only [e]; exact plain_v
 ·rename_i e; simp only [e]; exact plain_v
 ·rename_i e; simp only [e]; exact plain_v
 ·cases h
theorem wp_and {o : Oper} {Q : Exit → Act → World → Prop} {K L : Act → World → Prop} (h : plainOp o = true) (h1 : o.wp P a w K Q) (h2 : o.wp P a w L Q) : o.wp P a w (fun a w => K a w ∧ L a w) Q := by
 unfold Oper.wp at *
 have hp := plain_res (P := P) (r := a.eval) (w := w) h
 generalize (execOp a.eval o).run P w = r at *
 cases r with
 | ok n w' => cases n <;> first | exact hp.elim | exact ⟨h1, h2⟩
 | halt x w' => cases x <;> exact h1
theorem wpOp_and {Q : Exit → Act → World → Prop} {K L : Act → World → Prop} (h : ∀ o, ops[i]? = some o → plainOp o = true) (h1 : wpOp P ops Q i K a w) (h2 : wpOp P ops Q i L a w) : wpOp P ops Q i (fun a w => K a w ∧ L a w) a w := by
 unfold wpOp at *
 cases ho : ops[i]? with
 | none => rw [ho] at h1 h2; exact ⟨h1, h2⟩
 | some o =>
  rw [ho] at h1 h2
  simp only [] at h1 h2 ⊢
  by_cases c : Region.wanted o (yielded ops a.tmps) = true
  ·rw [if_pos c] at h1 h2 ⊢
   rcases h1 with h1 | h1
   ·rcases h2 with h2 | h2
    ·exact .inl (wp_and (h o ho) h1 h2)
    ·exact .inr h2
   ·exact .inr h1
  ·rw [if_neg c] at h1 h2 ⊢
   exact ⟨h1, h2⟩
theorem ready_iff (ops : Array Oper) (l : Array Bool) (i : Nat) : i ∈ Region.ready .any ops l ↔ i < ops.size ∧ l.getD i true = false ∧ ∃ o, ops[i]? = some o ∧ ∀ e ∈ o.after, Region.binds .any e = true → l.getD e.on false = true := by
 refine ⟨ready_mem, ?_⟩
 rintro ⟨h1, h2, o, h3, h4⟩
 unfold Region.ready
 simp only [List.mem_filter, List.mem_range, Bool.and_eq_true, Bool.not_eq_true']
 refine ⟨h1, h2, ?_⟩
 rw [h3]
 simp only [Option.map_some, Option.getD_some, Array.all_eq_true', Bool.or_eq_true, Bool.not_eq_true']
 intro e he
 cases hb : Region.binds .any e with
 | false => exact .inl rfl
 | true => exact .inr (h4 e he hb)
theorem ready_add (ops : Array Oper) (a b : Nat) (l : Array Bool) (i : Nat) : i ∈ Region.ready .any (addE ops a b) l ↔ i ∈ Region.ready .any ops l ∧ (i = b → l.getD a false = true) := by
 rw [ready_iff, ready_iff, addE_size, addE_get]
 constructor
 ·rintro ⟨h1, h2, o, h3, h4⟩
  cases ho : ops[i]? with
  | none => rw [ho] at h3; cases h3
  | some o' =>
   rw [ho] at h3
   by_cases e : b = i
   ·simp only [Option.map_some, if_pos e, Option.some.injEq] at h3
    subst h3
    exact ⟨⟨h1, h2, o', rfl, fun x hx hb => h4 x (by simp [hx]) hb⟩, fun _ => h4 ⟨a, .data⟩ (by simp) rfl⟩
   ·simp only [Option.map_some, if_neg e, Option.some.injEq] at h3
    subst h3
    exact ⟨⟨h1, h2, o', rfl, h4⟩, fun q => (e q.symm).elim⟩
 ·rintro ⟨⟨h1, h2, o, h3, h4⟩, h5⟩
  rw [h3]
  by_cases e : b = i
  ·refine ⟨h1, h2, _, rfl, fun x hx hb => ?_⟩
   simp only [if_pos e] at hx
   rcases Array.mem_push.1 hx with hx | hx
   ·exact h4 x hx hb
   ·subst hx; exact h5 e.symm
  ·refine ⟨h1, h2, _, rfl, fun x hx hb => ?_⟩
   simp only [if_neg e] at hx
   exact h4 x hx hb
theorem any_done {P : Program} {ops : Array Oper} {a b : Nat} {Q : Exit → Act → World → Prop} : ∀ (k : Nat) (l : Array Bool) (x : Act) (w : World), l.getD a false = true → wpAny P .any (addE ops a b) Q k l x w → wpAny P .any ops Q k l x w
 | 0, l, x, w, ha, h => by
  have e : Region.ready .any ops l = [] := List.eq_nil_iff_forall_not_mem.2 fun i hi => by
   have := (ready_add ops a b l i).2 ⟨hi, fun _ => ha⟩
   rw [h.1] at this; cases this
  exact ⟨e, h.2⟩
 | k + 1, l, x, w, ha, h => by
  refine ⟨fun e => h.1 (List.eq_nil_iff_forall_not_mem.2 fun i hi => ?_), fun i hi => ?_⟩
  ·have := ((ready_add ops a b l i).1 hi).1
   rw [e] at this; cases this
  ·refine wpOp_mono (fun y v hy => any_done k _ y v ?_ hy) (addE_op (h.2 i ((ready_add ops a b l i).2 ⟨hi, fun _ => ha⟩)))
   simp only [Array.getD_eq_getD_getElem?] at ha ⊢
   by_cases e : i = a
   ·subst e
    have : i < l.size := by
     refine Classical.byContradiction fun q => ?_
     rw [Array.getElem?_eq_none (by omega)] at ha; cases ha
    simp [this]
   ·rw [Array.getElem?_setIfInBounds_ne e]; exact ha
theorem any_either {P : Program} {ops : Array Oper} {a b : Nat} (hab : a ≠ b) (hpl : ∀ (i : Nat) (o : Oper), ops[i]? = some o → plainOp o = true) {Q : Exit → Act → World → Prop} : ∀ (k : Nat) (l : Array Bool) (x : Act) (w : World), l.size = ops.size → left l ≤ k → wpAny P .any (addE ops a b) Q k l x w → wpAny P .any (addE ops b a) Q k l x w → wpAny P .any ops Q k l x w
 | 0, l, x, w, hs, hl, h1, h2 => by
  refine ⟨List.eq_nil_iff_forall_not_mem.2 fun i hi => ?_, h1.2⟩
  have := (ready_iff ops l i).1 hi
  have hL := left_zero (Nat.le_zero.1 hl) i (by omega)
  unfold isL at hL
  rw [Array.getD_eq_getD_getElem?, Array.getElem?_eq_getElem (by omega)] at hL
  have := this.2.1
  rw [Array.getD_eq_getD_getElem?, Array.getElem?_eq_getElem (by omega)] at this
  simp only [Option.getD_some] at hL this
  rw [hL] at this; cases this
 | k + 1, l, x, w, hs, hl, h1, h2 => by
  refine ⟨fun e => h1.1 (List.eq_nil_iff_forall_not_mem.2 fun i hi => ?_), fun i hi => ?_⟩
  ·have := ((ready_add ops a b l i).1 hi).1
   rw [e] at this; cases this
  ·have hr := (ready_iff ops l i).1 hi
   have hil : i < l.size := by omega
   have hfalse : l[i]? = some false := by
    have h2 := hr.2.1
    rw [Array.getD_eq_getD_getElem?, Array.getElem?_eq_getElem hil] at h2
    simp at h2
    rw [Array.getElem?_eq_getElem hil, h2]
   have hset : ∀ j, j = i → (l.setIfInBounds i true).getD j false = true := fun j e => by subst e; simp [Array.getD_eq_getD_getElem?, hil]
   have hlt := left_set hfalse
   by_cases ea : i = a
   ·have m1 : i ∈ Region.ready .any (addE ops a b) l := (ready_add ops a b l i).2 ⟨hi, fun e => (hab (ea ▸ e)).elim⟩
    exact wpOp_mono (fun y v hy => any_done k _ y v (hset a ea.symm) hy) (addE_op (h1.2 i m1))
   ·by_cases eb : i = b
    ·have m2 : i ∈ Region.ready .any (addE ops b a) l := (ready_add ops b a l i).2 ⟨hi, fun e => (ea e).elim⟩
     exact wpOp_mono (fun y v hy => any_done k _ y v (hset b eb.symm) hy) (addE_op (h2.2 i m2))
    ·have m1 : i ∈ Region.ready .any (addE ops a b) l := (ready_add ops a b l i).2 ⟨hi, fun e => (eb e).elim⟩
     have m2 : i ∈ Region.ready .any (addE ops b a) l := (ready_add ops b a l i).2 ⟨hi, fun e => (ea e).elim⟩
     refine wpOp_mono (fun y v hy => any_either hab hpl k _ y v (by simpa using hs) (by omega) hy.1 hy.2) (wpOp_and (hpl i) (addE_op (h1.2 i m1)) (addE_op (h2.2 i m2)))
/-- A region of plain steps that draws its order, two of which are in no order: told for each of both. -/
theorem W.regE {n : Nat} {Q : AEx → St → Prop} {s : St} (a b : Nat) (ord1 ord2 : List Nat) (F : List AObj → Prop) (hF : F s.H) (hm : P.follows .mixedOrders = true) (hab : (a != b) = true) (hpl : ops.all plainOp = true)
  (h1 : Run F true P (addE ops a b) n ord1 ord1 [] Q s) (h2 : Run F true P (addE ops b a) n ord2 ord2 [] Q s) : AWp P n m (.region id ops true) Q s := by
 intro B g x w b1 b2 r1 r2 r3
 obtain ⟨s1, ks1, st1, d1, q1⟩ := h1 hF
 obtain ⟨s2, ks2, st2, d2, q2⟩ := h2 hF
 have hp : ∀ (i : Nat) (o : Oper), ops[i]? = some o → plainOp o = true := fun i o h => by
  have := Array.all_eq_true.1 hpl i (Array.getElem?_eq_some_iff.1 h).1
  rw [(Array.getElem?_eq_some_iff.1 h).2] at this
  exact this
 refine wp_region_any hm (any_either (a := a) (b := b) (by simpa using hab) hp _ _ _ _ (by simp) (by rw [left_start]; exact Nat.le_refl _) ?_ ?_)
 ·rw [← addE_size ops a b]
  exact st1.anyD (by simpa using d1.resolve_left (by simp)) r1 r2 (fun g' a' w' k1 k2 k3 => ⟨g', s1, .normal, q1, trivial, k1, k2, r3.trans k3⟩)
 ·rw [← addE_size ops b a]
  exact st2.anyD (by simpa using d2.resolve_left (by simp)) r1 r2 (fun g' a' w' k1 k2 k3 => ⟨g', s2, .normal, q2, trivial, k1, k2, r3.trans k3⟩)
end
def sh0 (b : Int) : Option Unit := if b < 0 then none else some ()
theorem sh0_get {b : Int} {u : Unit} (h : sh0 b = some u) : ¬ b < 0 := by
 unfold sh0 at h
 by_cases c : b < 0
 ·rw [if_pos c] at h; cases h
 ·exact c
def iShl (k : IntKind) (a b : Int) : Int := k.wrap (a * 2 ^ (min b.toNat k.bits))
def iShr (k : IntKind) (a b : Int) : Int := a.fdiv (2 ^ (min b.toNat k.bits))
def iAnd (k : IntKind) (a b : Int) : Int := k.wrap (BitVec.ofInt k.bits a &&& BitVec.ofInt k.bits b).toNat
def iOr (k : IntKind) (a b : Int) : Int := k.wrap (BitVec.ofInt k.bits a ||| BitVec.ofInt k.bits b).toNat
def iXor (k : IntKind) (a b : Int) : Int := k.wrap (BitVec.ofInt k.bits a ^^^ BitVec.ofInt k.bits b).toNat
def iNot (k : IntKind) (a : Int) : Int := iXor k (if k.signed then -1 else k.max) a
section
variable {P : Program} {E : Operand → V} {H : List AObj} {dst : Option Tmp} {ty : TypeId} {pos : String} {aft : Array Edge} {gd : Option (Nat × Bool)}
theorem OpS.shl {t t' : TypeId} {x y : Operand} {k k' : IntKind} {a b : Int} (hx : E x = .int k a) (hy : E y = .int k' b) (hb0 : ¬ b < 0) : OpS P ⟨dst, .binOp .shl t x y t', ty, pos, aft, gd⟩ E H (.int k (iShl k a b)) H :=
 .quiet fun g rc w h _ => by
  have ha := (hx ▸ h x (by simp [Op.operands])).int_eq
  have hb := (hy ▸ h y (by simp [Op.operands])).int_eq
  exact ⟨_, by simp [execOp, ha, hb, eqGuard, binOp, Op.shift, hb0, iShl], RV.int g k _⟩
theorem OpS.shr {t t' : TypeId} {x y : Operand} {k k' : IntKind} {a b : Int} (hx : E x = .int k a) (hy : E y = .int k' b) (hb0 : ¬ b < 0) : OpS P ⟨dst, .binOp .shr t x y t', ty, pos, aft, gd⟩ E H (.int k (iShr k a b)) H :=
 .quiet fun g rc w h _ => by
  have ha := (hx ▸ h x (by simp [Op.operands])).int_eq
  have hb := (hy ▸ h y (by simp [Op.operands])).int_eq
  exact ⟨_, by simp [execOp, ha, hb, eqGuard, binOp, Op.shift, hb0, iShr], RV.int g k _⟩
theorem OpS.and {t t' : TypeId} {x y : Operand} {k : IntKind} {a b : Int} (hx : E x = .int k a) (hy : E y = .int k b) : OpS P ⟨dst, .binOp .and t x y t', ty, pos, aft, gd⟩ E H (.int k (iAnd k a b)) H :=
 .quiet fun g rc w h _ => by
  have ha := (hx ▸ h x (by simp [Op.operands])).int_eq
  have hb := (hy ▸ h y (by simp [Op.operands])).int_eq
  exact ⟨_, by simp [execOp, ha, hb, eqGuard, binOp, Op.intBits, iAnd], RV.int g k _⟩
theorem OpS.or {t t' : TypeId} {x y : Operand} {k : IntKind} {a b : Int} (hx : E x = .int k a) (hy : E y = .int k b) : OpS P ⟨dst, .binOp .or t x y t', ty, pos, aft, gd⟩ E H (.int k (iOr k a b)) H :=
 .quiet fun g rc w h _ => by
  have ha := (hx ▸ h x (by simp [Op.operands])).int_eq
  have hb := (hy ▸ h y (by simp [Op.operands])).int_eq
  exact ⟨_, by simp [execOp, ha, hb, eqGuard, binOp, Op.intBits, iOr], RV.int g k _⟩
theorem OpS.xor {t t' : TypeId} {x y : Operand} {k : IntKind} {a b : Int} (hx : E x = .int k a) (hy : E y = .int k b) : OpS P ⟨dst, .binOp .xor t x y t', ty, pos, aft, gd⟩ E H (.int k (iXor k a b)) H :=
 .quiet fun g rc w h _ => by
  have ha := (hx ▸ h x (by simp [Op.operands])).int_eq
  have hb := (hy ▸ h y (by simp [Op.operands])).int_eq
  exact ⟨_, by simp [execOp, ha, hb, eqGuard, binOp, Op.intBits, iXor], RV.int g k _⟩
theorem OpS.bnot {t : TypeId} {a : Int} (hx : E x = .int k a) : OpS P ⟨dst, .unOp .xor t x, ty, pos, aft, gd⟩ E H (.int k (iNot k a)) H :=
 .quiet fun g rc w h _ => by
  have hb := (hx ▸ h x (by simp [Op.operands])).int_eq
  exact ⟨_, by simp [execOp, hb, Op.unary, Op.intBits, iNot, iXor], RV.int g k _⟩
theorem OpS.allocZ {t : TypeId} {z z' : V} (hz : ZeroV P t z) (hs : RSub z z') : OpS P ⟨dst, .alloc t, ty, pos, aft, gd⟩ E H (.ptr H.length [] 0) (H ++ [.cells z']) := by
 intro g rc w _ hr
 obtain ⟨val, h1, h2, h3⟩ := hz.run w g
 have hrun : (execOp rc ⟨dst, .alloc t, ty, pos, aft, gd⟩).run P w = .ok (.value (.pointer (some ⟨w.heap.size, 0, none⟩))) (w.alloc (.cells val.cells t)) := by
  simp [execOp, Instr.alloc, h1, newVar, newRow]
 rw [hrun]
 have h2 := hs.rc g _ h2
 have hlen := h2.len
 refine ⟨{ g with ρ := g.ρ ++ [⟨w.heap.size, 0, 0, false⟩] }, ?_, hr.alloc _ _ ⟨w.heap.size, 0, 0, false⟩ rfl ?_, .alloc hr _ _ _ rfl⟩
 ·refine RV.of_leaf rfl ?_
  simp only [RC]
  exact ⟨⟨w.heap.size, 0, 0, false⟩, by rw [← hr.len]; simp, rfl⟩
 ·refine ⟨val.cells, t, heap_alloc_eq _ _, ⟨[], by rw [← hlen, List.take_length, List.append_nil], ?_⟩, fun i => hr.fresh (Nat.le_refl _) i⟩
  rw [← hlen, List.take_length]
  exact h2.mono (g.le_push _)
end
section
variable {ws : List V}

theorem l0 {t : Nat} {v : V} {e : List (Nat × V)} : look ((t, v) :: e) t = v := lk 0 rfl rfl
theorem l1 {t : Nat} {v : V} {p : Nat × V} {e : List (Nat × V)} (h : Nat.beq t p.1 = false) : look (p :: (t, v) :: e) t = v := by
 show (bif Nat.beq t p.1 then p.2 else look ((t, v) :: e) t) = v
 rw [h]; exact l0
def pick : List (Nat × V) → Nat → Nat → Option V
 | [], _, _ => none
 | (t', v) :: _, 0, t => bif Nat.beq t t' then some v else none
 | (t', _) :: e, k + 1, t => bif Nat.beq t t' then none else pick e k t
theorem lq {env : List (Nat × V)} {t : Nat} {v : V} (k : Nat) (h : pick env k t = some v) : look env t = v := by
 induction env generalizing k with
 | nil => cases h
 | cons p e ih =>
  obtain ⟨t', w⟩ := p
  cases k with
  | zero =>
   simp only [pick] at h
   cases c : Nat.beq t t' with
   | true => rw [c] at h; simp only [look, c, cond_true]; exact Option.some.inj h
   | false => rw [c] at h; cases h
  | succ k =>
   simp only [pick] at h
   cases c : Nat.beq t t' with
   | true => rw [c] at h; cases h
   | false => rw [c] at h; simp only [look, c, cond_false]; exact ih k h
section
variable {F : List AObj → Prop} {draw : Bool} {P : Program} {ops : Array Oper} {n i : Nat} {ord l : List Nat} {acc : List Kd} {Q : AEx → St → Prop} {o : Oper} {v : V} {E : List (Nat × V)} {H : List AObj}
theorem S.s (d : Nat) (ho : ops[i]? = some o) (hd : dstIs n d o = true) (h : ∀ {H}, OpS P o (ev E) H v H) (t : Run F draw P ops n ord l (.sil :: acc) Q ⟨(d, v) :: E, H⟩) : Run F draw P ops n ord (i :: l) acc Q ⟨E, H⟩ :=
 S.sil d ho hd (fun _ _ => h) t
end
theorem AFz.cells {o : Nat} {ob : AObj} {v v' : V} (h : FzR o ob v v') : AFz o ob (.cells v) (.cells v') := h
theorem lsm {α β : Type} {f : α → β} {xs : List α} {n : Int} (h : six xs n = some j) : j < (xs.map f).length := by rw [List.length_map]; exact six_lt h
theorem renL_so {f : Nat → Nat} {e o off len : Nat} {vs : List V} (h : V.renL f vs = ws) : V.renL f (.slo e o path off lo len cap :: vs) = .slo e (f o) path off lo len cap :: ws := by simp only [V.renL, V.ren, h]
theorem ren_slno {α : Type} {k e : Nat} {b : Bool} {E : α → V} (T : TyOk E k b) (f : Nat → Nat) {xs : List α} : (V.sl e .no (xs.map E)).ren f = .sl e .no (xs.map E) := ren_sl T f
theorem renL_n {f : Nat → Nat} : V.renL f [] = [] := rfl
theorem FzR.cptr {o : Nat} {ob : AObj} {v v' : V} (h : FzR o ob v v') : FzR o ob (.cptr v) (.cptr v') := ⟨rfl, rfl, fun g p hp hI cs k => by
 simp only [RC] at k ⊢
 obtain ⟨a, c, h1, h2, h3, h4⟩ := k
 exact ⟨a, c, h1, h2, h.rc g p hp hI _ h3, h4⟩⟩
end
theorem FzR.sloP {e len : Nat} {vs : List V} (hl : len ≤ vs.length) : FzR o (.buf e vs) (.slo e o [] 0 0 len q) (.sl e .no (vs.take len)) := by
 have hlen : (vs.take len).length = len := by rw [List.length_take]; omega
 refine ⟨rfl, rfl, fun g p hp hI cs hc => ?_⟩
 simp only [RC, hlen] at hc ⊢
 obtain ⟨p', hp', a, cc, rfl, hle, hcase⟩ := hc
 rw [hp] at hp'; cases hp'
 rcases hI with ⟨hv, rfl⟩ | ⟨hv, c, h1, h2⟩
 ·refine ⟨a, cc, rfl, hle, trivial, [], by simp [RCu], ?_, fun ad _ => ⟨fun h => absurd (by simp) h, fun i x hx => by simp at hx⟩⟩
  intro ha
  rcases hcase with ⟨_, h⟩ | ⟨h, _⟩
  ·exact h
  ·rw [ha] at h; cases h
 ·obtain ⟨rfl, _⟩ := hcase.resolve_left (fun hc => by rw [hv] at hc; cases hc.1)
  refine ⟨_, cc, rfl, hle, trivial, c.take (len * e), h1.take len, (fun h => by cases h), fun ad h => ?_⟩
  cases h
  refine ⟨fun _ => rfl, fun i x hx => ?_⟩
  have hx2 : c[i]? = some x := by
   rw [List.getElem?_take] at hx
   by_cases c0 : i < len * e
   ·rw [if_pos c0] at hx; exact hx
   ·rw [if_neg c0] at hx; cases hx
  have h2' := h2 i x hx2
  simpa using h2'
section
variable {P : Program} {E : Operand → V} {H : List AObj} {dst : Option Tmp} {ty : TypeId} {pos : String} {aft : Array Edge} {gd : Option (Nat × Bool)}
theorem OpS.sliceOwnP {t : TypeId} {e : Nat} {b : Bool} {len n : Nat} (hl : sliOf P t = some (et, e, b, by_)) (hx : E x = .slo e o [] 0 0 len 1) (h2 : E hi = .int k (n : Int)) (hn : n ≤ len) :
  OpS P ⟨dst, .slice t x none (some hi) none, ty, pos, aft, gd⟩ E H (.slo e o [] 0 0 n 1) H :=
 .quiet fun g rc w hh hr => by
  obtain ⟨hut, hsz, _⟩ := sliOf_get hl
  obtain ⟨p, hp, a, c, ex, hle, hcase⟩ := (hx ▸ hh x (by simp [Op.operands])).slo_eq
  have ey := (h2 ▸ hh hi (by simp [Op.operands])).int_eq
  refine ⟨.slice a n c, ?_, RV.of_leaf rfl ?_⟩
  ·have hs : (Instr.sliceBounds true len c none (some (rc hi)) none).run P w = .ok (0, n, c) w := by
    simp [Instr.sliceBounds, ey, run_bound (show (0 : Int) ≤ (n : Int) by omega) (show (n : Int) ≤ (c : Int) by omega), run_bound (show (0 : Int) ≤ 0 by omega) (show (0 : Int) ≤ (n : Int) by omega)]
   have hz : (if c = 0 then a else a.map (·.add (0 * e))) = a := by
    split
    ·rfl
    ·cases a with
     | none => rfl
     | some ad => simp only [Option.map_some, Nat.zero_mul]; rw [show ad.add 0 = ad by cases ad; simp [Addr.add]]
   simp only [Nat.zero_mul] at hz
   simp [execOp, Instr.sliceAt, Instr.slice, run_underlying hut, ex, hs, run_sizeOf' hsz, hz]
  ·simp only [RC]
   exact ⟨p, hp, a, c, rfl, by omega, by simpa using hcase⟩
end
section
variable {H2 : List AObj}

def spre {α : Type} (xs : List α) (n : Int) : Option Nat := if 0 ≤ n ∧ n ≤ (xs.length : Int) then some n.toNat else none
theorem spre_get {α : Type} {xs : List α} {n : Int} (h : spre xs n = some m) : n = (m : Int) ∧ m ≤ xs.length := by
 unfold spre at h
 split at h
 ·rename_i c
  cases h
  omega
 ·cases h
def prek {α : Type} (xs : List α) (n : Nat) : Option Unit := if n ≤ xs.length then some () else none
theorem prek_get {α : Type} {xs : List α} {n : Nat} {u : Unit} (h : prek xs n = some u) : n ≤ xs.length := by
 unfold prek at h
 split at h
 ·assumption
 ·cases h
/-- The first so many; the others are so many zeros. -/
def clr {α : Type} (xs : List α) (j : Nat) (d : α) : List α := xs.take j ++ List.replicate (xs.length - j) d
theorem clr_len {α : Type} {v xs : List α} {d : α} {n : Int} (e : v = clr xs j d) (h : six xs n = some j) : v.length = xs.length := by
 have := six_lt h
 subst e
 simp only [clr, List.length_append, List.length_take, List.length_replicate]
 omega
theorem FzR.sloQ {α : Type} {f : α → V} {e n : Nat} {xs : List α} (hl : n ≤ xs.length) : FzR o (.buf e (xs.map f)) (.slo e o [] 0 0 n q) (.sl e .no ((xs.take n).map f)) := by
 have := FzR.sloP (o := o) (e := e) (q := q) (len := n) (vs := xs.map f) (by simpa using hl)
 rwa [← List.map_take] at this

theorem zeroCells_get (z : Array Value) (n i : Nat) : (Builtin.zeroCells z n).toList[i]? = if i < n * z.size then some z[i % z.size]! else none := by
 simp only [Builtin.zeroCells, Array.toList_map, List.getElem?_map, Array.toList_range]
 split <;> simp_all

theorem RCu.zeros {g : Gh} {e : Nat} {u : V} {z : Array Value} (h : RC g u z.toList) (hz : z.size = e) : ∀ n, RCu g e (List.replicate n u) (Builtin.zeroCells z n).toList
 | 0 => by simp [RCu, Builtin.zeroCells]
 | n + 1 => by
  rw [List.replicate_succ]
  simp only [RCu]
  refine ⟨z.toList, (Builtin.zeroCells z n).toList, ?_, by simpa using hz, h, RCu.zeros h hz n⟩
  refine List.ext_getElem? fun i => ?_
  rw [zeroCells_get, Nat.succ_mul]
  by_cases c : i < z.size
  ·rw [List.getElem?_append_left (by simpa using c), if_pos (by omega), Nat.mod_eq_of_lt c]
   simp [c]
  ·rw [List.getElem?_append_right (by simpa using c), zeroCells_get]
   simp only [Array.length_toList]
   by_cases d : i < n * z.size + z.size
   ·rw [if_pos d, if_pos (by omega), ← Nat.mod_eq_sub_mod (by omega)]
   ·rw [if_neg d, if_neg (by omega)]

section
variable {α : Type} {P : Program} {E : Operand → V} {H : List AObj} {dst : Option Tmp} {ty : TypeId} {pos : String} {aft : Array Edge} {gd : Option (Nat × Bool)}
theorem OpS.sliceOwnT {xs : List α} {t : TypeId} {e : Nat} {b : Bool} {len : Nat} {n : Int} (hl : sliOf P t = some (et, e, b, by_)) (hx : E x = .slo e o [] 0 0 len 1) (h2 : E hi = .int k n) (he : len = xs.length) (hm : spre xs n = some m) :
  OpS P ⟨dst, .slice t x none (some hi) none, ty, pos, aft, gd⟩ E H (.slo e o [] 0 0 m 1) H := by
 obtain ⟨rfl, h⟩ := spre_get hm
 exact .sliceOwnP hl hx h2 (by omega)

theorem OpS.sliceOwnS {xs : List α} {t : TypeId} {lo : Operand} {e : Nat} {b : Bool} {len : Nat} {n : Int} (hl : sliOf P t = some (et, e, b, by_)) (hx : E x = .slo e o [] 0 0 len 1) (h2 : E lo = .int k n) (he : len = xs.length) (hj : six xs n = some j) :
  OpS P ⟨dst, .slice t x (some lo) none none, ty, pos, aft, gd⟩ E H (.slo e o [] 0 j (len - j) 1) H := by
 obtain ⟨h0, hjl, rfl, _⟩ := six_get hj
 have hjl : n.toNat < len := by omega
 exact .quiet fun g rc w hh hr => by
  obtain ⟨hut, hsz, _⟩ := sliOf_get hl
  obtain ⟨p, hp, a, c, ex, hle, hcase⟩ := (hx ▸ hh x (by simp [Op.operands])).slo_eq
  have ey := (h2 ▸ hh lo (by simp [Op.operands])).int_eq
  obtain ⟨rfl, hq⟩ := hcase.resolve_left (fun hc => by omega)
  obtain ⟨hv, hs⟩ := hq rfl
  refine ⟨.slice (some ⟨p.block, n.toNat * e, none⟩) (len - n.toNat) (c - n.toNat), ?_, RV.of_leaf rfl ?_⟩
  ·have hs : (Instr.sliceBounds true len c (some (rc lo)) none none).run P w = .ok (n.toNat, len, c) w := by
    simp [Instr.sliceBounds, ey, run_bound h0 (show n ≤ (len : Int) by omega)]
   have hne : ¬ c = n.toNat := by omega
   simp [execOp, Instr.sliceAt, Instr.slice, run_underlying hut, ex, hs, run_sizeOf' hsz, hne, Addr.add]
   exact fun h => h.symm
  ·simp only [RC]
   refine ⟨p, hp, _, _, rfl, by omega, .inr ⟨by simp, fun _ => ⟨hv, ?_⟩⟩⟩
   rw [show n.toNat + (c - n.toNat) = c by omega]
   simpa using hs

theorem OpS.clearO {f : α → V} {xs ys : List α} {d : α} {z : V} {t : TypeId} {e : Nat} {b : Bool} {len : Nat} {n : Int} (hl : sliOf P t = some (et, e, b, by_)) (hz : ZeroV P et z) (hs : RSub z (f d)) (hfl : flen (f d) = e)
  (hx : E x = .slo e o [] 0 j (len - j) 1) (he : len = xs.length) (hj : six xs n = some j) (ho : H[o]? = some (.buf e (xs.map f))) (hy : clr xs j d = ys) (hH : H.set o (.buf e (ys.map f)) = H2) :
  OpS P ⟨dst, .call ⟨.builtin .clear, #[x], #[t]⟩, ty, pos, aft, gd⟩ E H (.tup []) H2 := by
 subst hH hy
 obtain ⟨h0, hjl, rfl, _⟩ := six_get hj
 have hjl : n.toNat < len := by omega
 generalize n.toNat = j at *
 intro g rc w h hr
 obtain ⟨hut, hsz, _⟩ := sliOf_get hl
 obtain ⟨p, hp, a, c, ex, hle, hcase⟩ := (hx ▸ h x (by simp [Op.operands, Call.operands])).slo_eq
 obtain ⟨rfl, hq⟩ := hcase.resolve_left (fun hc => by omega)
 obtain ⟨hv, hsize⟩ := hq rfl
 obtain ⟨cs, cty, k1, ⟨cv, junk, k2, k3⟩, k5, k4⟩ : ∃ cs ty, w.heap[p.block]? = some (.cells cs ty (0, 0)) ∧ (∃ c junk, cs.toList = c ++ junk ∧ RCu g e (xs.map f) c) ∧ cs.size = p.size ∧ ∀ i, g.I p.block i = none := by
  rcases hr.obj o p _ hp ho with ⟨hc, _⟩ | ⟨_, h⟩
  ·rw [hv] at hc; cases hc
  ·exact h
 obtain ⟨val, hzv, hrz, _⟩ := hz.run w g
 have hrz' := hs.rc g _ hrz
 have hvs : val.cells.size = e := by have := hrz'.len; simpa [hfl] using this
 have hzr := RCu.zeros hrz' hvs (len - j)
 have hzl := hzr.len
 have hcl := k3.len
 rw [List.length_replicate] at hzl
 rw [List.length_map] at hcl
 have hmul : len * e = j * e + (len - j) * e := by rw [← Nat.add_mul]; congr 1; omega
 have hcl' : cv.length = j * e + (len - j) * e := by rw [hcl, ← he, hmul]
 have hst := run_storeCells_at P p.block (j * e) cty (Builtin.zeroCells val.cells (len - j)).toList 0 cs w k1 (by
  have : cs.size = cs.toList.length := by simp
  rw [this, k2, List.length_append]; omega) (fun y hy => hzr.one y hy)
 have hrow : cs.toList.take (j * e + 0) ++ (Builtin.zeroCells val.cells (len - j)).toList ++ cs.toList.drop (j * e + 0 + (Builtin.zeroCells val.cells (len - j)).toList.length) = (cv.take (j * e) ++ (Builtin.zeroCells val.cells (len - j)).toList) ++ junk := by
  rw [Nat.add_zero, hzl, k2, ← hcl', List.drop_left, List.take_append_of_le_length (by omega)]
 rw [hrow] at hst
 have hrun : (execOp rc ⟨dst, .call ⟨.builtin .clear, #[x], #[t]⟩, ty, pos, aft, gd⟩).run P w = .ok (.value (.tuple #[])) (w.setRow p.block ((cv.take (j * e) ++ (Builtin.zeroCells val.cells (len - j)).toList) ++ junk).toArray) := by
  have hne : len - j ≠ 0 := by omega
  obtain ⟨q, hq⟩ : ∃ q, len - j = q + 1 := ⟨len - j - 1, by omega⟩
  rw [Nat.zero_add] at ex
  have h2 : (Builtin.clear_ #[t] ty #[.slice (some ⟨p.block, j * e, none⟩) (len - j) c]).run P w = .ok (.tuple #[]) (w.setRow p.block ((cv.take (j * e) ++ (Builtin.zeroCells val.cells (len - j)).toList) ++ junk).toArray) := by
   rw [hq] at hst ⊢
   unfold Builtin.clear_
   simp only [List.getElem?_toArray, List.getElem?_cons_zero, Sem.run_bind, run_underlying hut, Result.andThen_ok, hzv, hst, Sem.run_pure]
  simp [execOp, resolve, invoke, Go.builtin, ex, h2]
 have hb := setRow_heap w p.block cs ((cv.take (j * e) ++ (Builtin.zeroCells val.cells (len - j)).toList) ++ junk).toArray cty (0, 0) k1
 have hown : p.own (.buf e (xs.map f)) = true := by simp [Place.own, hv]
 rw [hrun]
 refine ⟨g, ⟨#[], rfl, by simp [RVl]⟩, hr.write hp ho hown k4 (fun b hb => setRow_other w p.block b _ hb) ?_, .write hp ho hown (fun b hb => setRow_other w p.block b _ hb) rfl rfl rfl (by simp) (Nat.le_refl _)⟩
 refine .inr ⟨hv, _, cty, hb, ⟨cv.take (j * e) ++ (Builtin.zeroCells val.cells (len - j)).toList, junk, by simp, ?_⟩, ?_, k4⟩
 ·have h1 := (k3.take j).append hzr
  have h2 : (xs.map f).take j ++ List.replicate (len - j) (f d) = (clr xs j d).map f := by simp [clr, he, List.map_append, List.map_take]
  rw [h2] at h1
  exact h1
 ·rw [← k5]
  have : cs.size = cs.toList.length := by simp
  rw [this, k2]
  simp only [List.size_toArray, List.length_append, List.length_take, hzl]
  omega
end
end
section
variable {H2 : List AObj}

def mkS (b : Nat) (n : Int) : Option Unit := if 0 ≤ n ∧ n * (b : Int) ≤ 140737488355328 ∧ n ≤ 140737488355328 then some () else none
theorem mkS_get {b : Nat} {n : Int} {u : Unit} (h : mkS b n = some u) : 0 ≤ n ∧ n * (b : Int) ≤ 140737488355328 ∧ n ≤ 140737488355328 := by
 unfold mkS at h
 split at h
 ·assumption
 ·cases h
section
variable {α : Type} {P : Program} {E : Operand → V} {H : List AObj} {dst : Option Tmp} {ty : TypeId} {pos : String} {aft : Array Edge} {gd : Option (Nat × Bool)}
theorem make_run {f : α → V} {d : α} {z : V} {t : TypeId} {e : Nat} {b : Bool} {q : IntKind} {n : Int} {u : Unit} (hl : sliOf P t = some (et, e, b, by_)) (hz : ZeroV P et z) (hs : RSub z (f d)) (hfl : flen (f d) = e)
  (hn : mkS by_ n = some u) (w : World) (g : Gh) (rc : Operand → Value) (ex : rc x = .int k n) (ey : rc y = .int q n) :
  ∃ cs : Array Value, (execOp rc ⟨dst, .makeSlice t x y, ty, pos, aft, gd⟩).run P w = .ok (.value (.slice (some ⟨w.heap.size, 0, none⟩) n.toNat n.toNat)) (w.alloc (.cells cs et)) ∧ RCu g e (List.replicate n.toNat (f d)) cs.toList := by
 obtain ⟨h0, h1, h2⟩ := mkS_get hn
 obtain ⟨hut, hsz, _, hby⟩ := sliOf_get hl
 obtain ⟨val, hv, hzr, _⟩ := hz.run w g
 obtain ⟨val', hv', _⟩ := hz
 have hrz := hs.rc g _ hzr
 cases hi : P.info? et with
 | none => rw [hi] at hv'; cases hv'
 | some i =>
  rw [hi] at hv' hby
  simp only [Option.bind_some] at hv'
  simp only [Option.map_some, Option.getD_some] at hby
  have hvv : val = val' := by
   simp [zeroValue, typeInfo, hi, hv'] at hv
   exact hv.symm
  subst hvv
  have hvs : val.cells.size = e := by have := hrz.len; simpa [hfl] using this
  have his : i.size = e := by
   unfold szOf at hsz
   rw [hi] at hsz
   simpa using hsz
  refine ⟨madeCells val.cells (n.toNat * i.size), ?_, ?_⟩
  ·have := run_make (P := P) w t et i val hut hi hv' k q n n h0 (Int.le_refl _) (by rw [hby, Int.mul_comm]; omega) (by omega)
   simp only [execOp, ex, ey, Sem.run_bind, this, Result.andThen_ok, Sem.run_pure]
  ·have := RCu.zeros (u := f d) hrz hvs n.toNat
   rw [his]
   unfold Builtin.zeroCells at this
   rw [hvs] at this
   unfold madeCells
   rw [hvs]
   exact this
theorem OpS.makeO {f : α → V} {d : α} {xs : List α} {z : V} {t : TypeId} {e : Nat} {b : Bool} {q : IntKind} {n : Int} {u : Unit} (hl : sliOf P t = some (et, e, b, by_)) (hz : ZeroV P et z) (hs : RSub z (f d)) (hfl : flen (f d) = e)
  (hx : E x = .int k n) (hy : E y = .int q n) (hn : mkS by_ n = some u) (hxs : List.replicate n.toNat d = xs) (hH : H ++ [.buf e (xs.map f)] = H2) : OpS P ⟨dst, .makeSlice t x y, ty, pos, aft, gd⟩ E H (.slo e H.length [] 0 0 xs.length 1) H2 := by
 subst hH hxs
 intro g rc w h hr
 obtain ⟨cs, hrun, hc⟩ := make_run (dst := dst) (ty := ty) (pos := pos) (aft := aft) (gd := gd) hl hz hs hfl hn w g rc (hx ▸ h x (by simp [Op.operands])).int_eq (hy ▸ h y (by simp [Op.operands])).int_eq
 rw [hrun]
 rw [← List.map_replicate] at hc
 have hcl : cs.size = n.toNat * e := by
  have := hc.len
  simpa using this
 let p : Place := ⟨w.heap.size, 0, n.toNat * e, false⟩
 have hb := heap_alloc_eq w (.cells cs et)
 refine ⟨{ g with ρ := g.ρ ++ [p] }, ?_, hr.alloc _ _ p rfl ?_, .alloc hr _ _ p rfl⟩
 ·refine RV.of_leaf rfl ?_
  simp only [RC]
  refine ⟨p, ?_, some ⟨w.heap.size, 0, none⟩, n.toNat, by simp, by simp, .inr ⟨by simp [p], fun _ => ⟨rfl, by simp [p]⟩⟩⟩
  show (g.ρ ++ [p])[H.length]? = some p
  rw [← hr.len]; simp
 ·refine .inr ⟨rfl, cs, et, hb, ⟨cs.toList, [], by simp, hc.mono (Gh.le_push _ _)⟩, hcl, fun i => ?_⟩
  exact hr.fresh (Nat.le_refl _) i
end
theorem RSub.cptr {v v' : V} (h : RSub v v') : RSub (.cptr v) (.cptr v') := ⟨rfl, rfl, fun g cs k => by
 simp only [RC] at k ⊢
 obtain ⟨a, c, h1, h2, h3, h4⟩ := k
 exact ⟨a, c, h1, h2, h.rc g _ h3, h4⟩⟩
end
section
variable {args : List V}

abbrev o1 : List Nat := [0]
abbrev o2 : List Nat := [0, 1]
abbrev o3 : List Nat := [0, 1, 2]
abbrev o4 : List Nat := [0, 1, 2, 3]
abbrev o5 : List Nat := [0, 1, 2, 3, 4]
abbrev o6 : List Nat := [0, 1, 2, 3, 4, 5]
abbrev o7 : List Nat := [0, 1, 2, 3, 4, 5, 6]
abbrev o8 : List Nat := [0, 1, 2, 3, 4, 5, 6, 7]
abbrev o9 : List Nat := [0, 1, 2, 3, 4, 5, 6, 7, 8]
abbrev o10 : List Nat := [0, 1, 2, 3, 4, 5, 6, 7, 8, 9]
abbrev o11 : List Nat := [0, 1, 2, 3, 4, 5, 6, 7, 8, 9, 10]
abbrev o12 : List Nat := [0, 1, 2, 3, 4, 5, 6, 7, 8, 9, 10, 11]
abbrev o13 : List Nat := [0, 1, 2, 3, 4, 5, 6, 7, 8, 9, 10, 11, 12]
abbrev o14 : List Nat := [0, 1, 2, 3, 4, 5, 6, 7, 8, 9, 10, 11, 12, 13]
abbrev o15 : List Nat := [0, 1, 2, 3, 4, 5, 6, 7, 8, 9, 10, 11, 12, 13, 14]
abbrev o22 : List Nat := [0, 1, 2, 3, 4, 5, 6, 7, 8, 9, 10, 11, 12, 13, 14, 15, 16, 17, 18, 19, 20, 21]
/-- The step's place and the slot that it fills. -/
def opd (ops : Array Oper) (n i : Nat) : Option (Nat × Oper) := match ops[i]? with
 | some o => match o.dst, o.guard with
  | some e, none => bif Nat.blt e n then some (e, o) else none
  | _, _ => none
 | none => none
theorem opd_get {ops : Array Oper} {n i d : Nat} {o : Oper} (h : opd ops n i = some (d, o)) : ops[i]? = some o ∧ dstIs n d o = true := by
 unfold opd at h
 split at h
 ·rename_i o' ho
  split at h
  ·rename_i e h1 h2
   cases hb : Nat.blt e n with
   | true =>
    simp only [hb, cond_true, Option.some.injEq, Prod.mk.injEq] at h
    obtain ⟨rfl, rfl⟩ := h
    have : e < n := by simpa [Nat.blt_eq] using hb
    exact ⟨ho, by simp [dstIs, h1, h2, this]⟩
   | false => simp [hb] at h
  ·cases h
 ·cases h
def opg (ops : Array Oper) (n i : Nat) : Option (Nat × Nat × Nat × Bool × Oper) := match ops[i]? with
 | some o => match o.dst, o.guard with
  | some e, some (j, w) => match guardDst ops j with
   | some d' => bif Nat.blt e n then some (e, j, d', w, o) else none
   | none => none
  | _, _ => none
 | none => none
theorem opg_get {ops : Array Oper} {n i d j d' : Nat} {w : Bool} {o : Oper} (h : opg ops n i = some (d, j, d', w, o)) : ops[i]? = some o ∧ dstG n d j w o = true ∧ guardDst ops j = some d' := by
 unfold opg at h
 split at h
 ·rename_i o' ho
  split at h
  ·rename_i e j1 w1 h1 h2
   split at h
   ·rename_i d1 h3
    cases hb : Nat.blt e n with
    | true =>
     simp only [hb, cond_true, Option.some.injEq, Prod.mk.injEq] at h
     obtain ⟨rfl, rfl, rfl, rfl, rfl⟩ := h
     have : e < n := by simpa [Nat.blt_eq] using hb
     exact ⟨ho, by simp [dstG, h1, h2, this], h3⟩
    | false => simp [hb] at h
   ·cases h
  ·cases h
 ·cases h
def opa (ops : Array Oper) (n i : Nat) : Option (Nat × Operand) := match opd ops n i with
 | some (d, o) => match o.op with
  | .move x => some (d, x)
  | .assign x => some (d, x)
  | _ => none
 | none => none
section
variable {F : List AObj → Prop} {draw : Bool} {P : Program} {ops : Array Oper} {n i d j d' : Nat} {ord l : List Nat} {acc : List Kd} {Q : AEx → St → Prop} {o : Oper} {v : V} {E : List (Nat × V)} {H H' : List AObj} {want b : Bool} {x : Operand} {s : St} {y : Code} {m id : Nat}
theorem Ss (ho : opd ops n i = some (d, o)) (h : ∀ {H}, OpS P o (ev E) H v H) (t : Run F draw P ops n ord l (.sil :: acc) Q ⟨(d, v) :: E, H⟩) : Run F draw P ops n ord (i :: l) acc Q ⟨E, H⟩ :=
 S.sil d (opd_get ho).1 (opd_get ho).2 (fun _ _ => h) t
theorem Sf (ho : opd ops n i = some (d, o)) (h : ∀ {H}, F H → OpS P o (ev E) H v H) (t : Run F draw P ops n ord l (.sil :: acc) Q ⟨(d, v) :: E, H⟩) : Run F draw P ops n ord (i :: l) acc Q ⟨E, H⟩ :=
 S.sil d (opd_get ho).1 (opd_get ho).2 (fun _ hF => h hF) t
theorem Su (ho : opd ops n i = some (d, o)) (h : ∀ {X}, OpS P o (ev E) (H ++ X) v (H ++ X)) (t : Run F draw P ops n ord l (.qui :: acc) Q ⟨(d, v) :: E, H⟩) : Run F draw P ops n ord (i :: l) acc Q ⟨E, H⟩ :=
 S.qui d (opd_get ho).1 (opd_get ho).2 (fun _ => h) t
theorem Se (ho : opd ops n i = some (d, o)) (h : OpS P o (ev E) H v H') (hF : F H') (t : Run F draw P ops n ord l (.eff :: acc) Q ⟨(d, v) :: E, H'⟩) : Run F draw P ops n ord (i :: l) acc Q ⟨E, H⟩ :=
 S.eff d (opd_get ho).1 (opd_get ho).2 h hF t
theorem Sa (ho : opa ops n i = some (d, x)) (h : ev E x = v) (t : Run F draw P ops n ord l (.sil :: acc) Q ⟨(d, v) :: E, H⟩) : Run F draw P ops n ord (i :: l) acc Q ⟨E, H⟩ := by
 unfold opa at ho
 split at ho
 ·rename_i d0 o ho'
  obtain ⟨h1, h2⟩ := opd_get ho'
  obtain ⟨dst, op, ty, pos, aft, gd⟩ := o
  split at ho
  ·rename_i x' e
   simp only at e
   subst e
   simp only [Option.some.injEq, Prod.mk.injEq] at ho
   obtain ⟨rfl, rfl⟩ := ho
   exact S.sil d0 h1 h2 (fun _ _ => .move h) t
  ·rename_i x' e
   simp only at e
   subst e
   simp only [Option.some.injEq, Prod.mk.injEq] at ho
   obtain ⟨rfl, rfl⟩ := ho
   exact S.sil d0 h1 h2 (fun _ _ => .assign h) t
  ·cases ho
 ·cases ho
theorem Sm {t0 : Nat} (k : Nat) (ho : opa ops n i = some (d, .tmp t0)) (h : pick E k t0 = some v) (t : Run F draw P ops n ord l (.sil :: acc) Q ⟨(d, v) :: E, H⟩) : Run F draw P ops n ord (i :: l) acc Q ⟨E, H⟩ := Sa ho (lq k h) t
theorem Sg (ho : opg ops n i = some (d, j, d', want, o)) (hb : look E d' = .bool b) (h : ∀ {H}, OpS P o (ev E) H v H) (t : Run F draw P ops n ord l (.sil :: acc) Q ⟨(d, if b = want then v else .tup []) :: E, H⟩) : Run F draw P ops n ord (i :: l) acc Q ⟨E, H⟩ :=
 S.gsil d j d' want (opg_get ho).1 (opg_get ho).2.1 (opg_get ho).2.2 hb (fun _ _ _ => h) t
theorem Sj (ho : opg ops n i = some (d, j, d', want, o)) (hb : look E d' = .bool b) (h : b = want → ∀ {H}, OpS P o (ev E) H v H) (t : Run F draw P ops n ord l (.sil :: acc) Q ⟨(d, if b = want then v else .tup []) :: E, H⟩) : Run F draw P ops n ord (i :: l) acc Q ⟨E, H⟩ :=
 S.gsil d j d' want (opg_get ho).1 (opg_get ho).2.1 (opg_get ho).2.2 hb (fun e _ _ => h e) t
theorem Sy (ho : opg ops n i = some (d, j, d', want, o)) (hb : look E d' = .bool want) (h : ∀ {H}, OpS P o (ev E) H v H) (t : Run F draw P ops n ord l (.sil :: acc) Q ⟨(d, v) :: E, H⟩) : Run F draw P ops n ord (i :: l) acc Q ⟨E, H⟩ :=
 S.ysil d j d' want (opg_get ho).1 (opg_get ho).2.1 (opg_get ho).2.2 hb (fun _ _ => h) t
theorem Wq (ord : List Nat) (hl : List.range ops.size = ord) (h : Run (fun _ => True) false P ops n [] ord [] (thenQ (AWp P n m y Q) Q) s) : AWp P n m (.seq (.region id ops false) y) Q s := .seq (W.reg ord hl h)
theorem Nn {next : St → Prop} (h : next s) : Run F false P ops n ord [] acc (thenQ next Q) s := S.nil (thenQ_n h)
theorem Nw {y' : Code} {ops' : Array Oper} (l' : List Nat) (hl : List.range ops'.size = l') (h : Run (fun _ => True) false P ops' n [] l' [] (thenQ (AWp P n m y' Q) Q) s) : Run F false P ops n ord [] acc (thenQ (AWp P n m (.seq (.region id ops' false) y') Q) Q) s := S.nil (thenQ_n (.seq (W.reg l' hl h)))
end
/-- What stands at a place, if nothing before it stands for the same. -/
def kp (env : List (Nat × V)) (k : Nat) : Option (Nat × V) := match env[k]? with
 | some (t, _) => match pick env k t with
  | some v => some (t, v)
  | none => none
 | none => none
theorem kp_get {env : List (Nat × V)} {k t : Nat} {v : V} (h : kp env k = some (t, v)) : look env t = v := by
 unfold kp at h
 split at h
 ·split at h
  ·rename_i w hw
   simp only [Option.some.injEq, Prod.mk.injEq] at h
   obtain ⟨rfl, rfl⟩ := h
   exact lq k hw
  ·cases h
 ·cases h
section
variable {f : Nat → Nat} {m t : Nat} {env r : List (Nat × V)} {v v0 : V}
def kq (env : List (Nat × V)) (k : Nat) : Option (Nat × V) := match kp env k with
 | some (t, v) => bif okV v then some (t, v) else none
 | none => none
theorem kq_get {env : List (Nat × V)} {k t : Nat} {v : V} (h : kq env k = some (t, v)) : look env t = v ∧ okV v = true := by
 unfold kq at h
 split at h
 ·rename_i t' w hw
  cases hb : okV w with
  | true =>
   simp only [hb, cond_true, Option.some.injEq, Prod.mk.injEq] at h
   obtain ⟨rfl, rfl⟩ := h
   exact ⟨kp_get hw, hb⟩
  | false => simp [hb] at h
 ·cases h
theorem sp (k : Nat) (h : kq env k = some (t, v0)) (p : RSub v0 v) (hl : ∀ {m}, v.lt m = true) (q : SelE f m env r) : SelE f m env ((t, v) :: r) := .leaf (kq_get h).1 (kq_get h).2 p (fun m => hl) q
theorem EnvS.e (k : Nat) (h : kp env k = some (t, v)) (q : EnvS env r) : EnvS env ((t, v) :: r) := .eq (kp_get h) rfl q
theorem EnvF.s {o : Nat} {ob : AObj} (k : Nat) (h : kp env k = some (t, v)) (q : EnvF o ob env r) : EnvF o ob env ((t, v) :: r) := .same (kp_get h) q
end
section
variable {P : Program} {fn : Func} {n m t : Nat} {env : List (Nat × V)} {H : List AObj} {v v0 : V}
/-- One value is told, and no object of one's own is left. -/
theorem e1 (k : Nat) (hr : fn.results = #[.tmp t]) (h : kq env k = some (t, v0)) (p : RSub v0 v) (hl : ∀ {m}, v.lt m = true) (hv : okV v = true) : endF P fn n 0 (fun o H'' => o = .ret v ∧ H'' = []) .ret ⟨env, H⟩ :=
 endF1 hr (Wk.selS [] .nil rfl (sp k h p hl .nil) .nil) (.tmp l0 hv) rfl rfl
theorem e0 (k : Nat) (hr : fn.results = #[.tmp t]) (h : kq env k = some (t, v)) (hl : ∀ {m}, v.lt m = true) : endF P fn n 0 (fun o H'' => o = .ret v ∧ H'' = []) .ret ⟨env, H⟩ :=
 e1 k hr h (.refl _) hl (kq_get h).2
end
section
variable {P : Program} {E : Operand → V} {H H2 : List AObj} {dst : Option Tmp} {ty : TypeId} {pos : String} {aft : Array Edge} {gd : Option (Nat × Bool)}
/-- A whole variable is written. -/
theorem OpS.stw {t : TypeId} {a x : Operand} {n o : Nat} {v u : V} (hs : szOf P t = some n) (ha : E a = .ptr o [] 0) (hx : E x = u) (hk : okV u = true) (ho : H[o]? = some (.cells v)) (hn : flen u = n) (hn' : flen v = n) (hH : H.set o (.cells u) = H2) : OpS P ⟨dst, .store t a x, ty, pos, aft, gd⟩ E H .undef H2 :=
 .storeP hs ha hx hk (.refl _) ho .nil rfl .nil hn hn' hH
theorem PureC.b {f : FuncId} {fn : Func} {c : Code} {r : V} (n : Nat) (hf : P.funcs[f]? = some fn) (hb : fn.body = some c) (hnn : fn.ntmps = n) (hn : Nat.ble args.length n = true) (ha : V.ltL 0 args = true) (hr : r.lt 0 = true)
  (h : AWp P n 0 c (endF P fn n 0 fun o H' => o = .ret r ∧ H' = []) ⟨argEnv 0 args, []⟩) : PureC P f args r := .ofF (CallSpec.of_bodyF n 0 hf hb hnn rfl (Nat.le_of_ble_eq_true hn) h) ha hr
end
end
section
variable {args' us : List V}

abbrev I : Int → V := V.int .i64
class LtV (v : V) : Prop where p : ∀ m, v.lt m = true
class LtL (vs : List V) : Prop where p : ∀ m, V.ltL m vs = true
class LtE (e : List (Nat × V)) : Prop where p : ∀ x ∈ e, ∀ m, x.2.lt m = true
class TyC {α : Type} (f : α → V) (n : outParam Nat) (b : outParam Bool) : Prop where ok : TyOk f n b
class FlV (v : V) (n : outParam Nat) : Prop where p : flen v = n
class FlL (vs : List V) (n : outParam Nat) : Prop where p : flenL vs = n
class FlT (vs : List V) (k : Nat) (n : outParam Nat) : Prop where p : flenL (vs.take k) = n
class SzT (P : Program) (t : TypeId) (n : outParam Nat) : Prop where p : szOf P t = some n
class AgT (P : Program) (t : TypeId) (b : outParam Bool) : Prop where p : aggOf P t = some b
class LayT (P : Program) (t : TypeId) (l : outParam (List (Nat × Nat × Bool))) : Prop where p : layOf P t = some l
class EnT (P : Program) (f : FuncId) : Prop where p : enters P f = true
instance {k : IntKind} : TyC (V.int k) 1 false := ⟨.int k⟩
instance : TyC V.bool 1 false := ⟨.bool⟩
instance : TyC V.str 1 false := ⟨.str⟩
section
variable {α : Type} {f : α → V} {n k e a b c o : Nat} {q : Bool} {xs : List α} {vs ws : List V} {v w : V} {g : FuncId} {kd : IntKind} {m : Int} {z : Bool} {s : ByteArray} {t : Nat} {tk : Tk}
instance : LtV (.int kd m) := ⟨fun _ => rfl⟩
instance : LtV (.bool z) := ⟨fun _ => rfl⟩
instance : LtV (.str s) := ⟨fun _ => rfl⟩
instance : LtV .nils := ⟨fun _ => rfl⟩
instance : LtV .nilp := ⟨fun _ => rfl⟩
instance : LtV .nilfn := ⟨fun _ => rfl⟩
instance : LtV .nili := ⟨fun _ => rfl⟩
instance : LtV .nilmap := ⟨fun _ => rfl⟩
instance : LtL [] := ⟨fun _ => rfl⟩
instance [h : LtV v] [r : LtL vs] : LtL (v :: vs) := ⟨fun m => ltL_c (h.p m) (r.p m)⟩
instance [TyC f n q] : LtL (xs.map f) := ⟨fun m => (TyC.ok (f := f)).ltm m xs⟩
instance [h : LtV v] : LtV (.cptr v) := ⟨fun m => lt_cptr (h.p m)⟩
instance [h : LtL vs] : LtV (.st vs) := ⟨fun m => lt_st (h.p m)⟩
instance [h : LtL vs] : LtV (.tup vs) := ⟨fun m => lt_tup (h.p m)⟩
instance [h : LtL vs] : LtV (.arr e vs) := ⟨fun m => by simp only [V.lt]; exact h.p m⟩
instance [h : LtL vs] : LtV (.sl e .no vs) := ⟨fun m => lt_sl rfl (h.p m)⟩
instance [h : LtL vs] : LtV (.sl e .exact vs) := ⟨fun m => lt_sl rfl (h.p m)⟩
instance [h : LtL vs] [r : LtL ws] : LtV (.fn g vs ws) := ⟨fun m => lt_fn (h.p m) (r.p m)⟩
instance : LtE [] := ⟨fun _ h => by cases h⟩
instance {r : List (Nat × V)} [h : LtV v] [k : LtE r] : LtE ((t, v) :: r) := ⟨fun x hx m => by
 rcases List.mem_cons.1 hx with rfl | hx
 ·exact h.p m
 ·exact k.p x hx m⟩
instance : FlV (.int kd m) 1 := ⟨rfl⟩
instance : FlV (.bool z) 1 := ⟨rfl⟩
instance : FlV (.str s) 1 := ⟨rfl⟩
instance : FlV .nils 1 := ⟨rfl⟩
instance : FlV .nilp 1 := ⟨rfl⟩
instance : FlV .nilfn 1 := ⟨rfl⟩
instance : FlV .nili 1 := ⟨rfl⟩
instance : FlV .nilmap 1 := ⟨rfl⟩
instance : FlV (.cptr v) 1 := ⟨rfl⟩
instance : FlV (.sl e tk vs) 1 := ⟨rfl⟩
instance {p : List Nat} : FlV (.ptr o p a) 1 := ⟨rfl⟩
instance {p : List Nat} : FlV (.slo e o p a b c n) 1 := ⟨rfl⟩
instance : FlV (.fn g vs ws) 1 := ⟨rfl⟩
instance [h : FlL vs a] : FlV (.st vs) a := ⟨fl_st h.p⟩
instance {x : Vector α k} : FlV (.arr e (x.toList.map f)) (k * e) := ⟨by simp [flen]⟩
instance : FlV (.arr e (List.replicate k v)) (k * e) := ⟨by simp [flen]⟩
instance [h : LtV v] : LtL (List.replicate k v) := ⟨fun m => by
 induction k with
 | zero => rfl
 | succ k ih => exact ltL_c (h.p m) ih⟩
instance : FlL [] 0 := ⟨rfl⟩
instance [h : FlV v a] [r : FlL vs b] : FlL (v :: vs) (a + b) := ⟨flL_c h.p r.p⟩
instance : FlT vs 0 0 := ⟨rfl⟩
instance [h : FlV v a] [r : FlT vs k b] : FlT (v :: vs) (k + 1) (a + b) := ⟨by rw [List.take_succ_cons]; exact flL_c h.p r.p⟩
end
/-- What stands at these places. -/
def sel (env : List (Nat × V)) : List Nat → Option (List (Nat × V))
 | [] => some []
 | k :: ks => match kq env k with
  | some p => match sel env ks with
   | some r => some (p :: r)
   | none => none
  | none => none
def selp (env : List (Nat × V)) : List Nat → Option (List (Nat × V))
 | [] => some []
 | k :: ks => match kp env k with
  | some p => match selp env ks with
   | some r => some (p :: r)
   | none => none
  | none => none
theorem sel_cons {env r : List (Nat × V)} {k : Nat} {ks : List Nat} (h : sel env (k :: ks) = some r) : ∃ t v r', r = (t, v) :: r' ∧ kq env k = some (t, v) ∧ sel env ks = some r' := by
 simp only [sel] at h
 split at h
 ·rename_i p hp
  split at h
  ·rename_i r' hr
   cases h
   exact ⟨p.1, p.2, r', rfl, hp, hr⟩
  ·cases h
 ·cases h
theorem selp_cons {env r : List (Nat × V)} {k : Nat} {ks : List Nat} (h : selp env (k :: ks) = some r) : ∃ t v r', r = (t, v) :: r' ∧ kp env k = some (t, v) ∧ selp env ks = some r' := by
 simp only [selp] at h
 split at h
 ·rename_i p hp
  split at h
  ·rename_i r' hr
   cases h
   exact ⟨p.1, p.2, r', rfl, hp, hr⟩
  ·cases h
 ·cases h
theorem lw {env : List (Nat × V)} {t : Nat} {v : V} (k : Nat) (h : kp env k = some (t, v)) : look env t = v := kp_get h
section
variable {f : Nat → Nat} {m t e i : Nat} {env r : List (Nat × V)} {v v0 : V} {H : List AObj} {is : List Nat} {rs : List AObj}
theorem lp (k : Nat) [L : LtV v] (h : kq env k = some (t, v0)) (p : RSub v0 v) (q : SelE f m env r) : SelE f m env ((t, v) :: r) := .leaf (kq_get h).1 (kq_get h).2 p L.p q
theorem sl (ks : List Nat) [L : LtE r] (h : sel env ks = some r) : SelE f m env r := by
 induction ks generalizing r with
 | nil => cases h; exact .nil
 | cons k ks ih =>
  obtain ⟨t, v, r', rfl, h1, h2⟩ := sel_cons h
  exact .leaf (kq_get h1).1 (kq_get h1).2 (.refl _) (fun m => L.p (t, v) (by simp) m) (@ih r' ⟨fun x hx => L.p x (by simp [hx])⟩ h2)
theorem hc [L : LtV v] (hi : H[i]? = some (.cells v0)) (p : RSub v0 v) (k : SelHS f m H is rs) : SelHS f m H (i :: is) (.cells v :: rs) := .cons (lt_cells (L.p m)) hi (RSub.trans p (.eq (V.ren_closed f (L.p 0)).symm)) k
theorem hb {α : Type} {F : α → V} {n : Nat} {b : Bool} [T : TyC F n b] {xs : List α} (hi : H[i]? = some (.buf e (xs.map F))) (k : SelHS f m H is rs) : SelHS f m H (i :: is) (.buf e (xs.map F) :: rs) := .cons (lt_buf T.ok) hi ⟨rfl, RSubL.leafr T.ok _ rfl⟩ k
end
section
variable {P : Program} {fn : Func} {n m : Nat} {env : List (Nat × V)} {H : List AObj} {v v0 : V} {Q : AEx → St → Prop}
theorem Pr {c : Code} {e : List (Nat × V)} (ks : List Nat) (h : selp env ks = some e) (q : AWp P n m c Q ⟨e, H⟩) : AWp P n m c Q ⟨env, H⟩ := by
 refine AWp.prune (env' := e) ?_ q
 clear q
 induction ks generalizing e with
 | nil => cases h; exact .nil
 | cons k ks ih =>
  obtain ⟨t, v, r', rfl, h1, h2⟩ := selp_cons h
  exact .e k h1 (ih h2)
/-- No slot twice. -/
def ndp : List (Nat × V) → Bool
 | [] => true
 | (t, _) :: r => !(hasT t r) && ndp r
where hasT (t : Nat) : List (Nat × V) → Bool
 | [] => false
 | (u, _) :: r => Nat.beq t u || hasT t r
theorem ndp_nd : ∀ {e : List (Nat × V)}, ndp e = true → (e.map (·.1)).Nodup
 | [], _ => .nil
 | (t, v) :: r, h => by
  simp only [ndp, Bool.and_eq_true, Bool.not_eq_true'] at h
  rw [List.map_cons, List.nodup_cons]
  refine ⟨?_, ndp_nd h.2⟩
  have : ∀ l : List (Nat × V), ndp.hasT t l = false → t ∉ l.map (·.1) := by
   intro l
   induction l with
   | nil => intro _ k; cases k
   | cons x l ih =>
    intro k
    simp only [ndp.hasT, Bool.or_eq_false_iff] at k
    rw [List.map_cons, List.mem_cons]
    rintro (q | q)
    ·subst q; simp at k
    ·exact ih k.2 q
  exact this r h.1
/-- Values are told, and no object of one's own is left. -/
theorem eN {e : List (Nat × V)} (ks : List Nat) (h : sel env ks = some e) [LtE e] (hr : fn.results.toList = e.map fun x => .tmp x.1) (h1 : (e.length == 1) = false) (hn' : ndp e = true) (he : V.tup (e.map (·.2)) = v) : endF P fn n 0 (fun o H'' => o = .ret v ∧ H'' = []) .ret ⟨env, H⟩ := by
 have hn := ndp_nd hn'
 have hk : ∀ x ∈ e, okV x.2 = true := by
  clear hr h1 hn hn' he
  induction ks generalizing e with
  | nil => cases h; intro x hx; cases hx
  | cons k ks ih =>
   obtain ⟨t, v, r', rfl, q1, q2⟩ := sel_cons h
   intro x hx
   rcases List.mem_cons.1 hx with rfl | hx
   ·exact (kq_get q1).2
   ·exact @ih r' q2 ⟨fun x hx => LtE.p (e := (t, v) :: r') x (by simp [hx])⟩ x hx
 have hl : ∀ (l : List (Nat × V)), (l.map (·.1)).Nodup → ∀ x ∈ l, look l x.1 = x.2 := by
  intro l
  induction l with
  | nil => intro _ x hx; cases hx
  | cons y l ih =>
   intro hn x hx
   rw [List.map_cons, List.nodup_cons] at hn
   rcases List.mem_cons.1 hx with rfl | hx
   ·exact l0
   ·have hne : Nat.beq x.1 y.1 = false := by
     rw [Bool.eq_false_iff]
     intro q
     have q' : x.1 = y.1 := Nat.eq_of_beq_eq_true q
     exact hn.1 (q' ▸ List.mem_map_of_mem (f := fun z : Nat × V => z.1) hx)
    show (bif Nat.beq x.1 y.1 then y.2 else look l x.1) = x.2
    rw [hne]
    exact ih hn.2 x hx
 refine endFN hr (Wk.selS [] .nil rfl (sl ks h) .nil) (vs := e.map (·.2)) ?_ (by simpa using h1) he rfl
 have : ∀ l : List (Nat × V), (∀ x ∈ l, look e x.1 = x.2 ∧ okV x.2 = true) → ResL P ⟨e, []⟩ (l.map fun x => ResultVar.tmp x.1) (l.map (·.2)) := by
  intro l
  induction l with
  | nil => exact fun _ => .nil
  | cons x l ih =>
   intro hx
   exact .cons (.tmp (hx x (by simp)).1 (hx x (by simp)).2) (ih fun y hy => hx y (by simp [hy]))
 exact this e fun x hx => ⟨hl e hn x hx, hk x hx⟩
theorem e2 (k : Nat) {t : Nat} [L : LtV v] (hr : fn.results = #[.tmp t]) (h : kq env k = some (t, v)) : endF P fn n 0 (fun o H'' => o = .ret v ∧ H'' = []) .ret ⟨env, H⟩ := e1 k hr h (.refl _) (L.p _) (kq_get h).2
theorem e3 (k : Nat) {t : Nat} [L : LtV v] (hr : fn.results = #[.tmp t]) (h : kq env k = some (t, v0)) (p : RSub v0 v) (hv : okV v = true) : endF P fn n 0 (fun o H'' => o = .ret v ∧ H'' = []) .ret ⟨env, H⟩ := e1 k hr h p (L.p _) hv
theorem PureC.c {f : FuncId} {fn : Func} {c : Code} {args : List V} {r : V} [A : LtL args] [R : LtV r] (n : Nat) (hf : P.funcs[f]? = some fn) (hb : fn.body = some c) (hnn : fn.ntmps = n) (hn : Nat.ble args.length n = true)
  (h : AWp P n 0 c (endF P fn n 0 fun o H' => o = .ret r ∧ H' = []) ⟨argEnv 0 args, []⟩) : PureC P f args r := .b n hf hb hnn hn (A.p 0) (R.p 0) h
end
section
variable {P : Program} {ops : Array Oper} {n i : Nat} {ord l : List Nat} {acc : List Kd} {Q : AEx → St → Prop} {o : Oper} {F : List AObj → Prop} {draw : Bool} {v w : V} {env : List (Nat × V)} {H H1 : List AObj} {d : Nat}
theorem Sn (H2 : List AObj) (ho : ops[i]? = some o) (hd : dstNo o = true) (h : OpS P o (ev env) H v H1) (e : H1 = H2) (hF : F H2) (t : Run F draw P ops n ord l (.eff :: acc) Q ⟨env, H2⟩) : Run F draw P ops n ord (i :: l) acc Q ⟨env, H⟩ :=
 S.effN ho hd (h.nf rfl e) hF t
theorem Sv (w : V) (H2 : List AObj) (ho : opd ops n i = some (d, o)) (h : OpS P o (ev env) H v H1) (hv : v = w) (e : H1 = H2) (hF : F H2) (t : Run F draw P ops n ord l (.eff :: acc) Q ⟨(d, w) :: env, H2⟩) : Run F draw P ops n ord (i :: l) acc Q ⟨env, H⟩ :=
 Se ho (h.nf hv e) hF t
end
section
variable {P : Program} {E : Operand → V} {H H2 : List AObj} {dst : Option Tmp} {ty : TypeId} {pos : String} {aft : Array Edge} {gd : Option (Nat × Bool)} {t : TypeId} {a x : Operand} {n k off off' : Nat} {b : Bool} {v u u0 old v' : V} {vs : List V} {l : List (Nat × Nat × Bool)} {o : Nat} {path : List Nat}
theorem OpS.ldC [S : SzT P t n] [A : AgT P t b] (hx : E a = .cptr u) [N : FlV u n] (hb : u.isAgg = b) : OpS P ⟨dst, .load t a, ty, pos, aft, gd⟩ E H u H := .loadC S.p A.p hx N.p hb
theorem OpS.ldP [S : SzT P t n] [A : AgT P t b] (hx : E a = .ptr o path off) (ho : H[o]? = some (.cells v)) (hu : AtP v path off' u) (hoff : off = off') [N : FlV u n] (hb : u.isAgg = b) : OpS P ⟨dst, .load t a, ty, pos, aft, gd⟩ E H u H := .loadP S.p A.p hx ho hu hoff N.p hb
theorem OpS.faC [L : LayT P t l] (hk : l[k]? = some (off, n, b)) (hn : (n == 0) = false) (hx : E x = .cptr (.st vs)) (hu : vs[k]? = some u) [T : FlT vs k off] : OpS P ⟨dst, .fieldAddr t x k, ty, pos, aft, gd⟩ E H (.cptr u) H := .fieldAddrC L.p hk hn hx hu T.p
theorem OpS.sw [S : SzT P t n] (ha : E a = .ptr o [] 0) (hx : E x = u) (hk : okV u = true) (ho : H[o]? = some (.cells v)) [N : FlV u n] [M : FlV v n] (hH : H.set o (.cells u) = H2) : OpS P ⟨dst, .store t a x, ty, pos, aft, gd⟩ E H .undef H2 := .stw S.p ha hx hk ho N.p M.p hH
theorem OpS.sP [S : SzT P t n] (ha : E a = .ptr o path off) (hx : E x = u0) (hk : okV u0 = true) (hsub : RSub u0 u) (ho : H[o]? = some (.cells v)) (hold : AtP v path off' old) (hoff : off = off') (hset : SetP v path u v') [N : FlV u n] [M : FlV old n]
  (hH : H.set o (.cells v') = H2) : OpS P ⟨dst, .store t a x, ty, pos, aft, gd⟩ E H .undef H2 := .storeP S.p ha hx hk hsub ho hold hoff hset N.p M.p hH
theorem OpS.cq {f : FuncId} {args : Array Operand} [N : EnT P f] (ha : SubL (args.toList.map E) args') (hs : PureC P f args' v) (hf : E (.func f) = .fn f [] []) : OpS P ⟨dst, .call ⟨.value (.func f), args, ats⟩, ty, pos, aft, gd⟩ E H v H :=
 .callQ N.p hf (by simpa using ha) hs
theorem AtP.f {k d : Nat} {w : V} {p : List Nat} (hk : vs[k]? = some w) [T : FlT vs k d] (h : AtP w p off u) : AtP (.st vs) (k :: p) (d + off) u := .st hk T.p h
theorem cr {ws : List V} {x : V} (hx : x = v) (t : SubL us ws) : SubL (x :: us) (v :: ws) := .c hx (.refl _) t
theorem i0 {c : Prop} [Decidable c] {v w : V} {t : Nat} {e : List (Nat × V)} (h : c) : look ((t, if c then v else w) :: e) t = v := ifT h l0
end
theorem Ok.b {α β : Type} {m : Option α} {k : α → Option β} {K : β → Prop} {p : Prop} (h : Ok (Option.bind m k) K) (f : ∀ r, m = some r → Ok (k r) K → p) : p := by
 obtain ⟨r, h1, h2⟩ := h.bnd
 exact f r h1 h2
theorem Ok.n {α β : Type} {e : α} {k : α → Option β} {K : β → Prop} {p : Prop} (h : Ok (letM e k) K) (f : ∀ v, v = e → Ok (k v) K → p) : p := by
 obtain ⟨v, h1, h2⟩ := h.nam
 exact f v h1 h2
theorem EnvF.l {o : Nat} {ob : AObj} {env r : List (Nat × V)} (ks : List Nat) (h : selp env ks = some r) : EnvF o ob env r := by
 induction ks generalizing r with
 | nil => cases h; exact .nil
 | cons k ks ih =>
  obtain ⟨t, v, r', rfl, h1, h2⟩ := selp_cons h
  exact .s k h1 (ih h2)
theorem Wk.z {n : Nat} {env r : List (Nat × V)} {H : List AObj} (ks : List Nat) (h : Av.sel env ks = some r) [LtE r] : Wk n 0 ⟨env, H⟩ ⟨r, []⟩ := Wk.selS [] .nil rfl (sl ks h) .nil
end
theorem _root_.Go.Av.Z.{u} {α : Sort u} {a : α} : a = a := rfl
section
variable {vs' : List V} {g : Gh} {p : Place}

/-- The same, but that the object o, which has no room, stands where nothing stood. -/
structure NilR (o : Nat) (v v' : V) : Prop where
 agg : v.isAgg = v'.isAgg
 fl : flen v = flen v'
 ok : okV v = okV v'
 rc : ∀ (g : Gh) p, g.ρ[o]? = some p → p.vac = true → ∀ cs, RC g v cs → RC g v' cs
inductive NilL (o : Nat) : List V → List V → Prop where
 | nil : NilL o [] []
 | cons {v v' : V} {vs vs' : List V} (h : NilR o v v') (t : NilL o vs vs') : NilL o (v :: vs) (v' :: vs')
theorem NilR.refl (v : V) : NilR o v v := ⟨rfl, rfl, rfl, fun _ _ _ _ _ h => h⟩
theorem NilL.fl {o : Nat} {vs vs' : List V} (h : NilL o vs vs') : flenL vs = flenL vs' := by
 induction h with
 | nil => rfl
 | cons h _ ih => simp [flenL, h.fl, ih]
theorem NilL.rcs {vs : List V} (h : NilL o vs vs') (hp : g.ρ[o]? = some p) (hv : p.vac = true) : ∀ {cs : List Value}, RCs g vs cs → RCs g vs' cs := by
 induction h with
 | nil => exact fun h => h
 | cons h _ ih =>
  intro cs k
  simp only [RCs] at k ⊢
  obtain ⟨a, b, h1, h2, h3⟩ := k
  exact ⟨a, b, h1, h.rc g p hp hv _ h2, ih h3⟩
theorem NilR.st {o : Nat} {vs vs' : List V} (h : NilL o vs vs') : NilR o (.st vs) (.st vs') := ⟨rfl, by simp only [flen]; exact h.fl, rfl, fun g p hp hv cs k => by
 simp only [RC] at k ⊢
 exact h.rcs hp hv k⟩
theorem NilR.cptr {o : Nat} {v v' : V} (h : NilR o v v') : NilR o (.cptr v) (.cptr v') := ⟨rfl, rfl, rfl, fun g p hp hv cs k => by
 simp only [RC] at k ⊢
 obtain ⟨a, c, h1, h2, h3, h4⟩ := k
 exact ⟨a, c, h1, h2, h.rc g p hp hv _ h3, h4⟩⟩
end
section
variable {H : List AObj}

/-- The bytes of a string, as numbers. -/
def bytesOf (s : ByteArray) : List Int := s.data.toList.map fun b => (b.toNat : Int)
theorem RCu.nums {g : Gh} {k : IntKind} : ∀ (l : List Int), RCu g 1 (l.map (V.int k)) (l.map (Value.int k))
 | [] => by simp [RCu]
 | n :: l => by
  simp only [List.map_cons, RCu]
  exact ⟨[.int k n], _, rfl, rfl, by simp [RC], RCu.nums l⟩
theorem RCu.nums_eq {g : Gh} {k : IntKind} : ∀ {l : List Int} {c : List Value}, RCu g 1 (l.map (V.int k)) c → c = l.map (Value.int k)
 | [], _, h => by simpa [RCu] using h
 | n :: l, c, h => by
  simp only [List.map_cons, RCu, RC] at h
  obtain ⟨a, b, rfl, _, rfl, h⟩ := h
  rw [RCu.nums_eq h]; rfl
theorem bytesOf_len {s : ByteArray} : ((bytesOf s).map (V.int .u8)).length = s.size := by
 rw [List.length_map, bytesOf, List.length_map]; rfl
theorem Rd.str {s : ByteArray} {H : List AObj} : Rd (.str s) H 1 ((bytesOf s).map (V.int .u8)) := by
 intro g w x h hr
 obtain rfl := h.str_eq
 refine ⟨(bytesOf s).map (Value.int .u8), .nums _, fun P w' _ => ⟨?_, ?_⟩⟩
 ·show Result.ok s.size w' = _
  rw [bytesOf_len]
 ·rw [bytesOf_len]
  show Result.ok _ w' = _
  congr 1
  apply Array.ext'
  simp only [bytesOf, ByteArray.data_extract, Array.toList_map, List.map_map]
  rw [show s.data.extract 0 s.size = s.data from Array.extract_size]
  rfl
theorem OpS.convS {E : Operand → V} {pos : String} {aft : Array Edge} {gd : Option (Nat × Bool)} {src d e : TypeId} {tk : Tk} {xs : List Int}
  (hs : P.underlying src = some (.slice e)) (he : P.underlying e = some (.int .u8)) (hd : P.underlying d = some .string) (hx : E x = .sl 1 tk (xs.map (V.int .u8))) : OpS P ⟨dst, .convert src d x, ty, pos, aft, gd⟩ E H (.str (strOfNums xs)) H :=
 .quiet fun g rc w h hr => by
  obtain ⟨a, cap, ex, h2, _, c, h4, h5, h6⟩ := (hx ▸ h x (by simp [Op.operands])).sl_eq
  have hc := RCu.nums_eq h4
  refine ⟨.string (strOfNums xs), ?_, ⟨rfl, by simp [RC, Value.cells]⟩⟩
  simp only [execOp, ex]
  cases a with
  | none =>
   have : xs = [] := List.eq_nil_of_length_eq_zero (by have := h5 rfl; simp at h2; omega)
   subst this
   rw [Sem.run_bind, run_convert_bytes_nil w src e hs he _ _ d hd]
   rfl
  | some ad =>
   have hl : (loadCells ad (xs.map (V.int .u8)).length).run P w = .ok (xs.map (Value.int .u8)).toArray w := by
    obtain ⟨q1, q2⟩ := h6 ad rfl
    have := run_loadCells_list (P := P) w ad c (fun j y hy => by rw [add_addr' (q1 (by rintro e; rw [hc] at hy; simp at e; subst e; simp at hy))]; exact hr.agree _ _ _ (q2 j y hy))
    rw [hc] at this
    simpa using this
   rw [Sem.run_bind, run_convert_bytes_string w src d e _ _ _ hs he hd, run_bytesToString w _ _ _ xs hl, foldl_push_bytes]
   simp [strOfNums, ByteArray.empty, ByteArray.emptyWithCapacity]
   rfl
end
section
variable {P : Program} {n m : Nat} {Q : AEx → St → Prop} {c : Code}
/-- So many rounds at most. -/
def ARounds (P : Program) (n m : Nat) (c : Code) (Q : AEx → St → Prop) : Nat → St → Prop
 | 0, _ => False
 | k + 1, s => AWp P n m c (thenQ (ARounds P n m c Q k) Q) s
theorem ARounds.get : ∀ (k : Nat) {s : St}, ARounds P n m c Q k s → ∀ (B : Base) g a w, B.H.length = m → B.g.ρ.length = m → RAct g n s.env a → HR g s.H w → Ev B.g B.H B.w g s.H w → Code.rounds P c (post Q n B) k a w
 | 0, _, h, _, _, _, _, _, _, _, _, _ => h.elim
 | k + 1, s, h, B, g, a, w, b1, b2, h1, h2, h3 => by
  refine wp_mono (h B g a w b1 b2 h1 h2 h3) ?_
  rintro e a' w' ⟨g', s', ae, hq, hx, r1, r2, r3⟩
  cases e <;> cases ae <;> simp only [ExRel] at hx <;> try exact hx.elim
  ·exact ARounds.get k hq B g' a' w' b1 b2 r1 r2 r3
  ·exact ⟨g', s', _, hq, hx, r1, r2, r3⟩
  ·exact ⟨g', s', _, hq, hx, r1, r2, r3⟩
  ·exact ⟨g', s', _, hq, trivial, r1, r2, r3⟩
  ·exact ⟨g', s', _, hq, hx, r1, r2, r3⟩
theorem AWp.rounds {s : St} (k : Nat) (h : ARounds P n m c Q k s) : AWp P n m (.loop c) Q s :=
 fun B g a w b1 b2 h1 h2 h3 => wp_loop_rounds k (h.get k B g a w b1 b2 h1 h2 h3)
end
/-- Pointers, and whether they are nil. -/
class PtV (v : V) (b : outParam Bool) : Prop where p : ∀ g x, RV g v x → ∃ a : Option Addr, x = .pointer a ∧ a.isNone = b
instance {o off : Nat} {p : List Nat} : PtV (.ptr o p off) false := ⟨fun g x h => by obtain ⟨p, _, e⟩ := h.ptr_eq; exact ⟨_, e, rfl⟩⟩
instance {v : V} : PtV (.cptr v) false := ⟨fun g x h => by obtain ⟨a, c, _, e, _⟩ := h.cptr_eq; exact ⟨_, e, rfl⟩⟩
instance : PtV .nilp true := ⟨fun g x h => by
 obtain ⟨h1, h2⟩ := h
 simp only [RC] at h2
 have ha : valAgg x = false := h1.symm
 refine ⟨none, ?_, rfl⟩
 cases x <;> simp_all [Value.cells, valAgg]⟩
def ptrT (P : Program) (t : TypeId) : Bool := match P.underlying t with | some (.pointer _) => true | _ => false
section
variable {P : Program} {E : Operand → V} {H : List AObj} {dst : Option Tmp} {ty : TypeId} {pos : String} {aft : Array Edge} {gd : Option (Nat × Bool)} {t t' : TypeId} {x y : Operand} {v : V} {b : Bool}
theorem run_eqP {a : Option Addr} (hu : ptrT P t = true) : ∀ d, (Op.equalIn (d + 1) t (.pointer a) (.pointer none)).run P w = .ok a.isNone w := by
 intro d
 unfold ptrT at hu
 cases hd : P.underlying t with
 | none => rw [hd] at hu; cases hu
 | some u =>
  cases u <;> rw [hd] at hu <;> try cases hu
  cases a <;> simp [Op.equalIn, run_underlying hd]
theorem OpS.eqlP (hu : ptrT P t = true) (hx : E x = v) [N : PtV v b] (hy : E y = .nilp) : OpS P ⟨dst, .binOp .eql t x y t', ty, pos, aft, gd⟩ E H (.bool b) H :=
 .quiet fun g rc w h _ => by
  obtain ⟨a, e1, rfl⟩ := N.p g _ (hx ▸ h x (by simp [Op.operands]))
  obtain ⟨a', e2, h2⟩ := PtV.p g _ (hy ▸ h y (by simp [Op.operands]))
  obtain rfl := Option.isNone_iff_eq_none.1 h2
  have hr : (Op.equalIn Op.maxDepth t (.pointer a) (.pointer none)).run P w = .ok a.isNone w := run_eqP hu 9999
  exact ⟨.bool a.isNone, by simp [execOp, e1, e2, binOp, Op.equal, hr, eqGuard, go_sem], RV.bool g _⟩
theorem OpS.neqP (hu : ptrT P t = true) (hx : E x = v) [N : PtV v b] (hy : E y = .nilp) : OpS P ⟨dst, .binOp .neq t x y t', ty, pos, aft, gd⟩ E H (.bool (!b)) H :=
 .quiet fun g rc w h _ => by
  obtain ⟨a, e1, rfl⟩ := N.p g _ (hx ▸ h x (by simp [Op.operands]))
  obtain ⟨a', e2, h2⟩ := PtV.p g _ (hy ▸ h y (by simp [Op.operands]))
  obtain rfl := Option.isNone_iff_eq_none.1 h2
  have hr : (Op.equalIn Op.maxDepth t (.pointer a) (.pointer none)).run P w = .ok a.isNone w := run_eqP hu 9999
  exact ⟨.bool (!a.isNone), by simp [execOp, e1, e2, binOp, Op.equal, hr, eqGuard, go_sem], RV.bool g _⟩
end
end Go.Av
