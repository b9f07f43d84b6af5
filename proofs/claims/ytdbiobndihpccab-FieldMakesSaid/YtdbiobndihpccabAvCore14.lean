/- A law's row: the arguments of any start, opened as abstract values, and shut again. -/
import Derived.Test.YtdbiobndihpccabAvCore13
import Derived.WalkKit
import Derived.ProofKit
import Derived.OpenShut
import Derived.ShutString
import Derived.ChangeOld
import Derived.Below
import Derived.SizedLaws
namespace Go.Av
set_option linter.unusedVariables false
set_option linter.unusedSimpArgs false
open Go.ChangeShapes Go.WideShapes Go.ChangeAt Go.RowKit

/-- Types of arguments, as trees. -/
inductive Ty where
  | bool
  | int (k : IntKind)
  | str
  | sl (e by_ : Nat) (t : Ty)
  | st (fs : List Ty)
  | arr (n e : Nat) (t : Ty)

def seqOff (P : Program) : Nat → List Field → Option Nat
  | n, [] => some n
  | n, f :: fs => if f.offset = n then seqOff P (n + P.cellsOf f.type) fs else none

def tyOf (P : Program) : Nat → TypeId → Option Ty
  | 0, _ => none
  | n + 1, t =>
    match P.underlying t with
    | some .bool => some .bool
    | some (.int k) => some (.int k)
    | some .string => some .str
    | some (.slice e) => if 0 < P.cellsOf e then (tyOf P n e).map (.sl (P.cellsOf e) (P.bytesOf e)) else none
    | some (.struct fs) => if seqOff P 0 fs.toList = some (P.cellsOf t) then (fs.toList.mapM fun f => tyOf P n f.type).map .st else none
    | some (.array k e) => if P.cellsOf t = k * P.cellsOf e then (tyOf P n e).map (.arr k (P.cellsOf e)) else none
    | _ => none

mutual
/-- A value of such a type, as an argument brings it. -/
def hasTy : Ty → V → Prop
  | .bool, v => ∃ b, v = .bool b
  | .int k, v => ∃ n, v = .int k n ∧ (Lit.int k n).wf = true
  | .str, v => ∃ s, v = .str s ∧ s.size ≤ reachBytes
  | .sl e by_ t, v => ∃ xs, v = .sl e .no xs ∧ xs.length ≤ maxLen ∧ xs.length * by_ ≤ reachBytes ∧ ∀ x ∈ xs, hasTy t x
  | .st ts, v => ∃ vs, v = .st vs ∧ hasTys ts vs
  | .arr n e t, v => ∃ vs, v = .arr e vs ∧ vs.length = n ∧ ∀ x ∈ vs, hasTy t x
def hasTys : List Ty → List V → Prop
  | [], vs => vs = []
  | t :: ts, vs => ∃ v r, vs = v :: r ∧ hasTy t v ∧ hasTys ts r
end

theorem decList {α : Type} {f : α → V} {Q : α → Prop} : ∀ {vs : List V}, (∀ x ∈ vs, ∃ a, x = f a ∧ Q a) → ∃ l : List α, vs = l.map f ∧ ∀ a ∈ l, Q a
  | [], _ => ⟨[], rfl, by simp⟩
  | v :: vs, h => by
    obtain ⟨a, rfl, ha⟩ := h v (by simp)
    obtain ⟨l, rfl, hl⟩ := decList (vs := vs) (fun x hx => h x (by simp [hx]))
    exact ⟨a :: l, rfl, by intro x hx; rcases List.mem_cons.1 hx with rfl | hx; exact ha; exact hl x hx⟩

def heapI (W : World) (b i : Nat) : Option Value := W.cell? ⟨b, i, none⟩
def gh0 (W : World) : Gh := ⟨heapI W, []⟩

theorem mapM_range {β : Type} {f : Nat → Option β} {n : Nat} {r : List β} (h : (List.range n).mapM f = some r) : r.length = n ∧ ∀ i, i < n → f i = r[i]? := by
  have hl := mapM_some_length h
  refine ⟨by simpa using hl, fun i hi => ?_⟩
  exact mapM_some_get h i i (by simp [hi])

section
variable {H : Type} {enc : TypeId × Value → H} {P : Program} {W : World} {base : Nat} {spare : Nat → Bool} {held : Bool}

theorem cells?_get {a : Addr} {n : Nat} {cs : List Value} (h : W.cells? base a n = some cs) : cs.length = n ∧ ∀ i x, cs[i]? = some x → W.cell? (a.add i) = some x := by
  unfold World.cells? at h
  split at h
  · obtain ⟨h1, h2⟩ := mapM_range h
    refine ⟨h1, fun i x hx => ?_⟩
    have hi : i < n := by rw [← h1]; exact (List.getElem?_eq_some_iff.1 hx).1
    rw [h2 i hi, hx]
  · cases h

theorem cell_spot {a : Addr} {x : Value} (h : W.cell? a = some x) : a.spot = none := by
  unfold World.cell? at h
  split at h
  · split at h
    · cases h
    · rename_i hs; simpa using hs
  · cases h

theorem holds_of_cells {a : Addr} {n : Nat} {cs : List Value} (h : W.cells? base a n = some cs) : (gh0 W).holds a cs ∧ (cs ≠ [] → a.spot = none) := by
  obtain ⟨_, h2⟩ := cells?_get h
  have hs : cs ≠ [] → a.spot = none := by
    intro hne
    cases cs with
    | nil => exact absurd rfl hne
    | cons x r =>
      have := cell_spot (h2 0 x rfl)
      simpa [Addr.add] using this
  refine ⟨fun i x hx => ?_, hs⟩
  have hne : cs ≠ [] := by rintro rfl; simp at hx
  have := h2 i x hx
  rw [add_addr' (hs hne)] at this
  exact this

/-- Elements one behind the other. -/
theorem open_elems {g : Gh} {T : Ty} {e : Nat} : ∀ (n : Nat) (a : Addr), a.spot = none → (∀ i, i < n → ∃ v c, hasTy T v ∧ RC g v c ∧ c.length = e ∧ g.holds (a.add (i * e)) c) →
    ∃ vs c, vs.length = n ∧ (∀ v ∈ vs, hasTy T v) ∧ RCu g e vs c ∧ g.holds a c
  | 0, a, _, _ => ⟨[], [], rfl, by simp, by simp [RCu], fun i x h => by simp at h⟩
  | n + 1, a, ha, h => by
    obtain ⟨v, c, h1, h2, h3, h4⟩ := h 0 (by omega)
    have hadd : ∀ m, a.add m = ⟨a.block, a.off + m, none⟩ := fun m => add_addr' ha
    obtain ⟨vs, c', k1, k2, k3, k4⟩ := open_elems n (a.add e) (by rw [hadd]) (fun i hi => by
      obtain ⟨v, c, h1, h2, h3, h4⟩ := h (i + 1) (by omega)
      refine ⟨v, c, h1, h2, h3, ?_⟩
      have : (a.add e).add (i * e) = a.add ((i + 1) * e) := by
        rw [hadd, hadd, add_addr' rfl, Nat.add_mul, Nat.one_mul]
        show (⟨a.block, a.off + e + i * e, none⟩ : Addr) = _
        rw [show a.off + e + i * e = a.off + (i * e + e) from by omega]
      rw [this]; exact h4)
    refine ⟨v :: vs, c ++ c', by simp [k1], ?_, ?_, ?_⟩
    · intro x hx
      rcases List.mem_cons.1 hx with rfl | hx
      · exact h1
      · exact k2 x hx
    · simp only [RCu]
      exact ⟨c, c', rfl, h3, h2, k3⟩
    · intro i x hx
      rcases Nat.lt_or_ge i c.length with hi | hi
      · rw [List.getElem?_append_left hi] at hx
        have := h4 i x hx
        rw [hadd] at this
        simpa using this
      · rw [List.getElem?_append_right hi] at hx
        have := k4 (i - c.length) x hx
        rw [hadd] at this
        rw [show a.off + i = a.off + e + (i - c.length) from by omega]
        exact this

/-- Elements of an array, cut out of its cells. -/
theorem cut_elems {g : Gh} {T : Ty} {e : Nat} : ∀ (n : Nat) (cs : List Value), cs.length = n * e → (∀ i, i < n → ∃ v, hasTy T v ∧ RC g v ((cs.drop (i * e)).take e)) →
    ∃ vs, vs.length = n ∧ (∀ v ∈ vs, hasTy T v) ∧ RCu g e vs cs
  | 0, cs, hl, _ => ⟨[], rfl, by simp, by simp only [RCu]; exact List.eq_nil_of_length_eq_zero (by simpa using hl)⟩
  | n + 1, cs, hl, h => by
    obtain ⟨v, h1, h2⟩ := h 0 (by omega)
    rw [Nat.add_mul, Nat.one_mul] at hl
    obtain ⟨vs, k1, k2, k3⟩ := cut_elems (e := e) n (cs.drop e) (by rw [List.length_drop, hl]; omega) (fun i hi => by
      obtain ⟨v, h1, h2⟩ := h (i + 1) (by omega)
      refine ⟨v, h1, ?_⟩
      rw [List.drop_drop, show e + i * e = (i + 1) * e from by rw [Nat.add_mul]; omega]
      exact h2)
    refine ⟨v :: vs, by simp [k1], ?_, ?_⟩
    · intro x hx
      rcases List.mem_cons.1 hx with rfl | hx
      · exact h1
      · exact k2 x hx
    · simp only [RCu]
      refine ⟨cs.take e, cs.drop e, (List.take_append_drop _ _).symm, by simp; omega, ?_, k3⟩
      simpa using h2

theorem mem_weightsAll {t : TypeId} {n : Nat} : ∀ {ds : List (DataW H)} {d : DataW H}, d ∈ ds → n ∈ d.weights P t → n ∈ DataW.weightsAll P t ds
  | d0 :: ds, d, hd, hn => by
    simp only [DataW.weightsAll, List.mem_append]
    rcases List.mem_cons.1 hd with rfl | hd
    · exact .inl hn
    · exact .inr (mem_weightsAll hd hn)

/-- Fields, cut out of a struct's cells. -/
theorem cut_fields {g : Gh} : ∀ (fs : List Field) (Ts : List Ty) (off : Nat) (cs : List Value), Ts.length = fs.length → seqOff P off fs = some (off + cs.length) →
    (∀ (i : Nat) f T, fs[i]? = some f → Ts[i]? = some T → ∃ v, hasTy T v ∧ RC g v ((cs.drop (f.offset - off)).take (P.cellsOf f.type))) → ∃ vs, hasTys Ts vs ∧ RCs g vs cs
  | [], Ts, off, cs, hl, hs, _ => by
    simp only [seqOff, Option.some.injEq] at hs
    have h1 : Ts = [] := List.eq_nil_of_length_eq_zero (by simpa using hl)
    have h2 : cs = [] := List.eq_nil_of_length_eq_zero (by omega)
    subst h1 h2
    exact ⟨[], by simp [hasTys], by simp [RCs]⟩
  | f :: fs, Ts, off, cs, hl, hs, h => by
    cases Ts with
    | nil => simp at hl
    | cons T Ts =>
      simp only [seqOff] at hs
      split at hs
      case isFalse => cases hs
      case isTrue hoff =>
        have hge : ∀ (fs : List Field) n m, seqOff P n fs = some m → n ≤ m := by
          intro fs
          induction fs with
          | nil => intro n m h; simp [seqOff] at h; omega
          | cons f fs ih =>
            intro n m h
            simp only [seqOff] at h
            split at h
            · have := ih _ _ h; omega
            · cases h
        have hb := hge _ _ _ hs
        obtain ⟨v, h1, h2⟩ := h 0 f T rfl rfl
        obtain ⟨vs, k1, k2⟩ := cut_fields fs Ts (off + P.cellsOf f.type) (cs.drop (P.cellsOf f.type)) (by simpa using hl) (by rw [hs, List.length_drop]; congr 1; omega) (fun i f' T' hf hT => by
          obtain ⟨v, h1, h2⟩ := h (i + 1) f' T' hf hT
          refine ⟨v, h1, ?_⟩
          have hfo : ∀ (fs : List Field) n m, seqOff P n fs = some m → ∀ (i : Nat) f, fs[i]? = some f → n ≤ f.offset := by
            intro fs
            induction fs with
            | nil => intro n m _ i f h; simp at h
            | cons f0 fs ih =>
              intro n m h i f hf
              simp only [seqOff] at h
              split at h
              case isFalse => cases h
              case isTrue e =>
                cases i with
                | zero => simp at hf; subst hf; omega
                | succ i => have := ih _ _ h i f (by simpa using hf); omega
          have := hfo _ _ _ hs i f' hf
          rw [List.drop_drop, show P.cellsOf f.type + (f'.offset - (off + P.cellsOf f.type)) = f'.offset - off from by omega]
          exact h2)
        refine ⟨v :: vs, ?_, ?_⟩
        · simp only [hasTys]
          exact ⟨v, vs, rfl, h1, k1⟩
        · simp only [RCs]
          refine ⟨cs.take (P.cellsOf f.type), cs.drop (P.cellsOf f.type), (List.take_append_drop _ _).symm, ?_, k2⟩
          rw [hoff, Nat.sub_self] at h2
          simpa using h2

/-- An argument's reading, opened. -/
theorem open_ty : ∀ (n : Nat) (t : TypeId) (T : Ty), tyOf P n t = some T → ∀ (fuel : Nat) (cs : List Value) (x : DataW H × List MemPlace),
    DataW.trod enc P W base (fun _ => true) held fuel t cs = some x → (∀ m ∈ x.1.weights P t, m ≤ reachBytes) → ∃ v, hasTy T v ∧ RC (gh0 W) v cs
  | 0, _, _, hT => by cases hT
  | n + 1, t, T, hT => by
    intro fuel cs x h hw
    unfold tyOf at hT
    split at hT
    case h_1 hu =>
      cases hT
      obtain ⟨b, rfl, _⟩ := DataW.trod_bool hu h
      exact ⟨.bool b, by simp [hasTy], by simp [RC]⟩
    case h_2 k hu =>
      cases hT
      obtain ⟨m, rfl, _, hm⟩ := DataW.trod_int hu h
      exact ⟨.int k m, by simp [hasTy, hm], by simp [RC]⟩
    case h_3 hu =>
      cases hT
      obtain ⟨s, rfl, rfl, _⟩ := DataW.trod_string hu h
      refine ⟨.str s, ?_, by simp [RC]⟩
      simp only [hasTy]
      exact ⟨s, rfl, by have := hw s.data.toList.length (by simp [DataW.weights]); simpa using this⟩
    case h_4 e hu =>
      split at hT
      case isFalse => cases hT
      case isTrue he0 =>
      obtain ⟨T', hT', rfl⟩ := Option.map_eq_some_iff.1 hT
      rcases DataW.trod_slice hu h with ⟨rfl, rfl⟩ | ⟨a, len, cap, elems, rest, m, _, rfl, rfl, _, hl, hm, hlen, hel, _, _⟩
      · refine ⟨.sl (P.cellsOf e) .no [], by simp [hasTy], ?_⟩
        simp only [RC]
        exact ⟨none, 0, rfl, by simp, trivial, [], by simp [RCu], fun _ => rfl, fun ad h => by cases h⟩
      · have hel' : ∀ i, i < len → ∃ v c, hasTy T' v ∧ RC (gh0 W) v c ∧ c.length = P.cellsOf e ∧ (gh0 W).holds (a.add (i * P.cellsOf e)) c ∧ (a.add (i * P.cellsOf e)).spot = none := by
          intro i hi
          have hi' : i < elems.length := by omega
          have := hel i hi
          rw [List.getElem?_eq_getElem hi', Option.bind_eq_some_iff] at this
          obtain ⟨c, hc, ht⟩ := this
          obtain ⟨v, h1, h2⟩ := open_ty n e T' hT' m c elems[i] ht (fun k hk => hw k (by
            simp only [DataW.weights, hu, List.mem_cons, List.mem_append]
            exact .inr (.inl (mem_weightsAll (List.mem_map.2 ⟨_, List.getElem_mem hi', rfl⟩) hk))))
          obtain ⟨k1, k2⟩ := holds_of_cells hc
          have hcl := (cells?_get hc).1
          exact ⟨v, c, h1, h2, hcl, k1, k2 (by rintro rfl; simp at hcl; omega)⟩
        have hspot : 0 < len → a.spot = none := by
          intro h0
          obtain ⟨_, _, _, _, _, _, h⟩ := hel' 0 h0
          simpa [Addr.add] using h
        have hlb : len * P.bytesOf e ≤ reachBytes := by
          have := hw ((elems.length + rest.length) * P.bytesOf e) (by simp [DataW.weights, hu])
          rw [Nat.add_mul, hlen] at this
          omega
        rcases Nat.eq_zero_or_pos len with h0 | h0
        · subst h0
          refine ⟨.sl (P.cellsOf e) .no [], by simp [hasTy], ?_⟩
          simp only [RC]
          exact ⟨some a, cap, by simp, by simp, trivial, [], by simp [RCu], (fun h => by cases h), fun ad h => ⟨fun h => absurd rfl h, fun i x hx => by simp at hx⟩⟩
        · obtain ⟨vs, c, k1, k2, k3, k4⟩ := open_elems len a (hspot h0) (fun i hi => by obtain ⟨v, c, h1, h2, h3, h4, _⟩ := hel' i hi; exact ⟨v, c, h1, h2, h3, h4⟩)
          refine ⟨.sl (P.cellsOf e) .no vs, ?_, ?_⟩
          · simp only [hasTy]
            exact ⟨vs, rfl, by omega, by rw [k1]; exact hlb, k2⟩
          · simp only [RC]
            exact ⟨some a, cap, by simp [k1], by omega, trivial, c, k3, (fun h => by cases h), fun ad h => by cases h; exact ⟨fun _ => hspot h0, k4⟩⟩
    case h_5 fs hu =>
      split at hT
      case isFalse => cases hT
      case isTrue hseq =>
      obtain ⟨Ts, hTs, rfl⟩ := Option.map_eq_some_iff.1 hT
      obtain ⟨xs, m, _, rfl, hlen, hxl, hf⟩ := DataW.trod_struct hu h
      have hTl := mapM_some_length hTs
      obtain ⟨vs, h1, h2⟩ := cut_fields (P := P) (g := gh0 W) fs.toList Ts 0 cs hTl (by rw [hseq, hlen]; simp) (fun i f T' hfi hTi => by
        have hfi' : fs[i]? = some f := by simpa using hfi
        have hix : i < xs.length := by rw [hxl]; exact (Array.getElem?_eq_some_iff.1 hfi').1
        have := hf i f hfi'
        rw [List.getElem?_eq_getElem hix] at this
        have hTf : tyOf P n f.type = some T' := by
          have := mapM_some_get hTs i f hfi
          rw [this, hTi]
        obtain ⟨v, h1, h2⟩ := open_ty n f.type T' hTf m _ xs[i] this (fun k hk => hw k (by
          simp only [DataW.weights, hu]
          refine DataW.weights_mem_each (j := i) (t := f.type) (d := xs[i].1) ?_ ?_ k hk
          · simp [hfi']
          · simp [hix]))
        exact ⟨v, h1, by simpa using h2⟩)
      exact ⟨.st vs, by simp only [hasTy]; exact ⟨vs, rfl, h1⟩, by simp only [RC]; exact h2⟩
    case h_6 k e hu =>
      split at hT
      case isFalse => cases hT
      case isTrue hsz =>
      obtain ⟨T', hT', rfl⟩ := Option.map_eq_some_iff.1 hT
      obtain ⟨xs, m, _, rfl, hlen, hxl, hf⟩ := DataW.trod_array hu h
      obtain ⟨vs, h1, h2, h3⟩ := cut_elems (g := gh0 W) (T := T') (e := P.cellsOf e) k cs (by rw [hlen, hsz]) (fun i hi => by
        have hix : i < xs.length := by omega
        have := hf i hi
        rw [List.getElem?_eq_getElem hix] at this
        exact open_ty n e T' hT' m _ xs[i] this (fun q hq => hw q (by
          simp only [DataW.weights, hu]
          exact mem_weightsAll (List.mem_map.2 ⟨_, List.getElem_mem hix, rfl⟩) hq)))
      exact ⟨.arr (P.cellsOf e) vs, by simp only [hasTy]; exact ⟨vs, rfl, h1, h2⟩, by simp only [RC]; exact h3⟩
    case h_7 => cases hT

/-- All parameters' types, as trees. -/
def tysOf (P : Program) (n : Nat) (ts : List TypeId) : Option (List Ty) := ts.mapM (tyOf P n)

theorem open_value {n : Nat} {r : Reach} {b0 : Nat} {t : TypeId} {T : Ty} {v : Value} {d : DataW H} {ps : List MemPlace} (hT : tyOf P n t = some T) (hval : Value.okWide P W r b0 t v)
    (hd : DataW.Trod enc P W base (fun _ => true) held t v d ps) (hw : ∀ m ∈ d.weights P t, m ≤ reachBytes) : ∃ a, hasTy T a ∧ RV (gh0 W) a v := by
  obtain ⟨fuel, hf⟩ := hd
  obtain ⟨a, h1, h2⟩ := open_ty n t T hT fuel _ (d, ps) hf hw
  refine ⟨a, h1, ?_⟩
  have hagg : a.isAgg = valAgg v := by
    cases n with
    | zero => cases hT
    | succ n =>
    unfold tyOf at hT
    split at hT
    case h_1 hu =>
      cases hT
      simp only [hasTy] at h1
      obtain ⟨b, rfl⟩ := h1
      simp only [Value.okWide, hu, Cell.okWide] at hval
      cases v <;> simp_all [Cell.ok, valAgg, V.isAgg]
    case h_2 k hu =>
      cases hT
      simp only [hasTy] at h1
      obtain ⟨b, rfl, _⟩ := h1
      simp only [Value.okWide, hu, Cell.okWide] at hval
      cases v <;> simp_all [Cell.ok, valAgg, V.isAgg]
    case h_3 hu =>
      cases hT
      simp only [hasTy] at h1
      obtain ⟨b, rfl, _⟩ := h1
      simp only [Value.okWide, hu, Cell.okWide] at hval
      cases v <;> simp_all [Cell.ok, valAgg, V.isAgg]
    case h_4 e hu =>
      split at hT
      case isFalse => cases hT
      case isTrue =>
      obtain ⟨T', _, rfl⟩ := Option.map_eq_some_iff.1 hT
      simp only [hasTy] at h1
      obtain ⟨b, rfl, _⟩ := h1
      obtain ⟨a, l, c, rfl⟩ := okWide_slice hu hval
      rfl
    case h_5 fs hu =>
      split at hT
      case isFalse => cases hT
      case isTrue =>
      obtain ⟨T', _, rfl⟩ := Option.map_eq_some_iff.1 hT
      simp only [hasTy] at h1
      obtain ⟨b, rfl, _⟩ := h1
      simp only [Value.okWide, hu] at hval
      obtain ⟨cs, rfl, _⟩ := hval
      rfl
    case h_6 k e hu =>
      split at hT
      case isFalse => cases hT
      case isTrue =>
      obtain ⟨T', _, rfl⟩ := Option.map_eq_some_iff.1 hT
      simp only [hasTy] at h1
      obtain ⟨b, rfl, _⟩ := h1
      simp only [Value.okWide, hu] at hval
      obtain ⟨cs, rfl, _⟩ := hval
      rfl
    case h_7 => cases hT
  cases a <;> first | exact ⟨hagg, h2⟩ | (simp only [RC] at h2)

theorem open_all {n : Nat} {r : Reach} {b0 : Nat} : ∀ {ts : List TypeId} {Ts : List Ty} {vs : List Value} {ds : List (DataW H)} {ps : List MemPlace}, tysOf P n ts = some Ts →
    (∀ (j : Nat) t v, ts[j]? = some t → vs[j]? = some v → Value.okWide P W r b0 t v) → DataW.TrodAll enc P W base (fun _ => true) held ts vs ds ps → (∀ m ∈ DataW.weightsEach P ts ds, m ≤ reachBytes) →
    ∃ as, hasTys Ts as ∧ RVs (gh0 W) as vs ∧ ds.length = ts.length
  | [], Ts, vs, ds, ps, hT, _, hA, _ => by
    obtain ⟨rfl, rfl, rfl⟩ := trodAll_nil hA
    simp [tysOf] at hT
    subst hT
    exact ⟨[], by simp [hasTys], by simp [RVs], rfl⟩
  | t :: ts, Ts, vs, ds, ps, hT, hv, hA, hw => by
    obtain ⟨v, vs', d, ds', p, q, rfl, rfl, rfl, h0, hA'⟩ := trodAll_cons hA
    simp only [tysOf, List.mapM_cons, Option.pure_def, Option.bind_eq_bind, Option.bind_eq_some_iff, Option.some.injEq] at hT
    obtain ⟨T, hT0, Ts', hTs, rfl⟩ := hT
    obtain ⟨a, h1, h2⟩ := open_value hT0 (hv 0 t v rfl rfl) h0 (fun m hm => hw m (by simp only [DataW.weightsEach, List.mem_append]; exact .inl hm))
    obtain ⟨as, h3, h4, h5⟩ := open_all hTs (fun j t v ht hvv => hv (j + 1) t v (by simpa using ht) (by simpa using hvv)) hA' (fun m hm => hw m (by simp only [DataW.weightsEach, List.mem_append]; exact .inr hm))
    refine ⟨a :: as, ?_, ?_, by simp [h5]⟩
    · simp only [hasTys]
      exact ⟨a, as, rfl, h1, h3⟩
    · exact ⟨v, vs', rfl, h2, h4⟩

/-- Arguments read behind the call as they did. -/
def fineAll (P : Program) (ts : List TypeId) : Bool := ts.all fun t => P.readableRec t && decide (t < P.types.size)

theorem shut_all (hl : laidOutB P = true) {W' : World} (hb : Below W.heap.size W W') : ∀ {ts : List TypeId} {vs : List Value} {ds : List (DataW H)} {ps : List MemPlace}, fineAll P ts = true →
    DataW.TrodAll enc P W 0 (fun _ => true) true ts vs ds ps → DataW.TrodAll enc P W' 0 (fun b => decide (b < W.heap.size)) true ts vs ds ps
  | [], vs, ds, ps, _, h => by
    obtain ⟨rfl, rfl, rfl⟩ := trodAll_nil h
    exact rfl
  | t :: ts, vs, ds, ps, hf, h => by
    obtain ⟨v, vs', d, ds', p, q, rfl, rfl, rfl, h0, h1⟩ := trodAll_cons h
    simp only [fineAll, List.all_cons, Bool.and_eq_true, decide_eq_true_eq] at hf
    refine ⟨p, q, ?_, shut_all hl hb (by simp only [fineAll]; exact hf.2) h1, rfl⟩
    exact Below.trod hl hf.1.1 hf.1.2 h0 hb (by obtain ⟨m, hm⟩ := h0; exact DataW.trod_lt m _ _ _ hm)
end

/-- A law: whatever the arguments, it returns true, and nothing that was there has turned. -/
theorem law_lifted {C : Checked} {f : FuncId} {fn : Func} {s : ChangeSpec} {conds : List PathCond} {n : Nat} {Ts : List Ty} {tb : TypeId} (own : ownKnob C.prog.godebug = none) (noInit : C.prog.inits.idxOf? f = none) (hfn : C.prog.funcs[f]? = some fn)
    (hvars : s.vars = []) (hl : laidOutB C.prog = true) (hfine : fineAll C.prog fn.params.toList = true) (hT : tysOf C.prog n fn.params.toList = some Ts) (hres : fn.resultTypes = #[tb]) (htb : C.prog.underlying tb = some .bool)
    (hs : ∀ (H : Type) (ds : List (DataW H)), ds.length = fn.params.toList.length → s.fn H ds = { results := [.lit (.bool true)], args := ds })
    (law : ∀ as, hasTys Ts as → CallSpec C.prog f as [] fun o _ => o = .ret (.bool true)) (os : Os) (started : os.Started) (H : Type) (enc : TypeId × Value → H)
    (witness : ∃ (w : World) (tape : Tape) (i : Input), w.os = os ∧ (w.forCall tape i).Shaped C.prog ∧ i.vars = [] ∧ Input.okWide C.prog (w.forCall tape i) .any w.heap.size f i ∧
      s.pre6 enc C.prog fn conds false (w.forCall tape i).memory i.args ∧ ({} : Assume).holds C.prog (lone (Frame.enter C.prog f i.args .normal) [] (w.forCall tape i))) :
    ReturnsInHanded {} C os f .any (s.pre6 enc C.prog fn conds false) (s.post enc C.prog fn false true false false) := by
  refine returnsInHanded_of_change_sized own started noInit hfn witness ?_
  intro W base args ds gs before hval hW _ hsz _
  have hW' := hW
  obtain ⟨p, q, hA, hV, rfl, _, _⟩ := hW
  rw [hvars] at hV
  obtain ⟨rfl, rfl⟩ := trodVars_none hV
  obtain ⟨as, h1, h2, h3⟩ := open_all (r := .any) (b0 := base) hT (fun j t v ht hv => hval j t v (by simpa using ht) (by simpa using hv)) hA (fun m hm => by
    have hvt : s.plain.varTypes C.prog = [] := by simp [ChangeSpec.plain, DataSpec.varTypes, hvars]
    rw [hvt, List.append_nil, List.append_nil] at hsz
    exact of_decide_eq_true (List.all_eq_true.1 hsz m hm))
  have hc := (law as h1).calls (g := gh0 W) (w := W) rfl h2 (fun b i x h => h)
  rw [Array.toArray_toList] at hc
  refine hc.mono ?_
  rintro e W' ⟨x, g', rfl, hx, bel⟩
  refine ⟨_, rfl, ?_⟩
  have hx' := hx.bool_eq
  subst hx'
  refine ⟨ds, [], _, [], p, [], hW', ?_, ?_, ?_, bel.frame _, fun h => by cases h⟩
  · rw [List.append_nil, hs H ds h3, hres]
    exact trodAll_mk1 ⟨1, by simp [DataW.trod, Value.cells, htb]⟩
  · rw [List.append_nil, hs H ds h3]
    exact shut_all hl bel hfine hA
  · rw [List.append_nil, hs H ds h3, hvars]
    rfl
end Go.Av
