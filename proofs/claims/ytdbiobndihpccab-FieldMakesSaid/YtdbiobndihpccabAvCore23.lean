/- Rules on typed values: what is equal, strings, pieces, literals, buffers. -/
import Derived.Test.YtdbiobndihpccabAvCore22
namespace Go.Av
set_option linter.unusedVariables false
set_option linter.unusedSectionVars false
set_option linter.unusedSimpArgs false

abbrev wr (k : IntKind) (n : Int) : Int := k.wrap n
/-- A piece of a list. -/
def ssl {α : Type} (xs : List α) (l h : Int) : Option (List α) := if 0 ≤ l ∧ l ≤ h ∧ h ≤ (xs.length : Int) then some ((xs.take h.toNat).drop l.toNat) else none
/-- A string's byte. -/
def bix (s : ByteArray) (i : Int) : Option Int := if h : 0 ≤ i ∧ i < (s.size : Int) then some ((s[i.toNat]'(by omega)).toNat : Int) else none
def bLt (a b : ByteArray) : Bool := decide (a.data.toList < b.data.toList)

theorem ssl_get {α : Type} {xs ys : List α} {l h : Int} (e : ssl xs l h = some ys) : 0 ≤ l ∧ l ≤ h ∧ h ≤ (xs.length : Int) ∧ ys = (xs.take h.toNat).drop l.toNat := by
  unfold ssl at e
  split at e
  · rename_i hc; cases e; exact ⟨hc.1, hc.2.1, hc.2.2, rfl⟩
  · cases e

/-! Told by other numbers. -/
theorem ren_sl {α : Type} {F : α → V} {n : Nat} {b : Bool} (h : TyOk F n b) (f : Nat → Nat) {e : Nat} {tk : Tk} {xs : List α} : (V.sl e tk (xs.map F)).ren f = .sl e (tk.ren f) (xs.map F) := by simp only [V.ren, V.renL_closed f (h.ltm 0 xs)]
theorem ren_slL {e : Nat} {tk : Tk} {vs vs' : List V} {f : Nat → Nat} (h : V.renL f vs = vs') : (V.sl e tk vs).ren f = .sl e (tk.ren f) vs' := by simp only [V.ren, h]
theorem ren_cptr {v v' : V} {f : Nat → Nat} (h : v.ren f = v') : (V.cptr v).ren f = .cptr v' := by simp only [V.ren, h]
theorem ren_fn {g : FuncId} {a a' b b' : List V} {f : Nat → Nat} (h : V.renL f a = a') (k : V.renL f b = b') : (V.fn g a b).ren f = .fn g a' b' := by simp only [V.ren, h, k]
theorem ren_tup {vs vs' : List V} {f : Nat → Nat} (h : V.renL f vs = vs') : (V.tup vs).ren f = .tup vs' := by simp only [V.ren, h]

/-! What is equal. -/

structure EqOk {α : Type} [DecidableEq α] (f : α → V) : Prop where
  is : ∀ x y, eqV (f x) (f y) = decide (x = y)
structure ShOk {α : Type} (f : α → V) (s : Sh) : Prop where
  is : ∀ x, hasSh s (f x) = true

theorem eqk_int (k : IntKind) : EqOk (V.int k) := ⟨fun x y => by simp [eqV]⟩
theorem eqk_bool : EqOk V.bool := ⟨fun x y => by cases x <;> cases y <;> rfl⟩
theorem bytes_beq (x y : ByteArray) : (x == y) = decide (x = y) := by
  cases x with | mk a => cases y with | mk b =>
  show (a == b) = _
  by_cases h : a = b
  · simp [h]
  · have h2 : (a == b) = false := by simpa using h
    rw [h2]; symm; simp [h]
theorem eqk_str : EqOk V.str := ⟨fun x y => bytes_beq x y⟩
theorem shk_int (k : IntKind) : ShOk (V.int k) (.int k) := ⟨fun x => by simp [hasSh]⟩
theorem shk_bool : ShOk V.bool .bool := ⟨fun x => rfl⟩
theorem shk_str : ShOk V.str .str := ⟨fun x => rfl⟩
theorem eqVL_map {α : Type} [DecidableEq α] {f : α → V} (h : EqOk f) : ∀ xs ys : List α, eqVL (xs.map f) (ys.map f) = decide (xs = ys)
  | [], [] => by simp [eqVL]
  | [], _ :: _ => by simp [eqVL]
  | _ :: _, [] => by simp [eqVL]
  | x :: xs, y :: ys => by simp only [List.map_cons, eqVL, h.is, eqVL_map h xs ys, List.cons.injEq, Bool.decide_and]
theorem eqk_arr {α : Type} [DecidableEq α] {f : α → V} {e n : Nat} (h : EqOk f) : EqOk (fun x : Vector α n => V.arr e (x.toList.map f)) := ⟨fun x y => by
  simp only [eqV, eqVL_map h]
  by_cases hx : x = y
  · simp [hx]
  · have : x.toList ≠ y.toList := fun h => hx (by apply Vector.toList_inj.1 h)
    simp [hx, this]⟩
theorem hasShA_map {α : Type} {f : α → V} {s : Sh} (h : ShOk f s) : ∀ xs : List α, hasShA s (xs.map f) = true
  | [] => rfl
  | x :: xs => by simp only [List.map_cons, hasShA, h.is, hasShA_map h xs, Bool.and_self]
theorem hasShF_nil {acc : Nat} : hasShF acc [] [] = true := rfl
theorem hasShF_c {acc off n : Nat} {s : Sh} {fs : List (Nat × Sh)} {v : V} {vs : List V} (ho : off = acc) (h : hasSh s v = true) (hn : flen v = n) (t : hasShF (acc + n) fs vs = true) : hasShF acc ((off, s) :: fs) (v :: vs) = true := by
  subst ho hn; simp [hasShF, h, t]
theorem hasSh_st {n : Nat} {fs : List (Nat × Sh)} {vs : List V} (h1 : flenL vs = n) (h2 : hasShF 0 fs vs = true) : hasSh (.st fs n) (.st vs) = true := by simp [hasSh, h1, h2]
theorem eqv_nil : eqVL [] [] = true := rfl
theorem eqv_c {x y : V} {xs ys : List V} {a b : Bool} (h : eqV x y = a) (t : eqVL xs ys = b) : eqVL (x :: xs) (y :: ys) = (a && b) := by simp [eqVL, h, t]
theorem eqv_st {xs ys : List V} {a b : Bool} (h : eqVL xs ys = a) (e : a = b) : eqV (.st xs) (.st ys) = b := by simp [eqV, h, e]
theorem shk_arr {α : Type} {f : α → V} {s : Sh} {e n : Nat} (h : ShOk f s) : ShOk (fun x : Vector α n => V.arr e (x.toList.map f)) (.arr n e s) := ⟨fun x => by simp [hasSh, hasShA_map h]⟩

section
variable {P : Program} {E : Operand → V} {H : List AObj} {dst : Option Tmp} {ty : TypeId} {pos : String} {aft : Array Edge} {gd : Option (Nat × Bool)}

theorem OpS.eqlT {α : Type} [DecidableEq α] {f : α → V} {t t' : TypeId} {x y : Operand} {s : Sh} {a b : α} (ht : EqT P t s) (he : EqOk f) (hs : ShOk f s) (hx : E x = f a) (hy : E y = f b) (ax : (f a).isAgg = true) (ay : (f b).isAgg = true) :
    OpS P ⟨dst, .binOp .eql t x y t', ty, pos, aft, gd⟩ E H (.bool (decide (a = b))) H := by
  rw [← he.is]; exact .eqlV ht hx hy (hs.is a) (hs.is b) ax ay
theorem OpS.neqT {α : Type} [DecidableEq α] {f : α → V} {t t' : TypeId} {x y : Operand} {s : Sh} {a b : α} (ht : EqT P t s) (he : EqOk f) (hs : ShOk f s) (hx : E x = f a) (hy : E y = f b) (ax : (f a).isAgg = true) (ay : (f b).isAgg = true) :
    OpS P ⟨dst, .binOp .neq t x y t', ty, pos, aft, gd⟩ E H (.bool (!decide (a = b))) H := by
  rw [← he.is]; exact .neqV ht hx hy (hs.is a) (hs.is b) ax ay

theorem OpS.lenT {α : Type} {f : α → V} {xs : List α} {t et : TypeId} {x : Operand} {vx : V} {e e' by_ : Nat} {b : Bool} (hl : sliOf P t = some (et, e, b, by_)) (hx : E x = vx) (hrd : vx.sub (.sl e' .no (xs.map f))) :
    OpS P ⟨dst, .call ⟨.builtin .len, #[x], #[t]⟩, ty, pos, aft, gd⟩ E H (.int .i64 (xs.length : Int)) H := by
  have := OpS.len (P := P) (E := E) (H := H) (dst := dst) (ty := ty) (pos := pos) (aft := aft) (gd := gd) hl hx hrd
  simpa using this

/-- The values of operands, one by one. -/
inductive ValsW (E : Operand → V) (e : Nat) : List (Nat × Operand) → Nat → List V → List V → Prop where
  | nil {k : Nat} : ValsW E e [] k [] []
  | cons {k : Nat} {x : Operand} {u0 u : V} {ps : List (Nat × Operand)} {us0 us : List V} (hx : E x = u0) (hk : okV u0 = true) (hs : RSub u0 u) (hn : flen u = e) (t : ValsW E e ps (k + 1) us0 us) : ValsW E e ((k, x) :: ps) k (u0 :: us0) (u :: us)
theorem ValsW.spec {e : Nat} {ps : List (Nat × Operand)} {k : Nat} {us0 us : List V} (h : ValsW E e ps k us0 us) : ValsL E e ps k us0 ∧ RSubL us0 us := by
  induction h with
  | nil => exact ⟨.nil, .nil⟩
  | cons hx hk hs hn _ ih => exact ⟨.cons hx hk (hs.fl.trans hn) ih.1, .cons hs ih.2⟩
theorem OpS.buildSliceW {t et : TypeId} {len : Nat} {parts : Array (Nat × Operand)} {e by_ : Nat} {b : Bool} {z : V} {vs0 vs : List V} (hl : sliOf P t = some (et, e, b, by_)) (hz : ZeroV P et z) (hze : flen z = e) (hlen : vs.length = len) (hsm : len * e ≤ 2 ^ 24)
    (hp : ValsW E e parts.toList 0 vs0 vs) : OpS P ⟨dst, .buildSlice t len parts, ty, pos, aft, gd⟩ E H (.sl e .exact vs) H :=
  OpS.vs (.buildSliceL hl hz hze (hp.spec.2.len.trans hlen) hsm hp.spec.1) rfl (.sl hp.spec.2)

theorem OpS.appOwnT {α : Type} {f : α → V} {st xt et xe : TypeId} {x y : Operand} {e by_ : Nat} {eag : Bool} {z : V} {xs ys zs : List α} {o len : Nat} {vy : V} {H2 : List AObj} (hst : sliOf P st = some (et, e, eag, by_))
    (hxt : P.underlying xt = some (.slice xe)) (hz : ZeroV P et z) (hze : flen z = e) (hby : 0 < by_) (hx : E x = .slo e o [] 0 0 len 1) (ho : H[o]? = some (.buf e (xs.map f))) (hlen : len = xs.length) (hy : E y = vy) (hrd : Rd vy H e (ys.map f))
    (hr : app by_ xs ys = some zs) (hH : H.set o .dead ++ [.buf e (zs.map f)] = H2) :
    OpS P ⟨dst, .call ⟨.builtin .append, #[x, y], #[st, xt]⟩, ty, pos, aft, gd⟩ E H (.slo e H.length [] 0 0 zs.length 1) H2 := by
  obtain ⟨h1, rfl⟩ := app_get hr
  subst hH
  have := OpS.appOwn (P := P) (E := E) (H := H) (dst := dst) (ty := ty) (pos := pos) (aft := aft) (gd := gd) hst hxt hz hze hby hx ho (by simpa using hlen) hy hrd (by simpa using h1) rfl
  simpa using this
theorem OpS.appNewT {α : Type} {f : α → V} {st xt et xe : TypeId} {x y : Operand} {e by_ : Nat} {eag : Bool} {z : V} {ys zs : List α} {vx vy : V} {H2 : List AObj} (hst : sliOf P st = some (et, e, eag, by_))
    (hxt : P.underlying xt = some (.slice xe)) (hz : ZeroV P et z) (hze : flen z = e) (hby : 0 < by_) (hx : E x = vx) (hxs : vx.sub (.sl e .exact [])) (hy : E y = vy) (hrd : Rd vy H e (ys.map f))
    (hr : app by_ [] ys = some zs) (hH : H ++ [.buf e (zs.map f)] = H2) :
    OpS P ⟨dst, .call ⟨.builtin .append, #[x, y], #[st, xt]⟩, ty, pos, aft, gd⟩ E H (.slo e H.length [] 0 0 zs.length 1) H2 := by
  obtain ⟨h1, rfl⟩ := app_get hr
  subst hH
  have := OpS.appNew (P := P) (E := E) (H := H) (dst := dst) (ty := ty) (pos := pos) (aft := aft) (gd := gd) hst hxt hz hze hby hx hxs hy hrd (by simpa using h1) rfl
  simpa using this


/-! Pieces. -/
theorem slice_core {P : Program} {w : World} {g : Gh} {t et : TypeId} {e by_ : Nat} {b : Bool} {a : Option Addr} {cap : Nat} {xs : List V} {l h m : Nat} {c : List Value} (hl : sliOf P t = some (et, e, b, by_))
    (hc : RCu g e xs c) (hn : a = none → cap = 0) (ha : ∀ ad, a = some ad → (xs ≠ [] → ad.spot = none) ∧ g.holds ad c) (h1 : l ≤ h) (h2 : h ≤ xs.length) (h3 : h ≤ m) (h4 : m ≤ cap) (h5 : xs.length ≤ cap) {tk : Tk} (htk : tk = .no ∨ (tk = .exact ∧ m = h)) :
    RV g (.sl e tk ((xs.take h).drop l)) (.slice (if m = l then a else a.map (·.add (l * e))) (h - l) (m - l)) := by
  refine RV.of_leaf rfl ?_
  have hlen : ((xs.take h).drop l).length = h - l := by simp; omega
  simp only [RC]
  refine ⟨_, m - l, by rw [hlen], by omega, ?_, (c.take (h * e)).drop (l * e), (hc.take h).drop l, ?_, ?_⟩
  · rcases htk with rfl | ⟨rfl, rfl⟩
    · trivial
    · rw [hlen]; rfl
  · intro hh
    split at hh
    · omega
    · have := hn (by simpa using hh)
      omega
  · intro ad had
    split at had
    · rename_i hml
      obtain ⟨k1, k2⟩ := ha ad had
      have hnil : (xs.take h).drop l = [] := List.eq_nil_of_length_eq_zero (by rw [hlen]; omega)
      refine ⟨fun hne => absurd hnil hne, ?_⟩
      have hd : (c.take (h * e)).drop (l * e) = [] := by
        apply List.drop_eq_nil_of_le
        rw [List.length_take]
        have : h * e ≤ l * e := Nat.mul_le_mul_right _ (by omega)
        omega
      rw [hd]
      intro i x hx
      simp at hx
    · obtain ⟨ad0, hd0, rfl⟩ := Option.map_eq_some_iff.1 had
      obtain ⟨k1, k2⟩ := ha ad0 hd0
      refine ⟨fun hne => ?_, ?_⟩
      · have hx : xs ≠ [] := fun hx => hne (by simp [hx])
        rw [add_addr' (k1 hx)]
      · intro i x hx
        have hil := (List.getElem?_eq_some_iff.1 hx).1
        have hx0 : xs ≠ [] := by
          intro hx0
          subst hx0
          simp only [RCu] at hc
          subst hc
          simp at hil
        rw [add_addr' (k1 hx0)]
        rw [List.getElem?_drop, List.getElem?_take_of_lt (by simp at hil; omega)] at hx
        have := k2 (l * e + i) x hx
        simpa [Nat.add_assoc] using this

theorem run_bound {P : Program} {w : World} {k : IntKind} {n : Int} {y : Nat} {code : BoundsCode} (h0 : 0 ≤ n) (h1 : n ≤ (y : Int)) : (Instr.sliceBound (.int k n) y code).run P w = .ok n.toNat w := by
  simp [Instr.sliceBound, asIntOf, h0, h1]

section
variable {P : Program} {E : Operand → V} {H : List AObj} {dst : Option Tmp} {ty : TypeId} {pos : String} {aft : Array Edge} {gd : Option (Nat × Bool)}
theorem slice_rule {α : Type} {f : α → V} {t et : TypeId} {x : Operand} {e by_ : Nat} {b : Bool} {tk tk' : Tk} {xs zs : List α} {l h : Int} (lo hi mx : Option Operand) (hl : sliOf P t = some (et, e, b, by_)) (hx : E x = .sl e tk (xs.map f)) (hz : ssl xs l h = some zs)
    (hlo : match lo with | none => l = 0 | some o => ∃ k, E o = .int k l) (hhi : match hi with | none => h = (xs.length : Int) | some o => ∃ k, E o = .int k h) (hmx : match mx with | none => True | some o => hi.isSome = true ∧ ∃ k, E o = .int k h) (htk : tk' = .no ∨ (tk' = .exact ∧ mx.isSome = true)) :
    OpS P ⟨dst, .slice t x lo hi mx, ty, pos, aft, gd⟩ E H (.sl e tk' (zs.map f)) H := by
  obtain ⟨h0, h1, h2, rfl⟩ := ssl_get hz
  refine .quiet fun g rc w hh hr => ?_
  obtain ⟨hut, hsz, hag, _⟩ := sliOf_get hl
  obtain ⟨a, cap, ex, hle, htk0, c, hc, hnone, hsome⟩ := (hx ▸ hh x (by simp [Op.operands])).sl_eq
  have hle' : xs.length ≤ cap := by simpa using hle
  have core := fun m h3 h4 h5 => slice_core (P := P) (w := w) (l := l.toNat) (h := h.toNat) (m := m) hl hc hnone hsome (by omega) (by simp; omega) h3 h4 hle (tk := tk') h5
  have hlv : ∀ o, lo = some o → ∃ k, rc o = .int k l := by
    intro o ho
    subst ho
    obtain ⟨k, hk⟩ := hlo
    exact ⟨k, (hk ▸ hh o (by simp [Op.operands])).int_eq⟩
  have hhv : ∀ o, hi = some o → ∃ k, rc o = .int k h := by
    intro o ho
    subst ho
    obtain ⟨k, hk⟩ := hhi
    exact ⟨k, (hk ▸ hh o (by simp [Op.operands])).int_eq⟩
  have hmv : ∀ o, mx = some o → ∃ k, rc o = .int k h := by
    intro o ho
    subst ho
    obtain ⟨_, k, hk⟩ := hmx
    exact ⟨k, (hk ▸ hh o (by simp [Op.operands])).int_eq⟩
  have key : ∀ m, (Instr.sliceBounds true xs.length cap (lo.map rc) (hi.map rc) (mx.map rc)).run P w = .ok (l.toNat, h.toNat, m) w → h.toNat ≤ m → m ≤ cap → (tk' = .no ∨ (tk' = .exact ∧ m = h.toNat)) →
      ∃ v, (execOp rc ⟨dst, .slice t x lo hi mx, ty, pos, aft, gd⟩).run P w = .ok (.value v) w ∧ RV g (.sl e tk' (((xs.take h.toNat).drop l.toNat).map f)) v := by
    intro m hm h3 h4 h5
    refine ⟨_, ?_, by have := core m h3 h4 h5; rw [List.map_drop, List.map_take]; exact this⟩
    have ex' : rc x = .slice a xs.length cap := by simpa using ex
    simp [execOp, Instr.sliceAt, Instr.slice, run_underlying hut, ex', hm, run_sizeOf' hsz]
  cases mx with
  | none =>
    have htk2 : ∀ m, tk' = .no ∨ (tk' = .exact ∧ m = h.toNat) := fun m => .inl (htk.resolve_right (fun q => by simp at q))
    refine key cap ?_ (by omega) (Nat.le_refl _) (htk2 _)
    cases hi with
    | none =>
      have hh' : h.toNat = xs.length := by simp only at hhi; omega
      cases lo with
      | none => simp only at hlo; subst hlo; simp [Instr.sliceBounds, hh']
      | some o =>
        obtain ⟨k, hk⟩ := hlv o rfl
        simp [Instr.sliceBounds, hk, run_bound h0 (show l ≤ (xs.length : Int) by omega), hh']
    | some oh =>
      obtain ⟨kh, hkh⟩ := hhv oh rfl
      cases lo with
      | none => simp only at hlo; subst hlo; simp [Instr.sliceBounds, hkh, run_bound (show 0 ≤ h by omega) (show h ≤ (cap : Int) by omega)]
      | some o =>
        obtain ⟨k, hk⟩ := hlv o rfl
        simp [Instr.sliceBounds, hk, hkh, run_bound (show 0 ≤ h by omega) (show h ≤ (cap : Int) by omega), run_bound h0 (show l ≤ ((h.toNat : Nat) : Int) by omega)]
  | some om =>
    obtain ⟨km, hkm⟩ := hmv om rfl
    refine key h.toNat ?_ (Nat.le_refl _) (by omega) ?_
    · cases hi with
      | none => simp at hmx
      | some oh =>
        obtain ⟨kh, hkh⟩ := hhv oh rfl
        cases lo with
        | none => simp only at hlo; subst hlo; simp [Instr.sliceBounds, hkh, hkm, run_bound (show 0 ≤ h by omega) (show h ≤ (cap : Int) by omega), run_bound (show 0 ≤ h by omega) (show h ≤ ((h.toNat : Nat) : Int) by omega)]
        | some o =>
          obtain ⟨k, hk⟩ := hlv o rfl
          simp [Instr.sliceBounds, hk, hkh, hkm, run_bound (show 0 ≤ h by omega) (show h ≤ (cap : Int) by omega), run_bound (show 0 ≤ h by omega) (show h ≤ ((h.toNat : Nat) : Int) by omega), run_bound h0 (show l ≤ ((h.toNat : Nat) : Int) by omega)]
    · rcases htk with q | q
      · exact .inl q
      · exact .inr ⟨q.1, rfl⟩

variable {α : Type} {f : α → V} {t et : TypeId} {x lo hi : Operand} {e by_ : Nat} {b : Bool} {tk : Tk} {xs zs : List α} {l h : Int} {kl kh : IntKind}
theorem OpS.slice_snn (hl : sliOf P t = some (et, e, b, by_)) (hx : E x = .sl e tk (xs.map f)) (h1 : E lo = .int kl l) (hz : ssl xs l (xs.length : Int) = some zs) : OpS P ⟨dst, .slice t x (some lo) none none, ty, pos, aft, gd⟩ E H (.sl e .no (zs.map f)) H :=
  slice_rule _ _ _ hl hx hz ⟨_, h1⟩ rfl trivial (.inl rfl)
theorem OpS.slice_nsn (hl : sliOf P t = some (et, e, b, by_)) (hx : E x = .sl e tk (xs.map f)) (h2 : E hi = .int kh h) (hz : ssl xs 0 h = some zs) : OpS P ⟨dst, .slice t x none (some hi) none, ty, pos, aft, gd⟩ E H (.sl e .no (zs.map f)) H :=
  slice_rule _ _ _ hl hx hz rfl ⟨_, h2⟩ trivial (.inl rfl)
theorem OpS.slice_ssn (hl : sliOf P t = some (et, e, b, by_)) (hx : E x = .sl e tk (xs.map f)) (h1 : E lo = .int kl l) (h2 : E hi = .int kh h) (hz : ssl xs l h = some zs) : OpS P ⟨dst, .slice t x (some lo) (some hi) none, ty, pos, aft, gd⟩ E H (.sl e .no (zs.map f)) H :=
  slice_rule _ _ _ hl hx hz ⟨_, h1⟩ ⟨_, h2⟩ trivial (.inl rfl)
theorem OpS.slice_nss {mx : Operand} {km : IntKind} (hl : sliOf P t = some (et, e, b, by_)) (hx : E x = .sl e tk (xs.map f)) (h2 : E hi = .int kh h) (h3 : E mx = .int km h) (hz : ssl xs 0 h = some zs) : OpS P ⟨dst, .slice t x none (some hi) (some mx), ty, pos, aft, gd⟩ E H (.sl e .exact (zs.map f)) H :=
  slice_rule _ _ _ hl hx hz rfl ⟨_, h2⟩ ⟨rfl, _, h3⟩ (.inr ⟨rfl, rfl⟩)
theorem OpS.slice_sss {mx : Operand} {km : IntKind} (hl : sliOf P t = some (et, e, b, by_)) (hx : E x = .sl e tk (xs.map f)) (h1 : E lo = .int kl l) (h2 : E hi = .int kh h) (h3 : E mx = .int km h) (hz : ssl xs l h = some zs) : OpS P ⟨dst, .slice t x (some lo) (some hi) (some mx), ty, pos, aft, gd⟩ E H (.sl e .exact (zs.map f)) H :=
  slice_rule _ _ _ hl hx hz ⟨_, h1⟩ ⟨_, h2⟩ ⟨rfl, _, h3⟩ (.inr ⟨rfl, rfl⟩)
end
end
end Go.Av
