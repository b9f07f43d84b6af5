/- Numbers and locks, as the document has them. -/
import Derived.Test.YtemcahobfhomiaaAvCore13
namespace Go.Av
set_option linter.unusedSimpArgs false
set_option linter.unusedVariables false

attribute [simp] ltL_append ltL_map V.lt V.ltL flen flenL okV V.isAgg envLt objsLt AObj.lt Tk.lt

/-- May a number be? -/
def isN (n : Int) : Bool := decide (-1099511627776 ≤ n) && decide (n ≤ 1099511627776)
/-- May a replica be? -/
def isR (k : Int) : Bool := decide (0 ≤ k) && decide (k < 16)

/-- A number, if it and those that it is of may be. -/
def chkN (n : Int) (l : List Int) : Int := if l.all isN then n else 0
def chkE (l : List Int) : Int := if l.all isN then 0 else 2
def checkedV (n : Int) (l : List Int) : V := .tup [.int .i64 (chkN n l), .int .i64 (chkE l)]

theorem all_no {l : List Int} {i : Nat} (h : i < l.length) (hn : isN (l.getD i 0) = false) : l.all isN = false := by
  rw [← Bool.not_eq_true, List.all_eq_true]
  intro hall
  have := hall l[i] (by simp)
  simp [List.getD, h] at hn
  rw [hn] at this
  cases this

theorem all_yes {l : List Int} (h : ∀ j, j < l.length → isN (l.getD j 0) = true) : l.all isN = true := by
  rw [List.all_eq_true]
  intro x hx
  obtain ⟨j, hj, rfl⟩ := List.mem_iff_getElem.1 hx
  have := h j hj
  simpa [List.getD, hj] using this

theorem checkedV_no {n : Int} {l : List Int} {i : Nat} (h : i < l.length) (hn : isN (l.getD i 0) = false) : checkedV n l = .tup [.int .i64 0, .int .i64 2] := by
  simp [checkedV, chkN, chkE, all_no h hn]

theorem checkedV_yes {n : Int} {l : List Int} (h : ∀ j, j < l.length → isN (l.getD j 0) = true) : checkedV n l = .tup [.int .i64 n, .int .i64 0] := by
  simp [checkedV, chkN, chkE, all_yes h]

/-- May a sum be told? -/
def okAdd (a b : Int) : Bool := isN a && isN b && isN (a + b)
def addN (a b : Int) : Int := if okAdd a b then a + b else 0
def addE (a b : Int) : Int := if okAdd a b then 0 else 2

theorem isN_bounds {n : Int} (h : isN n = true) : -1099511627776 ≤ n ∧ n ≤ 1099511627776 := by simpa [isN] using h

theorem chk_add (a b : Int) : [a, b, IntKind.i64.wrap (a + b)].all isN = okAdd a b := by
  simp only [List.all_cons, List.all_nil, Bool.and_true, okAdd]
  cases ha : isN a with
  | false => simp
  | true =>
    cases hb : isN b with
    | false => simp
    | true =>
      have h1 := isN_bounds ha
      have h2 := isN_bounds hb
      rw [wrap_id (by omega) (by omega)]
      simp

theorem wrap_add {a b : Int} (h : okAdd a b = true) : IntKind.i64.wrap (a + b) = a + b := by
  simp only [okAdd, Bool.and_eq_true] at h
  have h1 := isN_bounds h.1.1
  have h2 := isN_bounds h.1.2
  exact wrap_id (by omega) (by omega)

theorem chkE_add (a b : Int) : chkE ([a, b] ++ [IntKind.i64.wrap (a + b)]) = addE a b := by
  show chkE [a, b, IntKind.i64.wrap (a + b)] = _
  unfold chkE addE; rw [chk_add]
theorem chkN_add (a b : Int) : chkN (IntKind.i64.wrap (a + b)) ([a, b] ++ [IntKind.i64.wrap (a + b)]) = addN a b := by
  show chkN _ [a, b, IntKind.i64.wrap (a + b)] = _
  unfold chkN addN; rw [chk_add]
  by_cases h : okAdd a b = true
  · rw [if_pos h, if_pos h, wrap_add h]
  · rw [if_neg h, if_neg h]

structure Lock where
  Seq : Int
  Ver : Int
  Holder : Int
  Value : Int
  deriving DecidableEq

theorem Lock.ext_iff {a b : Lock} : a = b ↔ a.Seq = b.Seq ∧ a.Ver = b.Ver ∧ a.Holder = b.Holder ∧ a.Value = b.Value := by cases a; cases b; simp

def encLock (l : Lock) : V := .st [.int .i64 l.Seq, .int .i64 l.Ver, .int .i64 l.Holder, .int .i64 l.Value]

@[simp] theorem flen_encLock (l : Lock) : flen (encLock l) = 4 := rfl
@[simp] theorem lt_encLock (m : Nat) (l : Lock) : (encLock l).lt m = true := rfl
@[simp] theorem agg_encLock (l : Lock) : (encLock l).isAgg = true := rfl
@[simp] theorem ok_encLock (l : Lock) : okV (encLock l) = true := rfl

/-- The first pair whose parts differ tells. -/
def cmpP : List (Int × Int) → Int
  | [] => 0
  | p :: r => if p.1 = p.2 then cmpP r else if p.2 < p.1 then 1 else -1

theorem cmpP_at : ∀ {l : List (Int × Int)} {i : Nat}, i < l.length → (∀ j, j < i → (l.getD j (0, 0)).1 = (l.getD j (0, 0)).2) → (l.getD i (0, 0)).1 ≠ (l.getD i (0, 0)).2 →
    cmpP l = if (l.getD i (0, 0)).2 < (l.getD i (0, 0)).1 then 1 else -1
  | [], _, h, _, _ => by simp at h
  | p :: l, 0, _, _, hne => by
    simp only [List.getD_cons_zero] at hne ⊢
    simp only [cmpP]; rw [if_neg hne]
  | p :: l, i + 1, h, heq, hne => by
    have h0 := heq 0 (by omega)
    simp only [List.getD_cons_zero] at h0
    simp only [List.getD_cons_succ] at hne ⊢
    simp only [cmpP]; rw [if_pos h0]
    exact cmpP_at (by simpa using h) (fun j hj => by simpa using heq (j + 1) (by omega)) hne

theorem cmpP_all : ∀ {l : List (Int × Int)}, (∀ j, j < l.length → (l.getD j (0, 0)).1 = (l.getD j (0, 0)).2) → cmpP l = 0
  | [], _ => rfl
  | p :: l, h => by
    have h0 := h 0 (by simp)
    simp only [List.getD_cons_zero] at h0
    simp only [cmpP]; rw [if_pos h0]
    exact cmpP_all fun j hj => by simpa using h (j + 1) (by simpa using hj)

def lockPairs (a b : Lock) : List (Int × Int) := [(a.Seq, b.Seq), (a.Ver, b.Ver), (a.Holder, b.Holder), (a.Value, b.Value)]

/-- Which of two is behind the other one. -/
def cmpLock (a b : Lock) : Int := cmpP (lockPairs a b)

def lock0 : Lock := ⟨0, 0, 0, 0⟩
def newLock (h v : Int) : Lock × Int := if isR h = false then (lock0, 1) else if isN v = false then (lock0, 2) else (⟨0, 0, h, v⟩, 0)
def rightLock (l : Lock) : Bool := (decide (0 ≤ l.Seq) && isN l.Seq) && (decide (0 ≤ l.Ver) && isN l.Ver) && isR l.Holder && isN l.Value
def writeLock (l : Lock) (k v : Int) : Lock × Int :=
  if k ≠ l.Holder then (lock0, 9) else if okAdd l.Ver 1 = true ∧ isN v = true then ({ l with Ver := l.Ver + 1, Value := v }, 0) else (lock0, 2)
def passLock (l : Lock) (k to : Int) : Lock × Int :=
  if k ≠ l.Holder then (lock0, 9) else if isR to = false then (lock0, 1) else if okAdd l.Seq 1 = true then ({ l with Seq := l.Seq + 1, Ver := 0, Holder := to }, 0) else (lock0, 2)
def joinLock (a b : Lock) : Lock := if cmpLock a b < 0 then b else a
def behindLock (a b : Lock) : Bool :=
  if a.Seq ≠ b.Seq then decide (b.Seq < a.Seq) else if a.Ver ≠ b.Ver then decide (b.Ver < a.Ver) else if a.Holder ≠ b.Holder then decide (b.Holder < a.Holder) else decide (b.Value < a.Value)

@[simp] theorem sh_encLock (l : Lock) : hasSh (.st [(0, .int .i64), (1, .int .i64), (2, .int .i64), (3, .int .i64)] 4) (encLock l) = true := rfl
@[simp] theorem eq_encLock (a b : Lock) : eqV (encLock a) (encLock b) = decide (a = b) := by
  simp [eqV, eqVL, encLock, Lock.ext_iff]

end Go.Av
