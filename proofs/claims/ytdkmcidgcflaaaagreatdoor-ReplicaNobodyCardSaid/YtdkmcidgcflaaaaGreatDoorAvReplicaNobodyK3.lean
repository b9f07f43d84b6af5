/- Abstract values over the model, rules for walks. -/
import Derived.Test.YtdkmcidgcflaaaaGreatDoorAvReplicaNobodyK2
import Derived.MakeChecks
import Derived.Stop.Joined
import Derived.LaidLaws
import Derived.LaidMore
import Derived.Handed
import Derived.FnData
set_option linter.unusedSimpArgs false
set_option linter.unusedVariables false
set_option linter.unusedSectionVars false
namespace Go.Av
variable {ops : Array Oper} {ats : Array TypeId} {un : Bool} {k : IntKind} {N by_ d i j m m1 o : Nat} {hi x y : Operand} {dst : Option Tmp} {P : Program} {et t' ty : TypeId}
/-- What is told of a type. -/
structure TI where
 sz : Nat
 agg : Bool
 lay : List (Nat × Nat × Bool)
 sli : Option (TypeId × Nat × Bool × Nat)
 zero : Option V
 kd : Option IntKind
 un : Nat
/-- What a walk is told: the types; the places where a slice of one's own is made. -/
structure Cf where
 tab : List (Nat × TI)
 own : List (Nat × Nat)
 fz : List (Nat × List Nat)
 unr : Bool
def tiL : List (Nat × TI) → Nat → Option TI
 | [], _ => none
 | (u, i) :: l, t => bif Nat.beq t u then some i else tiL l t

/-- What stands in a slot: if the guards are as told. Its mark: 1 a pointer whose path is not all numbers, 2 true, 3 false. -/
structure En where
 t : Nat
 g : List (Nat × Bool)
 k : Nat
 v : V

def inG (d : Nat) (w : Bool) : List (Nat × Bool) → Bool
 | [] => false
 | q :: l => bif Nat.beq d q.1 then (match w, q.2 with | true, true => true | false, false => true | _, _ => inG d w l) else inG d w l
def subG : List (Nat × Bool) → List (Nat × Bool) → Bool
 | [], _ => true
 | p :: l, c => bif inG p.1 p.2 c then subG l c else false
def remT (t : Nat) : List (Nat × Bool) → List (Nat × Bool)
 | [] => []
 | q :: l => bif Nat.beq t q.1 then remT t l else q :: remT t l
/-- What stands in a slot, if the guards c are as told. -/
def rd : List En → List (Nat × Bool) → Nat → Option En
 | [], _, _ => none
 | ⟨u, g, k, v⟩ :: E, c, t => bif Nat.beq t u then (bif subG g (remT u c) then some ⟨u, g, k, v⟩ else none) else rd E (remT u c) t
def fnd : List En → Nat → Option En
 | [], _ => none
 | e :: E, t => bif Nat.beq t e.t then some e else fnd E t
/-- A value, and its mark. -/
def evm (E : List En) (c : List (Nat × Bool)) : Operand → Option (Nat × V)
 | .tmp t => match rd E c t with
  | some ⟨_, _, k, v⟩ => some (k, v)
  | none => none
 | .const (.bool true) => some (2, .bool true)
 | .const (.bool false) => some (3, .bool false)
 | .const (.int k n) => some (4, .int k n)
 | .const (.string s) => some (0, .str s)
 | .const (.pointer none) => some (0, .nilp)
 | .const (.slice none 0 0) => some (0, .nils)
 | .const (.map none) => some (0, .nilmap)
 | .const .nilFunc => some (0, .nilfn)
 | .const .nilIface => some (0, .nili)
 | .const _ => none
 | .func f => some (0, .fn f [] [])
 | .global b => some (0, glV b)

abbrev Ob := List V × Nat
inductive Rs where
 | no
 | q (k : Nat) (v : V) (ob : List Ob)
 | e (v : V) (H : List AObj) (ob : List Ob)

def scal : V → Bool
 | .st _ => false
 | .arr _ _ => false
 | .tup _ => false
 | .undef => false
 | _ => true
def scalL : List V → Bool
 | [] => true
 | v :: l => bif scal v then scalL l else false
/-- The cells of values: n; said at once, or left to be shown. -/
def cells (vs : List V) (n : Nat) (K : List Ob → Rs) : Rs := bif scalL vs then (bif Nat.beq vs.length n then K [] else .no) else K [(vs, n)]
def aggIs (v : V) (b : Bool) : Bool := match v.isAgg, b with
 | true, true => true
 | false, false => true
 | _, _ => false
def intB (op : BinOp) (k : IntKind) (a b : Int) : Option V := match op with
 | .add => some (.int k (wr k (a + b)))
 | .sub => some (.int k (wr k (a - b)))
 | .mul => some (.int k (wr k (a * b)))
 | .and => some (.int k (iAnd k a b))
 | .or => some (.int k (iOr k a b))
 | .xor => some (.int k (iXor k a b))
 | .eql => some (.bool (decide (a = b)))
 | .neq => some (.bool (!decide (a = b)))
 | .lss => some (.bool (decide (a < b)))
 | .leq => some (.bool (decide (a ≤ b)))
 | .gtr => some (.bool (decide (b < a)))
 | .geq => some (.bool (decide (b ≤ a)))
 | _ => none
def strB (op : BinOp) (a b : ByteArray) : Option V := match op with
 | .eql => some (.bool (decide (a = b)))
 | .neq => some (.bool (!decide (a = b)))
 | .lss => some (.bool (bLs a b))
 | .geq => some (.bool (!bLs a b))
 | _ => none
def nthP : List V → Nat → List V → Option (V × List V)
 | [], _, _ => none
 | w :: _, 0, pre => some (w, pre)
 | x :: vs, k + 1, pre => nthP vs k (x :: pre)
/-- The part at a path; the parts before it are gathered. -/
def atV : V → List Nat → List V → Option (V × List V)
 | v, [], pre => some (v, pre)
 | .st vs, k :: p, pre => match nthP vs k pre with
  | some (w, pre) => atV w p pre
  | none => none
 | _, _ :: _, _ => none
def setL' : List V → Nat → V → (List V → Rs) → Rs
 | [], _, _, _ => .no
 | _ :: H, 0, u, K => K (u :: H)
 | x :: H, o + 1, u, K => setL' H o u fun H' => K (x :: H')
def setV : V → List Nat → V → (V → Rs) → Rs
 | _, [], u, K => K u
 | .st vs, k :: p, u, K => match vs[k]? with
  | some w => setV w p u fun w' => setL' vs k w' fun vs' => K (.st vs')
  | none => .no
 | _, _ :: _, _, _ => .no
def setH : List AObj → Nat → AObj → (List AObj → Rs) → Rs
 | [], _, _, _ => .no
 | _ :: H, 0, u, K => K (u :: H)
 | x :: H, o + 1, u, K => setH H o u fun H' => K (x :: H')
def pushH : List AObj → AObj → (List AObj → Rs) → Rs
 | [], u, K => K [u]
 | x :: H, u, K => pushH H u fun H' => K (x :: H')
/-- A number, told in figures. -/
def figs : List Nat → Nat → (Nat → Rs) → Rs
 | [], n, K => K n
 | i :: l, n, K => bif Nat.beq n i then K i else figs l n K
def fig (n : Nat) (K : Nat → Rs) : Rs := figs [0, 1, 2, 3, 4, 5, 6, 7, 8, 9, 10, 11, 12, 13, 14, 15, 16, 17, 18, 19, 20, 21, 22, 23, 24, 25, 26, 27, 28, 29] n K
/-- The parts of a literal. -/
def fillP (E : List En) (c : List (Nat × Bool)) (l : List (Nat × Nat × Bool)) : List (Nat × Operand) → List V → List Ob → (List V → List Ob → Rs) → Rs
 | [], vs, ob, K => K vs ob
 | (i, x) :: ps, vs, ob, K => match evm E c x with
  | some (_, .nils) => match vs[i]? with
   | some (.sl e .no _) => match l[i]? with
    | some (_, n, _) => bif Nat.beq n 1 then setL' vs i (.sl e .no []) fun vs => fillP E c l ps vs ob K else .no
    | none => .no
   | _ => .no
  | some (_, .sl e tk xs) => match vs[i]? with
   | some (.sl _ .no _) => match l[i]? with
    | some (_, n, _) => bif Nat.beq n 1 then setL' vs i (.sl e .no xs) fun vs => fillP E c l ps vs ob K else .no
    | none => .no
   | _ => .no
  | some (_, u) => match okV u with
   | true => match l[i]? with
    | some (_, n, _) => bif scal u then (bif Nat.beq n 1 then setL' vs i u fun vs => fillP E c l ps vs ob K else .no) else setL' vs i u fun vs => fillP E c l ps vs (([u], n) :: ob) K
    | none => .no
   | false => .no
  | none => .no
def elems (E : List En) (c : List (Nat × Bool)) (e : Nat) : List (Nat × Operand) → Nat → List Ob → (List V → List Ob → Rs) → Rs
 | [], _, ob, K => K [] ob
 | (i, x) :: ps, j, ob, K => bif Nat.beq i j then (match evm E c x with
  | some (_, u) => match okV u with
   | true => bif scal u then (bif Nat.beq e 1 then elems E c e ps (j + 1) ob fun us ob => K (u :: us) ob else .no) else elems E c e ps (j + 1) (([u], e) :: ob) fun us ob => K (u :: us) ob
   | false => .no
  | none => .no) else .no
def evL (E : List En) (c : List (Nat × Bool)) : List Operand → Option (List V)
 | [] => some []
 | x :: l => match evm E c x with
  | some (_, v) => match evL E c l with
   | some r => some (v :: r)
   | none => none
  | none => none
def isOwn (r i : Nat) : List (Nat × Nat) → Bool
 | [] => false
 | (a, b) :: l => bif Nat.beq a r then (bif Nat.beq b i then true else isOwn r i l) else isOwn r i l
def mark (b : Bool) : Rs := match b with
 | true => .q 2 (.bool true) []
 | false => .q 3 (.bool false) []
def ptrB (T : List (Nat × TI)) (op : BinOp) (t : Nat) (b : Bool) : Rs := match tiL T t with
 | some ti => bif Nat.beq ti.un 3 then (match op with
  | .eql => mark b
  | .neq => mark (!b)
  | _ => .no) else .no
 | none => .no
def sLoad (T : List (Nat × TI)) (E : List En) (c : List (Nat × Bool)) (H : List AObj) (t : Nat) (a : Operand) : Rs := match tiL T t with
 | some ⟨sz, ag, _, _, _, _, _⟩ => match evm E c a with
  | some (0, .cptr u) => bif aggIs u ag then cells [u] sz (.q 0 u) else .no
  | some (0, .ptr o p off) => match H[o]? with
   | some (.cells v) => match atV v p [] with
    | some (u, pre) => bif aggIs u ag then cells [u] sz fun o1 => cells pre off fun o2 => .q 0 u (o1 ++ o2) else .no
    | none => .no
   | _ => .no
  | _ => .no
 | none => .no
/-- A part that was a slice, and is nothing now, is a slice of nothing. -/
def weak (p : List Nat) (u w : V) (K : V → Rs) : Rs := match p with
 | [] => K u
 | _ => match u with
  | .nils => match w with
   | .sl e .no _ => K (.sl e .no [])
   | _ => K .nils
  | .sl e tk xs => match w with
   | .sl _ .no _ => K (.sl e .no xs)
   | _ => K (.sl e tk xs)
  | u => K u
def sStore (T : List (Nat × TI)) (E : List En) (c : List (Nat × Bool)) (H : List AObj) (t : Nat) (a x : Operand) : Rs := match tiL T t with
 | some ⟨sz, _, _, _, _, _, _⟩ => match evm E c a with
  | some (0, .ptr o p off) => match evm E c x with
   | some (_, u) => match okV u with
    | true => match H[o]? with
     | some (.cells v) => match atV v p [] with
      | some (w, pre) => weak p u w fun u => setV v p u fun v' => setH H o (.cells v') fun H' => cells [u] sz fun o1 => cells [w] sz fun o2 => cells pre off fun o3 => .e .undef H' (o1 ++ (o2 ++ o3))
      | none => .no
     | _ => .no
    | false => .no
   | none => .no
  | _ => .no
 | none => .no
def sAddr (T : List (Nat × TI)) (E : List En) (c : List (Nat × Bool)) (t : Nat) (x : Operand) (k : Nat) : Rs := match tiL T t with
 | some ti => match ti.lay[k]? with
  | some (off, n, _) => bif Nat.beq n 0 then .no else match evm E c x with
   | some (m, .ptr o p a) => .q m (.ptr o (p ++ [k]) (a + off)) []
   | some (_, .cptr (.st vs)) => match nthP vs k [] with
    | some (u, pre) => cells pre off (.q 0 (.cptr u))
    | none => .no
   | _ => .no
  | none => .no
 | none => .no
def sField (T : List (Nat × TI)) (E : List En) (c : List (Nat × Bool)) (t : Nat) (x : Operand) (k : Nat) : Rs := match tiL T t with
 | some ti => match ti.lay[k]? with
  | some (off, n, b) => match evm E c x with
   | some (_, .st vs) => match nthP vs k [] with
    | some (u, pre) => bif aggIs u b then cells pre off fun o1 => cells [u] n fun o2 => .q 0 u (o1 ++ o2) else .no
    | none => .no
   | _ => .no
  | none => .no
 | none => .no
def sBool (T : List (Nat × TI)) (op : BinOp) (t : Nat) (a b : Bool) : Rs := match tiL T t with
 | some ti => bif Nat.beq ti.un 1 then (match op with
  | .eql => .q 0 (.bool (a == b)) []
  | .neq => .q 0 (.bool (!(a == b))) []
  | _ => .no) else .no
 | none => .no
def sBin (T : List (Nat × TI)) (op : BinOp) (t : Nat) : V → V → Rs
 | .int k a, .int k' b => match decEq k k' with
  | isTrue _ => match intB op k a b with
   | some r => .q 0 r []
   | none => .no
  | isFalse _ => .no
 | .str a, .str b => match strB op a b with
  | some r => .q 0 r []
  | none => .no
 | .bool a, .bool b => sBool T op t a b
 | .nilp, .nilp => ptrB T op t true
 | .ptr _ _ _, .nilp => ptrB T op t false
 | .cptr _, .nilp => ptrB T op t false
 | _, _ => .no
def sUn (u : UnOp) (k : Nat) (v : V) : Rs := match u, v with
 | .not, .bool b => match k with
  | 2 => match b with
   | true => .q 3 (.bool false) []
   | false => .no
  | 3 => match b with
   | false => .q 2 (.bool true) []
   | true => .no
  | _ => .q 0 (.bool (!b)) []
 | .neg, .int k a => .q 0 (.int k (wr k (0 - a))) []
 | .xor, .int k a => .q 0 (.int k (iNot k a)) []
 | _, _ => .no
def sPick (E : List En) (c : List (Nat × Bool)) (d : Nat) (x y : Operand) : Rs := match fnd E d with
 | some ⟨_, _, k, .bool b⟩ => match rd E c d with
  | some _ => match k with
   | 0 => match x with
    | .const (.bool true) => match evm E ((d, false) :: c) y with
     | some (_, .bool e) => .q 0 (.bool (b || e)) []
     | _ => .no
    | x => match y with
     | .const (.bool false) => match evm E ((d, true) :: c) x with
      | some (_, .bool e) => .q 0 (.bool (b && e)) []
      | _ => .no
     | _ => .no
   | _ => match b with
    | true => match evm E c x with
     | some (k, v) => .q k v []
     | none => .no
    | false => match evm E c y with
     | some (k, v) => .q k v []
     | none => .no
  | none => .no
 | _ => .no
def sLen (T : List (Nat × TI)) (E : List En) (c : List (Nat × Bool)) (t : Nat) (x : Operand) : Rs := match tiL T t with
 | some ti => match evm E c x with
  | some (_, .str s) => bif Nat.beq ti.un 2 then .q 0 (.int .i64 s.size) [] else .no
  | some (_, .nils) => match ti.sli with
   | some _ => .q 0 (.int .i64 0) []
   | none => .no
  | some (_, .slo _ _ _ _ _ len _) => match ti.sli with
   | some _ => .q 0 (.int .i64 len) []
   | none => .no
  | _ => .no
 | none => .no
def sMm (b : Builtin) : V → V → Rs
 | .int k a, .int k' d => match decEq k k' with
  | isTrue _ => match b with
   | .max => .q 0 (.int k (max a d)) []
   | .min => .q 0 (.int k (min a d)) []
   | _ => .no
  | isFalse _ => .no
 | _, _ => .no
def sCall (T : List (Nat × TI)) (E : List En) (c : List (Nat × Bool)) (cl : Callee) (args : List Operand) (ats : List TypeId) : Rs := match cl with
 | .builtin b => match args with
  | [x] => match ats with
   | [t] => match b with
    | .len => sLen T E c t x
    | _ => .no
   | _ => .no
  | [x, y] => match evm E c x with
   | some (_, u) => match evm E c y with
    | some (_, w) => sMm b u w
    | none => .no
   | none => .no
  | _ => .no
 | _ => .no
def sConv (T : List (Nat × TI)) (E : List En) (c : List (Nat × Bool)) (a b : Nat) (x : Operand) : Rs := match tiL T a with
 | some _ => match tiL T b with
  | some ti => match ti.kd with
   | some k' => match evm E c x with
    | some (_, .int k a) => .q 0 (.int k' (wr k' a)) []
    | _ => .no
   | none => .no
  | none => .no
 | none => .no
/-- Two numbers that are told in figures. -/
def sLit (op : BinOp) : V → V → Rs
 | .int k a, .int k' b => match decEq k k' with
  | isTrue _ => match op with
   | .add => match wr k (a + b) with
    | .ofNat n => fig n fun n => .q 4 (.int k (.ofNat n)) []
    | _ => .no
   | .lss => mark (decide (a < b))
   | _ => match intB op k a b with
    | some r => .q 0 r []
    | none => .no
  | isFalse _ => .no
 | _, _ => .no
/-- One operation. -/
def sop (u : Bool) (T : List (Nat × TI)) (E : List En) (c : List (Nat × Bool)) (H : List AObj) (op : Op) : Rs := match op with
 | .move x => match evm E c x with
  | some (k, v) => .q k v []
  | none => .no
 | .assign x => match evm E c x with
  | some (k, v) => .q k v []
  | none => .no
 | .extract x i => match evm E c x with
  | some (_, .tup vs) => match vs[i]? with
   | some v => .q 0 v []
   | none => .no
  | _ => .no
 | .load t a => sLoad T E c H t a
 | .store t a x => sStore T E c H t a x
 | .alloc t => match tiL T t with
  | some ti => match ti.zero with
   | some z => fig H.length fun o => pushH H (.cells z) fun H' => .e (.ptr o [] 0) H' []
   | none => .no
  | none => .no
 | .box _ x => match evm E c x with
  | some (_, v) => match okV v with
   | true => fig H.length fun o => pushH H (.cells v) fun H' => .e (.ptr o [] 0) H' []
   | false => .no
  | none => .no
 | .fieldAddr t x k => sAddr T E c t x k
 | .field t x k => sField T E c t x k
 | .nilCheck x => match evm E c x with
  | some (k, .ptr o p a) => .q k (.ptr o p a) []
  | some (_, .cptr u) => .q 0 (.cptr u) []
  | some (_, .fn f a b) => .q 0 (.fn f a b) []
  | _ => .no
 | .binOp op t x y _ => match evm E c x with
  | some (k1, v) => match evm E c y with
   | some (k2, w) => match u with
    | true => match k1, k2 with
     | 4, 4 => sLit op v w
     | _, _ => sBin T op t v w
    | false => sBin T op t v w
   | none => .no
  | none => .no
 | .unOp u _ x => match evm E c x with
  | some (k, v) => sUn u k v
  | none => .no
 | .convert a b x => sConv T E c a b x
 | .pick d x y => match d with
  | .tmp d => sPick E c d x y
  | _ => .no
 | .build t parts => match tiL T t with
  | some ti => match ti.zero with
   | some (.st zs) => fillP E c ti.lay parts.toList zs [] fun vs ob => .q 0 (.st vs) ob
   | _ => .no
  | none => .no
 | .buildSlice t n parts => match tiL T t with
  | some ti => match ti.sli with
   | some (_, e, _, _) => elems E c e parts.toList 0 [] fun vs ob => bif Nat.beq vs.length n then (bif Nat.ble (n * e) 16777216 then .q 0 (.sl e .exact vs) ob else .no) else .no
   | none => .no
  | none => .no
 | .call cl => sCall T E c cl.callee cl.args.toList cl.argTypes.toList
 | .makeFunc f fs cs => match f with
  | .func f => match evL E c fs.toList with
   | some a => match evL E c cs.toList with
    | some b => match okL a, okL b with
     | true, true => .q 0 (.fn f a b) []
     | _, _ => .no
    | none => .no
   | none => .no
  | _ => .no
 | _ => .no

/-- What is left to do behind a code. -/
inductive Kk : Type 1 where
 | nil
 | th (y : Code) (k : Kk)
 | bl (id : Nat) (k : Kk)
 | cu (X : Type) (p : X → Prop) (S : X → List En × List AObj) (k : Kk)
 | lp (b : Code) (N : Nat) (k : Kk)
 | sc (k : Kk)

/-- Where the walk stands. -/
inductive Fo : Type 1 where
 | c (c : Code) (k : Kk) (E : List En) (H : List AObj)
 | o (r : Nat) (ops : Array Oper) (i : Nat) (l : List Oper) (k : Kk) (E : List En) (H : List AObj)
 | x (e : AEx) (k : Kk) (E : List En) (H : List AObj)
 | d (r : Nat) (ops : Array Oper) (i : Nat) (l : List Oper) (acc : List Kd) (fr : List (Nat × AObj)) (k : Kk) (E : List En) (H : List AObj)

inductive Gx where
 | no
 | off
 | on (y : Bool) (c : List (Nat × Bool))
/-- The guards under which an operation stands. -/
def gctx (ops : List Oper) (E : List En) : Option (Nat × Bool) → Gx
 | none => .on false []
 | some (j, w) => match ops[j]? with
  | some ⟨some d, _, _, _, _, _⟩ => match fnd E d with
   | some ⟨_, g, k, .bool b⟩ => match k with
    | 0 => match rd E g d with
     | some _ => .on true ((d, w) :: g)
     | none => .no
    | _ => match g with
     | [] => match rd E [] d with
      | some _ => match b, w with
       | true, true => .on true []
       | false, false => .on true []
       | _, _ => .off
      | none => .no
     | _ => .no
   | some ⟨_, [], _, .tup []⟩ => match rd E [] d with
    | some _ => .off
    | none => .no
   | _ => .no
  | _ => .no
def inF (o : Nat) : List (Nat × AObj) → Bool
 | [] => false
 | (u, _) :: l => bif Nat.beq o u then true else inF o l
/-- How an operation that changes nothing stands to the others of a region that draws its order. -/
def kdQ (fr : List (Nat × AObj)) (E : List En) (c : List (Nat × Bool)) (op : Op) : Kd := match op with
 | .load _ a => match evm E c a with
  | some (_, .ptr o _ _) => bif inF o fr then .sil else .qui
  | _ => .sil
 | _ => .sil
def kdE (fr : List (Nat × AObj)) (E : List En) (op : Op) : Option Kd := match op with
 | .alloc _ => some .new
 | .box _ _ => some .new
 | .store _ a _ => match evm E [] a with
  | some (_, .ptr o _ _) => bif inF o fr then none else some .eff
  | _ => none
 | _ => none
def obK : List Ob → List Ob → (List Ob → Fo × List Ob) → Fo × List Ob
 | [], b, K => K b
 | x :: a, b, K => obK a (x :: b) K
/-! What is frozen at the end of a region. -/
def fzL (o : Nat) (w : V) : List V → List Ob → Option (List V × List Ob)
 | [], ob => some ([], ob)
 | .ptr o' p off :: r, ob => bif Nat.beq o o' then (match atV w p [] with
  | some (u, pre) => match fzL o w r ob with
   | some (l, ob) => some (.cptr u :: l, (pre, off) :: ob)
   | none => none
  | none => none) else (match fzL o w r ob with
   | some (l, ob) => some (.ptr o' p off :: l, ob)
   | none => none)
 | v :: r, ob => match fzL o w r ob with
  | some (l, ob) => some (v :: l, ob)
  | none => none
def fzE {α : Type 1} (o : Nat) (w : V) : List En → List Ob → (List En → List Ob → Option α) → Option α
 | [], ob, K => K [] ob
 | ⟨t, [], 0, .ptr o' p off⟩ :: E, ob, K => bif Nat.beq o o' then (match atV w p [] with
  | some (u, pre) => match scalL pre with
   | true => bif Nat.beq pre.length off then fzE o w E ob fun E' ob => K (⟨t, [], 0, .cptr u⟩ :: E') ob else none
   | false => fzE o w E ((pre, off) :: ob) fun E' ob => K (⟨t, [], 0, .cptr u⟩ :: E') ob
  | none => none) else fzE o w E ob fun E' ob => K (⟨t, [], 0, .ptr o' p off⟩ :: E') ob
 | ⟨t, [], 0, .fn f a b⟩ :: E, ob, K => match fzL o w a ob with
  | some (a, ob) => match fzL o w b ob with
   | some (b, ob) => fzE o w E ob fun E' ob => K (⟨t, [], 0, .fn f a b⟩ :: E') ob
   | none => none
  | none => none
 | e :: E, ob, K => fzE o w E ob fun E' ob => K (e :: E') ob
def setHo {α : Type 1} : List AObj → Nat → AObj → (List AObj → Option α) → Option α
 | [], _, _, _ => none
 | _ :: H, 0, u, K => K (u :: H)
 | x :: H, o + 1, u, K => setHo H o u fun H' => K (x :: H')
def fzA {α : Type 1} : List Nat → List En → List AObj → List Ob → (List En → List AObj → List Ob → Option α) → Option α
 | [], E, H, ob, K => K E H ob
 | o :: os, E, H, ob, K => match H[o]? with
  | some (.cells w) => fzE o w E ob fun E' ob => setHo H o .dead fun H' => fzA os E' H' ob K
  | _ => none
def fzO (r : Nat) : List (Nat × List Nat) → List Nat
 | [] => []
 | (a, l) :: x => bif Nat.beq a r then l else fzO r x
/-- One quiet step. -/
def step (T : Cf) (n : Nat) : Fo → List Ob → (Fo → List Ob → Fo × List Ob) → Fo × List Ob
 | .c c k E H, ob, K => match c with
  | .seq a b => K (.c a (.th b k) E H) ob
  | .region r ops false => match ops.toList with
   | l => K (.o r ops 0 l k E H) ob
  | .skip => K (.x .normal k E H) ob
  | .label _ => K (.x .normal k E H) ob
  | .ret => K (.x .ret k E H) ob
  | .exit i => K (.x (.exit i) k E H) ob
  | .block i b => K (.c b (.bl i k) E H) ob
  | .scope b => K (.c b (.sc k) E H) ob
  | .cond x a b => match evm E [] x with
   | some (2, .bool true) => K (.c a k E H) ob
   | some (3, .bool false) => K (.c b k E H) ob
   | _ => (.c c k E H, ob)
  | .loop b => match T.unr with
   | true => K (.c b (.lp b 40 k) E H) ob
   | false => (.c (.loop b) k E H, ob)
  | c => (.c c k E H, ob)
 | .x e k E H, ob, K => match k with
  | .nil => (.x e .nil E H, ob)
  | .cu X p S k => match e with
   | .normal => (.x .normal (.cu X p S k) E H, ob)
   | e => K (.x e k E H) ob
  | .th y k => match e with
   | .normal => K (.c y k E H) ob
   | e => K (.x e k E H) ob
  | .lp b N k => match e with
   | .normal => match N with
    | 0 => (.x .normal (.lp b 0 k) E H, ob)
    | N + 1 => K (.c b (.lp b N k) E H) ob
   | e => K (.x e k E H) ob
  | .bl i k => match e with
   | .exit j => bif Nat.beq j i then K (.x .normal k E H) ob else K (.x (.exit j) k E H) ob
   | e => K (.x e k E H) ob
  | .sc k => match e with
   | .goto i => (.x (.goto i) (.sc k) E H, ob)
   | e => K (.x e k E H) ob
 | .o r ops i l k E H, ob, K => match l with
  | [] => match fzO r T.fz with
   | [] => K (.x .normal k E H) ob
   | os => match fzA os E H ob fun E' H' ob' => some (K (.x .normal k E' H') ob') with
    | some z => z
    | none => (.o r ops i [] k E H, ob)
  | ⟨dst, op, ty, pos, aft, gd⟩ :: l' => bif isOwn r i T.own then (.o r ops i l k E H, ob) else match gctx ops.toList E gd with
   | .on y c => match sop T.unr T.tab E c H op with
    | .q m v o1 => match dst with
     | some d => bif Nat.blt d n then obK o1 ob (K (.o r ops (i + 1) l' k (⟨d, c, m, v⟩ :: E) H)) else (.o r ops i l k E H, ob)
     | none => match c with
      | [] => obK o1 ob (K (.o r ops (i + 1) l' k E H))
      | _ => (.o r ops i l k E H, ob)
    | .e v H' o1 => match c with
     | [] => match dst with
      | some d => bif Nat.blt d n then obK o1 ob (K (.o r ops (i + 1) l' k (⟨d, [], 0, v⟩ :: E) H')) else (.o r ops i l k E H, ob)
      | none => obK o1 ob (K (.o r ops (i + 1) l' k E H'))
     | _ => (.o r ops i l k E H, ob)
    | .no => (.o r ops i l k E H, ob)
   | .off => match dst with
    | some d => bif Nat.blt d n then K (.o r ops (i + 1) l' k (⟨d, [], 0, .tup []⟩ :: E) H) ob else (.o r ops i l k E H, ob)
    | none => K (.o r ops (i + 1) l' k E H) ob
   | .no => (.o r ops i l k E H, ob)
 | .d r ops i l acc fr k E H, ob, K => match l with
  | [] => (.d r ops i [] acc fr k E H, ob)
  | ⟨dst, op, ty, pos, aft, gd⟩ :: l' => bif isOwn r i T.own then (.d r ops i l acc fr k E H, ob) else match gctx ops.toList E gd with
   | .on y c => match sop T.unr T.tab E c H op with
    | .q m v o1 => match dst with
     | some d => bif Nat.blt d n then obK o1 ob (K (.d r ops (i + 1) l' (kdQ fr E c op :: acc) fr k (⟨d, c, m, v⟩ :: E) H)) else (.d r ops i l acc fr k E H, ob)
     | none => (.d r ops i l acc fr k E H, ob)
    | .e v H' o1 => match c, y with
     | [], false => match kdE fr E op with
      | some kd => match dst with
       | some d => bif Nat.blt d n then obK o1 ob (K (.d r ops (i + 1) l' (kd :: acc) fr k (⟨d, [], 0, v⟩ :: E) H')) else (.d r ops i l acc fr k E H, ob)
       | none => obK o1 ob (K (.d r ops (i + 1) l' (kd :: acc) fr k E H'))
      | none => (.d r ops i l acc fr k E H, ob)
     | _, _ => (.d r ops i l acc fr k E H, ob)
    | .no => (.d r ops i l acc fr k E H, ob)
   | .off => match dst with
    | some d => bif Nat.blt d n then K (.d r ops (i + 1) l' (.sil :: acc) fr k (⟨d, [], 0, .tup []⟩ :: E) H) ob else (.d r ops i l acc fr k E H, ob)
    | none => K (.d r ops (i + 1) l' (.sil :: acc) fr k E H) ob
   | .no => (.d r ops i l acc fr k E H, ob)
def run (T : Cf) (n : Nat) : Nat → Fo → List Ob → Fo × List Ob
 | 0, f, ob => (f, ob)
 | N + 1, f, ob => step T n f ob (run T n N)
section
variable {v : V}

def bv (E : List En) (d : Nat) : Bool := match fnd E d with
 | some e => match e.v with
  | .bool b => b
  | _ => false
 | none => false
def cnd (E : List En) : List (Nat × Bool) → Bool
 | [] => true
 | p :: c => (bv E p.1 == p.2) && cnd E c
/-- The value of a slot: nothing, if a guard is not as told. -/
def denV (E : List En) (g : List (Nat × Bool)) (v : V) : V := match g with
 | [] => v
 | p :: g => if cnd E (p :: g) = true then v else .tup []
def den : List En → List (Nat × V)
 | [] => []
 | e :: E => (e.t, denV E e.g e.v) :: den E

theorem denV_if (E : List En) (g : List (Nat × Bool)) (v : V) : denV E g v = if cnd E g = true then v else .tup [] := by
 cases g with
 | nil => simp [denV, cnd]
 | cons p g => rfl
theorem bv_cons {e : En} {E : List En} (h : Nat.beq e.t d = false) : bv (e :: E) d = bv E d := by
 have h' : Nat.beq d e.t = false := by
  rw [Bool.eq_false_iff] at h ⊢
  intro q; exact h (by rw [Nat.eq_of_beq_eq_true q]; exact Nat.beq_refl _)
 simp only [bv, fnd, h', cond_false]
theorem remT_cnd {e : En} {E : List En} : ∀ {c : List (Nat × Bool)}, cnd (e :: E) (remT e.t c) = cnd E (remT e.t c)
 | [] => rfl
 | p :: c => by
  simp only [remT, cond_eq_ite]
  split
  ·exact remT_cnd
  ·rename_i hne
   rw [Bool.not_eq_true] at hne
   simp only [cnd, bv_cons hne, remT_cnd]
theorem remT_sub {t : Nat} {E : List En} : ∀ {c : List (Nat × Bool)}, cnd E c = true → cnd E (remT t c) = true
 | [], _ => rfl
 | p :: c, h => by
  simp only [cnd, Bool.and_eq_true] at h
  simp only [remT, cond_eq_ite]
  split
  ·exact remT_sub h.2
  ·simp only [cnd, h.1, remT_sub h.2, Bool.and_self]
theorem inG_mem {d : Nat} {w : Bool} {E : List En} : ∀ {c : List (Nat × Bool)}, inG d w c = true → cnd E c = true → (bv E d == w) = true
 | [], h, _ => by cases h
 | q :: c, h, k => by
  simp only [cnd, Bool.and_eq_true] at k
  simp only [inG, cond_eq_ite] at h
  split at h
  ·rename_i hq
   have hq' := Nat.eq_of_beq_eq_true hq
   subst hq'
   split at h
   ·rename_i h2; have := k.1; rw [h2] at this; exact this
   ·rename_i h2; have := k.1; rw [h2] at this; exact this
   ·exact inG_mem h k.2
  ·exact inG_mem h k.2
theorem subG_cnd {E : List En} {c : List (Nat × Bool)} (k : cnd E c = true) : ∀ {g : List (Nat × Bool)}, subG g c = true → cnd E g = true
 | [], _ => rfl
 | p :: g, h => by
  simp only [subG, cond_eq_ite] at h
  split at h
  ·rename_i hp
   simp only [cnd, inG_mem hp k, subG_cnd k h, Bool.and_self]
  ·cases h
theorem inG_not {d : Nat} {w : Bool} {t : Nat} : ∀ {c : List (Nat × Bool)}, inG d w (remT t c) = true → Nat.beq t d = false
 | [], h => by cases h
 | q :: c, h => by
  simp only [remT, cond_eq_ite] at h
  split at h
  ·exact inG_not h
  ·rename_i hne
   rw [Bool.not_eq_true] at hne
   simp only [inG, cond_eq_ite] at h
   split at h
   ·rename_i hd
    rw [Nat.eq_of_beq_eq_true hd]; exact hne
   ·exact inG_not h
/-- Guards that stand among what is left are the same with the slot and without. -/
theorem subG_same {e : En} {E : List En} {c : List (Nat × Bool)} : ∀ {g : List (Nat × Bool)}, subG g (remT e.t c) = true → cnd (e :: E) g = cnd E g
 | [], _ => rfl
 | p :: g, h => by
  simp only [subG, cond_eq_ite] at h
  split at h
  ·rename_i hp
   simp only [cnd, bv_cons (inG_not hp), subG_same h]
  ·cases h
theorem subG_rem {u : Nat} {c : List (Nat × Bool)} {w : Bool} : inG d w (remT u c) = true → inG d w c = true := by
 induction c with
 | nil => exact id
 | cons q c ih =>
  intro h
  simp only [remT, cond_eq_ite] at h
  simp only [inG, cond_eq_ite]
  split at h
  ·rename_i hu
   have := inG_not h
   split
   ·rename_i hd
    rw [Nat.eq_of_beq_eq_true hd] at this
    rw [this] at hu; cases hu
   ·exact ih h
  ·simp only [inG, cond_eq_ite] at h
   split
   ·rename_i hd
    rw [if_pos hd] at h
    split at h
    ·rfl
    ·rfl
    ·exact ih h
   ·rename_i hd
    rw [if_neg hd] at h
    exact ih h
theorem rd_sub {t : Nat} {e : En} : ∀ {E : List En} {c : List (Nat × Bool)}, rd E c t = some e → ∀ d w, inG d w e.g = true → inG d w c = true
 | [], c, h => by cases h
 | ⟨u, g, k, v⟩ :: E, c, h => by
  simp only [rd, cond_eq_ite] at h
  split at h
  ·split at h
   ·rename_i hs
    cases h
    intro d w hd
    have : ∀ {g : List (Nat × Bool)}, subG g (remT u c) = true → inG d w g = true → inG d w (remT u c) = true := by
     intro g
     induction g with
     | nil => intro _ h; cases h
     | cons p g ih =>
      intro h k
      simp only [subG, cond_eq_ite] at h
      split at h
      ·rename_i hp
       simp only [inG, cond_eq_ite] at k
       split at k
       ·rename_i hq
        rw [Nat.eq_of_beq_eq_true hq]
        split at k
        ·rename_i h2; rw [h2] at hp; exact hp
        ·rename_i h2; rw [h2] at hp; exact hp
        ·exact Nat.eq_of_beq_eq_true hq ▸ ih h k
       ·exact ih h k
      ·cases h
    exact subG_rem (this hs hd)
   ·cases h
  ·intro d w hd
   exact subG_rem (rd_sub h d w hd)
theorem rd_spec {t : Nat} {e : En} : ∀ {E : List En} {c : List (Nat × Bool)}, rd E c t = some e → fnd E t = some e ∧ look (den E) t = denV E e.g e.v ∧ (cnd E c = true → look (den E) t = e.v)
 | [], c, h => by cases h
 | x :: E, c, h => by
  obtain ⟨u, g, k, v⟩ := x
  simp only [rd, cond_eq_ite] at h
  split at h
  ·rename_i ht
   split at h
   ·rename_i hs
    cases h
    have hsame := subG_same (e := ⟨u, g, k, v⟩) (E := E) hs
    have hl : look (den (⟨u, g, k, v⟩ :: E)) t = denV (⟨u, g, k, v⟩ :: E) g v := by
     simp only [den, look, ht, cond_true, denV_if, hsame]
    refine ⟨by simp [fnd, ht], hl, fun hk => ?_⟩
    have := subG_cnd (E := ⟨u, g, k, v⟩ :: E) (remT_sub (t := u) hk) hs
    rw [hl, denV_if, this]; rfl
   ·cases h
  ·rename_i ht
   rw [Bool.not_eq_true] at ht
   obtain ⟨h1, h2, h3⟩ := rd_spec h
   have hg : cnd (⟨u, g, k, v⟩ :: E) e.g = cnd E e.g := by
    have : ∀ d w, inG d w e.g = true → inG d w (remT u c) = true := rd_sub h
    have hall : ∀ {l : List (Nat × Bool)}, (∀ p ∈ l, Nat.beq u p.1 = false) → cnd (⟨u, g, k, v⟩ :: E) l = cnd E l := by
     intro l
     induction l with
     | nil => intro _; rfl
     | cons p l ih => intro hp; simp only [cnd, bv_cons (e := ⟨u, g, k, v⟩) (hp p (by simp)), ih fun q hq => hp q (by simp [hq])]
    refine hall fun p hp => ?_
    have hin : inG p.1 p.2 e.g = true := by
     have : ∀ {l : List (Nat × Bool)}, p ∈ l → inG p.1 p.2 l = true := by
      intro l
      induction l with
      | nil => intro h; cases h
      | cons q l ih =>
       intro hq
       simp only [inG, cond_eq_ite]
       split
       ·rcases List.mem_cons.1 hq with rfl | hq
        ·cases p.2 <;> rfl
        ·split <;> first | rfl | exact ih hq
       ·rename_i hne
        rcases List.mem_cons.1 hq with rfl | hq
        ·exact absurd (Nat.beq_refl _) hne
        ·exact ih hq
     exact this hp
    exact inG_not (this _ _ hin)
   refine ⟨by simp [fnd, ht, h1], ?_, fun hk => ?_⟩
   ·simp only [den, look, ht, cond_false]
    rw [h2, denV_if, denV_if, hg]
   ·simp only [den, look, ht, cond_false]
    refine h3 ?_
    have := remT_sub (t := u) hk
    rwa [remT_cnd (e := ⟨u, g, k, v⟩)] at this
theorem evm_spec {E : List En} {c : List (Nat × Bool)} {k : Nat} (h : evm E c x = some (k, v)) (hc : cnd E c = true) : ev (den E) x = v := by
 unfold evm at h
 split at h
 ·split at h
  ·rename_i hr
   cases h
   exact (rd_spec hr).2.2 hc
  ·cases h
 all_goals first | (cases h; rfl) | cases h

/-- What the walk is told of the types is so. -/
structure TIOk (P : Program) (t : Nat) (i : TI) : Prop where
 sz : szOf P t = some i.sz
 ag : aggOf P t = some i.agg
 lay : ∀ (k : Nat) x, i.lay[k]? = some x → layOf P t = some i.lay
 sli : ∀ x, i.sli = some x → sliOf P t = some x ∧ ∃ z, ZeroV P x.1 z ∧ flen z = x.2.1
 zero : ∀ z, i.zero = some z → ∃ z0, ZeroV P t z0 ∧ RSub z0 z
 zs : ∀ zs, i.zero = some (.st zs) → ∃ zs0, ZeroV P t (.st zs0) ∧ RSubL zs0 zs ∧ okLay i.lay zs0 = true ∧ layOf P t = some i.lay
 kd : ∀ k, i.kd = some k → P.underlying t = some (.int k)
 und : ∃ e, P.underlying t = some e
 un : i.un = 2 → P.underlying t = some .string
 ub : i.un = 1 → P.underlying t = some .bool
 up : i.un = 3 → ptrT P t = true
def TabOk (P : Program) (T : List (Nat × TI)) : Prop := ∀ p ∈ T, TIOk P p.1 p.2
theorem tiL_ok {P : Program} {t : Nat} {i : TI} : ∀ {T : List (Nat × TI)}, TabOk P T → tiL T t = some i → TIOk P t i
 | [], _, h => by cases h
 | p :: T, ht, h => by
  simp only [tiL, cond_eq_ite] at h
  split at h
  ·rename_i hq
   cases h
   rw [Nat.eq_of_beq_eq_true hq]
   exact ht p (by simp)
  ·exact tiL_ok (fun q hq => ht q (by simp [hq])) h

def ObOk (l : List Ob) : Prop := ∀ x ∈ l, flenL x.1 = x.2
theorem ObOk.app {a b : List Ob} (h : ObOk (a ++ b)) : ObOk a ∧ ObOk b := ⟨fun x hx => h x (by simp [hx]), fun x hx => h x (by simp [hx])⟩
theorem scal_fl (h : scal v = true) : flen v = 1 := by cases v <;> first | rfl | cases h
theorem scalL_fl : ∀ {l : List V}, scalL l = true → flenL l = l.length
 | [], _ => rfl
 | v :: l, h => by
  simp only [scalL, cond_eq_ite] at h
  split at h
  ·rename_i hv; simp only [flenL, scal_fl hv, scalL_fl h, List.length_cons]; omega
  ·cases h
theorem cells_spec (vs : List V) (n : Nat) (K : List Ob → Rs) : cells vs n K = .no ∨ ∃ ob, cells vs n K = K ob ∧ (ObOk ob → flenL vs = n) := by
 simp only [cells, cond_eq_ite]
 split
 ·rename_i hs
  split
  ·rename_i hn; exact .inr ⟨[], rfl, fun _ => by rw [scalL_fl hs, Nat.eq_of_beq_eq_true hn]⟩
  ·exact .inl rfl
 ·exact .inr ⟨[(vs, n)], rfl, fun h => h (vs, n) (by simp)⟩
theorem flen1 {n : Nat} (h : flenL [v] = n) : flen v = n := by simpa [flenL] using h
theorem aggIs_eq {b : Bool} (h : aggIs v b = true) : v.isAgg = b := by
 unfold aggIs at h
 split at h <;> first | (rename_i h1; rw [h1]) | cases h
theorem nthP_spec : ∀ {vs : List V} {k : Nat} {pre q : List V} {w : V}, nthP vs k pre = some (w, q) → vs[k]? = some w ∧ flenL q = flenL pre + flenL (vs.take k)
 | [], _, _, _, _, h => by cases h
 | x :: vs, 0, pre, q, w, h => by cases h; exact ⟨rfl, rfl⟩
 | x :: vs, k + 1, pre, q, w, h => by
  obtain ⟨h1, h2⟩ := nthP_spec (vs := vs) h
  exact ⟨by simpa using h1, by rw [h2]; simp only [flenL, List.take_succ_cons]; omega⟩
theorem atV_spec : ∀ {p : List Nat} {v u : V} {pre q : List V}, atV v p pre = some (u, q) → ∃ off, AtP v p off u ∧ flenL q = flenL pre + off
 | [], v, u, pre, q, h => by
  cases v <;> (simp only [atV] at h; cases h; exact ⟨0, .nil, rfl⟩)
 | k :: p, v, u, pre, q, h => by
  cases v with
  | st vs =>
   simp only [atV] at h
   split at h
   ·rename_i w pre' hw
    obtain ⟨h3, h4⟩ := nthP_spec hw
    obtain ⟨off, h1, h2⟩ := atV_spec h
    exact ⟨_, .st h3 rfl h1, by rw [h2, h4]; omega⟩
   ·cases h
  | _ => simp only [atV] at h; cases h
theorem setL'_spec : ∀ {H : List V} {o : Nat} {u : V} {K : List V → Rs}, setL' H o u K = .no ∨ setL' H o u K = K (H.set o u)
 | [], _, _, _ => .inl rfl
 | _ :: H, 0, u, K => .inr rfl
 | x :: H, o + 1, u, K => by
  simp only [setL']
  rcases setL'_spec (H := H) (o := o) (u := u) (K := fun H' => K (x :: H')) with h | h
  ·exact .inl h
  ·exact .inr (by rw [h]; rfl)
theorem setV_spec : ∀ {p : List Nat} {v u : V} {K : V → Rs}, setV v p u K = .no ∨ ∃ v', SetP v p u v' ∧ setV v p u K = K v'
 | [], v, u, K => .inr ⟨u, .nil, by cases v <;> rfl⟩
 | k :: p, v, u, K => by
  cases v with
  | st vs =>
   simp only [setV]
   cases hw : vs[k]? with
   | none => exact .inl rfl
   | some w =>
    rcases setV_spec (p := p) (v := w) (u := u) (K := fun w' => setL' vs k w' fun vs' => K (.st vs')) with h | ⟨v', h1, h2⟩
    ·exact .inl h
    ·rcases setL'_spec (H := vs) (o := k) (u := v') (K := fun vs' => K (.st vs')) with h | h
     ·exact .inl (h2.trans h)
     ·exact .inr ⟨_, .st hw h1 rfl, h2.trans h⟩
  | _ => exact .inl (by simp only [setV])
theorem setH_spec : ∀ {H : List AObj} {o : Nat} {u : AObj} {K : List AObj → Rs}, setH H o u K = .no ∨ setH H o u K = K (H.set o u)
 | [], _, _, _ => .inl rfl
 | _ :: H, 0, u, K => .inr rfl
 | x :: H, o + 1, u, K => by
  simp only [setH]
  rcases setH_spec (H := H) (o := o) (u := u) (K := fun H' => K (x :: H')) with h | h
  ·exact .inl h
  ·exact .inr (by rw [h]; rfl)
theorem pushH_spec : ∀ {H : List AObj} {u : AObj} {K : List AObj → Rs}, pushH H u K = K (H ++ [u])
 | [], _, _ => rfl
 | x :: H, u, K => by simp only [pushH]; rw [pushH_spec]; rfl
theorem figs_spec {n : Nat} {K : Nat → Rs} : ∀ l : List Nat, figs l n K = K n
 | [] => rfl
 | i :: l => by
  simp only [figs, cond_eq_ite]
  split
  ·rename_i h; rw [Nat.eq_of_beq_eq_true h]
  ·exact figs_spec l
theorem fig_spec {n : Nat} {K : Nat → Rs} : fig n K = K n := figs_spec _
theorem RSubL.set {a b : List V} (h : RSubL a b) {u w : V} (hu : RSub u w) : ∀ i, RSubL (a.set i u) (b.set i w) := by
 induction h with
 | nil => exact fun i => .nil
 | cons h t ih =>
  intro i
  cases i with
  | zero => exact .cons hu t
  | succ i => exact .cons h (ih i)
theorem weak_spec (p : List Nat) (u w : V) (K : V → Rs) : ∃ u', weak p u w K = K u' ∧ RSub u u' := by
 unfold weak
 split
 ·exact ⟨_, rfl, .refl _⟩
 ·split
  ·split
   ·exact ⟨_, rfl, .nils_no _⟩
   ·exact ⟨_, rfl, .refl _⟩
  ·split
   ·exact ⟨_, rfl, .forget _ _ _⟩
   ·exact ⟨_, rfl, .refl _⟩
  ·exact ⟨_, rfl, .refl _⟩
theorem fillP_spec {E : List En} {c : List (Nat × Bool)} (hc : cnd E c = true) {l : List (Nat × Nat × Bool)} : ∀ {ps : List (Nat × Operand)} {vs zs : List V} {ob : List Ob} {K : List V → List Ob → Rs}, RSubL zs vs →
  fillP E c l ps vs ob K = .no ∨ ∃ us us0 ob', fillP E c l ps vs ob K = K us ob' ∧ (ObOk ob' → ObOk ob ∧ FillW (ev (den E)) l zs ps us0 ∧ RSubL us0 us)
 | [], vs, zs, ob, K, hz => .inr ⟨vs, zs, ob, rfl, fun h => ⟨h, .nil, hz⟩⟩
 | (i, x) :: ps, vs, zs, ob, K, hz => by
  simp only [fillP]
  split
  ·rename_i m hx
   split
   ·rename_i e q hq
    split
    ·rename_i off n b hi
     simp only [cond_eq_ite]
     split
     ·rename_i hn
      rcases setL'_spec (H := vs) (o := i) (u := .sl e .no []) (K := fun vs => fillP E c l ps vs ob K) with h | h
      ·exact .inl h
      ·rcases fillP_spec hc (l := l) (ps := ps) (ob := ob) (K := K) (hz.set (RSub.nils_no e) i) with h' | ⟨us, us0, ob', h1, h2⟩
       ·exact .inl (h.trans h')
       ·exact .inr ⟨us, us0, ob', h.trans h1, fun ho => ⟨(h2 ho).1, .cons (evm_spec hx hc) rfl hi (by rw [Nat.eq_of_beq_eq_true hn]; rfl) rfl (h2 ho).2.1, (h2 ho).2.2⟩⟩
     ·exact .inl rfl
    ·exact .inl rfl
   ·exact .inl rfl
  ·rename_i m e tk xs hx
   split
   ·rename_i e' q hq
    split
    ·rename_i off n b hi
     simp only [cond_eq_ite]
     split
     ·rename_i hn
      rcases setL'_spec (H := vs) (o := i) (u := .sl e .no xs) (K := fun vs => fillP E c l ps vs ob K) with h | h
      ·exact .inl h
      ·rcases fillP_spec hc (l := l) (ps := ps) (ob := ob) (K := K) (hz.set (RSub.forget e tk xs) i) with h' | ⟨us, us0, ob', h1, h2⟩
       ·exact .inl (h.trans h')
       ·exact .inr ⟨us, us0, ob', h.trans h1, fun ho => ⟨(h2 ho).1, .cons (evm_spec hx hc) rfl hi (by rw [Nat.eq_of_beq_eq_true hn]; rfl) rfl (h2 ho).2.1, (h2 ho).2.2⟩⟩
     ·exact .inl rfl
    ·exact .inl rfl
   ·exact .inl rfl
  ·rename_i m u _ _ hx
   split
   ·rename_i hk
    split
    ·rename_i off n b hi
     simp only [cond_eq_ite]
     split
     ·rename_i hs
      split
      ·rename_i hn
       rcases setL'_spec (H := vs) (o := i) (u := u) (K := fun vs => fillP E c l ps vs ob K) with h | h
       ·exact .inl h
       ·rcases fillP_spec hc (l := l) (ps := ps) (ob := ob) (K := K) (hz.set (.refl u) i) with h' | ⟨us, us0, ob', h1, h2⟩
        ·exact .inl (h.trans h')
        ·exact .inr ⟨us, us0, ob', h.trans h1, fun ho => ⟨(h2 ho).1, .cons (evm_spec hx hc) hk hi (by rw [scal_fl hs, Nat.eq_of_beq_eq_true hn]) rfl (h2 ho).2.1, (h2 ho).2.2⟩⟩
      ·exact .inl rfl
     ·rcases setL'_spec (H := vs) (o := i) (u := u) (K := fun vs => fillP E c l ps vs (([u], n) :: ob) K) with h | h
      ·exact .inl h
      ·rcases fillP_spec hc (l := l) (ps := ps) (ob := ([u], n) :: ob) (K := K) (hz.set (.refl u) i) with h' | ⟨us, us0, ob', h1, h2⟩
       ·exact .inl (h.trans h')
       ·exact .inr ⟨us, us0, ob', h.trans h1, fun ho => ⟨fun y hy => (h2 ho).1 y (by simp [hy]), .cons (evm_spec hx hc) hk hi (flen1 ((h2 ho).1 ([u], n) (by simp))) rfl (h2 ho).2.1, (h2 ho).2.2⟩⟩
    ·exact .inl rfl
   ·exact .inl rfl
  ·exact .inl rfl
theorem elems_spec {E : List En} {c : List (Nat × Bool)} (hc : cnd E c = true) {e : Nat} : ∀ {ps : List (Nat × Operand)} {j : Nat} {ob : List Ob} {K : List V → List Ob → Rs},
  elems E c e ps j ob K = .no ∨ ∃ us ob', elems E c e ps j ob K = K us ob' ∧ (ObOk ob' → ObOk ob ∧ ValsL (ev (den E)) e ps j us)
 | [], j, ob, K => .inr ⟨[], ob, rfl, fun h => ⟨h, .nil⟩⟩
 | (i, x) :: ps, j, ob, K => by
  simp only [elems, cond_eq_ite]
  split
  ·rename_i hij
   have hij' := Nat.eq_of_beq_eq_true hij
   subst hij'
   split
   ·rename_i m u hx
    split
    ·rename_i hk
     split
     ·rename_i hs
      split
      ·rename_i hn
       rcases elems_spec hc (e := e) (ps := ps) (j := i + 1) (ob := ob) (K := fun us ob => K (u :: us) ob) with h | ⟨us, ob', h1, h2⟩
       ·exact .inl h
       ·exact .inr ⟨u :: us, ob', h1, fun ho => ⟨(h2 ho).1, .cons (evm_spec hx hc) hk (by rw [scal_fl hs, Nat.eq_of_beq_eq_true hn]) (h2 ho).2⟩⟩
      ·exact .inl rfl
     ·rcases elems_spec hc (e := e) (ps := ps) (j := i + 1) (ob := ([u], e) :: ob) (K := fun us ob => K (u :: us) ob) with h | ⟨us, ob', h1, h2⟩
      ·exact .inl h
      ·exact .inr ⟨u :: us, ob', h1, fun ho => ⟨fun y hy => (h2 ho).1 y (by simp [hy]), .cons (evm_spec hx hc) hk (flen1 ((h2 ho).1 ([u], e) (by simp))) (h2 ho).2⟩⟩
    ·exact .inl rfl
   ·exact .inl rfl
  ·exact .inl rfl
theorem evL_spec {E : List En} {c : List (Nat × Bool)} (hc : cnd E c = true) : ∀ {l : List Operand} {vs : List V}, evL E c l = some vs → l.map (ev (den E)) = vs
 | [], _, h => by cases h; rfl
 | x :: l, vs, h => by
  simp only [evL] at h
  split at h
  ·rename_i k v hx
   split at h
   ·rename_i r hr
    cases h
    rw [List.map_cons, evm_spec hx hc, evL_spec hc hr]
   ·cases h
  ·cases h
end
section
variable {v' : V}
section
variable {P : Program} {T : List (Nat × TI)} {E : List En} {c : List (Nat × Bool)} {H X : List AObj} {k : Nat} {v : V} {ob : List Ob} {dst : Option Tmp} {ty : TypeId} {pos : String} {aft : Array Edge} {gd : Option (Nat × Bool)}

theorem q_inj {k k' : Nat} {v : V} {a b : List Ob} (h : Rs.q k v a = Rs.q k' v' b) : v = v' ∧ a = b := by cases h; exact ⟨rfl, rfl⟩
theorem get_app {x : AObj} (h : H[o]? = some x) : (H ++ X)[o]? = some x := by
 rw [List.getElem?_append_left (List.getElem?_eq_some_iff.1 h).1]; exact h
theorem mark_q {b : Bool} (h : mark b = .q k v ob) : v = .bool b := by cases b <;> (simp only [mark] at h; exact (q_inj h).1.symm)
theorem ptrB_q {op : BinOp} {t : Nat} {b : Bool} (hT : TabOk P T) (h : ptrB T op t b = .q k v ob) : ptrT P t = true ∧ ((op = .eql ∧ v = .bool b) ∨ (op = .neq ∧ v = .bool (!b))) := by
 unfold ptrB at h
 split at h
 ·rename_i ti hti
  simp only [cond_eq_ite] at h
  split at h
  ·rename_i hu
   refine ⟨(tiL_ok hT hti).up (Nat.eq_of_beq_eq_true hu), ?_⟩
   split at h
   ·exact .inl ⟨rfl, mark_q h⟩
   ·exact .inr ⟨rfl, mark_q h⟩
   ·cases h
  ·cases h
 ·cases h
theorem arr1 {α : Type} {a : Array α} {x : α} (h : a.toList = [x]) : a = #[x] := by cases a; simp at h; simp [h]
theorem arr2 {α : Type} {a : Array α} {x y : α} (h : a.toList = [x, y]) : a = #[x, y] := by cases a; simp at h; simp [h]

theorem intB_ok {op : BinOp} {t : TypeId} {kd : IntKind} {a b : Int} {F : Operand → V} (h : intB op kd a b = some v) (hx : F x = .int kd a) (hy : F y = .int kd b) : OpS P ⟨dst, .binOp op t x y t', ty, pos, aft, gd⟩ F H v H := by
 cases op <;> simp only [intB, Option.some.injEq] at h <;> first | (cases h; done) | subst h
 ·exact .add hx hy
 ·exact .sub hx hy
 ·exact .mul hx hy
 ·exact .and hx hy
 ·exact .or hx hy
 ·exact .xor hx hy
 ·exact .eql hx hy
 ·exact .neq hx hy
 ·exact .lss hx hy
 ·exact .leq hx hy
 ·exact .gtr hx hy
 ·exact .geq hx hy
theorem strB_ok {op : BinOp} {t : TypeId} {a b : ByteArray} {F : Operand → V} (h : strB op a b = some v) (hx : F x = .str a) (hy : F y = .str b) : OpS P ⟨dst, .binOp op t x y t', ty, pos, aft, gd⟩ F H v H := by
 cases op <;> simp only [strB, Option.some.injEq] at h <;> first | (cases h; done) | subst h
 ·exact .eqlS hx hy
 ·exact .neqS hx hy
 ·exact .lssS hx hy
 ·exact .geqS hx hy

theorem sLoad_q {t : Nat} {a : Operand} (hT : TabOk P T) (hc : cnd E c = true) (h : sLoad T E c H t a = .q k v ob) (ho : ObOk ob) : OpS P ⟨dst, .load t a, ty, pos, aft, gd⟩ (ev (den E)) (H ++ X) v (H ++ X) := by
 unfold sLoad at h
 split at h
 ·rename_i sz ag l0 s0 z0 k0 u0 hti
  have ht := tiL_ok hT hti
  split at h
  ·rename_i u hx
   simp only [cond_eq_ite] at h
   split at h
   ·rename_i hag
    rcases cells_spec [u] sz (.q 0 u) with h' | ⟨o1, h1, h2⟩
    ·rw [h'] at h; cases h
    ·rw [h1] at h
     obtain ⟨rfl, rfl⟩ := q_inj h
     exact .loadC ht.sz ht.ag (evm_spec hx hc) (flen1 (h2 ho)) (aggIs_eq hag)
   ·cases h
  ·rename_i o p off hx
   split at h
   ·rename_i w hw
    split at h
    ·rename_i u pre hu
     simp only [cond_eq_ite] at h
     split at h
     ·rename_i hag
      rcases cells_spec [u] sz (fun o1 => cells pre off fun o2 => .q 0 u (o1 ++ o2)) with h' | ⟨o1, h1, h2⟩
      ·rw [h'] at h; cases h
      ·rw [h1] at h
       rcases cells_spec pre off (fun o2 => .q 0 u (o1 ++ o2)) with h' | ⟨o2, h3, h4⟩
       ·rw [h'] at h; cases h
       ·rw [h3] at h
        obtain ⟨rfl, rfl⟩ := q_inj h
        obtain ⟨hoa, hob⟩ := ho.app
        obtain ⟨off', ha, hl⟩ := atV_spec hu
        exact .loadP ht.sz ht.ag (evm_spec hx hc) (get_app hw) ha (by have := h4 hob; simp only [flenL] at hl; omega) (flen1 (h2 hoa)) (aggIs_eq hag)
     ·cases h
    ·cases h
   ·cases h
  ·cases h
 ·cases h
theorem sAddr_q {t : Nat} (hT : TabOk P T) (hc : cnd E c = true) (h : sAddr T E c t x i = .q k v ob) (ho : ObOk ob) : OpS P ⟨dst, .fieldAddr t x i, ty, pos, aft, gd⟩ (ev (den E)) (H ++ X) v (H ++ X) := by
 unfold sAddr at h
 split at h
 ·rename_i ti hti
  have ht := tiL_ok hT hti
  split at h
  ·rename_i off n b hl
   simp only [cond_eq_ite] at h
   split at h
   ·cases h
   ·rename_i hn
    rw [Bool.not_eq_true] at hn
    have hn' : (n == 0) = false := by rw [beq_eq_false_iff_ne]; intro e; subst e; exact absurd hn (by decide)
    split at h
    ·rename_i m o p a hx
     obtain ⟨rfl, _⟩ := q_inj h
     exact .fieldAddr (ht.lay _ _ hl) hl hn' (evm_spec hx hc)
    ·rename_i m vs hx
     split at h
     ·rename_i u pre hu
      obtain ⟨hu1, hu2⟩ := nthP_spec hu
      rcases cells_spec pre off (.q 0 (.cptr u)) with h' | ⟨o1, h1, h2⟩
      ·rw [h'] at h; cases h
      ·rw [h1] at h
       obtain ⟨rfl, rfl⟩ := q_inj h
       exact .fieldAddrC (ht.lay _ _ hl) hl hn' (evm_spec hx hc) hu1 (by have := h2 ho; simp only [flenL] at hu2; omega)
     ·cases h
    ·cases h
  ·cases h
 ·cases h
theorem sField_q {t : Nat} (hT : TabOk P T) (hc : cnd E c = true) (h : sField T E c t x i = .q k v ob) (ho : ObOk ob) : OpS P ⟨dst, .field t x i, ty, pos, aft, gd⟩ (ev (den E)) H v H := by
 unfold sField at h
 split at h
 ·rename_i ti hti
  have ht := tiL_ok hT hti
  split at h
  ·rename_i off n b hl
   split at h
   ·rename_i m vs hx
    split at h
    ·rename_i u pre hu
     obtain ⟨hu1, hu2⟩ := nthP_spec hu
     simp only [cond_eq_ite] at h
     split at h
     ·rename_i hag
      rcases cells_spec pre off (fun o1 => cells [u] n fun o2 => .q 0 u (o1 ++ o2)) with h' | ⟨o1, h1, h2⟩
      ·rw [h'] at h; cases h
      ·rw [h1] at h
       rcases cells_spec [u] n (fun o2 => .q 0 u (o1 ++ o2)) with h' | ⟨o2, h3, h4⟩
       ·rw [h'] at h; cases h
       ·rw [h3] at h
        obtain ⟨rfl, rfl⟩ := q_inj h
        obtain ⟨hoa, hob⟩ := ho.app
        exact .field (ht.lay _ _ hl) hl (evm_spec hx hc) hu1 (by have := h2 hoa; simp only [flenL] at hu2; omega) (flen1 (h4 hob)) (aggIs_eq hag)
     ·cases h
    ·cases h
   ·cases h
  ·cases h
 ·cases h
theorem sBin_q {t t' : Nat} {op : BinOp} {u w : V} {F : Operand → V} (hT : TabOk P T) (h : sBin T op t u w = .q k v ob) (hx : F x = u) (hy : F y = w) : OpS P ⟨dst, .binOp op t x y t', ty, pos, aft, gd⟩ F H v H := by
 unfold sBin at h
 split at h
 ·split at h
  ·rename_i e _
   subst e
   split at h
   ·rename_i r hr; obtain ⟨rfl, _⟩ := q_inj h; exact intB_ok hr hx hy
   ·cases h
  ·cases h
 ·split at h
  ·rename_i r hr; obtain ⟨rfl, _⟩ := q_inj h; exact strB_ok hr hx hy
  ·cases h
 ·unfold sBool at h
  split at h
  ·rename_i ti hti
   simp only [cond_eq_ite] at h
   split at h
   ·rename_i hu
    have hb := (tiL_ok hT hti).ub (Nat.eq_of_beq_eq_true hu)
    split at h
    ·obtain ⟨rfl, _⟩ := q_inj h; exact .eqlB hb hx hy
    ·obtain ⟨rfl, _⟩ := q_inj h; exact .neqB hb hx hy
    ·cases h
   ·cases h
  ·cases h
 ·obtain ⟨hp, ⟨rfl, rfl⟩ | ⟨rfl, rfl⟩⟩ := ptrB_q hT h
  ·exact .eqlP hp hx hy
  ·exact .neqP hp hx hy
 ·obtain ⟨hp, ⟨rfl, rfl⟩ | ⟨rfl, rfl⟩⟩ := ptrB_q hT h
  ·exact .eqlP hp hx hy
  ·exact .neqP hp hx hy
 ·obtain ⟨hp, ⟨rfl, rfl⟩ | ⟨rfl, rfl⟩⟩ := ptrB_q hT h
  ·exact .eqlP hp hx hy
  ·exact .neqP hp hx hy
 ·cases h
theorem sLit_q {t t' : Nat} {op : BinOp} {u w : V} {F : Operand → V} (h : sLit op u w = .q k v ob) (hx : F x = u) (hy : F y = w) : OpS P ⟨dst, .binOp op t x y t', ty, pos, aft, gd⟩ F H v H := by
 unfold sLit at h
 split at h
 ·split at h
  ·rename_i e _
   subst e
   split at h
   ·split at h
    ·rename_i n hn
     rw [fig_spec] at h
     obtain ⟨rfl, _⟩ := q_inj h
     have := OpS.add (P := P) (H := H) (dst := dst) (ty := ty) (pos := pos) (aft := aft) (gd := gd) (t := t) (t' := t') hx hy
     rw [← hn]; exact this
    ·cases h
   ·rw [mark_q h]; exact .lss hx hy
   ·split at h
    ·rename_i r hr; obtain ⟨rfl, _⟩ := q_inj h; exact intB_ok hr hx hy
    ·cases h
  ·cases h
 ·cases h
theorem sUn_q {t : Nat} {op : UnOp} {u : V} {F : Operand → V} (h : sUn op m u = .q k v ob) (hx : F x = u) : OpS P ⟨dst, .unOp op t x, ty, pos, aft, gd⟩ F H v H := by
 unfold sUn at h
 split at h
 ·split at h
  ·split at h
   ·obtain ⟨rfl, _⟩ := q_inj h; exact .not hx
   ·cases h
  ·split at h
   ·obtain ⟨rfl, _⟩ := q_inj h; exact .not hx
   ·cases h
  ·obtain ⟨rfl, _⟩ := q_inj h; exact .not hx
 ·obtain ⟨rfl, _⟩ := q_inj h; exact .neg hx
 ·obtain ⟨rfl, _⟩ := q_inj h; exact .bnot hx
 ·cases h
theorem sPick_q (hc : cnd E c = true) (h : sPick E c d x y = .q k v ob) : OpS P ⟨dst, .pick (.tmp d) x y, ty, pos, aft, gd⟩ (ev (den E)) H v H := by
 unfold sPick at h
 split at h
 ·rename_i t' g' k' b hed
  have hbv : bv E d = b := by simp only [bv, hed]
  split at h
  ·rename_i z hz
   have hcd : ev (den E) (.tmp d) = .bool b := by
    obtain ⟨h1, _, h3⟩ := rd_spec hz
    rw [hed] at h1
    cases h1
    exact h3 hc
   split at h
   ·split at h
    ·split at h
     ·rename_i e hy
      obtain ⟨rfl, _⟩ := q_inj h
      exact .pickOr hcd rfl (fun hb0 => evm_spec hy (by simp only [cnd, hbv, hb0, hc]; rfl))
     ·cases h
    ·split at h
     ·split at h
      ·rename_i e hx
       obtain ⟨rfl, _⟩ := q_inj h
       exact .pickAnd hcd (fun hb0 => evm_spec hx (by simp only [cnd, hbv, hb0, hc]; rfl)) rfl
      ·cases h
     ·cases h
   ·split at h
    ·split at h
     ·rename_i hx
      obtain ⟨rfl, _⟩ := q_inj h
      exact .pick hcd (fun _ => by rw [evm_spec hx hc]; exact .refl _) (fun hb => by cases hb)
     ·cases h
    ·split at h
     ·rename_i hy
      obtain ⟨rfl, _⟩ := q_inj h
      exact .pick hcd (fun hb => by cases hb) (fun _ => by rw [evm_spec hy hc]; exact .refl _)
     ·cases h
  ·cases h
 ·cases h
theorem sLen_q {t : Nat} (hT : TabOk P T) (hc : cnd E c = true) (h : sLen T E c t x = .q k v ob) : OpS P ⟨dst, .call ⟨.builtin .len, #[x], #[t]⟩, ty, pos, aft, gd⟩ (ev (den E)) H v H := by
 unfold sLen at h
 split at h
 ·rename_i ti hti
  have ht := tiL_ok hT hti
  split at h
  ·rename_i m s hx
   simp only [cond_eq_ite] at h
   split at h
   ·rename_i hu; obtain ⟨rfl, _⟩ := q_inj h; exact .lenS (ht.un (Nat.eq_of_beq_eq_true hu)) (evm_spec hx hc)
   ·cases h
  ·rename_i m hx
   split at h
   ·rename_i q hq; obtain ⟨rfl, _⟩ := q_inj h; exact .lenN (ht.sli _ hq).1 (evm_spec hx hc)
   ·cases h
  ·rename_i hx
   split at h
   ·rename_i q hq; obtain ⟨rfl, _⟩ := q_inj h; exact .lenO (ht.sli _ hq).1 (evm_spec hx hc)
   ·cases h
  ·cases h
 ·cases h
theorem sCall_q {cl : Callee} {args : Array Operand} (hT : TabOk P T) (hc : cnd E c = true) (h : sCall T E c cl args.toList ats.toList = .q k v ob) : OpS P ⟨dst, .call ⟨cl, args, ats⟩, ty, pos, aft, gd⟩ (ev (den E)) H v H := by
 unfold sCall at h
 split at h
 ·split at h
  ·rename_i x hx
   split at h
   ·rename_i t ht
    split at h
    ·have := sLen_q (P := P) (H := H) (dst := dst) (ty := ty) (pos := pos) (aft := aft) (gd := gd) hT hc h
     rw [arr1 hx, arr1 ht]; exact this
    ·cases h
   ·cases h
  ·rename_i x y hx
   rw [arr2 hx]
   split at h
   ·rename_i u hu
    split at h
    ·rename_i w hw
     unfold sMm at h
     split at h
     ·split at h
      ·rename_i e _
       subst e
       split at h
       ·obtain ⟨rfl, _⟩ := q_inj h; exact .bmax (evm_spec hu hc) (evm_spec hw hc)
       ·obtain ⟨rfl, _⟩ := q_inj h; exact .bmin (evm_spec hu hc) (evm_spec hw hc)
       ·cases h
      ·cases h
     ·cases h
    ·cases h
   ·cases h
  ·cases h
 ·cases h
theorem sConv_q {a b : Nat} (hT : TabOk P T) (hc : cnd E c = true) (h : sConv T E c a b x = .q k v ob) : OpS P ⟨dst, .convert a b x, ty, pos, aft, gd⟩ (ev (den E)) H v H := by
 unfold sConv at h
 split at h
 ·rename_i ti hti
  split at h
  ·rename_i tj htj
   split at h
   ·rename_i k' hk
    split at h
    ·rename_i hx
     obtain ⟨rfl, _⟩ := q_inj h
     exact .convInt (tiL_ok hT hti).und ((tiL_ok hT htj).kd _ hk) (evm_spec hx hc)
    ·cases h
   ·cases h
  ·cases h
 ·cases h
theorem sStore_q {t : Nat} {a : Operand} (h : sStore T E c H t a x = .q k v ob) : False := by
 unfold sStore at h
 split at h
 ·rename_i sz ag l0 s0 z0 k0 u0 hti
  split at h
  ·split at h
   ·rename_i k' u hu
    split at h
    ·split at h
     ·rename_i w hw
      split at h
      ·rename_i y pre hy
       obtain ⟨u', hu', _⟩ := weak_spec _ u y (fun u => setV w _ u fun v' => setH H _ (.cells v') fun H' => cells [u] sz fun o1 => cells [y] sz fun o2 => cells pre _ fun o3 => .e .undef H' (o1 ++ (o2 ++ o3)))
       rw [hu'] at h
       rcases setV_spec (v := w) (p := _) (u := u') (K := fun v' => setH H _ (.cells v') fun H' => cells [u'] sz fun o1 => cells [y] sz fun o2 => cells pre _ fun o3 => .e .undef H' (o1 ++ (o2 ++ o3))) with h' | ⟨v', _, h'⟩
       ·rw [h'] at h; cases h
       ·rw [h'] at h
        rcases setH_spec (H := H) (u := .cells v') (K := fun H' => cells [u'] sz fun o1 => cells [y] sz fun o2 => cells pre _ fun o3 => .e .undef H' (o1 ++ (o2 ++ o3))) with h' | h'
        ·rw [h'] at h; cases h
        ·rw [h'] at h
         rcases cells_spec [u'] sz (fun o1 => cells [y] sz fun o2 => cells pre _ fun o3 => Rs.e .undef _ (o1 ++ (o2 ++ o3))) with h' | ⟨o1, h', _⟩
         ·rw [h'] at h; cases h
         ·rw [h'] at h
          rcases cells_spec [y] sz (fun o2 => cells pre _ fun o3 => Rs.e .undef _ (o1 ++ (o2 ++ o3))) with h' | ⟨o2, h', _⟩
          ·rw [h'] at h; cases h
          ·rw [h'] at h
           rcases cells_spec pre _ (fun o3 => Rs.e .undef _ (o1 ++ (o2 ++ o3))) with h' | ⟨o3, h', _⟩
           ·rw [h'] at h; cases h
           ·rw [h'] at h; cases h
      ·cases h
     ·cases h
    ·cases h
   ·cases h
  ·cases h
 ·cases h
/-- The operations that change nothing. -/
theorem sop_q {op : Op} (hT : TabOk P T) (hc : cnd E c = true) (h : sop un T E c H op = .q k v ob) (ho : ObOk ob) : OpS P ⟨dst, op, ty, pos, aft, gd⟩ (ev (den E)) (H ++ X) v (H ++ X) := by
 cases op <;> simp only [sop] at h <;> try (cases h; done)
 case move x =>
  split at h
  ·rename_i k' u hx; obtain ⟨rfl, _⟩ := q_inj h; exact .move (evm_spec hx hc)
  ·cases h
 case assign x =>
  split at h
  ·rename_i k' u hx; obtain ⟨rfl, _⟩ := q_inj h; exact .assign (evm_spec hx hc)
  ·cases h
 case pick cc x y =>
  split at h
  ·exact sPick_q hc h
  ·cases h
 case alloc t =>
  split at h
  ·split at h
   ·rw [fig_spec, pushH_spec] at h; cases h
   ·cases h
  ·cases h
 case box t x =>
  split at h
  ·split at h
   ·rw [fig_spec, pushH_spec] at h; cases h
   ·cases h
  ·cases h
 case build t parts =>
  split at h
  ·rename_i ti hti
   split at h
   ·rename_i zs hz
    have ht := tiL_ok hT hti
    obtain ⟨zs0, hz0, hzr, hlay, hl⟩ := ht.zs _ hz
    rcases fillP_spec (E := E) hc (l := ti.lay) (ps := parts.toList) (vs := zs) (ob := []) (K := fun vs ob => .q 0 (.st vs) ob) hzr with h' | ⟨us, us0, ob', h1, h2⟩
    ·rw [h'] at h; cases h
    ·rw [h1] at h
     obtain ⟨rfl, rfl⟩ := q_inj h
     exact .vs (.buildStW hl hz0 hlay (h2 ho).2.1) rfl (.st (h2 ho).2.2)
   ·cases h
  ·cases h
 case buildSlice t n parts =>
  split at h
  ·rename_i ti hti
   split at h
   ·rename_i et e b by_ hs
    have ht := tiL_ok hT hti
    obtain ⟨hsl, z, hz, hze⟩ := ht.sli _ hs
    rcases elems_spec (E := E) hc (e := e) (ps := parts.toList) (j := 0) (ob := []) (K := fun vs ob => bif Nat.beq vs.length n then (bif Nat.ble (n * e) 16777216 then .q 0 (.sl e .exact vs) ob else .no) else .no) with h' | ⟨us, ob', h1, h2⟩
    ·rw [h'] at h; cases h
    ·rw [h1] at h
     simp only [cond_eq_ite] at h
     split at h
     ·rename_i hn
      split at h
      ·rename_i hle
       obtain ⟨rfl, rfl⟩ := q_inj h
       exact .buildSliceL hsl hz hze (Nat.eq_of_beq_eq_true hn) (Nat.le_of_ble_eq_true hle) (h2 ho).2
      ·cases h
     ·cases h
   ·cases h
  ·cases h
 case load t a => exact sLoad_q hT hc h ho
 case store t a x => exact (sStore_q h).elim
 case nilCheck x =>
  split at h
  ·rename_i hx; obtain ⟨rfl, _⟩ := q_inj h; exact .nilCheck (evm_spec hx hc) rfl
  ·rename_i hx; obtain ⟨rfl, _⟩ := q_inj h; exact .nilCheck (evm_spec hx hc) rfl
  ·rename_i hx; obtain ⟨rfl, _⟩ := q_inj h; exact .nilCheck (evm_spec hx hc) rfl
  ·cases h
 case binOp op t x y t' =>
  split at h
  ·rename_i u hu
   split at h
   ·rename_i w hw
    split at h
    ·split at h
     ·exact sLit_q h (evm_spec hu hc) (evm_spec hw hc)
     ·exact sBin_q hT h (evm_spec hu hc) (evm_spec hw hc)
    ·exact sBin_q hT h (evm_spec hu hc) (evm_spec hw hc)
   ·cases h
  ·cases h
 case unOp u t x =>
  split at h
  ·rename_i w hw; exact sUn_q h (evm_spec hw hc)
  ·cases h
 case convert a b x => exact sConv_q hT hc h
 case makeFunc f fs cs =>
  split at h
  ·split at h
   ·rename_i a ha
    split at h
    ·rename_i b hb
     split at h
     ·rename_i h1 h2
      obtain ⟨rfl, _⟩ := q_inj h
      exact .makeFunc (evL_spec hc ha) (evL_spec hc hb) h1 h2
     ·cases h
    ·cases h
   ·cases h
  ·cases h
 case fieldAddr t x i => exact sAddr_q hT hc h ho
 case field t x i => exact sField_q hT hc h ho
 case extract x i =>
  split at h
  ·rename_i vs hx
   split at h
   ·rename_i u hu; obtain ⟨rfl, _⟩ := q_inj h; exact .extract (evm_spec hx hc) hu
   ·cases h
  ·cases h
 case call cl => exact sCall_q hT hc h
end
end
section
variable {v' : V} {H' : List AObj}
section
variable {P : Program} {T : List (Nat × TI)} {E : List En} {c : List (Nat × Bool)} {H : List AObj} {v : V} {ob : List Ob} {dst : Option Tmp} {ty : TypeId} {pos : String} {aft : Array Edge} {gd : Option (Nat × Bool)}

theorem e_inj {v : V} {H : List AObj} {a b : List Ob} (h : Rs.e v H a = Rs.e v' H' b) : v = v' ∧ H = H' ∧ a = b := by cases h; exact ⟨rfl, rfl, rfl⟩
theorem sStore_e {t : Nat} {a : Operand} (hT : TabOk P T) (hc : cnd E c = true) (h : sStore T E c H t a x = .e v H' ob) (ho : ObOk ob) : OpS P ⟨dst, .store t a x, ty, pos, aft, gd⟩ (ev (den E)) H v H' := by
 unfold sStore at h
 split at h
 ·rename_i sz ag l0 s0 z0 k0 u0 hti
  have ht := tiL_ok hT hti
  split at h
  ·rename_i o p off ha
   split at h
   ·rename_i k' u hu
    split at h
    ·rename_i hk
     split at h
     ·rename_i w hw
      split at h
      ·rename_i y pre hy
       obtain ⟨u', hu', hur⟩ := weak_spec p u y (fun u => setV w p u fun v' => setH H o (.cells v') fun H' => cells [u] sz fun o1 => cells [y] sz fun o2 => cells pre off fun o3 => .e .undef H' (o1 ++ (o2 ++ o3)))
       rw [hu'] at h
       rcases setV_spec (v := w) (p := p) (u := u') (K := fun v' => setH H o (.cells v') fun H' => cells [u'] sz fun o1 => cells [y] sz fun o2 => cells pre off fun o3 => .e .undef H' (o1 ++ (o2 ++ o3))) with h' | ⟨v', hv', h'⟩
       ·rw [h'] at h; cases h
       ·rw [h'] at h
        rcases setH_spec (H := H) (o := o) (u := .cells v') (K := fun H' => cells [u'] sz fun o1 => cells [y] sz fun o2 => cells pre off fun o3 => .e .undef H' (o1 ++ (o2 ++ o3))) with h' | h'
        ·rw [h'] at h; cases h
        ·rw [h'] at h
         rcases cells_spec [u'] sz (fun o1 => cells [y] sz fun o2 => cells pre off fun o3 => Rs.e .undef (H.set o (.cells v')) (o1 ++ (o2 ++ o3))) with h' | ⟨o1, h', q1⟩
         ·rw [h'] at h; cases h
         ·rw [h'] at h
          rcases cells_spec [y] sz (fun o2 => cells pre off fun o3 => Rs.e .undef (H.set o (.cells v')) (o1 ++ (o2 ++ o3))) with h' | ⟨o2, h', q2⟩
          ·rw [h'] at h; cases h
          ·rw [h'] at h
           rcases cells_spec pre off (fun o3 => Rs.e .undef (H.set o (.cells v')) (o1 ++ (o2 ++ o3))) with h' | ⟨o3, h', q3⟩
           ·rw [h'] at h; cases h
           ·rw [h'] at h
            obtain ⟨rfl, rfl, rfl⟩ := e_inj h
            obtain ⟨a1, a2⟩ := ho.app
            obtain ⟨a2, a3⟩ := a2.app
            obtain ⟨off', b1, b2⟩ := atV_spec hy
            exact .storeP ht.sz (evm_spec ha hc) (evm_spec hu hc) hk hur hw b1 (by have := q3 a3; simp only [flenL] at b2; omega) hv' (flen1 (q1 a1)) (flen1 (q2 a2)) rfl
      ·cases h
     ·cases h
    ·cases h
   ·cases h
  ·cases h
 ·cases h
theorem setL'_ne {o2 : List Ob} {w : V} {vs : List V} {u : V} {K : List V → Rs} (h : ∀ a, K a ≠ .e w H' o2) : setL' vs i u K ≠ .e w H' o2 := by
 rcases setL'_spec (H := vs) (o := i) (u := u) (K := K) with h' | h'
 ·rw [h']; simp
 ·rw [h']; exact h _
theorem fillP_ne {E : List En} {c : List (Nat × Bool)} {l : List (Nat × Nat × Bool)} : ∀ {ps : List (Nat × Operand)} {vs : List V} {ob o2 : List Ob} {w : V} {H' : List AObj}, fillP E c l ps vs ob (fun vs ob => .q 0 (.st vs) ob) ≠ .e w H' o2
 | [], vs, ob, o2, w, H' => by simp [fillP]
 | (i, x) :: ps, vs, ob, o2, w, H' => by
  simp only [fillP]
  split
  ·split
   ·split
    ·simp only [cond_eq_ite]
     split
     ·exact setL'_ne fun a => fillP_ne
     ·simp
    ·simp
   ·simp
  ·split
   ·split
    ·simp only [cond_eq_ite]
     split
     ·exact setL'_ne fun a => fillP_ne
     ·simp
    ·simp
   ·simp
  ·split
   ·split
    ·simp only [cond_eq_ite]
     split
     ·split
      ·exact setL'_ne fun a => fillP_ne
      ·simp
     ·exact setL'_ne fun a => fillP_ne
    ·simp
   ·simp
  ·simp
theorem elems_ne {E : List En} {c : List (Nat × Bool)} {e : Nat} {o2 : List Ob} {w : V} {H' : List AObj} : ∀ {ps : List (Nat × Operand)} {j : Nat} {ob : List Ob} {K : List V → List Ob → Rs}, (∀ a b, K a b ≠ .e w H' o2) → elems E c e ps j ob K ≠ .e w H' o2
 | [], j, ob, K, h => h _ _
 | (i, x) :: ps, j, ob, K, h => by
  simp only [elems, cond_eq_ite]
  split
  ·split
   ·split
    ·split
     ·split
      ·exact elems_ne fun a b => h _ _
      ·simp
     ·exact elems_ne fun a b => h _ _
    ·simp
   ·simp
  ·simp
theorem cells_ne {o2 : List Ob} {w : V} {vs : List V} {n : Nat} {K : List Ob → Rs} (h : ∀ a, K a ≠ .e w H' o2) : cells vs n K ≠ .e w H' o2 := by
 rcases cells_spec vs n K with h' | ⟨o, h', _⟩
 ·rw [h']; simp
 ·rw [h']; exact h o
theorem ptrB_ne {op : BinOp} {t : Nat} {b : Bool} {o2 : List Ob} {w : V} : ptrB T op t b ≠ .e w H' o2 := by
 intro h; unfold ptrB at h
 split at h
 ·simp only [cond_eq_ite] at h
  split at h
  ·split at h
   ·cases b <;> cases h
   ·cases b <;> cases h
   ·cases h
  ·cases h
 ·cases h
theorem sBin_ne {op : BinOp} {t : Nat} {x y : V} {o2 : List Ob} {w : V} : sBin T op t x y ≠ .e w H' o2 := by
 intro h; unfold sBin at h
 split at h
 ·split at h
  ·split at h <;> cases h
  ·cases h
 ·split at h <;> cases h
 ·unfold sBool at h
  split at h
  ·simp only [cond_eq_ite] at h
   split at h
   ·split at h <;> cases h
   ·cases h
  ·cases h
 ·exact ptrB_ne h
 ·exact ptrB_ne h
 ·exact ptrB_ne h
 ·cases h
theorem sLit_ne {op : BinOp} {x y : V} {o2 : List Ob} {w : V} : sLit op x y ≠ .e w H' o2 := by
 intro h; unfold sLit at h
 split at h
 ·split at h
  ·split at h
   ·split at h
    ·rw [fig_spec] at h; cases h
    ·cases h
   ·rename_i b _ _
    unfold mark at h
    split at h <;> cases h
   ·split at h <;> cases h
  ·cases h
 ·cases h
theorem sMm_ne {b : Builtin} {x y : V} {o2 : List Ob} {w : V} : sMm b x y ≠ .e w H' o2 := by
 intro h; unfold sMm at h
 split at h
 ·split at h
  ·split at h <;> cases h
  ·cases h
 ·cases h
theorem sUn_ne {u : UnOp} {k : Nat} {x : V} {o2 : List Ob} {w : V} : sUn u k x ≠ .e w H' o2 := by
 intro h; unfold sUn at h
 (repeat' split at h) <;> cases h
theorem sLen_ne {t : Nat} {o2 : List Ob} {w : V} : sLen T E c t x ≠ .e w H' o2 := by
 intro h; unfold sLen at h
 split at h
 ·split at h
  ·simp only [cond_eq_ite] at h
   split at h <;> cases h
  ·split at h <;> cases h
  ·split at h <;> cases h
  ·cases h
 ·cases h
/-- The operations that change memory. -/
theorem sop_e {op : Op} (hT : TabOk P T) (hc : cnd E c = true) (h : sop un T E c H op = .e v H' ob) (ho : ObOk ob) : OpS P ⟨dst, op, ty, pos, aft, gd⟩ (ev (den E)) H v H' := by
 cases op <;> simp only [sop] at h <;> try (cases h; done)
 case alloc t =>
  split at h
  ·rename_i ti hti
   split at h
   ·rename_i z hz
    rw [fig_spec, pushH_spec] at h
    obtain ⟨rfl, rfl, _⟩ := e_inj h
    obtain ⟨z0, hz0, hzr⟩ := (tiL_ok hT hti).zero _ hz
    exact .allocZ hz0 hzr
   ·cases h
  ·cases h
 case box t x =>
  split at h
  ·rename_i hx
   split at h
   ·rename_i hk
    rw [fig_spec, pushH_spec] at h
    obtain ⟨rfl, rfl, _⟩ := e_inj h
    exact .box (evm_spec hx hc) hk
   ·cases h
  ·cases h
 case store t a x => exact sStore_e hT hc h ho
 case build t parts =>
  split at h
  ·split at h
   ·exact absurd h fillP_ne
   ·cases h
  ·cases h
 case buildSlice t n parts =>
  split at h
  ·split at h
   ·refine absurd h (elems_ne fun a b => ?_)
    simp only [cond_eq_ite]
    split
    ·split <;> simp
    ·simp
   ·cases h
  ·cases h
 case load t a =>
  unfold sLoad at h
  split at h
  ·split at h
   ·simp only [cond_eq_ite] at h
    split at h
    ·exact absurd h (cells_ne fun a => by simp)
    ·cases h
   ·split at h
    ·split at h
     ·simp only [cond_eq_ite] at h
      split at h
      ·exact absurd h (cells_ne fun a => cells_ne fun b => by simp)
      ·cases h
     ·cases h
    ·cases h
   ·cases h
  ·cases h
 case fieldAddr t x i =>
  unfold sAddr at h
  split at h
  ·split at h
   ·simp only [cond_eq_ite] at h
    split at h
    ·cases h
    ·split at h
     ·cases h
     ·split at h
      ·exact absurd h (cells_ne fun a => by simp)
      ·cases h
     ·cases h
   ·cases h
  ·cases h
 case field t x i =>
  unfold sField at h
  split at h
  ·split at h
   ·split at h
    ·split at h
     ·simp only [cond_eq_ite] at h
      split at h
      ·exact absurd h (cells_ne fun a => cells_ne fun b => by simp)
      ·cases h
     ·cases h
    ·cases h
   ·cases h
  ·cases h
 case binOp op t x y t' =>
  split at h
  ·split at h
   ·split at h
    ·split at h
     ·exact (sLit_ne h).elim
     ·exact (sBin_ne h).elim
    ·exact (sBin_ne h).elim
   ·cases h
  ·cases h
 case unOp u t x =>
  split at h
  ·exact (sUn_ne h).elim
  ·cases h
 case call cl =>
  unfold sCall at h
  split at h
  ·split at h
   ·split at h
    ·split at h
     ·exact (sLen_ne h).elim
     ·cases h
    ·cases h
   ·split at h
    ·split at h
     ·exact (sMm_ne h).elim
     ·cases h
    ·cases h
   ·cases h
  ·cases h
 all_goals first
  | (repeat' split at h) <;> cases h
  | (unfold sPick at h; (repeat' split at h) <;> cases h)
  | (unfold sConv at h; (repeat' split at h) <;> cases h)
end
end
section
variable {H H' : List AObj} {v v' : V} {env' : List (Nat × V)}

section
variable (P : Program) (n m : Nat) (Q0 : AEx → St → Prop)
def Kk.Q : Kk → AEx → St → Prop
 | .nil => Q0
 | .th y k => thenQ (AWp P n m y (Kk.Q k)) (Kk.Q k)
 | .bl i k => blockQ i (Kk.Q k)
 | .sc k => noG (Kk.Q k)
 | .lp b N k => thenQ (ARounds P n m b (Kk.Q k) N) (Kk.Q k)
 | .cu X p S k => thenQ (fun s => ∃ z : X, p z ∧ Wk n m s ⟨den (S z).1, (S z).2⟩) (Kk.Q k)
/-- From here on all goes well. -/
def Go : Fo → Prop
 | .c c k E H => AWp P n m c (k.Q P n m Q0) ⟨den E, H⟩
 | .o r ops i l k E H => ops.toList.drop i = l → Run (fun _ => True) false P ops n [] (List.range' i l.length) [] (k.Q P n m Q0) ⟨den E, H⟩
 | .x e k E H => k.Q P n m Q0 e ⟨den E, H⟩
 | .d r ops i l acc fr k E H => (∀ p ∈ fr, H[p.1]? = some p.2) → ops.toList.drop i = l → Run (fun H => ∀ p ∈ fr, H[p.1]? = some p.2) true P ops n (List.range ops.size) (List.range' i l.length) acc (k.Q P n m Q0) ⟨den E, H⟩
end
section
variable {P : Program} {n m : Nat} {Q0 : AEx → St → Prop}

theorem Run.acc {F : List AObj → Prop} {ops : Array Oper} {ord l : List Nat} {acc acc' : List Kd} {Q : AEx → St → Prop} {s : St} (h : Run F false P ops n ord l acc Q s) : Run F false P ops n ord l acc' Q s := by
 intro hF
 obtain ⟨s', ks, h1, _, h3⟩ := h hF
 exact ⟨s', ks, h1, .inl rfl, h3⟩

theorem gctx_on {ops : List Oper} {E : List En} {g : Option (Nat × Bool)} {y : Bool} {c : List (Nat × Bool)} (h : gctx ops E g = .on y c) :
  (g = none ∧ c = []) ∨ ∃ j w d o, g = some (j, w) ∧ ops[j]? = some o ∧ o.dst = some d ∧ (cnd E c = true → look (den E) d = .bool w) ∧ (¬ cnd E c = true → look (den E) d = .bool (!w) ∨ look (den E) d = .tup []) := by
 unfold gctx at h
 split at h
 ·cases h; exact .inl ⟨rfl, rfl⟩
 ·rename_i j w
  split at h
  ·rename_i d op ty pos aft gd ho
   split at h
   ·rename_i t0 g0 k0 b hed
    have hbv : bv E d = b := by simp only [bv, hed]
    split at h
    ·split at h
     ·rename_i z hz
      obtain ⟨rfl, rfl⟩ : y = true ∧ c = (d, w) :: g0 := by cases h; exact ⟨rfl, rfl⟩
      have hz' := rd_spec hz
      obtain ⟨h1, h2, _⟩ := hz'
      rw [hed] at h1
      cases h1
      have hl := h2
      simp only at hl
      rw [denV_if] at hl
      refine .inr ⟨j, w, d, _, rfl, ho, rfl, fun hc => ?_, fun hc => ?_⟩
      ·simp only [cnd, Bool.and_eq_true, beq_iff_eq] at hc
       rw [hl, if_pos hc.2, ← hc.1, hbv]
      ·simp only [cnd, Bool.and_eq_true, beq_iff_eq, hbv] at hc
       by_cases h0 : cnd E g0 = true
       ·left
        rw [hl, if_pos h0]
        have : b ≠ w := fun e => hc ⟨e, h0⟩
        cases b <;> cases w <;> first | rfl | exact (this rfl).elim
       ·right; rw [hl, if_neg h0]
     ·cases h
    ·split at h
     ·split at h
      ·rename_i z hz
       obtain ⟨h1, h2, _⟩ := rd_spec hz
       rw [hed] at h1
       cases h1
       have hl := h2
       simp only [denV] at hl
       split at h
       ·cases h; exact .inr ⟨j, _, d, _, rfl, ho, rfl, fun _ => hl, fun hc => absurd rfl hc⟩
       ·cases h; exact .inr ⟨j, _, d, _, rfl, ho, rfl, fun _ => hl, fun hc => absurd rfl hc⟩
       ·cases h
      ·cases h
     ·cases h
   ·split at h <;> cases h
   ·cases h
  ·cases h
theorem gctx_off {ops : List Oper} {E : List En} {g : Option (Nat × Bool)} (h : gctx ops E g = .off) :
  ∃ j w d o, g = some (j, w) ∧ ops[j]? = some o ∧ o.dst = some d ∧ (look (den E) d = .bool (!w) ∨ look (den E) d = .tup []) := by
 unfold gctx at h
 split at h
 ·cases h
 ·rename_i j w
  split at h
  ·rename_i d op ty pos aft gd ho
   split at h
   ·rename_i t0 g0 k0 b hed
    split at h
    ·split at h <;> cases h
    ·split at h
     ·split at h
      ·rename_i z hz
       obtain ⟨h1, h2, _⟩ := rd_spec hz
       rw [hed] at h1
       cases h1
       have hl := h2
       simp only [denV] at hl
       split at h
       ·cases h
       ·cases h
       ·rename_i n1 n2
        refine ⟨j, _, d, _, rfl, ho, rfl, .inl ?_⟩
        rw [hl]
        cases b <;> cases w <;> first | rfl | exact (n1 rfl rfl).elim | exact (n2 rfl rfl).elim
      ·cases h
     ·cases h
   ·rename_i t0 k0 hed
    split at h
    ·rename_i z hz
     obtain ⟨h1, h2, _⟩ := rd_spec hz
     rw [hed] at h1
     cases h1
     have hl := h2
     simp only [denV] at hl
     exact ⟨j, w, d, _, rfl, ho, rfl, .inr hl⟩
    ·cases h
   ·cases h
  ·cases h

def Good (P : Program) (n m : Nat) (Q0 : AEx → St → Prop) (x : Fo × List Ob) (f : Fo) (ob : List Ob) : Prop := ObOk x.2 → ObOk ob ∧ (Go P n m Q0 x.1 → Go P n m Q0 f)
theorem Good.refl {f : Fo} {ob : List Ob} : Good P n m Q0 (f, ob) f ob := fun h => ⟨h, id⟩
theorem Good.to {x : Fo × List Ob} {f f1 : Fo} {ob ob1 : List Ob} (h : Good P n m Q0 x f1 ob1) (k : ObOk ob1 → ObOk ob ∧ (Go P n m Q0 f1 → Go P n m Q0 f)) : Good P n m Q0 x f ob := fun ho =>
 ⟨(k (h ho).1).1, fun hg => (k (h ho).1).2 ((h ho).2 hg)⟩

theorem drop_cons {α : Type} {a : List α} {x : α} {l : List α} (h : a.drop i = x :: l) : a[i]? = some x ∧ a.drop (i + 1) = l := by
 have h1 : a[i]? = some x := by
  have := congrArg (fun z => z[0]?) h
  simpa using this
 refine ⟨h1, ?_⟩
 have := congrArg (List.drop 1) h
 rw [List.drop_drop] at this
 simpa [Nat.add_comm] using this
theorem guard_of {o : Oper} (h : ops.toList[j]? = some o) (hd : o.dst = some d) : guardDst ops j = some d := by
 have : ops[j]? = some o := by simpa using h
 simp [guardDst, this, hd]

def psh (dst : Option Tmp) (m : Nat) (v : V) (E : List En) : List En := match dst with
 | some d => ⟨d, [], m, v⟩ :: E
 | none => E
theorem psh_den (dst : Option Tmp) (m : Nat) (v : V) (E : List En) : putD dst v (den E) = den (psh dst m v E) := by cases dst <;> rfl
/-- An operation that is told, then the others. -/
theorem Go.op {r i : Nat} {ops : Array Oper} {k : Kk} {E : List En} {H H' : List AObj} {dst : Option Tmp} {op : Op} {ty : TypeId} {pos : String} {aft : Array Edge} {gd : Option (Nat × Bool)} {l : List Oper} {y : Bool} {m1 : Nat} {v : V}
  (hg : gctx ops.toList E gd = .on y []) (hd : okDst n dst = true) (h : OpS P ⟨dst, op, ty, pos, aft, gd⟩ (ev (den E)) H v H')
  (t : Go P n m Q0 (.o r ops (i + 1) l k (psh dst m1 v E) H')) : Go P n m Q0 (.o r ops i (⟨dst, op, ty, pos, aft, gd⟩ :: l) k E H) := by
 intro hl
 obtain ⟨h1, h2⟩ := drop_cons hl
 have h1' : ops[i]? = some ⟨dst, op, ty, pos, aft, gd⟩ := by simpa using h1
 have t' := t h2
 rw [List.length_cons, List.range'_succ]
 have hput := psh_den dst m1 v E
 rcases gctx_on hg with ⟨rfl, _⟩ | ⟨j, w, d, o, rfl, ho, hod, hy, _⟩
 ·have hs : Stp P ops n ⟨dst, op, ty, pos, aft, none⟩ (fun _ => True) ⟨den E, H⟩ .eff v ⟨putD dst v (den E), H'⟩ := .eff _ v H' rfl hd h
  rw [hput] at hs
  exact (Run.cons (acc := []) h1' hs (fun _ => trivial) t'.acc).acc
 ·have hs : Stp P ops n ⟨dst, op, ty, pos, aft, some (j, w)⟩ (fun _ => True) ⟨den E, H⟩ .eff v ⟨putD dst v (den E), H'⟩ := .gyes _ v H' j d w rfl (guard_of ho hod) (hy rfl) hd h
  rw [hput] at hs
  exact (Run.cons (acc := []) h1' hs (fun _ => trivial) t'.acc).acc
theorem Go.opG {r : Nat} {k : Kk} {E : List En} {op : Op} {pos : String} {aft : Array Edge} {gd : Option (Nat × Bool)} {l : List Oper} {y : Bool} {c : List (Nat × Bool)}
  (hg : gctx ops.toList E gd = .on y c) (hd : Nat.blt d n = true) (h : cnd E c = true → ∀ X, OpS P ⟨some d, op, ty, pos, aft, gd⟩ (ev (den E)) (H ++ X) v (H ++ X))
  (t : Go P n m Q0 (.o r ops (i + 1) l k (⟨d, c, m1, v⟩ :: E) H)) : Go P n m Q0 (.o r ops i (⟨some d, op, ty, pos, aft, gd⟩ :: l) k E H) := by
 cases c with
 | nil => exact Go.op (y := y) (m1 := m1) hg (by simpa [okDst, Nat.blt_eq] using hd) (by simpa using h rfl []) t
 | cons p c =>
  intro hl
  obtain ⟨h1, h2⟩ := drop_cons hl
  have h1' : ops[i]? = some ⟨some d, op, ty, pos, aft, gd⟩ := by simpa using h1
  have t' := t h2
  rw [List.length_cons, List.range'_succ]
  rcases gctx_on hg with ⟨rfl, e⟩ | ⟨j, w, d', o, rfl, ho, hod, hy, hn⟩
  ·cases e
  ·have hs : Stp P ops n ⟨some d, op, ty, pos, aft, some (j, w)⟩ (fun _ => True) ⟨den E, H⟩ .qui (if cnd E (p :: c) = true then v else .tup []) ⟨putD (some d) (if cnd E (p :: c) = true then v else .tup []) (den E), H⟩ :=
    .gqui ⟨den E, H⟩ v j d' w (cnd E (p :: c) = true) rfl (guard_of ho hod) hy hn (by simpa [okDst, Nat.blt_eq] using hd) (fun hc X => h hc X)
   exact (Run.cons (acc := []) h1' hs (fun _ => trivial) t'.acc).acc
theorem Go.off {r i : Nat} {ops : Array Oper} {k : Kk} {E : List En} {H : List AObj} {dst : Option Tmp} {op : Op} {ty : TypeId} {pos : String} {aft : Array Edge} {gd : Option (Nat × Bool)} {l : List Oper}
  (hg : gctx ops.toList E gd = .off) (hd : okDst n dst = true)
  (t : Go P n m Q0 (.o r ops (i + 1) l k (psh dst 0 (.tup []) E) H)) : Go P n m Q0 (.o r ops i (⟨dst, op, ty, pos, aft, gd⟩ :: l) k E H) := by
 intro hl
 obtain ⟨h1, h2⟩ := drop_cons hl
 have h1' : ops[i]? = some ⟨dst, op, ty, pos, aft, gd⟩ := by simpa using h1
 have t' := t h2
 rw [List.length_cons, List.range'_succ]
 have hput := psh_den dst 0 (.tup []) E
 obtain ⟨j, w, d, o, rfl, ho, hod, hy⟩ := gctx_off hg
 have hs : Stp P ops n ⟨dst, op, ty, pos, aft, some (j, w)⟩ (fun _ => True) ⟨den E, H⟩ .sil (.tup []) ⟨putD dst (.tup []) (den E), H⟩ := .gno _ j d w rfl (guard_of ho hod) hy hd
 rw [hput] at hs
 exact (Run.cons (acc := []) h1' hs (fun _ => trivial) t'.acc).acc

theorem obK_spec (K : List Ob → Fo × List Ob) : ∀ (a b : List Ob), ∃ r, obK a b K = K r ∧ (ObOk r → ObOk a ∧ ObOk b) := by
 intro a
 induction a with
 | nil => exact fun b => ⟨b, rfl, fun h => ⟨fun x hx => (nomatch hx), h⟩⟩
 | cons x a ih =>
  intro b
  obtain ⟨r, h1, h2⟩ := ih (x :: b)
  refine ⟨r, h1, fun h => ⟨fun y hy => ?_, fun y hy => (h2 h).2 y (by simp [hy])⟩⟩
  rcases List.mem_cons.1 hy with rfl | hy
  ·exact (h2 h).2 _ (by simp)
  ·exact (h2 h).1 y hy
theorem Good.op {K : Fo → List Ob → Fo × List Ob} (hK : ∀ f ob, Good P n m Q0 (K f ob) f ob) {f f1 : Fo} {o1 ob : List Ob} (hk : ObOk o1 → Go P n m Q0 f1 → Go P n m Q0 f) : Good P n m Q0 (obK o1 ob (K f1)) f ob := by
 obtain ⟨r, h1, h2⟩ := obK_spec (K f1) o1 ob
 rw [h1]
 exact (hK f1 r).to fun ho => ⟨(h2 ho).2, hk (h2 ho).1⟩

theorem fzL_spec {o : Nat} {w : V} : ∀ {l l' : List V} {ob ob' : List Ob}, fzL o w l ob = some (l', ob') → ObOk ob' → ObOk ob ∧ FzL o (.cells w) l l'
 | [], l', ob, ob', h, ho => by cases h; exact ⟨ho, .nil⟩
 | v :: r, l', ob, ob', h, ho => by
  have other : ∀ (h : (match fzL o w r ob with | some (l, ob) => some (v :: l, ob) | none => none) = some (l', ob')), ObOk ob ∧ FzL o (.cells w) (v :: r) l' := by
   intro h
   split at h
   ·rename_i l1 ob1 h1
    cases h
    obtain ⟨q1, q2⟩ := fzL_spec h1 ho
    exact ⟨q1, .cons (.refl _) q2⟩
   ·cases h
  cases v with
  | ptr o' p off =>
   simp only [fzL, cond_eq_ite] at h
   split at h
   ·rename_i hoo
    split at h
    ·rename_i u pre hu
     split at h
     ·rename_i l1 ob1 h1
      cases h
      obtain ⟨q1, q2⟩ := fzL_spec h1 (fun x hx => ho x (by simp [hx]))
      obtain ⟨off', a1, a2⟩ := atV_spec hu
      have := ho (pre, off) (by simp)
      refine ⟨q1, .cons ?_ q2⟩
      rw [← Nat.eq_of_beq_eq_true hoo]
      exact .ptr a1 (by simp only [flenL] at a2; simp only at this; omega)
     ·cases h
    ·cases h
   ·exact other h
  | _ => exact other h

theorem Wk.freezeG {n m : Nat} {env : List (Nat × V)} (o : Nat) {u : AObj} (hf : u.fz = true) (ho : H[o]? = some u) (he : ∀ (g : Gh) (p : Place), g.ρ[o]? = some p → FzI g p u → ∀ t x, RV g (look env t) x → RV g (look env' t) x) : Wk n m ⟨env, H⟩ ⟨env', H.set o .dead⟩ := by
 intro B g a w b1 b2 h1 h2 h3
 have hol : o < g.ρ.length := by rw [h2.len]; exact (List.getElem?_eq_some_iff.1 ho).1
 have hp := List.getElem?_eq_getElem hol
 obtain ⟨g', le, hρ, hI, hr, himm⟩ := h2.freeze hp ho hf
 have hp' : g'.ρ[o]? = some g.ρ[o] := by rw [hρ]; exact hp
 refine ⟨g', ⟨fun t => he g' _ hp' hI t _ ((h1.env t).mono le), h1.size, h1.defers⟩, hr, ?_⟩
 have ev : Ev g H w g' (H.set o .dead) w := by
  refine ⟨le, rfl, rfl, rfl, Nat.le_refl _, Nat.le_refl _, fun _ _ _ => rfl, himm, ?_⟩
  rintro b ⟨k, q, y, hq, hy, l1, e⟩
  by_cases ek : k = o
  ·subst ek
   rw [List.getElem?_set_self (List.getElem?_eq_some_iff.1 ho).1] at hy
   cases hy
   simp [Place.own] at l1
  ·rw [List.getElem?_set_ne (Ne.symm ek)] at hy
   exact .inl ⟨k, q, y, by rw [← hρ]; exact hq, hy, l1, e⟩
 exact h3.trans ev
theorem setHo_spec {α : Type 1} {a : α} : ∀ {H : List AObj} {o : Nat} {u : AObj} {K : List AObj → Option α}, setHo H o u K = some a → K (H.set o u) = some a
 | [], _, _, _, h => by cases h
 | _ :: H, 0, u, K, h => h
 | x :: H, o + 1, u, K, h => by
  simp only [setHo] at h
  exact setHo_spec (K := fun H' => K (x :: H')) h
def nbV : V → Bool
 | .bool _ => false
 | _ => true
/-- The slots tell the same of truths. -/
theorem bv_same {t k : Nat} {g : List (Nat × Bool)} {E E' : List En} (hv : nbV v = true) (hv' : nbV v' = true) (h : ∀ d, bv E d = bv E' d) : ∀ d, bv (⟨t, g, k, v⟩ :: E) d = bv (⟨t, g, k, v'⟩ :: E') d := by
 intro d
 cases hd : Nat.beq d t with
 | true => simp only [bv, fnd, hd, cond_true]; cases v <;> cases v' <;> first | rfl | exact absurd hv Bool.false_ne_true | exact absurd hv' Bool.false_ne_true
 | false => simp only [bv, fnd, hd, cond_false]; exact h d
theorem cnd_same {E E' : List En} (h : ∀ d, bv E d = bv E' d) : ∀ c, cnd E c = cnd E' c
 | [] => rfl
 | p :: c => by simp only [cnd, h p.1, cnd_same h c]
structure FzS (o : Nat) (w : V) (E E' : List En) : Prop where
 b : ∀ d, bv E d = bv E' d
 e : ∀ (g : Gh) (p : Place), g.ρ[o]? = some p → FzI g p (.cells w) → ∀ t x, RV g (look (den E) t) x → RV g (look (den E') t) x
theorem FzS.nil {w : V} : FzS o w [] [] := ⟨fun _ => rfl, fun _ _ _ _ _ _ h => h⟩
theorem FzS.same {w : V} {E E' : List En} (h : FzS o w E E') (e : En) : FzS o w (e :: E) (e :: E') := by
 refine ⟨fun d => ?_, fun g p hp hI t x hx => ?_⟩
 ·cases hd : Nat.beq d e.t with
  | true => simp only [bv, fnd, hd, cond_true]
  | false => simp only [bv, fnd, hd, cond_false]; exact h.b d
 ·simp only [den, look_cons] at hx ⊢
  split
  ·rename_i ht
   rw [if_pos ht] at hx
   rw [denV_if] at hx ⊢
   rwa [← cnd_same h.b]
  ·rename_i ht
   rw [if_neg ht] at hx
   exact h.e g p hp hI t x hx
theorem FzS.cons {w : V} {E E' : List En} (h : FzS o w E E') {t k : Nat} (hk : okV v = true) (hv : nbV v = true) (hv' : nbV v' = true) (hz : FzR o (.cells w) v v') : FzS o w (⟨t, [], k, v⟩ :: E) (⟨t, [], k, v'⟩ :: E') := by
 refine ⟨bv_same hv hv' h.b, fun g p hp hI t x hx => ?_⟩
 simp only [den, denV, look_cons] at hx ⊢
 split
 ·rename_i ht
  rw [if_pos ht] at hx
  have := hx.ok hk
  exact .of (hz.agg.symm.trans this.1) (hz.rc g p hp hI _ this.2)
 ·rename_i ht
  rw [if_neg ht] at hx
  exact h.e g p hp hI t x hx
theorem fzE_spec {α : Type 1} {w : V} {a : α} : ∀ {E : List En} {ob : List Ob} {K : List En → List Ob → Option α}, fzE o w E ob K = some a → ∃ E' ob', K E' ob' = some a ∧ (ObOk ob' → ObOk ob ∧ FzS o w E E') := by
 intro E
 induction E with
 | nil => exact fun h => ⟨_, _, h, fun ho => ⟨ho, .nil⟩⟩
 | cons e E ih =>
  intro ob K h
  have other : ∀ (h : fzE o w E ob (fun E' ob => K (e :: E') ob) = some a), ∃ E' ob', K E' ob' = some a ∧ (ObOk ob' → ObOk ob ∧ FzS o w (e :: E) E') := by
   intro h
   obtain ⟨E', ob', h1, h2⟩ := ih h
   exact ⟨_, _, h1, fun ho => ⟨(h2 ho).1, (h2 ho).2.same e⟩⟩
  unfold fzE at h
  split at h
  ·cases ‹_ :: _ = []›
  ·rename_i t o' p off E1 hh
   cases hh
   simp only [cond_eq_ite] at h
   split at h
   ·rename_i hoo
    have hoo' := Nat.eq_of_beq_eq_true hoo
    subst hoo'
    split at h
    ·rename_i u pre hu
     obtain ⟨off', a1, a2⟩ := atV_spec hu
     split at h
     ·rename_i hs
      split at h
      ·rename_i hl
       obtain ⟨E', ob', h1, h2⟩ := ih h
       refine ⟨_, _, h1, fun ho => ⟨(h2 ho).1, (h2 ho).2.cons rfl rfl rfl (.ptr a1 ?_)⟩⟩
       have := scalL_fl hs
       have := Nat.eq_of_beq_eq_true hl
       simp only [flenL] at a2
       omega
      ·cases h
     ·obtain ⟨E', ob', h1, h2⟩ := ih h
      refine ⟨_, _, h1, fun ho => ⟨fun x hx => (h2 ho).1 x (by simp [hx]), (h2 ho).2.cons rfl rfl rfl (.ptr a1 ?_)⟩⟩
      have := (h2 ho).1 (pre, off) (by simp)
      simp only at this
      simp only [flenL] at a2
      omega
    ·cases h
   ·exact other h
  ·rename_i t f a' b' E1 hh
   cases hh
   split at h
   ·rename_i a1 ob1 h1
    split at h
    ·rename_i b1 ob2 h2
     obtain ⟨E', ob', h3, h4⟩ := ih h
     refine ⟨_, _, h3, fun ho => ?_⟩
     obtain ⟨q1, q2⟩ := h4 ho
     obtain ⟨q3, q4⟩ := fzL_spec h2 q1
     obtain ⟨q5, q6⟩ := fzL_spec h1 q3
     exact ⟨q5, q2.cons rfl rfl rfl (.fn q6 q4)⟩
    ·cases h
   ·cases h
  ·rename_i e' E1 hh
   cases hh
   exact other h

theorem FzS.wk {E E' : List En} {w : V} (ho : H[o]? = some (.cells w)) (hz : FzS o w E E') : Wk n m ⟨den E, H⟩ ⟨den E', H.set o .dead⟩ := .freezeG o rfl ho hz.e
theorem fzA_spec {α : Type 1} {a : α} : ∀ {os : List Nat} {E : List En} {H : List AObj} {ob : List Ob} {K : List En → List AObj → List Ob → Option α}, fzA os E H ob K = some a → ∃ E' H' ob', K E' H' ob' = some a ∧ (ObOk ob' → ObOk ob ∧ Wk n m ⟨den E, H⟩ ⟨den E', H'⟩)
 | [], E, H, ob, K, h => ⟨E, H, ob, h, fun ho => ⟨ho, .refl _⟩⟩
 | o :: os, E, H, ob, K, h => by
  simp only [fzA] at h
  split at h
  ·rename_i w hw
   obtain ⟨E1, ob1, h1, h2⟩ := fzE_spec h
   have h3 := setHo_spec h1
   obtain ⟨E2, H2, ob2, h4, h5⟩ := fzA_spec h3
   refine ⟨E2, H2, ob2, h4, fun ho => ?_⟩
   obtain ⟨q1, q2⟩ := h5 ho
   obtain ⟨q3, q4⟩ := h2 q1
   exact ⟨q3, (q4.wk hw).trans q2⟩
  ·cases h
theorem Kk.nc (h0 : NC n m Q0) : ∀ k : Kk, NC n m (k.Q P n m Q0)
 | .nil => h0
 | .th y k => nc_then
 | .bl i k => nc_block (Kk.nc h0 k)
 | .sc k => fun _ _ w h => Kk.nc h0 k _ _ w h
 | .lp b 0 k => fun _ _ w h => h.elim
 | .lp b (N + 1) k => fun _ _ w h => AWp.wk w h
 | .cu X p S k => fun _ _ w ⟨z, h1, h2⟩ => ⟨z, h1, w.trans h2⟩
theorem gctx_off2 {ops : List Oper} {E : List En} {g : Option (Nat × Bool)} {c : List (Nat × Bool)} (h : gctx ops E g = .on false c) : g = none ∧ c = [] := by
 unfold gctx at h
 split at h
 ·cases h; exact ⟨rfl, rfl⟩
 ·exfalso
  split at h
  ·split at h
   ·split at h
    ·split at h <;> cases h
    ·split at h
     ·split at h
      ·split at h <;> cases h
      ·cases h
     ·cases h
   ·split at h <;> cases h
   ·cases h
  ·cases h
theorem sop_any {T : List (Nat × TI)} {E : List En} {c : List (Nat × Bool)} {fr : List (Nat × AObj)} {op : Op} {k : Nat} {ob : List Ob} (h : sop un T E c H op = .q k v ob) (hk : kdQ fr E c op = .sil) (h1 : ∀ p ∈ fr, H[p.1]? = some p.2) (h2 : ∀ p ∈ fr, H'[p.1]? = some p.2) : sop un T E c H' op = .q k v ob := by
 cases op <;> simp only [sop] at h ⊢ <;> try exact h
 case alloc t =>
  split at h
  ·split at h
   ·rw [fig_spec, pushH_spec] at h; cases h
   ·cases h
  ·cases h
 case box t x =>
  split at h
  ·split at h
   ·rw [fig_spec, pushH_spec] at h; cases h
   ·cases h
  ·cases h
 case store t a x => exact (sStore_q h).elim
 case load t a =>
  unfold sLoad at h ⊢
  split
  ·rename_i hti
   rw [hti] at h
   simp only at h
   split
   ·rename_i hx; rw [hx] at h; exact h
   ·rename_i o p off hx
    rw [hx] at h
    simp only at h
    have ho : H'[o]? = H[o]? := by
     simp only [kdQ, hx, cond_eq_ite] at hk
     split at hk
     ·rename_i hin
      have : ∀ l : List (Nat × AObj), (∀ p ∈ l, H[p.1]? = some p.2) → (∀ p ∈ l, H'[p.1]? = some p.2) → inF o l = true → H'[o]? = H[o]? := by
       intro l
       induction l with
       | nil => intro _ _ h; cases h
       | cons q l ih =>
        obtain ⟨u, x⟩ := q
        intro a1 a2 a3
        simp only [inF, cond_eq_ite] at a3
        split at a3
        ·rename_i hu
         have := Nat.eq_of_beq_eq_true hu
         subst this
         exact (a2 (o, x) (by simp)).trans (a1 (o, x) (by simp)).symm
        ·exact ih (fun p hp => a1 p (by simp [hp])) (fun p hp => a2 p (by simp [hp])) a3
      exact this fr h1 h2 hin
     ·cases hk
    rw [ho]; exact h
   ·rename_i n1 n2
    exfalso
    split at h
    ·rename_i hx; exact n1 _ hx
    ·rename_i hx; exact n2 _ _ _ hx
    ·cases h
  ·rename_i hti; rw [hti] at h; cases h
theorem Go.opD {r : Nat} {acc : List Kd} {fr : List (Nat × AObj)} {k : Kk} {E E' : List En} {o : Oper} {l : List Oper} {kd : Kd} (hF : (∀ p ∈ fr, H[p.1]? = some p.2) → ∀ p ∈ fr, H'[p.1]? = some p.2)
  (hs : (∀ p ∈ fr, H[p.1]? = some p.2) → Stp P ops n o (fun H => ∀ p ∈ fr, H[p.1]? = some p.2) ⟨den E, H⟩ kd v ⟨den E', H'⟩) (t : Go P n m Q0 (.d r ops (i + 1) l (kd :: acc) fr k E' H')) : Go P n m Q0 (.d r ops i (o :: l) acc fr k E H) := by
 intro hfr hl
 obtain ⟨h1, h2⟩ := drop_cons hl
 have h1' : ops[i]? = some o := by simpa using h1
 have t' := t (hF hfr) h2
 rw [List.length_cons, List.range'_succ]
 exact Run.cons h1' (hs hfr) hF t'
theorem Go.qD {T : List (Nat × TI)} (hT : TabOk P T) {r : Nat} {acc : List Kd} {fr : List (Nat × AObj)} {k : Kk} {E : List En} {op : Op} {pos : String} {aft : Array Edge} {gd : Option (Nat × Bool)} {l : List Oper} {y : Bool} {c : List (Nat × Bool)} {ob : List Ob}
  (hg : gctx ops.toList E gd = .on y c) (hd : Nat.blt d n = true) (h : sop un T E c H op = .q m1 v ob) (ho : ObOk ob) (t : Go P n m Q0 (.d r ops (i + 1) l (kdQ fr E c op :: acc) fr k (⟨d, c, m1, v⟩ :: E) H)) : Go P n m Q0 (.d r ops i (⟨some d, op, ty, pos, aft, gd⟩ :: l) acc fr k E H) := by
 have hd' : okDst n (some d) = true := by simpa [okDst, Nat.blt_eq] using hd
 have hany : kdQ fr E c op = .sil ∨ kdQ fr E c op = .qui := by
  unfold kdQ
  split
  ·split
   ·simp only [cond_eq_ite]; split
    ·exact .inl rfl
    ·exact .inr rfl
   ·exact .inl rfl
  ·exact .inl rfl
 rcases gctx_on hg with ⟨hgn, hc⟩ | ⟨j, w, d', o, rfl, hoj, hod, hyy, hn⟩
 ·subst hc hgn
  refine Go.opD (v := v) id (fun hfr => ?_) t
  rcases hany with hk | hk
  ·rw [hk]
   exact .sil ⟨den E, H⟩ v rfl hd' fun H' hF => by simpa using sop_q (X := []) hT rfl (sop_any h hk hfr hF) ho
  ·rw [hk]
   exact .qui ⟨den E, H⟩ v rfl hd' fun X => sop_q hT rfl h ho
 ·refine Go.opD (v := if cnd E c = true then v else .tup []) id (fun hfr => ?_) t
  have hden : den (⟨d, c, m1, v⟩ :: E) = putD (some d) (if cnd E c = true then v else .tup []) (den E) := by
   simp only [den, putD, denV_if]
  rw [hden]
  rcases hany with hk | hk
  ·rw [hk]
   exact .gsil ⟨den E, H⟩ v j d' w (cnd E c = true) rfl (guard_of hoj hod) hyy hn hd' fun hcc H' hF => by simpa using sop_q (X := []) hT hcc (sop_any h hk hfr hF) ho
  ·rw [hk]
   exact .gqui ⟨den E, H⟩ v j d' w (cnd E c = true) rfl (guard_of hoj hod) hyy hn hd' fun hcc X => sop_q hT hcc h ho
theorem Go.offD {r : Nat} {acc : List Kd} {fr : List (Nat × AObj)} {k : Kk} {E : List En} {op : Op} {pos : String} {aft : Array Edge} {gd : Option (Nat × Bool)} {l : List Oper}
  (hg : gctx ops.toList E gd = .off) (hd : okDst n dst = true)
  (t : Go P n m Q0 (.d r ops (i + 1) l (.sil :: acc) fr k (psh dst 0 (.tup []) E) H)) : Go P n m Q0 (.d r ops i (⟨dst, op, ty, pos, aft, gd⟩ :: l) acc fr k E H) := by
 obtain ⟨j, w, d, o, rfl, ho, hod, hy⟩ := gctx_off hg
 refine Go.opD (v := .tup []) id (fun hfr => ?_) t
 have hput := psh_den dst 0 (.tup []) E
 rw [← hput]
 exact .gno ⟨den E, H⟩ j d w rfl (guard_of ho hod) hy hd
theorem sop_e_form {T : List (Nat × TI)} {E : List En} {fr : List (Nat × AObj)} {op : Op} {ob : List Ob} {kd : Kd} (h : sop un T E [] H op = .e v H' ob) (hk : kdE fr E op = some kd) :
  (kd = .new ∧ ∃ x, H' = H ++ [x]) ∨ (kd = .eff ∧ ∃ o x, H' = H.set o x ∧ inF o fr = false) := by
 cases op <;> simp only [kdE] at hk <;> try (cases hk; done)
 case alloc t =>
  cases hk
  simp only [sop] at h
  split at h
  ·split at h
   ·rw [fig_spec, pushH_spec] at h
    exact .inl ⟨rfl, _, (e_inj h).2.1.symm⟩
   ·cases h
  ·cases h
 case box t x =>
  cases hk
  simp only [sop] at h
  split at h
  ·split at h
   ·rw [fig_spec, pushH_spec] at h
    exact .inl ⟨rfl, _, (e_inj h).2.1.symm⟩
   ·cases h
  ·cases h
 case store t a x =>
  split at hk
  ·rename_i m0 o p off hx
   simp only [cond_eq_ite] at hk
   split at hk
   ·cases hk
   ·rename_i hin
    cases hk
    right
    refine ⟨rfl, o, ?_⟩
    simp only [sop, sStore] at h
    split at h
    ·rw [hx] at h
     split at h
     ·rename_i o' p' off' he
      simp only [Option.some.injEq, Prod.mk.injEq, V.ptr.injEq] at he
      obtain ⟨_, rfl, rfl, rfl⟩ := he
      split at h
      ·split at h
       ·split at h
        ·split at h
         ·rename_i u _ _ _ _ w _ _ y pre _
          obtain ⟨u', hu', _⟩ := weak_spec p _ y (fun u => setV w p u fun v' => setH H o (.cells v') fun H' => cells [u] _ fun o1 => cells [y] _ fun o2 => cells pre off fun o3 => .e .undef H' (o1 ++ (o2 ++ o3)))
          rw [hu'] at h
          rcases setV_spec (v := w) (p := p) (u := u') (K := fun v' => setH H o (.cells v') fun H' => cells [u'] _ fun o1 => cells [y] _ fun o2 => cells pre off fun o3 => .e .undef H' (o1 ++ (o2 ++ o3))) with h' | ⟨v', _, h'⟩
          ·rw [h'] at h; cases h
          ·rw [h'] at h
           rcases setH_spec (H := H) (o := o) (u := .cells v') (K := fun H' => cells [u'] _ fun o1 => cells [y] _ fun o2 => cells pre off fun o3 => .e .undef H' (o1 ++ (o2 ++ o3))) with h' | h'
           ·rw [h'] at h; cases h
           ·rw [h'] at h
            rcases cells_spec [u'] _ (fun o1 => cells [y] _ fun o2 => cells pre off fun o3 => Rs.e .undef (H.set o (.cells v')) (o1 ++ (o2 ++ o3))) with h' | ⟨o1, h', _⟩
            ·rw [h'] at h; cases h
            ·rw [h'] at h
             rcases cells_spec [y] _ (fun o2 => cells pre off fun o3 => Rs.e .undef (H.set o (.cells v')) (o1 ++ (o2 ++ o3))) with h' | ⟨o2, h', _⟩
             ·rw [h'] at h; cases h
             ·rw [h'] at h
              rcases cells_spec pre off (fun o3 => Rs.e .undef (H.set o (.cells v')) (o1 ++ (o2 ++ o3))) with h' | ⟨o3, h', _⟩
              ·rw [h'] at h; cases h
              ·rw [h'] at h
               exact ⟨_, (e_inj h).2.1.symm, by simpa using hin⟩
         ·cases h
        ·cases h
       ·cases h
      ·cases h
     ·cases h
    ·cases h
  ·cases hk
theorem inF_not {o : Nat} : ∀ {fr : List (Nat × AObj)}, inF o fr = false → ∀ p ∈ fr, p.1 ≠ o
 | [], _, p, hp => by cases hp
 | (u, x) :: l, h, p, hp => by
  simp only [inF, cond_eq_ite] at h
  split at h
  ·cases h
  ·rename_i hu
   rcases List.mem_cons.1 hp with rfl | hp
   ·intro e; exact hu (by rw [← e]; exact Nat.beq_refl _)
   ·exact inF_not h p hp
theorem Go.eD {T : List (Nat × TI)} (hT : TabOk P T) {r : Nat} {acc : List Kd} {fr : List (Nat × AObj)} {k : Kk} {E : List En} {op : Op} {pos : String} {aft : Array Edge} {gd : Option (Nat × Bool)} {l : List Oper} {kd : Kd} {ob : List Ob}
  (hg : gctx ops.toList E gd = .on false []) (hd : okDst n dst = true) (h : sop un T E [] H op = .e v H' ob) (hk : kdE fr E op = some kd) (ho : ObOk ob) (t : Go P n m Q0 (.d r ops (i + 1) l (kd :: acc) fr k (psh dst 0 v E) H')) : Go P n m Q0 (.d r ops i (⟨dst, op, ty, pos, aft, gd⟩ :: l) acc fr k E H) := by
 obtain ⟨rfl, _⟩ := gctx_off2 hg
 have hop := sop_e (P := P) (dst := dst) (ty := ty) (pos := pos) (aft := aft) (gd := none) hT rfl h ho
 rcases sop_e_form h hk with ⟨rfl, x, rfl⟩ | ⟨rfl, o, x, rfl, hin⟩
 ·refine Go.opD (v := v) (fun hfr p hp => get_app (hfr p hp)) (fun _ => ?_) t
  rw [← psh_den]
  exact .new ⟨den E, H⟩ v [x] rfl hd hop
 ·refine Go.opD (v := v) (fun hfr p hp => ?_) (fun _ => ?_) t
  ·rw [List.getElem?_set_ne (fun e => inF_not hin p hp e.symm)]; exact hfr p hp
  ·rw [← psh_den]
   exact .eff ⟨den E, H⟩ v _ rfl hd hop
theorem step_good {T : Cf} (hn : NC n m Q0) (hT : TabOk P T.tab) {K : Fo → List Ob → Fo × List Ob} (hK : ∀ f ob, Good P n m Q0 (K f ob) f ob) : ∀ (f : Fo) (ob : List Ob), Good P n m Q0 (step T n f ob K) f ob
 | .c c k E H, ob => by
  simp only [step]
  split
  ·exact (hK _ _).to fun ho => ⟨ho, fun h => .seq h⟩
  ·rename_i r ops
   refine (hK _ _).to fun ho => ⟨ho, fun h => ?_⟩
   refine W.reg _ rfl ?_
   have := h (by simp)
   rwa [← Array.length_toList, List.range_eq_range']
  ·exact (hK _ _).to fun ho => ⟨ho, fun h => .skip h⟩
  ·exact (hK _ _).to fun ho => ⟨ho, fun h => .label h⟩
  ·exact (hK _ _).to fun ho => ⟨ho, fun h => .ret h⟩
  ·exact (hK _ _).to fun ho => ⟨ho, fun h => .exit h⟩
  ·exact (hK _ _).to fun ho => ⟨ho, fun h => .block h⟩
  ·exact (hK _ _).to fun ho => ⟨ho, fun h => .scope h⟩
  ·split
   ·rename_i hx
    exact (hK _ _).to fun ho => ⟨ho, fun h => .condT (evm_spec hx rfl) h⟩
   ·rename_i hx
    exact (hK _ _).to fun ho => ⟨ho, fun h => .condF (evm_spec hx rfl) h⟩
   ·exact .refl
  ·split
   ·exact (hK _ _).to fun ho => ⟨ho, fun h => AWp.rounds 41 h⟩
   ·exact .refl
  ·exact .refl
 | .x e k E H, ob => by
  simp only [step]
  split
  ·exact .refl
  ·split
   ·exact .refl
   ·rename_i hne
    refine (hK _ _).to fun ho => ⟨ho, fun h => ?_⟩
    cases e with
    | normal => exact absurd rfl hne
    | _ => exact h
  ·split
   ·exact (hK _ _).to fun ho => ⟨ho, fun h => h⟩
   ·rename_i hne
    refine (hK _ _).to fun ho => ⟨ho, fun h => ?_⟩
    cases e with
    | normal => exact absurd rfl hne
    | _ => exact h
  ·rename_i b N k
   split
   ·split
    ·exact .refl
    ·exact (hK _ _).to fun ho => ⟨ho, fun h => h⟩
   ·rename_i hne
    refine (hK _ _).to fun ho => ⟨ho, fun h => ?_⟩
    cases e with
    | normal => exact absurd rfl hne
    | _ => exact h
  ·split
   ·rename_i i k j
    simp only [cond_eq_ite]
    split
    ·rename_i hj
     rw [Nat.eq_of_beq_eq_true hj]
     exact (hK _ _).to fun ho => ⟨ho, fun h => blockQ_x h⟩
    ·rename_i hj
     rw [Bool.not_eq_true] at hj
     exact (hK _ _).to fun ho => ⟨ho, fun h => blockQ_o hj h⟩
   ·rename_i hne
    refine (hK _ _).to fun ho => ⟨ho, fun h => ?_⟩
    cases e with
    | exit j => exact absurd rfl (hne j)
    | _ => exact h
  ·split
   ·exact .refl
   ·rename_i hne
    refine (hK _ _).to fun ho => ⟨ho, fun h => ?_⟩
    cases e with
    | goto j => exact absurd rfl (hne j)
    | _ => exact h
 | .o r ops i l k E H, ob => by
  simp only [step]
  split
  ·split
   ·exact (hK _ _).to fun ho => ⟨ho, fun h _ => by
     show Run _ _ _ _ _ _ (List.range' i 0) _ _ _
     exact S.nil h⟩
   ·split
    ·rename_i z hz
     obtain ⟨E', H', ob', h1, h2⟩ := fzA_spec (n := n) (m := m) hz
     cases h1
     exact (hK _ _).to fun ho => ⟨(h2 ho).1, fun h _ => by
      show Run _ _ _ _ _ _ (List.range' i 0) _ _ _
      exact S.nil (Kk.nc hn k _ _ (h2 ho).2 h)⟩
    ·exact .refl
  ·rename_i dst op ty pos aft gd l'
   simp only [cond_eq_ite]
   split
   ·exact .refl
   ·split
    ·rename_i y c hg
     split
     ·rename_i m1 v o1 hs
      split
      ·rename_i d
       split
       ·rename_i hd
        exact Good.op hK fun ho => Go.opG hg hd fun hc X => sop_q hT hc hs ho
       ·exact .refl
      ·split
       ·exact Good.op hK fun ho h => Go.op (m1 := 0) (dst := none) hg rfl (by simpa using sop_q (X := []) hT rfl hs ho) h
       ·exact .refl
     ·rename_i v H' o1 hs
      split
      ·split
       ·rename_i d
        split
        ·rename_i hd
         exact Good.op hK fun ho h => Go.op (m1 := 0) (dst := some d) hg (by simpa [okDst, Nat.blt_eq] using hd) (sop_e hT rfl hs ho) h
        ·exact .refl
       ·exact Good.op hK fun ho h => Go.op (m1 := 0) (dst := none) hg rfl (sop_e hT rfl hs ho) h
      ·exact .refl
     ·exact .refl
    ·rename_i hg
     split
     ·rename_i d
      split
      ·rename_i hd
       exact (hK _ _).to fun ho => ⟨ho, fun h => Go.off (dst := some d) hg (by simpa [okDst, Nat.blt_eq] using hd) h⟩
      ·exact .refl
     ·exact (hK _ _).to fun ho => ⟨ho, fun h => Go.off (dst := none) hg rfl h⟩
    ·exact .refl
 | .d r ops i l acc fr k E H, ob => by
  simp only [step]
  split
  ·exact .refl
  ·rename_i dst op ty pos aft gd l'
   simp only [cond_eq_ite]
   split
   ·exact .refl
   ·split
    ·rename_i y c hg
     split
     ·rename_i m1 v o1 hs
      split
      ·rename_i d
       split
       ·rename_i hd
        exact Good.op hK fun ho => Go.qD hT hg hd hs ho
       ·exact .refl
      ·exact .refl
     ·rename_i v H' o1 hs
      split
      ·split
       ·rename_i kd hkd
        split
        ·rename_i d
         split
         ·rename_i hd
          exact Good.op hK fun ho => Go.eD (dst := some d) hT hg (by simpa [okDst, Nat.blt_eq] using hd) hs hkd ho
         ·exact .refl
        ·exact Good.op hK fun ho => Go.eD (dst := none) hT hg rfl hs hkd ho
       ·exact .refl
      ·exact .refl
     ·exact .refl
    ·rename_i hg
     split
     ·rename_i d
      split
      ·rename_i hd
       exact (hK _ _).to fun ho => ⟨ho, fun h => Go.offD (dst := some d) hg (by simpa [okDst, Nat.blt_eq] using hd) h⟩
      ·exact .refl
     ·exact (hK _ _).to fun ho => ⟨ho, fun h => Go.offD (dst := none) hg rfl h⟩
    ·exact .refl
theorem run_good {T : Cf} (hn : NC n m Q0) (hT : TabOk P T.tab) : ∀ (N : Nat) (f : Fo) (ob : List Ob), Good P n m Q0 (run T n N f ob) f ob
 | 0, f, ob => .refl
 | N + 1, f, ob => step_good hn hT (run_good hn hT N) f ob
end
end
section
variable {H : List AObj} {v v' : V} {vs' : List V}

class TabT (P : Program) (T : Cf) : Prop where p : TabOk P T.tab
class ObT (l : List Ob) : Prop where p : ObOk l
instance : ObT [] := ⟨fun _ h => by cases h⟩
class EqN (a b : Nat) : Prop where p : a = b
instance {a : Nat} : EqN a a := ⟨rfl⟩
instance {vs : List V} {k n : Nat} {l : List Ob} [h : FlL vs k] [e : EqN k n] [t : ObT l] : ObT ((vs, n) :: l) := ⟨fun x hx => by
 rcases List.mem_cons.1 hx with rfl | hx
 ·exact h.p.trans e.p
 ·exact t.p x hx⟩
def Gw (P : Program) (T : Cf) (n m : Nat) (Q0 : AEx → St → Prop) (f : Fo) : Prop := Go P n m Q0 f
abbrev FF : Nat := 5000

def HB (T : Cf) (n : Nat) (f : Fo) : Option (Bool × Code × Code × Kk × List En × List AObj × List Ob) := match run T n FF f [] with
 | (.c (.cond x a b) k E H, ob) => match evm E [] x with
  | some (_, .bool c) => some (c, a, b, k, E, H, ob)
  | _ => none
 | _ => none
/-- What is kept of the slots. -/
def kpE {α : Type 1} (E : List En) : List Nat → (List En → Option α) → Option α
 | [], K => K []
 | t :: ts, K => match rd E [] t with
  | some e => kpE E ts fun r => K (e :: r)
  | none => none
def kdrp : Nat → Kk → Kk
 | 0, k => k
 | j + 1, .bl _ k => kdrp j k
 | j + 1, .sc k => kdrp j k
 | j + 1, .th _ k => kdrp j k
 | j + 1, .cu _ _ _ k => kdrp j k
 | j + 1, .lp _ _ k => kdrp j k
 | _ + 1, .nil => .nil
def kins (X : Type) (p : X → Prop) (S : X → List En × List AObj) : Nat → Kk → Kk
 | 0, k => .cu X p S k
 | j + 1, .bl i k => .bl i (kins X p S j k)
 | j + 1, .sc k => .sc (kins X p S j k)
 | j + 1, .th y k => .th y (kins X p S j k)
 | j + 1, .cu X' p' S' k => .cu X' p' S' (kins X p S j k)
 | _ + 1, .lp b N k => .lp b N k
 | _ + 1, .nil => .nil
structure HLp : Type 1 where
 c : Code
 k : Kk
 kd : Kk
 E : List En
 E1 : List En
 E2 : List En
 H : List AObj
 ob : List Ob
/-- A loop; what is kept in it, and behind it. -/
def HL (T : Cf) (n j : Nat) (l1 l2 : List Nat) (f : Fo) : Option HLp := match run T n FF f [] with
 | (.c (.loop c) k E H, ob) => kpE E l1 fun E1 => kpE E l2 fun E2 => some ⟨c, k, kdrp j k, E, E1, E2, H, ob⟩
 | _ => none
/-- A code that is at its end. -/
def HX (T : Cf) (n : Nat) (f : Fo) : Option (AEx × Kk × List En × List AObj × List Ob) := match run T n FF f [] with
 | (.x e k E H, ob) => some (e, k, E, H, ob)
 | _ => none
/-- An operation that must be told. -/
def HO {α : Type 1} (T : Cf) (n : Nat) (f : Fo) (K : Oper → List (Nat × Bool) → Kk → List En → List AObj → Nat → (Nat → V → List AObj → Fo) → List Ob → Option α) : Option α := match run T n FF f [] with
 | (.o r ops i (o :: l) k E H, ob) => match gctx ops.toList E o.guard with
  | .on _ c => match o.dst with
   | some d => bif Nat.blt d n then K o c k E H d (fun m v H' => .o r ops (i + 1) l k (⟨d, c, m, v⟩ :: E) H') ob else none
   | none => none
  | _ => none
 | _ => none

section
variable {P : Program} {T : Cf} {n m : Nat} {Q0 : AEx → St → Prop} {f0 : Fo}
class NcT (n m : Nat) (Q : AEx → St → Prop) : Prop where p : NC n m Q
instance {fn : Func} {R : Out → List AObj → Prop} : NcT n m (endF P fn n m R) := ⟨nc_end⟩
theorem Gw.run [h : TabT P T] [hn : NcT n m Q0] {N : Nat} {f f1 : Fo} {ob : List Ob} (e : run T n N f [] = (f1, ob)) [o : ObT ob] (g : Gw P T n m Q0 f1) : Gw P T n m Q0 f := by
 have := run_good (P := P) (n := n) (m := m) (Q0 := Q0) hn.p h.p N f []
 rw [e] at this
 exact (this o.p).2 g

/-- Two ways. -/
theorem eb [TabT P T] [NcT n m Q0] {c : Bool} {a b : Code} {k : Kk} {E : List En} {ob : List Ob} {α : Type} {X Y : Option α} {K : α → Prop} (e : HB T n f0 = some (c, a, b, k, E, H, ob)) [ObT ob] (h : Ok (if c = true then X else Y) K)
  (h1 : Ok X K → Gw P T n m Q0 (.c a k E H)) (h2 : Ok Y K → Gw P T n m Q0 (.c b k E H)) : Gw P T n m Q0 f0 := by
 unfold HB at e
 split at e
 ·rename_i x a' b' k' E' H' ob' hr
  split at e
  ·rename_i q c' hx
   cases e
   refine Gw.run hr ?_
   exact AWp.condM (evm_spec hx rfl) h (fun _ h => h1 h) (fun _ h => h2 h)
  ·cases e
 ·cases e

theorem kins_spec {X : Type} {p : X → Prop} {S : X → List En × List AObj} : ∀ (j : Nat) (k : Kk), (∀ s, (∃ z : X, p z ∧ Wk n m s ⟨den (S z).1, (S z).2⟩) → (kdrp j k).Q P n m Q0 .normal s) → ∀ e s, (kins X p S j k).Q P n m Q0 e s → k.Q P n m Q0 e s
 | 0, k, h, e, s, q => by
  cases e with
  | normal => exact h s q
  | _ => exact q
 | j + 1, .bl i k, h, e, s, q => by
  have ih := kins_spec j k h
  cases e with
  | exit i' =>
   simp only [kins, Kk.Q, blockQ] at q ⊢
   split
   ·rename_i hi; rw [if_pos hi] at q; exact ih _ _ q
   ·rename_i hi; rw [if_neg hi] at q; exact ih _ _ q
  | _ => exact ih _ _ q
 | j + 1, .sc k, h, e, s, q => by
  have ih := kins_spec j k h
  cases e with
  | goto i => exact q
  | _ => exact ih _ _ q
 | j + 1, .th y k, h, e, s, q => by
  have ih := kins_spec j k h
  cases e with
  | normal => exact AWp.mono q ih
  | _ => exact ih _ _ q
 | j + 1, .cu X' p' S' k, h, e, s, q => by
  have ih := kins_spec j k h
  cases e with
  | normal => exact q
  | _ => exact ih _ _ q
 | _ + 1, .lp b N k, h, e, s, q => q
 | _ + 1, .nil, h, e, s, q => q


/-- From one state of the machine to another one that tells no more. -/
def WkM (n m : Nat) (E : List En) (H : List AObj) (s : List En × List AObj) : Prop := Wk n m ⟨den E, H⟩ ⟨den s.1, s.2⟩

def nE : List (Nat × V) → List En
 | [] => []
 | (t, v) :: l => ⟨t, [], 0, v⟩ :: nE l
theorem kpE_some {α : Type 1} {E : List En} {z : α} : ∀ {ts : List Nat} {K : List En → Option α}, kpE E ts K = some z → ∃ r, K r = some z
 | [], _, h => ⟨_, h⟩
 | t :: ts, K, h => by
  simp only [kpE] at h
  split at h
  ·obtain ⟨r, hr⟩ := kpE_some h; exact ⟨_, hr⟩
  ·cases h
theorem HL_get {l1 l2 : List Nat} {c : Code} {k kd : Kk} {E E1 E2 : List En} {ob : List Ob} (e : HL T n j l1 l2 f0 = some ⟨c, k, kd, E, E1, E2, H, ob⟩) : run T n FF f0 [] = (.c (.loop c) k E H, ob) ∧ kd = kdrp j k := by
 unfold HL at e
 split at e
 ·rename_i hr
  obtain ⟨r, hr'⟩ := kpE_some e
  obtain ⟨r', hr''⟩ := kpE_some hr'
  cases hr''
  exact ⟨hr, rfl⟩
 ·cases e
/-- A loop. -/
theorem el [TabT P T] [hn : NcT n m Q0] {σ X γ : Type} (j : Nat) (l1 l2 : List Nat) {c : Code} {k kd : Kk} {E E1 E2 : List En} {ob : List Ob}
  {bm : σ → Option (σ ⊕ X)} {s0 : σ} {k1 : X → Option γ} {K : γ → Prop} (e : HL T n j l1 l2 f0 = some ⟨c, k, kd, E, E1, E2, H, ob⟩) [ObT ob] (h : Ok (Option.bind (loopM bm N s0) k1) K) (S1 : σ → List (Nat × V)) (H1 : σ → List AObj) (S2 : X → List (Nat × V)) (H2 : X → List AObj)
  (w : WkM n m E H (nE (S1 s0) ++ E1, H1 s0))
  (b : ∀ (q : X) (N : Nat) (s : σ), Ok (bm s) (loopK bm N q) → Gw P T n m Q0 (.c c (.cu σ (fun t => loopM bm N t = some q) (fun t => (nE (S1 t) ++ E1, H1 t)) (kins X (fun z => z = q) (fun z => (nE (S2 z) ++ E2, H2 z)) j k)) (nE (S1 s) ++ E1) (H1 s)))
  (r : ∀ z, Ok (k1 z) K → Gw P T n m Q0 (.x .normal kd (nE (S2 z) ++ E2) (H2 z))) : Gw P T n m Q0 f0 := by
 obtain ⟨q, hq, h⟩ := h.bnd
 obtain ⟨hr, rfl⟩ := HL_get e
 refine Gw.run hr ?_
 refine AWp.mono (Q := (kins X (fun z => z = q) (fun z => (nE (S2 z) ++ E2, H2 z)) j k).Q P n m Q0) ?_ (kins_spec j _ ?_)
 ·exact AWp.loopT (fun t => ⟨den (nE (S1 t) ++ E1), H1 t⟩) hq w fun N t ht => b q N t ht
 ·rintro s ⟨z, rfl, hw⟩
  exact Kk.nc (P := P) hn.p _ _ _ hw (r z h)
/-- A loop with ways out of the function. -/
theorem elR [TabT P T] [hn : NcT n m Q0] {σ X R γ : Type} (j : Nat) (l1 l2 : List Nat) {c : Code} {k kd : Kk} {E E1 E2 : List En} {ob : List Ob}
  {bm : σ → Option (σ ⊕ (X ⊕ R))} {s0 : σ} {k1 : X → Option γ} {k2 : R → Option γ} {K : γ → Prop} (e : HL T n j l1 l2 f0 = some ⟨c, k, kd, E, E1, E2, H, ob⟩) [ObT ob] (h : Ok (Option.bind (loopM bm N s0) (onS k1 k2)) K) (S1 : σ → List (Nat × V)) (H1 : σ → List AObj) (S2 : X → List (Nat × V)) (H2 : X → List AObj)
  (w : WkM n m E H (nE (S1 s0) ++ E1, H1 s0))
  (b : ∀ (q : X ⊕ R) (N : Nat) (s : σ), Ok (onS k1 k2 q) K → Ok (bm s) (loopK bm N q) → Gw P T n m Q0 (.c c (.cu σ (fun t => loopM bm N t = some q) (fun t => (nE (S1 t) ++ E1, H1 t)) (kins X (fun z => (.inl z : X ⊕ R) = q) (fun z => (nE (S2 z) ++ E2, H2 z)) j k)) (nE (S1 s) ++ E1) (H1 s)))
  (r : ∀ z, Ok (k1 z) K → Gw P T n m Q0 (.x .normal kd (nE (S2 z) ++ E2) (H2 z))) : Gw P T n m Q0 f0 := by
 obtain ⟨q, hq, h⟩ := h.bnd
 obtain ⟨hr, rfl⟩ := HL_get e
 refine Gw.run hr ?_
 refine AWp.mono (Q := (kins X (fun z => (.inl z : X ⊕ R) = q) (fun z => (nE (S2 z) ++ E2, H2 z)) j k).Q P n m Q0) ?_ (kins_spec j _ ?_)
 ·exact AWp.loopT (fun t => ⟨den (nE (S1 t) ++ E1), H1 t⟩) hq w fun N t ht => b q N t h ht
 ·rintro s ⟨z, rfl, hw⟩
  exact Kk.nc (P := P) hn.p _ _ _ hw (r z h)

/-- As el, of the same memory. -/
theorem el0 [TabT P T] [hn : NcT n m Q0] {σ X γ : Type} (j : Nat) (l1 l2 : List Nat) {c : Code} {k kd : Kk} {E E1 E2 : List En} {ob : List Ob}
  {bm : σ → Option (σ ⊕ X)} {s0 : σ} {k1 : X → Option γ} {K : γ → Prop} (e : HL T n j l1 l2 f0 = some ⟨c, k, kd, E, E1, E2, H, ob⟩) [ObT ob] (h : Ok (Option.bind (loopM bm N s0) k1) K) (S1 : σ → List (Nat × V)) (S2 : X → List (Nat × V))
  (w : WkM n m E H (nE (S1 s0) ++ E1, H))
  (b : ∀ (q : X) (N : Nat) (s : σ), Ok (bm s) (loopK bm N q) → Gw P T n m Q0 (.c c (.cu σ (fun t => loopM bm N t = some q) (fun t => (nE (S1 t) ++ E1, H)) (kins X (fun z => z = q) (fun z => (nE (S2 z) ++ E2, H)) j k)) (nE (S1 s) ++ E1) H))
  (r : ∀ z, Ok (k1 z) K → Gw P T n m Q0 (.x .normal kd (nE (S2 z) ++ E2) H)) : Gw P T n m Q0 f0 := el j l1 l2 e h S1 (fun _ => H) S2 (fun _ => H) w b r
theorem elR0 [TabT P T] [hn : NcT n m Q0] {σ X R γ : Type} (j : Nat) (l1 l2 : List Nat) {c : Code} {k kd : Kk} {E E1 E2 : List En} {ob : List Ob}
  {bm : σ → Option (σ ⊕ (X ⊕ R))} {s0 : σ} {k1 : X → Option γ} {k2 : R → Option γ} {K : γ → Prop} (e : HL T n j l1 l2 f0 = some ⟨c, k, kd, E, E1, E2, H, ob⟩) [ObT ob] (h : Ok (Option.bind (loopM bm N s0) (onS k1 k2)) K) (S1 : σ → List (Nat × V)) (S2 : X → List (Nat × V))
  (w : WkM n m E H (nE (S1 s0) ++ E1, H))
  (b : ∀ (q : X ⊕ R) (N : Nat) (s : σ), Ok (onS k1 k2 q) K → Ok (bm s) (loopK bm N q) → Gw P T n m Q0 (.c c (.cu σ (fun t => loopM bm N t = some q) (fun t => (nE (S1 t) ++ E1, H)) (kins X (fun z => (.inl z : X ⊕ R) = q) (fun z => (nE (S2 z) ++ E2, H)) j k)) (nE (S1 s) ++ E1) H))
  (r : ∀ z, Ok (k1 z) K → Gw P T n m Q0 (.x .normal kd (nE (S2 z) ++ E2) H)) : Gw P T n m Q0 f0 := elR j l1 l2 e h S1 (fun _ => H) S2 (fun _ => H) w b r

/-- A way that is at its end: it is in the state that was told. -/
theorem ex [TabT P T] [NcT n m Q0] {X : Type} {p : X → Prop} {S : X → List En × List AObj} {k : Kk} {E : List En} {ob : List Ob} {z : X} (e : HX T n f0 = some (.normal, .cu X p S k, E, H, ob)) [ObT ob] (h : p z) (w : WkM n m E H (S z)) : Gw P T n m Q0 f0 := by
 unfold HX at e
 split at e
 ·rename_i hr
  cases e
  exact Gw.run hr ⟨z, h, w⟩
 ·cases e

def lkp (E : List En) : List En → Option (List V)
 | [] => some []
 | ⟨t, [], _, _⟩ :: r => match rd E [] t with
  | some ⟨_, _, _, v⟩ => match lkp E r with
   | some l => some (v :: l)
   | none => none
  | none => none
 | _ :: _ => none
def vals : List En → List V
 | [] => []
 | ⟨_, _, _, v⟩ :: r => v :: vals r
theorem lkp_mem {E : List En} : ∀ {E' : List En} {vs : List V}, lkp E E' = some vs → (den E').map (·.2) = vals E' ∧ (den E').map (fun p => look (den E) p.1) = vs
 | [], vs, h => by cases h; exact ⟨rfl, rfl⟩
 | ⟨t, g, k, v⟩ :: r, vs, h => by
  cases g with
  | nil =>
   simp only [lkp] at h
   split at h
   ·rename_i e hr
    split at h
    ·rename_i l hl
     cases h
     obtain ⟨h1, h2⟩ := lkp_mem hl
     have := (rd_spec hr).2.2 rfl
     refine ⟨?_, ?_⟩
     ·rw [den, List.map_cons, h1]; rfl
     ·rw [den, List.map_cons, h2]; exact congrArg (· :: l) this
    ·cases h
   ·cases h
  | cons _ _ => simp only [lkp] at h; cases h
/-- Nothing is told anew. -/
theorem wk0 {E E' : List En} (h : lkp E E' = some (vals E')) : WkM n m E H (E', H) := by
 obtain ⟨h1, h2⟩ := lkp_mem h
 refine Wk.keep (EnvSub.of fun p hp => ?_)
 have : ∀ l : List (Nat × V), l.map (·.2) = l.map (fun p => look (den E) p.1) → ∀ p ∈ l, (look (den E) p.1).sub p.2 := by
  intro l
  induction l with
  | nil => intro _ p hp; cases hp
  | cons x l ih =>
   intro hx p hp
   simp only [List.map_cons, List.cons.injEq] at hx
   rcases List.mem_cons.1 hp with rfl | hp
   ·rw [← hx.1]; exact .refl _
   ·exact ih hx.2 p hp
 exact this _ (h1.trans h2.symm) p hp

/-- What a function tells. -/
def rsE (T : Cf) (E : List En) : List ResultVar → List Ob → Option (List V × List (Nat × V) × List Ob)
 | [], ob => some ([], [], ob)
 | .tmp t :: r, ob => match rd E [] t with
  | some ⟨_, _, _, v⟩ => match okV v with
   | true => match rsE T E r ob with
    | some (vs, es, ob) => some (v :: vs, (t, v) :: es, ob)
    | none => none
   | false => none
  | none => none
 | .cell a ty :: r, ob => match tiL T.tab ty with
  | some ti => match rd E [] a with
   | some ⟨_, _, _, .cptr v⟩ => bif aggIs v ti.agg then (match rsE T E r ob with
    | some (vs, es, ob) => some (v :: vs, (a, .cptr v) :: es, ([v], ti.sz) :: ob)
    | none => none) else none
   | _ => none
  | none => none
/-- A pointer's content is another form of it. -/
def rsW : List ResultVar → List V → List (Nat × V)
 | .tmp t :: r, v :: vs => (t, v) :: rsW r vs
 | .cell a _ :: r, v :: vs => (a, .cptr v) :: rsW r vs
 | _, _ => []
theorem RSub.cptr' (h : RSub v v') : RSub (.cptr v) (.cptr v') := ⟨rfl, rfl, fun g cs hc => by
 simp only [RC] at hc ⊢
 obtain ⟨a, c, h1, h2, h3, h4⟩ := hc
 exact ⟨a, c, h1, h2, h.rc g c h3, h4⟩⟩
theorem rsE_spec {E : List En} (hT : TabOk P T.tab) : ∀ {rs : List ResultVar} {ob ob' : List Ob} {vs vs' : List V} {es : List (Nat × V)}, rsE T E rs ob = some (vs, es, ob') → RSubL vs vs' → (∀ m, V.ltL m vs' = true) → okL vs' = true → ObOk ob' →
  ObOk ob ∧ (rsW rs vs').map (·.1) = es.map (·.1) ∧ SelE (fun _ => 0) 0 (den E) (rsW rs vs') ∧ ∀ env, (∀ p ∈ rsW rs vs', look env p.1 = p.2) → ResL P ⟨env, []⟩ rs vs' := by
 intro rs
 induction rs with
 | nil =>
  intro ob ob' vs vs' es h hs hl hok ho
  cases h
  cases hs
  exact ⟨ho, rfl, .nil, fun env _ => .nil⟩
 | cons r rs ih =>
  intro ob ob' vs vs' es h hs hl hok ho
  cases r with
  | tmp t =>
   simp only [rsE] at h
   split at h
   ·rename_i g0 t0 k0 v hr
    split at h
    ·rename_i hk
     split at h
     ·rename_i vs1 es1 ob1 h1
      cases h
      cases hs with
      | @cons _ v' _ vs2 hv ht =>
       have hl1 : ∀ m, v'.lt m = true := fun m => by have := hl m; simp only [V.ltL, Bool.and_eq_true] at this; exact this.1
       have hl2 : ∀ m, V.ltL m vs2 = true := fun m => by have := hl m; simp only [V.ltL, Bool.and_eq_true] at this; exact this.2
       simp only [okL, Bool.and_eq_true] at hok
       obtain ⟨q1, q2, q3, q4⟩ := ih h1 ht hl2 hok.2 ho
       have hlook := (rd_spec hr).2.2 rfl
       refine ⟨q1, by simp only [rsW, List.map_cons, q2], SelE.leaf hlook hk hv hl1 q3, fun env he => ?_⟩
       exact .cons (.tmp (he _ (List.mem_cons_self ..)) hok.1) (q4 env fun p hp => he p (List.mem_cons_of_mem _ hp))
     ·cases h
    ·cases h
   ·cases h
  | cell a ty =>
   simp only [rsE] at h
   split at h
   ·rename_i ti hti
    have ht0 := tiL_ok hT hti
    split at h
    ·rename_i g0 t0 k0 v hr
     simp only [cond_eq_ite] at h
     split at h
     ·rename_i hag
      split at h
      ·rename_i vs1 es1 ob1 h1
       cases h
       cases hs with
       | @cons _ v' _ vs2 hv ht =>
        have hl1 : ∀ m, v'.lt m = true := fun m => by have := hl m; simp only [V.ltL, Bool.and_eq_true] at this; exact this.1
        have hl2 : ∀ m, V.ltL m vs2 = true := fun m => by have := hl m; simp only [V.ltL, Bool.and_eq_true] at this; exact this.2
        simp only [okL, Bool.and_eq_true] at hok
        obtain ⟨q1, q2, q3, q4⟩ := ih h1 ht hl2 hok.2 (fun x hx => ho x (by simp [hx]))
        have hlook := (rd_spec hr).2.2 rfl
        refine ⟨q1, by simp only [rsW, List.map_cons, q2], SelE.leaf hlook rfl (RSub.cptr' hv) (fun m => lt_cptr (hl1 m)) q3, fun env he => ?_⟩
        refine .cons (.cellC ht0.sz ht0.ag (he _ (List.mem_cons_self ..)) ?_ ?_) (q4 env fun p hp => he p (List.mem_cons_of_mem _ hp))
        ·rw [← hv.fl]; exact flen1 (ho ([v], ti.sz) (by simp))
        ·rw [← hv.agg]; exact aggIs_eq hag
      ·cases h
     ·cases h
    ·cases h
   ·cases h
/-- Variables that are handed out are frozen. -/
def frR {α : Type} : List ResultVar → List En → List AObj → List Ob → (List En → List AObj → List Ob → Option α) → Option α
 | [], E, H, ob, K => K E H ob
 | .tmp _ :: r, E, H, ob, K => frR r E H ob K
 | .cell a _ :: r, E, H, ob, K => match rd E [] a with
  | some ⟨_, _, 0, .ptr o [] 0⟩ => match H[o]? with
   | some (.cells w) => match fzE o w E ob fun E' ob => setHo H o .dead fun H' => some (ULift.up.{1} (E', H', ob)) with
    | some ⟨(E', H', ob)⟩ => frR r E' H' ob K
    | none => none
   | _ => none
  | _ => frR r E H ob K
theorem frR_spec {α : Type} {a : α} : ∀ {rs : List ResultVar} {E : List En} {H : List AObj} {ob : List Ob} {K : List En → List AObj → List Ob → Option α}, frR rs E H ob K = some a → ∃ E' H' ob', K E' H' ob' = some a ∧ (ObOk ob' → ObOk ob ∧ Wk n m ⟨den E, H⟩ ⟨den E', H'⟩) := by
 intro rs
 induction rs with
 | nil => exact fun {E H ob K} h => ⟨E, H, ob, h, fun ho => ⟨ho, .refl _⟩⟩
 | cons r rs ih =>
  intro E H ob K h
  cases r with
  | tmp t => exact ih h
  | cell c ty =>
   simp only [frR] at h
   split at h
   ·split at h
    ·rename_i o _ w hw
     split at h
     ·rename_i E1 H1 ob1 hz
      obtain ⟨E2, ob2, h1, h2⟩ := fzE_spec hz
      have h3 := setHo_spec h1
      cases h3
      obtain ⟨E3, H3, ob3, h4, h5⟩ := ih h
      refine ⟨E3, H3, ob3, h4, fun ho => ?_⟩
      obtain ⟨q1, q2⟩ := h5 ho
      obtain ⟨q3, q4⟩ := h2 q1
      exact ⟨q3, (q4.wk hw).trans q2⟩
     ·cases h
    ·cases h
   ·exact ih h
/-- As many as told. -/
class OlT (l : List (Nat × List V)) : Prop where p : ∀ x ∈ l, x.1 = x.2.length
instance : OlT [] := ⟨fun _ h => by cases h⟩
instance {α : Type} {g : α → V} {xs : List α} {l : List (Nat × List V)} [t : OlT l] : OlT ((xs.length, xs.map g) :: l) := ⟨fun x hx => by
 rcases List.mem_cons.1 hx with rfl | hx
 ·simp
 ·exact t.p x hx⟩
/-- Buffers that are handed out are frozen. -/
def frB {α : Type} : List ResultVar → List En → List AObj → List (Nat × List V) → (List En → List AObj → List (Nat × List V) → Option α) → Option α
 | [], E, H, ol, K => K E H ol
 | .cell _ _ :: r, E, H, ol, K => frB r E H ol K
 | .tmp t :: r, E, H, ol, K => match rd E [] t with
  | some ⟨_, _, _, .slo e o [] 0 0 len q⟩ => match H[o]? with
   | some (.buf e' xs) => bif Nat.beq e e' then frB r (⟨t, [], 0, .sl e .no xs⟩ :: E) (H.set o .dead) ((len, xs) :: ol) K else none
   | _ => none
  | _ => frB r E H ol K
theorem frB_spec {α : Type} {a : α} : ∀ {rs : List ResultVar} {E : List En} {H : List AObj} {ol : List (Nat × List V)} {K : List En → List AObj → List (Nat × List V) → Option α}, frB rs E H ol K = some a → ∃ E' H' ol', K E' H' ol' = some a ∧ ((∀ x ∈ ol', x.1 = x.2.length) → (∀ x ∈ ol, x.1 = x.2.length) ∧ Wk n m ⟨den E, H⟩ ⟨den E', H'⟩) := by
 intro rs
 induction rs with
 | nil => exact fun {E H ol K} h => ⟨E, H, ol, h, fun ho => ⟨ho, .refl _⟩⟩
 | cons r rs ih =>
  intro E H ol K h
  cases r with
  | cell t _ => exact ih h
  | tmp t =>
   simp only [frB] at h
   split at h
   ·rename_i t0 g0 k0 e o len q hr
    split at h
    ·rename_i e' xs hw
     simp only [cond_eq_ite] at h
     split at h
     ·rename_i hee
      have := Nat.eq_of_beq_eq_true hee
      subst this
      obtain ⟨E3, H3, ol3, h4, h5⟩ := ih h
      refine ⟨E3, H3, ol3, h4, fun ho => ?_⟩
      obtain ⟨q1, q2⟩ := h5 ho
      refine ⟨fun x hx => q1 x (by simp [hx]), Wk.trans ?_ q2⟩
      have hlen : len = xs.length := q1 (len, xs) (by simp)
      have hl := (rd_spec hr).2.2 rfl
      refine Wk.freezeG o rfl hw fun g p hp hI t' x hx => ?_
      show RV g (look ((t, denV E [] (.sl e .no xs)) :: den E) t') x
      rw [look_cons]
      split
      ·rename_i ht
       subst ht
       rw [hl] at hx
       have hz : FzR o (.buf e xs) (.slo e o [] 0 0 len q) (.sl e .no xs) := .slo hlen
       have := hx.ok rfl
       exact .of (hz.agg.symm.trans this.1) (hz.rc g p hp hI _ this.2)
      ·exact hx
     ·cases h
    ·cases h
   ·exact ih h
def HE' (T : Cf) (rs : List ResultVar) (E : List En) (H : List AObj) (ob : List Ob) : Option (List V × List Ob × List (Nat × List V)) := frR rs E H ob fun E H ob => frB rs E H [] fun E _ ol => match rsE T E rs ob with
 | some (vs, es, ob) => bif ndp es then some (vs, ob, ol) else none
 | none => none
def HE (T : Cf) (n : Nat) (rs : List ResultVar) (f : Fo) : Option (List V × List Ob × List (Nat × List V)) := match run T n FF f [] with
 | (.x .ret .nil E H, ob) => HE' T rs E H ob
 | (.x .normal .nil E H, ob) => HE' T rs E H ob
 | _ => none
theorem lookn : ∀ (l : List (Nat × V)), (l.map (·.1)).Nodup → ∀ x ∈ l, look l x.1 = x.2
 | [], _, x, hx => by cases hx
 | y :: l, hn, x, hx => by
  rw [List.map_cons, List.nodup_cons] at hn
  rcases List.mem_cons.1 hx with rfl | hx
  ·exact l0
  ·have hne : Nat.beq x.1 y.1 = false := by
    rw [Bool.eq_false_iff]
    intro q
    have q' : x.1 = y.1 := Nat.eq_of_beq_eq_true q
    exact hn.1 (q' ▸ List.mem_map_of_mem (f := fun z : Nat × V => z.1) hx)
   show (bif Nat.beq x.1 y.1 then y.2 else look l x.1) = x.2
   rw [hne]
   exact lookn l hn.2 x hx
theorem HE_get {rs : List ResultVar} {vs : List V} {ob : List Ob} {ol : List (Nat × List V)} (e : HE T n rs f0 = some (vs, ob, ol)) [o : ObT ob] [l : OlT ol] : ∃ (ex : AEx) (E : List En) (H : List AObj) (ob0 : List Ob) (E1 : List En) (H1 : List AObj) (ob1 : List Ob) (es : List (Nat × V)),
  (ex = .ret ∨ ex = .normal) ∧ run T n FF f0 [] = (.x ex .nil E H, ob0) ∧ (ObOk ob1 → ObOk ob0 ∧ Wk n m ⟨den E, H⟩ ⟨den E1, H1⟩) ∧ rsE T E1 rs ob1 = some (vs, es, ob) ∧ ndp es = true := by
 have key : ∀ {E : List En} {H : List AObj} {ob0 : List Ob}, HE' T rs E H ob0 = some (vs, ob, ol) → ∃ (E1 : List En) (H1 : List AObj) (ob1 : List Ob) (es : List (Nat × V)), (ObOk ob1 → ObOk ob0 ∧ Wk n m ⟨den E, H⟩ ⟨den E1, H1⟩) ∧ rsE T E1 rs ob1 = some (vs, es, ob) ∧ ndp es = true := by
  intro E H ob0 e
  obtain ⟨E1, H1, ob1, h1, h2⟩ := frR_spec (n := n) (m := m) e
  obtain ⟨E2, H2, ol2, h3, h4⟩ := frB_spec (n := n) (m := m) h1
  split at h3
  ·rename_i vs1 es ob2 h5
   simp only [cond_eq_ite] at h3
   split at h3
   ·rename_i hn
    cases h3
    obtain ⟨_, hw⟩ := h4 l.p
    exact ⟨E2, H2, ob1, es, fun ho => ⟨(h2 ho).1, (h2 ho).2.trans hw⟩, h5, hn⟩
   ·cases h3
  ·cases h3
 unfold HE at e
 split at e
 ·rename_i E H ob0 hr
  obtain ⟨E1, H1, ob1, es, q⟩ := key e
  exact ⟨_, E, H, ob0, E1, H1, ob1, es, .inl rfl, hr, q⟩
 ·rename_i E H ob0 hr
  obtain ⟨E1, H1, ob1, es, q⟩ := key e
  exact ⟨_, E, H, ob0, E1, H1, ob1, es, .inr rfl, hr, q⟩
 ·cases e
def tupV : List V → V
 | [v] => v
 | l => .tup l
def endP {ρ : Type} (P : Program) (fn : Func) (n : Nat) (F : ρ → V) (r : ρ) : AEx → St → Prop := endF P fn n 0 fun o H' => o = .ret (F r) ∧ H' = []
instance {ρ : Type} {fn : Func} {F : ρ → V} {r : ρ} : NcT n 0 (endP P fn n F r) := ⟨nc_end⟩
/-- The end of a function that only computes. -/
theorem ef [ht : TabT P T] {fn : Func} {ρ : Type} {a r : ρ} {F : ρ → V} {rs : List ResultVar} {vs : List V} {ob : List Ob} {ol : List (Nat × List V)} (hrs : fn.results.toList = rs) (e : HE T n rs f0 = some (vs, ob, ol)) [o : ObT ob] [lo : OlT ol] (h : Ok (some a) fun z => z = r) (p : RSubL vs vs') (hk : okL vs' = true) [l : LtL vs']
  (hF : tupV vs' = F a) : Gw P T n 0 (endP P fn n F r) f0 := by
 obtain ⟨ex, E0, H0, ob0, E, H, ob1, es, hex, hr, hwk, hrsE, hn⟩ := HE_get (m := 0) e
 have har : a = r := h.ret
 subst har
 have hg := run_good (P := P) (n := n) (m := 0) (Q0 := endF P fn n 0 fun o H' => o = .ret (F a) ∧ H' = []) nc_end ht.p FF f0 []
 rw [hr] at hg
 obtain ⟨q1, q2, q3, q4⟩ := rsE_spec (P := P) (T := T) ht.p hrsE p l.p hk o.p
 have hnd : ((rsW rs vs').map (·.1)).Nodup := by rw [q2]; exact ndp_nd hn
 have hres : ResL P ⟨rsW rs vs', []⟩ rs vs' := q4 _ (lookn _ hnd)
 have hw : Wk n 0 ⟨den E, H⟩ ⟨rsW rs vs', []⟩ := Wk.selS [] .nil rfl (by
  have : (fun k => ([] : List Nat).getD k 0) = fun _ => 0 := rfl
  exact q3) .nil
 obtain ⟨q5, q6⟩ := hwk q1
 refine (hg q5).2 ?_
 have hend : endF P fn n 0 (fun o H' => o = .ret (F a) ∧ H' = []) .ret ⟨den E0, H0⟩ := by
  refine endF_wk q6 ?_
  rw [← hF]
  cases hres with
  | nil => exact endFN hrs hw .nil rfl rfl rfl
  | @cons r1 v1 rs1 vs1 h1 t1 =>
   cases t1 with
   | nil => exact endF1 (by cases hh : fn.results with | mk l => rw [hh] at hrs; simp only at hrs; rw [hrs]) hw h1 rfl rfl
   | cons h2 t2 => exact endFN hrs hw (.cons h1 (.cons h2 t2)) rfl rfl rfl
 rcases hex with rfl | rfl
 ·exact hend
 ·exact hend
end
end
section
variable {args ws : List V} {H H' : List AObj} {v : V}

def argE : List Nat → List V → List En
 | i :: is, v :: vs => ⟨i, [], 0, v⟩ :: argE is vs
 | _, _ => []
def nums : List Nat := [0, 1, 2, 3, 4, 5, 6, 7, 8, 9, 10, 11, 12, 13, 14, 15, 16, 17, 18, 19]
section
variable {P : Program} {T : Cf} {n m : Nat} {Q0 : AEx → St → Prop} {f0 : Fo}
theorem Ok.z {α β : Type} {e : α} {k : α → Option β} {K : β → Prop} (h : Ok (letM e k) K) : Ok (k e) K := h
/-- What a function that only computes tells: what its mirror tells. -/
structure Cn {ρ : Type} (P : Program) (f : FuncId) (mm : Option ρ) (args : List V) (F : ρ → V) : Prop where
 p : ∀ r, mm = some r → PureC P f args (F r)
theorem fs {f : FuncId} {fn : Func} {c : Code} {ρ : Type} {mm : Option ρ} {F : ρ → V} (T : Cf) [A : LtL args] [R : ∀ r, LtV (F r)] (hf : P.funcs[f]? = some fn) (hb : fn.body = some c) (hnn : fn.ntmps = n) (hn : Nat.ble args.length n = true) (he : den (argE nums args) = argEnv 0 args)
  (t : ∀ r, Ok mm (fun z => z = r) → Gw P T n 0 (endP P fn n F r) (.c c .nil (argE nums args) [])) : Cn P f mm args F := by
 refine ⟨fun r h => ?_⟩
 refine PureC.b n hf hb hnn hn (A.p 0) ((R r).p 0) ?_
 have : AWp P n 0 c (endF P fn n 0 fun o H' => o = .ret (F r) ∧ H' = []) ⟨den (argE nums args), []⟩ := t r (Ok.of h)
 rw [he] at this
 exact this

theorem HO_get {α : Type 1} {K : Oper → List (Nat × Bool) → Kk → List En → List AObj → Nat → (Nat → V → List AObj → Fo) → List Ob → Option α} {a : α} (e : HO T n f0 K = some a) :
  ∃ r ops i o l k E H ob y c d, run T n FF f0 [] = (.o r ops i (o :: l) k E H, ob) ∧ gctx ops.toList E o.guard = .on y c ∧ o.dst = some d ∧ Nat.blt d n = true ∧ K o c k E H d (fun m v H' => .o r ops (i + 1) l k (⟨d, c, m, v⟩ :: E) H') ob = some a := by
 unfold HO at e
 split at e
 ·rename_i r ops i o l k E H ob hr
  split at e
  ·rename_i y c hg
   split at e
   ·rename_i d hd
    simp only [cond_eq_ite] at e
    split at e
    ·rename_i hlt
     exact ⟨r, ops, i, o, l, k, E, H, ob, y, c, d, hr, hg, hd, hlt, e⟩
    ·cases e
   ·cases e
  ·cases e
 ·cases e
/-- An operation, told. -/
theorem HO_op [TabT P T] [NcT n m Q0] {r : Nat} {o : Oper} {l : List Oper} {k : Kk} {E : List En} {ob : List Ob} {y : Bool} {c : List (Nat × Bool)} (hr : run T n FF f0 [] = (.o r ops i (o :: l) k E H, ob)) [ObT ob]
  (hg : gctx ops.toList E o.guard = .on y c) (hd : o.dst = some d) (hlt : Nat.blt d n = true) (hq : (c = [] ∧ OpS P o (ev (den E)) H v H') ∨ (H' = H ∧ (cnd E c = true → ∀ X, OpS P o (ev (den E)) (H ++ X) v (H ++ X))))
  (t : Gw P T n m Q0 (.o r ops (i + 1) l k (⟨d, c, m1, v⟩ :: E) H')) : Gw P T n m Q0 f0 := by
 refine Gw.run hr ?_
 obtain ⟨dst, op, ty, pos, aft, gd⟩ := o
 simp only at hd hg
 subst hd
 rcases hq with ⟨rfl, h⟩ | ⟨rfl, h⟩
 ·exact Go.op (dst := some d) (m1 := m1) hg (by simpa [okDst, Nat.blt_eq] using hlt) h t
 ·exact Go.opG (m1 := m1) hg hlt h t

/-- A call. -/
structure HCl : Type 1 where
 g : FuncId
 vs : List V
 p : Prop
 nx : V → Fo
 ob : List Ob
def cP (E : List En) : List (Nat × Bool) → Prop
 | [] => True
 | [p] => bv E p.1 = p.2
 | p :: c => cP E c ∧ bv E p.1 = p.2
theorem cP_cnd {E : List En} : ∀ {c : List (Nat × Bool)}, cnd E c = true → cP E c
 | [], _ => trivial
 | [p], h => by simp only [cnd, Bool.and_eq_true, beq_iff_eq] at h; exact h.1
 | p :: q :: c, h => by
  simp only [cnd, Bool.and_eq_true, beq_iff_eq] at h
  refine ⟨cP_cnd (c := q :: c) ?_, h.1⟩
  simp only [cnd, Bool.and_eq_true, beq_iff_eq]
  exact h.2
def HC (T : Cf) (n : Nat) (f : Fo) : Option HCl := HO T n f fun o c k E H d nx ob => match o.op with
 | .call ⟨.value x, args, _⟩ => match evm E c x with
  | some (_, .fn g a b) => match evL E c args.toList with
   | some vs => match a, b with
    | [], [] => some ⟨g, vs, cP E c, fun v => nx 0 v H, ob⟩
    | a, b => some ⟨g, a ++ (vs ++ b), cP E c, fun v => nx 0 v H, ob⟩
   | none => none
  | _ => none
 | _ => none
theorem HC_go [TabT P T] [NcT n m Q0] {g : FuncId} {vs : List V} {p : Prop} {nx : V → Fo} {ob : List Ob} (e : HC T n f0 = some ⟨g, vs, p, nx, ob⟩) [N : EnT P g] [ObT ob] (s : SubL vs ws) (h : p → PureC P g ws v) (t : Gw P T n m Q0 (nx v)) : Gw P T n m Q0 f0 := by
 obtain ⟨r, ops, i, o, l, k, E, H, ob', y, c, d, hr, hg, hd, hlt, e⟩ := HO_get e
 obtain ⟨dst, op, ty, pos, aft, gd⟩ := o
 split at e
 ·rename_i x args ats hop
  simp only at hop
  subst hop
  split at e
  ·rename_i q g' a b hx
   split at e
   ·rename_i us hus
    have key : g' = g ∧ a ++ us ++ b = vs ∧ cP E c = p ∧ (fun v => Fo.o r ops (i + 1) l k (⟨d, c, 0, v⟩ :: E) H) = nx ∧ ob' = ob := by
     split at e
     ·cases e; simp
     ·cases e; simp
    obtain ⟨rfl, rfl, rfl, rfl, rfl⟩ := key
    refine HO_op (H' := H) (m1 := 0) (v := v) hr hg hd hlt (.inr ⟨rfl, fun hc X => ?_⟩) t
    exact .callQ N.p (evm_spec hx hc) (by rw [evL_spec hc hus]; exact s) (h (cP_cnd hc))
   ·cases e
  ·cases e
 ·cases e
theorem ec [TabT P T] [NcT n m Q0] {g : FuncId} {vs : List V} {p : Prop} {nx : V → Fo} {ob : List Ob} {ρ γ : Type} {mm : Option ρ} {k1 : ρ → Option γ} {KK : γ → Prop} {F : ρ → V} (e : HC T n f0 = some ⟨g, vs, p, nx, ob⟩) [N : EnT P g] [ObT ob]
  (h : Ok (Option.bind mm k1) KK) (C : Cn P g mm ws F) (s : SubL vs ws) (t : ∀ r, Ok (k1 r) KK → Gw P T n m Q0 (nx (F r))) : Gw P T n m Q0 f0 := by
 obtain ⟨r, h1, h2⟩ := h.bnd
 exact HC_go e s (fun _ => C.p _ h1) (t r h2)
theorem ecG [TabT P T] [NcT n m Q0] {g : FuncId} {vs : List V} {p : Prop} {nx : V → Fo} {ob : List Ob} {ρ γ : Type} [Inhabited ρ] {mm : Option ρ} {q : Prop} [Decidable q] {k1 : ρ → Option γ} {KK : γ → Prop} {F : ρ → V} (e : HC T n f0 = some ⟨g, vs, p, nx, ob⟩) [N : EnT P g] [ObT ob]
  (h : Ok (Option.bind (gd q mm) k1) KK) (hq : p = q) (C : Cn P g mm ws F) (s : SubL vs ws) (t : ∀ r, Ok (k1 r) KK → Gw P T n m Q0 (nx (F r))) : Gw P T n m Q0 f0 := by
 obtain ⟨r, h1, h2⟩ := h.bnd
 exact HC_go e s (fun hp => C.p _ (gd_get h1 (hq ▸ hp))) (t r h2)
end
theorem ss {l : List V} : SubL l l := .refl l
theorem rl {l : List V} : RSubL l l := .refl l
end
section
variable {v : V} {H H' : List AObj}

/-- A value whose object is told in figures. -/
def figF : List Nat → Nat → (Nat → Fo) → Fo
 | [], n, K => K n
 | i :: l, n, K => bif Nat.beq n i then K i else figF l n K
theorem figF_spec {n : Nat} {K : Nat → Fo} : ∀ l : List Nat, figF l n K = K n
 | [] => rfl
 | i :: l => by
  simp only [figF, cond_eq_ite]
  split
  ·rename_i h; rw [Nat.eq_of_beq_eq_true h]
  ·exact figF_spec l
def fgs : List Nat := [0, 1, 2, 3, 4, 5, 6, 7, 8, 9, 10, 11, 12, 13, 14, 15, 16, 17, 18, 19, 20, 21, 22, 23, 24, 25, 26, 27, 28, 29]
def nV1 (v : V) (K : V → Fo) : Fo := match v with
 | .sl e (.tok o) xs => figF fgs o fun o => K (.sl e (.tok o) xs)
 | .slo e o p a b c q => figF fgs o fun o => K (.slo e o p a b c q)
 | .ptr o p a => figF fgs o fun o => K (.ptr o p a)
 | .map o => figF fgs o fun o => K (.map o)
 | v => K v
theorem nV1_spec (v : V) (K : V → Fo) : nV1 v K = K v := by
 unfold nV1
 split <;> first | rw [figF_spec] | rfl
def nVL : List V → (List V → Fo) → Fo
 | [], K => K []
 | v :: l, K => nV1 v fun v => nVL l fun l => K (v :: l)
theorem nVL_spec : ∀ (l : List V) (K : List V → Fo), nVL l K = K l
 | [], K => rfl
 | v :: l, K => by simp only [nVL]; rw [nV1_spec, nVL_spec l]
def nV (v : V) (K : V → Fo) : Fo := match v with
 | .tup l => nVL l fun l => K (.tup l)
 | v => nV1 v K
theorem nV_spec (v : V) (K : V → Fo) : nV v K = K v := by
 unfold nV
 split
 ·rw [nVL_spec]
 ·rw [nV1_spec]
def nH : List AObj → (List AObj → Fo) → Fo
 | [], K => K []
 | x :: H, K => nH H fun H' => K (x :: H')
theorem nH_spec : ∀ (H : List AObj) (K : List AObj → Fo), nH H K = K H
 | [], K => rfl
 | x :: H, K => by simp only [nH]; rw [nH_spec H]
structure HOp : Type 1 where
 o : Oper
 c : List (Nat × Bool)
 E : List En
 H : List AObj
 nx : Nat → V → List AObj → Fo
 ob : List Ob
def HG (T : Cf) (n : Nat) (f : Fo) : Option HOp := HO T n f fun o c k E H d nx ob => some ⟨o, c, E, H, nx, ob⟩
/-- As HG, of an operation with no slot of its own. -/
def HS (T : Cf) (n : Nat) (f : Fo) : Option (Oper × List En × List AObj × (List AObj → Fo) × List Ob) := match run T n FF f [] with
 | (.o r ops i (o :: l) k E H, ob) => match gctx ops.toList E o.guard with
  | .on _ [] => match o.dst with
   | none => some (o, E, H, fun H' => .o r ops (i + 1) l k E H', ob)
   | some _ => none
  | _ => none
 | _ => none
section
variable {P : Program} {T : Cf} {n m : Nat} {Q0 : AEx → St → Prop} {f0 : Fo}
theorem lz {E : List En} {t u k : Nat} {g : List (Nat × Bool)} (h : rd E [] t = some ⟨u, g, k, v⟩) : ev (den E) (.tmp t) = v := (rd_spec h).2.2 rfl
theorem lg {E : List En} {c : List (Nat × Bool)} {t u k : Nat} {g : List (Nat × Bool)} (hc : cnd E c = true) (h : rd E c t = some ⟨u, g, k, v⟩) : ev (den E) (.tmp t) = v := (rd_spec h).2.2 hc
/-- An operation by its rule. The mark: 1 a pointer at a place that no numbers tell. -/
theorem eo [TabT P T] [NcT n m Q0] (m1 : Nat) {o : Oper} {E : List En} {nx : Nat → V → List AObj → Fo} {ob : List Ob} (e : HG T n f0 = some ⟨o, [], E, H, nx, ob⟩) [ObT ob] (h : OpS P o (ev (den E)) H v H') (t : Gw P T n m Q0 (nV v fun v => nH H' fun H' => nx m1 v H')) : Gw P T n m Q0 f0 := by
 rw [nV_spec, nH_spec] at t
 obtain ⟨r, ops, i, o', l, k, E', H1, ob', y, c, d, hr, hg, hd, hlt, e⟩ := HO_get e
 cases e
 exact HO_op (m1 := m1) hr hg hd hlt (.inl ⟨rfl, h⟩) t
/-- An operation under guards, by its rule. -/
theorem eg [TabT P T] [NcT n m Q0] (m1 : Nat) {o : Oper} {c : List (Nat × Bool)} {E : List En} {nx : Nat → V → List AObj → Fo} {ob : List Ob} (e : HG T n f0 = some ⟨o, c, E, H, nx, ob⟩) [ObT ob] {p : Prop} (hp : cP E c = p) (h : cnd E c = true → p → ∀ {X}, OpS P o (ev (den E)) (H ++ X) v (H ++ X)) (t : Gw P T n m Q0 (nx m1 v H)) : Gw P T n m Q0 f0 := by
 obtain ⟨r, ops, i, o', l, k, E', H1, ob', y, c, d, hr, hg, hd, hlt, e⟩ := HO_get e
 cases e
 exact HO_op (m1 := m1) hr hg hd hlt (.inr ⟨rfl, fun hc X => h hc (hp ▸ cP_cnd hc)⟩) t
theorem es [TabT P T] [NcT n m Q0] {o : Oper} {E : List En} {nx : List AObj → Fo} {ob : List Ob} (e : HS T n f0 = some (o, E, H, nx, ob)) [ObT ob] (h : OpS P o (ev (den E)) H v H') (t : Gw P T n m Q0 (nH H' nx)) : Gw P T n m Q0 f0 := by
 rw [nH_spec] at t
 unfold HS at e
 split at e
 ·rename_i r ops i o' l k E' H1 ob' hr
  split at e
  ·rename_i y hg
   split at e
   ·rename_i hd
    cases e
    refine Gw.run hr ?_
    obtain ⟨dst, op, ty, pos, aft, gd⟩ := o
    simp only at hd hg
    subst hd
    exact Go.op (dst := none) (m1 := 0) hg rfl h t
   ·cases e
  ·cases e
 ·cases e

end
end
section
variable {H H' obs obs1 : List AObj} {v' : V}

/-- A number of these. -/
class NLt (o : Nat) (ids : List Nat) : Prop where p : o < ids.length
instance {a : Nat} {l : List Nat} : NLt 0 (a :: l) := ⟨Nat.succ_pos _⟩
instance {o a : Nat} {l : List Nat} [h : NLt o l] : NLt (o + 1) (a :: l) := ⟨Nat.succ_lt_succ h.p⟩
abbrev fI (ids : List Nat) (k : Nat) : Nat := ids.getD k 0
class RnV (ids : List Nat) (v : V) (w : outParam V) : Prop where
 l : v.lt ids.length = true
 r : v.ren (fI ids) = w
class RnL (ids : List Nat) (v : List V) (w : outParam (List V)) : Prop where
 l : V.ltL ids.length v = true
 r : V.renL (fI ids) v = w
section
variable {m : List Nat} {o e a b c q : Nat} {p : List Nat} {v w : V} {vs ws us xs : List V}
instance (priority := 2000) [h : LtV v] : RnV m v v := ⟨h.p _, V.ren_closed _ (h.p 0)⟩
instance [h : NLt o m] : RnV m (.ptr o p a) (.ptr (fI m o) p a) := ⟨by simp [V.lt, h.p], by simp [V.ren]⟩
instance [h : NLt o m] : RnV m (.map o) (.map (fI m o)) := ⟨by simp [V.lt, h.p], by simp [V.ren]⟩
instance [h : NLt o m] : RnV m (.slo e o p a b c q) (.slo e (fI m o) p a b c q) := ⟨by simp [V.lt, h.p], by simp [V.ren]⟩
instance {α : Type} {g : α → V} {k : Nat} {z : Bool} {l : List α} [h : NLt o m] [t : TyC g k z] : RnV m (.sl e (.tok o) (l.map g)) (.sl e (.tok (fI m o)) (l.map g)) := ⟨by simp [V.lt, Tk.lt, h.p, t.ok.ltm], by simp [V.ren, Tk.ren, V.renL_closed _ (t.ok.ltm 0 l)]⟩
instance [h : RnL m vs ws] : RnV m (.sl e .no vs) (.sl e .no ws) := ⟨by simp only [V.lt, Tk.lt, h.l, Bool.and_self], by simp only [V.ren, Tk.ren, h.r]⟩
instance [h : RnL m vs ws] : RnV m (.sl e .exact vs) (.sl e .exact ws) := ⟨by simp only [V.lt, Tk.lt, h.l, Bool.and_self], by simp only [V.ren, Tk.ren, h.r]⟩
instance [h : RnL m vs ws] : RnV m (.st vs) (.st ws) := ⟨by simp only [V.lt]; exact h.l, by simp only [V.ren, h.r]⟩
instance [h : RnV m v w] : RnV m (.cptr v) (.cptr w) := ⟨by simp only [V.lt]; exact h.l, by simp only [V.ren, h.r]⟩
instance {g : FuncId} [h : RnL m vs ws] [k : RnL m us xs] : RnV m (.fn g vs us) (.fn g ws xs) := ⟨by simp only [V.lt, h.l, k.l, Bool.and_self], by simp only [V.ren, h.r, k.r]⟩
instance : RnL m [] [] := ⟨rfl, rfl⟩
instance [h : RnV m v w] [k : RnL m vs ws] : RnL m (v :: vs) (w :: ws) := ⟨by simp only [V.ltL, h.l, k.l, Bool.and_self], by simp only [V.renL, h.r, k.r]⟩
end
class RnO (ids : List Nat) (v : AObj) (w : outParam AObj) : Prop where
 l : v.lt ids.length = true
 r : v.ren (fI ids) = w
class RnOs (ids : List Nat) (v : List AObj) (w : outParam (List AObj)) : Prop where
 l : ∀ x ∈ v, x.lt ids.length = true
 r : v.map (AObj.ren (fI ids)) = w
section
variable {m : List Nat} {e : Nat} {v w : V} {a b : AObj} {l r : List AObj}
instance [h : RnV m v w] : RnO m (.cells v) (.cells w) := ⟨lt_cells h.l, ren_cells h.r⟩
instance {α : Type} {g : α → V} {k : Nat} {z : Bool} {l : List α} [t : TyC g k z] : RnO m (.buf e (l.map g)) (.buf e (l.map g)) := ⟨lt_buf t.ok, ren_buf t.ok _⟩
instance : RnO m (.buf e []) (.buf e []) := ⟨rfl, rfl⟩
instance : RnO m .tail .tail := ⟨rfl, rfl⟩
instance : RnO m .dead .dead := ⟨rfl, rfl⟩
instance : RnOs m [] [] := ⟨fun _ h => (nomatch h), rfl⟩
instance [h : RnO m a b] [k : RnOs m l r] : RnOs m (a :: l) (b :: r) := ⟨fun x hx => by
 rcases List.mem_cons.1 hx with rfl | hx
 ·exact h.l
 ·exact k.l x hx, by rw [List.map_cons, h.r, k.r]⟩
end
def lkH (H : List AObj) : List Nat → Option (List AObj)
 | [] => some []
 | i :: is => match H[i]? with
  | some x => match lkH H is with
   | some l => some (x :: l)
   | none => none
  | none => none
inductive ASubL : List AObj → List AObj → Prop where
 | nil : ASubL [] []
 | cons {a b : AObj} {l r : List AObj} (h : ASub a b) (t : ASubL l r) : ASubL (a :: l) (b :: r)
theorem ASubL.refl : ∀ l : List AObj, ASubL l l
 | [] => .nil
 | a :: l => .cons (.refl a) (ASubL.refl l)
theorem al {l : List AObj} : ASubL l l := .refl l
theorem SelHS.of {f : Nat → Nat} {m : Nat} {H : List AObj} : ∀ {ids : List Nat} {H' obs obs1 : List AObj}, lkH H ids = some obs → (∀ x ∈ H', x.lt m = true) → H'.map (AObj.ren f) = obs1 → ASubL obs obs1 → SelHS f m H ids H'
 | [], H', obs, obs1, h, hl, hr, hs => by
  cases h
  cases hs
  cases H' with
  | nil => exact .nil
  | cons x l => simp at hr
 | i :: is, H', obs, obs1, h, hl, hr, hs => by
  simp only [lkH] at h
  split at h
  ·rename_i x hx
   split at h
   ·rename_i l h1
    cases h
    cases hs with
    | cons ha ht =>
     cases H' with
     | nil => simp at hr
     | cons y H' =>
      simp only [List.map_cons, List.cons.injEq] at hr
      refine .cons (hl y (by simp)) hx ?_ (SelHS.of h1 (fun z hz => hl z (by simp [hz])) hr.2 ht)
      rw [hr.1]; exact ha
   ·cases h
  ·cases h
theorem SelE.of {f : Nat → Nat} {m : Nat} {E : List En} : ∀ {E' : List En} {vs ws : List V}, lkp E E' = some vs → V.ltL m (vals E') = true → V.renL f (vals E') = ws → SubL vs ws → SelE f m (den E) (den E')
 | [], vs, ws, h, hl, hr, hs => .nil
 | ⟨t, g, k, v⟩ :: r, vs, ws, h, hl, hr, hs => by
  cases g with
  | nil =>
   simp only [lkp] at h
   split at h
   ·rename_i e hrd
    split at h
    ·rename_i l h1
     cases h
     simp only [vals, V.ltL, Bool.and_eq_true] at hl
     simp only [vals, V.renL] at hr
     subst hr
     cases hs with
     | cons ha ht =>
      refine .cons hl.1 ?_ (SelE.of h1 hl.2 rfl ht)
      have hlook : Av.look (den E) t = _ := (rd_spec hrd).2.2 rfl
      rw [hlook]; exact ha
    ·cases h
   ·cases h
  | cons _ _ => simp only [lkp] at h; cases h
section
variable {n m : Nat}
/-- What stands in the slots, before and behind. -/
def lkq (E : List En) : List En → Option (List V × List V)
 | [] => some ([], [])
 | ⟨t, [], _, u⟩ :: r => match rd E [] t with
  | some ⟨_, _, _, v⟩ => match lkq E r with
   | some (l, l') => some (v :: l, u :: l')
   | none => none
  | none => none
 | _ :: _ => none
theorem lkq_lkp {E : List En} : ∀ {E' : List En} {vs us : List V}, lkq E E' = some (vs, us) → lkp E E' = some vs ∧ vals E' = us
 | [], vs, us, h => by cases h; exact ⟨rfl, rfl⟩
 | ⟨t, g, k, v⟩ :: r, vs, us, h => by
  cases g with
  | nil =>
   simp only [lkq] at h
   split at h
   ·rename_i hr
    split at h
    ·rename_i l l' h1
     cases h
     obtain ⟨q1, q2⟩ := lkq_lkp h1
     exact ⟨by simp only [lkp, hr, q1], by simp only [vals, q2]⟩
    ·cases h
   ·cases h
  | cons _ _ => simp only [lkq] at h; cases h
/-- Objects are chosen, and numbered anew. -/
theorem wkI {E E' : List En} {vs us ws : List V} (ids : List Nat) (h : lkq E E' = some (vs, us)) (hH : lkH H ids = some obs) [R : RnL ids us ws] [O : RnOs ids H' obs1] (p : SubL vs ws) (q : ASubL obs obs1)
  (hnd : ids.Nodup) (hm : ids.take m = List.range m) : WkM n m E H (E', H') := by
 obtain ⟨q1, q2⟩ := lkq_lkp h
 subst q2
 exact Wk.selS ids hnd hm (.of q1 R.l R.r p) (.of hH O.l O.r q)
/-- As wkI; a place that is no object's yet is one. -/
theorem wkV {E : List En} {s : List En × List AObj} (h : WkM n m E (H ++ [.tail]) s) : WkM n m E H s := Wk.vacant.trans h
end
/-! A guard that is settled; a part that is written at a place that no numbers tell. -/
def dropC {α : Type 1} (d : Nat) (w : Bool) : List (Nat × Bool) → (List (Nat × Bool) → Option α) → Option α
 | [], K => K []
 | p :: l, K => bif Nat.beq d p.1 then (match w, p.2 with
  | true, true => dropC d w l K
  | false, false => dropC d w l K
  | _, _ => dropC d w l fun r => K (p :: r)) else dropC d w l fun r => K (p :: r)
theorem dropC_spec {α : Type 1} {z : α} {d : Nat} {w : Bool} {E : List En} (hb : bv E d = w) : ∀ {g : List (Nat × Bool)} {K : List (Nat × Bool) → Option α}, dropC d w g K = some z → ∃ r, K r = some z ∧ cnd E r = cnd E g
 | [], _, h => ⟨_, h, rfl⟩
 | p :: l, K, h => by
  have keep : ∀ {K : List (Nat × Bool) → Option α}, (dropC d w l fun r => K (p :: r)) = some z → ∃ r, K r = some z ∧ cnd E r = cnd E (p :: l) := fun {K} h => by
   obtain ⟨r, h1, h2⟩ := dropC_spec hb h
   exact ⟨_, h1, by simp only [cnd, h2]⟩
  have gone : d = p.1 → w = p.2 → dropC d w l K = some z → ∃ r, K r = some z ∧ cnd E r = cnd E (p :: l) := fun e1 e2 h => by
   obtain ⟨r, h1, h2⟩ := dropC_spec hb h
   refine ⟨_, h1, ?_⟩
   have : (bv E p.1 == p.2) = true := by rw [← e1, hb, e2]; exact beq_self_eq_true _
   simp only [cnd, this, h2, Bool.true_and]
  simp only [dropC, cond_eq_ite] at h
  split at h
  ·rename_i hd
   have hd := Nat.eq_of_beq_eq_true hd
   split at h
   ·rename_i h2; exact gone hd h2.symm h
   ·rename_i h2; exact gone hd h2.symm h
   ·exact keep h
  ·exact keep h
def repE {α : Type 1} (d : Nat) : List En → (Bool → List En → List En → Option α) → Option α
 | [], _ => none
 | ⟨t, g, k, v⟩ :: E, K => bif Nat.beq d t then (match g, v with
  | [], .bool b => K b (⟨t, [], 2, .bool true⟩ :: E) (⟨t, [], 3, .bool false⟩ :: E)
  | _, _ => none) else repE d E fun b E1 E2 => dropC d true g fun g1 => dropC d false g fun g2 => K b (⟨t, g1, k, v⟩ :: E1) (⟨t, g2, k, v⟩ :: E2)
def HP (T : Cf) (n : Nat) (f : Fo) : Option (Bool × Fo × Fo × List Ob) := match run T n FF f [] with
 | (.o r ops i (⟨dst, op, ty, pos, aft, some (j, w)⟩ :: l) k E H, ob) => match ops.toList[j]? with
  | some ⟨some d, _, _, _, _, _⟩ => repE d E fun b E1 E2 => some (b, .o r ops i (⟨dst, op, ty, pos, aft, some (j, w)⟩ :: l) k E1 H, .o r ops i (⟨dst, op, ty, pos, aft, some (j, w)⟩ :: l) k E2 H, ob)
  | _ => none
 | _ => none
def HSt (T : Cf) (n j : Nat) (w : AObj) (f : Fo) : Option (Oper × List En × List AObj × Fo × List Ob) := match run T n FF f [] with
 | (.o r ops i (o :: l) k E H, ob) => match gctx ops.toList E o.guard with
  | .on _ [] => match o.dst with
   | none => setHo H j w fun H' => some (o, E, H, .o r ops (i + 1) l k E H', ob)
   | some _ => none
  | _ => none
 | _ => none
section
variable {P : Program} {T : Cf} {n m : Nat} {Q0 : AEx → St → Prop} {f0 : Fo}
theorem dropC_any {α : Type 1} {z : α} {d : Nat} {w : Bool} : ∀ {g : List (Nat × Bool)} {K : List (Nat × Bool) → Option α}, dropC d w g K = some z → ∃ r, K r = some z
 | [], _, h => ⟨_, h⟩
 | p :: l, K, h => by
  have keep : ∀ {K : List (Nat × Bool) → Option α}, (dropC d w l fun r => K (p :: r)) = some z → ∃ r, K r = some z := fun {K} h => by
   obtain ⟨r, h1⟩ := dropC_any h
   exact ⟨_, h1⟩
  simp only [dropC, cond_eq_ite] at h
  split at h
  ·split at h
   ·exact dropC_any h
   ·exact dropC_any h
   ·exact keep h
  ·exact keep h
theorem repE_spec {α : Type 1} {a : α} : ∀ {E : List En} {K : Bool → List En → List En → Option α}, repE d E K = some a → ∃ b E1 E2, K b E1 E2 = some a ∧ bv E d = b ∧ (b = true → (∀ z, bv E z = bv E1 z) ∧ den E = den E1) ∧ (b = false → (∀ z, bv E z = bv E2 z) ∧ den E = den E2) := by
 intro E
 induction E with
 | nil => intro K h; cases h
 | cons e E ih =>
  obtain ⟨t, g, k, v⟩ := e
  intro K h
  simp only [repE, cond_eq_ite] at h
  split at h
  ·rename_i hdt
   split at h
   ·rename_i b
    refine ⟨b, _, _, h, by simp only [bv, fnd, hdt, cond_true], fun hb => ?_, fun hb => ?_⟩
    ·subst hb; exact ⟨fun z => by
     cases hz : Nat.beq z t with
     | true => simp only [bv, fnd, hz, cond_true]
     | false => simp only [bv, fnd, hz, cond_false], rfl⟩
    ·subst hb; exact ⟨fun z => by
     cases hz : Nat.beq z t with
     | true => simp only [bv, fnd, hz, cond_true]
     | false => simp only [bv, fnd, hz, cond_false], rfl⟩
   ·cases h
  ·rename_i hdt
   rw [Bool.not_eq_true] at hdt
   obtain ⟨b, E1, E2, h1, h0, h2, h3⟩ := ih h
   have same : ∀ {E' : List En} {g' : List (Nat × Bool)}, cnd E g' = cnd E g → ((∀ z, bv E z = bv E' z) ∧ den E = den E') → (∀ z, bv (⟨t, g, k, v⟩ :: E) z = bv (⟨t, g', k, v⟩ :: E') z) ∧ den (⟨t, g, k, v⟩ :: E) = den (⟨t, g', k, v⟩ :: E') := by
    rintro E' g' hg ⟨q1, q2⟩
    refine ⟨fun z => ?_, ?_⟩
    ·cases hz : Nat.beq z t with
     | true => simp only [bv, fnd, hz, cond_true]
     | false => simp only [bv, fnd, hz, cond_false]; exact q1 z
    ·simp only [den, q2, denV_if, ← cnd_same q1, hg]
   have hb0 : bv (⟨t, g, k, v⟩ :: E) d = b := by simp only [bv, fnd, hdt, cond_false]; exact h0
   cases b with
   | true =>
    obtain ⟨g1, k1, c1⟩ := dropC_spec h0 h1
    obtain ⟨g2, k2⟩ : ∃ g2, K true (⟨t, g1, k, v⟩ :: E1) (⟨t, g2, k, v⟩ :: E2) = some a := dropC_any k1
    exact ⟨true, _, _, k2, hb0, fun _ => same c1 (h2 rfl), fun hc => by cases hc⟩
   | false =>
    obtain ⟨g1, k1⟩ := dropC_any h1
    obtain ⟨g2, k2, c2⟩ := dropC_spec h0 k1
    exact ⟨false, _, _, k2, hb0, (fun hc => by cases hc), fun _ => same c2 (h3 rfl)⟩
theorem ep [TabT P T] [NcT n m Q0] {b : Bool} {f1 f2 : Fo} {ob : List Ob} {α : Type} {X Y : Option α} {K : α → Prop} (e : HP T n f0 = some (b, f1, f2, ob)) [ObT ob] (h : Ok (if b = true then X else Y) K)
  (h1 : Ok X K → Gw P T n m Q0 f1) (h2 : Ok Y K → Gw P T n m Q0 f2) : Gw P T n m Q0 f0 := by
 unfold HP at e
 split at e
 ·rename_i r ops i dst op ty pos aft j w l k E H ob' hr
  split at e
  ·obtain ⟨b', E1, E2, q1, q0, q2, q3⟩ := repE_spec e
   cases q1
   refine Gw.run hr ?_
   cases b with
   | true =>
    have := h1 (by simpa using h)
    have hd := (q2 rfl).2
    intro hl
    have := this hl
    rw [hd]; exact this
   | false =>
    have := h2 (by simpa using h)
    have hd := (q3 rfl).2
    intro hl
    have := this hl
    rw [hd]; exact this
  ·cases e
 ·cases e
/-- A part of a variable is written. -/
theorem est [TabT P T] [NcT n m Q0] (j : Nat) {o : Oper} {E : List En} {f1 : Fo} {ob : List Ob} {u w : V} (e : HSt T n j (.cells w) f0 = some (o, E, H, f1, ob)) [ObT ob] (h : OpS P o (ev (den E)) H u (H.set j (.cells v'))) (hw : v' = w) (t : Gw P T n m Q0 f1) : Gw P T n m Q0 f0 := by
 subst hw
 unfold HSt at e
 split at e
 ·rename_i r ops i o' l k E' H1 ob' hr
  split at e
  ·rename_i y hg
   split at e
   ·rename_i hd
    have := setHo_spec e
    cases this
    refine Gw.run hr ?_
    obtain ⟨dst, op, ty, pos, aft, gd⟩ := o
    simp only at hd hg
    subst hd
    exact Go.op (dst := none) (m1 := 0) hg rfl h t
   ·cases e
  ·cases e
 ·cases e
theorem esb [TabT P T] [NcT n m Q0] (j : Nat) {o : Oper} {E : List En} {f1 : Fo} {ob : List Ob} {u : V} {b : Nat} {v' w : List V} (e : HSt T n j (.buf b w) f0 = some (o, E, H, f1, ob)) [ObT ob] (h : OpS P o (ev (den E)) H u (H.set j (.buf b v'))) (hw : v' = w) (t : Gw P T n m Q0 f1) : Gw P T n m Q0 f0 := by
 subst hw
 unfold HSt at e
 split at e
 ·rename_i r ops i o' l k E' H1 ob' hr
  split at e
  ·rename_i y hg
   split at e
   ·rename_i hd
    have := setHo_spec e
    cases this
    refine Gw.run hr ?_
    obtain ⟨dst, op, ty, pos, aft, gd⟩ := o
    simp only at hd hg
    subst hd
    exact Go.op (dst := none) (m1 := 0) hg rfl h t
   ·cases e
  ·cases e
 ·cases e
end
end
def chkT (P : Program) (t : Nat) (i : TI) : Bool :=
 decide (szOf P t = some i.sz) && (decide (aggOf P t = some i.agg) && ((match i.lay with | [] => true | l => decide (layOf P t = some l)) && ((match i.sli with | none => true | some x => decide (sliOf P t = some x)) &&
  ((match i.kd, P.underlying t with | none, some _ => true | some k, some (.int k') => decide (k = k') | _, _ => false) && ((match i.un, P.underlying t with | 2, some .string => true | 1, some .bool => true | 3, some (.pointer _) => true | 0, _ => true | _, _ => false))))))
structure ZT (P : Program) (t : Nat) (i : TI) : Prop where
 zero : ∀ z, i.zero = some z → ∃ z0, ZeroV P t z0 ∧ RSub z0 z
 zs : ∀ zs, i.zero = some (.st zs) → ∃ zs0, ZeroV P t (.st zs0) ∧ RSubL zs0 zs ∧ okLay i.lay zs0 = true ∧ i.lay.isEmpty = false
 sli : ∀ x, i.sli = some x → ∃ z, ZeroV P x.1 z ∧ flen z = x.2.1
theorem TIOk.of {t : Nat} {i : TI} (h : chkT P t i = true) (z : ZT P t i) : TIOk P t i := by
 simp only [chkT, Bool.and_eq_true, decide_eq_true_eq] at h
 obtain ⟨h1, h2, h3, h4, h5, h6⟩ := h
 have hl : ∀ (k : Nat) x, i.lay[k]? = some x → layOf P t = some i.lay := by
  intro k x hx
  split at h3
  ·rename_i hh; rw [hh] at hx; simp at hx
  ·simpa using h3
 refine ⟨h1, h2, hl, fun x hx => ⟨?_, z.sli x hx⟩, z.zero, fun zs hz => ?_, fun k hk => ?_, ?_, fun hu => ?_, fun hu => ?_, fun hu => ?_⟩
 ·rw [hx] at h4; simpa using h4
 ·obtain ⟨zs0, q1, q2, q3, q4⟩ := z.zs zs hz
  refine ⟨zs0, q1, q2, q3, ?_⟩
  cases hlay : i.lay with
  | nil => rw [hlay] at q4; cases q4
  | cons a l => rw [← hlay]; exact hl 0 a (by rw [hlay]; rfl)
 ·rw [hk] at h5; split at h5 <;> simp_all
 ·split at h5 <;> simp_all
 ·rw [hu] at h6; split at h6 <;> simp_all
 ·rw [hu] at h6; split at h6 <;> simp_all
 ·rw [hu] at h6; split at h6 <;> simp_all [ptrT]
theorem TabOk.n : TabOk P [] := fun p h => by cases h
theorem TabOk.c {t : Nat} {i : TI} {T : List (Nat × TI)} (h : TIOk P t i) (k : TabOk P T) : TabOk P ((t, i) :: T) := fun p hp => by
 rcases List.mem_cons.1 hp with rfl | hp
 ·exact h
 ·exact k p hp
section
variable {H : List AObj} {v : V} {ws : List V}

class MixT (P : Program) : Prop where p : P.follows .mixedOrders = true
def frL {α : Type 1} (H : List AObj) : List Nat → (List (Nat × AObj) → Option α) → Option α
 | [], K => K []
 | o :: os, K => match H[o]? with
  | some x => frL H os fun l => K ((o, x) :: l)
  | none => none
def HD (T : Cf) (n : Nat) (os : List Nat) (f : Fo) : Option (Fo × List Ob) := match run T n FF f [] with
 | (.c (.region r ops true) k E H, ob) => frL H os fun fr => match ops.toList with
  | l => some (.d r ops 0 l [] fr k E H, ob)
 | _ => none
def HDe (T : Cf) (n : Nat) (f : Fo) : Option (Array Oper × List Kd × Fo × List Ob) := match run T n FF f [] with
 | (.d r ops _ [] acc _ k E H, ob) => match fzO r T.fz with
  | [] => some (ops, acc, .x .normal k E H, ob)
  | os => match fzA os E H ob fun E' H' ob' => some (Fo.x .normal k E' H', ob') with
   | some (f1, ob1) => some (ops, acc, f1, ob1)
   | none => none
 | _ => none
structure HDo : Type 1 where
 o : Oper
 c : List (Nat × Bool)
 E : List En
 fr : List (Nat × AObj)
 nx : Nat → V → Fo
 ob : List Ob
def HDO {α : Type 1} (T : Cf) (n : Nat) (f : Fo) (K : Oper → List (Nat × Bool) → List En → List (Nat × AObj) → (Nat → V → Fo) → List Ob → Option α) : Option α := match run T n FF f [] with
 | (.d r ops i (o :: l) acc fr k E H, ob) => match gctx ops.toList E o.guard with
  | .on y c => match o.dst with
   | some d => bif Nat.blt d n then K o c E fr (fun m v => .d r ops (i + 1) l (.sil :: acc) fr k (⟨d, c, m, v⟩ :: E) H) ob else none
   | none => none
  | _ => none
 | _ => none
def HDC (T : Cf) (n : Nat) (f : Fo) : Option HCl := HDO T n f fun o c E _ nx ob => match o.op with
 | .call ⟨.value x, args, _⟩ => match evm E c x with
  | some (_, .fn g a b) => match evL E c args.toList with
   | some vs => match a, b with
    | [], [] => some ⟨g, vs, cP E c, fun v => nx 0 v, ob⟩
    | a, b => some ⟨g, a ++ (vs ++ b), cP E c, fun v => nx 0 v, ob⟩
   | none => none
  | _ => none
 | _ => none
section
variable {P : Program} {T : Cf} {n m : Nat} {Q0 : AEx → St → Prop} {f0 : Fo}
theorem frL_get {α : Type 1} {a : α} {H : List AObj} : ∀ {os : List Nat} {K : List (Nat × AObj) → Option α}, frL H os K = some a → ∃ fr, K fr = some a ∧ ∀ p ∈ fr, H[p.1]? = some p.2
 | [], K, h => ⟨[], h, fun p hp => nomatch hp⟩
 | o :: os, K, h => by
  simp only [frL] at h
  split at h
  ·rename_i x hx
   obtain ⟨fr, h1, h2⟩ := frL_get h
   refine ⟨_, h1, fun p hp => ?_⟩
   rcases List.mem_cons.1 hp with rfl | hp
   ·exact hx
   ·exact h2 p hp
  ·cases h
/-- A region that draws its order begins. -/
theorem ed [TabT P T] [NcT n m Q0] [M : MixT P] {f1 : Fo} {ob : List Ob} (os : List Nat) (e : HD T n os f0 = some (f1, ob)) [ObT ob] (t : Gw P T n m Q0 f1) : Gw P T n m Q0 f0 := by
 unfold HD at e
 split at e
 ·rename_i r ops k E H ob' hr
  obtain ⟨fr, h1, h2⟩ := frL_get e
  cases h1
  refine Gw.run hr ?_
  refine W.regF (fun H => ∀ p ∈ fr, H[p.1]? = some p.2) h2 (List.range ops.size) M.p ?_
  have := t h2 (by simp)
  rwa [Array.length_toList, ← List.range_eq_range'] at this
 ·cases e
/-- It ends. -/
theorem ee [TabT P T] [N : NcT n m Q0] {acc : List Kd} {f1 : Fo} {ob : List Ob} (e : HDe T n f0 = some (ops, acc, f1, ob)) [O : ObT ob] (h : dOK ops (List.range ops.size) acc.reverse = true) (t : Gw P T n m Q0 f1) : Gw P T n m Q0 f0 := by
 unfold HDe at e
 split at e
 ·rename_i r ops' i acc' fr k E H ob' hr
  split at e
  ·cases e
   refine Gw.run hr ?_
   intro hfr hl
   exact S.nilD h t
  ·split at e
   ·rename_i f1' ob1 hz
    cases e
    obtain ⟨E', H', ob2, h1, h2⟩ := fzA_spec (n := n) (m := m) hz
    cases h1
    haveI : ObT ob' := ⟨(h2 O.p).1⟩
    refine Gw.run hr ?_
    intro hfr hl
    exact S.nilD h (Kk.nc N.p k _ _ (h2 O.p).2 t)
   ·cases e
 ·cases e
theorem HDO_get {α : Type 1} {K : Oper → List (Nat × Bool) → List En → List (Nat × AObj) → (Nat → V → Fo) → List Ob → Option α} {a : α} (e : HDO T n f0 K = some a) :
  ∃ r ops i o l acc fr k E H ob y c d, run T n FF f0 [] = (.d r ops i (o :: l) acc fr k E H, ob) ∧ gctx ops.toList E o.guard = .on y c ∧ o.dst = some d ∧ Nat.blt d n = true ∧ K o c E fr (fun m v => .d r ops (i + 1) l (.sil :: acc) fr k (⟨d, c, m, v⟩ :: E) H) ob = some a := by
 unfold HDO at e
 split at e
 ·rename_i r ops i o l acc fr k E H ob hr
  split at e
  ·rename_i y c hg
   split at e
   ·rename_i d hd
    simp only [cond_eq_ite] at e
    split at e
    ·rename_i hlt
     exact ⟨r, ops, i, o, l, acc, fr, k, E, H, ob, y, c, d, hr, hg, hd, hlt, e⟩
    ·cases e
   ·cases e
  ·cases e
 ·cases e
theorem HDO_op [TabT P T] [NcT n m Q0] {r : Nat} {o : Oper} {l : List Oper} {acc : List Kd} {fr : List (Nat × AObj)} {k : Kk} {E : List En} {ob : List Ob} {y : Bool} {c : List (Nat × Bool)} (hr : run T n FF f0 [] = (.d r ops i (o :: l) acc fr k E H, ob)) [ObT ob]
  (hg : gctx ops.toList E o.guard = .on y c) (hd : o.dst = some d) (hlt : Nat.blt d n = true) (hq : cnd E c = true → ∀ H, (∀ p ∈ fr, H[p.1]? = some p.2) → OpS P o (ev (den E)) H v H)
  (t : Gw P T n m Q0 (.d r ops (i + 1) l (.sil :: acc) fr k (⟨d, c, m1, v⟩ :: E) H)) : Gw P T n m Q0 f0 := by
 refine Gw.run hr ?_
 obtain ⟨dst, op, ty, pos, aft, gd⟩ := o
 simp only at hd hg
 subst hd
 have hd' : okDst n (some d) = true := by simpa [okDst, Nat.blt_eq] using hlt
 rcases gctx_on hg with ⟨hgn, hc⟩ | ⟨j, w, d', o, rfl, hoj, hod, hyy, hn⟩
 ·subst hc hgn
  exact Go.opD (v := v) id (fun hfr => .sil ⟨den E, H⟩ v rfl hd' fun H' hF => hq rfl H' hF) t
 ·refine Go.opD (v := if cnd E c = true then v else .tup []) id (fun hfr => ?_) t
  have hden : den (⟨d, c, m1, v⟩ :: E) = putD (some d) (if cnd E c = true then v else .tup []) (den E) := by
   simp only [den, putD, denV_if]
  rw [hden]
  exact .gsil ⟨den E, H⟩ v j d' w (cnd E c = true) rfl (guard_of hoj hod) hyy hn hd' fun hcc H' hF => hq hcc H' hF
theorem HDC_go [TabT P T] [NcT n m Q0] {g : FuncId} {vs : List V} {p : Prop} {nx : V → Fo} {ob : List Ob} (e : HDC T n f0 = some ⟨g, vs, p, nx, ob⟩) [N : EnT P g] [ObT ob] (s : SubL vs ws) (h : p → PureC P g ws v) (t : Gw P T n m Q0 (nx v)) : Gw P T n m Q0 f0 := by
 obtain ⟨r, ops, i, o, l, acc, fr, k, E, H, ob', y, c, d, hr, hg, hd, hlt, e⟩ := HDO_get e
 obtain ⟨dst, op, ty, pos, aft, gd⟩ := o
 split at e
 ·rename_i x args ats hop
  simp only at hop
  subst hop
  split at e
  ·rename_i q g' a b hx
   split at e
   ·rename_i us hus
    have key : g' = g ∧ a ++ us ++ b = vs ∧ cP E c = p ∧ (fun v => Fo.d r ops (i + 1) l (.sil :: acc) fr k (⟨d, c, 0, v⟩ :: E) H) = nx ∧ ob' = ob := by
     split at e
     ·cases e; simp
     ·cases e; simp
    obtain ⟨rfl, rfl, rfl, rfl, rfl⟩ := key
    refine HDO_op (m1 := 0) (v := v) hr hg hd hlt (fun hc H _ => ?_) t
    exact .callQ N.p (evm_spec hx hc) (by rw [evL_spec hc hus]; exact s) (h (cP_cnd hc))
   ·cases e
  ·cases e
 ·cases e
theorem edc [TabT P T] [NcT n m Q0] {g : FuncId} {vs : List V} {p : Prop} {nx : V → Fo} {ob : List Ob} {ρ γ : Type} {mm : Option ρ} {k1 : ρ → Option γ} {KK : γ → Prop} {F : ρ → V} (e : HDC T n f0 = some ⟨g, vs, p, nx, ob⟩) [N : EnT P g] [ObT ob]
  (h : Ok (Option.bind mm k1) KK) (C : Cn P g mm ws F) (s : SubL vs ws) (t : ∀ r, Ok (k1 r) KK → Gw P T n m Q0 (nx (F r))) : Gw P T n m Q0 f0 := by
 obtain ⟨r, h1, h2⟩ := h.bnd
 exact HDC_go e s (fun _ => C.p _ h1) (t r h2)
theorem edcG [TabT P T] [NcT n m Q0] {g : FuncId} {vs : List V} {p : Prop} {nx : V → Fo} {ob : List Ob} {ρ γ : Type} [Inhabited ρ] {mm : Option ρ} {q : Prop} [Decidable q] {k1 : ρ → Option γ} {KK : γ → Prop} {F : ρ → V} (e : HDC T n f0 = some ⟨g, vs, p, nx, ob⟩) [N : EnT P g] [ObT ob]
  (h : Ok (Option.bind (gd q mm) k1) KK) (hq : p = q) (C : Cn P g mm ws F) (s : SubL vs ws) (t : ∀ r, Ok (k1 r) KK → Gw P T n m Q0 (nx (F r))) : Gw P T n m Q0 f0 := by
 obtain ⟨r, h1, h2⟩ := h.bnd
 exact HDC_go e s (fun hp => C.p _ (gd_get h1 (hq ▸ hp))) (t r h2)
def HDG (T : Cf) (n : Nat) (f : Fo) : Option HDo := HDO T n f fun o c E fr nx ob => some ⟨o, c, E, fr, nx, ob⟩
/-- An operation that hangs on no memory, by its rule. -/
theorem edo [TabT P T] [NcT n m Q0] (m1 : Nat) {o : Oper} {E : List En} {fr : List (Nat × AObj)} {nx : Nat → V → Fo} {ob : List Ob} (e : HDG T n f0 = some ⟨o, [], E, fr, nx, ob⟩) [ObT ob] (h : ∀ {H}, OpS P o (ev (den E)) H v H) (t : Gw P T n m Q0 (nV v fun v => nx m1 v)) : Gw P T n m Q0 f0 := by
 rw [nV_spec] at t
 obtain ⟨r, ops, i, o', l, acc, fr', k, E', H, ob', y, c, d, hr, hg, hd, hlt, e⟩ := HDO_get e
 cases e
 exact HDO_op (m1 := m1) hr hg hd hlt (fun _ H _ => h) t
theorem edg [TabT P T] [NcT n m Q0] (m1 : Nat) {o : Oper} {c : List (Nat × Bool)} {E : List En} {fr : List (Nat × AObj)} {nx : Nat → V → Fo} {ob : List Ob} (e : HDG T n f0 = some ⟨o, c, E, fr, nx, ob⟩) [ObT ob] {p : Prop} (hp : cP E c = p) (h : cnd E c = true → p → ∀ {H}, OpS P o (ev (den E)) H v H) (t : Gw P T n m Q0 (nx m1 v)) : Gw P T n m Q0 f0 := by
 obtain ⟨r, ops, i, o', l, acc, fr', k, E', H, ob', y, c', d, hr, hg, hd, hlt, e⟩ := HDO_get e
 cases e
 exact HDO_op (m1 := m1) hr hg hd hlt (fun hc H _ => h hc (hp ▸ cP_cnd hc)) t
end
section
variable {n m : Nat}
end
end
section
variable {args args' vs' : List V} {H H' Hc obs obs1 : List AObj}

/-- What a function over objects tells, and makes of them: what its mirror tells. -/
structure Co {ρ : Type} (P : Program) (f : FuncId) (mm : Option ρ) (args : List V) (H : List AObj) (F : ρ → V) (G : ρ → List AObj) : Prop where
 p : ∀ r, mm = some r → CallSpec P f args H fun o H' => o = .ret (F r) ∧ H' = G r
def endO {ρ : Type} (P : Program) (fn : Func) (n m : Nat) (F : ρ → V) (G : ρ → List AObj) (r : ρ) : AEx → St → Prop := endF P fn n m fun o H' => o = .ret (F r) ∧ H' = G r
instance {ρ : Type} {P : Program} {n m : Nat} {fn : Func} {F : ρ → V} {G : ρ → List AObj} {r : ρ} : NcT n m (endO P fn n m F G r) := ⟨nc_end⟩

theorem isAgg_ren' (f : Nat → Nat) (v : V) : (v.ren f).isAgg = v.isAgg := by cases v <;> rfl
section
variable {P : Program} {T : Cf} {n m : Nat} {Q0 : AEx → St → Prop} {f0 : Fo}
theorem fo {f : FuncId} {fn : Func} {c : Code} {ρ : Type} {mm : Option ρ} {F : ρ → V} {G : ρ → List AObj} (T : Cf) (hf : P.funcs[f]? = some fn) (hb : fn.body = some c) (hnn : fn.ntmps = n) (hmm : H.length = m) (hn : Nat.ble args.length n = true) (he : den (argE nums args) = argEnv 0 args)
  (t : ∀ r, Ok mm (fun z => z = r) → Gw P T n m (endO P fn n m F G r) (.c c .nil (argE nums args) H)) : Co P f mm args H F G := by
 refine ⟨fun r h => ?_⟩
 refine CallSpec.of_bodyF n m hf hb hnn hmm (Nat.le_of_ble_eq_true hn) ?_
 have : AWp P n m c (endF P fn n m fun o H' => o = .ret (F r) ∧ H' = G r) ⟨den (argE nums args), H⟩ := t r (Ok.of h)
 rw [he] at this
 exact this

theorem rsE_specG {E : List En} {f : Nat → Nat} {k : Nat} (hT : TabOk P T.tab) : ∀ {rs : List ResultVar} {ob ob' : List Ob} {vs vs' ws : List V} {es : List (Nat × V)}, rsE T E rs ob = some (vs, es, ob') → V.renL f vs' = ws → RSubL vs ws → V.ltL k vs' = true → okL vs' = true → ObOk ob' →
  ObOk ob ∧ (rsW rs vs').map (·.1) = es.map (·.1) ∧ SelE f k (den E) (rsW rs vs') ∧ ∀ env, (∀ p ∈ rsW rs vs', look env p.1 = p.2) → ResL P ⟨env, H⟩ rs vs' := by
 intro rs
 induction rs with
 | nil =>
  intro ob ob' vs vs' ws es h hr hs hl hok ho
  cases h
  cases hs
  cases vs' with
  | nil => exact ⟨ho, rfl, .nil, fun env _ => .nil⟩
  | cons v l => cases hr
 | cons r rs ih =>
  intro ob ob' vs vs' ws es h hr hs hl hok ho
  cases vs' with
  | nil =>
   simp only [V.renL] at hr
   subst hr
   cases hs
   cases r with
   | tmp t =>
    simp only [rsE] at h
    split at h
    ·split at h
     ·split at h <;> cases h
     ·cases h
    ·cases h
   | cell a ty =>
    simp only [rsE] at h
    split at h
    ·split at h
     ·simp only [cond_eq_ite] at h
      split at h
      ·split at h <;> cases h
      ·cases h
     ·cases h
    ·cases h
  | cons v' vs2 =>
   simp only [V.renL] at hr
   subst hr
   simp only [V.ltL, Bool.and_eq_true] at hl
   simp only [okL, Bool.and_eq_true] at hok
   cases hs with
   | @cons v _ vs1 _ hv ht =>
    cases r with
    | tmp t =>
     simp only [rsE] at h
     split at h
     ·rename_i g0 t0 k0 v0 hrd
      split at h
      ·rename_i hk
       split at h
       ·rename_i vs3 es1 ob1 h1
        cases h
        obtain ⟨q1, q2, q3, q4⟩ := ih h1 rfl ht hl.2 hok.2 ho
        have hlook : look (den E) t = _ := (rd_spec hrd).2.2 rfl
        refine ⟨q1, by simp only [rsW, List.map_cons, q2], SelE.spec hlook hk hv rfl hl.1 q3, fun env he => ?_⟩
        exact .cons (.tmp (he _ (List.mem_cons_self ..)) hok.1) (q4 env fun p hp => he p (List.mem_cons_of_mem _ hp))
       ·cases h
      ·cases h
     ·cases h
    | cell a ty =>
     simp only [rsE] at h
     split at h
     ·rename_i ti hti
      have ht0 := tiL_ok hT hti
      split at h
      ·rename_i g0 t0 k0 v0 hrd
       simp only [cond_eq_ite] at h
       split at h
       ·rename_i hag
        split at h
        ·rename_i vs3 es1 ob1 h1
         cases h
         obtain ⟨q1, q2, q3, q4⟩ := ih h1 rfl ht hl.2 hok.2 (fun x hx => ho x (by simp [hx]))
         have hlook : look (den E) a = _ := (rd_spec hrd).2.2 rfl
         refine ⟨q1, by simp only [rsW, List.map_cons, q2], SelE.spec (v1 := .cptr (v'.ren f)) hlook rfl (RSub.cptr' hv) (by simp only [V.ren]) (lt_cptr hl.1) q3, fun env he => ?_⟩
         refine .cons (.cellC ht0.sz ht0.ag (he _ (List.mem_cons_self ..)) ?_ ?_) (q4 env fun p hp => he p (List.mem_cons_of_mem _ hp))
         ·have := hv.fl
          rw [flen_ren] at this
          rw [← this]; exact flen1 (ho (_, ti.sz) (by simp))
         ·have := hv.agg
          rw [isAgg_ren'] at this
          rw [← this]; exact aggIs_eq hag
        ·cases h
       ·cases h
      ·cases h
     ·cases h
def untup : List ResultVar → V → Option (List V)
 | [_], v => some [v]
 | _, .tup l => some l
 | _, _ => none
theorem untup_tup {rs : List ResultVar} {v : V} {l : List V} (hn : rs.length ≠ 1) (h : untup rs v = some l) : v = .tup l := by
 unfold untup at h
 split at h
 ·exact absurd rfl hn
 ·cases h; rfl
 ·cases h
def HEo' (T : Cf) (rs : List ResultVar) (E : List En) (H : List AObj) (ob : List Ob) : Option (List V × List AObj × List Ob) := frR rs E H ob fun E H ob => match rsE T E rs ob with
 | some (vs, es, ob) => bif ndp es then some (vs, H, ob) else none
 | none => none
def HEo (T : Cf) (n : Nat) (rs : List ResultVar) (f : Fo) : Option (List V × List AObj × List Ob) := match run T n FF f [] with
 | (.x .ret .nil E H, ob) => HEo' T rs E H ob
 | (.x .normal .nil E H, ob) => HEo' T rs E H ob
 | _ => none
/-- The end of a function over objects. -/
theorem efo [ht : TabT P T] {fn : Func} {ρ : Type} {a r : ρ} {F : ρ → V} {G : ρ → List AObj} {rs : List ResultVar} {vs ws : List V} {ob : List Ob} (ids : List Nat) (hrs : fn.results.toList = rs) (e : HEo T n rs f0 = some (vs, H, ob)) [o : ObT ob] (h : Ok (some a) fun z => z = r)
  (hF : untup rs (F a) = some vs') [R : RnL ids vs' ws] (p : RSubL vs ws) (hk : okL vs' = true) (hH : lkH H ids = some obs) [O : RnOs ids (G a) obs1] (q : ASubL obs obs1) (hnd : ids.Nodup) (hm : ids.take m = List.range m) :
  Gw P T n m (endO P fn n m F G r) f0 := by
 have har : a = r := h.ret
 subst har
 have key : ∀ {E0 : List En} {H0 : List AObj} {ob0 : List Ob}, HEo' T rs E0 H0 ob0 = some (vs, H, ob) → ObOk ob0 ∧ endF P fn n m (fun o H' => o = .ret (F a) ∧ H' = G a) .ret ⟨den E0, H0⟩ := by
  intro E0 H0 ob0 e
  obtain ⟨E1, H1, ob1, h1, h2⟩ := frR_spec (n := n) (m := m) e
  split at h1
  ·rename_i vs1 es ob2 h3
   simp only [cond_eq_ite] at h1
   split at h1
   ·rename_i hn
    cases h1
    obtain ⟨q1, q2, q3, q4⟩ := rsE_specG (P := P) (T := T) (H := G a) (f := fI ids) (k := ids.length) ht.p h3 R.r p R.l hk o.p
    obtain ⟨q5, q6⟩ := h2 q1
    refine ⟨q5, endF_wk q6 ?_⟩
    have hnd2 : ((rsW rs vs').map (·.1)).Nodup := by rw [q2]; exact ndp_nd hn
    have hres : ResL P ⟨rsW rs vs', G a⟩ rs vs' := q4 _ (lookn _ hnd2)
    have hw : Wk n m ⟨den E1, H⟩ ⟨rsW rs vs', G a⟩ := Wk.selS ids hnd hm q3 (.of hH O.l O.r q)
    have hlen : ∀ {s : St} {rs : List ResultVar} {vs : List V}, ResL P s rs vs → vs.length = rs.length := by
     intro s rs vs h
     induction h with
     | nil => rfl
     | cons _ _ ih => simp [ih]
    have hll := hlen hres
    cases rs with
    | nil =>
     have : F a = .tup vs' := untup_tup (by simp) hF
     exact endFN hrs hw hres (by simp at hll; simp [hll]) this.symm rfl
    | cons r1 rs1 =>
     cases rs1 with
     | nil =>
      simp only [untup, Option.some.injEq] at hF
      subst hF
      cases hres with
      | cons h1 t1 => exact endF1 (by cases hh : fn.results with | mk l => rw [hh] at hrs; simp only at hrs; rw [hrs]) hw h1 rfl rfl
     | cons r2 rs2 =>
      have : F a = .tup vs' := untup_tup (by simp) hF
      exact endFN hrs hw hres (by simp at hll; simp [hll]) this.symm rfl
   ·cases h1
  ·cases h1
 unfold HEo at e
 have run_ := fun (hn : NcT n m (endO P fn n m F G a)) => run_good (P := P) (n := n) (m := m) (Q0 := endO P fn n m F G a) hn.p ht.p FF f0 []
 have rg := run_ inferInstance
 split at e
 ·rename_i E0 H0 ob0 hr
  rw [hr] at rg
  obtain ⟨k1, k2⟩ := key e
  exact (rg k1).2 k2
 ·rename_i E0 H0 ob0 hr
  rw [hr] at rg
  obtain ⟨k1, k2⟩ := key e
  exact (rg k1).2 k2
 ·cases e

/-! Calls over objects. -/
class RbV (ids : List Nat) (n : Nat) (v : V) (w : outParam V) : Prop where p : v.ren (back ids n) = w
class RbL (ids : List Nat) (n : Nat) (v : List V) (w : outParam (List V)) : Prop where p : V.renL (back ids n) v = w
section
variable {ids : List Nat} {n o e a b c q : Nat} {p : List Nat} {v w : V} {vs ws us xs : List V}
instance (priority := 2000) [h : LtV v] : RbV ids n v v := ⟨V.ren_closed _ (h.p 0)⟩
instance : RbV ids n (.ptr o p a) (.ptr (back ids n o) p a) := ⟨by simp [V.ren]⟩
instance : RbV ids n (.map o) (.map (back ids n o)) := ⟨by simp [V.ren]⟩
instance : RbV ids n (.slo e o p a b c q) (.slo e (back ids n o) p a b c q) := ⟨by simp [V.ren]⟩
instance [h : RbL ids n vs ws] : RbV ids n (.sl e .no vs) (.sl e .no ws) := ⟨by simp only [V.ren, Tk.ren, h.p]⟩
instance [h : RbL ids n vs ws] : RbV ids n (.st vs) (.st ws) := ⟨by simp only [V.ren, h.p]⟩
instance [h : RbL ids n vs ws] : RbV ids n (.tup vs) (.tup ws) := ⟨by simp only [V.ren, h.p]⟩
instance [h : RbV ids n v w] : RbV ids n (.cptr v) (.cptr w) := ⟨by simp only [V.ren, h.p]⟩
instance : RbL ids n [] [] := ⟨rfl⟩
instance [h : RbV ids n v w] [k : RbL ids n vs ws] : RbL ids n (v :: vs) (w :: ws) := ⟨by simp only [V.renL, h.p, k.p]⟩
end
class RbO (ids : List Nat) (n : Nat) (v : AObj) (w : outParam AObj) : Prop where p : v.ren (back ids n) = w
class RbOs (ids : List Nat) (n : Nat) (v : List AObj) (w : outParam (List AObj)) : Prop where p : v.map (AObj.ren (back ids n)) = w
section
variable {ids : List Nat} {n e : Nat} {v w : V} {a b : AObj} {l r : List AObj}
instance [h : RbV ids n v w] : RbO ids n (.cells v) (.cells w) := ⟨ren_cells h.p⟩
instance {α : Type} {g : α → V} {k : Nat} {z : Bool} {l : List α} [t : TyC g k z] : RbO ids n (.buf e (l.map g)) (.buf e (l.map g)) := ⟨ren_buf t.ok _⟩
instance : RbO ids n (.buf e []) (.buf e []) := ⟨rfl⟩
instance : RbO ids n .tail .tail := ⟨rfl⟩
instance : RbO ids n .dead .dead := ⟨rfl⟩
instance : RbOs ids n [] [] := ⟨rfl⟩
instance [h : RbO ids n a b] [k : RbOs ids n l r] : RbOs ids n (a :: l) (b :: r) := ⟨by rw [List.map_cons, h.p, k.p]⟩
end
structure HCOb : Type 1 where
 g : FuncId
 vs : List V
 H : List AObj
 nx : V → List AObj → Fo
 ob : List Ob
def HCo (T : Cf) (n : Nat) (f : Fo) : Option HCOb := match run T n FF f [] with
 | (.o r ops i (⟨dst, .call ⟨.value x, args, ats⟩, ty, pos, aft, gd⟩ :: l) k E H, ob) => match gctx ops.toList E gd with
  | .on _ [] => match evm E [] x with
   | some (_, .fn g a b) => match evL E [] args.toList with
    | some vs => match dst with
     | some d => bif Nat.blt d n then (match a, b with
      | [], [] => some ⟨g, vs, H, fun v H' => .o r ops (i + 1) l k (⟨d, [], 0, v⟩ :: E) H', ob⟩
      | a, b => some ⟨g, a ++ (vs ++ b), H, fun v H' => .o r ops (i + 1) l k (⟨d, [], 0, v⟩ :: E) H', ob⟩) else none
     | none => match a, b with
      | [], [] => some ⟨g, vs, H, fun _ H' => .o r ops (i + 1) l k E H', ob⟩
      | a, b => some ⟨g, a ++ (vs ++ b), H, fun _ H' => .o r ops (i + 1) l k E H', ob⟩
    | none => none
   | _ => none
  | _ => none
 | _ => none
theorem ech [TabT P T] [NcT n m Q0] (ids : List Nat) {g : FuncId} {vs ws : List V} {nx : V → List AObj → Fo} {ob : List Ob} {ρ γ : Type} {mm : Option ρ} {k1 : ρ → Option γ} {KK : γ → Prop} {F F2 : ρ → V} {G G2 : ρ → List AObj}
  (e : HCo T n f0 = some ⟨g, vs, H, nx, ob⟩) [N : EnT P g] [ObT ob] (h : Ok (Option.bind mm k1) KK) (C : Co P g mm args' Hc F G) [R : RnL ids args' ws] (s : SubL vs ws) (hH : lkH H ids = some obs) [O : RnOs ids Hc obs1] (q : ASubL obs obs1) (hnd : ids.Nodup)
  [B : ∀ r, RbV ids H.length (F r) (F2 r)] [B2 : ∀ r, RbOs ids H.length (G r) (G2 r)] (t : ∀ r, Ok (k1 r) KK → Gw P T n m Q0 (nV (F2 r) fun v => nH (setL H ids (G2 r)) fun H' => nx v H')) : Gw P T n m Q0 f0 := by
 obtain ⟨r, h1, h2⟩ := h.bnd
 have t' := t r h2
 rw [nV_spec, nH_spec] at t'
 have hcall : ∀ {dst : Option Tmp} {ty : TypeId} {pos : String} {aft : Array Edge} {gd : Option (Nat × Bool)} {x : Operand} {args : Array Operand} {ats : Array TypeId} {E : List En} {a b : List V} {us : List V} {mk : Nat}, evm E [] x = some (mk, .fn g a b) → evL E [] args.toList = some us → a ++ us ++ b = vs →
   OpS P ⟨dst, .call ⟨.value x, args, ats⟩, ty, pos, aft, gd⟩ (ev (den E)) H (F2 r) (setL H ids (G2 r)) := by
  intro dst ty pos aft gd x args ats E a b us mk hx hus hvs
  refine .callH N.p (evm_spec hx rfl) ids (C.p r h1) hnd (.of hH O.l O.r q) R.l ?_ (B r).p (B2 r).p rfl
  have hr : V.renL (fun k => ids.getD k 0) args' = ws := R.r
  rw [evL_spec (c := []) rfl hus, hvs, hr]
  exact s
 unfold HCo at e
 split at e
 ·rename_i r0 ops i dst x args ats ty pos aft gd l k E H0 ob0 hr
  split at e
  ·rename_i y hg
   split at e
   ·rename_i mk g0 a b hx
    split at e
    ·rename_i us hus
     split at e
     ·rename_i d
      simp only [cond_eq_ite] at e
      split at e
      ·rename_i hlt
       have key : g0 = g ∧ a ++ us ++ b = vs ∧ H0 = H ∧ (fun v H' => Fo.o r0 ops (i + 1) l k (⟨d, [], 0, v⟩ :: E) H') = nx ∧ ob0 = ob := by
        split at e
        ·cases e; simp
        ·cases e; simp
       obtain ⟨rfl, hvs, rfl, rfl, rfl⟩ := key
       exact Gw.run hr (Go.op (dst := some d) (m1 := 0) hg (by simpa [okDst, Nat.blt_eq] using hlt) (hcall hx hus hvs) t')
      ·cases e
     ·have key : g0 = g ∧ a ++ us ++ b = vs ∧ H0 = H ∧ (fun _ H' => Fo.o r0 ops (i + 1) l k E H') = nx ∧ ob0 = ob := by
       split at e
       ·cases e; simp
       ·cases e; simp
      obtain ⟨rfl, hvs, rfl, rfl, rfl⟩ := key
      exact Gw.run hr (Go.op (dst := none) (m1 := 0) hg rfl (hcall hx hus hvs) t')
    ·cases e
   ·cases e
  ·cases e
 ·cases e
/-! The same in a region that draws its order. -/
theorem hcallO {ids : List Nat} {g : FuncId} {vs ws : List V} {ρ : Type} {mm : Option ρ} {F F2 : ρ → V} {G G2 : ρ → List AObj} [N : EnT P g] (C : Co P g mm args' Hc F G) [R : RnL ids args' ws] (s : SubL vs ws) (hH : lkH H ids = some obs) [O : RnOs ids Hc obs1] (q : ASubL obs obs1) (hnd : ids.Nodup)
  [B : ∀ r, RbV ids H.length (F r) (F2 r)] [B2 : ∀ r, RbOs ids H.length (G r) (G2 r)] {r : ρ} (h1 : mm = some r) {pos : String} {aft : Array Edge} {gd : Option (Nat × Bool)} {args : Array Operand} {E : List En} {a b : List V} {us : List V} {mk : Nat} (hx : evm E [] x = some (mk, .fn g a b)) (hus : evL E [] args.toList = some us) (hvs : a ++ us ++ b = vs) :
  OpS P ⟨dst, .call ⟨.value x, args, ats⟩, ty, pos, aft, gd⟩ (ev (den E)) H (F2 r) (setL H ids (G2 r)) := by
 refine .callH N.p (evm_spec hx rfl) ids (C.p r h1) hnd (.of hH O.l O.r q) R.l ?_ (B r).p (B2 r).p rfl
 have hr : V.renL (fun k => ids.getD k 0) args' = ws := R.r
 rw [evL_spec (c := []) rfl hus, hvs, hr]
 exact s
/-- An effect, told. -/
def HGd (T : Cf) (n : Nat) (kd : Kd) (f : Fo) : Option HOp := match run T n FF f [] with
 | (.d r ops i (⟨some d, op, ty, pos, aft, none⟩ :: l) acc [] k E H, ob) => bif Nat.blt d n then some ⟨⟨some d, op, ty, pos, aft, none⟩, [], E, H, fun m v H' => .d r ops (i + 1) l (kd :: acc) [] k (⟨d, [], m, v⟩ :: E) H', ob⟩ else none
 | _ => none
theorem ede [TabT P T] [NcT n m Q0] (m1 : Nat) {o : Oper} {E : List En} {nx : Nat → V → List AObj → Fo} {ob : List Ob} {v : V} (e : HGd T n .eff f0 = some ⟨o, [], E, H, nx, ob⟩) [ObT ob] (h : OpS P o (ev (den E)) H v H') (t : Gw P T n m Q0 (nV v fun v => nH H' fun H' => nx m1 v H')) : Gw P T n m Q0 f0 := by
 rw [nV_spec, nH_spec] at t
 unfold HGd at e
 split at e
 ·rename_i hr
  simp only [cond_eq_ite] at e
  split at e
  ·rename_i hlt
   cases e
   exact Gw.run hr (Go.opD (v := v) (fun _ p hp => nomatch hp) (fun _ => .eff ⟨den E, H⟩ v H' rfl (by simpa [okDst, Nat.blt_eq] using hlt) h) t)
  ·cases e
 ·cases e
theorem edn [TabT P T] [NcT n m Q0] (m1 : Nat) {o : Oper} {E : List En} {nx : Nat → V → List AObj → Fo} {ob : List Ob} {v : V} (e : HGd T n .new f0 = some ⟨o, [], E, H, nx, ob⟩) [ObT ob] (h : OpS P o (ev (den E)) H v (H ++ obs)) (t : Gw P T n m Q0 (nV v fun v => nH (H ++ obs) fun H' => nx m1 v H')) : Gw P T n m Q0 f0 := by
 rw [nV_spec, nH_spec] at t
 unfold HGd at e
 split at e
 ·rename_i hr
  simp only [cond_eq_ite] at e
  split at e
  ·rename_i hlt
   cases e
   exact Gw.run hr (Go.opD (v := v) (fun _ p hp => nomatch hp) (fun _ => .new ⟨den E, H⟩ v obs rfl (by simpa [okDst, Nat.blt_eq] using hlt) h) t)
  ·cases e
 ·cases e
end
theorem ac {v w : V} (h : RSub v w) : ASub (.cells v) (.cells w) := h
end
section
variable {args' ws ys : List V} {H' H2 Hc obs obs1 : List AObj} {env' : List (Nat × V)} {v : V}
section
variable {P : Program} {n m : Nat} {Q : AEx → St → Prop} {s : St}
theorem noG_r (h : Q .ret s) : noG Q .ret s := h
end

/-! Objects that hold objects: calls that tell one of two things, calls whose answer is known, buffers that are handed back as new ones. -/
abbrev Co2 {A B : Type} (P : Program) (f : FuncId) (mm : Option (A ⊕ B)) (args : List V) (H : List AObj) (FA : A → V) (FB : B → V) (GA : A → List AObj) (GB : B → List AObj) : Prop := Co P f mm args H (fun s => @Sum.rec A B (fun _ => V) FA FB s) (fun s => @Sum.rec A B (fun _ => List AObj) GA GB s)
section
variable {P : Program} {T : Cf} {n m : Nat} {Q0 : AEx → St → Prop} {f0 : Fo} {f : FuncId} {args : List V} {H : List AObj}
theorem Co.u {ρ : Type} {mm : Option ρ} {F : ρ → V} {G : ρ → List AObj} (C : Co P f mm args H F G) {r : ρ} (h : mm = some r) : Co P f (some ()) args H (fun _ => F r) (fun _ => G r) := ⟨fun _ _ => C.p r h⟩
theorem col {A B : Type} {mm : Option (A ⊕ B)} {FA : A → V} {FB : B → V} {GA : A → List AObj} {GB : B → List AObj} (C : Co2 P f mm args H FA FB GA GB) {r : A} (h : mm = some (.inl r)) : Co P f (some r) args H FA GA := ⟨fun _ e => by cases e; exact C.p _ h⟩
theorem cor {A B : Type} {mm : Option (A ⊕ B)} {FA : A → V} {FB : B → V} {GA : A → List AObj} {GB : B → List AObj} (C : Co2 P f mm args H FA FB GA GB) {r : B} (h : mm = some (.inr r)) : Co P f (some r) args H FB GB := ⟨fun _ e => by cases e; exact C.p _ h⟩
theorem Ok.u {α : Type} {X : Option α} {K : α → Prop} (h : Ok X K) : Ok (Option.bind (some ()) fun _ => X) K := h
theorem ech2 [TabT P T] [NcT n m Q0] (ids : List Nat) {g : FuncId} {vs : List V} {H : List AObj} {nx : V → List AObj → Fo} {ob : List Ob} {A B γ : Type} {mm : Option (A ⊕ B)} {kA : A → Option γ} {kB : B → Option γ} {KK : γ → Prop} {FA FA2 : A → V} {FB FB2 : B → V} {GA GA2 : A → List AObj} {GB GB2 : B → List AObj}
  (e : HCo T n f0 = some ⟨g, vs, H, nx, ob⟩) [N : EnT P g] [ObT ob] (h : Ok (Option.bind mm (Sum.elim kA kB)) KK) (C : Co2 P g mm args' Hc FA FB GA GB) [R : RnL ids args' ws] (s : SubL vs ws) (hH : lkH H ids = some obs) [O : RnOs ids Hc obs1] (q : ASubL obs obs1) (hnd : ids.Nodup)
  [B1 : ∀ r, RbV ids H.length (FA r) (FA2 r)] [B2 : ∀ r, RbOs ids H.length (GA r) (GA2 r)] [B3 : ∀ r, RbV ids H.length (FB r) (FB2 r)] [B4 : ∀ r, RbOs ids H.length (GB r) (GB2 r)]
  (tA : ∀ r, Ok (kA r) KK → Gw P T n m Q0 (nV (FA2 r) fun v => nH (setL H ids (GA2 r)) fun H' => nx v H')) (tB : ∀ r, Ok (kB r) KK → Gw P T n m Q0 (nV (FB2 r) fun v => nH (setL H ids (GB2 r)) fun H' => nx v H')) : Gw P T n m Q0 f0 := by
 obtain ⟨r, h1, h2⟩ := h.bnd
 cases r with
 | inl a => exact ech ids e (mm := some a) (k1 := kA) (KK := KK) h2 (col C h1) s hH q hnd tA
 | inr b => exact ech ids e (mm := some b) (k1 := kB) (KK := KK) h2 (cor C h1) s hH q hnd tB
theorem ebT [TabT P T] [NcT n m Q0] {c : Bool} {a b : Code} {k : Kk} {E : List En} {H : List AObj} {ob : List Ob} (e : HB T n f0 = some (c, a, b, k, E, H, ob)) [ObT ob] (hc : c = true) (t : Gw P T n m Q0 (.c a k E H)) : Gw P T n m Q0 f0 :=
 eb (X := some ()) (Y := none) (K := fun _ => True) e ⟨(), by rw [if_pos hc], trivial⟩ (fun _ => t) (fun h => h.no.elim)
theorem ebF [TabT P T] [NcT n m Q0] {c : Bool} {a b : Code} {k : Kk} {E : List En} {H : List AObj} {ob : List Ob} (e : HB T n f0 = some (c, a, b, k, E, H, ob)) [ObT ob] (hc : c = false) (t : Gw P T n m Q0 (.c b k E H)) : Gw P T n m Q0 f0 :=
 eb (X := none) (Y := some ()) (K := fun _ => True) e ⟨(), by rw [hc]; rfl, trivial⟩ (fun h => h.no.elim) (fun _ => t)
theorem epF [TabT P T] [NcT n m Q0] {b : Bool} {f1 f2 : Fo} {ob : List Ob} (e : HP T n f0 = some (b, f1, f2, ob)) [ObT ob] (hc : b = false) (t : Gw P T n m Q0 f2) : Gw P T n m Q0 f0 :=
 ep (X := none) (Y := some ()) (K := fun _ => True) e ⟨(), by rw [hc]; rfl, trivial⟩ (fun h => h.no.elim) (fun _ => t)

/-- A buffer by another number. -/
def mvf (o n k : Nat) : Nat := bif Nat.beq k o then n else k
theorem mvf_o (o n : Nat) : mvf o n o = n := by simp [mvf]
theorem mvf_ne {n k : Nat} (h : k ≠ o) : mvf o n k = k := by
 unfold mvf
 cases e : Nat.beq k o with
 | true => exact absurd (Nat.eq_of_beq_eq_true e) h
 | false => rfl
theorem Wk.mv {env : List (Nat × V)} {H : List AObj} (o : Nat) {ob : AObj} (ho : H[o]? = some ob) (he : ∀ t, look env' t = .undef ∨ look env' t = (look env t).ren (mvf o H.length)) :
  Wk n m ⟨env, H⟩ ⟨env', (H.set o .dead).map (AObj.ren (mvf o H.length)) ++ [ob.ren (mvf o H.length)]⟩ := by
 intro B g a w b1 b2 h1 h2 h3
 have hol : o < H.length := (List.getElem?_eq_some_iff.1 ho).1
 have hlen : g.ρ.length = H.length := h2.len
 have hp : g.ρ[o]? = some g.ρ[o] := List.getElem?_eq_getElem (by omega)
 generalize g.ρ[o] = p at hp
 have le : g.le { g with ρ := g.ρ ++ [p] } := g.le_push p
 have rd : g.rend (mvf o H.length) { g with ρ := g.ρ ++ [p] } := ⟨fun _ _ _ h => h, fun k q hq => by
  show (g.ρ ++ [p])[_]? = some q
  by_cases e : k = o
  ·subst e; rw [mvf_o, ← hlen]; rw [hp] at hq; cases hq; simp
  ·rw [mvf_ne e]; exact le.pre k q hq⟩
 have key : ∀ (k : Nat) (q : Place) (ob1 : AObj), (g.ρ ++ [p])[k]? = some q → ((H.set o .dead).map (AObj.ren (mvf o H.length)) ++ [ob.ren (mvf o H.length)])[k]? = some ob1 →
   (k = H.length ∧ q = p ∧ ob1 = ob.ren (mvf o H.length)) ∨ ob1 = .dead ∨ (k ≠ o ∧ k < H.length ∧ g.ρ[k]? = some q ∧ ∃ ob0, H[k]? = some ob0 ∧ ob1 = ob0.ren (mvf o H.length)) := by
  intro k q ob1 k1 k2
  rcases Nat.lt_or_ge k H.length with hl | hl
  ·rw [List.getElem?_append_left (by omega)] at k1
   rw [List.getElem?_append_left (by simpa using hl), List.getElem?_map] at k2
   by_cases e : k = o
   ·subst e
    rw [List.getElem?_set_self hl] at k2
    cases k2; exact .inr (.inl rfl)
   ·rw [List.getElem?_set_ne (Ne.symm e), List.getElem?_eq_getElem hl] at k2
    cases k2
    exact .inr (.inr ⟨e, hl, k1, _, List.getElem?_eq_getElem hl, rfl⟩)
  ·have hk : k = H.length := by
    have := (List.getElem?_eq_some_iff.1 k1).1
    simp at this; omega
   subst hk
   rw [← hlen] at k1
   rw [List.getElem?_append_right (by simp)] at k2
   simp at k1 k2
   exact .inl ⟨rfl, k1.symm, k2.symm⟩
 refine ⟨{ g with ρ := g.ρ ++ [p] }, ⟨fun t => ?_, h1.size, h1.defers⟩, ⟨h2.agree, by simp [hlen], ?_, ?_, h2.gl⟩, ?_⟩
 ·rcases he t with e | e
  ·rw [e]; trivial
  ·rw [e]; exact (h1.env t).rend rd
 ·intro k q ob1 k1 k2
  rcases key k q ob1 k1 k2 with ⟨_, rfl, rfl⟩ | rfl | ⟨_, _, k3, ob0, k4, rfl⟩
  ·exact (h2.obj o _ ob hp ho).rend rd rfl
  ·trivial
  ·exact (h2.obj k q ob0 k3 k4).rend rd rfl
 ·intro k k' q q' ob1 ob2 k1 k1' k2 k2' l1 l2 e
  rcases key k q ob1 k1 k2 with ⟨x1, rfl, rfl⟩ | rfl | ⟨x0, x1, k3, ob0, k4, rfl⟩
  ·rcases key k' q' ob2 k1' k2' with ⟨y1, rfl, rfl⟩ | rfl | ⟨y0, y1, k3', ob0', k4', rfl⟩
   ·omega
   ·simp [Place.own] at l2
   ·rw [own_ren] at l1 l2
    exact absurd (h2.inj o k' _ _ _ _ hp k3' ho k4' l1 l2 e).symm y0
  ·simp [Place.own] at l1
  ·rcases key k' q' ob2 k1' k2' with ⟨y1, rfl, rfl⟩ | rfl | ⟨y0, y1, k3', ob0', k4', rfl⟩
   ·rw [own_ren] at l1 l2
    exact absurd (h2.inj k o _ _ _ _ k3 hp k4 ho l1 l2 e) x0
   ·simp [Place.own] at l2
   ·rw [own_ren] at l1 l2
    exact h2.inj k k' q q' _ _ k3 k3' k4 k4' l1 l2 e
 ·refine h3.trans ⟨le, rfl, rfl, rfl, Nat.le_refl _, Nat.le_refl _, fun _ _ _ => rfl, fun _ _ _ _ => rfl, ?_⟩
  rintro b ⟨k, q, ob1, k1, k2, l1, rfl⟩
  rcases key k q ob1 k1 k2 with ⟨_, rfl, rfl⟩ | rfl | ⟨_, _, k3, ob0, k4, rfl⟩
  ·rw [own_ren] at l1
   exact .inl ⟨o, _, ob, hp, ho, l1, rfl⟩
  ·simp [Place.own] at l1
  ·rw [own_ren] at l1
   exact .inl ⟨k, q, ob0, k3, k4, l1, rfl⟩
/-! Numbers turned alike. -/
theorem Tk.ren_agree {f g : Nat → Nat} {m : Nat} (h : ∀ k, k < m → f k = g k) {tk : Tk} (hl : tk.lt m = true) : tk.ren f = tk.ren g := by
 cases tk with
 | tok o => simp only [Tk.ren]; rw [h _ (Eq.mp Nat.blt_eq hl)]
 | no => rfl
 | nn => rfl
 | exact => rfl
mutual
theorem V.ren_agree {f g : Nat → Nat} {m : Nat} (h : ∀ k, k < m → f k = g k) : ∀ {v : V}, v.lt m = true → v.ren f = v.ren g
 | .ptr o _ _, k => by simp only [V.lt] at k; simp only [V.ren]; rw [h o (Eq.mp Nat.blt_eq k)]
 | .cptr v, k => by simp only [V.lt] at k; simp only [V.ren, V.ren_agree h k]
 | .sl e tk xs, k => by
  simp only [V.lt, Bool.and_eq_true] at k
  simp only [V.ren, V.renL_agree h k.2, Tk.ren_agree h k.1]
 | .slo _ o _ _ _ _ _, k => by simp only [V.lt] at k; simp only [V.ren]; rw [h o (Eq.mp Nat.blt_eq k)]
 | .fn _ _ _, k => by simp only [V.lt, Bool.and_eq_true] at k; simp only [V.ren, V.renL_agree h k.1, V.renL_agree h k.2]
 | .ifc _ _, k => by simp only [V.lt] at k; simp only [V.ren, V.ren_agree h k]
 | .st _, k => by simp only [V.lt] at k; simp only [V.ren, V.renL_agree h k]
 | .arr _ _, k => by simp only [V.lt] at k; simp only [V.ren, V.renL_agree h k]
 | .tup _, k => by simp only [V.lt] at k; simp only [V.ren, V.renL_agree h k]
 | .map o, k => by simp only [V.lt] at k; simp only [V.ren]; rw [h o (Eq.mp Nat.blt_eq k)]
 | .bool _, _ => by simp only [V.ren]
 | .int _ _, _ => by simp only [V.ren]
 | .str _, _ => by simp only [V.ren]
 | .nilp, _ => by simp only [V.ren]
 | .nils, _ => by simp only [V.ren]
 | .nilfn, _ => by simp only [V.ren]
 | .nili, _ => by simp only [V.ren]
 | .nilmap, _ => by simp only [V.ren]
 | .undef, _ => by simp only [V.ren]
theorem V.renL_agree {f g : Nat → Nat} {m : Nat} (h : ∀ k, k < m → f k = g k) : ∀ {vs : List V}, V.ltL m vs = true → V.renL f vs = V.renL g vs
 | [], _ => rfl
 | _ :: _, k => by simp only [V.ltL, Bool.and_eq_true] at k; simp only [V.renL, V.ren_agree h k.1, V.renL_agree h k.2]
end
theorem esRen_agree {f g : Nat → Nat} {m : Nat} (h : ∀ k, k < m → f k = g k) : ∀ {es : List (V × V)}, esLt m es = true → esRen f es = esRen g es
 | [], _ => rfl
 | _ :: _, k => by simp only [esLt, Bool.and_eq_true] at k; simp only [esRen, V.ren_agree h k.1.1, V.ren_agree h k.1.2, esRen_agree h k.2]
theorem AObj.ren_agree {f g : Nat → Nat} {m : Nat} (h : ∀ k, k < m → f k = g k) {x : AObj} (k : x.lt m = true) : x.ren f = x.ren g := by
 cases x with
 | cells v => exact congrArg AObj.cells (V.ren_agree h k)
 | buf e vs => exact congrArg (AObj.buf e) (V.renL_agree h k)
 | map es => exact congrArg AObj.map (esRen_agree h k)
 | tail => rfl
 | dead => rfl
class RnE (ids : List Nat) (E : List En) (E' : outParam (List En)) : Prop where
 p : ∀ e ∈ E, e.v.lt ids.length = true
 q : E.map (fun e => (⟨e.t, [], e.k, e.v.ren (fI ids)⟩ : En)) = E'
instance {ids : List Nat} : RnE ids [] [] := ⟨fun _ h => (nomatch h), rfl⟩
instance {ids : List Nat} {t k : Nat} {c : List (Nat × Bool)} {v v' : V} {E E' : List En} [a : RnV ids v v'] [b : RnE ids E E'] : RnE ids (⟨t, c, k, v⟩ :: E) (⟨t, [], k, v'⟩ :: E') := ⟨fun e he => by
 rcases List.mem_cons.1 he with rfl | he
 ·exact a.l
 ·exact b.p e he, by rw [List.map_cons, b.q]; simp only [a.r]⟩
def figO {α : Type 1} : List Nat → Nat → (Nat → Option α) → Option α
 | [], n, K => K n
 | i :: l, n, K => bif Nat.beq n i then K i else figO l n K
theorem figO_spec {α : Type 1} {n : Nat} {K : Nat → Option α} : ∀ l : List Nat, figO l n K = K n
 | [] => rfl
 | i :: l => by
  simp only [figO, cond_eq_ite]
  split
  ·rename_i h; rw [Nat.eq_of_beq_eq_true h]
  ·exact figO_spec l
def fV1 {α : Type 1} (v : V) (K : V → Option α) : Option α := match v with
 | .sl e (.tok o) xs => figO fgs o fun o => K (.sl e (.tok o) xs)
 | .slo e o p a b c q => figO fgs o fun o => K (.slo e o p a b c q)
 | .ptr o p a => figO fgs o fun o => K (.ptr o p a)
 | .map o => figO fgs o fun o => K (.map o)
 | v => K v
theorem fV1_spec {α : Type 1} (v : V) (K : V → Option α) : fV1 v K = K v := by
 unfold fV1
 split <;> first | rw [figO_spec] | rfl
def fVL {α : Type 1} : List V → (List V → Option α) → Option α
 | [], K => K []
 | v :: l, K => fV1 v fun v => fVL l fun l => K (v :: l)
theorem fVL_spec {α : Type 1} : ∀ (l : List V) (K : List V → Option α), fVL l K = K l
 | [], K => rfl
 | v :: l, K => by simp only [fVL]; rw [fV1_spec, fVL_spec l]
def fV {α : Type 1} (v : V) (K : V → Option α) : Option α := match v with
 | .st l => fVL l fun l => K (.st l)
 | v => fV1 v K
theorem fV_spec {α : Type 1} (v : V) (K : V → Option α) : fV v K = K v := by
 unfold fV
 split
 ·rw [fVL_spec]
 ·rw [fV1_spec]
def fO {α : Type 1} (x : AObj) (K : AObj → Option α) : Option α := match x with
 | .cells v => fV v fun v => K (.cells v)
 | x => K x
theorem fO_spec {α : Type 1} (x : AObj) (K : AObj → Option α) : fO x K = K x := by
 unfold fO
 split
 ·rw [fV_spec]
 ·rfl
def fH {α : Type 1} : List AObj → (List AObj → Option α) → Option α
 | [], K => K []
 | x :: H, K => fO x fun x => fH H fun H' => K (x :: H')
theorem fH_spec {α : Type 1} : ∀ (H : List AObj) (K : List AObj → Option α), fH H K = K H
 | [], K => rfl
 | x :: H, K => by simp only [fH]; rw [fO_spec, fH_spec H]
theorem dd {x : AObj} : ASub x .dead := by cases x <;> exact trivial
def mvI (n o : Nat) : List Nat := (List.range n).set o n
theorem mvI_at {n k : Nat} (h : k < n) : fI (mvI n o) k = mvf o n k := by
 unfold fI mvI
 rw [List.getD_eq_getElem?_getD]
 by_cases e : o = k
 ·subst e; rw [List.getElem?_set_self (by simpa using h), mvf_o]; rfl
 ·rw [List.getElem?_set_ne e, List.getElem?_range h, mvf_ne (Ne.symm e)]; rfl
structure Mv0 : Type 1 where
 E : List En
 H : List AObj
 w : AObj
 n : Nat
 ob : List Ob
theorem rd_t : ∀ {E : List En} {c : List (Nat × Bool)} {t : Nat} {e : En}, rd E c t = some e → e.t = t
 | [], _, _, _, h => by cases h
 | ⟨u, g, k, v⟩ :: E, c, t, e, h => by
  simp only [rd, cond_eq_ite] at h
  split at h
  ·rename_i hu
   split at h
   ·cases h; exact (Nat.eq_of_beq_eq_true hu).symm
   ·cases h
  ·exact rd_t h
def renQ (f : Nat → Nat) (E : List En) : List En := E.map fun e => ⟨e.t, [], e.k, e.v.ren f⟩
theorem kpE_ren {α : Type 1} {E : List En} {z : α} (f : Nat → Nat) : ∀ {ts : List Nat} {K : List En → Option α}, kpE E ts K = some z → ∃ r, K r = some z ∧ ∀ t, look (den (renQ f r)) t = .undef ∨ look (den (renQ f r)) t = (look (den E) t).ren f
 | [], _, h => ⟨_, h, fun t => .inl rfl⟩
 | t :: ts, K, h => by
  simp only [kpE] at h
  split at h
  ·rename_i e he
   obtain ⟨r, hr, hk⟩ := kpE_ren f h
   refine ⟨_, hr, fun u => ?_⟩
   have hl := (rd_spec he).2.2 rfl
   have ht : e.t = t := (rd_t he)
   show look ((e.t, denV _ [] (e.v.ren f)) :: den (renQ f r)) u = _ ∨ look ((e.t, denV _ [] (e.v.ren f)) :: den (renQ f r)) u = _
   rw [look_cons]
   split
   ·rename_i hu
    right
    rw [← hl, ← ht, ← hu] 
    rfl
   ·exact hk u
  ·cases h
def HM (T : Cf) (n o : Nat) (ts : List Nat) (f : Fo) : Option Mv0 := match run T n FF f [] with
 | (.x .ret .nil E H, ob) => match H[o]? with
  | some w => kpE E ts fun E1 => fH (H.set o .dead) fun H1 => some ⟨E1, H1, w, H.length, ob⟩
  | none => none
 | _ => none
theorem mvo [ht : TabT P T] {fn : Func} {ρ : Type} {r : ρ} {F : ρ → V} {G : ρ → List AObj} (o : Nat) (ts ids : List Nat) {E E' : List En} {H : List AObj} {w w' : AObj} {k : Nat} {ob : List Ob} (e : HM T n o ts f0 = some ⟨E, H, w, k, ob⟩) (hi : mvI k o = ids) [ObT ob] [RE : RnE ids E E'] [RH : RnOs ids H H'] [RW : RnO ids w w']
  (t : Gw P T n m (endO P fn n m F G r) (nH (H' ++ [w']) fun H1 => .x .ret .nil E' H1)) : Gw P T n m (endO P fn n m F G r) f0 := by
 subst hi
 unfold HM at e
 split at e
 ·rename_i E0 H0 ob0 hr
  split at e
  ·rename_i w0 hw
   obtain ⟨r1, hr1, hk⟩ := kpE_ren (mvf o H0.length) e
   rw [fH_spec] at hr1
   cases hr1
   refine Gw.run hr ?_
   have hlen : (mvI H0.length o).length = H0.length := by simp [mvI]
   have ag : ∀ k, k < H0.length → mvf o H0.length k = fI (mvI H0.length o) k := fun k h => (mvI_at h).symm
   have e1 : renQ (mvf o H0.length) E = E' := by
    rw [← RE.q]
    refine List.map_congr_left fun e he => ?_
    have := RE.p e he
    rw [hlen] at this
    rw [V.ren_agree ag this]
   have e2 : (H0.set o .dead).map (AObj.ren (mvf o H0.length)) = H' := by
    rw [← RH.r]
    refine List.map_congr_left fun x hx => ?_
    have := RH.l x hx
    rw [hlen] at this
    exact AObj.ren_agree ag this
   have e3 : w.ren (mvf o H0.length) = w' := by
    rw [← RW.r]
    have := RW.l
    rw [hlen] at this
    exact AObj.ren_agree ag this
   rw [nH_spec, ← e1, ← e2, ← e3] at t
   have t' : endF P fn n m (fun o H' => o = .ret (F r) ∧ H' = G r) .ret ⟨den _, _⟩ := t
   exact endF_wk (Wk.mv o hw hk) t'
  ·cases e
 ·cases e
end

section
variable {P : Program} {E : Operand → V} {H : List AObj} {dst : Option Tmp} {ty : TypeId} {pos : String} {aft : Array Edge} {gd : Option (Nat × Bool)}
def storeOpt (a : Option Addr) (l : List Value) : Sem Unit := match a with | some ad => storeCells ad l | none => pure ()
/-- A whole buffer is written over. -/
theorem OpS.copyW {t u : TypeId} {e : Nat} {b : Bool} {len : Nat} {vs : List V} (hl : sliOf P t = some (et, e, b, by_)) (hx : E x = .slo e o [] 0 0 len 1) (hy : E y = v) (hrd : Rd v H e ys) (h1 : len = vs.length) (h2 : ys.length = len) (ho : H[o]? = some (.buf e vs)) (hH : H.set o (.buf e ys) = H2) :
  OpS P ⟨dst, .call ⟨.builtin .copy, #[x, y], #[t, u]⟩, ty, pos, aft, gd⟩ E H (.int .i64 len) H2 := by
 subst hH
 intro g rc w h hr
 obtain ⟨hut, hsz, _⟩ := sliOf_get hl
 obtain ⟨p, hp, a, c, ex, hle, hcase⟩ := (hx ▸ h x (by simp [Op.operands, Call.operands])).slo_eq
 obtain ⟨cc, hcc, hrun⟩ := hrd g w (rc y) (hy ▸ h y (by simp [Op.operands, Call.operands])) hr
 obtain ⟨r1, r2⟩ := hrun P w rfl
 rw [h2] at r1 r2
 have hfin : ∀ w', (storeOpt a cc).run P w = .ok () w' → (execOp rc ⟨dst, .call ⟨.builtin .copy, #[x, y], #[t, u]⟩, ty, pos, aft, gd⟩).run P w = .ok (.value (.int .i64 len)) w' := by
  intro w' hst
  have hc2 : (Builtin.copy_ #[t, u] ty #[.slice a len c, rc y]).run P w = .ok (.int .i64 len) w' := by
   unfold Builtin.copy_
   cases a with
   | none =>
    simp only [storeOpt, Sem.run_pure, Result.ok.injEq, true_and] at hst
    subst hst
    simp [run_underlying hut, r1, run_sizeOf' hsz, r2, goInt]
   | some ad =>
    simp only [storeOpt] at hst
    simp [run_underlying hut, r1, run_sizeOf' hsz, r2, goInt, hst]
  simp [execOp, resolve, invoke, Go.builtin, ex, hc2]
 by_cases hz : len = 0
 ·have hv0 : vs = [] := List.eq_nil_of_length_eq_zero (by omega)
  have hy0 : ys = [] := List.eq_nil_of_length_eq_zero (by omega)
  subst hv0 hy0
  simp only [RCu] at hcc
  subst hcc
  have hst : (storeOpt a []).run P w = .ok () w := by cases a <;> rfl
  rw [hfin w hst]
  have hHH : H.set o (.buf e []) = H := by
   apply List.ext_getElem?
   intro k
   by_cases hk : k = o
   ·subst hk; rw [List.getElem?_set_self (List.getElem?_eq_some_iff.1 ho).1, ho]
   ·rw [List.getElem?_set_ne (Ne.symm hk)]
  rw [hHH]
  exact ⟨g, RV.int g .i64 _, hr, .refl g H w⟩
 ·obtain ⟨rfl, hq⟩ := hcase.resolve_left (fun hc => by omega)
  obtain ⟨hv, hsize⟩ := hq rfl
  obtain ⟨cs, cty, k1, ⟨cv, junk, k2, k3⟩, k5, k4⟩ : ∃ cs ty, w.heap[p.block]? = some (.cells cs ty (0, 0)) ∧ (∃ c junk, cs.toList = c ++ junk ∧ RCu g e vs c) ∧ cs.size = p.size ∧ ∀ i, g.I p.block i = none := by
   rcases hr.obj o p _ hp ho with ⟨hc, _⟩ | ⟨_, h⟩
   ·rw [hv] at hc; cases hc
   ·exact h
  have hcl := k3.len
  have hccl := hcc.len
  have hst := run_storeCells_at P p.block 0 cty cc 0 cs w k1 (by
   have : cs.size = cs.toList.length := by simp
   rw [this, k2, List.length_append, hcl, hccl, h2, h1]; omega) (fun y hy => hcc.one y hy)
  have hrow : cs.toList.take (0 + 0) ++ cc ++ cs.toList.drop (0 + 0 + cc.length) = cc ++ junk := by
   rw [k2, Nat.add_zero, Nat.zero_add, List.take_zero, List.nil_append, show cc.length = cv.length by rw [hcl, hccl, h2, h1], List.drop_left]
  rw [hrow] at hst
  have hst' : (storeOpt (some ⟨p.block, 0 + 0 * e, none⟩) cc).run P w = .ok () (w.setRow p.block (cc ++ junk).toArray) := by
   simpa [storeOpt] using hst
  rw [hfin _ hst']
  have hb := setRow_heap w p.block cs (cc ++ junk).toArray cty (0, 0) k1
  have hown : p.own (.buf e vs) = true := by simp [Place.own, hv]
  refine ⟨g, RV.int g .i64 _, hr.write hp ho hown k4 (fun b hb => setRow_other w p.block b _ hb) ?_, .write hp ho hown (fun b hb => setRow_other w p.block b _ hb) rfl rfl rfl (by simp) (Nat.le_refl _)⟩
  refine .inr ⟨hv, _, cty, hb, ⟨cc, junk, by simp, hcc⟩, ?_, k4⟩
  rw [← k5]
  have : cs.size = cs.toList.length := by simp
  rw [this, k2]
  simp only [List.size_toArray, List.length_append]
  rw [hcl, hccl, h2, h1]
/-- The whole of a buffer, of no more room. -/
theorem OpS.sliceOwnX {t : TypeId} {mx : Operand} {e : Nat} {b : Bool} {len l2 : Nat} {n : Int} (hl : sliOf P t = some (et, e, b, by_)) (hx : E x = .slo e o [] 0 0 len 1) (h2 : E hi = .int k n) (h3 : E mx = .int k n) (hn : n = (l2 : Int)) (hq : len = l2) :
  OpS P ⟨dst, .slice t x none (some hi) (some mx), ty, pos, aft, gd⟩ E H (.slo e o [] 0 0 l2 1) H :=
 .quiet fun g rc w hh hr => by
  subst hn hq
  obtain ⟨hut, hsz, _⟩ := sliOf_get hl
  obtain ⟨p, hp, a, c, ex, hle, hcase⟩ := (hx ▸ hh x (by simp [Op.operands])).slo_eq
  have ey := (h2 ▸ hh hi (by simp [Op.operands])).int_eq
  have ez := (h3 ▸ hh mx (by simp [Op.operands])).int_eq
  refine ⟨.slice a len len, ?_, RV.of_leaf rfl ?_⟩
  ·have hs : (Instr.sliceBounds true len c none (some (rc hi)) (some (rc mx))).run P w = .ok (0, len, len) w := by
    simp [Instr.sliceBounds, ey, ez, run_bound (show (0 : Int) ≤ (len : Int) by omega) (show (len : Int) ≤ (c : Int) by omega), run_bound (show (0 : Int) ≤ (len : Int) by omega) (show (len : Int) ≤ (len : Int) by omega), run_bound (show (0 : Int) ≤ 0 by omega) (show (0 : Int) ≤ (len : Int) by omega)]
   have hz : (if len = 0 then a else a.map (·.add (0 * e))) = a := by
    split
    ·rfl
    ·cases a with
     | none => rfl
     | some ad => simp only [Option.map_some, Nat.zero_mul]; rw [show ad.add 0 = ad by cases ad; simp [Addr.add]]
   simp [execOp, Instr.sliceAt, Instr.slice, run_underlying hut, ex, hs, run_sizeOf' hsz]
   intro hne; rw [if_neg hne, Nat.zero_mul] at hz; exact hz
  ·simp only [RC]
   refine ⟨p, hp, a, len, rfl, Nat.le_refl _, ?_⟩
   rcases hcase with ⟨q1, q2⟩ | ⟨q1, q2⟩
   ·exact .inl ⟨q1, by omega⟩
   ·exact .inr ⟨q1, fun _ => ⟨(q2 rfl).1, by
     have := (q2 rfl).2
     have hm : (0 + len) * e ≤ (0 + c) * e := Nat.mul_le_mul_right e (by omega)
     omega⟩⟩
end

/-- A buffer of which the first ones are kept: the rest is room. -/
theorem Co.shrink {P : Program} {α : Type} {f : FuncId} {args : List V} {H : List AObj} {mm : Option (Nat × List α)} {E : α → V} {e : Nat} (C : Co P f mm args H (fun r => .slo e 0 [] 0 0 r.1 1) (fun r => [.buf e (r.2.map E)])) :
    Co P f (Option.bind mm fun r => Option.bind (prek r.2 r.1) fun _ => some (r.2.take r.1)) args H (fun r => .slo e 0 [] 0 0 r.length 1) (fun r => [.buf e (r.map E)]) := by
  refine ⟨fun r h => ?_⟩
  cases hm : mm with
  | none => rw [hm] at h; cases h
  | some r0 =>
    rw [hm] at h
    simp only [Option.bind_some] at h
    cases hp : prek r0.2 r0.1 with
    | none => rw [hp] at h; cases h
    | some u =>
      rw [hp] at h
      cases h
      have hle := prek_get hp
      intro g w xs hx hr
      refine (C.p r0 hm g w xs hx hr).mono ?_
      rintro ex w' ⟨g', H', o, ⟨rfl, rfl⟩, ho, hr', hev⟩
      have hlen : (r0.2.take r0.1).length = r0.1 := by rw [List.length_take]; omega
      have hown : ∀ (p : Place), p.own (.buf e ((r0.2.take r0.1).map E)) = p.own (.buf e (r0.2.map E)) := fun _ => rfl
      refine ⟨g', [.buf e ((r0.2.take r0.1).map E)], .ret (.slo e 0 [] 0 0 (r0.2.take r0.1).length 1), ⟨rfl, rfl⟩, by rw [hlen]; exact ho, ⟨hr'.agree, hr'.len, ?_, ?_, hr'.gl⟩, ⟨hev.le, hev.os, hev.tape, hev.output, hev.size, hev.drawn, hev.keep, hev.imm, ?_⟩⟩
      · intro k p ob h1 h2
        cases k with
        | succ k => simp at h2
        | zero =>
          simp only [List.getElem?_cons_zero, Option.some.injEq] at h2
          subst h2
          have := hr'.obj 0 p (.buf e (r0.2.map E)) h1 rfl
          rcases this with ⟨q1, q2⟩ | ⟨q0, cs, ty, q1, ⟨c, j, q2, q3⟩, q4⟩
          · exact .inl ⟨q1, by have : r0.2 = [] := by simpa using q2
                               simp [this]⟩
          · refine .inr ⟨q0, cs, ty, q1, ⟨c.take (r0.1 * e), c.drop (r0.1 * e) ++ j, by rw [q2, ← List.append_assoc, List.take_append_drop], ?_⟩, q4⟩
            have := q3.take r0.1
            rwa [← List.map_take] at this
      · intro k k' p p' ob ob' h1 h2 h3 h4 l1 l2 hb
        cases k with
        | succ k => simp at h3
        | zero =>
          cases k' with
          | succ k => simp at h4
          | zero => rfl
      · rintro b ⟨k, p, ob, h1, h2, l1, hb⟩
        cases k with
        | succ k => simp at h2
        | zero =>
          simp only [List.getElem?_cons_zero, Option.some.injEq] at h2
          subst h2
          exact hev.live b ⟨0, p, .buf e (r0.2.map E), h1, rfl, l1, hb⟩
end
section
variable {H H' Hc obs obs1 : List AObj} {v : V} {args' ws : List V}
section
variable {P : Program} {T : Cf} {n m : Nat} {Q0 : AEx → St → Prop} {f0 : Fo}
theorem setL_keep : ∀ {ids : List Nat} {L H : List AObj} {k : Nat} {x : AObj}, k ∉ ids → H[k]? = some x → (setL H ids L)[k]? = some x
 | [], L, H, k, x, _, h => by
  have := (List.getElem?_eq_some_iff.1 h).1
  simp only [setL]; rw [List.getElem?_append_left this]; exact h
 | _ :: _, [], _, _, _, _, h => h
 | i :: is, ob :: obs, H, k, x, hn, h => by
  simp only [setL]
  refine setL_keep (fun hk => hn (by simp [hk])) ?_
  rw [List.getElem?_set_ne (fun e => hn (by simp [e]))]; exact h
def noF (ids : List Nat) : List (Nat × AObj) → Bool
 | [] => true
 | p :: l => bif ids.contains p.1 then false else noF ids l
theorem noF_spec {ids : List Nat} : ∀ {fr : List (Nat × AObj)}, noF ids fr = true → ∀ p ∈ fr, p.1 ∉ ids
 | [], _, _, h => nomatch h
 | q :: l, h, p, hp => by
  simp only [noF, cond_eq_ite] at h
  split at h
  ·cases h
  ·rename_i hc
   rcases List.mem_cons.1 hp with rfl | hp
   ·simpa using hc
   ·exact noF_spec h p hp
structure HCFb : Type 1 where
 g : FuncId
 vs : List V
 H : List AObj
 fr : List (Nat × AObj)
 nx : V → List AObj → Fo
 ob : List Ob
def HCF (T : Cf) (n : Nat) (kd : Kd) (f : Fo) : Option HCFb := match run T n FF f [] with
 | (.d r ops i (⟨dst, .call ⟨.value x, args, ats⟩, ty, pos, aft, gd⟩ :: l) acc fr k E H, ob) => match gctx ops.toList E gd with
  | .on _ [] => match evm E [] x with
   | some (_, .fn g a b) => match evL E [] args.toList with
    | some vs => match dst with
     | some d => bif Nat.blt d n then (match a, b with
      | [], [] => some ⟨g, vs, H, fr, fun v H' => .d r ops (i + 1) l (kd :: acc) fr k (⟨d, [], 0, v⟩ :: E) H', ob⟩
      | a, b => some ⟨g, a ++ (vs ++ b), H, fr, fun v H' => .d r ops (i + 1) l (kd :: acc) fr k (⟨d, [], 0, v⟩ :: E) H', ob⟩) else none
     | none => match a, b with
      | [], [] => some ⟨g, vs, H, fr, fun _ H' => .d r ops (i + 1) l (kd :: acc) fr k E H', ob⟩
      | a, b => some ⟨g, a ++ (vs ++ b), H, fr, fun _ H' => .d r ops (i + 1) l (kd :: acc) fr k E H', ob⟩
    | none => none
   | _ => none
  | _ => none
 | _ => none
theorem stp_eff {o : Oper} {F : List AObj → Prop} {E : List En} {y : Bool} (hg : gctx ops.toList E o.guard = .on y []) (hd : okDst n o.dst = true) (h : OpS P o (ev (den E)) H v H') : Stp P ops n o F ⟨den E, H⟩ .eff v ⟨putD o.dst v (den E), H'⟩ := by
 rcases gctx_on hg with ⟨hgn, _⟩ | ⟨j, w, d', o', hgj, hoj, hod, hyy, _⟩
 ·exact .eff ⟨den E, H⟩ v H' hgn hd h
 ·exact .gyes ⟨den E, H⟩ v H' j d' w hgj (guard_of hoj hod) (hyy rfl) hd h
theorem echeF [TabT P T] [NcT n m Q0] (ids : List Nat) {g : FuncId} {vs : List V} {fr : List (Nat × AObj)} {nx : V → List AObj → Fo} {ob : List Ob} {ρ γ : Type} {mm : Option ρ} {k1 : ρ → Option γ} {KK : γ → Prop} {F F2 : ρ → V} {G G2 : ρ → List AObj}
  (e : HCF T n .eff f0 = some ⟨g, vs, H, fr, nx, ob⟩) [N : EnT P g] [ObT ob] (h : Ok (Option.bind mm k1) KK) (C : Co P g mm args' Hc F G) [R : RnL ids args' ws] (s : SubL vs ws) (hH : lkH H ids = some obs) [O : RnOs ids Hc obs1] (q : ASubL obs obs1) (hnd : ids.Nodup) (hf : noF ids fr = true)
  [B : ∀ r, RbV ids H.length (F r) (F2 r)] [B2 : ∀ r, RbOs ids H.length (G r) (G2 r)] (t : ∀ r, Ok (k1 r) KK → Gw P T n m Q0 (nV (F2 r) fun v => nH (setL H ids (G2 r)) fun H' => nx v H')) : Gw P T n m Q0 f0 := by
 obtain ⟨r, h1, h2⟩ := h.bnd
 have t' := t r h2
 rw [nV_spec, nH_spec] at t'
 have hfr : (∀ p ∈ fr, H[p.1]? = some p.2) → ∀ p ∈ fr, (setL H ids (G2 r))[p.1]? = some p.2 := fun h p hp => setL_keep (noF_spec hf p hp) (h p hp)
 unfold HCF at e
 split at e
 ·rename_i r0 ops i dst x args ats ty pos aft gd l acc fr0 k E H0 ob0 hr
  split at e
  ·rename_i y hg
   split at e
   ·rename_i mk g0 a b hx
    split at e
    ·rename_i us hus
     split at e
     ·rename_i d
      simp only [cond_eq_ite] at e
      split at e
      ·rename_i hlt
       have key : g0 = g ∧ a ++ us ++ b = vs ∧ H0 = H ∧ fr0 = fr ∧ (fun v H' => Fo.d r0 ops (i + 1) l (.eff :: acc) fr k (⟨d, [], 0, v⟩ :: E) H') = nx ∧ ob0 = ob := by
        split at e
        ·cases e; simp
        ·cases e; simp
       obtain ⟨rfl, hvs, rfl, rfl, rfl, rfl⟩ := key
       refine Gw.run hr (Go.opD (v := F2 r) hfr (fun _ => ?_) t')
       exact stp_eff (o := ⟨some d, .call ⟨.value x, args, ats⟩, ty, pos, aft, gd⟩) hg (by simpa [okDst, Nat.blt_eq] using hlt) (hcallO C s hH q hnd h1 hx hus hvs)
      ·cases e
     ·have key : g0 = g ∧ a ++ us ++ b = vs ∧ H0 = H ∧ fr0 = fr ∧ (fun _ H' => Fo.d r0 ops (i + 1) l (.eff :: acc) fr k E H') = nx ∧ ob0 = ob := by
       split at e
       ·cases e; simp
       ·cases e; simp
      obtain ⟨rfl, hvs, rfl, rfl, rfl, rfl⟩ := key
      refine Gw.run hr (Go.opD (v := F2 r) hfr (fun _ => ?_) t')
      exact stp_eff (o := ⟨none, .call ⟨.value x, args, ats⟩, ty, pos, aft, gd⟩) hg rfl (hcallO C s hH q hnd h1 hx hus hvs)
    ·cases e
   ·cases e
  ·cases e
 ·cases e
/-! A guard that is settled, in a region that draws its order. -/
/-! A part that is written at a place that no numbers tell, in a region that draws its order. -/
/-! What is read of an object that is only read, at a place that no numbers tell. -/
/-! A buffer that no longer turns, from a code's start on: what a slot tells of it. -/
/-! A call to which something is handed that holds a buffer: the buffer turns no longer. -/
structure HCzb : Type 1 where
 v0 : V
 g : FuncId
 vs : List V
 H : List AObj
 nx : V → List AObj → Fo
 ob : List Ob
/-! As efz; a variable that holds the buffer. -/
/-! Ways that meet behind a block: told where the block begins. -/
end
end
section
open Go.ChangeShapes Go.WideShapes Go.ChangeAt Go.RowKit
theorem of_laid {nm : String} {tG e : TypeId} (hg : P.globalNamed nm = some glB) (ht : (P.globals[glB]?).map (·.type) = some tG) (hu : P.underlying tG = some (.array glL.length e)) (he : P.underlying e = some (.int .u32)) (hc : P.cellsOf e = 1)
  {W : World} (h : laidMetH P [(nm, .agg (glL.map fun n => .lit (.int .u32 n)))] W) (i : Nat) (n : Int) (hi : glL[i]? = some n) : W.cell? ⟨glB, i, none⟩ = some (.int .u32 n) := by
 rw [MakeChecks.laidMetH_plain _ _ _ (by rfl)] at h
 obtain ⟨ps, ⟨g0, t0, cs0, f0, p0, q0, hg0, ht0, hv0, hd0, _, _⟩, _, _⟩ := h
 obtain rfl := Option.some.inj (hg.symm.trans hg0)
 obtain rfl := Option.some.inj (ht.symm.trans ht0)
 rw [World.var?_cell hg0 hv0 i]
 obtain ⟨xs, m, rfl, hx, hlen, hn, hel⟩ := DataW.trod_array hu hd0
 have hil : i < glL.length := (List.getElem?_eq_some_iff.1 hi).1
 have h1 := hel i hil
 have hxi : i < xs.length := by omega
 rw [List.getElem?_eq_getElem hxi] at h1
 obtain ⟨k, e1, e2, _⟩ := DataW.trod_int he h1
 simp only [Prod.mk.injEq, DataW.agg.injEq] at hx
 have h3 : (xs.map (·.1))[i]? = some (.lit (.int .u32 n)) := by rw [← hx.1, List.getElem?_map, hi]; rfl
 rw [List.getElem?_map, List.getElem?_eq_getElem hxi, Option.map_some, e2] at h3
 have hk : k = n := by simpa using h3
 subst hk
 rw [hc, Nat.mul_one] at e1
 have h4 : cs0.toList[i]? = some (.int .u32 k) := by
  have : (List.take 1 (List.drop i cs0.toList))[0]? = some (.int .u32 k) := by rw [e1]; rfl
  simpa using this
 simpa using h4
variable {H : Type}
theorem law_lifted_gl {C : Checked} {f : FuncId} {fn : Func} {s : ChangeSpec} {conds : List PathCond} {n : Nat} {Ts : List Ty} {tb : TypeId} {laid : List (String × DataW Unit)} (own : ownKnob C.prog.godebug = none) (noInit : C.prog.inits.idxOf? f = none) (hfn : C.prog.funcs[f]? = some fn)
  (hvars : s.vars = []) (hl : laidOutB C.prog = true) (hfine : fineAll C.prog fn.params.toList = true) (hT : tysOf C.prog n fn.params.toList = some Ts) (hres : fn.resultTypes = #[tb]) (htb : C.prog.underlying tb = some .bool)
  (hs : ∀ (H : Type) (ds : List (DataW H)), ds.length = fn.params.toList.length → s.fn H ds = { results := [.lit (.bool true)], args := ds })
  (law : ∀ avs, hasTys Ts avs → CallSpec C.prog f avs [] fun o _ => o = .ret (.bool true))
  (hgl : ∀ W, laidMetH C.prog laid W → ∀ (i : Nat) n, glL[i]? = some n → W.cell? ⟨glB, i, none⟩ = some (.int .u32 n)) (os : Os) (started : os.Started) (H : Type) (enc : TypeId × Value → H)
  (witness : ∃ (w : World) (tape : Tape) (i : Input), w.os = os ∧ (w.forCall tape i).Shaped C.prog ∧ i.vars = [] ∧ Input.okWide C.prog (w.forCall tape i) .any w.heap.size f i ∧
   ((s.pre enc C.prog fn conds false (w.forCall tape i).memory i.args ∧ laidMetH C.prog laid (w.forCall tape i).memory) ∧ sizedMet enc C.prog fn (OpenSpec.ofChange s) false (w.forCall tape i).memory i.args) ∧ ({} : Assume).holds C.prog (lone (Frame.enter C.prog f i.args .normal) [] (w.forCall tape i))) :
  ReturnsInHanded {} C os f .any (fun w args => (s.pre enc C.prog fn conds false w args ∧ laidMetH C.prog laid w) ∧ sizedMet enc C.prog fn (OpenSpec.ofChange s) false w args) (s.post enc C.prog fn false true false false) := by
 refine returnsInHanded_of_change_and (C := C) (X := fun w _ => laidMetH C.prog laid w) (fun _ _ _ hh h => h.of_heap hh) own started noInit hfn witness ?_
 intro W base args ds gs before hval hW _ hsz hL _
 have hW' := hW
 obtain ⟨p, q, hA, hV, rfl, _, _⟩ := hW
 rw [hvars] at hV
 obtain ⟨rfl, rfl⟩ := trodVars_none hV
 obtain ⟨avs, h1, h2, h3⟩ := open_all (r := .any) (b0 := base) hT (fun j t v ht hv => hval j t v (by simpa using ht) (by simpa using hv)) hA (fun m hm => by
  have hvt : s.plain.varTypes C.prog = [] := by simp [ChangeSpec.plain, DataSpec.varTypes, hvars]
  rw [hvt, List.append_nil, List.append_nil] at hsz
  exact of_decide_eq_true (List.all_eq_true.1 hsz m hm))
 have hc := (law avs h1).calls (g := gh0 W) (w := W) rfl h2 (fun b i x h => h) (hgl W hL)
 rw [Array.toArray_toList] at hc
 refine hc.mono ?_
 rintro e W' ⟨x, g', rfl, hx, bel⟩
 refine ⟨_, rfl, ?_⟩
 have hx' := hx.bool_eq
 subst hx'
 refine ⟨ds, [], _, [], p, [], hW', ?_, ?_, ?_, bel.frame _, fun h => by cases h⟩
 ·rw [List.append_nil, hs H ds h3, hres]
  exact trodAll_mk1 ⟨1, by simp [DataW.trod, Value.cells, htb]⟩
 ·rw [List.append_nil, hs H ds h3]
  exact shut_all hl bel hfine hA
 ·rw [List.append_nil, hs H ds h3, hvars]
  rfl
end
end Go.Av
