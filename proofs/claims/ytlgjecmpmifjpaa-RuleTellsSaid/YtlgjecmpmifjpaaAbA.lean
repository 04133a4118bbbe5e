/-
  An abstract interpreter of the model's code: values without addresses, a small store of variables, rows of the call's own, maps and loops.
-/
import Derived.RangeFuncLeaves
import Derived.LoopNIn
import Derived.OrdersIn
set_option linter.unusedVariables false
namespace Go.Ab

/-- Values that never change: numbers, texts, structs and slices of these. -/
inductive PV where
  | val (v : Value)
  | agg (cs : List PV)
  | list (es : List PV)

/-- Values of a running function. -/
inductive AV where
  | bot
  | p (x : PV)
  | agg (cs : List AV)
  | tup (vs : List AV)
  | ro (cs : List PV)
  | ptr (id off : Nat)
  | own (id n : Nat)
  | optr (id n i off : Nat)
  | map (id : Nat)
  | fn (f : FuncId) (first cap : List AV)
  | yld (id : Nat)
  | e0

/-- What a function keeps in memory of its own. -/
inductive AObj where
  | box (cs : List AV)
  | arr (T : TypeId) (es : List PV) (fz : Nat)
  | map (kvs : List (PV × PV))
  | loop (st : LoopState) (pend : Option Code) (tm : Nat → AV) (ps : List Nat) (assign body : Code) (fid : FuncId)

abbrev Store := List AObj

structure ASt where
  tm : Nat → AV
  st : Store

/-- What is chosen ahead of a run: which slots own rows, which functions share the caller's memory, in which loops memory is let go. -/
structure Hint where
  own : FuncId → Nat → Bool
  shared : FuncId → Bool
  keep : FuncId → Bool

def PV.cells : PV → List PV
  | .agg cs => cs
  | x => [x]

def PV.one : PV → Bool
  | .agg _ => false
  | _ => true

/-- Cells of a value in its place in memory. -/
def AV.cells : AV → List AV
  | .p (.agg cs) => cs.map .p
  | .agg cs => cs
  | x => [x]

def AV.pv : AV → Option PV
  | .p x => some x
  | _ => none

def AV.solid : AV → Bool
  | .bot => false
  | .tup _ => false
  | .optr _ _ _ _ => false
  | _ => true

/-- A struct out of its cells. -/
def mkAgg (cs : List AV) : AV :=
  match cs.mapM AV.pv with
  | some ps => .p (.agg ps)
  | none => .agg cs

def scalarB : Value → Bool
  | .bool _ | .int _ _ | .string _ | .nilFunc | .nilIface | .pointer none | .map none => true
  | .func (.func _) a b => a.size == 0 && b.size == 0
  | _ => false

def cellConst : Value → Option AV
  | .slice none 0 0 => some .e0
  | v => if scalarB v then some (.p (.val v)) else none

def ofConst : Value → Option AV
  | .agg cs => (cs.toList.mapM cellConst).map mkAgg
  | .tuple vs => if vs.size = 0 then some (.tup []) else none
  | v => cellConst v

def evA (tm : Nat → AV) : Operand → Option AV
  | .tmp t => some (tm t)
  | .const v => ofConst v
  | .global _ => none
  | .func f => some (.p (.val (.func (.func f) #[] #[])))

def put (tm : Nat → AV) (d : Option Nat) (v : AV) : Nat → AV :=
  match d with
  | some d => fun t => if t = d then v else tm t
  | none => tm

/-! ### Facts of types -/
def isAggD : TypeDesc → Bool
  | .struct _ => true
  | .array _ _ => true
  | _ => false
/-- Is a type's value a row of cells? -/
def kindT (P : Program) (T : TypeId) : Option Bool := match P.underlying T with
  | some d => some (isAggD d)
  | none => none
def szT (P : Program) (T : TypeId) : Nat := P.cellsOf T
def fldT (P : Program) (T : TypeId) (f : Nat) : Option Nat :=
  match P.underlying T with
  | some (.struct fs) => match fs[f]? with
    | some f => if P.cellsOf f.type = 0 then none else some f.offset
    | none => none
  | _ => none
def elemT (P : Program) (T : TypeId) : Option TypeId := match P.underlying T with | some (.slice e) => some e | _ => none
def zeroT (P : Program) (T : TypeId) : Option AV := (P.info? T).bind fun i => i.zero.bind fun z => if z.cells.size = i.size then ofConst z else none

/-- All elements have so many cells (all have as many as the first one). -/
def headB (sz : Nat) : List PV → Bool
  | [] => true
  | e :: _ => e.cells.length == sz

/-! ### Values that are handed on -/
mutual
def frz (σ : Store) : AV → Option PV
  | .p x => some x
  | .e0 => some (.list [])
  | .own id n => match σ[id]? with
    | some (.arr _ es _) => if n = es.length then some (.list es) else none
    | _ => none
  | .agg cs => (frzL σ cs).map .agg
  | _ => none
def frzL (σ : Store) : List AV → Option (List PV)
  | [] => some []
  | c :: cs => match frz σ c with
    | some x => match frzL σ cs with
      | some xs => some (x :: xs)
      | none => none
    | none => none
end

def ownIds : AV → List Nat
  | .own id _ => [id]
  | .agg cs => cs.filterMap fun | .own id _ => some id | _ => none
  | _ => []

def fzAt (σ : Store) (id : Nat) : Store :=
  match σ[id]? with
  | some (.arr T es _) => σ.set id (.arr T es es.length)
  | _ => σ

def fzAll (σ : Store) (ids : List Nat) : Store := ids.foldl fzAt σ

/-- A result that leaves its function's memory behind. -/
def finish (σ : Store) : AV → Option AV
  | .tup vs => match frzL σ vs with
    | some ps => some (.tup (ps.map .p))
    | none => none
  | v => match frz σ v with
    | some x => some (.p x)
    | none => none

/-! ### What an operation does -/
inductive Eff where
  | pure (r : Option AV)
  | read (id : Nat) (f : AObj → Option AV)
  | write (id : Nat) (f : AObj → Option (AV × AObj))
  | new (os : List AObj) (g : Nat → AV)
  | full (f : Store → Option (AV × Store))

def Eff.run : Eff → Store → Option (AV × Store)
  | .pure r, σ => match r with
    | some v => some (v, σ)
    | none => none
  | .read id f, σ => match σ[id]? with
    | some o => match f o with
      | some v => some (v, σ)
      | none => none
    | none => none
  | .write id f, σ => match σ[id]? with
    | some o => match f o with
      | some (v, o') => some (v, σ.set id o')
      | none => none
    | none => none
  | .new os g, σ => some (g σ.length, σ ++ os)
  | .full f, σ => f σ

def numI (n : Int) : AV := .p (.val (.int .i64 n))
def boolA (b : Bool) : AV := .p (.val (.bool b))

/-- Operators on numbers, texts and bools. -/
def binV (op : BinOp) (x y : Value) : Option Value :=
  match x, y with
  | .int k a, .int k' b =>
    match op with
    | .shl => if b < 0 then none else some (.int k (k.wrap (a * 2 ^ (min b.toNat k.bits))))
    | .shr => if b < 0 then none else some (.int k (a.fdiv (2 ^ (min b.toNat k.bits))))
    | op => if k = k' then match op with
      | .add => some (.int k (k.wrap (a + b)))
      | .sub => some (.int k (k.wrap (a - b)))
      | .mul => some (.int k (k.wrap (a * b)))
      | .quo => if b = 0 then none else some (.int k (k.wrap (a.tdiv b)))
      | .rem => if b = 0 then none else some (.int k (a.tmod b))
      | .and => some (.int k (k.wrap (BitVec.ofInt k.bits a &&& BitVec.ofInt k.bits b).toNat))
      | .or => some (.int k (k.wrap (BitVec.ofInt k.bits a ||| BitVec.ofInt k.bits b).toNat))
      | .eql => some (.bool (a == b))
      | .neq => some (.bool (a != b))
      | .lss => some (.bool (a < b))
      | .leq => some (.bool (a ≤ b))
      | .gtr => some (.bool (a > b))
      | .geq => some (.bool (a ≥ b))
      | _ => none
      else none
  | .string a, .string b =>
    match op with
    | .add => if a.size + b.size ≤ 2 ^ 40 then some (.string (a ++ b)) else none
    | .eql => some (.bool (a.toList == b.toList))
    | .neq => some (.bool !(a.toList == b.toList))
    | .lss => some (.bool (Op.bytesLess a.toList b.toList))
    | _ => none
  | _, _ => none

/-- Operators whose answer hangs on the operands' type, too. -/
def binT (P : Program) (op : BinOp) (T : TypeId) (x y : Value) : Option Value :=
  match x, y with
  | .bool a, .bool b => match P.underlying T with
    | some .bool => match op with
      | .eql => some (.bool (a == b))
      | .neq => some (.bool !(a == b))
      | _ => none
    | _ => none
  | x, y => binV op x y

def convV (P : Program) (S T : TypeId) (x : Value) : Option Value :=
  match P.underlying S, P.underlying T, x with
  | some _, some (.int k), .int _ n => some (.int k (k.wrap n))
  | some (.int _), some .string, .int _ n => some (.string (Utf8.encode n))
  | some .string, some .string, .string s => some (.string s)
  | _, _, _ => none

def unV (op : UnOp) (x : Value) : Option Value :=
  match op, x with
  | .not, .bool b => some (.bool !b)
  | .neg, .int k n => some (.int k (k.wrap (0 - n)))
  | _, _ => none

/-- What lies in memory from a place on, read as a variable of a type. -/
def loadP (P : Program) (T : TypeId) (cs : List PV) : Option AV :=
  match kindT P T with
  | some true => if 0 < szT P T ∧ szT P T ≤ cs.length then some (.p (.agg (cs.take (szT P T)))) else none
  | some false => match cs with
    | c :: _ => some (.p c)
    | [] => none
  | none => none

def loadA (P : Program) (T : TypeId) (cs : List AV) : Option AV :=
  match kindT P T with
  | some true => if 0 < szT P T ∧ szT P T ≤ cs.length then some (mkAgg (cs.take (szT P T))) else none
  | some false => match cs with
    | c :: _ => some c
    | [] => none
  | none => none

/-- Some cells written over others. -/
def over {α : Type} (cs : List α) (off : Nat) (vs : List α) : List α := cs.take off ++ vs ++ cs.drop (off + vs.length)

def word1 : AV → Option PV
  | .p x => some x
  | .e0 => some (.list [])
  | _ => none

/-- A value that bears no name of the store's. -/
def wordOf : AV → Option PV
  | .agg cs => match cs.mapM word1 with
    | some ps => some (.agg ps)
    | none => none
  | v => word1 v

/-- A struct is put together. -/
def fillA (place : Nat → Option (Nat × Nat)) (cs : List AV) : List (Nat × AV) → Option (List AV)
  | [] => some cs
  | (i, v) :: rest => match place i with
    | some (off, size) => if v.solid ∧ v.cells.length = size ∧ off + size ≤ cs.length then fillA place (over cs off v.cells) rest else none
    | none => none

def placesT (P : Program) (T : TypeId) : Option (List (Nat × Nat)) :=
  match P.underlying T with
  | some (.struct fs) => if fs.toList.all (fun f => decide (0 < P.cellsOf f.type)) then some (fs.toList.map fun f => (f.offset, P.cellsOf f.type)) else none
  | _ => none

def buildA (P : Program) (T : TypeId) (parts : List (Nat × AV)) : Option AV :=
  match placesT P T, zeroT P T with
  | some pl, some z => if z.solid then match fillA (pl[·]?) z.cells parts with
      | some cs => some (mkAgg cs)
      | none => none
    else none
  | _, _ => none

def partsA (ev : Operand → Option AV) : List (Nat × Operand) → Option (List (Nat × AV))
  | [] => some []
  | (i, x) :: r => match ev x with
    | some v => match partsA ev r with
      | some vs => some ((i, v) :: vs)
      | none => none
    | none => none

def argsA (ev : Operand → Option AV) : List Operand → Option (List AV)
  | [] => some []
  | x :: r => match ev x with
    | some v => match argsA ev r with
      | some vs => some (v :: vs)
      | none => none
    | none => none

/-- The elements of a slice that is written out: all of them, in order. -/
def elemsA (sz : Nat) : Nat → List (Nat × AV) → Option (List PV)
  | _, [] => some []
  | k, (i, v) :: r => if i = k then match wordOf v with
      | some x => if x.cells.length = sz then match elemsA sz (k + 1) r with
          | some xs => some (x :: xs)
          | none => none
        else none
      | none => none
    else none

/-- A new variable's cells; rows that it owns. -/
def newBox (base : Nat) : List AV → List AV × List AObj
  | [] => ([], [])
  | .e0 :: cs => (.own base 0 :: (newBox (base + 1) cs).1, .arr 0 [] 0 :: (newBox (base + 1) cs).2)
  | c :: cs => (c :: (newBox base cs).1, (newBox base cs).2)

def argA (σ : Store) (a : AV) : AV := match frz σ a with | some x => .p x | none => a

/-! ### Maps -/
def keyB : PV → Bool
  | .val (.string _) => true
  | _ => false
def keyEq : PV → PV → Bool
  | .val (.string a), .val (.string b) => a == b
  | _, _ => false
def lookM (k : PV) : List (PV × PV) → Option PV
  | [] => none
  | e :: es => if keyEq k e.1 then some e.2 else lookM k es
def setM (k v : PV) : List (PV × PV) → List (PV × PV)
  | [] => [(k, v)]
  | e :: es => if keyEq k e.1 then (k, v) :: es else e :: setM k v es

/-- A map by texts: what it holds. -/
def mapT (P : Program) (T : TypeId) : Option TypeId := match P.underlying T with
  | some (.map k e) => match P.underlying k with
    | some .string => some e
    | _ => none
  | _ => none

structure Env where
  P : Program
  H : Hint
  fid : FuncId
  pr : FuncId → List PV → Option AV
  inv : AV → List AV → Store → Option (AV × Store)
  K : Nat
  inR : Bool

def ownD (E : Env) : Option Nat → Bool
  | some d => E.H.own E.fid d
  | none => false

def pureEff (E : Env) (f : FuncId) (args : List AV) : Eff :=
  match args.flatMap ownIds with
  | [] => match frzL [] args with
    | some ps => .pure (E.pr f ps)
    | none => .pure none
  | ids => .full fun σ => match frzL σ args with
    | some ps => match E.pr f ps with
      | some r => some (r, fzAll σ ids)
      | none => none
    | none => none

def sharedEff (E : Env) (fv : AV) (args : List AV) : Eff :=
  .full fun σ => E.inv fv (args.map (argA σ)) (fzAll σ (args.flatMap ownIds))

def callEff (E : Env) (fv : AV) (args : List AV) : Eff :=
  match fv with
  | .p (.val (.func (.func f) _ _)) => if E.H.shared f then sharedEff E (.fn f [] []) args else pureEff E f args
  | .fn f first cap => sharedEff E (.fn f first cap) args
  | .yld id => sharedEff E (.yld id) args
  | _ => .pure none

def lenA : AV → Option Nat
  | .p (.list es) => some es.length
  | .p (.val (.string s)) => some s.size
  | .own _ n => some n
  | .e0 => some 0
  | _ => none

def sliceOf : AV → Option (List PV)
  | .p (.list es) => some es
  | .e0 => some []
  | _ => none

/-- A type whose values have a size, and room for so many. -/
def roomB (P : Program) (T : TypeId) (n : Nat) : Bool :=
  match P.info? T with
  | some i => (match i.zero with | some z => z.cells.size == i.size | none => false) && decide (0 < i.size) && decide (n * (i.bytes + 1) ≤ 2 ^ 40)
  | none => false

def appendEff (P : Program) (own : Bool) (T : TypeId) (s x : AV) : Eff :=
  match s, sliceOf x with
  | .e0, some [] => .pure (if roomB P T 0 then some .e0 else none)
  | .e0, some es => if headB (szT P T) es && roomB P T es.length then (if own then .new [.arr T es 0] (fun b => .own b es.length) else .pure (some (.p (.list es)))) else .pure none
  | .own id n, some xs => .write id fun
    | .arr T' es fz => if n = es.length ∧ (es = [] ∨ T' = T) ∧ headB (szT P T) xs ∧ roomB P T (es ++ xs).length then (if xs = [] then some (.own id n, .arr T' es fz) else some (.own id (es ++ xs).length, .arr T (es ++ xs) fz)) else none
    | _ => none
  | _, _ => .pure none

def maxV : Value → Value → Option Value
  | .int k x, .int _ y => some (.int k (if y > x then y else x))
  | _, _ => none
def minV : Value → Value → Option Value
  | .int k x, .int _ y => some (.int k (if y < x then y else x))
  | _, _ => none

def builtinEff (P : Program) (own : Bool) (b : Builtin) (Ts : Array TypeId) (args : List AV) : Eff :=
  match b, args with
  | .len, [x] => match x, (Ts[0]?).bind P.underlying with
    | .map id, some (.map _ _) => .read id fun
      | .map kvs => some (numI kvs.length)
      | _ => none
    | x, some (.slice _) => match x with
      | .p (.val _) => .pure none
      | x => .pure ((lenA x).map fun (n : Nat) => numI (n : Int))
    | .p (.val (.string s)), some .string => .pure (some (numI s.size))
    | _, _ => .pure none
  | .append, [s, x] => match Ts.toList with
    | [t, t'] => if t = t' then match elemT P t with
        | some T => appendEff P own T s x
        | none => .pure none
      else .pure none
    | _ => .pure none
  | .max, [.p (.val x), .p (.val y)] => .pure ((maxV x y).map fun v => .p (.val v))
  | .min, [.p (.val x), .p (.val y)] => .pure ((minV x y).map fun v => .p (.val v))
  | _, _ => .pure none

def idxOf : AV → Option Int
  | .p (.val (.int _ n)) => some n
  | _ => none

def indexEff (P : Program) (T : TypeId) (x i : AV) : Eff :=
  match elemT P T, x, idxOf i with
  | some e, .p (.list es), some i => .pure (if 0 ≤ i then match es[i.toNat]? with
      | some x => if 0 < szT P e ∧ x.cells.length = szT P e then some (.ro x.cells) else none
      | none => none
    else none)
  | some e, .own id n, some i => .read id fun
    | .arr T' es _ => if n = es.length ∧ 0 ≤ i ∧ i < n ∧ T' = e then some (.optr id n i.toNat 0) else none
    | _ => none
  | _, _, _ => .pure none

def setCells : PV → List PV → PV
  | .agg _, cs => .agg cs
  | x, c :: _ => match x with
    | .agg cs => .agg cs
    | _ => c
  | x, [] => x

def opEff (E : Env) (dst : Option Nat) (ev : Operand → Option AV) (o : Op) : Eff :=
  let P := E.P
  match o with
  | .move x | .assign x => match ev x with
    | some .e0 => if ownD E dst then .new [.arr 0 [] 0] (fun b => .own b 0) else .pure (some .e0)
    | some v => .pure (some v)
    | none => .pure none
  | .pick c a b => match ev c with
    | some (.p (.val (.bool t))) => .pure (if t then ev a else ev b)
    | _ => .pure none
  | .alloc T => match zeroT P T with
    | some z => if z.solid then (if ownD E dst then .full (fun σ => some (.ptr (σ.length + (newBox σ.length z.cells).2.length) 0, σ ++ (newBox σ.length z.cells).2 ++ [.box (newBox σ.length z.cells).1]))
      else .new [.box z.cells] (fun b => .ptr b 0)) else .pure none
    | none => .pure none
  | .box _ x => match ev x with
    | some v => if v.solid then .new [.box v.cells] (fun b => .ptr b 0) else .pure none
    | none => .pure none
  | .build T parts => match partsA ev parts.toList with
    | some ps => .pure (buildA P T ps)
    | none => .pure none
  | .buildSlice T len parts => match elemT P T, partsA ev parts.toList with
    | some e, some ps => match elemsA (szT P e) 0 ps with
      | some es => if es.length = len ∧ len * szT P e ≤ 2 ^ 24 ∧ 0 < szT P e ∧ (zeroT P e).isSome then (if ownD E dst then (if len = 0 then .pure none else .new [.arr e es 0] (fun b => .own b es.length)) else .pure (some (.p (.list es)))) else .pure none
      | none => .pure none
    | _, _ => .pure none
  | .load T a => match ev a with
    | some (.ptr id off) => .read id fun
      | .box cs => loadA P T (cs.drop off)
      | _ => none
    | some (.ro cs) => .pure (loadP P T cs)
    | some (.optr id n i off) => .read id fun
      | .arr _ es _ => if n = es.length then match es[i]? with
          | some e => loadP P T (e.cells.drop off)
          | none => none
        else none
      | _ => none
    | _ => .pure none
  | .store T a x => match ev a, ev x with
    | some (.ptr id off), some v => .write id fun
      | .box cs => if v.solid ∧ 0 < szT P T ∧ v.cells.length = szT P T ∧ off + szT P T ≤ cs.length then some (.tup [], .box (over cs off v.cells)) else none
      | _ => none
    | some (.optr id n i off), some v => match wordOf v with
      | some x => .write id fun
        | .arr T' es fz => match es[i]? with
          | some e => if n = es.length ∧ fz ≤ i ∧ 0 < szT P T ∧ x.cells.length = szT P T ∧ off + szT P T ≤ e.cells.length then some (.tup [], .arr T' (es.set i (setCells e (over e.cells off x.cells))) fz) else none
          | none => none
        | _ => none
      | none => .pure none
    | _, _ => .pure none
  | .binOp op T x y _ => match ev x, ev y with
    | some (.p (.val a)), some (.p (.val b)) => .pure ((binT P op T a b).map fun v => .p (.val v))
    | _, _ => .pure none
  | .unOp op _ x => match ev x with
    | some (.p (.val a)) => .pure ((unV op a).map fun v => .p (.val v))
    | _ => .pure none
  | .convert S T x => match ev x with
    | some (.p (.val a)) => .pure ((convV P S T a).map fun v => .p (.val v))
    | _ => .pure none
  | .makeFunc (.func f) first cap => match argsA ev first.toList, argsA ev cap.toList with
    | some xs, some ys => .pure (some (.fn f xs ys))
    | _, _ => .pure none
  | .makeMap _ none => .new [.map []] (fun b => .map b)
  | .fieldAddr T x f => match fldT P T f, ev x with
    | some k, some (.ptr id off) => .pure (some (.ptr id (off + k)))
    | some k, some (.ro cs) => .pure (some (.ro (cs.drop k)))
    | some k, some (.optr id n i off) => .pure (some (.optr id n i (off + k)))
    | _, _ => .pure none
  | .indexAddr T x i => match ev x, ev i with
    | some x, some i => indexEff P T x i
    | _, _ => .pure none
  | .extract x i => match ev x with
    | some (.tup vs) => .pure vs[i]?
    | _ => .pure none
  | .lookup T m k false => match ev m, ev k, mapT P T with
    | some (.map id), some (.p k), some e => .read id fun
      | .map kvs => if keyB k then match lookM k kvs, zeroT P e with
        | some v, _ => some (.p v)
        | none, some (.p z) => some (.p z)
        | _, _ => none
        else none
      | _ => none
    | _, _, _ => .pure none
  | .mapUpdate T m k v | .insert T m k v => match ev m, ev k, ev v, mapT P T with
    | some (.map id), some (.p k), some (.p v), some _ => .write id fun
      | .map kvs => if keyB k then some (.tup [], .map (setM k v kvs)) else none
      | _ => none
    | _, _, _, _ => .pure none
  | .call c => match c.callee with
    | .value f => match ev f, argsA ev c.args.toList with
      | some fv, some args => callEff E fv args
      | _, _ => .pure none
    | .builtin b => match argsA ev c.args.toList with
      | some args => builtinEff P (ownD E dst) b c.argTypes args
      | none => .pure none
    | .invoke _ _ => .pure none
  | _ => .pure none

/-! ### Code -/
/-- Is an operation carried out? -/
def wantA (ops : Array Oper) (tm : Nat → AV) (o : Oper) : Option Bool :=
  match o.guard with
  | none => some true
  | some (g, b) => match (ops[g]?).bind (·.dst) with
    | some d => match tm d with
      | .p (.val (.bool t)) => some (t == b)
      | .tup [] => some false
      | _ => none
    | none => none

def dstB (nt : Nat) : Option Nat → Bool
  | some d => decide (d < nt)
  | none => true

def stepA (E : Env) (nt : Nat) (ops : Array Oper) (o : Oper) (s : ASt) : Option ASt :=
  match wantA ops s.tm o with
  | none => none
  | some w => if dstB nt o.dst then
      (if w then match (opEff E o.dst (evA s.tm) o.op).run s.st with
        | some (v, σ) => some ⟨put s.tm o.dst v, σ⟩
        | none => none
      else some ⟨put s.tm o.dst (.tup []), s.st⟩)
    else none

def runA (E : Env) (nt : Nat) (ops : Array Oper) : List Nat → ASt → Option ASt
  | [], s => some s
  | i :: r, s => match ops[i]? with
    | some o => match stepA E nt ops o s with
      | some s => runA E nt ops r s
      | none => none
    | none => none

inductive Ex where
  | normal
  | exit (id : Nat)
  | ret

mutual
def below (n : Nat) : AV → Bool
  | .bot => true
  | .p _ => true
  | .agg cs => belows n cs
  | .tup cs => belows n cs
  | .ro _ => true
  | .ptr id _ => id < n
  | .own id _ => id < n
  | .optr id _ _ _ => id < n
  | .map id => id < n
  | .fn _ xs ys => belows n xs && belows n ys
  | .yld id => id < n
  | .e0 => true
def belows (n : Nat) : List AV → Bool
  | [] => true
  | c :: cs => below n c && belows n cs
end

def belowO (n : Nat) : AObj → Bool
  | .box cs => belows n cs
  | .arr _ _ _ => true
  | .map _ => true
  | .loop .. => false

def cleanA (n : Nat) (v : AV) : AV := if below n v then v else .bot

/-- At a round's end: what the round laid is let go, where nothing leads to it. -/
def gcA (n : Nat) (s : ASt) : ASt :=
  if (s.st.take n).all (belowO n) then ⟨fun t => cleanA n (s.tm t), s.st.take n⟩ else s

def loopA (gc : Bool) (body : ASt → Option (Ex × ASt)) : Nat → ASt → Option (Ex × ASt)
  | 0, _ => none
  | k + 1, s => match body s with
    | some (.normal, s') => loopA gc body k (if gc then gcA s.st.length s' else s')
    | r => r

def jumpA : Option Code → Option Ex
  | none => some .normal
  | some .ret => some .ret
  | some (.exit i) => some (.exit i)
  | _ => none

def isFn : AV → Bool
  | .fn _ _ _ => true
  | _ => false

def rangeA (E : Env) (fv : AV) (ps : Array Nat) (assign body : Code) (s : ASt) : Option (Ex × ASt) :=
  if E.inR || !isFn fv then none else match E.inv fv [.yld s.st.length] (s.st ++ [.loop .ready none s.tm ps.toList assign body E.fid]) with
  | some (_, σ) => match σ[s.st.length]? with
    | some (.loop st pend tm ps a b f) => match st, jumpA pend with
      | .busy, _ => none
      | _, some e => some (e, ⟨s.tm, σ.set s.st.length (.loop .exhausted pend tm ps a b f)⟩)
      | _, none => none
    | _ => none
  | none => none

/-! ### A region whose order is open -/
/-- Must operation k be done ahead of operation i, in every order? -/
def forcedB (ops : Array Oper) : Nat → Nat → Nat → Bool
  | 0, _, _ => false
  | n + 1, k, i => match ops[i]? with
    | some o => o.after.any (fun e => Region.binds .any e && e.on == k) || o.after.any (fun e => Region.binds .any e && forcedB ops n k e.on)
    | none => false

/-- Operations that touch no memory. -/
def quietO : Op → Bool
  | .pick .. | .build .. | .binOp .. | .unOp .. | .convert .. | .makeFunc .. | .fieldAddr .. | .extract .. => true
  | _ => false

/-- All pairs of which either one may come first. -/
def freeP (ops : Array Oper) : List (Nat × Nat) :=
  (List.range ops.size).flatMap fun i => ((List.range i).filter fun k => !forcedB ops ops.size k i).map fun k => (k, i)

/-- Those of them that both touch memory, maybe. -/
def freeM (ops : Array Oper) : List (Nat × Nat) :=
  (freeP ops).filter fun x => match ops[x.1]?, ops[x.2]? with
    | some a, some b => !quietO a.op && !quietO b.op
    | _, _ => true

def orderB (ops : Array Oper) : Bool :=
  ((List.range ops.size).all fun i => match ops[i]? with
    | some o => o.after.all fun e => !Region.binds .any e || decide (e.on < i)
    | none => false) &&
  (freeP ops).all fun x => match ops[x.1]?, ops[x.2]? with
    | some a, some b => a.apart ops b
    | _, _ => false

def Eff.comm : Eff → Eff → Bool
  | .pure _, _ => true
  | _, .pure _ => true
  | .read _ _, .read _ _ => true
  | .read i _, .write j _ => i != j
  | .write i _, .read j _ => i != j
  | .write i _, .write j _ => i != j
  | _, _ => false

/-- What an operation does where it stands. -/
def effW (E : Env) (ops : Array Oper) (o : Oper) (tm : Nat → AV) : Option Eff :=
  match wantA ops tm o with
  | some true => some (opEff E o.dst (evA tm) o.op)
  | some false => some (.pure (some (.tup [])))
  | none => none

def stepE (E : Env) (nt : Nat) (ops : Array Oper) (i : Nat) (s : ASt) : Option (Eff × ASt) :=
  match ops[i]? with
  | some o => match effW E ops o s.tm with
    | some e => if dstB nt o.dst then (match e.run s.st with
      | some (v, σ) => some (e, ⟨put s.tm o.dst v, σ⟩)
      | none => none) else none
    | none => none
  | none => none

/-- A run that keeps what each operation does. -/
def runE (E : Env) (nt : Nat) (ops : Array Oper) : List Nat → ASt → Option (List Eff × ASt)
  | [], s => some ([], s)
  | i :: r, s => match stepE E nt ops i s with
    | some (e, s) => match runE E nt ops r s with
      | some (es, s) => some (e :: es, s)
      | none => none
    | none => none

def drawA (E : Env) (nt : Nat) (ops : Array Oper) (s : ASt) : Option ASt :=
  match runE E nt ops (List.range ops.size) s with
  | some (es, s) => if orderB ops && (freeM ops).all (fun x => (es.getD x.1 (.pure none)).comm (es.getD x.2 (.pure none))) then some s else none
  | none => none

def codeA (E : Env) (nt : Nat) : Code → ASt → Option (Ex × ASt)
  | .skip, s => some (.normal, s)
  | .label _, s => some (.normal, s)
  | .region _ ops false, s => match runA E nt ops (List.range ops.size) s with
    | some s => some (.normal, s)
    | none => none
  | .region _ ops true, s => match drawA E nt ops s with
    | some s => some (.normal, s)
    | none => none
  | .seq a b, s => match codeA E nt a s with
    | some (.normal, s) => codeA E nt b s
    | r => r
  | .cond c a b, s => match evA s.tm c with
    | some (.p (.val (.bool t))) => if t then codeA E nt a s else codeA E nt b s
    | _ => none
  | .block id c, s => match codeA E nt c s with
    | some (.exit i, s) => if i = id then some (.normal, s) else some (.exit i, s)
    | r => r
  | .loop c, s => loopA (!E.H.keep E.fid) (codeA E nt c) E.K s
  | .rangeFunc f ps assign body, s => match evA s.tm f with
    | some fv => rangeA E fv ps assign body s
    | none => none
  | .exit id, s => some (.exit id, s)
  | .ret, s => some (.ret, s)
  | _, _ => none

/-! ### Calls -/
def argTm (args : List AV) (t : Nat) : AV := args.getD t (.tup [])

def resA (P : Program) (s : ASt) : List ResultVar → Option (List AV)
  | [] => some []
  | .tmp t :: r => match resA P s r with
    | some vs => some (s.tm t :: vs)
    | none => none
  | .cell a T :: r => match s.tm a with
    | .ptr id off => match s.st[id]? with
      | some (.box cs) => match loadA P T (cs.drop off) with
        | some v => match resA P s r with
          | some vs => some (v :: vs)
          | none => none
        | none => none
      | _ => none
    | _ => none

def tupA : List AV → AV
  | [v] => v
  | vs => .tup vs

def retA (P : Program) (rs : List ResultVar) : Option (Ex × ASt) → Option (AV × Store)
  | some (.normal, s) | some (.ret, s) => match resA P s rs with
    | some vs => some (tupA vs, s.st)
    | none => none
  | _ => none

def putL (tm : Nat → AV) : List Nat → List AV → Nat → AV
  | p :: ps, a :: args => putL (put tm (some p) a) ps args
  | _, _ => tm

/-- A round of a range over a function. -/
def roundA (E : Env) (nt : Nat) (id : Nat) (args : List AV) (σ : Store) : Option (AV × Store) :=
  match σ[id]? with
  | some (.loop .ready pend tm ps assign body f) =>
    if ps.length = args.length ∧ ps.all (· < nt) then match codeA E nt assign ⟨putL tm ps args, σ⟩ with
      | some (.normal, s) => match s.st[id]? with
        | some (.loop .ready pe' tm' ps' as' bd' f') => match codeA E nt body ⟨s.tm, s.st.set id (.loop .busy pe' tm' ps' as' bd' f')⟩ with
          | some (e, s2) => match s2.st[id]? with
            | some (.loop _ _ tm ps as bd f) => match e with
              | .normal => some (boolA true, s2.st.set id (.loop .ready none tm ps as bd f))
              | .ret => some (boolA false, s2.st.set id (.loop .done (some .ret) tm ps as bd f))
              | .exit i => some (boolA false, s2.st.set id (.loop .done (some (.exit i)) tm ps as bd f))
            | _ => none
          | none => none
        | _ => none
      | _ => none
    else none
  | _ => none

/-- A function's answer, by rounds: what is called, on what, in which store. -/
def invA (P : Program) (H : Hint) : Nat → AV → List AV → Store → Option (AV × Store)
  | 0, _, _, _ => none
  | n + 1, .fn f first cap, args, σ => match P.funcs[f]? with
    | some fn => match fn.body with
      | some c => if (first ++ args ++ cap).length ≤ fn.ntmps ∧ fn.name ≠ "runtime.NumGoroutine" then
          retA P fn.results.toList (codeA ⟨P, H, f, fun g ps => match invA P H n (.fn g [] []) (ps.map .p) [] with
            | some (v, σ) => finish σ v
            | none => none, invA P H n, n, false⟩ fn.ntmps c ⟨argTm (first ++ args ++ cap), σ⟩)
        else none
      | none => none
    | none => none
  | n + 1, .yld id, args, σ => match σ[id]? with
    | some (.loop _ _ _ _ _ _ f) => match P.funcs[f]? with
      | some fn => roundA ⟨P, H, f, fun g ps => match invA P H n (.fn g [] []) (ps.map .p) [] with
            | some (v, σ) => finish σ v
            | none => none, invA P H n, n, true⟩ fn.ntmps id args σ
      | none => none
    | _ => none
  | _, _, _, _ => none

/-- A function's answer on values alone. -/
def prA (P : Program) (H : Hint) (n : Nat) (g : FuncId) (ps : List PV) : Option AV :=
  match invA P H n (.fn g [] []) (ps.map .p) [] with
  | some (v, σ) => finish σ v
  | none => none

end Go.Ab
