/-
  The layer of values: what an evaluator says of a function holds of every run of it. For every program of the model that meets the named conditions.
-/
import Derived.Test.YtbliiejdmgnkgaaPvA
namespace Go.Proofs.Ytbliiejdmgnkgaa.Pv

mutual
def mapO (u : Nat → PV) (q : Nat → Nat → Nat → Nat → PV) : PV → PV
  | .os g => u g
  | .op g sz i f => q g sz i f
  | .agg cs => .agg (mapOs u q cs)
  | .tup cs => .tup (mapOs u q cs)
  | .fn f a b => .fn f (mapOs u q a) (mapOs u q b)
  | p => p
def mapOs (u : Nat → PV) (q : Nat → Nat → Nat → Nat → PV) : List PV → List PV
  | [] => []
  | p :: r => mapO u q p :: mapOs u q r
end

mutual
/-- speaks of no object of the call's own -/
def isImm : PV → Bool
  | .os _ => false
  | .op .. => false
  | .agg cs => isImms cs
  | .tup cs => isImms cs
  | .fn _ a b => isImms a && isImms b
  | _ => true
def isImms : List PV → Bool
  | [] => true
  | p :: r => isImm p && isImms r
end

mutual
/-- speaks of no memory -/
def scalar : PV → Bool
  | .int .. => true
  | .bool _ => true
  | .str _ => true
  | .agg cs => scalars cs
  | .tup cs => scalars cs
  | _ => false
def scalars : List PV → Bool
  | [] => true
  | p :: r => scalar p && scalars r
end

/-- one cell's value -/
def leaf : PV → Bool
  | .junk => false
  | .agg _ => false
  | .tup _ => false
  | _ => true
def leafs : List PV → Bool
  | [] => true
  | p :: r => leaf p && leafs r

def hasOp : PV → Bool
  | .op .. => true
  | .fn _ _ b => !isImms b
  | _ => false

def anyOp : List PV → Bool
  | [] => false
  | p :: r => hasOp p || anyOp r

def killP (g : Nat) (p : PV) : PV :=
  mapO (fun g' => if g' = g then .junk else .os g') (fun g' sz i f => if g' = g then .junk else .op g' sz i f) p

def mapV (h : PV → PV) : List (Nat × PV) → List (Nat × PV)
  | [] => []
  | (i, p) :: r => (i, h p) :: mapV h r

def mapE (h : List PV → List PV) : List (List PV) → List (List PV)
  | [] => []
  | e :: r => h e :: mapE h r

/-- the objects whose cells may speak of objects are those of one element (structs, boxes) -/
def GObj.map (h : List PV → List PV) (o : GObj) : GObj := if o.own then { o with es := mapE h o.es } else o

def mapH (h : List PV → List PV) : List (Nat × GObj) → List (Nat × GObj)
  | [] => []
  | (i, o) :: r => (i, o.map h) :: mapH h r

def killPs (g : Nat) : List PV → List PV := mapOs (fun g' => if g' = g then .junk else .os g') (fun g' sz i f => if g' = g then .junk else .op g' sz i f)

def St.drop (s : St) (g : Nat) : St := ⟨mapV (killP g) s.vs, mapV (killP g) s.ts, mapH (killPs g) (adel s.hp g)⟩

def St.newG (s : St) (g : Nat) (o : GObj) : St := { s.drop g with hp := (g, o) :: (s.drop g).hp }

abbrev Env := Nat → TD
abbrev Ctr := Nat → List PV → PV → Prop
abbrev Hnd := Nat → List PV → List (Nat × GObj) → PV → List (Nat × GObj) → Prop

def asEs (esz : Nat) : PV → Option (List (List PV))
  | .sl sz es => if sz = esz then some es else none
  | .nilsl => some []
  | _ => none

def inI64 (n : Int) : Prop := -9223372036854775808 ≤ n ∧ n ≤ 9223372036854775807

def binInt (op : BinOp) (k : IntKind) (a b : Int) (K : PV → Prop) : Prop :=
  match op with
  | .add => match k with | .i64 => inI64 (a + b) ∧ K (.int .i64 (a + b)) | k => K (.int k (k.wrap (a + b)))
  | .sub => match k with | .i64 => inI64 (a - b) ∧ K (.int .i64 (a - b)) | k => K (.int k (k.wrap (a - b)))
  | .mul => match k with | .i64 => inI64 (a * b) ∧ K (.int .i64 (a * b)) | k => K (.int k (k.wrap (a * b)))
  | .quo => match k with | .i64 => (b ≠ 0 ∧ inI64 (a.tdiv b)) ∧ K (.int .i64 (a.tdiv b)) | k => b ≠ 0 ∧ K (.int k (k.wrap (a.tdiv b)))
  | .rem => b ≠ 0 ∧ K (.int k (a.tmod b))
  | .eql => K (.bool (decide (a = b)))
  | .neq => K (.bool (!decide (a = b)))
  | .lss => K (.bool (decide (a < b)))
  | .leq => K (.bool (decide (a ≤ b)))
  | .gtr => K (.bool (decide (b < a)))
  | .geq => K (.bool (decide (b ≤ a)))
  | .and => K (.int k (k.wrap ((BitVec.ofInt k.bits a &&& BitVec.ofInt k.bits b).toNat : Int)))
  | .or => K (.int k (k.wrap ((BitVec.ofInt k.bits a ||| BitVec.ofInt k.bits b).toNat : Int)))
  | .xor => K (.int k (k.wrap ((BitVec.ofInt k.bits a ^^^ BitVec.ofInt k.bits b).toNat : Int)))
  | _ => False

def shiftInt (op : BinOp) (k : IntKind) (a b : Int) (K : PV → Prop) : Prop :=
  match op with
  | .shl => 0 ≤ b ∧ K (.int k (k.wrap (a * 2 ^ (min b.toNat k.bits))))
  | .shr => 0 ≤ b ∧ K (.int k (a.fdiv (2 ^ (min b.toNat k.bits))))
  | _ => False

def cellsEq : List PV → List PV → Option Bool
  | [], [] => some true
  | .int k a :: r, .int k' b :: r' => match decide (k = k'), cellsEq r r' with | true, some c => some (decide (a = b) && c) | _, _ => none
  | _, _ => none

def isNilP : PV → Option Bool
  | .nilptr => some true
  | .ptr _ => some false
  | .op .. => some false
  | _ => none

def isNilF : PV → Option Bool
  | .nilfn => some true
  | .fn .. => some false
  | _ => none

def eqOut (op : BinOp) (c : Bool) (K : PV → Prop) : Prop :=
  match op with | .eql => K (.bool c) | .neq => K (.bool (!c)) | _ => False

def binVal (d : TD) (op : BinOp) (a b : PV) (K : PV → Prop) : Prop :=
  match a, b with
  | .int k x, .int k' y => match op with
    | .shl => shiftInt .shl k x y K
    | .shr => shiftInt .shr k x y K
    | op => k = k' ∧ binInt op k x y K
  | .bool x, .bool y => match d with | .bool => eqOut op (decide (x = y)) K | _ => False
  | .str x, .str y => match op with
    | .eql => K (.bool (decide (x = y)))
    | .neq => K (.bool (!decide (x = y)))
    | .add => x.size + y.size ≤ 9223372036854775807 ∧ K (.str (x ++ y))
    | _ => False
  | .agg x, .agg y => match d with
    | .struct _ z true => if x.length = z.length then match cellsEq x y with | some c => eqOut op c K | none => False else False
    | _ => False
  | x, .nilptr => match d, isNilP x with | .ptr, some c => eqOut op c K | _, _ => False
  | x, .nilfn => match d, isNilF x with | .func, some c => eqOut op c K | _, _ => False
  | _, _ => False

def lenVal (hp : List (Nat × GObj)) (p : PV) (K : PV → Prop) : Prop :=
  match p with
  | .sl _ es => K (.int .i64 es.length)
  | .nilsl => K (.int .i64 0)
  | .os g => match aget hp g with | some o => K (.int .i64 o.es.length) | none => False
  | _ => False

def borrow (hp : List (Nat × GObj)) : PV → PV
  | .os g => match aget hp g with | some o => if o.own then .os g else .sl o.sz o.es | none => .os g
  | p => p

def borrows (hp : List (Nat × GObj)) : List PV → List PV
  | [] => []
  | p :: r => borrow hp p :: borrows hp r

inductive CallV (C : Ctr) (f : Nat) (args args' : List PV) (k : PV → Prop) : Prop
  | intro (r : PV) (h : C f args' r) (h1 : isImms args' = true) (h2 : (isImms args || scalar r) = true) (h3 : k r) : CallV C f args args' k

def killW (k1 k2 : Nat → Bool) (p : PV) : PV := mapO (fun g => match k1 g with | true => .junk | false => .os g) (fun g sz i f => match k2 g with | true => .junk | false => .op g sz i f) p
def killWs (k1 k2 : Nat → Bool) (p : List PV) : List PV := mapOs (fun g => match k1 g with | true => .junk | false => .os g) (fun g sz i f => match k2 g with | true => .junk | false => .op g sz i f) p

def hasId (hp : List (Nat × GObj)) (g : Nat) : Bool := match aget hp g with | some _ => true | none => false
def ownId (hp : List (Nat × GObj)) (g : Nat) : Bool := match aget hp g with | some o => o.own | none => false

def subHp : List (Nat × GObj) → List (Nat × GObj) → Prop
  | [], _ => True
  | (g, o) :: r, hp => aget hp g = some o ∧ subHp r hp

def freshHp (hpi hp : List (Nat × GObj)) : List (Nat × GObj) → Bool
  | [] => true
  | (g, _) :: r => (hasId hpi g || !hasId hp g) && freshHp hpi hp r

def delHp (hpi : List (Nat × GObj)) : List (Nat × GObj) → List (Nat × GObj)
  | [] => []
  | (g, o) :: r => if hasId hpi g then delHp hpi r else (g, o) :: delHp hpi r

def inSet (hpi hp' : List (Nat × GObj)) (g : Nat) : Bool := hasId hpi g || hasId hp' g

def St.handed (s : St) (hpi hp' : List (Nat × GObj)) : St :=
  ⟨mapV (killW (inSet hpi hp') fun g => inSet hpi hp' g && !ownId hpi g) s.vs, mapV (killW (inSet hpi hp') fun g => inSet hpi hp' g && !ownId hpi g) s.ts,
    mapH (killWs (fun g => !inSet hpi hp' g) fun g => !inSet hpi hp' g) hp' ++ mapH (killWs (inSet hpi hp') fun g => inSet hpi hp' g && !ownId hpi g) (delHp hpi s.hp)⟩

/-- the call of a function that writes into objects of the caller's own: which ones are handed over, what they hold behind the call -/
inductive CallH (H : Hnd) (f : Nat) (args : List PV) (s : St) (d : Option Nat) (K : St → Prop) : Prop
  | intro (hpi : List (Nat × GObj)) (r : PV) (hp' : List (Nat × GObj)) (h : H f args hpi r hp') (h0 : subHp hpi s.hp) (h1 : freshHp hpi s.hp hp' = true)
      (h3 : K ((s.handed hpi hp').putO d (killW (fun g => !inSet hpi hp' g) (fun g => !inSet hpi hp' g) r))) : CallH H f args s d K

/-- a slice of one's own among the arguments: it is lent, or it is handed over -/
inductive CallX (C : Ctr) (H : Hnd) (f : Nat) (args args' : List PV) (s : St) (d : Option Nat) (K : St → Prop) : Prop
  | val (h : CallV C f args args' fun p => K (s.putO d p)) : CallX C H f args args' s d K
  | hnd (h : CallH H f args s d K) : CallX C H f args args' s d K

def isOs : PV → Bool
  | .os _ => true
  | _ => false

def anyOs : List PV → Bool
  | [] => false
  | p :: r => isOs p || anyOs r

mutual
/-- immutable, and nothing in it is unknown -/
def solid : PV → Bool
  | .os _ => false
  | .op .. => false
  | .junk => false
  | .agg cs => solids cs
  | .tup cs => solids cs
  | .fn _ a b => solids a && solids b
  | _ => true
def solids : List PV → Bool
  | [] => true
  | p :: r => solid p && solids r
end

def planned (plan : List (Nat × Nat)) (d : Option Nat) : Bool :=
  match d with
  | some i => (match aget plan i with | some _ => true | none => false)
  | none => false

/-- an operation that makes or changes an object -/
def isEff (plan : List (Nat × Nat)) (o : Oper) : Bool :=
  match o.op with
  | .store .. => true
  | .alloc _ => true
  | .makeSlice .. => true
  | .assign _ => planned plan o.dst
  | .box .. => planned plan o.dst
  | .buildSlice .. => planned plan o.dst
  | .slice .. => planned plan o.dst
  | .call c => match c.callee with | .builtin .append => true | .value _ => planned plan o.dst | _ => false
  | _ => false

def isStore (o : Oper) : Bool := match o.op with | .store .. => true | _ => false

/-- the number of the object that an operation makes, where the text tells it -/
def newId (plan : List (Nat × Nat)) (o : Oper) : Option Nat :=
  match o.op with
  | .alloc _ => (match o.dst with | some d => (match aget plan d with | some g => some g | none => some d) | none => none)
  | .makeSlice .. => (match o.dst with | some d => (match aget plan d with | some g => some g | none => some d) | none => none)
  | .box .. => (match o.dst with | some d => aget plan d | none => none)
  | .buildSlice .. => (match o.dst with | some d => aget plan d | none => none)
  | _ => none

def nthN (l : List Nat) (i : Nat) : Nat := match l[i]? with | some m => m | none => 0

/-- what must have been done before: as a set of bits -/
def edgeMask (acc : List Nat) : List Edge → Nat
  | [] => 0
  | e :: r => match Region.binds .any e with | true => 2 ^ e.on ||| nthN acc e.on ||| edgeMask acc r | false => edgeMask acc r

def ancsGo : List Oper → List Nat → List Nat
  | [], acc => acc
  | o :: r, acc => ancsGo r (acc ++ [edgeMask acc o.after.toList])

def ancs (ops : List Oper) : List Nat := ancsGo ops []

def ordB (ms : List Nat) (i j : Nat) : Bool := (nthN ms i).testBit j || (nthN ms j).testBit i

/-- the effects of a region: where they stand, and whether they are stores -/
def effList (plan : List (Nat × Nat)) : Nat → List Oper → List (Nat × Bool)
  | _, [] => []
  | i, o :: r => match isEff plan o with | true => (i, isStore o) :: effList plan (i + 1) r | false => effList plan (i + 1) r

/-- how free an operation is of the effects: 0: ordered against all; 1: free of stores alone; 2: free of others, too -/
def cls (ms : List Nat) (i : Nat) : List (Nat × Bool) → Nat
  | [] => 0
  | (e, st) :: r => match Nat.beq e i || ordB ms i e with
    | true => cls ms i r
    | false => match st with
      | true => (match cls ms i r with | 0 => 1 | n => n)
      | false => 2

/-- operations that look at no object -/
def hpFree (o : Oper) : Bool :=
  match o.op with
  | .move _ => true
  | .assign _ => true
  | .pick .. => true
  | .build .. => true
  | .binOp .. => true
  | .unOp .. => true
  | .convert .. => true
  | .makeFunc .. => true
  | .fieldAddr .. => true
  | .field .. => true
  | .index .. => true
  | .extract .. => true
  | .nilCheck _ => true
  | _ => false

def headK (cs : List PV) (K : PV → Prop) : Prop := match cs with | c :: _ => K c | [] => False

def loadVal (d : TD) (cs : List PV) (K : PV → Prop) : Prop :=
  match d with
  | .struct _ z _ => z.length ≤ cs.length ∧ K (.agg (cs.take z.length))
  | .arr _ _ _ z => z.length ≤ cs.length ∧ K (.agg (cs.take z.length))
  | .other => False
  | _ => headK cs K

def sizeTD : TD → Option Nat
  | .struct _ z _ => some z.length
  | .arr _ _ _ z => some z.length
  | .other => none
  | _ => some 1

def zeroTD : TD → Option (List PV)
  | .int k => some [.int k 0]
  | .bool => some [.bool false]
  | .str => some [.str ⟨#[]⟩]
  | .ptr => some [.nilptr]
  | .func => some [.nilfn]
  | .slice .. => some [.nilsl]
  | .arr _ _ _ z => some z
  | .struct _ z _ => some z
  | .other => none

def opnds (s : St) : List Operand → List PV
  | [] => []
  | x :: r => opnd s x :: opnds s r

def fillF (s : St) (fs : List (Nat × Nat × Bool)) : List (Nat × Operand) → List PV → Option (List PV)
  | [], z => some z
  | (i, x) :: r, z => match fs[i]? with
    | some (off, sz, _) => if (opnd s x).cells.length = sz ∧ leafs (opnd s x).cells = true then fillF s fs r (splice z off (opnd s x).cells) else none
    | none => none

def fillA (s : St) (n esz : Nat) : List (Nat × Operand) → List PV → Option (List PV)
  | [], z => some z
  | (i, x) :: r, z => if i < n then if (opnd s x).cells.length = esz ∧ leafs (opnd s x).cells = true then fillA s n esz r (splice z (i * esz) (opnd s x).cells) else none else none

def fillS (s : St) (esz : Nat) : List (Nat × Operand) → List (List PV) → Option (List (List PV))
  | [], z => some z
  | (i, x) :: r, z => if i < z.length then if (opnd s x).cells.length = esz ∧ leafs (opnd s x).cells = true then fillS s esz r (z.set i (opnd s x).cells) else none else none

def boundOf (s : St) (x : Option Operand) (d : Int) (K : Int → Prop) : Prop :=
  match x with
  | some y => match opnd s y with | .int _ n => K n | _ => False
  | none => K d

/-- an operation that changes no object of the call's own: the value that it yields -/
def valOp (E : Env) (C : Ctr) (o : Oper) (s : St) (K : PV → Prop) : Prop :=
  match o.op with
  | .move x => K (opnd s x)
  | .assign x => K (opnd s x)
  | .pick c a b => match opnd s c with | .bool true => K (opnd s a) | .bool false => K (opnd s b) | _ => False
  | .box _ x => (isImm (opnd s x) = true ∧ leafs (opnd s x).cells = true) ∧ K (.ptr (opnd s x).cells)
  | .build T ps => match E T with
    | .struct fs z _ => match fillF s fs ps.toList z with | some cs => K (.agg cs) | none => False
    | .arr n esz _ z => match fillA s n esz ps.toList z with | some cs => K (.agg cs) | none => False
    | _ => False
  | .buildSlice T n ps => match E T with
    | .slice _ esz _ z => match fillS s esz ps.toList (List.replicate n z) with
      | some es => (n * esz ≤ 16777216 ∧ isImms es.flatten = true) ∧ K (.sl esz es)
      | none => False
    | _ => False
  | .load T x => match opnd s x with
    | .ptr cs => loadVal (E T) cs K
    | .op g sz i f => match aget s.hp g with
      | some ob => if ob.sz = sz then match ob.es[i]? with
        | some c => loadVal (E T) (c.drop f) K
        | none => False
        else False
      | none => False
    | _ => False
  | .nilCheck x => match opnd s x with | .ptr cs => K (.ptr cs) | .op a b c d => K (.op a b c d) | .fn (.func f) b c => K (.fn (.func f) b c) | _ => False
  | .binOp op T x y _ => binVal (E T) op (opnd s x) (opnd s y) K
  | .unOp op _ x => match op, opnd s x with
    | .not, .bool b => K (.bool !b)
    | .neg, .int .i64 n => inI64 (-n) ∧ K (.int .i64 (-n))
    | _, _ => False
  | .convert S D x => match E S, E D, opnd s x with
    | .int _, .int k, .int _ n => K (.int k (k.wrap n))
    | _, _, _ => False
  | .makeFunc fn a b => K (.fn fn (opnds s a.toList) (opnds s b.toList))
  | .slice T x lo hi none => match E T with
    | .slice _ esz _ _ => match opnd s x with
      | .sl sz es => if sz ≠ esz then False else boundOf s lo 0 fun l => boundOf s hi es.length fun h => (0 ≤ l ∧ l ≤ h ∧ h ≤ es.length) ∧ K (.sl sz ((es.take h.toNat).drop l.toNat))
      | .nilsl => boundOf s lo 0 fun l => boundOf s hi 0 fun h => (l = 0 ∧ h = 0) ∧ K .nilsl
      | _ => False
    | _ => False
  | .fieldAddr S x f => match E S with
    | .struct fs _ _ => match fs[f]?, opnd s x with
      | some (off, _, _), .ptr cs => K (.ptr (cs.drop off))
      | some (off, _, _), .op g sz i fo => K (.op g sz i (fo + off))
      | _, _ => False
    | _ => False
  | .field T x f => match E T, opnd s x with
    | .struct fs _ _, .agg cs => match fs[f]? with
      | some (off, sz, true) => off + sz ≤ cs.length ∧ K (.agg ((cs.drop off).take sz))
      | some (off, _, false) => match cs[off]? with | some p => K p | none => False
      | none => False
    | _, _ => False
  | .indexAddr T x i => match E T, opnd s x, opnd s i with
    | .slice _ esz _ _, .sl sz es, .int _ n => if sz = esz then ∃ c, es[n.toNat]? = some c ∧ 0 ≤ n ∧ K (.ptr c) else False
    | .slice _ esz _ _, .os g, .int _ n => match aget s.hp g with
      | some ob => if ob.sz = esz then (0 ≤ n ∧ n < ob.es.length) ∧ K (.op g ob.sz n.toNat 0) else False
      | none => False
    | .arr len esz _ _, .ptr cs, .int _ n => (0 ≤ n ∧ n < len) ∧ K (.ptr (cs.drop (n.toNat * esz)))
    | .arr len esz _ _, .op g sz j f, .int _ n => (0 ≤ n ∧ n < len) ∧ K (.op g sz j (f + n.toNat * esz))
    | _, _, _ => False
  | .index T x i => match E T, opnd s x, opnd s i with
    | .arr len esz ag _, .agg cs, .int _ n => (0 ≤ n ∧ n < len) ∧ match ag with
      | true => n.toNat * esz + esz ≤ cs.length ∧ K (.agg ((cs.drop (n.toNat * esz)).take esz))
      | false => ∃ p, cs[n.toNat * esz]? = some p ∧ K p
    | _, _, _ => False
  | .extract t i => match opnd s t with
    | .tup cs => match cs[i]? with | some p => K p | none => False
    | _ => False
  | .call c => match c.callee with
    | .value f => match opnd s f with
      | .fn (.func g) first caps => CallV C g (first ++ opnds s c.args.toList ++ caps) (borrows s.hp (first ++ opnds s c.args.toList ++ caps)) K
      | _ => False
    | .builtin .len => match c.args.toList, c.argTypes.toList with
      | [x], [T] => match E T with
        | .slice .. => lenVal s.hp (opnd s x) K
        | .str => match opnd s x with | .str b => K (.int .i64 b.size) | _ => False
        | _ => False
      | _, _ => False
    | .builtin .min => match c.args.toList with
      | [x, y] => match opnd s x, opnd s y with
        | .int k a, .int k' b => k = k' ∧ K (.int k (if b < a then b else a))
        | _, _ => False
      | _ => False
    | _ => False
  | _ => False

def hand (s : St) (c : Call) : Bool :=
  match c.callee with
  | .value f => match opnd s f with
    | .fn (.func _) first caps => anyOp (first ++ opnds s c.args.toList ++ caps)
    | _ => false
  | _ => false

/-- a slice of the call's own among the arguments -/
def handX (s : St) (c : Call) : Bool :=
  match c.callee with
  | .value f => match opnd s f with
    | .fn (.func _) first caps => anyOs (first ++ opnds s c.args.toList ++ caps)
    | _ => false
  | _ => false

def stepOp (E : Env) (C : Ctr) (H : Hnd) (plan : List (Nat × Nat)) (o : Oper) (K : St → Prop) (s : St) : Prop :=
  match o.op with
  | .assign x => match opnd s x, o.dst, E o.type with
    | .nilsl, some d, .slice e esz _ _ => match aget plan d with
      | some g => K ((s.newG g ⟨e, esz, [], false⟩).put d (.os g))
      | none => K (s.put d .nilsl)
    | v, d, _ => K (s.putO d v)
  | .alloc T => match zeroTD (E T), o.dst with
    | some z, some d => 0 < z.length ∧ match aget plan d with
      | some g => K ((s.newG g ⟨T, z.length, [z], true⟩).put d (.op g z.length 0 0))
      | none => K ((s.newG d ⟨T, z.length, [z], true⟩).put d (.op d z.length 0 0))
    | _, _ => False
  | .box T x => match o.dst with
    | some d => match aget plan d with
      | some g => (0 < (opnd s x).cells.length ∧ leafs (opnd s x).cells = true) ∧ K ((s.newG g ⟨T, (opnd s x).cells.length, [killPs g (opnd s x).cells], true⟩).put d (.op g (opnd s x).cells.length 0 0))
      | none => valOp E C o s fun p => K (s.putO o.dst p)
    | none => False
  | .buildSlice T n ps => match o.dst with
    | some d => match aget plan d with
      | some g => match E T with
        | .slice e esz _ z => match fillS s esz ps.toList (List.replicate n z) with
          | some es => (n * esz ≤ 16777216 ∧ isImms es.flatten = true) ∧ K ((s.newG g ⟨e, esz, es, false⟩).put d (.os g))
          | none => False
        | _ => False
      | none => valOp E C o s fun p => K (s.putO o.dst p)
    | none => False
  | .store T a x => match opnd s a, sizeTD (E T) with
    | .op g sz i f, some n => match aget s.hp g with
      | some ob => if ob.sz ≠ sz then False else match ob.es[i]? with
        | some c => (f + n ≤ c.length ∧ (opnd s x).cells.length = n ∧ leafs (opnd s x).cells = true ∧ (ob.own || isImm (opnd s x)) = true) ∧
            K (St.putO ⟨s.vs, s.ts, arep s.hp g { ob with es := ob.es.set i (splice c f (opnd s x).cells) }⟩ o.dst (.tup []))
        | none => False
      | none => False
    | _, _ => False
  | .makeSlice T l c => match E T, opnd s l, opnd s c, o.dst with
    | .slice e esz eb z, .int _ l, .int _ c, some d =>
      let g := match aget plan d with | some g => g | none => d
      (0 ≤ l ∧ l = c ∧ eb * l ≤ 281474976710656 ∧ l ≤ 9223372036854775807) ∧ K ((s.newG g ⟨e, esz, List.replicate l.toNat z, false⟩).put d (.os g))
    | _, _, _, _ => False
  | .call c => match c.callee with
    | .builtin .append => match c.args.toList, c.argTypes.toList, o.dst with
      | [x, y], [T, T'], some d => T = T' ∧ match E T with
        | .slice e esz eb _ => match asEs esz (borrow s.hp (opnd s y)) with
          | some new => match opnd s x with
            | .os g => match aget s.hp g with
              | some ob => ((ob.es.length + new.length) * eb ≤ 140737488355328 ∧ ob.es.length + new.length ≤ 9223372036854775807 ∧ ob.own = false ∧ ob.ty = e ∧ ob.sz = esz) ∧ K ((s.newG g { ob with es := ob.es ++ new }).put d (.os g))
              | none => False
            | .nilsl =>
              let g := match aget plan d with | some g => g | none => d
              (new.length * eb ≤ 140737488355328 ∧ new.length ≤ 9223372036854775807) ∧ K ((s.newG g ⟨e, esz, new, false⟩).put d (.os g))
            | _ => False
          | none => False
        | _ => False
      | _, _, _ => False
    | .value f => match hand s c with
      | true => (match opnd s f with
        | .fn (.func g) first caps => CallH H g (first ++ opnds s c.args.toList ++ caps) s o.dst K
        | _ => False)
      | false => match handX s c with
        | true => (match opnd s f with
          | .fn (.func g) first caps => CallX C H g (first ++ opnds s c.args.toList ++ caps) (borrows s.hp (first ++ opnds s c.args.toList ++ caps)) s o.dst K
          | _ => False)
        | false => valOp E C o s fun p => K (s.putO o.dst p)
    | _ => valOp E C o s fun p => K (s.putO o.dst p)
  | .slice T x lo hi none => match planned plan o.dst with
    | false => valOp E C o s fun p => K (s.putO o.dst p)
    | true => match E T, opnd s x, o.dst with
      | .slice _ esz _ _, .os g, some d => match aget s.hp g with
        | some ob => boundOf s lo 0 fun l => boundOf s hi ob.es.length fun h => (l = 0 ∧ 0 ≤ h ∧ h ≤ ob.es.length) ∧ (ob.own = false ∧ ob.sz = esz) ∧
            K ((s.newG g ⟨ob.ty, ob.sz, ob.es.take h.toNat, ob.own⟩).put d (.os g))
        | none => False
      | _, _, _ => False
  | _ => valOp E C o s fun p => K (s.putO o.dst p)

def splitB (d : Option Nat) (K : St → Prop) (s : St) : Prop :=
  match d with
  | some i => match s.get i with
    | .bool c => match c with | true => K (s.put i (.bool true)) | false => K (s.put i (.bool false))
    | _ => K s
  | none => K s

def guardsOf : List Oper → List Nat
  | [] => []
  | o :: r => match o.guard with | some (j, _) => j :: guardsOf r | none => guardsOf r

def opDst (ops : List Oper) (j : Nat) : Option Nat := match ops[j]? with | some o => o.dst | none => none

def guarded (ops : List Oper) (o : Oper) (K1 K2 : St → Prop) (s : St) : Prop :=
  match o.guard with
  | none => K1 s
  | some (j, b) => match opDst ops j with
    | some d => match s.get d with
      | .bool true => match b with | true => K1 s | false => K2 s
      | .bool false => match b with | false => K1 s | true => K2 s
      | .tup [] => K2 s
      | _ => False
    | none => False

def wpr (E : Env) (C : Ctr) (H : Hnd) (plan : List (Nat × Nat)) (ops : List Oper) (gs : List Nat) : Nat → List Oper → (St → Prop) → St → Prop
  | _, [], K, s => K s
  | i, o :: r, K, s => guarded ops o (stepOp E C H plan o (fun s' => match gs.contains i with | true => splitB o.dst (wpr E C H plan ops gs (i + 1) r K) s' | false => wpr E C H plan ops gs (i + 1) r K s'))
      (fun s => wpr E C H plan ops gs (i + 1) r K (s.putO o.dst (.tup []))) s

/-- a region whose order is open: operations that change no object alone -/
def wprQ (E : Env) (C : Ctr) (ops : List Oper) (gs : List Nat) : Nat → List Oper → (St → Prop) → St → Prop
  | _, [], K, s => K s
  | i, o :: r, K, s => guarded ops o (fun s1 => valOp E C o s1 (fun p => match gs.contains i with | true => splitB o.dst (wprQ E C ops gs (i + 1) r K) (s1.putO o.dst p) | false => wprQ E C ops gs (i + 1) r K (s1.putO o.dst p)))
      (fun s => wprQ E C ops gs (i + 1) r K (s.putO o.dst (.tup []))) s

/-- what a free operation must not lean on -/
def looksOk (c : Nat) (o : Oper) (s : St) : Bool :=
  match c with
  | 0 => true
  | 1 => hpFree o || solids (opnds s o.op.operands.toList)
  | _ => solids (opnds s o.op.operands.toList)

def resOk (c : Nat) (p : PV) : Bool :=
  match c with
  | 0 => true
  | 1 => true
  | _ => solid p

def ifB (b : Bool) (P : Prop) : Prop := match b with | true => P | false => False

/-- a region whose order is open, with operations that make or change objects -/
def wprD (E : Env) (C : Ctr) (H : Hnd) (plan : List (Nat × Nat)) (ops : List Oper) (gs ms : List Nat) (es : List (Nat × Bool)) : Nat → List Oper → (St → Prop) → St → Prop
  | _, [], K, s => K s
  | i, o :: r, K, s => guarded ops o
      (fun s1 => ifB (looksOk (cls ms i es) o s1) (match isEff plan o with
        | true => stepOp E C H plan o (fun s' => match gs.contains i with | true => splitB o.dst (wprD E C H plan ops gs ms es (i + 1) r K) s' | false => wprD E C H plan ops gs ms es (i + 1) r K s') s1
        | false => valOp E C o s1 (fun p => ifB (resOk (cls ms i es) p) (match gs.contains i with | true => splitB o.dst (wprD E C H plan ops gs ms es (i + 1) r K) (s1.putO o.dst p) | false => wprD E C H plan ops gs ms es (i + 1) r K (s1.putO o.dst p)))))
      (fun s => wprD E C H plan ops gs ms es (i + 1) r K (s.putO o.dst (.tup []))) s

def anyEff (plan : List (Nat × Nat)) : List Oper → Bool
  | [] => false
  | o :: r => isEff plan o || anyEff plan r

def leP (p q : PV) : Prop := match q with | .junk => True | q => p = q

/-- what is known of t holds of s: each slot is the same, or nothing is known of it -/
def leVs : List (Nat × PV) → List (Nat × PV) → Prop
  | _, [] => True
  | (i, p) :: r, (j, q) :: r' => (i = j ∧ leP p q) ∧ leVs r r'
  | [], _ :: _ => False

def LeSt (s t : St) : Prop := leVs s.vs t.vs ∧ t.ts = [] ∧ subHp t.hp s.hp

def LoopQ {α : Type} (F : α → St) (I : α → Prop) (μ : α → Nat) (x : α) (Q : Exit → St → Prop) : Exit → St → Prop
  | .normal, s => ∃ y, (I y ∧ μ y < μ x) ∧ LeSt s (F y)
  | e, s => Q e s

inductive LoopK (body : (Exit → St → Prop) → St → Prop) (Q : Exit → St → Prop) (s : St) : Prop
  | intro (α : Type) (F : α → St) (I : α → Prop) (μ : α → Nat) (x0 : α) (h0 : LeSt s (F x0)) (hI : I x0) (h1 : ∀ x, I x → body (LoopQ F I μ x Q) (F x)) : LoopK body Q s

/-- the slots of a state, overwritten -/
def setVs : List (Nat × PV) → List (Nat × PV) → List (Nat × PV)
  | [], _ => []
  | (i, p) :: r, u => (i, match aget u i with | some q => q | none => p) :: setVs r u

def St.set (s : St) (u : List (Nat × PV)) (h : List (Nat × GObj)) : St := ⟨setVs s.vs u, [], h⟩

/-- the same, the state at the loop's head told by what is overwritten -/
theorem LoopK.upd {body : (Exit → St → Prop) → St → Prop} {Q : Exit → St → Prop} {s : St} (α : Type) (u : α → List (Nat × PV)) (h : α → List (Nat × GObj)) (I : α → Prop) (μ : α → Nat) (x0 : α) (h0 : LeSt s (s.set (u x0) (h x0))) (hI : I x0)
    (h1 : ∀ x, I x → body (LoopQ (fun x => s.set (u x) (h x)) I μ x Q) (s.set (u x) (h x))) : LoopK body Q s := .intro α (fun x => s.set (u x) (h x)) I μ x0 h0 hI h1

def QSeq (K : St → Prop) (Q : Exit → St → Prop) : Exit → St → Prop
  | .normal, s => K s
  | e, s => Q e s

def QBlock (n : Nat) (Q : Exit → St → Prop) : Exit → St → Prop
  | .exit m, s => match decide (m = n) with | true => Q .normal s | false => Q (.exit m) s
  | e, s => Q e s

def St.fresh (s : St) : St := { s with ts := [] }

def condK (p : PV) (K1 K2 : St → Prop) (s : St) : Prop :=
  match p with
  | .bool c => match c with | true => K1 s | false => K2 s
  | _ => False

def dstsOf : List Oper → List Nat
  | [] => []
  | o :: r => match o.dst with | some d => d :: dstsOf r | none => dstsOf r

/-- the slots that a text writes -/
def writes : Code → List Nat
  | .region _ ops _ => dstsOf ops.toList
  | .seq a b => writes a ++ writes b
  | .cond _ a b => writes a ++ writes b
  | .block _ c => writes c
  | .loop c => writes c
  | _ => []

def St.puts (s : St) : List Nat → List PV → St
  | i :: r, p :: ps => (s.put i p).puts r ps
  | _, _ => s

/-- the slots that speak of objects are not written -/
def freeOf (wr : List Nat) : List (Nat × PV) → Bool
  | [] => true
  | (i, p) :: r => (isImm p || !wr.contains i) && freeOf wr r

/-- the slots that speak of objects speak of them still -/
def keepsV : List (Nat × PV) → St → Prop
  | [], _ => True
  | (i, p) :: r, s => (match isImm p with | true => True | false => s.get i = p) ∧ keepsV r s

def RoundQ (s : St) (K : St → Prop) : Exit → St → Prop
  | .normal, s' => keepsV s.vs s' ∧ K s'
  | _, _ => False

/-- a loop over an iterator that hands out the given values, a round for each; each round begins with the slots that the loop began with -/
inductive RangeK (Sq : Nat → List PV → List (List PV) → Prop) (codeW : (Exit → St → Prop) → St → Prop) (wr : List Nat) (f : PV) (ps : List Nat) (Q : Exit → St → Prop) (s : St) : Prop
  | intro (g : Nat) (caps : List PV) (xs : List (List PV)) (α : Type) (h : α → List (Nat × GObj)) (I : Nat → α → Prop) (x0 : α) (hf : f = .fn (.func g) [] caps) (hs : Sq g caps xs) (himm : isImms caps = true)
      (hlen : ∀ ys, ys ∈ xs → ys.length = ps.length ∧ isImms ys = true) (hfree : freeOf (ps ++ wr) s.vs = true) (h0 : subHp (h x0) s.hp) (hI : I 0 x0)
      (hround : ∀ k x ys, xs[k]? = some ys → I k x → codeW (RoundQ s fun s' => ∃ y, I (k + 1) y ∧ subHp (h y) s'.hp) (St.puts ⟨s.vs, [], h x⟩ ps ys))
      (hdone : ∀ x, I xs.length x → Q .normal ⟨s.vs, [], h x⟩) : RangeK Sq codeW wr f ps Q s

def QSeq1 (K : St → Prop) : Exit → St → Prop
  | .normal, s => K s
  | _, _ => False

def wpc (E : Env) (C : Ctr) (H : Hnd) (Sq : Nat → List PV → List (List PV) → Prop) (plan : List (Nat × Nat)) : Code → (Exit → St → Prop) → St → Prop
  | .skip, Q, s => Q .normal s
  | .region _ ops draw, Q, s => match draw with
    | false => wpr E C H plan ops.toList (guardsOf ops.toList) 0 ops.toList (Q .normal) s.fresh
    | true => match anyEff plan ops.toList with
      | false => wprQ E C ops.toList (guardsOf ops.toList) 0 ops.toList (Q .normal) s.fresh
      | true => wprD E C H plan ops.toList (guardsOf ops.toList) (ancs ops.toList) (effList plan 0 ops.toList) 0 ops.toList (Q .normal) s.fresh
  | .seq a b, Q, s => wpc E C H Sq plan a (QSeq (wpc E C H Sq plan b Q) Q) s
  | .cond x a b, Q, s => condK (opnd s x) (wpc E C H Sq plan a Q) (wpc E C H Sq plan b Q) s
  | .block n c, Q, s => wpc E C H Sq plan c (QBlock n Q) s
  | .loop c, Q, s => LoopK (wpc E C H Sq plan c) Q s
  | .exit n, Q, s => Q (.exit n) s
  | .ret, Q, s => Q .ret s
  | .rangeFunc f ps a c, Q, s => RangeK Sq (fun Q => wpc E C H Sq plan a (QSeq1 (wpc E C H Sq plan c Q))) (writes a ++ writes c) (opnd s f) ps.toList Q s
  | _, _, _ => False

end Go.Proofs.Ytbliiejdmgnkgaa.Pv
