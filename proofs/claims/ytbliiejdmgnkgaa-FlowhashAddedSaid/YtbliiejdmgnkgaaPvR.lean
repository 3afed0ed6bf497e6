/-
  The layer of values: what an evaluator says of a function holds of every run of it. For every program of the model that meets the named conditions.
-/
import Derived.Test.YtbliiejdmgnkgaaPvQ
namespace Go.Proofs.Ytbliiejdmgnkgaa.Pv
open Go
/-- the arithmetic of the evaluator, kept from being computed while the program's text is -/
structure Ar where
  i : (Unit → Int) → Int
  n : (Unit → Nat) → Nat
  b : (Unit → Bool) → Bool
  s : (Unit → ByteArray) → ByteArray
  p : (Unit → Prop) → Prop
  e : (Unit → List (List PV)) → List (List PV)
  c : (Unit → List PV) → List PV
  q : PV → (Unit → PV) → Prop
def ar : Ar := ⟨fun f => f (), fun f => f (), fun f => f (), fun f => f (), fun f => f (), fun f => f (), fun f => f (), fun p f => p = f ()⟩

def binIntA (A : Ar) (op : BinOp) (k : IntKind) (a b : Int) (K : PV → Prop) : Prop :=
  match op with
  | .add => match k with | .i64 => A.p (fun _ => inI64 (a + b)) ∧ K (.int .i64 (A.i fun _ => a + b)) | k => K (.int k (A.i fun _ => k.wrap (a + b)))
  | .sub => match k with | .i64 => A.p (fun _ => inI64 (a - b)) ∧ K (.int .i64 (A.i fun _ => a - b)) | k => K (.int k (A.i fun _ => k.wrap (a - b)))
  | .mul => match k with | .i64 => A.p (fun _ => inI64 (a * b)) ∧ K (.int .i64 (A.i fun _ => a * b)) | k => K (.int k (A.i fun _ => k.wrap (a * b)))
  | .quo => match k with | .i64 => A.p (fun _ => b ≠ 0 ∧ inI64 (a.tdiv b)) ∧ K (.int .i64 (A.i fun _ => a.tdiv b)) | k => A.p (fun _ => b ≠ 0) ∧ K (.int k (A.i fun _ => k.wrap (a.tdiv b)))
  | .rem => A.p (fun _ => b ≠ 0) ∧ K (.int k (A.i fun _ => a.tmod b))
  | .eql => K (.bool (A.b fun _ => decide (a = b)))
  | .neq => K (.bool (A.b fun _ => !decide (a = b)))
  | .lss => K (.bool (A.b fun _ => decide (a < b)))
  | .leq => K (.bool (A.b fun _ => decide (a ≤ b)))
  | .gtr => K (.bool (A.b fun _ => decide (b < a)))
  | .geq => K (.bool (A.b fun _ => decide (b ≤ a)))
  | .and => K (.int k (A.i fun _ => k.wrap ((BitVec.ofInt k.bits a &&& BitVec.ofInt k.bits b).toNat : Int)))
  | .or => K (.int k (A.i fun _ => k.wrap ((BitVec.ofInt k.bits a ||| BitVec.ofInt k.bits b).toNat : Int)))
  | .xor => K (.int k (A.i fun _ => k.wrap ((BitVec.ofInt k.bits a ^^^ BitVec.ofInt k.bits b).toNat : Int)))
  | _ => False

def shiftIntA (A : Ar) (op : BinOp) (k : IntKind) (a b : Int) (K : PV → Prop) : Prop :=
  match op with
  | .shl => A.p (fun _ => 0 ≤ b) ∧ K (.int k (A.i fun _ => k.wrap (a * 2 ^ (min b.toNat k.bits))))
  | .shr => A.p (fun _ => 0 ≤ b) ∧ K (.int k (A.i fun _ => a.fdiv (2 ^ (min b.toNat k.bits))))
  | _ => False

def cellsEqA (A : Ar) : List PV → List PV → Option Bool
  | [], [] => some true
  | .int k a :: r, .int k' b :: r' => match decide (k = k'), cellsEqA A r r' with | true, some c => some (A.b fun _ => decide (a = b) && c) | _, _ => none
  | _, _ => none

def binValA (A : Ar) (d : TD) (op : BinOp) (a b : PV) (K : PV → Prop) : Prop :=
  match a, b with
  | .int k x, .int k' y => match op with
    | .shl => shiftIntA A .shl k x y K
    | .shr => shiftIntA A .shr k x y K
    | op => k = k' ∧ binIntA A op k x y K
  | .bool x, .bool y => match d with | .bool => eqOut op (A.b fun _ => decide (x = y)) K | _ => False
  | .str x, .str y => match op with
    | .eql => K (.bool (A.b fun _ => decide (x = y)))
    | .neq => K (.bool (A.b fun _ => !decide (x = y)))
    | .add => A.p (fun _ => x.size + y.size ≤ 9223372036854775807) ∧ K (.str (A.s fun _ => x ++ y))
    | _ => False
  | .agg x, .agg y => match d with
    | .struct _ z true => if x.length = z.length then match cellsEqA A x y with | some c => eqOut op c K | none => False else False
    | _ => False
  | x, .nilptr => match d, isNilP x with | .ptr, some c => eqOut op c K | _, _ => False
  | x, .nilfn => match d, isNilF x with | .func, some c => eqOut op c K | _, _ => False
  | _, _ => False

def lenValA (A : Ar) (hp : List (Nat × GObj)) (p : PV) (K : PV → Prop) : Prop :=
  match p with
  | .sl _ es => K (.int .i64 (A.i fun _ => es.length))
  | .nilsl => K (.int .i64 0)
  | .os g => match aget hp g with | some o => K (.int .i64 (A.i fun _ => o.es.length)) | none => False
  | _ => False

/-- an operation that changes no object of the call's own: the value that it yields -/
def valOpA (A : Ar) (E : Env) (C : Ctr) (o : Oper) (s : St) (K : PV → Prop) : Prop :=
  match o.op with
  | .move x => K (opnd s x)
  | .assign x => K (opnd s x)
  | .pick c a b => match opnd s c with | .bool true => K (opnd s a) | .bool false => K (opnd s b) | _ => False
  | .box _ x => (isImm (opnd s x) = true ∧ leafs (opnd s x).cells = true) ∧ K (.ptr (opnd s x).cells)
  | .build T ps => match E T with
    | .struct fs z _ => match fillF s fs ps.toList z with | some cs => K (.agg cs) | none => False
    | .arr n esz _ z => match fillA s n esz ps.toList z with | some cs => K (.agg cs) | none => False
    | _ => False
  | .buildSlice T n ps => match E T with
    | .slice _ esz _ z => match fillS s esz ps.toList (List.replicate n z) with
      | some es => (n * esz ≤ 16777216 ∧ isImms es.flatten = true) ∧ K (.sl esz es)
      | none => False
    | _ => False
  | .load T x => match opnd s x with
    | .ptr cs => loadVal (E T) cs K
    | .op g sz i f => match aget s.hp g with
      | some ob => if ob.sz = sz then match ob.own with
        | true => match ob.es[i]? with
          | some c => loadVal (E T) (c.drop f) K
          | none => False
        | false => ∃ c, ob.es[i]? = some c ∧ loadVal (E T) (c.drop f) K
        else False
      | none => False
    | _ => False
  | .nilCheck x => match opnd s x with | .ptr cs => K (.ptr cs) | .op a b c d => K (.op a b c d) | .fn (.func f) b c => K (.fn (.func f) b c) | _ => False
  | .binOp op T x y _ => binValA A (E T) op (opnd s x) (opnd s y) K
  | .unOp op _ x => match op, opnd s x with
    | .not, .bool b => K (.bool (A.b fun _ => !b))
    | .neg, .int .i64 n => A.p (fun _ => inI64 (-n)) ∧ K (.int .i64 (A.i fun _ => -n))
    | _, _ => False
  | .convert S D x => match E S, E D, opnd s x with
    | .int _, .int k, .int _ n => K (.int k (A.i fun _ => k.wrap n))
    | _, _, _ => False
  | .makeFunc fn a b => K (.fn fn (opnds s a.toList) (opnds s b.toList))
  | .slice T x lo hi none => match E T with
    | .slice _ esz _ _ => match opnd s x with
      | .sl sz es => if sz ≠ esz then False else boundOf s lo 0 fun l => boundOf s hi (A.i fun _ => es.length) fun h => A.p (fun _ => 0 ≤ l ∧ l ≤ h ∧ h ≤ es.length) ∧ K (.sl sz (A.e fun _ => (es.take h.toNat).drop l.toNat))
      | .nilsl => boundOf s lo 0 fun l => boundOf s hi 0 fun h => A.p (fun _ => l = 0 ∧ h = 0) ∧ K .nilsl
      | _ => False
    | _ => False
  | .fieldAddr S x f => match E S with
    | .struct fs _ _ => match fs[f]?, opnd s x with
      | some (off, _, _), .ptr cs => K (.ptr (cs.drop off))
      | some (off, _, _), .op g sz i fo => K (.op g sz i (fo + off))
      | _, _ => False
    | _ => False
  | .field T x f => match E T, opnd s x with
    | .struct fs _ _, .agg cs => match fs[f]? with
      | some (off, sz, true) => off + sz ≤ cs.length ∧ K (.agg ((cs.drop off).take sz))
      | some (off, _, false) => match cs[off]? with | some p => K p | none => False
      | none => False
    | _, _ => False
  | .indexAddr T x i => match E T, opnd s x, opnd s i with
    | .slice _ esz _ _, .sl sz es, .int _ n => if sz = esz then ∃ c, es[n.toNat]? = some c ∧ 0 ≤ n ∧ K (.ptr c) else False
    | .slice _ esz _ _, .os g, .int _ n => match aget s.hp g with
      | some ob => if ob.sz = esz then A.p (fun _ => 0 ≤ n ∧ n < ob.es.length) ∧ K (.op g ob.sz (A.n fun _ => n.toNat) 0) else False
      | none => False
    | .arr len esz _ _, .ptr cs, .int _ n => A.p (fun _ => 0 ≤ n ∧ n < len) ∧ K (.ptr (A.c fun _ => cs.drop (n.toNat * esz)))
    | .arr len esz _ _, .op g sz j f, .int _ n => A.p (fun _ => 0 ≤ n ∧ n < len) ∧ K (.op g sz j (A.n fun _ => f + n.toNat * esz))
    | _, _, _ => False
  | .index T x i => match E T, opnd s x, opnd s i with
    | .arr len esz ag _, .agg cs, .int _ n => A.p (fun _ => 0 ≤ n ∧ n < len) ∧ match ag with
      | true => A.p (fun _ => n.toNat * esz + esz ≤ cs.length) ∧ K (.agg (A.c fun _ => (cs.drop (n.toNat * esz)).take esz))
      | false => ∃ p, cs[n.toNat * esz]? = some p ∧ K p
    | _, _, _ => False
  | .extract t i => match opnd s t with
    | .tup cs => match cs[i]? with | some p => K p | none => False
    | _ => False
  | .call c => match c.callee with
    | .value f => match opnd s f with
      | .fn (.func g) first caps => CallV C g (first ++ opnds s c.args.toList ++ caps) (borrows s.hp (first ++ opnds s c.args.toList ++ caps)) K
      | _ => False
    | .builtin .len => match c.args.toList, c.argTypes.toList with
      | [x], [T] => match E T with
        | .slice .. => lenValA A s.hp (opnd s x) K
        | .str => match opnd s x with | .str b => K (.int .i64 (A.i fun _ => b.size)) | _ => False
        | _ => False
      | _, _ => False
    | .builtin .min => match c.args.toList with
      | [x, y] => match opnd s x, opnd s y with
        | .int k a, .int k' b => k = k' ∧ K (.int k (A.i fun _ => if b < a then b else a))
        | _, _ => False
      | _ => False
    | _ => False
  | _ => False

def stepOpA (A : Ar) (E : Env) (C : Ctr) (H : Hnd) (plan : List (Nat × Nat)) (o : Oper) (K : St → Prop) (s : St) : Prop :=
  match o.op with
  | .assign x => match opnd s x, o.dst, E o.type with
    | .nilsl, some d, .slice e esz _ _ => match aget plan d with
      | some g => K ((s.newG g ⟨e, esz, [], false⟩).put d (.os g))
      | none => K (s.put d .nilsl)
    | v, d, _ => K (s.putO d v)
  | .alloc T => match zeroTD (E T), o.dst with
    | some z, some d => 0 < z.length ∧ match aget plan d with
      | some g => K ((s.newG g ⟨T, z.length, [z], true⟩).put d (.op g z.length 0 0))
      | none => K ((s.newG d ⟨T, z.length, [z], true⟩).put d (.op d z.length 0 0))
    | _, _ => False
  | .box T x => match o.dst with
    | some d => match aget plan d with
      | some g => (0 < (opnd s x).cells.length ∧ leafs (opnd s x).cells = true) ∧ K ((s.newG g ⟨T, (opnd s x).cells.length, [killPs g (opnd s x).cells], true⟩).put d (.op g (opnd s x).cells.length 0 0))
      | none => valOpA A E C o s fun p => K (s.putO o.dst p)
    | none => False
  | .buildSlice T n ps => match o.dst with
    | some d => match aget plan d with
      | some g => match E T with
        | .slice e esz _ z => match fillS s esz ps.toList (List.replicate n z) with
          | some es => (n * esz ≤ 16777216 ∧ isImms es.flatten = true) ∧ K ((s.newG g ⟨e, esz, es, false⟩).put d (.os g))
          | none => False
        | _ => False
      | none => valOpA A E C o s fun p => K (s.putO o.dst p)
    | none => False
  | .store T a x => match opnd s a, sizeTD (E T) with
    | .op g sz i f, some n => match aget s.hp g with
      | some ob => if ob.sz ≠ sz then False else match ob.own with
        | true => match ob.es[i]? with
          | some c => (f + n ≤ c.length ∧ (opnd s x).cells.length = n ∧ leafs (opnd s x).cells = true ∧ (true || isImm (opnd s x)) = true) ∧
            K (St.putO ⟨s.vs, s.ts, arep s.hp g ⟨ob.ty, ob.sz, ob.es.set i (splice c f (opnd s x).cells), true⟩⟩ o.dst (.tup []))
          | none => False
        | false => ∃ c, ob.es[i]? = some c ∧ (f + n ≤ c.length ∧ (opnd s x).cells.length = n ∧ leafs (opnd s x).cells = true ∧ (false || isImm (opnd s x)) = true) ∧
            K (St.putO ⟨s.vs, s.ts, arep s.hp g ⟨ob.ty, ob.sz, A.e fun _ => ob.es.set i (splice c f (opnd s x).cells), false⟩⟩ o.dst (.tup []))
      | none => False
    | _, _ => False
  | .makeSlice T l c => match E T, opnd s l, opnd s c, o.dst with
    | .slice e esz eb z, .int _ l, .int _ c, some d =>
      let g := match aget plan d with | some g => g | none => d
      A.p (fun _ => 0 ≤ l ∧ l = c ∧ eb * l ≤ 281474976710656 ∧ l ≤ 9223372036854775807) ∧ K ((s.newG g ⟨e, esz, A.e fun _ => List.replicate l.toNat z, false⟩).put d (.os g))
    | _, _, _, _ => False
  | .call c => match c.callee with
    | .builtin .append => match c.args.toList, c.argTypes.toList, o.dst with
      | [x, y], [T, T'], some d => T = T' ∧ match E T with
        | .slice e esz eb _ => match asEs esz (borrow s.hp (opnd s y)) with
          | some new => match opnd s x with
            | .os g => match aget s.hp g with
              | some ob => (A.p (fun _ => (ob.es.length + new.length) * eb ≤ 140737488355328 ∧ ob.es.length + new.length ≤ 9223372036854775807) ∧ ob.own = false ∧ ob.ty = e ∧ ob.sz = esz) ∧ K ((s.newG g ⟨ob.ty, ob.sz, A.e fun _ => ob.es ++ new, ob.own⟩).put d (.os g))
              | none => False
            | .nilsl =>
              let g := match aget plan d with | some g => g | none => d
              A.p (fun _ => new.length * eb ≤ 140737488355328 ∧ new.length ≤ 9223372036854775807) ∧ K ((s.newG g ⟨e, esz, new, false⟩).put d (.os g))
            | _ => False
          | none => False
        | _ => False
      | _, _, _ => False
    | .value f => match hand s c with
      | true => (match opnd s f with
        | .fn (.func g) first caps => CallH H g (first ++ opnds s c.args.toList ++ caps) s o.dst K
        | _ => False)
      | false => match handX s c with
        | true => (match opnd s f with
          | .fn (.func g) first caps => CallX C H g (first ++ opnds s c.args.toList ++ caps) (borrows s.hp (first ++ opnds s c.args.toList ++ caps)) s o.dst K
          | _ => False)
        | false => valOpA A E C o s fun p => K (s.putO o.dst p)
    | _ => valOpA A E C o s fun p => K (s.putO o.dst p)
  | .slice T x lo hi none => match planned plan o.dst with
    | false => valOpA A E C o s fun p => K (s.putO o.dst p)
    | true => match E T, opnd s x, o.dst with
      | .slice _ esz _ _, .os g, some d => match aget s.hp g with
        | some ob => boundOf s lo 0 fun l => boundOf s hi (A.i fun _ => ob.es.length) fun h => A.p (fun _ => l = 0 ∧ 0 ≤ h ∧ h ≤ ob.es.length) ∧ (ob.own = false ∧ ob.sz = esz) ∧
            K ((s.newG g ⟨ob.ty, ob.sz, A.e fun _ => ob.es.take h.toNat, ob.own⟩).put d (.os g))
        | none => False
      | _, _, _ => False
  | _ => valOpA A E C o s fun p => K (s.putO o.dst p)

def wprA (A : Ar) (E : Env) (C : Ctr) (H : Hnd) (plan : List (Nat × Nat)) (ops : List Oper) (gs : List Nat) : Nat → List Oper → (St → Prop) → St → Prop
  | _, [], K, s => K s
  | i, o :: r, K, s => guarded ops o (stepOpA A E C H plan o (fun s' => match gs.contains i with | true => splitB o.dst (wprA A E C H plan ops gs (i + 1) r K) s' | false => wprA A E C H plan ops gs (i + 1) r K s'))
      (fun s => wprA A E C H plan ops gs (i + 1) r K (s.putO o.dst (.tup []))) s

/-- a region whose order is open: operations that change no object alone -/
def wprQA (A : Ar) (E : Env) (C : Ctr) (ops : List Oper) (gs : List Nat) : Nat → List Oper → (St → Prop) → St → Prop
  | _, [], K, s => K s
  | i, o :: r, K, s => guarded ops o (fun s1 => valOpA A E C o s1 (fun p => match gs.contains i with | true => splitB o.dst (wprQA A E C ops gs (i + 1) r K) (s1.putO o.dst p) | false => wprQA A E C ops gs (i + 1) r K (s1.putO o.dst p)))
      (fun s => wprQA A E C ops gs (i + 1) r K (s.putO o.dst (.tup []))) s

/-- a region whose order is open, with operations that make or change objects -/
def wprDA (A : Ar) (E : Env) (C : Ctr) (H : Hnd) (plan : List (Nat × Nat)) (ops : List Oper) (gs ms : List Nat) (es : List (Nat × Bool)) : Nat → List Oper → (St → Prop) → St → Prop
  | _, [], K, s => K s
  | i, o :: r, K, s => guarded ops o
      (fun s1 => ifB (looksOk (cls ms i es) o s1) (match isEff plan o with
        | true => stepOpA A E C H plan o (fun s' => match gs.contains i with | true => splitB o.dst (wprDA A E C H plan ops gs ms es (i + 1) r K) s' | false => wprDA A E C H plan ops gs ms es (i + 1) r K s') s1
        | false => valOpA A E C o s1 (fun p => ifB (resOk (cls ms i es) p) (match gs.contains i with | true => splitB o.dst (wprDA A E C H plan ops gs ms es (i + 1) r K) (s1.putO o.dst p) | false => wprDA A E C H plan ops gs ms es (i + 1) r K (s1.putO o.dst p)))))
      (fun s => wprDA A E C H plan ops gs ms es (i + 1) r K (s.putO o.dst (.tup []))) s

def wpcA (A : Ar) (E : Env) (C : Ctr) (H : Hnd) (Sq : Nat → List PV → List (List PV) → Prop) (plan : List (Nat × Nat)) : Code → (Exit → St → Prop) → St → Prop
  | .skip, Q, s => Q .normal s
  | .region _ ops draw, Q, s => match draw with
    | false => wprA A E C H plan ops.toList (guardsOf ops.toList) 0 ops.toList (Q .normal) s.fresh
    | true => match anyEff plan ops.toList with
      | false => wprQA A E C ops.toList (guardsOf ops.toList) 0 ops.toList (Q .normal) s.fresh
      | true => wprDA A E C H plan ops.toList (guardsOf ops.toList) (ancs ops.toList) (effList plan 0 ops.toList) 0 ops.toList (Q .normal) s.fresh
  | .seq a b, Q, s => wpcA A E C H Sq plan a (QSeq (wpcA A E C H Sq plan b Q) Q) s
  | .cond x a b, Q, s => condK (opnd s x) (wpcA A E C H Sq plan a Q) (wpcA A E C H Sq plan b Q) s
  | .block n c, Q, s => wpcA A E C H Sq plan c (QBlock n Q) s
  | .loop c, Q, s => LoopK (wpcA A E C H Sq plan c) Q s
  | .exit n, Q, s => Q (.exit n) s
  | .ret, Q, s => Q .ret s
  | .rangeFunc f ps a c, Q, s => RangeK Sq (fun Q => wpcA A E C H Sq plan a (QSeq1 (wpcA A E C H Sq plan c Q))) (writes a ++ writes c) (opnd s f) ps.toList Q s
  | _, _, _ => False

theorem binIntA_eq : binIntA ar = binInt := rfl
theorem shiftIntA_eq : shiftIntA ar = shiftInt := rfl
theorem cellsEqA_eq : ∀ a b, cellsEqA ar a b = cellsEq a b := by
  intro a
  induction a with
  | nil => intro b; cases b <;> rfl
  | cons x r ih => intro b; cases b with
    | nil => cases x <;> rfl
    | cons y r' => cases x <;> cases y <;> first | rfl | (simp only [cellsEqA, cellsEq, ih]; rfl)
theorem binValA_eq : binValA ar = binVal := by
  funext d op a b K
  unfold binValA binVal
  simp only [cellsEqA_eq]
  rfl
theorem lenValA_eq : lenValA ar = lenVal := rfl
theorem exMatch {α : Type} (x : Option α) (P : α → Prop) : (∃ c, x = some c ∧ P c) = (match x with | some c => P c | none => False) := by
  cases x <;> simp
theorem matchOpt {α : Type} (x : Option α) (P Q : α → Prop) (h : ∀ c, P c = Q c) : (match x with | some c => P c | none => False) = (match x with | some c => Q c | none => False) := by
  cases x <;> simp [h]
theorem valOpA_eq (E : Env) (C : Ctr) (o : Oper) (s : St) (K : PV → Prop) : valOpA ar E C o s K = valOp E C o s K := by
  have h : ∀ ob : GObj, ∀ (T i f : Nat), (match ob.own with
        | true => match ob.es[i]? with
          | some c => loadVal (E T) (c.drop f) K
          | none => False
        | false => ∃ c, ob.es[i]? = some c ∧ loadVal (E T) (c.drop f) K) = (match ob.es[i]? with | some c => loadVal (E T) (c.drop f) K | none => False) := by
    intro ob T i f
    cases ob.own
    · dsimp only; cases ob.es[i]? <;> simp
    · rfl
  unfold valOpA valOp
  simp only [binValA_eq, lenValA_eq, h]
  rfl
theorem stepOpA_eq (E : Env) (C : Ctr) (H : Hnd) (plan : List (Nat × Nat)) (o : Oper) (K : St → Prop) (s : St) : stepOpA ar E C H plan o K s = stepOp E C H plan o K s := by
  have h : ∀ (ob : GObj) (g i f n : Nat) (x : Operand), (match ob.own with
        | true => match ob.es[i]? with
          | some c => (f + n ≤ c.length ∧ (opnd s x).cells.length = n ∧ leafs (opnd s x).cells = true ∧ (true || isImm (opnd s x)) = true) ∧
            K (St.putO ⟨s.vs, s.ts, arep s.hp g ⟨ob.ty, ob.sz, ob.es.set i (splice c f (opnd s x).cells), true⟩⟩ o.dst (.tup []))
          | none => False
        | false => ∃ c, ob.es[i]? = some c ∧ (f + n ≤ c.length ∧ (opnd s x).cells.length = n ∧ leafs (opnd s x).cells = true ∧ (false || isImm (opnd s x)) = true) ∧
            K (St.putO ⟨s.vs, s.ts, arep s.hp g ⟨ob.ty, ob.sz, ar.e fun _ => ob.es.set i (splice c f (opnd s x).cells), false⟩⟩ o.dst (.tup []))) =
      (match ob.es[i]? with
        | some c => (f + n ≤ c.length ∧ (opnd s x).cells.length = n ∧ leafs (opnd s x).cells = true ∧ (ob.own || isImm (opnd s x)) = true) ∧
            K (St.putO ⟨s.vs, s.ts, arep s.hp g { ob with es := ob.es.set i (splice c f (opnd s x).cells) }⟩ o.dst (.tup []))
        | none => False) := by
    intro ob g i f n x
    obtain ⟨ty, sz, es, own⟩ := ob
    cases own
    · dsimp only; cases es[i]? <;> simp [ar]
    · rfl
  unfold stepOpA stepOp
  simp only [valOpA_eq, h]
  simp only [show ar.p = fun f => f () from rfl, and_assoc]
  rfl
theorem stepOpA_fun (E : Env) (C : Ctr) (H : Hnd) (plan : List (Nat × Nat)) : stepOpA ar E C H plan = stepOp E C H plan := by
  funext o K s; exact stepOpA_eq E C H plan o K s
theorem valOpA_fun (E : Env) (C : Ctr) : valOpA ar E C = valOp E C := by
  funext o K s; exact valOpA_eq E C o K s
theorem wprA_eq (E : Env) (C : Ctr) (H : Hnd) (plan : List (Nat × Nat)) (ops : List Oper) (gs : List Nat) : ∀ (l : List Oper) (i : Nat) (K : St → Prop), wprA ar E C H plan ops gs i l K = wpr E C H plan ops gs i l K := by
  intro l
  induction l with
  | nil => intros; rfl
  | cons o r ih => intro i K; funext s; simp only [wprA, wpr, stepOpA_fun, ih]; rfl
theorem wprQA_eq (E : Env) (C : Ctr) (ops : List Oper) (gs : List Nat) : ∀ (l : List Oper) (i : Nat) (K : St → Prop), wprQA ar E C ops gs i l K = wprQ E C ops gs i l K := by
  intro l
  induction l with
  | nil => intros; rfl
  | cons o r ih => intro i K; funext s; simp only [wprQA, wprQ, valOpA_fun, ih]; rfl
theorem wprDA_eq (E : Env) (C : Ctr) (H : Hnd) (plan : List (Nat × Nat)) (ops : List Oper) (gs ms : List Nat) (es : List (Nat × Bool)) : ∀ (l : List Oper) (i : Nat) (K : St → Prop), wprDA ar E C H plan ops gs ms es i l K = wprD E C H plan ops gs ms es i l K := by
  intro l
  induction l with
  | nil => intros; rfl
  | cons o r ih => intro i K; funext s; simp only [wprDA, wprD, stepOpA_fun, valOpA_fun, ih]; rfl
theorem wpcA_eq (E : Env) (C : Ctr) (H : Hnd) (Sq : Nat → List PV → List (List PV) → Prop) (plan : List (Nat × Nat)) : ∀ (c : Code) (Q : Exit → St → Prop), wpcA ar E C H Sq plan c Q = wpc E C H Sq plan c Q
  | .skip, Q => rfl
  | .region _ ops draw, Q => by funext s; simp only [wpcA, wpc, wprA_eq, wprQA_eq, wprDA_eq]; rfl
  | .seq a b, Q => by funext s; simp only [wpcA, wpc, wpcA_eq E C H Sq plan a, wpcA_eq E C H Sq plan b]
  | .cond x a b, Q => by funext s; simp only [wpcA, wpc, wpcA_eq E C H Sq plan a, wpcA_eq E C H Sq plan b]
  | .block n c, Q => by funext s; simp only [wpcA, wpc, wpcA_eq E C H Sq plan c]
  | .loop c, Q => by
    funext s
    have : wpcA ar E C H Sq plan c = wpc E C H Sq plan c := funext (wpcA_eq E C H Sq plan c)
    simp only [wpcA, wpc, this]
  | .exit n, Q => rfl
  | .ret, Q => rfl
  | .rangeFunc f ps a c, Q => by
    funext s
    simp only [wpcA, wpc, wpcA_eq E C H Sq plan a, wpcA_eq E C H Sq plan c]
  | .scope .., Q => rfl
  | .label .., Q => rfl
  | .goto .., Q => rfl
  | .refuse .., Q => rfl
theorem ar_i (f : Unit → Int) : ar.i f = f () := rfl
theorem ar_n (f : Unit → Nat) : ar.n f = f () := rfl
theorem ar_b (f : Unit → Bool) : ar.b f = f () := rfl
theorem ar_s (f : Unit → ByteArray) : ar.s f = f () := rfl
theorem ar_p (f : Unit → Prop) : ar.p f = f () := rfl
theorem ar_e (f : Unit → List (List PV)) : ar.e f = f () := rfl
theorem ar_c (f : Unit → List PV) : ar.c f = f () := rfl
theorem ar_q (p : PV) (f : Unit → PV) : ar.q p f = (p = f ()) := rfl
end Go.Proofs.Ytbliiejdmgnkgaa.Pv
