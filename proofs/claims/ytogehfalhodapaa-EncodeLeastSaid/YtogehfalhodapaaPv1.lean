/-
  The layer of values: what an evaluator says of a function holds of every run of it. For every program of the model that meets the named conditions.
-/
import Derived.WalkKit
import Derived.KernelRfl
import Derived.Orders
import Derived.CallsIn
import Derived.ControlIn
import Derived.OrdersIn
import Derived.TacticsIn
import Derived.Sort.LoopGhostIn
import Derived.Still
import Derived.Deep.LoopGhost
namespace Go.Proofs.Ytogehfalhodapaa.Pv

inductive PV where
  | int (k : IntKind) (n : Int)
  | bool (b : Bool)
  | str (s : ByteArray)
  | nilptr | nilfn | nilsl | junk
  | sl (sz : Nat) (es : List (List PV))
  | ptr (cs : List PV)
  | agg (cs : List PV)
  | tup (cs : List PV)
  | fn (f : Fn) (first caps : List PV)
  | os (g : Nat)
  | op (g sz i f : Nat)

structure GObj where
  ty : TypeId
  sz : Nat
  es : List (List PV)
  own : Bool

structure St where
  vs : List (Nat × PV)
  ts : List (Nat × PV)
  hp : List (Nat × GObj)

abbrev Mem := Nat → Option Obj

mutual
/-- a value that leans on memory that is never written again -/
inductive RepI (M : Mem) : PV → Value → Prop
  | int (k : IntKind) (n : Int) : RepI M (.int k n) (.int k n)
  | bool (b : Bool) : RepI M (.bool b) (.bool b)
  | str (s : ByteArray) : RepI M (.str s) (.string s)
  | nilptr : RepI M .nilptr (.pointer none)
  | nilfn : RepI M .nilfn .nilFunc
  | nilsl : RepI M .nilsl (.slice none 0 0)
  | junk (v : Value) : RepI M .junk v
  | agg (cs : List PV) (vs : List Value) : RepIs M cs vs → RepI M (.agg cs) (.agg vs.toArray)
  | tup (cs : List PV) (vs : List Value) : RepIs M cs vs → RepI M (.tup cs) (.tuple vs.toArray)
  | fn (f : Fn) (as bs : List PV) (va vb : List Value) : RepIs M as va → RepIs M bs vb → RepI M (.fn f as bs) (.func f va.toArray vb.toArray)
  | sl0 (sz : Nat) (ao : Option Addr) (c : Nat) : RepI M (.sl sz []) (.slice ao 0 c)
  | sl (sz : Nat) (es : List (List PV)) (b off c : Nat) (cells : Array Value) (T : TypeId) (fr : Nat × Nat) (vs : List Value) :
      M b = some (.cells cells T fr) → es.length ≤ c → 0 < sz → (∀ e ∈ es, e.length = sz) → RepIs M es.flatten vs → (∀ v ∈ vs, v.oneCell' = true) →
      (∀ i v, vs[i]? = some v → cells[off + i]? = some v) → RepI M (.sl sz es) (.slice (some ⟨b, off, none⟩) es.length c)
  | ptr (cs : List PV) (b off : Nat) (cells : Array Value) (T : TypeId) (fr : Nat × Nat) (vs : List Value) :
      M b = some (.cells cells T fr) → RepIs M cs vs → (∀ v ∈ vs, v.oneCell' = true) →
      (∀ i v, vs[i]? = some v → cells[off + i]? = some v) → RepI M (.ptr cs) (.pointer (some ⟨b, off, none⟩))
inductive RepIs (M : Mem) : List PV → List Value → Prop
  | nil : RepIs M [] []
  | cons (p : PV) (v : Value) (ps : List PV) (vs : List Value) : RepI M p v → RepIs M ps vs → RepIs M (p :: ps) (v :: vs)
end

def Mem.le (M M' : Mem) : Prop := ∀ b o, M b = some o → M' b = some o

theorem Mem.le_refl (M : Mem) : M.le M := fun _ _ h => h
theorem Mem.le_trans {M M' M'' : Mem} (h : M.le M') (h' : M'.le M'') : M.le M'' := fun b o x => h' b o (h b o x)

mutual
theorem RepI.mono {M M' : Mem} (h : M.le M') : ∀ {p : PV} {v : Value}, RepI M p v → RepI M' p v
  | _, _, .int k n => .int k n
  | _, _, .bool b => .bool b
  | _, _, .str s => .str s
  | _, _, .nilptr => .nilptr
  | _, _, .nilfn => .nilfn
  | _, _, .nilsl => .nilsl
  | _, _, .junk v => .junk v
  | _, _, .agg cs vs hh => .agg cs vs (RepIs.mono h hh)
  | _, _, .tup cs vs hh => .tup cs vs (RepIs.mono h hh)
  | _, _, .fn f a b va vb h1 h2 => .fn f a b va vb (RepIs.mono h h1) (RepIs.mono h h2)
  | _, _, .sl0 sz ao c => .sl0 sz ao c
  | _, _, .sl sz es b off c cells T fr vs h1 h2 h3 h4 h5 h6 h7 => .sl sz es b off c cells T fr vs (h _ _ h1) h2 h3 h4 (RepIs.mono h h5) h6 h7
  | _, _, .ptr cs b off cells T fr vs h1 h2 h3 h4 => .ptr cs b off cells T fr vs (h _ _ h1) (RepIs.mono h h2) h3 h4
theorem RepIs.mono {M M' : Mem} (h : M.le M') : ∀ {p : List PV} {v : List Value}, RepIs M p v → RepIs M' p v
  | _, _, .nil => .nil
  | _, _, .cons p v ps vs h1 h2 => .cons p v ps vs (RepI.mono h h1) (RepIs.mono h h2)
end

mutual
/-- a value that may speak of objects of the call's own -/
inductive RepS (M : Mem) (δ : Nat → Value) : PV → Value → Prop
  | imm (p : PV) (v : Value) : RepI M p v → RepS M δ p v
  | os (g : Nat) (ao : Option Addr) (n c : Nat) : δ g = .slice ao n c → RepS M δ (.os g) (.slice ao n c)
  | op (g sz i f b n c : Nat) : δ g = .slice (some ⟨b, 0, none⟩) n c → RepS M δ (.op g sz i f) (.pointer (some ⟨b, i * sz + f, none⟩))
  | agg (cs : List PV) (vs : List Value) : RepSs M δ cs vs → RepS M δ (.agg cs) (.agg vs.toArray)
  | tup (cs : List PV) (vs : List Value) : RepSs M δ cs vs → RepS M δ (.tup cs) (.tuple vs.toArray)
  | fn (f : Fn) (as bs : List PV) (va vb : List Value) : RepSs M δ as va → RepSs M δ bs vb → RepS M δ (.fn f as bs) (.func f va.toArray vb.toArray)
inductive RepSs (M : Mem) (δ : Nat → Value) : List PV → List Value → Prop
  | nil : RepSs M δ [] []
  | cons (p : PV) (v : Value) (ps : List PV) (vs : List Value) : RepS M δ p v → RepSs M δ ps vs → RepSs M δ (p :: ps) (v :: vs)
end

mutual
theorem RepS.mono {M M' : Mem} {δ : Nat → Value} (h : M.le M') : ∀ {p : PV} {v : Value}, RepS M δ p v → RepS M' δ p v
  | _, _, .imm p v hh => .imm p v (hh.mono h)
  | _, _, .os g ao n c hh => .os g ao n c hh
  | _, _, .op g sz i f b n c hh => .op g sz i f b n c hh
  | _, _, .agg cs vs hh => .agg cs vs (RepSs.mono h hh)
  | _, _, .tup cs vs hh => .tup cs vs (RepSs.mono h hh)
  | _, _, .fn f a b va vb h1 h2 => .fn f a b va vb (RepSs.mono h h1) (RepSs.mono h h2)
theorem RepSs.mono {M M' : Mem} {δ : Nat → Value} (h : M.le M') : ∀ {p : List PV} {v : List Value}, RepSs M δ p v → RepSs M' δ p v
  | _, _, .nil => .nil
  | _, _, .cons p v ps vs h1 h2 => .cons p v ps vs (RepS.mono h h1) (RepSs.mono h h2)
end

theorem RepIs.toS {M : Mem} {δ : Nat → Value} : ∀ {ps : List PV} {vs : List Value}, RepIs M ps vs → RepSs M δ ps vs
  | _, _, .nil => .nil
  | _, _, .cons p v ps vs h1 h2 => .cons p v ps vs (.imm p v h1) h2.toS

def aget {α : Type} : List (Nat × α) → Nat → Option α
  | [], _ => none
  | (j, p) :: r, i => if j = i then some p else aget r i

def arep {α : Type} : List (Nat × α) → Nat → α → List (Nat × α)
  | [], _, _ => []
  | (j, p) :: r, i, q => if j = i then (j, q) :: r else (j, p) :: arep r i q

def adel {α : Type} : List (Nat × α) → Nat → List (Nat × α)
  | [], _ => []
  | (j, p) :: r, i => if j = i then adel r i else (j, p) :: adel r i

def St.get (s : St) (i : Nat) : PV :=
  match aget s.vs i with
  | some p => p
  | none => match aget s.ts i with
    | some p => p
    | none => .junk

def St.put (s : St) (i : Nat) (p : PV) : St :=
  match aget s.vs i with
  | some _ => { s with vs := arep s.vs i p }
  | none => { s with ts := (i, p) :: s.ts }

def St.putO (s : St) (d : Option Nat) (p : PV) : St :=
  match d with
  | some i => s.put i p
  | none => s

mutual
def kill (g : Nat) : PV → PV
  | .os g' => if g' = g then .junk else .os g'
  | .op g' sz i f => if g' = g then .junk else .op g' sz i f
  | .agg cs => .agg (killL g cs)
  | .tup cs => .tup (killL g cs)
  | .fn f a b => .fn f (killL g a) (killL g b)
  | p => p
def killL (g : Nat) : List PV → List PV
  | [] => []
  | p :: r => kill g p :: killL g r
end

def killV (g : Nat) : List (Nat × PV) → List (Nat × PV)
  | [] => []
  | (i, p) :: r => (i, kill g p) :: killV g r

def killE (g : Nat) : List (List PV) → List (List PV)
  | [] => []
  | p :: r => killL g p :: killE g r

/-- objects that hold cells which may speak of other objects are told by their type: only those of one element are looked into -/
def killH (g : Nat) : List (Nat × GObj) → List (Nat × GObj)
  | [] => []
  | (i, o) :: r => if i = g then killH g r else (i, { o with es := killE g o.es }) :: killH g r

def St.kill (s : St) (g : Nat) : St := ⟨killV g s.vs, killV g s.ts, killH g s.hp⟩

def PV.cells : PV → List PV
  | .agg cs => cs
  | p => [p]

def splice (l : List PV) (off : Nat) (n : List PV) : List PV := l.take off ++ n ++ l.drop (off + n.length)

/-- what the evaluator knows of a type -/
inductive TD where
  | int (k : IntKind) | bool | str | ptr | func
  | slice (elem : TypeId) (esz ebytes : Nat) (ezero : List PV)
  | arr (n : Nat) (esz : Nat) (eagg : Bool) (zero : List PV)
  | struct (fs : List (Nat × Nat × Bool)) (zero : List PV) (cmp : Bool)
  | other

def ofCell : Value → PV
  | .int k n => .int k n
  | .bool b => .bool b
  | .string s => .str s
  | .slice none 0 0 => .nilsl
  | .pointer none => .nilptr
  | .nilFunc => .nilfn
  | _ => .junk

def ofCells : List Value → List PV
  | [] => []
  | v :: r => ofCell v :: ofCells r

def ofConst : Value → PV
  | .agg cs => .agg (ofCells cs.toList)
  | v => ofCell v

def opnd (s : St) : Operand → PV
  | .tmp i => s.get i
  | .const v => ofConst v
  | .func f => .fn (.func f) [] []
  | .global _ => .junk

theorem ofCell_rep (M : Mem) (v : Value) : RepI M (ofCell v) v := by
  unfold ofCell
  split <;> constructor

theorem ofCells_rep (M : Mem) : ∀ vs : List Value, RepIs M (ofCells vs) vs
  | [] => .nil
  | v :: r => .cons _ _ _ _ (ofCell_rep M v) (ofCells_rep M r)

theorem ofConst_rep (M : Mem) (v : Value) : RepI M (ofConst v) v := by
  unfold ofConst
  split
  · rename_i cs
    have := RepI.agg _ _ (ofCells_rep M cs.toList)
    simpa using this
  · exact ofCell_rep M _

theorem aget_arep {α : Type} (l : List (Nat × α)) (i : Nat) (q : α) (h : aget l i ≠ none) (j : Nat) : aget (arep l i q) j = if i = j then some q else aget l j := by
  induction l with
  | nil => simp [aget] at h
  | cons x r ih =>
    obtain ⟨k, p⟩ := x
    simp only [arep, aget] at *
    by_cases hk : k = i
    · subst hk
      simp only [if_true]
      simp only [aget]
      by_cases hj : k = j <;> simp [hj]
    · rw [if_neg hk] at h ⊢
      simp only [aget]
      by_cases hj : k = j
      · subst hj; simp [Ne.symm hk]
      · simp only [hj, if_false]
        exact ih h

theorem St.get_put (s : St) (i : Nat) (p : PV) (j : Nat) : (s.put i p).get j = if i = j then p else s.get j := by
  unfold St.put St.get
  cases h : aget s.vs i with
  | some q =>
    simp only [aget_arep s.vs i p (by simp [h])]
    by_cases hj : i = j
    · simp [hj]
    · simp [hj]
  | none =>
    simp only [aget]
    by_cases hj : i = j
    · subst hj; simp [h]
    · simp [hj]

theorem St.put_hp (s : St) (i : Nat) (p : PV) : (s.put i p).hp = s.hp := by
  unfold St.put
  split <;> rfl

theorem St.putO_hp (s : St) (i : Option Nat) (p : PV) : (s.putO i p).hp = s.hp := by
  unfold St.putO
  split
  · exact St.put_hp _ _ _
  · rfl

/-- what is the caller's alone: no call touches it -/
structure Frm where
  mem : Nat → Option Obj
  os : Os
  out : Array (Nat × ByteArray)
instance : CoeFun Frm (fun _ => Nat → Option Obj) := ⟨Frm.mem⟩

/-- the memory that a state speaks of -/
structure Inv (M : Mem) (F : Frm) (δ : Nat → Value) (hp : List (Nat × GObj)) (w : World) : Prop where
  m : ∀ b o, M b = some o → w.heap[b]? = some o
  f : ∀ b o, F b = some o → w.heap[b]? = some o
  mf : ∀ b, M b ≠ none → F b = none
  io : w.os = F.os ∧ w.output = F.out
  own : ∀ g o, aget hp g = some o → ∃ xs, w.ownsRow 0 o.ty o.sz (δ g) o.es.length xs ∧ (∀ e ∈ o.es, e.length = o.sz) ∧ 0 < o.sz ∧ RepSs M δ o.es.flatten xs ∧ (o.own = false → RepIs M o.es.flatten xs) ∧
    (∀ v ∈ xs, v.oneCell' = true) ∧ ∀ b, (δ g).ownBlock = some b → M b = none ∧ F b = none
  dis : ∀ g g' o o', g ≠ g' → aget hp g = some o → aget hp g' = some o' → ∀ b, (δ g).ownBlock = some b → (δ g').ownBlock ≠ some b

/-- how many slots there are; which of them are never written, and what they hold -/
structure Cx where
  n : Nat
  ro : List Nat
  val : Nat → Value
  m0 : Mem

/-- the marks of loops over functions among the deferred calls: their blocks are known, and new -/
def DefOk (m0 M : Mem) (ds : List Deferred) : Prop := m0.le M ∧ ds.Nodup ∧ ∀ d ∈ ds, ∃ D, d = { target := .collected D, args := #[] } ∧ M D = some (.deferred (some [])) ∧ m0 D = none
theorem DefOk.mono {m0 M M' : Mem} {ds : List Deferred} (hm : M.le M') (h : DefOk m0 M ds) : DefOk m0 M' ds :=
  ⟨Mem.le_trans h.1 hm, h.2.1, fun d hd => let ⟨D, h1, h2, h3⟩ := h.2.2 d hd; ⟨D, h1, hm D _ h2, h3⟩⟩

def Cx.Ok (N : Cx) (i : Nat) : Prop := i < N.n ∧ N.ro.contains i = false

structure Rel (N : Cx) (s : St) (a : Act) (w : World) (M : Mem) (F : Frm) (δ : Nat → Value) : Prop where
  def0 : DefOk N.m0 M a.defers
  size : a.tmps.size = N.n
  ro : ∀ i, N.ro.contains i = true → a.tmps.getD i undef = N.val i
  slot : ∀ i, RepS M δ (s.get i) (a.tmps.getD i undef)
  inv : Inv M F δ s.hp w

theorem Rel.opnd {N : Cx} {s : St} {a : Act} {w : World} {M : Mem} {F : Frm} {δ : Nat → Value} (h : Rel N s a w M F δ) (x : Operand) : RepS M δ (opnd s x) (a.eval x) := by
  cases x with
  | tmp i => exact h.slot i
  | const v => exact .imm _ _ (ofConst_rep M v)
  | func f => exact .imm _ _ (.fn _ [] [] [] [] .nil .nil)
  | global g => exact .imm _ _ (.junk _)

def GoodK (N : Cx) (M : Mem) (F : Frm) (K : St → Prop) (a : Act) (w : World) : Prop := ∃ s M' δ, K s ∧ M.le M' ∧ Rel N s a w M' F δ

def dstOk (n : Nat) (ro : List Nat) (o : Oper) : Bool := match o.dst with | some d => decide (d < n) && !ro.contains d | none => true

theorem Rel.put {N : Cx} {s : St} {a : Act} {w : World} {M : Mem} {F : Frm} {δ : Nat → Value} {d : Option Nat} {p : PV} {v : Value}
    (h : Rel N s a w M F δ) (hd : ∀ i, d = some i → N.Ok i) (hp : RepS M δ p v) : Rel N (s.putO d p) (a.put d v) w M F δ := by
  cases d with
  | none => exact h
  | some i =>
    have hi := hd i rfl
    refine ⟨by simpa [Act.put] using h.def0, by simpa [Act.put] using h.size, ?_, ?_, by rw [St.putO_hp]; exact h.inv⟩
    · intro j hj
      have hne : i ≠ j := by intro e; subst e; rw [hi.2] at hj; cases hj
      have := h.ro j hj
      simpa [Act.put, Array.getD_eq_getD_getElem?, Array.getElem?_setIfInBounds, hne] using this
    intro j
    simp only [St.putO, St.get_put, Act.put]
    by_cases hj : i = j
    · subst hj
      have : i < a.tmps.size := by rw [h.size]; exact hi.1
      simpa [Array.getD_eq_getD_getElem?, this] using hp
    · simp only [hj, if_false]
      have := h.slot j
      simpa [Array.getD_eq_getD_getElem?, Array.getElem?_setIfInBounds, hj] using this

/-- the same slots, in another memory -/
theorem Rel.world {N : Cx} {s : St} {a : Act} {w w' : World} {M M' : Mem} {F : Frm} {δ : Nat → Value} {hp' : List (Nat × GObj)}
    (h : Rel N s a w M F δ) (hm : M.le M') (hi : Inv M' F δ hp' w') : Rel N { s with hp := hp' } a w' M' F δ :=
  ⟨h.def0.mono hm, h.size, h.ro, fun i => (h.slot i).mono hm, hi⟩

end Go.Proofs.Ytogehfalhodapaa.Pv
namespace Go.Proofs.Ytogehfalhodapaa.Pv

mutual
def mapO (u : Nat → PV) (q : Nat → Nat → Nat → Nat → PV) : PV → PV
  | .os g => u g
  | .op g sz i f => q g sz i f
  | .agg cs => .agg (mapOs u q cs)
  | .tup cs => .tup (mapOs u q cs)
  | .fn f a b => .fn f (mapOs u q a) (mapOs u q b)
  | p => p
def mapOs (u : Nat → PV) (q : Nat → Nat → Nat → Nat → PV) : List PV → List PV
  | [] => []
  | p :: r => mapO u q p :: mapOs u q r
end

mutual
/-- speaks of no object of the call's own -/
def isImm : PV → Bool
  | .os _ => false
  | .op .. => false
  | .agg cs => isImms cs
  | .tup cs => isImms cs
  | .fn _ a b => isImms a && isImms b
  | _ => true
def isImms : List PV → Bool
  | [] => true
  | p :: r => isImm p && isImms r
end

mutual
/-- speaks of no memory -/
def scalar : PV → Bool
  | .int .. => true
  | .bool _ => true
  | .str _ => true
  | .agg cs => scalars cs
  | .tup cs => scalars cs
  | _ => false
def scalars : List PV → Bool
  | [] => true
  | p :: r => scalar p && scalars r
end

/-- one cell's value -/
def leaf : PV → Bool
  | .junk => false
  | .agg _ => false
  | .tup _ => false
  | _ => true
def leafs : List PV → Bool
  | [] => true
  | p :: r => leaf p && leafs r

def hasOp : PV → Bool
  | .op .. => true
  | .fn _ _ b => !isImms b
  | _ => false

def anyOp : List PV → Bool
  | [] => false
  | p :: r => hasOp p || anyOp r

def killP (g : Nat) (p : PV) : PV :=
  mapO (fun g' => if g' = g then .junk else .os g') (fun g' sz i f => if g' = g then .junk else .op g' sz i f) p

def mapV (h : PV → PV) : List (Nat × PV) → List (Nat × PV)
  | [] => []
  | (i, p) :: r => (i, h p) :: mapV h r

def mapE (h : List PV → List PV) : List (List PV) → List (List PV)
  | [] => []
  | e :: r => h e :: mapE h r

/-- the objects whose cells may speak of objects are those of one element (structs, boxes) -/
def GObj.map (h : List PV → List PV) (o : GObj) : GObj := if o.own then { o with es := mapE h o.es } else o

def mapH (h : List PV → List PV) : List (Nat × GObj) → List (Nat × GObj)
  | [] => []
  | (i, o) :: r => (i, o.map h) :: mapH h r

def killPs (g : Nat) : List PV → List PV := mapOs (fun g' => if g' = g then .junk else .os g') (fun g' sz i f => if g' = g then .junk else .op g' sz i f)

def St.drop (s : St) (g : Nat) : St := ⟨mapV (killP g) s.vs, mapV (killP g) s.ts, mapH (killPs g) (adel s.hp g)⟩

def St.newG (s : St) (g : Nat) (o : GObj) : St := { s.drop g with hp := (g, o) :: (s.drop g).hp }

/-- a slice of one's own is never written again from here on -/
def frzOU (g sz : Nat) (es : List (List PV)) (g' : Nat) : PV := if g' = g then .sl sz es else .os g'
def frzOQ (g g' sz i f : Nat) : PV := if g' = g then .junk else .op g' sz i f
def frzO (g sz : Nat) (es : List (List PV)) : PV → PV := mapO (frzOU g sz es) (frzOQ g)
def frzOs (g sz : Nat) (es : List (List PV)) : List PV → List PV := mapOs (frzOU g sz es) (frzOQ g)
def St.freeze (s : St) (g : Nat) : St :=
  match aget s.hp g with
  | some o => (match o.own with
    | true => s
    | false => ⟨mapV (frzO g o.sz o.es) s.vs, mapV (frzO g o.sz o.es) s.ts, mapH (frzOs g o.sz o.es) (adel s.hp g)⟩)
  | none => s
/-- the plan may ask for it ahead of a region: 700000 + the region's number -/
def frzAt (plan : List (Nat × Nat)) (n : Nat) (s : St) : St := match aget plan (700000 + n) with | some g => s.freeze g | none => s

abbrev Env := Nat → TD
abbrev Ctr := Nat → List PV → PV → Prop
abbrev Hnd := Nat → List PV → List (Nat × GObj) → PV → List (Nat × GObj) → Prop

def asEs (esz : Nat) : PV → Option (List (List PV))
  | .sl sz es => if sz = esz then some es else none
  | .nilsl => some []
  | _ => none

def inI64 (n : Int) : Prop := -9223372036854775808 ≤ n ∧ n ≤ 9223372036854775807

def binInt (op : BinOp) (k : IntKind) (a b : Int) (K : PV → Prop) : Prop :=
  match op with
  | .add => match k with | .i64 => inI64 (a + b) ∧ K (.int .i64 (a + b)) | k => K (.int k (k.wrap (a + b)))
  | .sub => match k with | .i64 => inI64 (a - b) ∧ K (.int .i64 (a - b)) | k => K (.int k (k.wrap (a - b)))
  | .mul => match k with | .i64 => inI64 (a * b) ∧ K (.int .i64 (a * b)) | k => K (.int k (k.wrap (a * b)))
  | .quo => match k with | .i64 => (b ≠ 0 ∧ inI64 (a.tdiv b)) ∧ K (.int .i64 (a.tdiv b)) | k => b ≠ 0 ∧ K (.int k (k.wrap (a.tdiv b)))
  | .rem => b ≠ 0 ∧ K (.int k (a.tmod b))
  | .eql => K (.bool (decide (a = b)))
  | .neq => K (.bool (!decide (a = b)))
  | .lss => K (.bool (decide (a < b)))
  | .leq => K (.bool (decide (a ≤ b)))
  | .gtr => K (.bool (decide (b < a)))
  | .geq => K (.bool (decide (b ≤ a)))
  | .and => K (.int k (k.wrap ((BitVec.ofInt k.bits a &&& BitVec.ofInt k.bits b).toNat : Int)))
  | .or => K (.int k (k.wrap ((BitVec.ofInt k.bits a ||| BitVec.ofInt k.bits b).toNat : Int)))
  | .xor => K (.int k (k.wrap ((BitVec.ofInt k.bits a ^^^ BitVec.ofInt k.bits b).toNat : Int)))
  | _ => False

def shiftInt (op : BinOp) (k : IntKind) (a b : Int) (K : PV → Prop) : Prop :=
  match op with
  | .shl => 0 ≤ b ∧ K (.int k (k.wrap (a * 2 ^ (min b.toNat k.bits))))
  | .shr => 0 ≤ b ∧ K (.int k (a.fdiv (2 ^ (min b.toNat k.bits))))
  | _ => False

def cellsEq : List PV → List PV → Option Bool
  | [], [] => some true
  | .int k a :: r, .int k' b :: r' => match decide (k = k'), cellsEq r r' with | true, some c => some (decide (a = b) && c) | _, _ => none
  | _, _ => none

def isNilP : PV → Option Bool
  | .nilptr => some true
  | .ptr _ => some false
  | .op .. => some false
  | _ => none

def isNilF : PV → Option Bool
  | .nilfn => some true
  | .fn .. => some false
  | _ => none

def eqOut (op : BinOp) (c : Bool) (K : PV → Prop) : Prop :=
  match op with | .eql => K (.bool c) | .neq => K (.bool (!c)) | _ => False

def binVal (d : TD) (op : BinOp) (a b : PV) (K : PV → Prop) : Prop :=
  match a, b with
  | .int k x, .int k' y => match op with
    | .shl => shiftInt .shl k x y K
    | .shr => shiftInt .shr k x y K
    | op => k = k' ∧ binInt op k x y K
  | .bool x, .bool y => match d with | .bool => eqOut op (decide (x = y)) K | _ => False
  | .str x, .str y => match op with
    | .eql => K (.bool (decide (x = y)))
    | .neq => K (.bool (!decide (x = y)))
    | .add => x.size + y.size ≤ 9223372036854775807 ∧ K (.str (x ++ y))
    | _ => False
  | .agg x, .agg y => match d with
    | .struct _ z true => if x.length = z.length then match cellsEq x y with | some c => eqOut op c K | none => False else False
    | _ => False
  | x, .nilptr => match d, isNilP x with | .ptr, some c => eqOut op c K | _, _ => False
  | x, .nilfn => match d, isNilF x with | .func, some c => eqOut op c K | _, _ => False
  | _, _ => False

def lenVal (hp : List (Nat × GObj)) (p : PV) (K : PV → Prop) : Prop :=
  match p with
  | .sl _ es => K (.int .i64 es.length)
  | .nilsl => K (.int .i64 0)
  | .os g => match aget hp g with | some o => K (.int .i64 o.es.length) | none => False
  | _ => False

def borrow (hp : List (Nat × GObj)) : PV → PV
  | .os g => match aget hp g with | some o => if o.own then .os g else .sl o.sz o.es | none => .os g
  | p => p

def borrows (hp : List (Nat × GObj)) : List PV → List PV
  | [] => []
  | p :: r => borrow hp p :: borrows hp r

inductive CallV (C : Ctr) (f : Nat) (args args' : List PV) (k : PV → Prop) : Prop
  | intro (r : PV) (h : C f args' r) (h1 : isImms args' = true) (h2 : (isImms args || scalar r) = true) (h3 : k r) : CallV C f args args' k

def killW (k1 k2 : Nat → Bool) (p : PV) : PV := mapO (fun g => match k1 g with | true => .junk | false => .os g) (fun g sz i f => match k2 g with | true => .junk | false => .op g sz i f) p
def killWs (k1 k2 : Nat → Bool) (p : List PV) : List PV := mapOs (fun g => match k1 g with | true => .junk | false => .os g) (fun g sz i f => match k2 g with | true => .junk | false => .op g sz i f) p

def hasId (hp : List (Nat × GObj)) (g : Nat) : Bool := match aget hp g with | some _ => true | none => false
def ownId (hp : List (Nat × GObj)) (g : Nat) : Bool := match aget hp g with | some o => o.own | none => false

def subHp : List (Nat × GObj) → List (Nat × GObj) → Prop
  | [], _ => True
  | (g, o) :: r, hp => aget hp g = some o ∧ subHp r hp

def freshHp (hpi hp : List (Nat × GObj)) : List (Nat × GObj) → Bool
  | [] => true
  | (g, _) :: r => (hasId hpi g || !hasId hp g) && freshHp hpi hp r

def delHp (hpi : List (Nat × GObj)) : List (Nat × GObj) → List (Nat × GObj)
  | [] => []
  | (g, o) :: r => if hasId hpi g then delHp hpi r else (g, o) :: delHp hpi r

def inSet (hpi hp' : List (Nat × GObj)) (g : Nat) : Bool := hasId hpi g || hasId hp' g

/-- a slice with such a number is handed over for its elements alone: the slice itself stays the same -/
def keptId (g : Nat) : Bool := Nat.ble 70 g && Nat.ble g 79
def turned (hpi hp' : List (Nat × GObj)) (g : Nat) : Bool := inSet hpi hp' g && !(keptId g && hasId hpi g)

def St.handed (s : St) (hpi hp' : List (Nat × GObj)) : St :=
  ⟨mapV (killW (turned hpi hp') fun g => inSet hpi hp' g && !ownId hpi g) s.vs, mapV (killW (turned hpi hp') fun g => inSet hpi hp' g && !ownId hpi g) s.ts,
    mapH (killWs (fun g => !inSet hpi hp' g) fun g => !inSet hpi hp' g) hp' ++ mapH (killWs (turned hpi hp') fun g => inSet hpi hp' g && !ownId hpi g) (delHp hpi s.hp)⟩

/-- the call of a function that writes into objects of the caller's own: which ones are handed over, what they hold behind the call -/
inductive CallH (H : Hnd) (f : Nat) (args : List PV) (s : St) (d : Option Nat) (K : St → Prop) : Prop
  | intro (hpi : List (Nat × GObj)) (r : PV) (hp' : List (Nat × GObj)) (h : H f args hpi r hp') (h0 : subHp hpi s.hp) (h1 : freshHp hpi s.hp hp' = true)
      (h3 : K ((s.handed hpi hp').putO d (killW (fun g => !inSet hpi hp' g) (fun g => !inSet hpi hp' g) r))) : CallH H f args s d K

/-- a slice of one's own among the arguments: it is lent, or it is handed over -/
inductive CallX (C : Ctr) (H : Hnd) (f : Nat) (args args' : List PV) (s : St) (d : Option Nat) (K : St → Prop) : Prop
  | val (h : CallV C f args args' fun p => K (s.putO d p)) : CallX C H f args args' s d K
  | hnd (h : CallH H f args s d K) : CallX C H f args args' s d K

def isOs : PV → Bool
  | .os _ => true
  | _ => false

def anyOs : List PV → Bool
  | [] => false
  | p :: r => isOs p || anyOs r

mutual
/-- immutable, and nothing in it is unknown -/
def solid : PV → Bool
  | .os _ => false
  | .op .. => false
  | .junk => false
  | .agg cs => solids cs
  | .tup cs => solids cs
  | .fn _ a b => solids a && solids b
  | _ => true
def solids : List PV → Bool
  | [] => true
  | p :: r => solid p && solids r
end

def planned (plan : List (Nat × Nat)) (d : Option Nat) : Bool :=
  match d with
  | some i => (match aget plan i with | some _ => true | none => false)
  | none => false

/-- an operation that makes or changes an object -/
def isEff (plan : List (Nat × Nat)) (o : Oper) : Bool :=
  match o.op with
  | .store .. => true
  | .alloc _ => true
  | .makeSlice .. => true
  | .assign _ => planned plan o.dst
  | .box .. => planned plan o.dst
  | .buildSlice .. => planned plan o.dst
  | .slice .. => planned plan o.dst
  | .call c => match c.callee with | .builtin .append => true | .value _ => planned plan o.dst | _ => false
  | _ => false

def isStore (o : Oper) : Bool := match o.op with | .store .. => true | _ => false

/-- the number of the object that an operation makes, where the text tells it -/
def newId (plan : List (Nat × Nat)) (o : Oper) : Option Nat :=
  match o.op with
  | .alloc _ => (match o.dst with | some d => (match aget plan d with | some g => some g | none => some d) | none => none)
  | .makeSlice .. => (match o.dst with | some d => (match aget plan d with | some g => some g | none => some d) | none => none)
  | .box .. => (match o.dst with | some d => aget plan d | none => none)
  | .buildSlice .. => (match o.dst with | some d => aget plan d | none => none)
  | _ => none

def nthN (l : List Nat) (i : Nat) : Nat := match l[i]? with | some m => m | none => 0

/-- what must have been done before: as a set of bits -/
def edgeMask (acc : List Nat) : List Edge → Nat
  | [] => 0
  | e :: r => match Region.binds .any e with | true => 2 ^ e.on ||| nthN acc e.on ||| edgeMask acc r | false => edgeMask acc r

def ancsGo : List Oper → List Nat → List Nat
  | [], acc => acc
  | o :: r, acc => ancsGo r (acc ++ [edgeMask acc o.after.toList])

def ancs (ops : List Oper) : List Nat := ancsGo ops []

def ordB (ms : List Nat) (i j : Nat) : Bool := (nthN ms i).testBit j || (nthN ms j).testBit i

/-- the effects of a region: where they stand, and whether they are stores -/
def effList (plan : List (Nat × Nat)) : Nat → List Oper → List (Nat × Bool)
  | _, [] => []
  | i, o :: r => match isEff plan o with | true => (i, isStore o) :: effList plan (i + 1) r | false => effList plan (i + 1) r

/-- how free an operation is of the effects: 0: ordered against all; 1: free of stores alone; 2: free of others, too -/
def cls (ms : List Nat) (i : Nat) : List (Nat × Bool) → Nat
  | [] => 0
  | (e, st) :: r => match Nat.beq e i || ordB ms i e with
    | true => cls ms i r
    | false => match st with
      | true => (match cls ms i r with | 0 => 1 | n => n)
      | false => 2

/-- operations that look at no object -/
def hpFree (o : Oper) : Bool :=
  match o.op with
  | .move _ => true
  | .assign _ => true
  | .pick .. => true
  | .build .. => true
  | .binOp .. => true
  | .unOp .. => true
  | .convert .. => true
  | .makeFunc .. => true
  | .fieldAddr .. => true
  | .field .. => true
  | .index .. => true
  | .extract .. => true
  | .nilCheck _ => true
  | _ => false

def headK (cs : List PV) (K : PV → Prop) : Prop := match cs with | c :: _ => K c | [] => False

def loadVal (d : TD) (cs : List PV) (K : PV → Prop) : Prop :=
  match d with
  | .struct _ z _ => z.length ≤ cs.length ∧ K (.agg (cs.take z.length))
  | .arr _ _ _ z => z.length ≤ cs.length ∧ K (.agg (cs.take z.length))
  | .other => False
  | _ => headK cs K

def sizeTD : TD → Option Nat
  | .struct _ z _ => some z.length
  | .arr _ _ _ z => some z.length
  | .other => none
  | _ => some 1

def zeroTD : TD → Option (List PV)
  | .int k => some [.int k 0]
  | .bool => some [.bool false]
  | .str => some [.str ⟨#[]⟩]
  | .ptr => some [.nilptr]
  | .func => some [.nilfn]
  | .slice .. => some [.nilsl]
  | .arr _ _ _ z => some z
  | .struct _ z _ => some z
  | .other => none

def opnds (s : St) : List Operand → List PV
  | [] => []
  | x :: r => opnd s x :: opnds s r

def fillF (s : St) (fs : List (Nat × Nat × Bool)) : List (Nat × Operand) → List PV → Option (List PV)
  | [], z => some z
  | (i, x) :: r, z => match fs[i]? with
    | some (off, sz, _) => if (opnd s x).cells.length = sz ∧ leafs (opnd s x).cells = true then fillF s fs r (splice z off (opnd s x).cells) else none
    | none => none

def fillA (s : St) (n esz : Nat) : List (Nat × Operand) → List PV → Option (List PV)
  | [], z => some z
  | (i, x) :: r, z => if i < n then if (opnd s x).cells.length = esz ∧ leafs (opnd s x).cells = true then fillA s n esz r (splice z (i * esz) (opnd s x).cells) else none else none

def fillS (s : St) (esz : Nat) : List (Nat × Operand) → List (List PV) → Option (List (List PV))
  | [], z => some z
  | (i, x) :: r, z => if i < z.length then if (opnd s x).cells.length = esz ∧ leafs (opnd s x).cells = true then fillS s esz r (z.set i (opnd s x).cells) else none else none

def boundOf (s : St) (x : Option Operand) (d : Int) (K : Int → Prop) : Prop :=
  match x with
  | some y => match opnd s y with | .int _ n => K n | _ => False
  | none => K d

def byteCells (ns : List Int) : List (List PV) := ns.map fun n => [.int .u8 n]
def bytesStr (ns : List Int) : ByteArray := ns.foldl (fun r n => r.push (UInt8.ofNat n.toNat)) ByteArray.empty

/-- an operation that changes no object of the call's own: the value that it yields -/
def valOp (E : Env) (C : Ctr) (o : Oper) (s : St) (K : PV → Prop) : Prop :=
  match o.op with
  | .move x => K (opnd s x)
  | .assign x => K (opnd s x)
  | .pick c a b => match opnd s c with | .bool true => K (opnd s a) | .bool false => K (opnd s b) | _ => False
  | .box _ x => (isImm (opnd s x) = true ∧ leafs (opnd s x).cells = true) ∧ K (.ptr (opnd s x).cells)
  | .build T ps => match E T with
    | .struct fs z _ => match fillF s fs ps.toList z with | some cs => K (.agg cs) | none => False
    | .arr n esz _ z => match fillA s n esz ps.toList z with | some cs => K (.agg cs) | none => False
    | _ => False
  | .buildSlice T n ps => match E T with
    | .slice _ esz _ z => match fillS s esz ps.toList (List.replicate n z) with
      | some es => (n * esz ≤ 16777216 ∧ isImms es.flatten = true) ∧ K (.sl esz es)
      | none => False
    | _ => False
  | .load T x => match opnd s x with
    | .ptr cs => loadVal (E T) cs K
    | .op g sz i f => match aget s.hp g with
      | some ob => if ob.sz = sz then match ob.es[i]? with
        | some c => loadVal (E T) (c.drop f) K
        | none => False
        else False
      | none => False
    | _ => False
  | .nilCheck x => match opnd s x with | .ptr cs => K (.ptr cs) | .op a b c d => K (.op a b c d) | .fn (.func f) b c => K (.fn (.func f) b c) | _ => False
  | .binOp op T x y _ => binVal (E T) op (opnd s x) (opnd s y) K
  | .unOp op _ x => match op, opnd s x with
    | .not, .bool b => K (.bool !b)
    | .neg, .int .i64 n => inI64 (-n) ∧ K (.int .i64 (-n))
    | _, _ => False
  | .convert S D x => match E S, E D, opnd s x with
    | .int _, .int k, .int _ n => K (.int k (k.wrap n))
    | .slice e _ _ _, .str, .sl sz es => match E e with
      | .int .u8 => sz = 1 ∧ ∃ ns : List Int, es = byteCells ns ∧ K (.str (bytesStr ns))
      | _ => False
    | _, _, _ => False
  | .makeFunc fn a b => K (.fn fn (opnds s a.toList) (opnds s b.toList))
  | .slice T x lo hi none => match E T with
    | .slice _ esz _ _ => match opnd s x with
      | .sl sz es => if sz ≠ esz then False else boundOf s lo 0 fun l => boundOf s hi es.length fun h => (0 ≤ l ∧ l ≤ h ∧ h ≤ es.length) ∧ K (.sl sz ((es.take h.toNat).drop l.toNat))
      | .nilsl => boundOf s lo 0 fun l => boundOf s hi 0 fun h => (l = 0 ∧ h = 0) ∧ K .nilsl
      | _ => False
    | _ => False
  | .fieldAddr S x f => match E S with
    | .struct fs _ _ => match fs[f]?, opnd s x with
      | some (off, _, _), .ptr cs => K (.ptr (cs.drop off))
      | some (off, _, _), .op g sz i fo => K (.op g sz i (fo + off))
      | _, _ => False
    | _ => False
  | .field T x f => match E T, opnd s x with
    | .struct fs _ _, .agg cs => match fs[f]? with
      | some (off, sz, true) => off + sz ≤ cs.length ∧ K (.agg ((cs.drop off).take sz))
      | some (off, _, false) => match cs[off]? with | some p => K p | none => False
      | none => False
    | _, _ => False
  | .indexAddr T x i => match E T, opnd s x, opnd s i with
    | .slice _ esz _ _, .sl sz es, .int _ n => if sz = esz then ∃ c, es[n.toNat]? = some c ∧ 0 ≤ n ∧ K (.ptr c) else False
    | .slice _ esz _ _, .os g, .int _ n => match aget s.hp g with
      | some ob => if ob.sz = esz then (0 ≤ n ∧ n < ob.es.length) ∧ K (.op g ob.sz n.toNat 0) else False
      | none => False
    | .arr len esz _ _, .ptr cs, .int _ n => (0 ≤ n ∧ n < len) ∧ K (.ptr (cs.drop (n.toNat * esz)))
    | .arr len esz _ _, .op g sz j f, .int _ n => (0 ≤ n ∧ n < len) ∧ K (.op g sz j (f + n.toNat * esz))
    | _, _, _ => False
  | .index T x i => match E T, opnd s x, opnd s i with
    | .arr len esz ag _, .agg cs, .int _ n => (0 ≤ n ∧ n < len) ∧ match ag with
      | true => n.toNat * esz + esz ≤ cs.length ∧ K (.agg ((cs.drop (n.toNat * esz)).take esz))
      | false => ∃ p, cs[n.toNat * esz]? = some p ∧ K p
    | _, _, _ => False
  | .extract t i => match opnd s t with
    | .tup cs => match cs[i]? with | some p => K p | none => False
    | _ => False
  | .call c => match c.callee with
    | .value f => match opnd s f with
      | .fn (.func g) first caps => CallV C g (first ++ opnds s c.args.toList ++ caps) (borrows s.hp (first ++ opnds s c.args.toList ++ caps)) K
      | _ => False
    | .builtin .len => match c.args.toList, c.argTypes.toList with
      | [x], [T] => match E T with
        | .slice .. => lenVal s.hp (opnd s x) K
        | .str => match opnd s x with | .str b => K (.int .i64 b.size) | _ => False
        | _ => False
      | _, _ => False
    | .builtin .min => match c.args.toList with
      | [x, y] => match opnd s x, opnd s y with
        | .int k a, .int k' b => k = k' ∧ K (.int k (if b < a then b else a))
        | _, _ => False
      | _ => False
    | _ => False
  | _ => False

def hand (s : St) (c : Call) : Bool :=
  match c.callee with
  | .value f => match opnd s f with
    | .fn (.func _) first caps => anyOp (first ++ opnds s c.args.toList ++ caps)
    | _ => false
  | _ => false

/-- a slice of the call's own among the arguments -/
def handX (s : St) (c : Call) : Bool :=
  match c.callee with
  | .value f => match opnd s f with
    | .fn (.func _) first caps => anyOs (first ++ opnds s c.args.toList ++ caps)
    | _ => false
  | _ => false

def stepOp (E : Env) (C : Ctr) (H : Hnd) (plan : List (Nat × Nat)) (o : Oper) (K : St → Prop) (s : St) : Prop :=
  match o.op with
  | .assign x => match opnd s x, o.dst, E o.type with
    | .nilsl, some d, .slice e esz _ _ => match aget plan d with
      | some g => K ((s.newG g ⟨e, esz, [], false⟩).put d (.os g))
      | none => K (s.put d .nilsl)
    | v, d, _ => K (s.putO d v)
  | .alloc T => match zeroTD (E T), o.dst with
    | some z, some d => 0 < z.length ∧ match aget plan d with
      | some g => K ((s.newG g ⟨T, z.length, [z], true⟩).put d (.op g z.length 0 0))
      | none => K ((s.newG d ⟨T, z.length, [z], true⟩).put d (.op d z.length 0 0))
    | _, _ => False
  | .box T x => match o.dst with
    | some d => match aget plan d with
      | some g => (0 < (opnd s x).cells.length ∧ leafs (opnd s x).cells = true) ∧ K ((s.newG g ⟨T, (opnd s x).cells.length, [killPs g (opnd s x).cells], true⟩).put d (.op g (opnd s x).cells.length 0 0))
      | none => valOp E C o s fun p => K (s.putO o.dst p)
    | none => False
  | .buildSlice T n ps => match o.dst with
    | some d => match aget plan d with
      | some g => match E T with
        | .slice e esz _ z => match fillS s esz ps.toList (List.replicate n z) with
          | some es => (n * esz ≤ 16777216 ∧ isImms es.flatten = true) ∧ K ((s.newG g ⟨e, esz, es, false⟩).put d (.os g))
          | none => False
        | _ => False
      | none => valOp E C o s fun p => K (s.putO o.dst p)
    | none => False
  | .store T a x => match opnd s a, sizeTD (E T) with
    | .op g sz i f, some n => match aget s.hp g with
      | some ob => if ob.sz ≠ sz then False else match ob.es[i]? with
        | some c => (f + n ≤ c.length ∧ (opnd s x).cells.length = n ∧ leafs (opnd s x).cells = true ∧ (ob.own || isImm (opnd s x)) = true) ∧
            K (St.putO ⟨s.vs, s.ts, arep s.hp g { ob with es := ob.es.set i (splice c f (opnd s x).cells) }⟩ o.dst (.tup []))
        | none => False
      | none => False
    | _, _ => False
  | .makeSlice T l c => match E T, opnd s l, opnd s c, o.dst with
    | .slice e esz eb z, .int _ l, .int _ c, some d =>
      let g := match aget plan d with | some g => g | none => d
      (0 ≤ l ∧ l = c ∧ eb * l ≤ 281474976710656 ∧ l ≤ 9223372036854775807) ∧ K ((s.newG g ⟨e, esz, List.replicate l.toNat z, false⟩).put d (.os g))
    | _, _, _, _ => False
  | .call c => match c.callee with
    | .builtin .append => match c.args.toList, c.argTypes.toList, o.dst with
      | [x, y], [T, T'], some d => T = T' ∧ match E T with
        | .slice e esz eb _ => match asEs esz (borrow s.hp (opnd s y)) with
          | some new => match opnd s x with
            | .os g => match aget s.hp g with
              | some ob => ((ob.es.length + new.length) * eb ≤ 140737488355328 ∧ ob.es.length + new.length ≤ 9223372036854775807 ∧ ob.own = false ∧ ob.ty = e ∧ ob.sz = esz) ∧ K ((s.newG g { ob with es := ob.es ++ new }).put d (.os g))
              | none => False
            | .nilsl =>
              let g := match aget plan d with | some g => g | none => d
              (new.length * eb ≤ 140737488355328 ∧ new.length ≤ 9223372036854775807) ∧ K ((s.newG g ⟨e, esz, new, false⟩).put d (.os g))
            | _ => False
          | none => False
        | _ => False
      | _, _, _ => False
    | .value f => match hand s c with
      | true => (match opnd s f with
        | .fn (.func g) first caps => CallH H g (first ++ opnds s c.args.toList ++ caps) s o.dst K
        | _ => False)
      | false => match handX s c || planned plan o.dst with
        | true => (match opnd s f with
          | .fn (.func g) first caps => CallX C H g (first ++ opnds s c.args.toList ++ caps) (borrows s.hp (first ++ opnds s c.args.toList ++ caps)) s o.dst K
          | _ => False)
        | false => valOp E C o s fun p => K (s.putO o.dst p)
    | _ => valOp E C o s fun p => K (s.putO o.dst p)
  | .slice T x lo hi none => match planned plan o.dst with
    | false => valOp E C o s fun p => K (s.putO o.dst p)
    | true => match E T, opnd s x, o.dst with
      | .slice _ esz _ _, .os g, some d => match aget s.hp g with
        | some ob => boundOf s lo 0 fun l => boundOf s hi ob.es.length fun h => (l = 0 ∧ 0 ≤ h ∧ h ≤ ob.es.length) ∧ (ob.own = false ∧ ob.sz = esz) ∧
            K ((s.newG g ⟨ob.ty, ob.sz, ob.es.take h.toNat, ob.own⟩).put d (.os g))
        | none => False
      | _, _, _ => False
  | _ => valOp E C o s fun p => K (s.putO o.dst p)

def splitB (d : Option Nat) (K : St → Prop) (s : St) : Prop :=
  match d with
  | some i => match s.get i with
    | .bool c => match c with | true => K (s.put i (.bool true)) | false => K (s.put i (.bool false))
    | _ => K s
  | none => K s

def guardsOf : List Oper → List Nat
  | [] => []
  | o :: r => match o.guard with | some (j, _) => j :: guardsOf r | none => guardsOf r

def opDst (ops : List Oper) (j : Nat) : Option Nat := match ops[j]? with | some o => o.dst | none => none

def guarded (ops : List Oper) (o : Oper) (K1 K2 : St → Prop) (s : St) : Prop :=
  match o.guard with
  | none => K1 s
  | some (j, b) => match opDst ops j with
    | some d => match s.get d with
      | .bool true => match b with | true => K1 s | false => K2 s
      | .bool false => match b with | false => K1 s | true => K2 s
      | .tup [] => K2 s
      | _ => False
    | none => False

def wpr (E : Env) (C : Ctr) (H : Hnd) (plan : List (Nat × Nat)) (ops : List Oper) (gs : List Nat) : Nat → List Oper → (St → Prop) → St → Prop
  | _, [], K, s => K s
  | i, o :: r, K, s => guarded ops o (stepOp E C H plan o (fun s' => match gs.contains i with | true => splitB o.dst (wpr E C H plan ops gs (i + 1) r K) s' | false => wpr E C H plan ops gs (i + 1) r K s'))
      (fun s => wpr E C H plan ops gs (i + 1) r K (s.putO o.dst (.tup []))) s

/-- a region whose order is open: operations that change no object alone -/
def wprQ (E : Env) (C : Ctr) (ops : List Oper) (gs : List Nat) : Nat → List Oper → (St → Prop) → St → Prop
  | _, [], K, s => K s
  | i, o :: r, K, s => guarded ops o (fun s1 => valOp E C o s1 (fun p => match gs.contains i with | true => splitB o.dst (wprQ E C ops gs (i + 1) r K) (s1.putO o.dst p) | false => wprQ E C ops gs (i + 1) r K (s1.putO o.dst p)))
      (fun s => wprQ E C ops gs (i + 1) r K (s.putO o.dst (.tup []))) s

/-- a value that no operation of a region touches: nothing of one's own is in it, or it points to the object that is kept -/
def firm (k : Option Nat) (p : PV) : Bool := solid p || (match p with | .op g _ _ _ => (match k with | some g' => Nat.beq g g' | none => false) | _ => false)
def firms (k : Option Nat) : List PV → Bool
  | [] => true
  | p :: r => firm k p && firms k r

/-- an operation leaves alone the object that is kept -/
def touchOk (k : Option Nat) (plan : List (Nat × Nat)) (o : Oper) (s : St) : Bool :=
  match k with
  | none => true
  | some g0 => match o.op with
    | .store .. => true
    | .assign _ => (match o.dst with | some d => (match aget plan d with | some g => !Nat.beq g g0 | none => false) | none => false)
    | .slice _ x _ _ _ => (match opnd s x with | .os g => !Nat.beq g g0 | _ => false)
    | .call c => match c.callee with
      | .builtin .append => (match c.args.toList with
        | x :: _ => (match opnd s x with
          | .os g => !Nat.beq g g0
          | _ => (match o.dst with | some d => !Nat.beq (match aget plan d with | some g => g | none => d) g0 | none => false))
        | [] => false)
      | _ => false
    | _ => (match newId plan o with | some g => !Nat.beq g g0 | none => false)

/-- what a free operation must not lean on -/
def looksOk (plan : List (Nat × Nat)) (c : Nat) (o : Oper) (s : St) : Bool :=
  match c with
  | 0 => true
  | 1 => hpFree o || solids (opnds s o.op.operands.toList)
  | _ => solids (opnds s o.op.operands.toList) || (!isEff plan o && (hpFree o && firms (aget plan 400000) (opnds s o.op.operands.toList)))

def resOk (plan : List (Nat × Nat)) (c : Nat) (p : PV) : Bool :=
  match c with
  | 0 => true
  | 1 => true
  | _ => firm (aget plan 400000) p

def ifB (b : Bool) (P : Prop) : Prop := match b with | true => P | false => False

/-- a region whose order is open, with operations that make or change objects -/
def wprD (E : Env) (C : Ctr) (H : Hnd) (plan : List (Nat × Nat)) (ops : List Oper) (gs ms : List Nat) (es : List (Nat × Bool)) : Nat → List Oper → (St → Prop) → St → Prop
  | _, [], K, s => K s
  | i, o :: r, K, s => guarded ops o
      (fun s1 => ifB (looksOk plan (cls ms i es) o s1) (match isEff plan o with
        | true => ifB (touchOk (aget plan 400000) plan o s1) (stepOp E C H plan o (fun s' => match gs.contains i with | true => splitB o.dst (wprD E C H plan ops gs ms es (i + 1) r K) s' | false => wprD E C H plan ops gs ms es (i + 1) r K s') s1)
        | false => valOp E C o s1 (fun p => ifB (resOk plan (cls ms i es) p) (match gs.contains i with | true => splitB o.dst (wprD E C H plan ops gs ms es (i + 1) r K) (s1.putO o.dst p) | false => wprD E C H plan ops gs ms es (i + 1) r K (s1.putO o.dst p)))))
      (fun s => wprD E C H plan ops gs ms es (i + 1) r K (s.putO o.dst (.tup []))) s

def anyEff (plan : List (Nat × Nat)) : List Oper → Bool
  | [] => false
  | o :: r => isEff plan o || anyEff plan r

def leP (p q : PV) : Prop := match q with | .junk => True | q => p = q

/-- what is known of t holds of s: each slot is the same, or nothing is known of it -/
def leVs : List (Nat × PV) → List (Nat × PV) → Prop
  | _, [] => True
  | (i, p) :: r, (j, q) :: r' => (i = j ∧ leP p q) ∧ leVs r r'
  | [], _ :: _ => False

def LeSt (s t : St) : Prop := leVs s.vs t.vs ∧ t.ts = [] ∧ subHp t.hp s.hp

def LoopQ {α : Type} (F : α → St) (I : α → Prop) (μ : α → Nat) (x : α) (Q : Exit → St → Prop) : Exit → St → Prop
  | .normal, s => ∃ y, (I y ∧ μ y < μ x) ∧ LeSt s (F y)
  | e, s => Q e s

inductive LoopK (body : (Exit → St → Prop) → St → Prop) (Q : Exit → St → Prop) (s : St) : Prop
  | intro (α : Type) (F : α → St) (I : α → Prop) (μ : α → Nat) (x0 : α) (h0 : LeSt s (F x0)) (hI : I x0) (h1 : ∀ x, I x → body (LoopQ F I μ x Q) (F x)) : LoopK body Q s

/-- the slots of a state, overwritten -/
def setVs : List (Nat × PV) → List (Nat × PV) → List (Nat × PV)
  | [], _ => []
  | (i, p) :: r, u => (i, match aget u i with | some q => q | none => p) :: setVs r u

def St.set (s : St) (u : List (Nat × PV)) (h : List (Nat × GObj)) : St := ⟨setVs s.vs u, [], h⟩

/-- the same, the state at the loop's head told by what is overwritten -/
theorem LoopK.upd {body : (Exit → St → Prop) → St → Prop} {Q : Exit → St → Prop} {s : St} (α : Type) (u : α → List (Nat × PV)) (h : α → List (Nat × GObj)) (I : α → Prop) (μ : α → Nat) (x0 : α) (h0 : LeSt s (s.set (u x0) (h x0))) (hI : I x0)
    (h1 : ∀ x, I x → body (LoopQ (fun x => s.set (u x) (h x)) I μ x Q) (s.set (u x) (h x))) : LoopK body Q s := .intro α (fun x => s.set (u x) (h x)) I μ x0 h0 hI h1

def QSeq (K : St → Prop) (Q : Exit → St → Prop) : Exit → St → Prop
  | .normal, s => K s
  | e, s => Q e s

def QBlock (n : Nat) (Q : Exit → St → Prop) : Exit → St → Prop
  | .exit m, s => match decide (m = n) with | true => Q .normal s | false => Q (.exit m) s
  | e, s => Q e s

def QScope (Q : Exit → St → Prop) : Exit → St → Prop
  | .goto _, _ => False
  | e, s => Q e s

def St.fresh (s : St) : St := { s with ts := [] }

def condK (p : PV) (K1 K2 : St → Prop) (s : St) : Prop :=
  match p with
  | .bool c => match c with | true => K1 s | false => K2 s
  | _ => False

def dstsOf : List Oper → List Nat
  | [] => []
  | o :: r => match o.dst with | some d => d :: dstsOf r | none => dstsOf r

/-- the slots that a text writes -/
def writes : Code → List Nat
  | .region _ ops _ => dstsOf ops.toList
  | .seq a b => writes a ++ writes b
  | .cond _ a b => writes a ++ writes b
  | .block _ c => writes c
  | .loop c => writes c
  | _ => []

def St.puts (s : St) : List Nat → List PV → St
  | i :: r, p :: ps => (s.put i p).puts r ps
  | _, _ => s

/-- the slots that speak of objects are not written -/
def freeOf (wr : List Nat) : List (Nat × PV) → Bool
  | [] => true
  | (i, p) :: r => (isImm p || !wr.contains i) && freeOf wr r

/-- the slots that speak of objects speak of them still -/
def keepsV : List (Nat × PV) → St → Prop
  | [], _ => True
  | (i, p) :: r, s => (match isImm p with | true => True | false => s.get i = p) ∧ keepsV r s

def RoundQ (s : St) (K : St → Prop) : Exit → St → Prop
  | .normal, s' => keepsV s.vs s' ∧ K s'
  | _, _ => False

/-- a loop over an iterator that hands out the given values, a round for each; each round begins with the slots that the loop began with -/
inductive RangeK (Sq : Nat → List PV → List (List PV) → Prop) (codeW : (Exit → St → Prop) → St → Prop) (wr : List Nat) (f : PV) (ps : List Nat) (Q : Exit → St → Prop) (s : St) : Prop
  | intro (g : Nat) (caps : List PV) (xs : List (List PV)) (α : Type) (h : α → List (Nat × GObj)) (I : Nat → α → Prop) (x0 : α) (hf : f = .fn (.func g) [] caps) (hs : Sq g caps xs) (himm : isImms caps = true)
      (hlen : ∀ ys, ys ∈ xs → ys.length = ps.length ∧ isImms ys = true) (hfree : freeOf (ps ++ wr) s.vs = true) (h0 : subHp (h x0) s.hp) (hI : I 0 x0)
      (hround : ∀ k x ys, xs[k]? = some ys → I k x → codeW (RoundQ s fun s' => ∃ y, I (k + 1) y ∧ subHp (h y) s'.hp) (St.puts ⟨s.vs, [], h x⟩ ps ys))
      (hdone : ∀ x, I xs.length x → Q .normal ⟨s.vs, [], h x⟩) : RangeK Sq codeW wr f ps Q s

def QSeq1 (K : St → Prop) : Exit → St → Prop
  | .normal, s => K s
  | _, _ => False

/-- ways meet again behind a piece of text: its state is told anew -/
inductive CutC (run : (Exit → St → Prop) → St → Prop) (Q : Exit → St → Prop) (s : St) : Prop
  | intro (α : Type) (G : α → St) (I : α → Prop) (h1 : run (QSeq (fun s' => ∃ x, I x ∧ LeSt s' (G x)) Q) s) (h2 : ∀ x, I x → Q .normal (G x)) : CutC run Q s

theorem CutC.upd {run : (Exit → St → Prop) → St → Prop} {Q : Exit → St → Prop} {s : St} (α : Type) (u : α → List (Nat × PV)) (h : α → List (Nat × GObj)) (I : α → Prop) (h1 : run (QSeq (fun s' => ∃ x, I x ∧ LeSt s' (s.set (u x) (h x))) Q) s)
    (h2 : ∀ x, I x → Q .normal (s.set (u x) (h x))) : CutC run Q s := .intro α (fun x => s.set (u x) (h x)) I h1 h2

/-- the plan may ask for a cut -/
def cutAt (plan : List (Nat × Nat)) (k : Nat) (run : (Exit → St → Prop) → St → Prop) (Q : Exit → St → Prop) (s : St) : Prop :=
  match aget plan k with
  | some _ => CutC run Q s
  | none => run Q s

/-- the number of the first region in a text -/
def firstReg : Code → Option Nat
  | .region n _ _ => some n
  | .seq a b => match firstReg a with | some n => some n | none => firstReg b
  | .cond _ a b => match firstReg a with | some n => some n | none => firstReg b
  | .block _ c => firstReg c
  | .loop c => firstReg c
  | _ => none

def condKey (a b : Code) : Nat := match firstReg (.seq a b) with | some n => 200000 + n | none => 0

def wpc (E : Env) (C : Ctr) (H : Hnd) (Sq : Nat → List PV → List (List PV) → Prop) (plan : List (Nat × Nat)) : Code → (Exit → St → Prop) → St → Prop
  | .skip, Q, s => Q .normal s
  | .region n ops draw, Q, s => match draw with
    | false => cutAt plan (100000 + n) (fun Q => wpr E C H plan ops.toList (guardsOf ops.toList) 0 ops.toList (Q .normal)) Q (frzAt plan n s.fresh)
    | true => match anyEff plan ops.toList with
      | false => cutAt plan (100000 + n) (fun Q => wprQ E C ops.toList (guardsOf ops.toList) 0 ops.toList (Q .normal)) Q (frzAt plan n s.fresh)
      | true => cutAt plan (100000 + n) (fun Q => wprD E C H plan ops.toList (guardsOf ops.toList) (ancs ops.toList) (effList plan 0 ops.toList) 0 ops.toList (Q .normal)) Q (frzAt plan n s.fresh)
  | .seq a b, Q, s => wpc E C H Sq plan a (QSeq (wpc E C H Sq plan b Q) Q) s
  | .cond x a b, Q, s => cutAt plan (condKey a b) (fun Q s => condK (opnd s x) (wpc E C H Sq plan a Q) (wpc E C H Sq plan b Q) s) Q s
  | .block n c, Q, s => cutAt plan (300000 + n) (fun Q => wpc E C H Sq plan c (QBlock n Q)) Q s
  | .loop c, Q, s => LoopK (wpc E C H Sq plan c) Q s
  | .exit n, Q, s => Q (.exit n) s
  | .ret, Q, s => Q .ret s
  | .rangeFunc f ps a c, Q, s => RangeK Sq (fun Q => wpc E C H Sq plan a (QSeq1 (wpc E C H Sq plan c Q))) (writes a ++ writes c) (opnd s f) ps.toList Q s
  | .label _, Q, s => Q .normal s
  | .scope c, Q, s => wpc E C H Sq plan c (QScope Q) s
  | _, _, _ => False

end Go.Proofs.Ytogehfalhodapaa.Pv
namespace Go.Proofs.Ytogehfalhodapaa.Pv
open Go

/-! inversions -/
section
variable {M : Mem} {δ : Nat → Value}

theorem RepS.int_inv {k : IntKind} {n : Int} {v : Value} (h : RepS M δ (.int k n) v) : v = .int k n := by
  cases h with | imm _ _ h => cases h; rfl
theorem RepS.bool_inv {b : Bool} {v : Value} (h : RepS M δ (.bool b) v) : v = .bool b := by
  cases h with | imm _ _ h => cases h; rfl
theorem RepS.str_inv {b : ByteArray} {v : Value} (h : RepS M δ (.str b) v) : v = .string b := by
  cases h with | imm _ _ h => cases h; rfl
theorem RepS.nilptr_inv {v : Value} (h : RepS M δ .nilptr v) : v = .pointer none := by
  cases h with | imm _ _ h => cases h; rfl
theorem RepS.nilfn_inv {v : Value} (h : RepS M δ .nilfn v) : v = .nilFunc := by
  cases h with | imm _ _ h => cases h; rfl
theorem RepS.nilsl_inv {v : Value} (h : RepS M δ .nilsl v) : v = .slice none 0 0 := by
  cases h with | imm _ _ h => cases h; rfl
theorem RepS.sl_inv {sz : Nat} {es : List (List PV)} {v : Value} (h : RepS M δ (.sl sz es) v) : RepI M (.sl sz es) v := by
  cases h with | imm _ _ h => exact h
theorem RepS.ptr_inv {cs : List PV} {v : Value} (h : RepS M δ (.ptr cs) v) : RepI M (.ptr cs) v := by
  cases h with | imm _ _ h => exact h
theorem RepS.os_inv {g : Nat} {v : Value} (h : RepS M δ (.os g) v) : v = δ g := by
  cases h with
  | imm _ _ h => cases h
  | os _ _ _ _ h => exact h.symm
theorem RepS.op_inv {g sz i f : Nat} {v : Value} (h : RepS M δ (.op g sz i f) v) : ∃ b n c, δ g = .slice (some ⟨b, 0, none⟩) n c ∧ v = .pointer (some ⟨b, i * sz + f, none⟩) := by
  cases h with
  | imm _ _ h => cases h
  | op _ _ _ _ b n c h => exact ⟨b, n, c, h, rfl⟩
theorem RepS.agg_inv {cs : List PV} {v : Value} (h : RepS M δ (.agg cs) v) : ∃ vs : List Value, v = .agg vs.toArray ∧ RepSs M δ cs vs := by
  cases h with
  | imm _ _ h => cases h with | agg _ vs h => exact ⟨vs, rfl, h.toS⟩
  | agg _ vs h => exact ⟨vs, rfl, h⟩
theorem RepS.tup_inv {cs : List PV} {v : Value} (h : RepS M δ (.tup cs) v) : ∃ vs : List Value, v = .tuple vs.toArray ∧ RepSs M δ cs vs := by
  cases h with
  | imm _ _ h => cases h with | tup _ vs h => exact ⟨vs, rfl, h.toS⟩
  | tup _ vs h => exact ⟨vs, rfl, h⟩
theorem RepS.fn_inv {f : Fn} {a b : List PV} {v : Value} (h : RepS M δ (.fn f a b) v) :
    ∃ va vb : List Value, v = .func f va.toArray vb.toArray ∧ RepSs M δ a va ∧ RepSs M δ b vb := by
  cases h with
  | imm _ _ h => cases h with | fn _ _ _ va vb h h' => exact ⟨va, vb, rfl, h.toS, h'.toS⟩
  | fn _ _ _ va vb h h' => exact ⟨va, vb, rfl, h, h'⟩

theorem RepSs.length {ps : List PV} {vs : List Value} : RepSs M δ ps vs → ps.length = vs.length
  | .nil => rfl
  | .cons _ _ _ _ _ h => by simp [RepSs.length h]
theorem RepIs.length {ps : List PV} {vs : List Value} : RepIs M ps vs → ps.length = vs.length
  | .nil => rfl
  | .cons _ _ _ _ _ h => by simp [RepIs.length h]
theorem RepSs.get {ps : List PV} {vs : List Value} : RepSs M δ ps vs → ∀ (i : Nat) (p : PV), ps[i]? = some p → ∃ v, vs[i]? = some v ∧ RepS M δ p v
  | .nil, i, p, h => by simp at h
  | .cons q v _ _ h1 h2, 0, p, h => by simp at h; subst h; exact ⟨v, rfl, h1⟩
  | .cons q v _ _ h1 h2, i + 1, p, h => by simpa using RepSs.get h2 i p (by simpa using h)
theorem RepIs.get {ps : List PV} {vs : List Value} : RepIs M ps vs → ∀ (i : Nat) (p : PV), ps[i]? = some p → ∃ v, vs[i]? = some v ∧ RepI M p v
  | .nil, i, p, h => by simp at h
  | .cons q v _ _ h1 h2, 0, p, h => by simp at h; subst h; exact ⟨v, rfl, h1⟩
  | .cons q v _ _ h1 h2, i + 1, p, h => by simpa using RepIs.get h2 i p (by simpa using h)
theorem RepSs.drop {ps : List PV} {vs : List Value} (n : Nat) (h : RepSs M δ ps vs) : RepSs M δ (ps.drop n) (vs.drop n) := by
  induction n generalizing ps vs with
  | zero => simpa using h
  | succ n ih => cases h with
    | nil => simp; exact .nil
    | cons p v ps vs h1 h2 => simpa using ih h2
theorem RepSs.take {ps : List PV} {vs : List Value} (n : Nat) (h : RepSs M δ ps vs) : RepSs M δ (ps.take n) (vs.take n) := by
  induction n generalizing ps vs with
  | zero => simp; exact .nil
  | succ n ih => cases h with
    | nil => simp; exact .nil
    | cons p v ps vs h1 h2 => simpa using .cons _ _ _ _ h1 (ih h2)
theorem RepIs.drop {ps : List PV} {vs : List Value} (n : Nat) (h : RepIs M ps vs) : RepIs M (ps.drop n) (vs.drop n) := by
  induction n generalizing ps vs with
  | zero => simpa using h
  | succ n ih => cases h with
    | nil => simp; exact .nil
    | cons p v ps vs h1 h2 => simpa using ih h2
theorem RepIs.take {ps : List PV} {vs : List Value} (n : Nat) (h : RepIs M ps vs) : RepIs M (ps.take n) (vs.take n) := by
  induction n generalizing ps vs with
  | zero => simp; exact .nil
  | succ n ih => cases h with
    | nil => simp; exact .nil
    | cons p v ps vs h1 h2 => simpa using .cons _ _ _ _ h1 (ih h2)
theorem RepSs.append {ps qs : List PV} {vs ws : List Value} : RepSs M δ ps vs → RepSs M δ qs ws → RepSs M δ (ps ++ qs) (vs ++ ws)
  | .nil, h => h
  | .cons p v ps vs h1 h2, h => .cons p v _ _ h1 (RepSs.append h2 h)
theorem RepIs.append {ps qs : List PV} {vs ws : List Value} : RepIs M ps vs → RepIs M qs ws → RepIs M (ps ++ qs) (vs ++ ws)
  | .nil, h => h
  | .cons p v ps vs h1 h2, h => .cons p v _ _ h1 (RepIs.append h2 h)
theorem RepSs.splice {ps qs : List PV} {vs ws : List Value} (n : Nat) (h : RepSs M δ ps vs) (h' : RepSs M δ qs ws) :
    RepSs M δ (splice ps n qs) (vs.take n ++ ws ++ vs.drop (n + ws.length)) := by
  unfold Pv.splice
  rw [h'.length]
  exact ((h.take n).append h').append (h.drop _)
theorem RepIs.splice {ps qs : List PV} {vs ws : List Value} (n : Nat) (h : RepIs M ps vs) (h' : RepIs M qs ws) :
    RepIs M (splice ps n qs) (vs.take n ++ ws ++ vs.drop (n + ws.length)) := by
  unfold Pv.splice
  rw [h'.length]
  exact ((h.take n).append h').append (h.drop _)

mutual
theorem RepS.toI : ∀ {p : PV} {v : Value}, RepS M δ p v → isImm p = true → RepI M p v
  | _, _, .imm _ _ h, _ => h
  | _, _, .os .., h => by simp [isImm] at h
  | _, _, .op .., h => by simp [isImm] at h
  | _, _, .agg cs vs hh, h => .agg cs vs (RepSs.toI hh (by simpa [isImm] using h))
  | _, _, .tup cs vs hh, h => .tup cs vs (RepSs.toI hh (by simpa [isImm] using h))
  | _, _, .fn f a b va vb h1 h2, h => .fn f a b va vb (RepSs.toI h1 (by simp [isImm] at h; exact h.1)) (RepSs.toI h2 (by simp [isImm] at h; exact h.2))
theorem RepSs.toI : ∀ {p : List PV} {v : List Value}, RepSs M δ p v → isImms p = true → RepIs M p v
  | _, _, .nil, _ => .nil
  | _, _, .cons p v ps vs h1 h2, h => .cons p v ps vs (RepS.toI h1 (by simp [isImms] at h; exact h.1)) (RepSs.toI h2 (by simp [isImms] at h; exact h.2))
end

mutual
theorem RepI.ofScalar {M' : Mem} : ∀ {p : PV} {v : Value}, RepI M p v → scalar p = true → RepI M' p v
  | _, _, .int k n, _ => .int k n
  | _, _, .bool b, _ => .bool b
  | _, _, .str s, _ => .str s
  | _, _, .agg cs vs hh, h => .agg cs vs (RepIs.ofScalar hh (by simpa [scalar] using h))
  | _, _, .tup cs vs hh, h => .tup cs vs (RepIs.ofScalar hh (by simpa [scalar] using h))
  | _, _, .nilptr, h => by simp [scalar] at h
  | _, _, .nilfn, h => by simp [scalar] at h
  | _, _, .nilsl, h => by simp [scalar] at h
  | _, _, .junk _, h => by simp [scalar] at h
  | _, _, .fn .., h => by simp [scalar] at h
  | _, _, .sl0 .., h => by simp [scalar] at h
  | _, _, .sl .., h => by simp [scalar] at h
  | _, _, .ptr .., h => by simp [scalar] at h
theorem RepIs.ofScalar {M' : Mem} : ∀ {p : List PV} {v : List Value}, RepIs M p v → scalars p = true → RepIs M' p v
  | _, _, .nil, _ => .nil
  | _, _, .cons p v ps vs h1 h2, h => .cons p v ps vs (RepI.ofScalar h1 (by simp [scalars] at h; exact h.1)) (RepIs.ofScalar h2 (by simp [scalars] at h; exact h.2))
end

theorem RepS.leaf {p : PV} {v : Value} (h : RepS M δ p v) (hl : leaf p = true) : v.oneCell' = true ∧ v.cells = #[v] := by
  cases p with
  | agg cs => simp [Pv.leaf] at hl
  | junk => simp [Pv.leaf] at hl
  | tup cs => simp [Pv.leaf] at hl
  | int k n => obtain rfl := h.int_inv; exact ⟨rfl, rfl⟩
  | bool b => obtain rfl := h.bool_inv; exact ⟨rfl, rfl⟩
  | str b => obtain rfl := h.str_inv; exact ⟨rfl, rfl⟩
  | nilptr => obtain rfl := h.nilptr_inv; exact ⟨rfl, rfl⟩
  | nilfn => obtain rfl := h.nilfn_inv; exact ⟨rfl, rfl⟩
  | nilsl => obtain rfl := h.nilsl_inv; exact ⟨rfl, rfl⟩
  | sl sz es => have h' := h.sl_inv; cases h' <;> exact ⟨rfl, rfl⟩
  | ptr cs => have h' := h.ptr_inv; cases h'; exact ⟨rfl, rfl⟩
  | fn f a b => obtain ⟨va, vb, rfl, _, _⟩ := h.fn_inv; exact ⟨rfl, rfl⟩
  | os g => cases h with
    | imm _ _ h => cases h
    | os => exact ⟨rfl, rfl⟩
  | op g sz i f => obtain ⟨b, n, c, _, rfl⟩ := h.op_inv; exact ⟨rfl, rfl⟩

theorem RepSs.leafs {ps : List PV} {vs : List Value} : RepSs M δ ps vs → leafs ps = true → ∀ v ∈ vs, v.oneCell' = true
  | .nil, _, v, hv => by simp at hv
  | .cons p u ps vs h1 h2, h, v, hv => by
    simp [Pv.leafs] at h
    rcases List.mem_cons.1 hv with rfl | hv
    · exact (h1.leaf h.1).1
    · exact RepSs.leafs h2 h.2 v hv

/-- the cells of a value -/
theorem RepS.cells {p : PV} {v : Value} (h : RepS M δ p v) (hl : leafs p.cells = true) : RepSs M δ p.cells v.cells.toList := by
  cases p with
  | agg cs => obtain ⟨vs, rfl, h'⟩ := h.agg_inv; simpa [PV.cells, Value.cells] using h'
  | junk => simp [PV.cells, Pv.leafs, Pv.leaf] at hl
  | tup cs => simp [PV.cells, Pv.leafs, Pv.leaf] at hl
  | _ => rw [(h.leaf rfl).2]; exact .cons _ _ _ _ h .nil
end

theorem RepS.os_inv' {M : Mem} {δ : Nat → Value} {g : Nat} {v : Value} (h : RepS M δ (.os g) v) : v = δ g ∧ ∃ ao n c, v = .slice ao n c := by
  cases h with
  | imm _ _ h => cases h
  | os _ ao n c h => exact ⟨h.symm, ao, n, c, rfl⟩
end Go.Proofs.Ytogehfalhodapaa.Pv
namespace Go.Proofs.Ytogehfalhodapaa.Pv
open Go

def aggD (P : Program) (T : TypeId) (b : Bool) : Prop :=
  ∃ d, P.underlying T = some d ∧ (match d with | .struct _ => true | .array _ _ => true | _ => false) = b

def ZeroOk (zv : Value) (z : List PV) : Prop := zv.cells.size = z.length ∧ (∀ M, RepIs M z zv.cells.toList) ∧ leafs z = true

def one1 (P : Program) (T : TypeId) : Prop := ∃ i, P.info? T = some i ∧ i.size = 1

def TDok (P : Program) (T : TypeId) : TD → Prop
  | .int k => P.underlying T = some (.int k) ∧ one1 P T ∧ ∃ i zv, P.info? T = some i ∧ i.zero = some zv ∧ ZeroOk zv [.int k 0]
  | .bool => P.underlying T = some .bool ∧ one1 P T ∧ ∃ i zv, P.info? T = some i ∧ i.zero = some zv ∧ ZeroOk zv [.bool false]
  | .str => P.underlying T = some .string ∧ one1 P T ∧ ∃ i zv, P.info? T = some i ∧ i.zero = some zv ∧ ZeroOk zv [.str ⟨#[]⟩]
  | .ptr => (∃ u, P.underlying T = some (.pointer u)) ∧ one1 P T ∧ ∃ i zv, P.info? T = some i ∧ i.zero = some zv ∧ ZeroOk zv [.nilptr]
  | .func => (∃ a b c, P.underlying T = some (.func a b c)) ∧ one1 P T ∧ ∃ i zv, P.info? T = some i ∧ i.zero = some zv ∧ ZeroOk zv [.nilfn]
  | .slice e esz eb z => P.underlying T = some (.slice e) ∧ one1 P T ∧ (∃ i zv, P.info? T = some i ∧ i.zero = some zv ∧ ZeroOk zv [.nilsl]) ∧
      (∃ j zv, P.info? e = some j ∧ j.size = esz ∧ j.bytes = eb ∧ j.zero = some zv ∧ ZeroOk zv z) ∧ z.length = esz ∧ 0 < esz
  | .arr n esz ag z => ∃ e, P.underlying T = some (.array n e) ∧ aggD P e ag ∧ (∃ j, P.info? e = some j ∧ j.size = esz) ∧
      (∃ i zv, P.info? T = some i ∧ i.size = z.length ∧ i.zero = some zv ∧ ZeroOk zv z) ∧ n * esz = z.length ∧ (ag = false → esz = 1)
  | .struct fs z cmp => ∃ fields : Array Field, P.underlying T = some (.struct fields) ∧ fs.length = fields.size ∧
      (∀ (k off sz : Nat) (ag : Bool), fs[k]? = some (off, sz, ag) → ∃ f, fields[k]? = some f ∧ f.offset = off ∧ 0 < sz ∧ off + sz ≤ z.length ∧ (∃ j, P.info? f.type = some j ∧ j.size = sz) ∧ aggD P f.type ag ∧ (ag = false → sz = 1)) ∧
      (∃ i zv, P.info? T = some i ∧ i.size = z.length ∧ i.zero = some zv ∧ ZeroOk zv z) ∧
      (cmp = true → P.stoodInHeld T = false ∧ P.eqGuardType P.depth T = false ∧ z.length = fields.size ∧
        ∀ (k : Nat) (f : Field), fields[k]? = some f → f.name ≠ "_" ∧ f.offset = k ∧ (∃ kk, P.underlying f.type = some (.int kk)) ∧ P.stoodInHeld f.type = P.stoodInHeld f.type)
  | .other => True

section
variable {P : Program} {w : World}

theorem run_typeInfo' {t : TypeId} {i : TypeInfo} (h : P.info? t = some i) : (typeInfo t).run P w = .ok i w := by
  simp [typeInfo, h]
theorem run_sizeOf' {t : TypeId} {i : TypeInfo} (h : P.info? t = some i) : (sizeOf t).run P w = .ok i.size w := by
  simp [sizeOf, run_typeInfo' h]
theorem run_isAgg' {t : TypeId} {b : Bool} (h : aggD P t b) : (isAgg t).run P w = .ok b w := by
  obtain ⟨d, h1, h2⟩ := h
  subst h2
  simp only [isAgg, Sem.run_bind, run_underlying h1, Result.andThen_ok]
  cases d <;> rfl
theorem run_zeroValue' {t : TypeId} {i : TypeInfo} {z : Value} (h : P.info? t = some i) (hz : i.zero = some z) : (zeroValue t).run P w = .ok z w := by
  simp [zeroValue, run_typeInfo' h, hz]

theorem run_loadCells' (b off : Nat) (vs : List Value) (n : Nat) (hn : n ≤ vs.length) (h : ∀ i v, vs[i]? = some v → w.cell? ⟨b, off + i, none⟩ = some v) :
    (loadCells ⟨b, off, none⟩ n).run P w = .ok (vs.take n).toArray w := by
  have h' := run_loadCells (P := P) w ⟨b, off, none⟩ n (fun j => vs.getD j undef) (fun j hj => by
    have : vs[j]? = some (vs.getD j undef) := by
      have : j < vs.length := by omega
      simp [List.getD, this]
    have h2 := h j _ this
    unfold Addr.add
    split
    · rename_i h0; subst h0; simpa using h2
    · exact h2)
  rw [h']
  congr 2
  apply List.ext_getElem
  · simp; omega
  · intro i h1 h2
    simp only [List.length_map, List.length_range, List.length_take] at h1 h2
    simp [List.getD, show i < vs.length by omega]

theorem TDok.agg_false {T : TypeId} {d : TD} (h : TDok P T d) (hd : match d with | .struct .. => False | .arr .. => False | .other => False | _ => True) : aggD P T false := by
  cases d <;> simp only [TDok] at h hd
  case int => exact ⟨_, h.1, rfl⟩
  case bool => exact ⟨_, h.1, rfl⟩
  case str => exact ⟨_, h.1, rfl⟩
  case ptr => obtain ⟨⟨u, h⟩, _⟩ := h; exact ⟨_, h, rfl⟩
  case func => obtain ⟨⟨a, b, c, h⟩, _⟩ := h; exact ⟨_, h, rfl⟩
  case slice => exact ⟨_, h.1, rfl⟩

/-- a load out of a row of cells -/
theorem loadVar_run {T : TypeId} {d : TD} (hd : TDok P T d) {M : Mem} {δ : Nat → Value} {cs : List PV} {vs : List Value} {b off : Nat}
    (hr : RepSs M δ cs vs) (hc : ∀ i v, vs[i]? = some v → w.cell? ⟨b, off + i, none⟩ = some v) {K : PV → Prop} (h : loadVal d cs K) :
    ∃ p v, K p ∧ RepS M δ p v ∧ (loadVar T ⟨b, off, none⟩).run P w = .ok v w := by
  have hag : ∀ (z : List PV), aggD P T true → (∃ i, P.info? T = some i ∧ i.size = z.length) → z.length ≤ cs.length → K (.agg (cs.take z.length)) →
      ∃ p v, K p ∧ RepS M δ p v ∧ (loadVar T ⟨b, off, none⟩).run P w = .ok v w := by
    intro z ha ⟨i, hi, hs⟩ hl hk
    refine ⟨_, _, hk, .agg _ _ (hr.take z.length), ?_⟩
    simp only [loadVar, Sem.run_bind, run_isAgg' ha, Result.andThen_ok, if_true, run_sizeOf' hi, hs]
    rw [run_loadCells' b off vs z.length (by rw [← hr.length]; exact hl) hc]
    rfl
  have hone : aggD P T false → headK cs K → ∃ p v, K p ∧ RepS M δ p v ∧ (loadVar T ⟨b, off, none⟩).run P w = .ok v w := by
    intro ha hk
    cases hr with
    | nil => exact hk.elim
    | cons p v ps vs h1 h2 =>
      refine ⟨p, v, hk, h1, ?_⟩
      have := hc 0 v rfl
      simp only [Nat.add_zero] at this
      simp [loadVar, run_isAgg' ha, this]
  cases d with
  | struct fs z _ =>
    obtain ⟨fields, h1, _, _, ⟨i, zv, hi, hs, _⟩, _⟩ := hd
    exact hag z ⟨_, h1, rfl⟩ ⟨i, hi, hs⟩ h.1 h.2
  | arr n esz ag z =>
    obtain ⟨e, h1, _, _, ⟨i, zv, hi, hs, _⟩, _⟩ := hd
    exact hag z ⟨_, h1, rfl⟩ ⟨i, hi, hs⟩ h.1 h.2
  | other => exact h.elim
  | _ => exact hone (hd.agg_false trivial) h

theorem Inv.cell {M : Mem} {F : Frm} {δ : Nat → Value} {hp : List (Nat × GObj)} (h : Inv M F δ hp w) {b : Nat} {cells : Array Value} {T : TypeId} {fr : Nat × Nat} (hb : M b = some (.cells cells T fr)) (i : Nat) :
    w.cell? ⟨b, i, none⟩ = cells[i]? := cell_of_row w b i cells T fr (h.m _ _ hb)

theorem ptr_inv2 {M : Mem} {cs : List PV} {v : Value} (h : RepI M (.ptr cs) v) : ∃ b off cells T fr vs, v = .pointer (some ⟨b, off, none⟩) ∧ M b = some (.cells cells T fr) ∧ RepIs M cs vs ∧
    (∀ v ∈ vs, v.oneCell' = true) ∧ ∀ (i : Nat) (v : Value), vs[i]? = some v → cells[off + i]? = some v := by
  cases h with
  | ptr _ b off cells T fr vs h1 h2 h3 h4 => exact ⟨b, off, cells, T, fr, vs, rfl, h1, h2, h3, h4⟩

theorem sl_inv2 {M : Mem} {sz : Nat} {es : List (List PV)} {v : Value} (h : RepI M (.sl sz es) v) : (∃ ao c, v = .slice ao 0 c ∧ es = []) ∨ ∃ b off c cells T fr vs, v = .slice (some ⟨b, off, none⟩) es.length c ∧
    M b = some (.cells cells T fr) ∧ es.length ≤ c ∧ 0 < sz ∧ (∀ e ∈ es, e.length = sz) ∧ RepIs M es.flatten vs ∧ (∀ v ∈ vs, v.oneCell' = true) ∧ ∀ (i : Nat) (v : Value), vs[i]? = some v → cells[off + i]? = some v := by
  cases h with
  | sl0 _ ao c => exact .inl ⟨ao, c, rfl, rfl⟩
  | sl _ _ b off c cells T fr vs h1 h2 h3 h4 h5 h6 h7 => exact .inr ⟨b, off, c, cells, T, fr, vs, rfl, h1, h2, h3, h4, h5, h6, h7⟩

theorem ptr_cells {M : Mem} {F : Frm} {δ : Nat → Value} {hp : List (Nat × GObj)} (hi : Inv M F δ hp w) {cs : List PV} {v : Value} (h : RepI M (.ptr cs) v) :
    ∃ b off vs, v = .pointer (some ⟨b, off, none⟩) ∧ RepIs M cs vs ∧ (∀ v ∈ vs, v.oneCell' = true) ∧ ∀ i v, vs[i]? = some v → w.cell? ⟨b, off + i, none⟩ = some v := by
  cases h with
  | ptr _ b off cells T fr vs h1 h2 h3 h4 =>
    exact ⟨b, off, vs, rfl, h2, h3, fun i v hv => by rw [hi.cell h1]; exact h4 i v hv⟩

theorem flatten_get {es : List (List PV)} {sz : Nat} (hs : ∀ e ∈ es, e.length = sz) {i : Nat} {c : List PV} (hi : es[i]? = some c) :
    (es.flatten.drop (i * sz)).take sz = c ∧ i * sz + sz ≤ es.flatten.length := by
  induction es generalizing i with
  | nil => simp at hi
  | cons e es ih =>
    have he : e.length = sz := hs e (by simp)
    cases i with
    | zero =>
      simp at hi
      subst hi
      constructor
      · simp [← he]
      · simp [he]
    | succ i =>
      have := ih (fun e h => hs e (by simp [h])) (by simpa using hi)
      constructor
      · have h' : (e ++ es.flatten).drop ((i + 1) * sz) = es.flatten.drop (i * sz) := by
          rw [List.drop_append, List.drop_eq_nil_of_le (by rw [he, Nat.succ_mul]; omega), List.nil_append, he, Nat.succ_mul, Nat.add_sub_cancel]
        rw [List.flatten_cons, h']
        exact this.1
      · simp only [List.flatten_cons, List.length_append, he, Nat.succ_mul]
        omega

/-- the cells of an owned object -/
theorem own_cells {M : Mem} {F : Frm} {δ : Nat → Value} {hp : List (Nat × GObj)} (hi : Inv M F δ hp w) {g : Nat} {o : GObj} (hg : aget hp g = some o) {b n c : Nat}
    (hδ : δ g = .slice (some ⟨b, 0, none⟩) n c) {i : Nat} {e : List PV} (he : o.es[i]? = some e) :
    ∃ vs, RepSs M δ e vs ∧ (∀ v ∈ vs, v.oneCell' = true) ∧ ∀ j v, vs[j]? = some v → w.cell? ⟨b, i * o.sz + j, none⟩ = some v := by
  obtain ⟨xs, h1, h2, h3, h4, h5, h6, h7⟩ := hi.own g o hg
  obtain ⟨h8, h9⟩ := flatten_get h2 he
  refine ⟨(xs.drop (i * o.sz)).take o.sz, ?_, ?_, ?_⟩
  · rw [← h8]; exact (h4.drop _).take _
  · intro v hv
    exact h6 v (List.mem_of_mem_drop (List.mem_of_mem_take hv))
  · intro j v hv
    rw [List.getElem?_take] at hv
    split at hv
    · rw [List.getElem?_drop] at hv
      have := h1.cells (g := b) (by rw [hδ]; rfl) (i * o.sz + j) v hv
      unfold Addr.add at this
      split at this
      · rename_i h0; rw [h0]; exact this
      · simpa using this
    · cases hv
end
end Go.Proofs.Ytogehfalhodapaa.Pv
namespace Go.Proofs.Ytogehfalhodapaa.Pv
open Go

/-- the contract of a function on values that lean on read memory alone -/
structure FC (P : Program) (f : Nat) (args : List PV) (r : PV) : Prop where
  enter : ∀ (args : Array Value) (w : World), (callFunc f args).run P w = .ok (.enter f args) w
  calls : ∀ (vs : List Value) (w : World) (M : Mem) (F : Frm), Inv M F (fun _ => undef) [] w → RepIs M args vs →
    Calls P f vs.toArray w fun e w' => ∃ M' v, e = .returned v ∧ M.le M' ∧ Inv M' F (fun _ => undef) [] w' ∧ RepI M' r v

section
variable {P : Program} {w : World}

theorem opnds_rep {N : Cx} {s : St} {a : Act} {M : Mem} {F : Frm} {δ : Nat → Value} (h : Rel N s a w M F δ) : ∀ l : List Operand, RepSs M δ (opnds s l) (l.map a.eval)
  | [] => .nil
  | x :: r => .cons _ _ _ _ (h.opnd x) (opnds_rep h r)

theorem borrow_rep {M : Mem} {F : Frm} {δ : Nat → Value} {hp : List (Nat × GObj)} (hi : Inv M F δ hp w) {p : PV} {v : Value} (h : RepS M δ p v) {M' : Mem} (hm : M.le M')
    (hb : ∀ g o, aget hp g = some o → ∀ b, (δ g).ownBlock = some b → M' b = w.heap[b]?) : RepS M' δ (borrow hp p) v := by
  unfold borrow
  split
  · rename_i g
    split
    · rename_i o hg
      split
      · exact h.mono hm
      · rename_i hown
        obtain ⟨hv, ao, n, c, hs⟩ := h.os_inv'
        obtain ⟨xs, h1, h2, h3, h4, h5, h6, h7⟩ := hi.own g o hg
        have h5' := h5 (by simpa using hown)
        refine .imm _ _ ?_
        rw [hv]
        rcases h1.2 with ⟨e1, e2⟩ | ⟨b, cap, cur, e1, e2, e3, e4, e5, e6, e7⟩
        · rw [e1]
          have : o.es = [] := List.eq_nil_of_length_eq_zero e2
          rw [this]
          exact .sl0 _ _ _
        · rw [e1]
          refine .sl _ _ _ _ _ cur o.ty (0, 0) xs ?_ e4 h3 h2 (h5'.mono hm) h6 ?_
          · rw [hb g o hg b (by rw [e1]; rfl)]; exact e3
          · intro i u hu
            rw [← e7, List.getElem?_take] at hu
            split at hu
            · simpa using hu
            · cases hu
    · exact h.mono hm
  · exact h.mono hm

theorem borrows_rep {M : Mem} {F : Frm} {δ : Nat → Value} {hp : List (Nat × GObj)} (hi : Inv M F δ hp w) {M' : Mem} (hm : M.le M')
    (hb : ∀ g o, aget hp g = some o → ∀ b, (δ g).ownBlock = some b → M' b = w.heap[b]?) : ∀ {ps : List PV} {vs : List Value}, RepSs M δ ps vs → RepSs M' δ (borrows hp ps) vs
  | _, _, .nil => .nil
  | _, _, .cons _ _ _ _ h1 h2 => .cons _ _ _ _ (borrow_rep hi h1 hm hb) (borrows_rep hi hm hb h2)

theorem borrows_imm (hp : List (Nat × GObj)) : ∀ ps : List PV, isImms ps = true → borrows hp ps = ps
  | [], _ => rfl
  | p :: r, h => by
    simp [isImms] at h
    have h1 : borrow hp p = p := by
      unfold borrow
      split
      · simp [isImm] at h
      · rfl
    simp [borrows, h1, borrows_imm hp r h.2]

/-- a call of a function by its contract -/
theorem callV_wp {C : Ctr} (hC : ∀ f as r, C f as r → FC P f as r) {f : Nat} {hp : List (Nat × GObj)} {args : List PV} {vs : List Value} {K : PV → Prop} {M : Mem} {F : Frm} {δ : Nat → Value}
    (h : CallV C f args (borrows hp args) K) (hi : Inv M F δ hp w) (hr : RepSs M δ args vs) :
    (∀ (as : Array Value) (w : World), (callFunc f as).run P w = .ok (.enter f as) w) ∧
    Calls P f vs.toArray w fun e w' => ∃ M' v p, e = .returned v ∧ K p ∧ M.le M' ∧ Inv M' F δ hp w' ∧ RepS M' δ p v := by
  obtain ⟨r, hc, h1, h2, h3⟩ := h
  have hfc := hC _ _ _ hc
  refine ⟨hfc.enter, ?_⟩
  -- the blocks of the objects
  let own : Nat → Prop := fun b => ∃ g o, aget hp g = some o ∧ (δ g).ownBlock = some b
  have hown : ∀ b, own b → M b = none ∧ F b = none := by
    rintro b ⟨g, o, hg, hb⟩
    obtain ⟨xs, _, _, _, _, _, _, h7⟩ := hi.own g o hg
    exact h7 b hb
  classical
  by_cases himm : isImms args = true
  · -- nothing is lent
    have hi0 : Inv M ⟨fun b => if own b then w.heap[b]? else F b, F.os, F.out⟩ (fun _ => undef) [] w := by
      refine ⟨hi.m, ?_, ?_, hi.io, by intro g o hg; simp [aget] at hg, by intro g g' o o' _ hg; simp [aget] at hg⟩
      · intro b o hb
        dsimp only at hb
        split at hb
        · exact hb
        · exact hi.f _ _ hb
      · intro b hb
        dsimp only
        split
        · rename_i ho; exact absurd (hown b ho).1 hb
        · exact hi.mf b hb
    rw [borrows_imm hp args himm] at hc
    refine ((hC _ _ _ hc).calls vs w M _ hi0 (hr.toI himm)).mono ?_
    rintro e w' ⟨M', v, rfl, hm, hi', hrep⟩
    refine ⟨M', v, r, rfl, h3, hm, ?_, .imm _ _ hrep⟩
    have hold : ∀ b, own b → w'.heap[b]? = w.heap[b]? := by
      intro b hb
      cases hwb : w.heap[b]? with
      | none =>
        obtain ⟨g, o, hg, hgb⟩ := hb
        obtain ⟨xs, h1, _⟩ := hi.own g o hg
        have := (h1.lt b hgb).2
        simp at hwb; omega
      | some x => exact hi'.f b x (by simp [hb, hwb])
    refine ⟨hi'.m, ?_, ?_, hi'.io, ?_, hi.dis⟩
    · intro b x hb
      have hno : ¬ own b := fun ho => by rw [(hown b ho).2] at hb; cases hb
      exact hi'.f b x (by simp [hno, hb])
    · intro b hb
      have := hi'.mf b hb
      dsimp only at this
      split at this
      · rename_i ho; exact (hown b ho).2
      · exact this
    · intro g o hg
      obtain ⟨xs, q1, q2, q3, q4, q5, q6, q7⟩ := hi.own g o hg
      refine ⟨xs, ?_, q2, q3, q4.mono hm, fun ho => (q5 ho).mono hm, q6, ?_⟩
      · refine ⟨q1.1, ?_⟩
        rcases q1.2 with hh | ⟨b, cap, cur, e1, e2, e3, e4⟩
        · exact .inl hh
        · exact .inr ⟨b, cap, cur, e1, e2, by rw [hold b ⟨g, o, hg, by rw [e1]; rfl⟩]; exact e3, e4⟩
      · intro b hb
        refine ⟨?_, (q7 b hb).2⟩
        have ho : own b := ⟨g, o, hg, hb⟩
        cases hm' : M' b with
        | none => rfl
        | some x =>
          have := hi'.mf b (by rw [hm']; simp)
          simp only [ho, if_true] at this
          have h8 := (q1.lt b hb).2
          simp at this; omega
  · -- objects are lent for the time of the call; the result leans on no memory
    have hsc : scalar r = true := by simpa [himm] using h2
    have hi0 : Inv (fun b => if own b then w.heap[b]? else M b) F (fun _ => undef) [] w := by
      refine ⟨?_, hi.f, ?_, hi.io, by intro g o hg; simp [aget] at hg, by intro g g' o o' _ hg; simp [aget] at hg⟩
      · intro b o hb
        skip
        split at hb
        · exact hb
        · exact hi.m _ _ hb
      · intro b hb
        skip
        split at hb
        · rename_i ho; exact (hown b ho).2
        · exact hi.mf b hb
    have hm0 : M.le (fun b => if own b then w.heap[b]? else M b) := by
      intro b o hb
      have : ¬ own b := fun ho => by rw [(hown b ho).1] at hb; cases hb
      simp [this, hb]
    have hrep0 := borrows_rep hi hm0 (fun g o hg b hb => by
      have ho : own b := ⟨g, o, hg, hb⟩
      simp [ho]) hr
    refine (hfc.calls vs w _ F hi0 (hrep0.toI h1)).mono ?_
    rintro e w' ⟨M', v, rfl, hm, hi', hrep⟩
    refine ⟨fun b => if own b then none else M' b, v, r, rfl, h3, ?_, ?_, .imm _ _ (hrep.ofScalar hsc)⟩
    · intro b o hb
      have : ¬ own b := fun ho => by rw [(hown b ho).1] at hb; cases hb
      simp only [this, if_false]
      exact hm b o (hm0 b o hb)
    · have hold : ∀ b, own b → w'.heap[b]? = w.heap[b]? := by
        intro b hb
        cases hwb : w.heap[b]? with
        | none =>
          obtain ⟨g, o, hg, hgb⟩ := hb
          obtain ⟨xs, h1, _⟩ := hi.own g o hg
          have := (h1.lt b hgb).2
          simp at hwb; omega
        | some x => exact hi'.m b x (hm b x (by simp [hb, hwb]))
      have hmm : M.le (fun b => if own b then none else M' b) := by
        intro b o hb
        have : ¬ own b := fun ho => by rw [(hown b ho).1] at hb; cases hb
        simp only [this, if_false]
        exact hm b o (hm0 b o hb)
      refine ⟨?_, hi'.f, ?_, hi'.io, ?_, hi.dis⟩
      · intro b o hb
        skip
        split at hb
        · cases hb
        · exact hi'.m b o hb
      · intro b hb
        skip
        split at hb
        · exact absurd rfl hb
        · exact hi'.mf b hb
      · intro g o hg
        obtain ⟨xs, q1, q2, q3, q4, q5, q6, q7⟩ := hi.own g o hg
        refine ⟨xs, ?_, q2, q3, q4.mono hmm, fun ho => (q5 ho).mono hmm, q6, ?_⟩
        · refine ⟨q1.1, ?_⟩
          rcases q1.2 with hh | ⟨b, cap, cur, e1, e2, e3, e4⟩
          · exact .inl hh
          · exact .inr ⟨b, cap, cur, e1, e2, by rw [hold b ⟨g, o, hg, by rw [e1]; rfl⟩]; exact e3, e4⟩
        · intro b hb
          refine ⟨?_, (q7 b hb).2⟩
          have ho : own b := ⟨g, o, hg, hb⟩
          simp [ho]
end
end Go.Proofs.Ytogehfalhodapaa.Pv
namespace Go.Proofs.Ytogehfalhodapaa.Pv
open Go

section
variable {P : Program} {w : World}

/-- the fence that asks nothing: of a function's own frame (none), or of a round's of a loop over a function -/
abbrev FnR (ρ : Option Nat) : Fence := { Fence.wide with round := ρ }

theorem sem_of_run {ρ : Option Nat} {o : Oper} {a : Act} {x : Next} {w' : World} (hx : ∀ d, x ≠ .defer d) (h : (execOp a.eval o).run P w = .ok x w') : (o.semAt ρ a.eval).run P w = .ok x w' := by
  rw [Oper.semAt_eq]
  · exact h
  · intro c hc
    simp only [execOp, hc, Sem.run_bind] at h
    cases hr : (resolve a.eval c o.type).run P w with
    | ok d w2 =>
      rw [hr] at h
      simp only [Result.andThen_ok, Sem.run_pure, Result.ok.injEq] at h
      exact hx _ h.1.symm
    | halt d w2 =>
      rw [hr] at h
      simp [Result.andThen] at h

theorem wpIn_of_sem {ρ : Option Nat} {o : Oper} {a : Act} {x : Next} {w' : World} {next : Act → World → Prop} {Q : Exit → Act → World → Prop} (hx : ∀ d, x ≠ .defer d)
    (h : (execOp a.eval o).run P w = .ok x w') (hn : o.uponIn (FnR ρ) 0 P a next Q (.ok x w')) : o.wpIn (FnR ρ) 0 P a w next Q := by
  unfold Oper.wpIn
  refine ⟨fun _ _ => trivial, ?_⟩
  have : (o.semAt (FnR ρ).round a.eval).run P w = .ok x w' := sem_of_run hx h
  rw [this]
  exact hn

theorem wp_of_run {ρ : Option Nat} {o : Oper} {a : Act} {v : Value} {w' : World} {next : Act → World → Prop} {Q : Exit → Act → World → Prop}
    (h : (execOp a.eval o).run P w = .ok (.value v) w') (hn : next (a.put o.dst v) w') : o.wpIn (FnR ρ) 0 P a w next Q :=
  wpIn_of_sem (by intro d; simp) h hn

theorem callsIn_of_calls {ρ : Option Nat} {n : Nat} {f : FuncId} {args : Array Value} {R : Ending → World → Prop} (h : Calls P f args w R) : CallsIn (FnR ρ) n P f args w R :=
  (callsIn_wide (n := n)).2 h

theorem foldl_set (off : Nat) : ∀ (vs : List Value) (k : Nat) (cells : Array Value), off + k + vs.length ≤ cells.size →
    (List.foldl (fun (cs : Array Value) (x : Value × Nat) => cs.setIfInBounds (off + x.2) x.1) cells (vs.zipIdx k)).toList =
      cells.toList.take (off + k) ++ vs ++ cells.toList.drop (off + k + vs.length)
  | [], k, cells, h => by simp
  | v :: vs, k, cells, h => by
    simp only [List.length_cons] at h
    rw [List.zipIdx_cons, List.foldl_cons, foldl_set off vs (k + 1) (cells.setIfInBounds (off + k) v) (by simp; omega)]
    simp only [Array.toList_setIfInBounds, List.length_cons]
    have hk : off + k < cells.toList.length := by simp; omega
    have e1 : (cells.toList.set (off + k) v).take (off + (k + 1)) = cells.toList.take (off + k) ++ [v] := by
      rw [← Nat.add_assoc, List.take_succ_eq_append_getElem (by simpa using hk)]
      simp [List.take_set_of_le]
    have e2 : (cells.toList.set (off + k) v).drop (off + (k + 1) + vs.length) = cells.toList.drop (off + k + (vs.length + 1)) := by
      rw [List.drop_set_of_lt (by omega)]
      congr 1
      omega
    rw [e1, e2]
    simp

theorem fill_append {place : Nat → Option (Nat × Nat)} (cells : Array Value) (i : Nat) (v : Value) (r : List (Nat × Value)) (off sz : Nat) (hp : place i = some (off, sz)) (hs : v.cells.size = sz)
    (hl : off + sz ≤ cells.size) : Instr.fill place cells ((i, v) :: r) = Instr.fill place ((cells.toList.take off ++ v.cells.toList ++ cells.toList.drop (off + v.cells.toList.length)).toArray) r := by
  have hf : Array.foldl (fun (cs : Array Value) (x : Value × Nat) => match x with | (c, j) => cs.setIfInBounds (off + j) c) cells v.cells.zipIdx =
      (cells.toList.take off ++ v.cells.toList ++ cells.toList.drop (off + v.cells.toList.length)).toArray := by
    have := foldl_set off v.cells.toList 0 cells (by simp; omega)
    rw [← Array.foldl_toList, Array.toList_zipIdx]
    apply Array.toList_inj.1
    simpa using this
  simp only [Instr.fill, hp]
  rw [if_neg (by simp; omega)]
  exact congrArg (fun c => Instr.fill place c r) hf

theorem binInt_run {op : BinOp} {k : IntKind} {x y : Int} {K : PV → Prop} (h : binInt op k x y K) (xT : TypeId) :
    ∃ p v, K p ∧ (binOp op xT (.int k x) (.int k y)).run P w = .ok v w ∧ ∀ M δ, RepS M δ p v := by
  have wr : ∀ n : Int, inI64 n → IntKind.i64.wrap n = n := by
    intro n hn
    unfold inI64 at hn
    exact IntWalk.i64_in _ (by omega)
  have I : ∀ (k : IntKind) (n : Int) (M : Mem) (δ : Nat → Value), RepS M δ (.int k n) (.int k n) := fun k n M δ => .imm _ _ (.int k n)
  have B : ∀ (b : Bool) (M : Mem) (δ : Nat → Value), RepS M δ (.bool b) (.bool b) := fun b M δ => .imm _ _ (.bool b)
  have beq : ∀ a b : Int, (a == b) = decide (a = b) := fun a b => by by_cases h : a = b <;> simp [h]
  cases op <;> simp only [binInt] at h
  case add =>
    split at h
    · exact ⟨_, .int .i64 (x + y), h.2, by simp [binOp, Op.intArith, wr _ h.1], I _ _⟩
    · exact ⟨_, _, h, by simp [binOp, Op.intArith], I _ _⟩
  case sub =>
    split at h
    · exact ⟨_, .int .i64 (x - y), h.2, by simp [binOp, Op.intArith, wr _ h.1], I _ _⟩
    · exact ⟨_, _, h, by simp [binOp, Op.intArith], I _ _⟩
  case mul =>
    split at h
    · exact ⟨_, .int .i64 (x * y), h.2, by simp [binOp, Op.intArith, wr _ h.1], I _ _⟩
    · exact ⟨_, _, h, by simp [binOp, Op.intArith], I _ _⟩
  case quo =>
    split at h
    · exact ⟨_, .int .i64 (x.tdiv y), h.2, by simp [binOp, Op.intDiv, h.1.1, wr _ h.1.2], I _ _⟩
    · exact ⟨_, _, h.2, by simp [binOp, Op.intDiv, h.1], I _ _⟩
  case rem => exact ⟨_, .int k (x.tmod y), h.2, by simp [binOp, Op.intDiv, h.1], I _ _⟩
  case eql => exact ⟨_, .bool (decide (x = y)), h, by simp [binOp, Op.intCmp, beq], B _⟩
  case neq => exact ⟨_, .bool (!decide (x = y)), h, by simp [binOp, Op.intCmp, bne, beq], B _⟩
  case lss => exact ⟨_, .bool (decide (x < y)), h, by simp [binOp, Op.intCmp], B _⟩
  case leq => exact ⟨_, .bool (decide (x ≤ y)), h, by simp [binOp, Op.intCmp], B _⟩
  case gtr => exact ⟨_, .bool (decide (y < x)), h, by simp [binOp, Op.intCmp], B _⟩
  case geq => exact ⟨_, .bool (decide (y ≤ x)), h, by simp [binOp, Op.intCmp], B _⟩
  case and => exact ⟨_, _, h, by simp [binOp, Op.intBits], I _ _⟩
  case or => exact ⟨_, _, h, by simp [binOp, Op.intBits], I _ _⟩
  case xor => exact ⟨_, _, h, by simp [binOp, Op.intBits], I _ _⟩

end
end Go.Proofs.Ytogehfalhodapaa.Pv
namespace Go.Proofs.Ytogehfalhodapaa.Pv
open Go

section
variable {P : Program} {w : World} {N : Cx} {s : St} {a : Act} {M : Mem} {F : Frm} {δ : Nat → Value}

theorem fillF_run {fields : Array Field} {fs : List (Nat × Nat × Bool)} {zl : Nat}
    (hf : ∀ (k off sz : Nat) (ag : Bool), fs[k]? = some (off, sz, ag) → ∃ f, fields[k]? = some f ∧ f.offset = off ∧ 0 < sz ∧ off + sz ≤ zl ∧ (∃ j, P.info? f.type = some j ∧ j.size = sz) ∧ aggD P f.type ag ∧ (ag = false → sz = 1))
    (place : Nat → Option (Nat × Nat)) (hpl : ∀ (k off sz : Nat) (ag : Bool), fs[k]? = some (off, sz, ag) → place k = some (off, sz))
    (hr : Rel N s a w M F δ) : ∀ (ps : List (Nat × Operand)) (z : List PV) (zv : List Value) (cs : List PV), z.length = zl → RepSs M δ z zv → fillF s fs ps z = some cs →
      ∃ vs : List Value, Instr.fill place zv.toArray (ps.map fun x => (x.1, a.eval x.2)) = some vs.toArray ∧ RepSs M δ cs vs
  | [], z, zv, cs, hz, hrep, h => by
    simp only [fillF, Option.some.injEq] at h
    subst h
    exact ⟨zv, rfl, hrep⟩
  | (i, x) :: r, z, zv, cs, hz, hrep, h => by
    simp only [fillF] at h
    split at h
    · rename_i off sz ag hk
      split at h
      · rename_i hc
        obtain ⟨f, h1, h2, h3, h4, _⟩ := hf i off sz ag hk
        have hx := (hr.opnd x).cells hc.2
        have hsz : (a.eval x).cells.size = sz := by have := hx.length; rw [hc.1] at this; simpa using this.symm
        have hl : off + sz ≤ zv.toArray.size := by simp [← hrep.length, hz, h4]
        rw [List.map_cons, fill_append zv.toArray i (a.eval x) _ off sz (hpl i off sz ag hk) hsz hl]
        refine fillF_run hf place hpl hr r _ _ cs ?_ (hrep.splice off hx) h
        unfold splice
        simp only [List.length_append, List.length_take, List.length_drop, hc.1, hz]
        omega
      · cases h
    · cases h

theorem fillA_run {n esz zl : Nat} (hz0 : n * esz = zl)
    (hr : Rel N s a w M F δ) : ∀ (ps : List (Nat × Operand)) (z : List PV) (zv : List Value) (cs : List PV), z.length = zl → RepSs M δ z zv → fillA s n esz ps z = some cs →
      ∃ vs : List Value, Instr.fill (fun i => some (i * esz, esz)) zv.toArray (ps.map fun x => (x.1, a.eval x.2)) = some vs.toArray ∧ RepSs M δ cs vs
  | [], z, zv, cs, hz, hrep, h => by
    simp only [fillA, Option.some.injEq] at h
    subst h
    exact ⟨zv, rfl, hrep⟩
  | (i, x) :: r, z, zv, cs, hz, hrep, h => by
    simp only [fillA] at h
    split at h
    · rename_i hi
      split at h
      · rename_i hc
        have hx := (hr.opnd x).cells hc.2
        have hsz : (a.eval x).cells.size = esz := by have := hx.length; rw [hc.1] at this; simpa using this.symm
        have h4 : i * esz + esz ≤ zl := by
          rw [← hz0, ← Nat.succ_mul]; exact Nat.mul_le_mul_right _ hi
        have hl : i * esz + esz ≤ zv.toArray.size := by simp [← hrep.length, hz, h4]
        rw [List.map_cons, fill_append zv.toArray i (a.eval x) _ (i * esz) esz rfl hsz hl]
        refine fillA_run hz0 hr r _ _ cs ?_ (hrep.splice _ hx) h
        unfold splice
        simp only [List.length_append, List.length_take, List.length_drop, hc.1, hz]
        omega
      · cases h
    · cases h

theorem flatten_set {es : List (List PV)} {sz : Nat} (hs : ∀ e ∈ es, e.length = sz) {i : Nat} (hi : i < es.length) {c : List PV} (hc : c.length = sz) :
    (es.set i c).flatten = splice es.flatten (i * sz) c := by
  induction es generalizing i with
  | nil => simp at hi
  | cons e es ih =>
    have he : e.length = sz := hs e (by simp)
    cases i with
    | zero =>
      unfold splice
      simp [hc, ← he]
    | succ i =>
      have := ih (fun e h => hs e (by simp [h])) (i := i) (by simpa using hi)
      unfold splice at *
      have e1 : (e ++ es.flatten).take ((i + 1) * sz) = e ++ es.flatten.take (i * sz) := by
        rw [List.take_append, List.take_of_length_le (by rw [he, Nat.succ_mul]; omega), he, Nat.succ_mul, Nat.add_sub_cancel]
      have e2 : (e ++ es.flatten).drop ((i + 1) * sz + c.length) = es.flatten.drop (i * sz + c.length) := by
        rw [List.drop_append, List.drop_eq_nil_of_le (by rw [he, Nat.succ_mul]; omega), List.nil_append, he, Nat.succ_mul]
        congr 1
        omega
      rw [List.set_cons_succ, List.flatten_cons, this, List.flatten_cons, e1, e2]
      simp

theorem fillS_run {esz : Nat} (hr : Rel N s a w M F δ) : ∀ (ps : List (Nat × Operand)) (z : List (List PV)) (zv : List Value) (es : List (List PV)), (∀ e ∈ z, e.length = esz) →
      RepSs M δ z.flatten zv → leafs z.flatten = true → fillS s esz ps z = some es →
      ∃ vs : List Value, Instr.fill (fun i => some (i * esz, esz)) zv.toArray (ps.map fun x => (x.1, a.eval x.2)) = some vs.toArray ∧ RepSs M δ es.flatten vs ∧ es.length = z.length ∧ (∀ e ∈ es, e.length = esz) ∧
        (∀ v ∈ vs, v.oneCell' = true)
  | [], z, zv, es, hz, hrep, hlf, h => by
    simp only [fillS, Option.some.injEq] at h
    subst h
    exact ⟨zv, rfl, hrep, rfl, hz, hrep.leafs hlf⟩
  | (i, x) :: r, z, zv, es, hz, hrep, hlf, h => by
    simp only [fillS] at h
    split at h
    · rename_i hi
      split at h
      · rename_i hc
        have hx := (hr.opnd x).cells hc.2
        have hsz : (a.eval x).cells.size = esz := by have := hx.length; rw [hc.1] at this; simpa using this.symm
        obtain ⟨_, h4⟩ := flatten_get hz (i := i) (c := z[i]) (by simp [hi])
        have hl : i * esz + esz ≤ zv.toArray.size := by simpa [← hrep.length] using h4
        rw [List.map_cons, fill_append zv.toArray i (a.eval x) _ (i * esz) esz rfl hsz hl]
        have hfl := flatten_set hz hi hc.1
        have hrep' := hrep.splice (i * esz) hx
        rw [← hfl] at hrep'
        obtain ⟨vs, q1, q2, q3, q4, q5⟩ := fillS_run hr r (z.set i (opnd s x).cells) _ es (by
          intro e he
          rcases List.mem_or_eq_of_mem_set he with h' | rfl
          · exact hz e h'
          · exact hc.1) hrep' (by
            rw [hfl]
            have lapp : ∀ l l' : List PV, leafs (l ++ l') = (leafs l && leafs l') := by
              intro l l'
              induction l with
              | nil => simp [leafs]
              | cons p l ih => simp [leafs, ih, Bool.and_assoc]
            have ltk : ∀ (n : Nat) (l : List PV), leafs l = true → leafs (l.take n) = true ∧ leafs (l.drop n) = true := by
              intro n l hl
              have := lapp (l.take n) (l.drop n)
              rw [List.take_append_drop, hl] at this
              simpa using this.symm
            unfold splice
            rw [lapp, lapp, (ltk _ _ hlf).1, (ltk _ _ hlf).2, hc.2]
            rfl) h
        exact ⟨vs, q1, q2, by simpa using q3, q4, q5⟩
      · cases h
    · cases h

theorem bound_run {x : Option Operand} {d : Int} {K : Int → Prop} (hr : Rel N s a w M F δ) (h : boundOf s x d K) :
    ∃ n, K n ∧ ((x = none ∧ n = d) ∨ ∃ y k, x = some y ∧ a.eval y = .int k n) := by
  cases x with
  | none => exact ⟨d, h, .inl ⟨rfl, rfl⟩⟩
  | some y =>
    simp only [boundOf] at h
    split at h
    · rename_i k n hy
      have := hr.opnd y
      rw [hy] at this
      exact ⟨n, h, .inr ⟨y, k, rfl, this.int_inv⟩⟩
    · exact h.elim

theorem sliceBound_run (k : IntKind) (n : Int) (m : Nat) (code : BoundsCode) (h0 : 0 ≤ n) (h1 : n ≤ m) : (Instr.sliceBound (.int k n) m code).run P w = .ok n.toNat w := by
  simp [Instr.sliceBound, asIntOf, h0, h1]

end
end Go.Proofs.Ytogehfalhodapaa.Pv
namespace Go.Proofs.Ytogehfalhodapaa.Pv
open Go

section
variable {ρ : Option Nat} {P : Program} {E : Env} {C : Ctr} {w : World} {N : Cx} {s : St} {a : Act} {M : Mem} {F : Frm} {δ : Nat → Value}

theorem Inv.alloc {hp : List (Nat × GObj)} (hi : Inv M F δ hp w) (cells : Array Value) (T : TypeId) : 
    Inv (fun b => if b = w.heap.size then some (.cells cells T) else M b) F δ hp (w.alloc (.cells cells T)) ∧ M.le (fun b => if b = w.heap.size then some (.cells cells T) else M b) := by
  have hM : ∀ b o, M b = some o → b < w.heap.size := fun b o h => (Array.getElem?_eq_some_iff.1 (hi.m b o h)).1
  have hF : ∀ b o, F b = some o → b < w.heap.size := fun b o h => (Array.getElem?_eq_some_iff.1 (hi.f b o h)).1
  have hle : M.le (fun b => if b = w.heap.size then some (.cells cells T) else M b) := by
    intro b o h
    have := hM b o h
    simp [show b ≠ w.heap.size by omega, h]
  refine ⟨⟨?_, ?_, ?_, hi.io, ?_, hi.dis⟩, hle⟩
  · intro b o h
    split at h
    · rename_i hb; subst hb; cases h; exact heap_alloc_new w _
    · rw [heap_alloc_old w _ (hM b o h)]; exact hi.m b o h
  · intro b o h
    rw [heap_alloc_old w _ (hF b o h)]; exact hi.f b o h
  · intro b h
    split at h
    · rename_i hb
      subst hb
      cases hf : F w.heap.size with
      | none => rfl
      | some o => have := hF _ _ hf; omega
    · exact hi.mf b h
  · intro g o hg
    obtain ⟨xs, q1, q2, q3, q4, q5, q6, q7⟩ := hi.own g o hg
    refine ⟨xs, q1.alloc _, q2, q3, q4.mono hle, fun h => (q5 h).mono hle, q6, fun b hb => ?_⟩
    have := (q1.lt b hb).2
    simp [show b ≠ w.heap.size by omega, q7 b hb]

theorem places_of : ∀ (fields : List Field) (fs : List (Nat × Nat × Bool)), fs.length = fields.length →
    (∀ (k off sz : Nat) (ag : Bool), fs[k]? = some (off, sz, ag) → ∃ f, fields[k]? = some f ∧ f.offset = off ∧ ∃ j, P.info? f.type = some j ∧ j.size = sz) →
    fields.mapM (fun f => (P.info? f.type).map fun i => (f.offset, i.size)) = some (fs.map fun x => (x.1, x.2.1))
  | [], fs, hl, h => by
    have : fs = [] := List.eq_nil_of_length_eq_zero (by simpa using hl)
    subst this; rfl
  | f :: fields, [], hl, h => by simp at hl
  | f :: fields, (off, sz, ag) :: fs, hl, h => by
    obtain ⟨f', h1, h2, j, h3, h4⟩ := h 0 off sz ag rfl
    simp at h1
    subst h1
    have ih := places_of fields fs (by simpa using hl) (fun k off sz ag hk => h (k + 1) off sz ag (by simpa using hk))
    simp [List.mapM_cons, h3, ih, h2, h4]

theorem rep_replicate {z : List PV} {zs : List Value} (n : Nat) (h : RepSs M δ z zs) : RepSs M δ (List.replicate n z).flatten (List.replicate n zs).flatten := by
  induction n with
  | zero => exact .nil
  | succ n ih =>
    rw [List.replicate_succ, List.replicate_succ, List.flatten_cons, List.flatten_cons]
    exact h.append ih
theorem repI_replicate {z : List PV} {zs : List Value} (n : Nat) (h : RepIs M z zs) : RepIs M (List.replicate n z).flatten (List.replicate n zs).flatten := by
  induction n with
  | zero => exact .nil
  | succ n ih =>
    rw [List.replicate_succ, List.replicate_succ, List.flatten_cons, List.flatten_cons]
    exact h.append ih

theorem leafs_append : ∀ l l' : List PV, leafs (l ++ l') = (leafs l && leafs l') := by
  intro l l'
  induction l with
  | nil => simp [leafs]
  | cons p l ih => simp [leafs, ih, Bool.and_assoc]

theorem leafs_replicate {z : List PV} (n : Nat) (h : leafs z = true) : leafs (List.replicate n z).flatten = true := by
  induction n with
  | zero => rfl
  | succ n ih => rw [List.replicate_succ, List.flatten_cons, leafs_append, ih, h]; rfl

theorem flatten_replicate_get {zs : List Value} {esz : Nat} (hz : zs.length = esz) (n k : Nat) (hk : k < n) : ((List.replicate n zs).flatten.drop (k * esz)).take esz = zs := by
  induction n generalizing k with
  | zero => omega
  | succ n ih =>
    rw [List.replicate_succ, List.flatten_cons]
    cases k with
    | zero => simp [← hz]
    | succ k =>
      have h' : (zs ++ (List.replicate n zs).flatten).drop ((k + 1) * esz) = (List.replicate n zs).flatten.drop (k * esz) := by
        rw [List.drop_append, List.drop_eq_nil_of_le (by rw [hz, Nat.succ_mul]; omega), List.nil_append]
        congr 1
        rw [hz, Nat.succ_mul]
        omega
      rw [h']
      exact ih k (by omega)

theorem zero_cells (zv : Array Value) (esz n : Nat) (hz : zv.size = esz) (h0 : 0 < esz) :
    (Array.range (n * esz)).map (fun x => zv[x % zv.size]!) = (List.replicate n zv.toList).flatten.toArray := by
  apply Array.toList_inj.1
  apply List.ext_getElem
  · simp [hz]
  · intro i i1 i2
    simp only [Array.toList_map, Array.toList_range, List.getElem_map, List.getElem_range]
    have hn : i < n * esz := by simpa using i1
    rw [hz]
    have hm : i % esz < esz := Nat.mod_lt _ h0
    rw [getElem!_pos zv (i % esz) (by rw [hz]; exact hm)]
    have hq : i / esz < n := (Nat.div_lt_iff_lt_mul h0).2 hn
    have r1 := flatten_replicate_get (zs := zv.toList) (by simpa using hz) n (i / esz) hq
    have hi : i = i / esz * esz + i % esz := by rw [Nat.mul_comm]; exact (Nat.div_add_mod i esz).symm
    have h5 : (List.replicate n zv.toList).flatten[i]? = zv.toList[i % esz]? := by
      have h6 := congrArg (fun l => l[i % esz]?) r1
      simp only [List.getElem?_take, hm, if_true, List.getElem?_drop] at h6
      rw [← hi] at h6
      exact h6
    have h7 : (List.replicate n zv.toList).flatten[i]? = some (List.replicate n zv.toList).flatten[i] := List.getElem?_eq_getElem _
    rw [h7] at h5
    have h8 : zv.toList[i % esz]? = some zv[i % esz] := by simp [hz, hm]
    rw [h8] at h5
    exact (Option.some.inj h5).symm

theorem run_buildSlice' {T e : TypeId} {j : TypeInfo} {zv : Value} {esz n : Nat} (t1 : P.underlying T = some (.slice e)) (t4 : P.info? e = some j) (t5 : j.size = esz) (t7 : j.zero = some zv)
    (hz : zv.cells.size = esz) (h0 : 0 < esz) (hle : n * esz ≤ 16777216) {parts : Array (Nat × Value)} {vs : List Value}
    (h : Instr.fill (fun i => some (i * esz, esz)) (List.replicate n zv.cells.toList).flatten.toArray parts.toList = some vs.toArray) :
    (Instr.buildSlice T n parts).run P w = .ok (.slice (some ⟨w.heap.size, 0, none⟩) n n) (w.alloc (.cells vs.toArray e)) := by
  by_cases hn : n * esz = 0
  · have hn0 : n = 0 := by
      rcases Nat.mul_eq_zero.1 hn with h | h
      · exact h
      · omega
    subst hn0
    have hr : Array.map (fun _ => (default : Value)) (Array.range 0) = (List.replicate 0 zv.cells.toList).flatten.toArray := by simp
    simp [Instr.buildSlice, run_underlying t1, run_sizeOf' t4, t5, newRow]
    rw [show Array.range 0 = #[] from rfl, Array.map_empty]
    simp only [List.replicate_zero, List.flatten_nil] at h
    rw [h]
    rfl
  · rw [← zero_cells zv.cells esz n hz h0] at h
    simp [Instr.buildSlice, run_underlying t1, run_sizeOf' t4, t5, newRow, hn, run_zeroValue' t4 t7, show ¬ 16777216 < n * esz by omega]
    rw [h]
    rfl

theorem RepIs.of_zero {z : List PV} {zv : Value} (h : ZeroOk zv z) (M : Mem) : RepIs M z zv.cells.toList := h.2.1 M

theorem cellsEq_run {d : Nat} {xs ys : Array Value} : ∀ (fl : List Field) (off : Nat) (x y : List PV) (c : Bool), (∀ k f, fl[k]? = some f → f.name ≠ "_" ∧ f.offset = off + k ∧ ∃ kk, P.underlying f.type = some (.int kk)) →
    RepSs M δ x (xs.toList.drop off) → RepSs M δ y (ys.toList.drop off) → x.length = fl.length → cellsEq x y = some c → (Op.eqFields (d + 1) xs ys fl).run P w = .ok c w
  | [], off, x, y, c, hf, hx, hy, hl, h => by
    have : x = [] := List.eq_nil_of_length_eq_zero (by simpa using hl)
    subst this
    cases y with
    | nil => simp [cellsEq] at h; subst h; simp [Op.eqFields]
    | cons => simp [cellsEq] at h
  | f :: fl, off, x, y, c, hf, hx, hy, hl, h => by
    obtain ⟨f1, f2, kk, f3⟩ := hf 0 f rfl
    cases x with
    | nil => simp at hl
    | cons p x =>
      cases y with
      | nil => cases p <;> simp [cellsEq] at h
      | cons q y =>
        cases p <;> cases q <;> simp only [cellsEq] at h <;> try (cases h; done)
        rename_i k1 n1 k2 n2
        split at h
        · rename_i c' hk hc'
          have hk : k1 = k2 := by simpa using hk
          subst hk
          cases hxd : xs.toList.drop off with
          | nil => rw [hxd] at hx; cases hx
          | cons u us =>
            cases hyd : ys.toList.drop off with
            | nil => rw [hyd] at hy; cases hy
            | cons u' us' =>
              rw [hxd] at hx; rw [hyd] at hy
              cases hx with | cons _ _ _ _ hx1 hx2 =>
              cases hy with | cons _ _ _ _ hy1 hy2 =>
              have e1 : xs[off]? = some (.int k1 n1) := by
                have := congrArg (fun l => l[0]?) hxd
                simp only [List.getElem?_drop] at this
                simpa [hx1.int_inv] using this
              have e2 : ys[off]? = some (.int k1 n2) := by
                have := congrArg (fun l => l[0]?) hyd
                simp only [List.getElem?_drop] at this
                simpa [hy1.int_inv] using this
              have hus : us = xs.toList.drop (off + 1) := by
                have := congrArg List.tail hxd
                simpa using this.symm
              have hus' : us' = ys.toList.drop (off + 1) := by
                have := congrArg List.tail hyd
                simpa using this.symm
              rw [hus] at hx2; rw [hus'] at hy2
              have ih := cellsEq_run (d := d) fl (off + 1) x y c' (fun k g hg => by
                obtain ⟨g1, g2, g3⟩ := hf (k + 1) g (by simpa using hg)
                exact ⟨g1, by omega, g3⟩) hx2 hy2 (by simpa using hl) hc'
              have hag : aggD P f.type false := ⟨_, f3, rfl⟩
              have hoff : f.offset = off := by simpa using f2
              have p1 : (part f.type xs f.offset).run P w = .ok (.int k1 n1) w := by simp [part, run_isAgg' hag, hoff, e1]
              have p2 : (part f.type ys f.offset).run P w = .ok (.int k1 n2) w := by simp [part, run_isAgg' hag, hoff, e2]
              simp only [Op.eqFields, f1, ne_eq, not_false_eq_true, if_true, Sem.run_bind, p1, p2, Result.andThen_ok, run_equalIn_int w d f.type k1 kk n1 n2 f3, Sem.run_ite]
              simp only [Option.some.injEq] at h
              subst h
              by_cases hn : n1 = n2
              · subst hn
                simp [ih]
              · simp [hn]
        · cases h

theorem binVal_run {xT : TypeId} {d : TD} (hd : TDok P xT d) {op : BinOp} {p q : PV} {K : PV → Prop} (h : binVal d op p q K) {u v : Value} (hx : RepS M δ p u) (hy : RepS M δ q v) (x y : Operand) :
    ∃ r z, K r ∧ (eqGuard op xT x y u v).run P w = .ok () w ∧ (binOp op xT u v).run P w = .ok z w ∧ RepS M δ r z := by
  have beq : ∀ a b : Bool, (a == b) = decide (a = b) := fun a b => by cases a <;> cases b <;> rfl
  unfold binVal at h
  split at h
  · rename_i k n k' n'
    rw [hx.int_inv, hy.int_inv]
    have hg : (eqGuard op xT x y (.int k n) (.int k' n')).run P w = .ok () w := by
      cases op <;> simp [eqGuard]
    split at h
    · unfold shiftInt at h
      exact ⟨_, .int k (k.wrap (n * 2 ^ (min n'.toNat k.bits))), h.2, hg, by simp [binOp, Op.shift, show ¬ n' < 0 by omega], .imm _ _ (.int _ _)⟩
    · unfold shiftInt at h
      exact ⟨_, .int k (n.fdiv (2 ^ (min n'.toNat k.bits))), h.2, hg, by simp [binOp, Op.shift, show ¬ n' < 0 by omega], .imm _ _ (.int _ _)⟩
    · obtain ⟨rfl, h⟩ := h
      obtain ⟨r, z, e1, e2, e3⟩ := binInt_run (P := P) (w := w) h xT
      exact ⟨r, z, e1, hg, e2, e3 _ _⟩
  · rename_i b b'
    rw [hx.bool_inv, hy.bool_inv]
    cases d <;> simp only [] at h <;> try exact h.elim
    have hu := hd.1
    cases op <;> simp only [eqOut] at h <;> try exact h.elim
    · exact ⟨_, .bool (decide (b = b')), h, by simp [eqGuard], by simp [binOp, Op.equal, Op.maxDepth, run_equalIn_bool' w _ xT b b' hu, beq], .imm _ _ (.bool _)⟩
    · exact ⟨_, .bool (!decide (b = b')), h, by simp [eqGuard], by simp [binOp, Op.equal, Op.maxDepth, run_equalIn_bool' w _ xT b b' hu, beq], .imm _ _ (.bool _)⟩
  · rename_i b b'
    rw [hx.str_inv, hy.str_inv]
    have hg : (eqGuard op xT x y (.string b) (.string b')).run P w = .ok () w := by
      cases op <;> simp [eqGuard]
    have hbe : (b.toList == b'.toList) = decide (b = b') := by
      by_cases hb : b = b'
      · subst hb; simp
      · have : b.toList ≠ b'.toList := by
          intro h'
          rw [ByteArray.toList_eq, ByteArray.toList_eq] at h'
          apply hb
          cases b; cases b'
          congr 1
          exact Array.toList_inj.1 h'
        simp [hb, this]
    split at h
    · exact ⟨_, .bool (decide (b = b')), h, hg, by simp [binOp, Op.stringOp, hbe], .imm _ _ (.bool _)⟩
    · exact ⟨_, .bool (!decide (b = b')), h, hg, by simp [binOp, Op.stringOp, hbe], .imm _ _ (.bool _)⟩
    · refine ⟨_, .string (b ++ b'), h.2, hg, ?_, .imm _ _ (.str _)⟩
      have : ¬ (IntKind.i64.max < ((b.size + b'.size : Nat) : Int)) := by
        have := h.1
        simp only [show IntKind.i64.max = 9223372036854775807 from rfl]
        omega
      simp only [binOp, Op.stringOp, Sem.run_ite]
      rw [if_neg (by simpa using this)]
      rfl
    · exact h.elim
  · rename_i cs ds
    split at h
    · rename_i fs z
      split at h
      · rename_i hlen
        split at h
        · rename_i c hc
          obtain ⟨vs, rfl, hvs⟩ := hx.agg_inv
          obtain ⟨us, rfl, hus⟩ := hy.agg_inv
          obtain ⟨fields, f1, f2, f3, f4, f5⟩ := hd
          obtain ⟨c1, c2, c3, c4⟩ := f5 rfl
          have hfo : P.fieldsOf xT = fields := by simp [Program.fieldsOf, f1]
          have heq : (Op.equal xT (.agg vs.toArray) (.agg us.toArray)).run P w = .ok c w := by
            have h1 := run_equalIn_struct (P := P) w 9999 xT vs.toArray us.toArray (by rw [hfo]; exact f1) c1
            rw [hfo] at h1
            have h2 := cellsEq_run (P := P) (w := w) (d := 9998) (xs := vs.toArray) (ys := us.toArray) fields.toList 0 cs ds c (fun k f hf => by
              obtain ⟨g1, g2, g3, _⟩ := c4 k f (by simpa using hf)
              exact ⟨g1, by omega, g3⟩) (by simpa using hvs) (by simpa using hus) (by rw [hlen, c3]; simp) hc
            exact h1.trans h2
          have hg : ∀ op : BinOp, (eqGuard op xT x y (.agg vs.toArray) (.agg us.toArray)).run P w = .ok () w := by
            intro op
            cases op <;> simp [eqGuard, c2]
          cases op <;> simp only [eqOut] at h <;> try exact h.elim
          · exact ⟨_, .bool c, h, hg _, by simp [binOp, heq], .imm _ _ (.bool _)⟩
          · exact ⟨_, .bool (!c), h, hg _, by simp [binOp, heq], .imm _ _ (.bool _)⟩
        · exact h.elim
      · exact h.elim
    · exact h.elim
  · split at h
    · rename_i c hc
      obtain ⟨⟨el, hu⟩, _⟩ := hd
      have hpt : P.underlying xT = some (.pointer (P.pointee xT)) := by simp [Program.pointee, hu]
      rw [hy.nilptr_inv]
      have hpv : ∃ po : Option Addr, u = .pointer po ∧ po.isNone = c := by
        cases p <;> simp [isNilP] at hc
        · subst hc; exact ⟨none, hx.nilptr_inv, rfl⟩
        · obtain ⟨b, off, cells, T', fr, vs, e1, _⟩ := ptr_inv2 hx.ptr_inv
          exact ⟨_, e1, by rw [hc]; rfl⟩
        · obtain ⟨b, n, c', e1, e2⟩ := hx.op_inv
          exact ⟨_, e2, by rw [hc]; rfl⟩
      obtain ⟨po, rfl, hpo⟩ := hpv
      have hg : ∀ op : BinOp, (eqGuard op xT x y (.pointer po) (.pointer none)).run P w = .ok () w := by
        intro op
        cases op <;> simp [eqGuard]
      cases op <;> simp only [eqOut] at h <;> try exact h.elim
      · exact ⟨_, .bool c, h, hg _, by rw [run_eql_pointer_nil w xT po hpt, hpo], .imm _ _ (.bool _)⟩
      · exact ⟨_, .bool (!c), h, hg _, by rw [run_neq_pointer_nil w xT po hpt, hpo], .imm _ _ (.bool _)⟩
    · exact h.elim
  · split at h
    · rename_i c hc
      obtain ⟨⟨fa, fb, fc, hu⟩, _⟩ := hd
      rw [hy.nilfn_inv]
      have hpv : (u = .nilFunc ∧ c = true) ∨ ∃ f va vb, u = .func f va vb ∧ c = false := by
        cases p <;> simp [isNilF] at hc
        · exact .inl ⟨hx.nilfn_inv, hc⟩
        · obtain ⟨va, vb, e1, _⟩ := hx.fn_inv
          exact .inr ⟨_, _, _, e1, hc⟩
      have heq : (Op.equal xT u .nilFunc).run P w = .ok c w := by
        have : ∀ d, (Op.equalIn (d + 1) xT u .nilFunc).run P w = .ok c w := by
          intro d
          rcases hpv with ⟨rfl, rfl⟩ | ⟨f, va, vb, rfl, rfl⟩ <;> simp [Op.equalIn, run_underlying hu]
        exact this 9999
      have hg : ∀ op : BinOp, (eqGuard op xT x y u .nilFunc).run P w = .ok () w := by
        intro op
        rcases hpv with ⟨rfl, rfl⟩ | ⟨f, va, vb, rfl, rfl⟩ <;> cases op <;> simp [eqGuard]
      have hbo : (binOp .eql xT u .nilFunc).run P w = .ok (.bool c) w ∧ (binOp .neq xT u .nilFunc).run P w = .ok (.bool (!c)) w := by
        rcases hpv with ⟨rfl, rfl⟩ | ⟨f, va, vb, rfl, rfl⟩ <;> simp [binOp, heq]
      cases op <;> simp only [eqOut] at h <;> try exact h.elim
      · exact ⟨_, .bool c, h, hg _, hbo.1, .imm _ _ (.bool _)⟩
      · exact ⟨_, .bool (!c), h, hg _, hbo.2, .imm _ _ (.bool _)⟩
    · exact h.elim
  · exact h.elim

theorem valOp_wp (hE : ∀ T, TDok P T (E T)) (hC : ∀ f as r, C f as r → FC P f as r) {o : Oper} {K : PV → Prop} (h : valOp E C o s K) (hr : Rel N s a w M F δ)
    {next : Act → World → Prop} {Q : Exit → Act → World → Prop}
    (hn : ∀ v p M' w', K p → M.le M' → Inv M' F δ s.hp w' → RepS M' δ p v → next (a.put o.dst v) w') : o.wpIn (FnR ρ) 0 P a w next Q := by
  have same : ∀ (v : Value) (p : PV), K p → RepS M δ p v → (execOp a.eval o).run P w = .ok (.value v) w → o.wpIn (FnR ρ) 0 P a w next Q :=
    fun v p hk hp hrun => wp_of_run hrun (hn v p M w hk M.le_refl hr.inv hp)
  cases hop : o.op <;> simp only [valOp, hop] at h <;> try exact h.elim
  case move x => exact same _ _ h (hr.opnd x) (by simp [execOp, hop])
  case assign x => exact same _ _ h (hr.opnd x) (by simp [execOp, hop])
  case pick c x y =>
    split at h
    · rename_i hc
      have := hr.opnd c; rw [hc] at this
      exact same _ _ h (hr.opnd x) (by simp [execOp, hop, this.bool_inv, asBool])
    · rename_i hc
      have := hr.opnd c; rw [hc] at this
      exact same _ _ h (hr.opnd y) (by simp [execOp, hop, this.bool_inv, asBool])
    · exact h.elim
  case box T x =>
    obtain ⟨⟨h1, h2⟩, hk⟩ := h
    obtain ⟨hi', hle⟩ := hr.inv.alloc (a.eval x).cells T
    refine wp_of_run (v := .pointer (some ⟨w.heap.size, 0, none⟩)) (w' := w.alloc (.cells (a.eval x).cells T)) (by simp [execOp, hop, Instr.box, newVar, newRow]) (hn _ _ _ _ hk hle hi' ?_)
    have hc := (hr.opnd x).cells h2
    have hci : isImms (opnd s x).cells = true := by
      cases hx : opnd s x <;> simp [hx, isImm, PV.cells, isImms] at h1 ⊢
      all_goals first | exact h1 | skip
    exact .imm _ _ (.ptr _ _ _ (a.eval x).cells T (0, 0) (a.eval x).cells.toList (by simp) ((hc.toI hci).mono hle) (hc.leafs h2) (by simp))
  case build T ps =>
    have hT := hE T
    cases hd : E T <;> simp only [hd] at h hT <;> try exact h.elim
    case struct fs z _ =>
      split at h
      · rename_i cs hf
        obtain ⟨fields, h1, h2, h3, ⟨i, zv, h4, h5, h6, h7⟩, _⟩ := hT
        have hpl := places_of (P := P) fields.toList fs (by simpa using h2) (fun k off sz ag hk => by
          obtain ⟨f, e1, e2, e3, e4, e5, _⟩ := h3 k off sz ag hk
          exact ⟨f, by simpa using e1, e2, e5⟩)
        obtain ⟨vs, hrun, hrep⟩ := fillF_run h3 (fun x => (fs.map fun x => (x.1, x.2.1)).toArray[x]?) (fun k off sz ag hk => by simp [hk]) hr ps.toList z zv.cells.toList cs rfl (h7.2.1 M).toS hf
        refine same _ _ h (.agg _ _ hrep) ?_
        have hb : P.built T (ps.map fun (i, x) => (i, a.eval x)).toList = some vs.toArray := by
          simp only [Program.built, h4, h1, h6, hpl]
          simpa using hrun
        simp only [execOp, hop, Sem.run_bind]
        rw [run_build w T _ _ hb]
        first | done | rfl
      · exact h.elim
    case arr n esz ag z =>
      split at h
      · rename_i cs hf
        obtain ⟨e, h1, h2, ⟨j, h3, h4⟩, ⟨i, zv, h5, h6, h7, h8⟩, h9, h10⟩ := hT
        obtain ⟨vs, hrun, hrep⟩ := fillA_run h9 hr ps.toList z zv.cells.toList cs rfl (h8.2.1 M).toS hf
        refine same _ _ h (.agg _ _ hrep) ?_
        have hb : P.built T (ps.map fun (i, x) => (i, a.eval x)).toList = some vs.toArray := by
          simp only [Program.built, h5, h1, h7, h3, h4]
          simpa using hrun
        simp only [execOp, hop, Sem.run_bind]
        rw [run_build w T _ _ hb]
        first | done | rfl
      · exact h.elim
  case buildSlice T n ps =>
    have hT := hE T
    cases hd : E T <;> simp only [hd] at h hT <;> try exact h.elim
    case slice e esz eb z =>
      split at h
      · rename_i es hf
        obtain ⟨⟨h1, h2⟩, hk⟩ := h
        obtain ⟨t1, t2, t3, ⟨j, zv, t4, t5, t6, t7, t8⟩, t9, t10⟩ := hT
        obtain ⟨vs, q1, q2, q3, q4, q5⟩ := fillS_run hr ps.toList (List.replicate n z) _ es (by
          intro c hc
          rw [List.mem_replicate] at hc
          rw [hc.2, t9]) (rep_replicate n (t8.2.1 M).toS) (leafs_replicate n t8.2.2) hf
        have hlen : es.length = n := by simpa using q3
        obtain ⟨hi', hle⟩ := hr.inv.alloc vs.toArray e
        have hbs := run_buildSlice' (w := w) t1 t4 t5 t7 (by rw [t8.1, t9]) t10 h1 (parts := ps.map fun (i, x) => (i, a.eval x)) (vs := vs) (by simpa using q1)
        refine wp_of_run (by simp only [execOp, hop, Sem.run_bind]; rw [hbs]; rfl) (hn _ _ _ _ hk hle hi' ?_)
        subst hlen
        have hrI := (q2.toI h2).mono hle
        exact .imm _ _ (.sl esz es w.heap.size 0 es.length vs.toArray e (0, 0) vs (by simp) (Nat.le_refl _) t10 q4 hrI q5 (by simp))
      · exact h.elim
  case load T x =>
    split at h
    · rename_i cs hx
      have hp := hr.opnd x; rw [hx] at hp
      obtain ⟨b, off, vs, e1, e2, e3, e4⟩ := ptr_cells hr.inv hp.ptr_inv
      obtain ⟨p, v, k1, k2, k3⟩ := loadVar_run (hE T) e2.toS e4 h
      exact same _ _ k1 k2 (by simp [execOp, hop, e1, Instr.loadAt, Instr.sureAddr, k3])
    · rename_i g sz i f hx
      have hp := hr.opnd x; rw [hx] at hp
      obtain ⟨b, n, c, e1, e2⟩ := hp.op_inv
      split at h
      · rename_i ob hg
        split at h
        · rename_i hsz
          split at h
          · rename_i c' hc
            obtain ⟨vs, r1, r2, r3⟩ := own_cells hr.inv hg e1 hc
            obtain ⟨p, v, k1, k2, k3⟩ := loadVar_run (b := b) (off := i * sz + f) (hE T) (r1.drop f) (fun j v hv => by
              rw [List.getElem?_drop] at hv
              have := r3 _ _ hv
              rw [hsz] at this
              rw [Nat.add_assoc]; exact this) h
            exact same _ _ k1 k2 (by simp [execOp, hop, e2, Instr.loadAt, Instr.sureAddr, k3])
          · exact h.elim
        · exact h.elim
      · exact h.elim
    · exact h.elim
  case nilCheck x =>
    split at h
    · rename_i cs hx
      have hp := hr.opnd x; rw [hx] at hp
      obtain ⟨b, off, vs, e1, _⟩ := ptr_cells hr.inv hp.ptr_inv
      exact same _ _ h hp (by simp [execOp, hop, e1])
    · rename_i g sz i f hx
      have hp := hr.opnd x; rw [hx] at hp
      obtain ⟨b, n, c, e1, e2⟩ := hp.op_inv
      exact same _ _ h hp (by simp [execOp, hop, e2])
    · rename_i f as bs hx
      have hp := hr.opnd x; rw [hx] at hp
      obtain ⟨va, vb, e1, _⟩ := hp.fn_inv
      exact same _ _ h hp (by simp [execOp, hop, e1])
    · exact h.elim
  case binOp op xT x y yT =>
    have hx := hr.opnd x
    have hy := hr.opnd y
    obtain ⟨p, v, k1, k2, k3, k4⟩ := binVal_run (w := w) (hE xT) h hx hy x y
    exact same v p k1 k4 (by simp only [execOp, hop, Sem.run_bind, k2, Result.andThen_ok, k3, Sem.run_pure])
  case unOp op xT x =>
    split at h
    · rename_i b hx
      have hp := hr.opnd x; rw [hx] at hp
      exact same (.bool !b) _ h (.imm _ _ (.bool _)) (by simp [execOp, hop, hp.bool_inv, Op.unary])
    · rename_i n hx
      have hp := hr.opnd x; rw [hx] at hp
      have : IntKind.i64.wrap (0 - n) = -n := by
        have := h.1
        unfold inI64 at this
        rw [Int.zero_sub]
        exact IntWalk.i64_in _ (by omega)
      exact same (.int .i64 (-n)) _ h.2 (.imm _ _ (.int _ _)) (by simp only [execOp, hop, hp.int_inv, Op.unary, Op.intArith, this]; simp)
    · exact h.elim
  case convert S D x =>
    split at h
    · rename_i k' k k'' n hS hD hx
      have hp := hr.opnd x; rw [hx] at hp
      have h1 := hE S; rw [hS] at h1
      have h2 := hE D; rw [hD] at h2
      exact same (.int k (k.wrap n)) _ h (.imm _ _ (.int _ _)) (by simp [execOp, hop, hp.int_inv, convert, run_underlying h1.1, run_underlying h2.1, Conv.intToInt])
    · rename_i e esz eb ez sz es hS hD hx
      split at h
      · rename_i he
        obtain ⟨rfl, ns, rfl, hk⟩ := h
        have hp := hr.opnd x; rw [hx] at hp
        have h1 := hE S; rw [hS] at h1
        have h2 := hE D; rw [hD] at h2
        have h3 := hE e; rw [he] at h3
        rcases sl_inv2 hp.sl_inv with ⟨ao, c, e1, e2⟩ | ⟨b, off, c, cells, T', fr, vs, e1, e2, e3, e4, e5, e6, e7, e8⟩
        · obtain rfl : ns = [] := by cases ns with | nil => rfl | cons n r => simp [byteCells] at e2
          refine same (.string (bytesStr [])) _ hk (.imm _ _ (.str _)) ?_
          have h4 : (Conv.bytesToString (.slice ao 0 c)).run P w = .ok (.string (bytesStr [])) w := by
            cases ao with
            | none => simp [Conv.bytesToString, bytesStr]
            | some a => exact run_bytesToString w a 0 c [] (by have := run_loadCells (P := P) w a 0 (fun _ => undef) (fun j hj => by omega); simpa using this)
          simp only [execOp, hop, e1]
          rw [show (convert S D (.slice ao 0 c)) = convert S D (.slice ao 0 c) from rfl]
          simp only [Sem.run_bind, run_convert_bytes_string w S D e ao 0 c h1.1 h3.1 h2.1, h4]
          rfl
        · have hvs : vs = ns.map (Value.int .u8) := by
            have hfl : (byteCells ns).flatten = ns.map fun n => PV.int .u8 n := by
              clear hk hx hp e1 e3 e5 e6
              induction ns with
              | nil => rfl
              | cons n r ih => simp only [byteCells, List.map_cons, List.flatten_cons, List.cons_append, List.nil_append] at ih ⊢; rw [ih]
            rw [hfl] at e6
            clear hk hx hp e1 e3 e5 e7 e8 hfl
            induction ns generalizing vs with
            | nil => cases e6; rfl
            | cons n r ih =>
              cases e6 with
              | cons p v ps vs' g1 g2 =>
                cases g1
                rw [ih _ g2]; rfl
          have hlen : (byteCells ns).length = ns.length := by simp [byteCells]
          rw [hlen] at e1
          have h4 : (Conv.bytesToString (.slice (some ⟨b, off, none⟩) ns.length c)).run P w = .ok (.string (bytesStr ns)) w := by
            refine run_bytesToString w _ ns.length c ns ?_
            rw [run_loadCells' b off vs ns.length (by rw [hvs]; simp) (fun i v hv => by rw [hr.inv.cell e2]; exact e8 i v hv), hvs, List.take_of_length_le (by simp)]
          refine same (.string (bytesStr ns)) _ hk (.imm _ _ (.str _)) ?_
          simp only [execOp, hop, e1]
          simp only [Sem.run_bind, run_convert_bytes_string w S D e _ ns.length c h1.1 h3.1 h2.1, h4]
          rfl
      · exact h.elim
    · exact h.elim
  case makeFunc fn as bs =>
    exact same (.func fn (as.toList.map a.eval).toArray (bs.toList.map a.eval).toArray) _ h (.fn _ _ _ _ _ (opnds_rep hr _) (opnds_rep hr _)) (by simp [execOp, hop, Instr.makeFunc]; constructor <;> (apply Array.toList_inj.1; simp))
  case extract t i =>
    split at h
    · rename_i cs hx
      have hp := hr.opnd t; rw [hx] at hp
      obtain ⟨vs, e1, e2⟩ := hp.tup_inv
      split at h
      · rename_i p hp'
        obtain ⟨v, hv, hrep⟩ := e2.get i p hp'
        exact same v _ h hrep (by simp [execOp, hop, e1, Instr.extract, hv])
      · exact h.elim
    · exact h.elim
  case fieldAddr S x f =>
    have hT := hE S
    cases hd : E S <;> simp only [hd] at h hT <;> try exact h.elim
    case struct fs z _ =>
      obtain ⟨fields, h1, h2, h3, _⟩ := hT
      split at h
      · rename_i off sz ag cs hf hx
        have hp := hr.opnd x; rw [hx] at hp
        obtain ⟨fd, f1, f2, f3, f4, ⟨j, f5, f6⟩, _⟩ := h3 _ _ _ _ hf
        obtain ⟨b, o, cells, T, fr, vs, hv, q1, q2, q3, q4⟩ := ptr_inv2 hp.ptr_inv
        refine same (.pointer (some ⟨b, o + off, none⟩)) _ h (.imm _ _ (.ptr _ b (o + off) cells T fr (vs.drop off) q1 (q2.drop off) (fun v hv => q3 v (List.mem_of_mem_drop hv)) (fun i v hv => ?_))) ?_
        · rw [List.getElem?_drop] at hv
          rw [Nat.add_assoc]; exact q4 _ _ hv
        · have : (fieldPlace ⟨b, o, none⟩ fd).run P w = .ok ⟨b, o + off, none⟩ w := by
            simp only [fieldPlace, Sem.run_bind, run_sizeOf' f5, Result.andThen_ok, f6]
            rw [if_neg (by omega)]
            simp only [Sem.run_pure, f2]
            congr 1
            unfold Addr.add
            split
            · rename_i h0; simp
            · rfl
          simp [execOp, hop, hv, Instr.fieldAt, run_underlying h1, f1, Instr.sureAddr, this]
      · rename_i off sz ag g sz' i fo hf hx
        have hp := hr.opnd x; rw [hx] at hp
        obtain ⟨b, n, c, e1, e2⟩ := hp.op_inv
        obtain ⟨fd, f1, f2, f3, f4, ⟨j, f5, f6⟩, _⟩ := h3 _ _ _ _ hf
        refine same (.pointer (some ⟨b, i * sz' + (fo + off), none⟩)) _ h (.op _ _ _ _ b n c e1) ?_
        have : (fieldPlace ⟨b, i * sz' + fo, none⟩ fd).run P w = .ok ⟨b, i * sz' + (fo + off), none⟩ w := by
          simp only [fieldPlace, Sem.run_bind, run_sizeOf' f5, Result.andThen_ok, f6]
          rw [if_neg (by omega)]
          simp only [Sem.run_pure, f2]
          congr 1
          unfold Addr.add
          split
          · rename_i h0; simp
          · simp [Nat.add_assoc]
        simp [execOp, hop, e2, Instr.fieldAt, run_underlying h1, f1, Instr.sureAddr, this]
      · exact h.elim
  case field T x f =>
    have hT := hE T
    split at h
    · rename_i fs z _ cs hd hx
      rw [hd] at hT
      obtain ⟨fields, h1, h2, h3, _⟩ := hT
      have hp := hr.opnd x; rw [hx] at hp
      obtain ⟨vs, e1, e2⟩ := hp.agg_inv
      split at h
      · rename_i off sz hf
        obtain ⟨fd, f1, f2, f3, f4, ⟨j, f5, f6⟩, f7, _⟩ := h3 _ _ _ _ hf
        refine same (.agg ((vs.drop off).take sz).toArray) _ h.2 (.agg _ _ ((e2.drop off).take sz)) ?_
        have : (part fd.type vs.toArray off).run P w = .ok (.agg ((vs.drop off).take sz).toArray) w := by
          simp only [part, Sem.run_bind, run_isAgg' f7, Result.andThen_ok, if_true, run_sizeOf' f5, f6, Sem.run_pure]
          congr 2
          apply Array.toList_inj.1
          simp
        simp [execOp, hop, e1, Instr.field, run_underlying h1, f1, asAgg, f2, this]
      · rename_i off sz hf
        split at h
        · rename_i p hp'
          obtain ⟨fd, f1, f2, f3, f4, ⟨j, f5, f6⟩, f7, _⟩ := h3 _ _ _ _ hf
          obtain ⟨v, hv, hrep⟩ := e2.get _ _ hp'
          refine same v _ h hrep ?_
          have : (part fd.type vs.toArray off).run P w = .ok v w := by
            simp [part, run_isAgg' f7, hv]
          simp [execOp, hop, e1, Instr.field, run_underlying h1, f1, asAgg, f2, this]
        · exact h.elim
      · exact h.elim
    · exact h.elim
  case slice T x lo hi mx =>
    cases mx with
    | some m => exact h.elim
    | none =>
      simp only at h
      have hT := hE T
      cases hd : E T <;> simp only [hd] at h hT <;> try exact h.elim
      case slice e esz eb z =>
        obtain ⟨t1, t2, t3, ⟨j, zv, t4, t5, t6, t7, t8⟩, t9, t10⟩ := hT
        have hb : ∀ (len cap : Nat) (l hh : Int), ((lo = none ∧ l = 0) ∨ ∃ y k, lo = some y ∧ a.eval y = .int k l) → ((hi = none ∧ hh = len) ∨ ∃ y k, hi = some y ∧ a.eval y = .int k hh) → 0 ≤ l → l ≤ hh → hh ≤ len → len ≤ cap →
            (Instr.sliceBounds true len cap (lo.map a.eval) (hi.map a.eval) none).run P w = .ok (l.toNat, hh.toNat, cap) w := by
          intro len cap l hh hl hh' h0 h1 h2 h3
          rcases hh' with ⟨rfl, rfl⟩ | ⟨y, k, rfl, hy⟩
          · rcases hl with ⟨rfl, rfl⟩ | ⟨y', k', rfl, hy'⟩
            · simp [Instr.sliceBounds]
            · simp [Instr.sliceBounds, hy', sliceBound_run k' l len _ h0 h1]
          · rcases hl with ⟨rfl, rfl⟩ | ⟨y', k', rfl, hy'⟩
            · simp [Instr.sliceBounds, hy, sliceBound_run k hh cap _ h1 (by omega)]
            · simp [Instr.sliceBounds, hy, hy', sliceBound_run k hh cap _ (by omega) (by omega), sliceBound_run k' l hh.toNat _ h0 (by omega)]
        split at h
        · rename_i sz es hx
          have hp := hr.opnd x; rw [hx] at hp
          split at h
          · exact h.elim
          · rename_i hsz
            have hsz : sz = esz := by simpa using hsz
            subst hsz
            obtain ⟨l, h, hl⟩ := bound_run hr h
            obtain ⟨hh, ⟨⟨b0, b1, b2⟩, hk⟩, hh'⟩ := bound_run hr h
            rcases sl_inv2 hp.sl_inv with ⟨ao, c, e1, e2⟩ | ⟨b, off, c, cells, T', fr, vs, e1, e2, e3, e4, e5, e6, e7, e8⟩
            · subst e2
              have b2' : hh ≤ ((0 : Nat) : Int) := by simpa using b2
              have hrun := hb 0 c l hh hl (by simpa using hh') b0 b1 b2' (Nat.zero_le _)
              have l0 : l = 0 := by omega
              have hh0 : hh = 0 := by omega
              subst l0; subst hh0
              refine same (.slice (if c = 0 then ao else ao.map (·.add (0 * sz))) 0 c) _ hk ?_ ?_
              · simp only [List.take_nil, List.drop_nil]
                exact .imm _ _ (.sl0 _ _ _)
              · simp [execOp, hop, e1, Instr.sliceAt, Instr.slice, run_underlying t1, hrun, run_sizeOf' t4, t5]
            · have hrun := hb es.length c l hh hl hh' b0 b1 b2 e3
              have hlen : ((es.take hh.toNat).drop l.toNat).length = hh.toNat - l.toNat := by simp; omega
              refine same (.slice (if c = l.toNat then some ⟨b, off, none⟩ else (some (⟨b, off, none⟩ : Addr)).map (·.add (l.toNat * sz))) (hh.toNat - l.toNat) (c - l.toNat)) _ hk ?_ ?_
              · by_cases hemp : (es.take hh.toNat).drop l.toNat = []
                · rw [hemp] at hlen ⊢
                  rw [← hlen]
                  exact .imm _ _ (.sl0 _ _ _)
                · have hne : hh.toNat - l.toNat ≠ 0 := fun h0 => hemp (List.eq_nil_of_length_eq_zero (hlen.trans h0))
                  have hc : c ≠ l.toNat := by omega
                  rw [if_neg hc, ← hlen]
                  have hadd : (⟨b, off, none⟩ : Addr).add (l.toNat * sz) = ⟨b, off + l.toNat * sz, none⟩ := by
                    unfold Addr.add
                    split
                    · rename_i h0; simp
                    · rfl
                  rw [Option.map_some, hadd]
                  have hfl : ∀ (n : Nat) (es : List (List PV)), (∀ e ∈ es, e.length = sz) → (es.take n).flatten = es.flatten.take (n * sz) ∧ (es.drop n).flatten = es.flatten.drop (n * sz) := by
                    intro n
                    induction n with
                    | zero => intro es _; simp
                    | succ n ih =>
                      intro es he
                      cases es with
                      | nil => simp
                      | cons e es =>
                        have hle := he e (by simp)
                        obtain ⟨i1, i2⟩ := ih es (fun e h => he e (by simp [h]))
                        constructor
                        · rw [List.take_succ_cons, List.flatten_cons, List.flatten_cons, i1, List.take_append, List.take_of_length_le (l := e) (by rw [hle, Nat.succ_mul]; omega), hle, Nat.succ_mul, Nat.add_sub_cancel]
                        · rw [List.drop_succ_cons, List.flatten_cons, i2, List.drop_append, List.drop_eq_nil_of_le (as := e) (by rw [hle, Nat.succ_mul]; omega), List.nil_append, hle, Nat.succ_mul, Nat.add_sub_cancel]
                  have htk : ∀ e ∈ es.take hh.toNat, e.length = sz := fun e he => e5 e (List.mem_of_mem_take he)
                  refine .imm _ _ (.sl sz _ b (off + l.toNat * sz) (c - l.toNat) cells T' fr ((vs.take (hh.toNat * sz)).drop (l.toNat * sz)) e2 (by rw [hlen]; omega) e4 (fun e he => htk e (List.mem_of_mem_drop he)) ?_
                    (fun v hv => e7 v (List.mem_of_mem_take (List.mem_of_mem_drop hv))) ?_)
                  · rw [(hfl _ _ htk).2, (hfl _ _ e5).1]
                    exact (e6.take _).drop _
                  · intro i v hv
                    rw [List.getElem?_drop, List.getElem?_take] at hv
                    split at hv
                    · rw [Nat.add_assoc]; exact e8 _ _ hv
                    · cases hv
              · simp [execOp, hop, e1, Instr.sliceAt, Instr.slice, run_underlying t1, hrun, run_sizeOf' t4, t5]
        · rename_i hx
          have hp := hr.opnd x; rw [hx] at hp
          obtain ⟨l, h, hl⟩ := bound_run hr h
          obtain ⟨hh, ⟨⟨b0, b1⟩, hk⟩, hh'⟩ := bound_run hr h
          subst b0; subst b1
          have hrun := hb 0 0 0 0 hl (by simpa using hh') (by omega) (by omega) (by simp) (Nat.le_refl _)
          exact same (.slice none 0 0) _ hk (.imm _ _ .nilsl) (by simp [execOp, hop, hp.nilsl_inv, Instr.sliceAt, Instr.slice, run_underlying t1, hrun, run_sizeOf' t4, t5])
        · exact h.elim
  case indexAddr T x i =>
    have hT := hE T
    split at h
    · rename_i e esz eb z sz es k n hd hx hi
      rw [hd] at hT
      obtain ⟨t1, t2, t3, ⟨j, zv, t4, t5, t6, t7, t8⟩, t9, t10⟩ := hT
      split at h
      · rename_i hsz
        subst hsz
        obtain ⟨c, h1, h2, hk⟩ := h
        have hp := hr.opnd x; rw [hx] at hp
        have hi' := hr.opnd i; rw [hi] at hi'
        have hlt : n.toNat < es.length := (List.getElem?_eq_some_iff.1 h1).1
        rcases sl_inv2 hp.sl_inv with ⟨ao, c', e1, e2⟩ | ⟨b, off, c', cells, T', fr, vs, e1, e2, e3, e4, e5, e6, e7, e8⟩
        · subst e2; simp at hlt
        · obtain ⟨f1, f2⟩ := flatten_get e5 h1
          have hadd : (⟨b, off, none⟩ : Addr).add (n.toNat * sz) = ⟨b, off + n.toNat * sz, none⟩ := by
            unfold Addr.add
            split
            · rename_i h0; simp
            · rfl
          refine same (.pointer (some ⟨b, off + n.toNat * sz, none⟩)) _ hk (.imm _ _ (.ptr c b (off + n.toNat * sz) cells T' fr ((vs.drop (n.toNat * sz)).take sz) e2 ?_ (fun v hv => e7 v (List.mem_of_mem_drop (List.mem_of_mem_take hv))) ?_)) ?_
          · rw [← f1]; exact (e6.drop _).take _
          · intro i v hv
            rw [List.getElem?_take] at hv
            split at hv
            · rw [List.getElem?_drop] at hv
              rw [Nat.add_assoc]; exact e8 _ _ hv
            · cases hv
          · have : n < (es.length : Int) := by omega
            simp [execOp, hop, e1, hi'.int_inv, Instr.indexAt, asIntOf, run_underlying t1, h2, this, run_sizeOf' t4, t5, hadd]
      · exact h.elim
    · rename_i e esz eb z g k n hd hx hi
      rw [hd] at hT
      obtain ⟨t1, t2, t3, ⟨j, zv, t4, t5, t6, t7, t8⟩, t9, t10⟩ := hT
      have hp := hr.opnd x; rw [hx] at hp
      have hi' := hr.opnd i; rw [hi] at hi'
      split at h
      · rename_i ob hg
        split at h
        · rename_i hsz
          obtain ⟨⟨h1, h2⟩, hk⟩ := h
          obtain ⟨xs, q1, _⟩ := hr.inv.own g ob hg
          rcases q1.2 with ⟨_, e2⟩ | ⟨b, cap, cur, e1, _⟩
          · rw [e2] at h2; omega
          · have hadd : (⟨b, 0, none⟩ : Addr).add (n.toNat * esz) = ⟨b, n.toNat * esz, none⟩ := by
              unfold Addr.add
              split
              · rename_i h0; simp
              · simp
            refine same (.pointer (some ⟨b, n.toNat * ob.sz + 0, none⟩)) _ hk (.op _ _ _ _ b _ _ e1) ?_
            simp [execOp, hop, hp.os_inv, e1, hi'.int_inv, Instr.indexAt, asIntOf, run_underlying t1, h1, h2, run_sizeOf' t4, t5, hadd, hsz]
        · exact h.elim
      · exact h.elim
    · rename_i len esz ag z cs k n hd hx hi
      rw [hd] at hT
      obtain ⟨e, t1, t2, ⟨j, t3, t4⟩, _⟩ := hT
      obtain ⟨⟨h1, h2⟩, hk⟩ := h
      have hp := hr.opnd x; rw [hx] at hp
      have hi' := hr.opnd i; rw [hi] at hi'
      obtain ⟨b, off, cells, T', fr, vs, hv, q1, q2, q3, q4⟩ := ptr_inv2 hp.ptr_inv
      have hadd : (⟨b, off, none⟩ : Addr).add (n.toNat * esz) = ⟨b, off + n.toNat * esz, none⟩ := by
        unfold Addr.add
        split
        · rename_i h0; simp
        · rfl
      refine same (.pointer (some ⟨b, off + n.toNat * esz, none⟩)) _ hk (.imm _ _ (.ptr _ b (off + n.toNat * esz) cells T' fr (vs.drop (n.toNat * esz)) q1 (q2.drop _) (fun v hv => q3 v (List.mem_of_mem_drop hv)) (fun i v hv => ?_))) ?_
      · rw [List.getElem?_drop] at hv
        rw [Nat.add_assoc]; exact q4 _ _ hv
      · simp [execOp, hop, hv, hi'.int_inv, Instr.indexAt, asIntOf, run_underlying t1, Instr.sureAddr, h1, h2, run_sizeOf' t3, t4, hadd]
    · rename_i len esz ag z g sz jj f k n hd hx hi
      rw [hd] at hT
      obtain ⟨e, t1, t2, ⟨j, t3, t4⟩, _⟩ := hT
      obtain ⟨⟨h1, h2⟩, hk⟩ := h
      have hp := hr.opnd x; rw [hx] at hp
      have hi' := hr.opnd i; rw [hi] at hi'
      obtain ⟨b, nn, c, e1, e2⟩ := hp.op_inv
      have hadd : (⟨b, jj * sz + f, none⟩ : Addr).add (n.toNat * esz) = ⟨b, jj * sz + (f + n.toNat * esz), none⟩ := by
        unfold Addr.add
        split
        · rename_i h0; simp
        · simp [Nat.add_assoc]
      refine same (.pointer (some ⟨b, jj * sz + (f + n.toNat * esz), none⟩)) _ hk (.op _ _ _ _ b nn c e1) ?_
      simp [execOp, hop, e2, hi'.int_inv, Instr.indexAt, asIntOf, run_underlying t1, Instr.sureAddr, h1, h2, run_sizeOf' t3, t4, hadd]
    · exact h.elim
  case index T x i =>
    have hT := hE T
    split at h
    · rename_i len esz ag z cs k n hd hx hi
      rw [hd] at hT
      obtain ⟨e, t1, t2, ⟨j, t3, t4⟩, _, _, t5⟩ := hT
      obtain ⟨⟨h1, h2⟩, hk⟩ := h
      have hp := hr.opnd x; rw [hx] at hp
      have hi' := hr.opnd i; rw [hi] at hi'
      obtain ⟨vs, e1, e2⟩ := hp.agg_inv
      split at hk
      · refine same (.agg ((vs.drop (n.toNat * esz)).take esz).toArray) _ hk.2 (.agg _ _ ((e2.drop _).take esz)) ?_
        have : (part e vs.toArray (n.toNat * esz)).run P w = .ok (.agg ((vs.drop (n.toNat * esz)).take esz).toArray) w := by
          simp only [part, Sem.run_bind, run_isAgg' t2, Result.andThen_ok, if_true, run_sizeOf' t3, t4, Sem.run_pure]
          congr 2
          apply Array.toList_inj.1
          simp
        simp [execOp, hop, e1, hi'.int_inv, Instr.index, asIntOf, run_underlying t1, h1, h2, run_sizeOf' t3, t4, this]
      · obtain ⟨p, hp', hk⟩ := hk
        obtain ⟨v, hv, hrep⟩ := e2.get _ _ hp'
        refine same v _ hk hrep ?_
        have : (part e vs.toArray (n.toNat * esz)).run P w = .ok v w := by
          simp [part, run_isAgg' t2, hv]
        simp [execOp, hop, e1, hi'.int_inv, Instr.index, asIntOf, run_underlying t1, h1, h2, run_sizeOf' t3, t4, this]
    · exact h.elim
  case call c =>
    cases hcal : c.callee with
    | invoke r n => simp only [hcal] at h
    | value f =>
      simp only [hcal] at h
      split at h
      · rename_i g first caps hf
        have hp := hr.opnd f; rw [hf] at hp
        obtain ⟨va, vb, e1, e2, e3⟩ := hp.fn_inv
        have hargs := (e2.append (opnds_rep hr c.args.toList)).append e3
        obtain ⟨h1, h2⟩ := callV_wp hC h hr.inv hargs
        have hrun : (execOp a.eval o).run P w = .ok (.enter g (va ++ c.args.toList.map a.eval ++ vb).toArray) w := by
          have : (execOp a.eval o).run P w = (callFunc g (va.toArray ++ c.args.map a.eval ++ vb.toArray)).run P w := by
            simp [execOp, hop, resolve, hcal, e1, Deferred.ofValue, invoke]
          rw [this, h1]
          congr 2
          apply Array.toList_inj.1
          simp
        refine wpIn_of_sem (by intro d; simp) hrun ⟨fun h => (by cases h), (callsIn_of_calls h2).mono ?_⟩
        rintro e w' ⟨M', v, p, rfl, k1, k2, k3, k4⟩
        exact hn v p M' w' k1 k2 k3 k4
      · exact h.elim
    | builtin b =>
      cases b <;> simp only [hcal] at h <;> try exact h.elim
      case len =>
        split at h
        · rename_i x T hargs hty
          have hx := hr.opnd x
          have hrun : ∀ (n : Nat) (v : Value), v = a.eval x → (Builtin.len_ c.argTypes o.type #[v]).run P w = .ok (.int .i64 n) w → (execOp a.eval o).run P w = .ok (.value (.int .i64 n)) w := by
            intro n v hv h1
            subst hv
            have : c.args.map a.eval = #[a.eval x] := by
              apply Array.toList_inj.1
              simp [hargs]
            simp only [execOp, hop, resolve, hcal, Sem.run_bind, Sem.run_pure, Result.andThen_ok, invoke, builtin, this, h1]
          have hT := hE T
          have h0 : c.argTypes[0]? = some T := by
            have : c.argTypes = #[T] := Array.toList_inj.1 (by simp [hty])
            rw [this]; rfl
          split at h
          · rename_i e esz eb z hd
            rw [hd] at hT
            have hu := hT.1
            unfold lenVal at h
            split at h
            · rename_i es hxx
              rw [hxx] at hx
              rcases sl_inv2 hx.sl_inv with ⟨ao, c', e1, e2⟩ | ⟨b, off, c', cells, T', fr, vs, e1, _⟩
              · subst e2
                exact same _ _ h (.imm _ _ (.int _ _)) (hrun 0 _ rfl (by simp [Builtin.len_, h0, e1, run_underlying hu, goInt]))
              · exact same _ _ h (.imm _ _ (.int _ _)) (hrun es.length _ rfl (by simp [Builtin.len_, h0, e1, run_underlying hu, goInt]))
            · rename_i hxx
              rw [hxx] at hx
              exact same _ _ h (.imm _ _ (.int _ _)) (hrun 0 _ rfl (by simp [Builtin.len_, h0, hx.nilsl_inv, run_underlying hu, goInt]))
            · rename_i g hxx
              rw [hxx] at hx
              split at h
              · rename_i ob hg
                obtain ⟨xs, q1, _⟩ := hr.inv.own g ob hg
                rcases q1.2 with ⟨e1, e2⟩ | ⟨b, cap, cur, e1, _⟩
                · refine same _ _ h (.imm _ _ (.int _ _)) (hrun ob.es.length _ rfl ?_)
                  rw [hx.os_inv, e1, e2]
                  simp [Builtin.len_, h0, run_underlying hu, goInt]
                · refine same _ _ h (.imm _ _ (.int _ _)) (hrun ob.es.length _ rfl ?_)
                  rw [hx.os_inv, e1]
                  simp [Builtin.len_, h0, run_underlying hu, goInt]
              · exact h.elim
            · exact h.elim
          · rename_i hd
            rw [hd] at hT
            have hu := hT.1
            split at h
            · rename_i b hxx
              rw [hxx] at hx
              exact same _ _ h (.imm _ _ (.int _ _)) (hrun b.size _ rfl (by simp [Builtin.len_, h0, hx.str_inv, run_underlying hu, goInt]))
            · exact h.elim
          · exact h.elim
        · exact h.elim
      case min =>
        split at h
        · rename_i x y hargs
          split at h
          · rename_i k a1 k' b1 hx' hy'
            have hx := hr.opnd x; rw [hx'] at hx
            have hy := hr.opnd y; rw [hy'] at hy
            obtain ⟨rfl, hk⟩ := h
            refine same (.int k (if b1 < a1 then b1 else a1)) _ hk (.imm _ _ (.int _ _)) ?_
            have : c.args.map a.eval = #[a.eval x, a.eval y] := by
              apply Array.toList_inj.1
              simp [hargs]
            simp [execOp, hop, resolve, hcal, invoke, builtin, this, Builtin.min_, hx.int_inv, hy.int_inv, Builtin.min2]
          · exact h.elim
        · exact h.elim
end
end Go.Proofs.Ytogehfalhodapaa.Pv
namespace Go.Proofs.Ytogehfalhodapaa.Pv
open Go

section
variable {P : Program} {w : World} {N : Cx} {s : St} {a : Act} {M : Mem} {F : Frm} {δ δ' : Nat → Value}

theorem aget_mapV (h : PV → PV) (l : List (Nat × PV)) (i : Nat) : aget (mapV h l) i = (aget l i).map h := by
  induction l with
  | nil => rfl
  | cons x r ih => obtain ⟨j, p⟩ := x; simp only [mapV, aget]; split <;> simp [ih]
theorem aget_mapH (h : List PV → List PV) (l : List (Nat × GObj)) (i : Nat) : aget (mapH h l) i = (aget l i).map (GObj.map h) := by
  induction l with
  | nil => rfl
  | cons x r ih => obtain ⟨j, p⟩ := x; simp only [mapH, aget]; split <;> simp [ih]
theorem aget_adel {α : Type} (l : List (Nat × α)) (g i : Nat) : aget (adel l g) i = if g = i then none else aget l i := by
  induction l with
  | nil => simp [adel, aget]
  | cons x r ih =>
    obtain ⟨j, p⟩ := x
    simp only [adel, aget]
    by_cases h : j = g
    · subst h
      simp only [if_true, ih]
      by_cases h' : j = i <;> simp [h']
    · simp only [h, if_false, aget]
      by_cases h' : j = i
      · subst h'; simp [Ne.symm h]
      · simp [h', ih]

def KillU (g : Nat) : Nat → PV := fun g' => if g' = g then .junk else .os g'
def KillQ (g : Nat) : Nat → Nat → Nat → Nat → PV := fun g' sz i f => if g' = g then .junk else .op g' sz i f

theorem killP_eq (g : Nat) (p : PV) : killP g p = mapO (KillU g) (KillQ g) p := rfl
theorem killPs_eq (g : Nat) (p : List PV) : killPs g p = mapOs (KillU g) (KillQ g) p := rfl

mutual
theorem RepI.mapO (u : Nat → PV) (q : Nat → Nat → Nat → Nat → PV) : ∀ {p : PV} {v : Value}, RepI M p v → RepS M δ' (Pv.mapO u q p) v
  | _, _, .int k n => .imm _ _ (.int k n)
  | _, _, .bool b => .imm _ _ (.bool b)
  | _, _, .str s => .imm _ _ (.str s)
  | _, _, .nilptr => .imm _ _ .nilptr
  | _, _, .nilfn => .imm _ _ .nilfn
  | _, _, .nilsl => .imm _ _ .nilsl
  | _, _, .junk v => .imm _ _ (.junk v)
  | _, _, .agg cs vs hh => .agg _ _ (RepIs.mapO u q hh)
  | _, _, .tup cs vs hh => .tup _ _ (RepIs.mapO u q hh)
  | _, _, .fn f a b va vb h1 h2 => .fn f _ _ va vb (RepIs.mapO u q h1) (RepIs.mapO u q h2)
  | _, _, .sl0 sz ao c => .imm _ _ (.sl0 sz ao c)
  | _, _, .sl sz es b off c cells T fr vs h1 h2 h3 h4 h5 h6 h7 => .imm _ _ (.sl sz es b off c cells T fr vs h1 h2 h3 h4 h5 h6 h7)
  | _, _, .ptr cs b off cells T fr vs h1 h2 h3 h4 => .imm _ _ (.ptr cs b off cells T fr vs h1 h2 h3 h4)
theorem RepIs.mapO (u : Nat → PV) (q : Nat → Nat → Nat → Nat → PV) : ∀ {p : List PV} {v : List Value}, RepIs M p v → RepSs M δ' (mapOs u q p) v
  | _, _, .nil => .nil
  | _, _, .cons p v ps vs h1 h2 => .cons _ _ _ _ (RepI.mapO u q h1) (RepIs.mapO u q h2)
end

mutual
theorem RepS.mapO (u : Nat → PV) (q : Nat → Nat → Nat → Nat → PV) (hu : ∀ g ao n c, δ g = .slice ao n c → RepS M δ' (u g) (.slice ao n c))
    (hq : ∀ g sz i f b n c, δ g = .slice (some ⟨b, 0, none⟩) n c → RepS M δ' (q g sz i f) (.pointer (some ⟨b, i * sz + f, none⟩))) : ∀ {p : PV} {v : Value}, RepS M δ p v → RepS M δ' (Pv.mapO u q p) v
  | _, _, .imm p v hh => hh.mapO u q
  | _, _, .os g ao n c hh => hu g ao n c hh
  | _, _, .op g sz i f b n c hh => hq g sz i f b n c hh
  | _, _, .agg cs vs hh => .agg _ vs (RepSs.mapO u q hu hq hh)
  | _, _, .tup cs vs hh => .tup _ vs (RepSs.mapO u q hu hq hh)
  | _, _, .fn f a b va vb h1 h2 => .fn f _ _ va vb (RepSs.mapO u q hu hq h1) (RepSs.mapO u q hu hq h2)
theorem RepSs.mapO (u : Nat → PV) (q : Nat → Nat → Nat → Nat → PV) (hu : ∀ g ao n c, δ g = .slice ao n c → RepS M δ' (u g) (.slice ao n c))
    (hq : ∀ g sz i f b n c, δ g = .slice (some ⟨b, 0, none⟩) n c → RepS M δ' (q g sz i f) (.pointer (some ⟨b, i * sz + f, none⟩))) : ∀ {p : List PV} {v : List Value}, RepSs M δ p v → RepSs M δ' (mapOs u q p) v
  | _, _, .nil => .nil
  | _, _, .cons p v ps vs h1 h2 => .cons _ v _ vs (RepS.mapO u q hu hq h1) (RepSs.mapO u q hu hq h2)
end

theorem RepS.kill {g : Nat} (hδ : ∀ g', g' ≠ g → δ' g' = δ g') {p : PV} {v : Value} (h : RepS M δ p v) : RepS M δ' (killP g p) v := by
  rw [killP_eq]
  refine h.mapO _ _ ?_ ?_
  · intro g' ao n c hg
    unfold KillU
    split
    · exact .imm _ _ (.junk _)
    · rename_i hne; exact .os _ _ _ _ (by rw [hδ g' hne]; exact hg)
  · intro g' sz i f b n c hg
    unfold KillQ
    split
    · exact .imm _ _ (.junk _)
    · rename_i hne; exact .op _ _ _ _ b n c (by rw [hδ g' hne]; exact hg)
theorem RepSs.kill {g : Nat} (hδ : ∀ g', g' ≠ g → δ' g' = δ g') {p : List PV} {v : List Value} (h : RepSs M δ p v) : RepSs M δ' (killPs g p) v := by
  rw [killPs_eq]
  refine h.mapO _ _ ?_ ?_
  · intro g' ao n c hg
    unfold KillU
    split
    · exact .imm _ _ (.junk _)
    · rename_i hne; exact .os _ _ _ _ (by rw [hδ g' hne]; exact hg)
  · intro g' sz i f b n c hg
    unfold KillQ
    split
    · exact .imm _ _ (.junk _)
    · rename_i hne; exact .op _ _ _ _ b n c (by rw [hδ g' hne]; exact hg)

theorem mapOs_append (u : Nat → PV) (q : Nat → Nat → Nat → Nat → PV) (l l' : List PV) : mapOs u q (l ++ l') = mapOs u q l ++ mapOs u q l' := by
  induction l with
  | nil => simp [mapOs]
  | cons p l ih => simp [mapOs, ih]
theorem mapOs_length (u : Nat → PV) (q : Nat → Nat → Nat → Nat → PV) (l : List PV) : (mapOs u q l).length = l.length := by
  induction l with
  | nil => simp [mapOs]
  | cons p l ih => simp [mapOs, ih]
theorem mapE_flatten (g : Nat) (es : List (List PV)) : (mapE (killPs g) es).flatten = killPs g es.flatten := by
  induction es with
  | nil => simp [mapE, killPs, mapOs]
  | cons e es ih => rw [mapE, List.flatten_cons, List.flatten_cons, ih, killPs_eq, killPs_eq, killPs_eq, mapOs_append]
theorem mapE_length (g : Nat) (es : List (List PV)) : (mapE (killPs g) es).length = es.length := by
  induction es with
  | nil => rfl
  | cons e es ih => simp [mapE, ih]
theorem mapE_mem (g : Nat) (es : List (List PV)) {sz : Nat} (h : ∀ e ∈ es, e.length = sz) : ∀ e ∈ mapE (killPs g) es, e.length = sz := by
  induction es with
  | nil => simp [mapE]
  | cons e es ih =>
    intro e' he'
    rw [mapE] at he'
    rcases List.mem_cons.1 he' with rfl | he'
    · rw [killPs_eq, mapOs_length]; exact h e (by simp)
    · exact ih (fun e he => h e (by simp [he])) e' he'

theorem St.get_drop (s : St) (g i : Nat) : (s.drop g).get i = killP g (s.get i) := by
  unfold St.get St.drop
  simp only [aget_mapV]
  cases aget s.vs i with
  | some p => rfl
  | none =>
    simp only [Option.map_none]
    cases aget s.ts i with
    | some p => rfl
    | none => rfl

/-- an object is forgotten -/
theorem Rel.drop (h : Rel N s a w M F δ) (g : Nat) (hδ : ∀ g', g' ≠ g → δ' g' = δ g') : Rel N (s.drop g) a w M F δ' := by
  refine ⟨h.def0, h.size, h.ro, fun i => by rw [St.get_drop]; exact (h.slot i).kill hδ, ⟨h.inv.m, h.inv.f, h.inv.mf, h.inv.io, ?_, ?_⟩⟩
  · intro g' o hg
    simp only [St.drop, aget_mapH, aget_adel] at hg
    by_cases hne : g = g'
    · simp [hne] at hg
    · simp only [hne, if_false] at hg
      cases ho : aget s.hp g' with
      | none => rw [ho] at hg; simp at hg
      | some o' =>
        rw [ho] at hg
        simp only [Option.map_some, Option.some.injEq] at hg
        obtain ⟨xs, q1, q2, q3, q4, q5, q6, q7⟩ := h.inv.own g' o' ho
        have hd : δ' g' = δ g' := hδ g' (Ne.symm hne)
        subst hg
        unfold GObj.map
        split
        · rename_i hown
          refine ⟨xs, ?_, mapE_mem g _ q2, q3, ?_, ?_, q6, ?_⟩
          · rw [hd]; dsimp only; rw [mapE_length]; exact q1
          · dsimp only; rw [mapE_flatten]; exact q4.kill hδ
          · intro hf; rw [hown] at hf; cases hf
          · rw [hd]; exact q7
        · rename_i hown
          have hi := q5 (by simpa using hown)
          exact ⟨xs, by rw [hd]; exact q1, q2, q3, hi.toS, fun _ => hi, q6, by rw [hd]; exact q7⟩
  · intro g1 g2 o1 o2 hne h1 h2 b hb
    simp only [St.drop, aget_mapH, aget_adel] at h1 h2
    by_cases e1 : g = g1
    · simp [e1] at h1
    · by_cases e2 : g = g2
      · simp [e2] at h2
      · simp only [e1, e2, if_false] at h1 h2
        rw [hδ g1 (Ne.symm e1)] at hb
        rw [hδ g2 (Ne.symm e2)]
        cases ho1 : aget s.hp g1 with
        | none => rw [ho1] at h1; simp at h1
        | some x1 => cases ho2 : aget s.hp g2 with
          | none => rw [ho2] at h2; simp at h2
          | some x2 => exact h.inv.dis g1 g2 x1 x2 hne ho1 ho2 b hb

theorem Inv.lt {hp : List (Nat × GObj)} (h : Inv M F δ hp w) {b : Nat} : (M b ≠ none → b < w.heap.size) ∧ (F b ≠ none → b < w.heap.size) := by
  constructor
  · intro hb
    cases hm : M b with
    | none => exact absurd hm hb
    | some o => exact (Array.getElem?_eq_some_iff.1 (h.m b o hm)).1
  · intro hb
    cases hm : F b with
    | none => exact absurd hm hb
    | some o => exact (Array.getElem?_eq_some_iff.1 (h.f b o hm)).1

def upd (δ : Nat → Value) (g : Nat) (v : Value) : Nat → Value := fun g' => if g' = g then v else δ g'

theorem upd_ne (δ : Nat → Value) (g : Nat) (v : Value) : ∀ g', g' ≠ g → upd δ g v g' = δ g' := fun g' h => by simp [upd, h]

/-- an object of one's own is added: it lies in a new block, or in that of the object of the same number, which is forgotten -/
theorem Rel.newG {w' : World} {v : Value} {o : GObj} {xs : List Value} {row : Option Nat} (h : Rel N s a w M F δ) (g : Nat) (hgrow : w.grownBy w' row)
    (hrow : ∀ k, row = some k → (∃ o0, aget s.hp g = some o0) ∧ (δ g).ownBlock = some k) (hv : ∀ b, v.ownBlock = some b → row = some b ∨ w.heap.size ≤ b)
    (hown : w'.ownsRow 0 o.ty o.sz v o.es.length xs) (h2 : ∀ e ∈ o.es, e.length = o.sz) (h3 : 0 < o.sz) (h4 : RepSs M (upd δ g v) o.es.flatten xs) (h5 : o.own = false → RepIs M o.es.flatten xs)
    (h6 : ∀ u ∈ xs, u.oneCell' = true) : Rel N (s.newG g o) a w' M F (upd δ g v) := by
  have hd := h.drop g (δ' := upd δ g v) (upd_ne δ g v)
  have hkeep : ∀ b, b < w.heap.size → row ≠ some b → w'.heap[b]? = w.heap[b]? := fun b hb hne => hgrow.block b hb (fun e => hne e.symm)
  have hMF : ∀ b, row = some b → M b = none ∧ F b = none := by
    intro b hb
    obtain ⟨⟨o0, ho⟩, hbl⟩ := hrow b hb
    obtain ⟨ys, _, _, _, _, _, _, q7⟩ := h.inv.own g o0 ho
    exact q7 b hbl
  refine ⟨h.def0, h.size, h.ro, fun i => hd.slot i, ⟨?_, ?_, h.inv.mf, ⟨hgrow.os.trans h.inv.io.1, hgrow.output.trans h.inv.io.2⟩, ?_, ?_⟩⟩
  · intro b x hb
    rw [hkeep b (h.inv.lt.1 (by rw [hb]; simp)) (fun e => by rw [(hMF b e).1] at hb; cases hb)]
    exact h.inv.m b x hb
  · intro b x hb
    rw [hkeep b (h.inv.lt.2 (by rw [hb]; simp)) (fun e => by rw [(hMF b e).2] at hb; cases hb)]
    exact h.inv.f b x hb
  · intro g' o' hg
    simp only [St.newG, aget] at hg
    by_cases hgg : g = g'
    · subst hgg
      simp only [if_true, Option.some.injEq] at hg
      subst hg
      have : upd δ g v g = v := by simp [upd]
      rw [this]
      refine ⟨xs, hown, h2, h3, h4, h5, h6, fun b hb => ?_⟩
      rcases hv b hb with hr | hge
      · exact hMF b hr
      · constructor
        · cases hm : M b with
          | none => rfl
          | some x => have := (h.inv.lt (b := b)).1 (by rw [hm]; simp); omega
        · cases hm : F b with
          | none => rfl
          | some x => have := (h.inv.lt (b := b)).2 (by rw [hm]; simp); omega
    · simp only [hgg, if_false] at hg
      obtain ⟨ys, q1, q2, q3, q4, q5, q6, q7⟩ := hd.inv.own g' o' hg
      refine ⟨ys, ⟨q1.1, ?_⟩, q2, q3, q4, q5, q6, q7⟩
      rcases q1.2 with hh | ⟨b, cap, cur, e1, e2, e3, e4⟩
      · exact .inl hh
      · refine .inr ⟨b, cap, cur, e1, e2, ?_, e4⟩
        rw [hkeep b (Array.getElem?_eq_some_iff.1 e3).1 ?_]
        · exact e3
        · intro er
          obtain ⟨⟨o0, ho⟩, hbl⟩ := hrow b er
          simp only [St.drop, aget_mapH, aget_adel, hgg, if_false] at hg
          cases hgo : aget s.hp g' with
          | none => rw [hgo] at hg; simp at hg
          | some o1 =>
            refine h.inv.dis g g' o0 o1 hgg ho hgo b hbl ?_
            rw [upd_ne δ g v g' (Ne.symm hgg)] at e1
            rw [e1]; rfl
  · intro g1 g2 o1 o2 hne h1 h2' b hb
    have key : ∀ g' o', g ≠ g' → aget (s.drop g).hp g' = some o' → ∀ b, v.ownBlock = some b → (upd δ g v g').ownBlock ≠ some b := by
      intro g' o' hgg hg b hb hb'
      obtain ⟨ys, q1, _⟩ := hd.inv.own g' o' hg
      have hlt := (q1.lt b hb').2
      rcases hv b hb with hr | hge
      · obtain ⟨⟨o0, ho⟩, hbl⟩ := hrow b hr
        simp only [St.drop, aget_mapH, aget_adel, hgg, if_false] at hg
        cases hgo : aget s.hp g' with
        | none => rw [hgo] at hg; simp at hg
        | some o1 =>
          refine h.inv.dis g g' o0 o1 hgg ho hgo b hbl ?_
          rw [upd_ne δ g v g' (Ne.symm hgg)] at hb'
          exact hb'
      · omega
    have hvg : upd δ g v g = v := by simp [upd]
    simp only [St.newG, aget] at h1 h2'
    by_cases e1 : g = g1
    · subst e1
      rw [hvg] at hb
      have e2 : ¬ g = g2 := hne
      simp only [e2, if_false] at h2'
      exact key g2 o2 e2 h2' b hb
    · simp only [e1, if_false] at h1
      by_cases e2 : g = g2
      · subst e2
        rw [hvg]
        intro hv'
        exact key g1 o1 e1 h1 b hv' hb
      · simp only [e2, if_false] at h2'
        exact hd.inv.dis g1 g2 o1 o2 hne h1 h2' b hb

end
end Go.Proofs.Ytogehfalhodapaa.Pv
namespace Go.Proofs.Ytogehfalhodapaa.Pv
open Go

section
variable {P : Program} {E : Env} {C : Ctr} {w : World} {N : Cx} {s : St} {a : Act} {M : Mem} {F : Frm} {δ : Nat → Value}

theorem zeroTD_run' {T : TypeId} {d : TD} (hd : TDok P T d) {z : List PV} (hz : zeroTD d = some z) : ∃ i zv, P.info? T = some i ∧ i.zero = some zv ∧ ZeroOk zv z := by
  cases d <;> simp only [zeroTD, Option.some.injEq] at hz <;> try (cases hz; done)
  all_goals subst hz
  case int => exact hd.2.2
  case bool => exact hd.2.2
  case str => exact hd.2.2
  case ptr => exact hd.2.2
  case func => exact hd.2.2
  case slice => exact hd.2.2.1
  case arr =>
    obtain ⟨e, _, _, _, ⟨i, zv, h1, _, h2, h3⟩, _⟩ := hd
    exact ⟨i, zv, h1, h2, h3⟩
  case struct =>
    obtain ⟨fields, _, _, _, ⟨i, zv, h1, _, h2, h3⟩, _⟩ := hd
    exact ⟨i, zv, h1, h2, h3⟩

theorem own_fresh (cells : Array Value) (T : TypeId) (sz : Nat) (h : cells.size = sz) : (w.alloc (.cells cells T)).ownsRow 0 T sz (.slice (some ⟨w.heap.size, 0, none⟩) 1 1) 1 cells.toList := by
  refine ⟨by simp [h], .inr ⟨w.heap.size, 1, cells, rfl, Nat.zero_le _, heap_alloc_new w _, Nat.le_refl _, by decide, by simp [h], ?_⟩⟩
  rw [List.take_of_length_le (by simp [h])]

theorem Rel.allocG (hr : Rel N s a w M F δ) {d g : Nat} (hd : N.Ok d) (T : TypeId) {cells : Array Value} {cs : List PV} (hc : RepSs M (upd δ g (.slice (some ⟨w.heap.size, 0, none⟩) 1 1)) cs cells.toList)
    (h0 : 0 < cs.length) (hl : ∀ v ∈ cells.toList, v.oneCell' = true) :
    Rel N ((s.newG g ⟨T, cs.length, [cs], true⟩).put d (.op g cs.length 0 0)) (a.put (some d) (.pointer (some ⟨w.heap.size, 0, none⟩))) (w.alloc (.cells cells T)) M F (upd δ g (.slice (some ⟨w.heap.size, 0, none⟩) 1 1)) := by
  have hsz : cells.size = cs.length := by have := hc.length; simpa using this.symm
  have h1 := hr.newG (w' := w.alloc (.cells cells T)) (v := .slice (some ⟨w.heap.size, 0, none⟩) 1 1) (o := ⟨T, cs.length, [cs], true⟩) (xs := cells.toList) (row := none) g
    (World.grownBy_alloc w _ none) (by intro k hk; cases hk) (by intro b hb; simp [Value.ownBlock] at hb; right; omega) (own_fresh cells T _ hsz) (by simp) h0 (by simpa using hc) (by simp) hl
  have h2 := h1.put (d := some d) (p := .op g cs.length 0 0) (v := .pointer (some ⟨w.heap.size, 0 * cs.length + 0, none⟩)) (by intro i hi; cases hi; exact hd) (.op g cs.length 0 0 w.heap.size 1 1 (by simp [upd]))
  simpa [St.putO] using h2

theorem store_run (hr : Rel N s a w M F δ) {g sz i f n : Nat} {ob : GObj} {c : List PV} {T : TypeId} {p : PV} {v : Value} (hT : ∃ j, P.info? T = some j ∧ j.size = n)
    (hg : aget s.hp g = some ob) (hsz : ob.sz = sz) (hc : ob.es[i]? = some c) (hfn : f + n ≤ c.length) (hpl : p.cells.length = n) (hlf : leafs p.cells = true) (hown : (ob.own || isImm p) = true)
    (hv : RepS M δ p v) {b n' c' : Nat} (hδ : δ g = .slice (some ⟨b, 0, none⟩) n' c') :
    ∃ w', (storeVar T ⟨b, i * sz + f, none⟩ v).run P w = .ok () w' ∧ Inv M F δ (arep s.hp g { ob with es := ob.es.set i (splice c f p.cells) }) w' := by
  obtain ⟨j, hj, hjs⟩ := hT
  obtain ⟨xs, q1, q2, q3, q4, q5, q6, q7⟩ := hr.inv.own g ob hg
  have hcells := hv.cells hlf
  have hvl : v.cells.size = n := by have := hcells.length; rw [hpl] at this; simpa using this.symm
  have hone : ∀ u ∈ v.cells.toList, u.oneCell' = true := hcells.leafs hlf
  subst hsz
  rcases q1.2 with ⟨e1, e2⟩ | ⟨b', cap, cur, e1, e2, e3, e4, e5, e6, e7⟩
  · rw [hδ] at e1; cases e1
  · rw [hδ] at e1
    obtain ⟨rfl, rfl, rfl⟩ : b = b' ∧ n' = ob.es.length ∧ c' = cap := by
      injection e1 with h1 h2 h3
      injection h1 with h1
      injection h1 with h1
      exact ⟨h1, h2, h3⟩
    have hil : i < ob.es.length := (List.getElem?_eq_some_iff.1 hc).1
    have hclen : c.length = ob.sz := q2 c (List.mem_of_getElem? hc)
    have hxl : xs.length = ob.es.length * ob.sz := q1.1
    have hin : i * ob.sz + f + n ≤ ob.es.length * ob.sz := by
      have h1 : (i + 1) * ob.sz ≤ ob.es.length * ob.sz := Nat.mul_le_mul_right _ hil
      rw [Nat.succ_mul] at h1
      omega
    have hcs : cur.size = c' * ob.sz := e6
    have hcl : ob.es.length * ob.sz ≤ c' * ob.sz := Nat.mul_le_mul_right _ e4
    have hrun := run_storeCells_at P b (i * ob.sz + f) ob.ty v.cells.toList 0 cur w e3 (by simp [hvl]; omega) hone
    simp only [Nat.add_zero] at hrun
    refine ⟨_, by simp only [storeVar, Sem.run_bind, run_sizeOf' hj, Result.andThen_ok, hjs, hvl, ne_eq, not_true, if_false]; exact hrun, ?_⟩
    -- the row behind the store
    have hset := flatten_set q2 hil (c := splice c f p.cells) (by unfold splice; simp only [List.length_append, List.length_take, List.length_drop, hpl]; omega)
    have hfl : (ob.es.set i (splice c f p.cells)).flatten = splice ob.es.flatten (i * ob.sz + f) p.cells := by
      rw [hset]
      obtain ⟨h8, h9⟩ := flatten_get q2 hc
      have hsl : (splice c f p.cells).length = ob.sz := by unfold splice; simp only [List.length_append, List.length_take, List.length_drop, hpl]; omega
      unfold splice at hsl ⊢
      apply List.ext_getElem?
      intro k
      have hk : ∀ m, m < ob.sz → ob.es.flatten[i * ob.sz + m]? = c[m]? := by
        intro m hm
        have := congrArg (fun l => l[m]?) h8
        simp only [List.getElem?_take, hm, if_true, List.getElem?_drop] at this
        exact this
      simp only [List.getElem?_append, List.length_append, List.length_take, List.length_drop, List.getElem?_take, List.getElem?_drop, hpl]
      have hL : i * ob.sz + ob.sz ≤ ob.es.flatten.length := h9
      rw [Nat.min_eq_left (show i * ob.sz ≤ ob.es.flatten.length by omega), Nat.min_eq_left (show f ≤ c.length by omega), Nat.min_eq_left (show i * ob.sz + f ≤ ob.es.flatten.length by omega)]
      have hfc : f + n ≤ ob.sz := by omega
      by_cases k1 : k < i * ob.sz
      · simp [k1, show k < i * ob.sz + f by omega, show k < i * ob.sz + (f + n + (c.length - (f + n))) by omega, show k < i * ob.sz + f + n by omega]
      · by_cases k2 : k < i * ob.sz + f
        · have := hk (k - i * ob.sz) (by omega)
          rw [show i * ob.sz + (k - i * ob.sz) = k by omega] at this
          simp [k1, k2, show k < i * ob.sz + (f + n + (c.length - (f + n))) by omega, show k - i * ob.sz < f + n by omega, show k - i * ob.sz < f by omega, this, show k < i * ob.sz + f + n by omega]
        · by_cases k3 : k < i * ob.sz + f + n
          · simp [k1, k2, k3, show k < i * ob.sz + (f + n + (c.length - (f + n))) by omega, show k - i * ob.sz < f + n by omega, show ¬ k - i * ob.sz < f by omega, show k - i * ob.sz - f = k - (i * ob.sz + f) by omega]
          · by_cases k4 : k < i * ob.sz + ob.sz
            · have := hk (k - i * ob.sz) (by omega)
              rw [show i * ob.sz + (k - i * ob.sz) = k by omega] at this
              simp [k1, k3, show k < i * ob.sz + (f + n + (c.length - (f + n))) by omega, show ¬ k - i * ob.sz < f + n by omega, show f + n + (k - i * ob.sz - (f + n)) = k - i * ob.sz by omega, this.symm,
                show i * ob.sz + f + n + (k - (i * ob.sz + f + n)) = k by omega]
            · simp [k3, show i * ob.sz + (f + n + (c.length - (f + n))) = i * ob.sz + ob.sz by omega,
                show i * ob.sz + ob.sz + (k - (i * ob.sz + ob.sz)) = k by omega, show i * ob.sz + f + n + (k - (i * ob.sz + f + n)) = k by omega]
              intro h
              exact absurd h k4
    have hlen : (ob.es.set i (splice c f p.cells)).length = ob.es.length := by simp
    have hne : aget s.hp g ≠ none := by rw [hg]; simp
    refine ⟨?_, ?_, hr.inv.mf, hr.inv.io, ?_, ?_⟩
    · intro b2 o hb
      rw [setRow_other]
      · exact hr.inv.m b2 o hb
      · intro e; subst e; rw [(q7 b2 (by rw [hδ]; rfl)).1] at hb; cases hb
    · intro b2 o hb
      rw [setRow_other]
      · exact hr.inv.f b2 o hb
      · intro e; subst e; rw [(q7 b2 (by rw [hδ]; rfl)).2] at hb; cases hb
    · intro g' o' hg'
      rw [aget_arep _ _ _ hne] at hg'
      by_cases hgg : g = g'
      · subst hgg
        simp only [if_true, Option.some.injEq] at hg'
        subst hg'
        dsimp only
        have hxs' : (xs.take (i * ob.sz + f) ++ v.cells.toList ++ xs.drop (i * ob.sz + f + v.cells.toList.length)).length = xs.length := by
          simp only [List.length_append, List.length_take, List.length_drop, Array.length_toList, hvl]; omega
        refine ⟨xs.take (i * ob.sz + f) ++ v.cells.toList ++ xs.drop (i * ob.sz + f + v.cells.toList.length), ⟨by rw [hxs', hlen]; exact hxl, ?_⟩, ?_, q3, ?_, ?_, ?_, ?_⟩
        · rw [hlen, hδ]
          refine .inr ⟨b, c', _, rfl, Nat.zero_le _, setRow_heap w b cur _ ob.ty (0, 0) e3, e4, e5, ?_, ?_⟩
          · simp only [List.size_toArray, List.length_append, List.length_take, List.length_drop, Array.length_toList, hvl]
            omega
          · rw [← e7]
            apply List.ext_getElem?
            intro k
            simp only [List.getElem?_take, List.getElem?_append, List.length_append, List.length_take, List.getElem?_drop, Array.length_toList, hvl]
            rw [Nat.min_eq_left (show i * ob.sz + f ≤ cur.size by omega), Nat.min_eq_left (show ob.es.length * ob.sz ≤ cur.size by omega), Nat.min_eq_left (show i * ob.sz + f ≤ ob.es.length * ob.sz by omega)]
            by_cases k0 : k < ob.es.length * ob.sz
            · simp only [k0, if_true]
              by_cases k1 : k < i * ob.sz + f + n
              · simp [k1]
              · simp [k1, show i * ob.sz + f + n + (k - (i * ob.sz + f + n)) = k by omega, k0]
            · simp only [k0, if_false]
              rw [if_neg (by omega)]
              rw [if_neg (by omega)]
        · intro e he
          rcases List.mem_or_eq_of_mem_set he with h' | rfl
          · exact q2 e h'
          · unfold splice; simp only [List.length_append, List.length_take, List.length_drop, hpl]; omega
        · rw [hfl]; exact q4.splice _ hcells
        · intro ho
          have hi2 : isImm p = true := by rw [ho] at hown; simpa using hown
          rw [hfl]
          have hci : isImms p.cells = true := by
            cases p <;> simp [isImm, PV.cells, isImms] at hi2 ⊢
            all_goals first | exact hi2 | skip
          exact (q5 ho).splice _ (hcells.toI hci)
        · intro u hu
          rcases List.mem_append.1 hu with hu | hu
          · rcases List.mem_append.1 hu with hu | hu
            · exact q6 u (List.mem_of_mem_take hu)
            · exact hone u hu
          · exact q6 u (List.mem_of_mem_drop hu)
        · exact q7
      · simp only [hgg, if_false] at hg'
        obtain ⟨ys, r1, r2, r3, r4, r5, r6, r7⟩ := hr.inv.own g' o' hg'
        refine ⟨ys, ⟨r1.1, ?_⟩, r2, r3, r4, r5, r6, r7⟩
        rcases r1.2 with hh | ⟨b2, cap2, cur2, s1, s2, s3, s4⟩
        · exact .inl hh
        · refine .inr ⟨b2, cap2, cur2, s1, s2, ?_, s4⟩
          rw [setRow_other]
          · exact s3
          · intro e; subst e
            exact hr.inv.dis g g' ob o' hgg hg hg' b2 (by rw [hδ]; rfl) (by rw [s1]; rfl)
    · intro g1 g2 o1 o2 hne' h1 h2
      rw [aget_arep _ _ _ hne] at h1 h2
      have h1' : ∃ o1', aget s.hp g1 = some o1' := by
        by_cases e : g = g1
        · subst e; exact ⟨ob, hg⟩
        · simp only [e, if_false] at h1; exact ⟨o1, h1⟩
      have h2' : ∃ o2', aget s.hp g2 = some o2' := by
        by_cases e : g = g2
        · subst e; exact ⟨ob, hg⟩
        · simp only [e, if_false] at h2; exact ⟨o2, h2⟩
      obtain ⟨o1', h1'⟩ := h1'
      obtain ⟨o2', h2'⟩ := h2'
      exact hr.inv.dis g1 g2 o1' o2' hne' h1' h2'
end
end Go.Proofs.Ytogehfalhodapaa.Pv
namespace Go.Proofs.Ytogehfalhodapaa.Pv
open Go

/-- an object lies in the block in which it lay -/
def SameB (δ δ' : Nat → Value) (g : Nat) : Prop := ∀ b n c, δ g = .slice (some ⟨b, 0, none⟩) n c → ∃ n' c', δ' g = .slice (some ⟨b, 0, none⟩) n' c'

theorem SameB.of_eq {δ δ' : Nat → Value} {g : Nat} (h : δ' g = δ g) : SameB δ δ' g := fun b n c e => ⟨n, c, by rw [h]; exact e⟩

/-- the contract of a function that is handed objects of its caller's own -/
structure FH (P : Program) (f : Nat) (args : List PV) (hp : List (Nat × GObj)) (r : PV) (hp' : List (Nat × GObj)) : Prop where
  enter : ∀ (args : Array Value) (w : World), (callFunc f args).run P w = .ok (.enter f args) w
  calls : ∀ (vs : List Value) (w : World) (M : Mem) (F : Frm) (δ : Nat → Value), Inv M F δ hp w → RepSs M δ args vs →
    Calls P f vs.toArray w fun e w' => ∃ M' δ' v, e = .returned v ∧ M.le M' ∧ Inv M' F δ' hp' w' ∧ RepS M' δ' r v ∧ (∀ g, ownId hp g = true → SameB δ δ' g) ∧ ∀ g, hasId hp g = true → keptId g = true → δ' g = δ g

section
variable {P : Program} {E : Env} {C : Ctr} {H : Hnd} {w : World} {N : Cx} {s : St} {a : Act} {M : Mem} {F : Frm} {δ : Nat → Value}

theorem hasId_iff (hp : List (Nat × GObj)) (g : Nat) : hasId hp g = true ↔ ∃ o, aget hp g = some o := by
  unfold hasId
  cases aget hp g <;> simp

theorem subHp_get : ∀ {hpi hp : List (Nat × GObj)}, subHp hpi hp → ∀ g o, aget hpi g = some o → aget hp g = some o
  | [], hp, _, g, o, h => by simp [aget] at h
  | (g', o') :: r, hp, hs, g, o, h => by
    simp only [aget] at h
    split at h
    · rename_i hg
      cases h
      rw [← hg]; exact hs.1
    · exact subHp_get hs.2 g o h

theorem freshHp_get {hpi hp : List (Nat × GObj)} : ∀ {hp' : List (Nat × GObj)}, freshHp hpi hp hp' = true → ∀ g o, aget hp' g = some o → hasId hpi g = true ∨ hasId hp g = false
  | [], _, g, o, h => by simp [aget] at h
  | (g', o') :: r, hs, g, o, h => by
    simp only [freshHp, Bool.and_eq_true, Bool.or_eq_true, Bool.not_eq_true'] at hs
    simp only [aget] at h
    split at h
    · rename_i hg
      rw [← hg]; exact hs.1
    · exact freshHp_get hs.2 g o h

theorem aget_delHp (hpi : List (Nat × GObj)) : ∀ (hp : List (Nat × GObj)) (g : Nat), aget (delHp hpi hp) g = if hasId hpi g then none else aget hp g
  | [], g => by simp [delHp, aget]
  | (g', o') :: r, g => by
    simp only [delHp]
    by_cases h : hasId hpi g' = true
    · rw [if_pos h, aget_delHp hpi r g]
      simp only [aget]
      by_cases hg : g' = g
      · subst hg; simp [h]
      · simp [hg]
    · rw [if_neg h]
      simp only [aget]
      by_cases hg : g' = g
      · subst hg; simp [h]
      · simp only [hg, if_false]; exact aget_delHp hpi r g

theorem aget_append {α : Type} (l l' : List (Nat × α)) (g : Nat) : aget (l ++ l') g = match aget l g with | some x => some x | none => aget l' g := by
  induction l with
  | nil => rfl
  | cons x r ih => obtain ⟨j, p⟩ := x; simp only [List.cons_append, aget]; split <;> simp [ih]

theorem RepS.killW {δ δ' : Nat → Value} (k1 k2 : Nat → Bool) (h1 : ∀ g, k1 g = false → δ' g = δ g) (h2 : ∀ g, k2 g = false → SameB δ δ' g) {p : PV} {v : Value} (h : RepS M δ p v) : RepS M δ' (Pv.killW k1 k2 p) v := by
  unfold Pv.killW
  refine h.mapO _ _ ?_ ?_
  · intro g' ao n c hg
    cases hk : k1 g' with
    | true => exact .imm _ _ (.junk _)
    | false => exact .os _ _ _ _ (by rw [h1 g' hk]; exact hg)
  · intro g' sz i f b n c hg
    cases hk : k2 g' with
    | true => exact .imm _ _ (.junk _)
    | false =>
      obtain ⟨n', c', e⟩ := h2 g' hk b n c hg
      exact .op _ _ _ _ b n' c' e
theorem RepSs.killW {δ δ' : Nat → Value} (k1 k2 : Nat → Bool) (h1 : ∀ g, k1 g = false → δ' g = δ g) (h2 : ∀ g, k2 g = false → SameB δ δ' g) {p : List PV} {v : List Value} (h : RepSs M δ p v) : RepSs M δ' (Pv.killWs k1 k2 p) v := by
  unfold Pv.killWs
  refine h.mapO _ _ ?_ ?_
  · intro g' ao n c hg
    cases hk : k1 g' with
    | true => exact .imm _ _ (.junk _)
    | false => exact .os _ _ _ _ (by rw [h1 g' hk]; exact hg)
  · intro g' sz i f b n c hg
    cases hk : k2 g' with
    | true => exact .imm _ _ (.junk _)
    | false =>
      obtain ⟨n', c', e⟩ := h2 g' hk b n c hg
      exact .op _ _ _ _ b n' c' e

theorem mapE_flattenW (k k' : Nat → Bool) (es : List (List PV)) : (mapE (killWs k k') es).flatten = killWs k k' es.flatten := by
  induction es with
  | nil => simp [mapE, killWs, mapOs]
  | cons e es ih => rw [mapE, List.flatten_cons, List.flatten_cons, ih]; unfold killWs; rw [mapOs_append]
theorem mapE_lengthW (k k' : Nat → Bool) (es : List (List PV)) : (mapE (killWs k k') es).length = es.length := by
  induction es with
  | nil => rfl
  | cons e es ih => simp [mapE, ih]
theorem mapE_memW (k k' : Nat → Bool) (es : List (List PV)) {sz : Nat} (h : ∀ e ∈ es, e.length = sz) : ∀ e ∈ mapE (killWs k k') es, e.length = sz := by
  induction es with
  | nil => simp [mapE]
  | cons e es ih =>
    intro e' he'
    rw [mapE] at he'
    rcases List.mem_cons.1 he' with rfl | he'
    · unfold killWs; rw [mapOs_length]; exact h e (by simp)
    · exact ih (fun e he => h e (by simp [he])) e' he'

/-- what is known of one object, when the numbers' meaning turns -/
theorem own_killW {δ δ' : Nat → Value} {o : GObj} {w' : World} {M M' : Mem} {F : Frm} {g : Nat} (k k' : Nat → Bool) (hδ : ∀ g, k g = false → δ' g = δ g) (hδ' : ∀ g, k' g = false → SameB δ δ' g) (hm : M.le M')
    (hg : δ' g = δ g) (hb : ∀ b, (δ g).ownBlock = some b → w'.heap[b]? = w.heap[b]?) (hM : ∀ b, (δ g).ownBlock = some b → M' b = none ∧ F b = none)
    (h : ∃ xs, w.ownsRow 0 o.ty o.sz (δ g) o.es.length xs ∧ (∀ e ∈ o.es, e.length = o.sz) ∧ 0 < o.sz ∧ RepSs M δ o.es.flatten xs ∧ (o.own = false → RepIs M o.es.flatten xs) ∧ (∀ v ∈ xs, v.oneCell' = true)) :
    ∃ xs, w'.ownsRow 0 (o.map (killWs k k')).ty (o.map (killWs k k')).sz (δ' g) (o.map (killWs k k')).es.length xs ∧ (∀ e ∈ (o.map (killWs k k')).es, e.length = (o.map (killWs k k')).sz) ∧ 0 < (o.map (killWs k k')).sz ∧
      RepSs M' δ' (o.map (killWs k k')).es.flatten xs ∧ ((o.map (killWs k k')).own = false → RepIs M' (o.map (killWs k k')).es.flatten xs) ∧ (∀ v ∈ xs, v.oneCell' = true) ∧ ∀ b, (δ' g).ownBlock = some b → M' b = none ∧ F b = none := by
  obtain ⟨xs, q1, q2, q3, q4, q5, q6⟩ := h
  have q1' : w'.ownsRow 0 o.ty o.sz (δ g) o.es.length xs := by
    refine ⟨q1.1, ?_⟩
    rcases q1.2 with hh | ⟨b, cap, cur, e1, e2, e3, e4⟩
    · exact .inl hh
    · exact .inr ⟨b, cap, cur, e1, e2, by rw [hb b (by rw [e1]; rfl)]; exact e3, e4⟩
  refine ⟨xs, ?_⟩
  unfold GObj.map
  split
  · rename_i hown
    refine ⟨?_, mapE_memW k k' _ q2, q3, ?_, ?_, q6, by rw [hg]; exact hM⟩
    · rw [hg]; dsimp only; rw [mapE_lengthW]; exact q1'
    · dsimp only; rw [mapE_flattenW]; exact (q4.mono hm).killW k k' hδ hδ'
    · intro hf; rw [hown] at hf; cases hf
  · rename_i hown
    have hi := (q5 (by simpa using hown)).mono hm
    exact ⟨by rw [hg]; exact q1', q2, q3, hi.toS, fun _ => hi, q6, by rw [hg]; exact hM⟩

theorem St.get_mapV (s : St) (h : PV → PV) (hj : h .junk = .junk) (hp : List (Nat × GObj)) (i : Nat) : St.get ⟨mapV h s.vs, mapV h s.ts, hp⟩ i = h (s.get i) := by
  unfold St.get
  simp only [aget_mapV]
  cases aget s.vs i with
  | some p => rfl
  | none =>
    simp only [Option.map_none]
    cases aget s.ts i with
    | some p => rfl
    | none => exact hj.symm

theorem callH_wp (hH : ∀ f as hp r hp', H f as hp r hp' → FH P f as hp r hp') {f : Nat} {args : List PV} {vs : List Value} {d : Option Nat} {K : St → Prop} (hd : ∀ i, d = some i → N.Ok i)
    (h : CallH H f args s d K) (hr : Rel N s a w M F δ) (hrep : RepSs M δ args vs) :
    (∀ (as : Array Value) (w : World), (callFunc f as).run P w = .ok (.enter f as) w) ∧
    Calls P f vs.toArray w fun e w' => ∃ v, e = .returned v ∧ GoodK N M F K (a.put d v) w' := by
  obtain ⟨hpi, r, hp', h, h0, h1, h3⟩ := h
  have hfh := hH _ _ _ _ _ h
  refine ⟨hfh.enter, ?_⟩
  let rest : Nat → Prop := fun b => ∃ g o, hasId hpi g = false ∧ aget s.hp g = some o ∧ (δ g).ownBlock = some b
  have hrest : ∀ b, rest b → M b = none ∧ F b = none := by
    rintro b ⟨g, o, _, hg, hb⟩
    obtain ⟨xs, _, _, _, _, _, _, h7⟩ := hr.inv.own g o hg
    exact h7 b hb
  classical
  have hi0 : Inv M ⟨fun b => if rest b then w.heap[b]? else F b, F.os, F.out⟩ δ hpi w := by
    refine ⟨hr.inv.m, ?_, ?_, hr.inv.io, ?_, ?_⟩
    · intro b o hb
      dsimp only at hb
      split at hb
      · exact hb
      · exact hr.inv.f _ _ hb
    · intro b hb
      dsimp only
      split
      · rename_i ho; exact absurd (hrest b ho).1 hb
      · exact hr.inv.mf b hb
    · intro g o hg
      obtain ⟨xs, q1, q2, q3, q4, q5, q6, q7⟩ := hr.inv.own g o (subHp_get h0 g o hg)
      refine ⟨xs, q1, q2, q3, q4, q5, q6, fun b hb => ⟨(q7 b hb).1, ?_⟩⟩
      dsimp only
      split
      · rename_i hre
        obtain ⟨g', o', hn, hg', hb'⟩ := hre
        by_cases e : g = g'
        · subst e
          have := (hasId_iff hpi g).2 ⟨o, hg⟩
          rw [hn] at this; cases this
        · exact absurd hb' (hr.inv.dis g g' o o' e (subHp_get h0 g o hg) hg' b hb)
      · exact (q7 b hb).2
    · intro g g' o o' hne hg hg' b hb
      exact hr.inv.dis g g' o o' hne (subHp_get h0 g o hg) (subHp_get h0 g' o' hg') b hb
  refine (hfh.calls vs w M _ δ hi0 hrep).mono ?_
  rintro e w' ⟨M', δ', v, rfl, hm, hi', hv, hkeep, hkept⟩
  refine ⟨v, rfl, ?_⟩
  let δ2 : Nat → Value := fun g => if inSet hpi hp' g then δ' g else δ g
  have hold : ∀ b, rest b → w'.heap[b]? = w.heap[b]? := by
    intro b hb
    cases hwb : w.heap[b]? with
    | none =>
      obtain ⟨g, o, _, hg, hgb⟩ := hb
      obtain ⟨xs, h1, _⟩ := hr.inv.own g o hg
      have := (h1.lt b hgb).2
      simp at hwb; omega
    | some x => exact hi'.f b x (by simp [hb, hwb])
  have hd0 : ∀ g, inSet hpi hp' g = false → δ2 g = δ g := by
    intro g hg
    simp only [δ2, hg]
    rfl
  have htn : ∀ g, inSet hpi hp' g = false → turned hpi hp' g = false := fun g hg => by simp [turned, hg]
  have hd1 : ∀ g, turned hpi hp' g = false → δ2 g = δ g := by
    intro g hg
    cases hin : inSet hpi hp' g with
    | false => exact hd0 g hin
    | true =>
      simp only [turned, hin, Bool.true_and, Bool.not_eq_false', Bool.and_eq_true] at hg
      simp only [δ2, hin, if_true]
      exact hkept g hg.2 hg.1
  have hd1' : ∀ g, (inSet hpi hp' g && !ownId hpi g) = false → SameB δ δ2 g := by
    intro g hg
    cases hin : inSet hpi hp' g with
    | false => exact .of_eq (hd0 g hin)
    | true =>
      rw [hin] at hg
      have hk := hkeep g (by simpa using hg)
      intro b n c e
      obtain ⟨n', c', e'⟩ := hk b n c e
      exact ⟨n', c', by simp only [δ2, hin, if_true]; exact e'⟩
  have hd2 : ∀ g, (!inSet hpi hp' g) = false → δ2 g = δ' g := by
    intro g hg
    simp only [δ2]
    rw [if_pos (by simpa using hg)]
  have hMrest : ∀ b, rest b → M' b = none := by
    intro b hb
    cases hmm : M' b with
    | none => rfl
    | some x =>
      have := hi'.mf b (by rw [hmm]; simp)
      simp only [hb, if_true] at this
      obtain ⟨g, o, _, hg, hgb⟩ := hb
      obtain ⟨xs, h1, _⟩ := hr.inv.own g o hg
      have h2 := (h1.lt b hgb).2
      simp at this; omega
  have hrel : Rel N (s.handed hpi hp') a w' M' F δ2 := by
    refine ⟨hr.def0.mono hm, hr.size, hr.ro, ?_, ?_⟩
    · intro i
      have : (s.handed hpi hp').get i = Pv.killW (turned hpi hp') (fun g => inSet hpi hp' g && !ownId hpi g) (s.get i) := St.get_mapV s _ rfl _ i
      rw [this]
      exact ((hr.slot i).mono hm).killW _ _ hd1 hd1'
    · have hget : ∀ g o, aget (s.handed hpi hp').hp g = some o → (∃ o', aget hp' g = some o' ∧ o = o'.map (killWs (fun g => !inSet hpi hp' g) fun g => !inSet hpi hp' g)) ∨
          (aget hp' g = none ∧ hasId hpi g = false ∧ ∃ o', aget s.hp g = some o' ∧ o = o'.map (killWs (turned hpi hp') fun g => inSet hpi hp' g && !ownId hpi g)) := by
        intro g o hg
        simp only [St.handed, aget_append, aget_mapH, aget_delHp] at hg
        cases hg1 : aget hp' g with
        | some o' =>
          simp only [hg1, Option.map_some, Option.some.injEq] at hg
          exact .inl ⟨o', rfl, hg.symm⟩
        | none =>
          simp only [hg1, Option.map_none] at hg
          split at hg
          · simp at hg
          · rename_i hn
            cases hg2 : aget s.hp g with
            | none => rw [hg2] at hg; simp at hg
            | some o' =>
              rw [hg2] at hg
              simp only [Option.map_some, Option.some.injEq] at hg
              exact .inr ⟨rfl, by simpa using hn, o', rfl, hg.symm⟩
      refine ⟨hi'.m, ?_, ?_, hi'.io, ?_, ?_⟩
      · intro b x hb
        have hno : ¬ rest b := fun ho => by rw [(hrest b ho).2] at hb; cases hb
        exact hi'.f b x (by simp [hno, hb])
      · intro b hb
        have := hi'.mf b hb
        dsimp only at this
        split at this
        · rename_i ho; exact (hrest b ho).2
        · exact this
      · intro g o hg
        rcases hget g o hg with ⟨o', hg1, rfl⟩ | ⟨hg1, hn, o', hg2, rfl⟩
        · obtain ⟨xs, q1, q2, q3, q4, q5, q6, q7⟩ := hi'.own g o' hg1
          have hin : inSet hpi hp' g = true := by simp [inSet, (hasId_iff hp' g).2 ⟨o', hg1⟩]
          refine own_killW (w := w') (M := M') _ _ hd2 (fun g hg => .of_eq (hd2 g hg)) M'.le_refl (hd2 g (by simp [hin])) (fun b hb => rfl) ?_ ⟨xs, q1, q2, q3, q4, q5, q6⟩
          intro b hb
          refine ⟨(q7 b hb).1, ?_⟩
          have := (q7 b hb).2
          dsimp only at this
          split at this
          · rename_i hre; exact (hrest b hre).2
          · exact this
        · obtain ⟨xs, q1, q2, q3, q4, q5, q6, q7⟩ := hr.inv.own g o' hg2
          have hin : inSet hpi hp' g = false := by
            have : hasId hp' g = false := by unfold hasId; rw [hg1]
            simp [inSet, hn, this]
          refine own_killW (w := w) (M := M) _ _ hd1 hd1' hm (hd0 g hin) (fun b hb => hold b ⟨g, o', hn, hg2, hb⟩) ?_ ⟨xs, q1, q2, q3, q4, q5, q6⟩
          intro b hb
          exact ⟨hMrest b ⟨g, o', hn, hg2, hb⟩, (q7 b hb).2⟩
      · intro g1 g2 o1 o2 hne e1 e2 b hb
        rcases hget g1 o1 e1 with ⟨o1', f1, _⟩ | ⟨f1, n1, o1', k1, _⟩ <;> rcases hget g2 o2 e2 with ⟨o2', f2, _⟩ | ⟨f2, n2, o2', k2, _⟩
        · have i1 : inSet hpi hp' g1 = true := by simp [inSet, (hasId_iff hp' g1).2 ⟨o1', f1⟩]
          have i2 : inSet hpi hp' g2 = true := by simp [inSet, (hasId_iff hp' g2).2 ⟨o2', f2⟩]
          rw [hd2 g1 (by simp [i1])] at hb
          rw [hd2 g2 (by simp [i2])]
          exact hi'.dis g1 g2 o1' o2' hne f1 f2 b hb
        · have i1 : inSet hpi hp' g1 = true := by simp [inSet, (hasId_iff hp' g1).2 ⟨o1', f1⟩]
          have i2 : inSet hpi hp' g2 = false := by
            have : hasId hp' g2 = false := by unfold hasId; rw [f2]
            simp [inSet, n2, this]
          rw [hd2 g1 (by simp [i1])] at hb
          rw [hd0 g2 i2]
          intro hb2
          obtain ⟨xs, q1, _, _, _, _, _, q7⟩ := hi'.own g1 o1' f1
          have := (q7 b hb).2
          have hre : rest b := ⟨g2, o2', n2, k2, hb2⟩
          simp only [hre, if_true] at this
          obtain ⟨ys, r1, _⟩ := hr.inv.own g2 o2' k2
          have h2 := (r1.lt b hb2).2
          simp at this; omega
        · have i2 : inSet hpi hp' g2 = true := by simp [inSet, (hasId_iff hp' g2).2 ⟨o2', f2⟩]
          have i1 : inSet hpi hp' g1 = false := by
            have : hasId hp' g1 = false := by unfold hasId; rw [f1]
            simp [inSet, n1, this]
          rw [hd0 g1 i1] at hb
          rw [hd2 g2 (by simp [i2])]
          intro hb2
          obtain ⟨xs, q1, _, _, _, _, _, q7⟩ := hi'.own g2 o2' f2
          have := (q7 b hb2).2
          have hre : rest b := ⟨g1, o1', n1, k1, hb⟩
          simp only [hre, if_true] at this
          obtain ⟨ys, r1, _⟩ := hr.inv.own g1 o1' k1
          have h2 := (r1.lt b hb).2
          simp at this; omega
        · have i1 : inSet hpi hp' g1 = false := by
            have : hasId hp' g1 = false := by unfold hasId; rw [f1]
            simp [inSet, n1, this]
          have i2 : inSet hpi hp' g2 = false := by
            have : hasId hp' g2 = false := by unfold hasId; rw [f2]
            simp [inSet, n2, this]
          rw [hd0 g1 i1] at hb
          rw [hd0 g2 i2]
          exact hr.inv.dis g1 g2 o1' o2' hne k1 k2 b hb
  exact ⟨_, M', δ2, h3, hm, hrel.put hd (hv.killW _ _ hd2 (fun g hg => .of_eq (hd2 g hg)))⟩
end
end Go.Proofs.Ytogehfalhodapaa.Pv
namespace Go.Proofs.Ytogehfalhodapaa.Pv
open Go

section
variable {ρ : Option Nat} {P : Program} {E : Env} {C : Ctr} {H : Hnd} {w : World} {N : Cx} {s : St} {a : Act} {M : Mem} {F : Frm} {δ : Nat → Value}

theorem GoodK.of_rel {K : St → Prop} {s' : St} {a' : Act} {w' : World} {M' : Mem} {δ' : Nat → Value} (hk : K s') (hm : M.le M') (hr : Rel N s' a' w' M' F δ') : GoodK N M F K a' w' := ⟨s', M', δ', hk, hm, hr⟩

theorem putSome (s : St) (d : Nat) (p : PV) : s.putO (some d) p = s.put d p := rfl

theorem val_step (hE : ∀ T, TDok P T (E T)) (hC : ∀ f as r, C f as r → FC P f as r) {o : Oper} {K : St → Prop} (h : valOp E C o s fun p => K (s.putO o.dst p)) (hr : Rel N s a w M F δ)
    (hd : ∀ i, o.dst = some i → N.Ok i) {Q : Exit → Act → World → Prop} : o.wpIn (FnR ρ) 0 P a w (GoodK N M F K) Q :=
  valOp_wp hE hC h hr fun v p M' w' hk hm hi hp => by
    have h1 : Rel N s a w' M' F δ := ⟨hr.def0.mono hm, hr.size, hr.ro, fun i => (hr.slot i).mono hm, hi⟩
    exact .of_rel hk hm (h1.put hd hp)

theorem flatten_length {es : List (List PV)} {sz : Nat} (h : ∀ e ∈ es, e.length = sz) : es.flatten.length = es.length * sz := by
  induction es with
  | nil => simp
  | cons x es ih => rw [List.flatten_cons, List.length_append, h x (by simp), ih (fun e he => h e (by simp [he])), List.length_cons, Nat.succ_mul]; omega

/-- where the new elements lie -/
def Source (M : Mem) (w : World) (esz : Nat) (es : List (List PV)) (u : Value) : Prop :=
  (∃ ao c, u = .slice ao 0 c ∧ es = []) ∨ ∃ b off c vs, u = .slice (some ⟨b, off, none⟩) es.length c ∧ RepIs M es.flatten vs ∧ (∀ v ∈ vs, v.oneCell' = true) ∧ (∀ e ∈ es, e.length = esz) ∧
    ∀ (i : Nat) (v : Value), vs[i]? = some v → w.cell? ⟨b, off + i, none⟩ = some v

theorem source_of {hp : List (Nat × GObj)} (hi : Inv M F δ hp w) {y : PV} {u : Value} {esz : Nat} {es : List (List PV)} (hy : asEs esz (borrow hp y) = some es) (hu : RepS M δ y u) : Source M w esz es u := by
  have himm : ∀ y, asEs esz y = some es → RepS M δ y u → Source M w esz es u := by
    intro y hy hu
    unfold asEs at hy
    split at hy
    · rename_i sz es'
      split at hy
      · rename_i hsz
        cases hy
        subst hsz
        rcases sl_inv2 hu.sl_inv with ⟨ao, c, e1, e2⟩ | ⟨b, off, c, cells, T', fr, vs, e1, e2, e3, e4, e5, e6, e7, e8⟩
        · exact .inl ⟨ao, c, e1, e2⟩
        · exact .inr ⟨b, off, c, vs, e1, e6, e7, e5, fun i v hv => by rw [hi.cell e2]; exact e8 i v hv⟩
      · cases hy
    · cases hy
      exact .inl ⟨none, 0, hu.nilsl_inv, rfl⟩
    · cases hy
  unfold borrow at hy
  split at hy
  · rename_i g
    split at hy
    · rename_i o hg
      split at hy
      · simp [asEs] at hy
      · rename_i hown
        obtain ⟨xs, q1, q2, q3, q4, q5, q6, q7⟩ := hi.own g o hg
        simp only [asEs] at hy
        split at hy
        · rename_i hsz
          cases hy
          have hv := hu.os_inv
          rcases q1.2 with ⟨e1, e2⟩ | ⟨b, cap, cur, e1, e2, e3, e4, e5, e6, e7⟩
          · exact .inl ⟨none, 0, by rw [hv, e1], List.eq_nil_of_length_eq_zero e2⟩
          · refine .inr ⟨b, 0, cap, xs, by rw [hv, e1], q5 (by simpa using hown), q6, fun e he => (q2 e he).trans hsz, fun i v hv => ?_⟩
            have := q1.cells (g := b) (by rw [e1]; rfl) i v hv
            unfold Addr.add at this
            split at this
            · rename_i h0; subst h0; exact this
            · exact this
        · cases hy
    · simp [asEs] at hy
  · exact himm _ hy hu

theorem append_run {T e : TypeId} {esz eb : Nat} {z : List PV} (hT : TDok P T (.slice e esz eb z)) (ty : TypeId) {v : Value} {n : Nat} {xs : List Value} (hown : w.ownsRow 0 e esz v n xs)
    {es : List (List PV)} {u : Value} (hsrc : Source M w esz es u)
    (h63 : n + es.length ≤ 9223372036854775807) (hb : (n + es.length) * eb ≤ 140737488355328) :
    ∃ v' w' news, (Builtin.append_ #[T, T] ty #[v, u]).run P w = .ok v' w' ∧ w'.ownsRow 0 e esz v' (n + es.length) (xs ++ news) ∧ w.grownBy w' v.ownBlock ∧ RepIs M es.flatten news ∧ (∀ x ∈ news, x.oneCell' = true) ∧
      (∀ e ∈ es, e.length = esz) ∧ (∃ ao c, v' = .slice ao (n + es.length) c) ∧ ∀ b, v'.ownBlock = some b → v.ownBlock = some b ∨ w.heap.size ≤ b := by
  obtain ⟨t1, t2, t3, ⟨j, zv, t4, t5, t6, t7, t8⟩, t9, t10⟩ := hT
  have hsh : ∀ (v' : Value) (w' : World) (m : Nat) (ys : List Value), w'.ownsRow 0 e esz v' m ys → ∃ ao c, v' = .slice ao m c := by
    intro v' w' m ys ho
    rcases ho.2 with ⟨e1, e2⟩ | ⟨g, cap, cur, e1, _⟩
    · exact ⟨none, 0, by rw [e1, e2]⟩
    · exact ⟨_, _, e1⟩
  have hout : ∀ (ad : Addr) (m c : Nat) (news : List Value), news.length = m * esz → (∀ j u, news[j]? = some u → w.cell? (ad.add j) = some u) → (∀ u ∈ news, u.oneCell' = true) → n + m ≤ 9223372036854775807 → (n + m) * eb ≤ 140737488355328 →
      ∃ v' w', (Builtin.append_ #[T, T] ty #[v, .slice (some ad) m c]).run P w = .ok v' w' ∧ w'.ownsRow 0 e esz v' (n + m) (xs ++ news) ∧ w.grownBy w' v.ownBlock ∧ ∀ b, v'.ownBlock = some b → v.ownBlock = some b ∨ w.heap.size ≤ b := by
    intro ad m c news h1 h2 h3 h4 h5
    obtain ⟨v', w', r1, r2, r3, r4⟩ := run_append_own (P := P) w 0 T ty e j zv esz eb t1 t4 t7 t5 t6 (by rw [t8.1, t9]) t10 v n xs hown ad m c news h1 h2 h3 (by simp only [maxLen]; exact h4) h5 (Nat.zero_le _)
    refine ⟨v', w', r1, r2, r3, ?_⟩
    rcases hown.2 with ⟨rfl, rfl⟩ | ⟨g, cap, cur, rfl, hbg, hg, hnc, hcm, hcs, htake⟩
    · -- a nil slice: the same law says that the row is new
      obtain ⟨v2, w2, r1', r2', _⟩ := run_append_own (P := P) w w.heap.size T ty e j zv esz eb t1 t4 t7 t5 t6 (by rw [t8.1, t9]) t10 (.slice none 0 0) 0 xs ⟨hown.1, .inl ⟨rfl, rfl⟩⟩ ad m c news h1 h2 h3 (by simp only [maxLen]; exact h4) h5 (Nat.le_refl _)
      rw [r1] at r1'
      injection r1' with e1 e2
      subst e1; subst e2
      exact fun b hb => .inr (r2'.lt b hb).1
    · by_cases hroom : n + m ≤ cap
      · have hr := run_append_room (P := P) w T ty e j t1 t4 g n cap cur hg ad m c news (by rw [t5]; exact h1) h2 h3 hroom (by rw [t5, h1, hcs, ← Nat.add_mul]; exact Nat.mul_le_mul_right _ hroom)
        rw [r1] at hr
        injection hr with e1 e2
        subst e1
        exact fun b hb => .inl hb
      · have holds : ∀ j u, xs[j]? = some u → w.cell? ((⟨g, 0, none⟩ : Addr).add j) = some u := hown.cells (g := g) rfl
        have hr := run_append_grow (P := P) w T ty e j zv t1 t4 t7 ⟨g, 0, none⟩ n cap xs (by rw [t5]; exact hown.1) holds ad m c news (by rw [t5]; exact h1) h2 (by omega) (by omega) (growslice_fits (by omega) (by rw [t6]; exact h5))
        rw [r1] at hr
        injection hr with e1 e2
        subst e1
        intro b hb
        simp [Value.ownBlock] at hb
        right; omega
  rcases hsrc with ⟨ao, c, rfl, rfl⟩ | ⟨b, off, c, vs, rfl, e6, e7, e5, e8⟩
  · have hg : w.grownBy w v.ownBlock := ⟨rfl, rfl, rfl, Nat.le_refl _, fun _ _ _ => rfl⟩
    cases ao with
    | none =>
      refine ⟨v, w, [], ?_, by simpa using hown, hg, .nil, by simp, by simp, hsh v w n xs hown, fun b hb => .inl hb⟩
      obtain ⟨q1, hv⟩ := hown
      rcases hv with ⟨rfl, rfl⟩ | ⟨g, cap, cur, rfl, _, e3, e4, _⟩
      · simp [Builtin.append_, run_underlying t1, run_sizeOf' t4, Builtin.lenOf, Builtin.firstCells]
      · simp [Builtin.append_, run_underlying t1, run_sizeOf' t4, Builtin.lenOf, Builtin.firstCells, e4, storeCells]
    | some ad =>
      obtain ⟨v', w', r1, r2, r3, r4⟩ := hout ad 0 c [] (by simp) (by simp) (by simp) (by simpa using h63) (by simpa using hb)
      exact ⟨v', w', [], r1, r2, r3, .nil, by simp, by simp, hsh v' w' _ _ r2, r4⟩
  · have hlen : vs.length = es.length * esz := by rw [← e6.length, flatten_length e5]
    obtain ⟨v', w', r1, r2, r3, r4⟩ := hout ⟨b, off, none⟩ es.length c vs hlen (fun k x hx => by
      have hc := e8 k x hx
      unfold Addr.add
      split
      · rename_i h0; subst h0; simpa using hc
      · exact hc) e7 h63 hb
    exact ⟨v', w', vs, r1, r2, r3, e6, e7, e5, hsh v' w' _ _ r2, r4⟩

theorem stepOp_wp (hE : ∀ T, TDok P T (E T)) (hC : ∀ f as r, C f as r → FC P f as r) (hH : ∀ f as hp r hp', H f as hp r hp' → FH P f as hp r hp') {plan : List (Nat × Nat)} {o : Oper} {K : St → Prop}
    (h : stepOp E C H plan o K s) (hr : Rel N s a w M F δ) (hd : ∀ i, o.dst = some i → N.Ok i) {Q : Exit → Act → World → Prop} : o.wpIn (FnR ρ) 0 P a w (GoodK N M F K) Q := by
  have hval := fun hh => val_step (ρ := ρ) (K := K) hE hC (o := o) hh hr hd (Q := Q)
  cases hop : o.op <;> simp only [stepOp, hop] at h <;> try exact hval h
  case assign x =>
    have hx := hr.opnd x
    have same : K (s.putO o.dst (opnd s x)) → o.wpIn (FnR ρ) 0 P a w (GoodK N M F K) Q := fun hk =>
      wp_of_run (v := a.eval x) (w' := w) (by simp [execOp, hop]) (.of_rel hk M.le_refl (hr.put hd hx))
    split at h
    · rename_i d e esz eb z hxv hdst htd
      have hT := hE o.type
      rw [htd] at hT
      split at h
      · rename_i g hg
        rw [hxv] at hx
        have hnil := hx.nilsl_inv
        have h1 := hr.newG (w' := w) (v := .slice none 0 0) (o := ⟨e, esz, [], false⟩) (xs := []) (row := none) g ⟨rfl, rfl, rfl, Nat.le_refl _, fun _ _ _ => rfl⟩
          (by intro k hk; cases hk) (by intro b hb; simp [Value.ownBlock] at hb) (World.ownsRow_nil w 0 e esz) (by simp) hT.2.2.2.2.2 .nil (fun _ => .nil) (by simp)
        have h2 := h1.put (d := some d) (p := .os g) (v := .slice none 0 0) (by intro i hi; cases hi; exact hd d hdst) (.os _ _ _ _ (by simp [upd]))
        rw [← hnil, ← hdst] at h2
        exact wp_of_run (v := a.eval x) (w' := w) (by simp [execOp, hop]) (.of_rel (by rw [← putSome, ← hdst] at h; exact h) M.le_refl h2)
      · rw [hdst, putSome, hxv] at same
        exact same h
    · exact same h
  case alloc T =>
    split at h
    · rename_i z d hz hdst
      obtain ⟨i, zv, z1, z2, z3⟩ := zeroTD_run' (hE T) hz
      obtain ⟨hz0, h⟩ := h
      have key : ∀ g, K ((s.newG g ⟨T, z.length, [z], true⟩).put d (.op g z.length 0 0)) → o.wpIn (FnR ρ) 0 P a w (GoodK N M F K) Q := by
        intro g hk
        have h1 := hr.allocG (d := d) (g := g) (hd d hdst) T (cells := zv.cells) (cs := z) (z3.2.1 M).toS hz0 ((z3.2.1 M).toS (δ := δ) |>.leafs z3.2.2)
        refine wp_of_run (v := .pointer (some ⟨w.heap.size, 0, none⟩)) (w' := w.alloc (.cells zv.cells T)) ?_ (.of_rel hk M.le_refl (by rw [hdst]; exact h1))
        have : (zeroValue T).run P w = .ok zv w := run_zeroValue' z1 z2
        simp [execOp, hop, Instr.alloc, this, newVar, newRow]
      split at h
      · exact key _ h
      · exact key _ h
    · exact h.elim
  case box T x =>
    split at h
    · rename_i d hdst
      split at h
      · rename_i g hg
        obtain ⟨⟨h1, h2⟩, hk⟩ := h
        have hc := (hr.opnd x).cells h2
        have hl : (killPs g (opnd s x).cells).length = (opnd s x).cells.length := by rw [killPs_eq, mapOs_length]
        have h3 := hr.allocG (d := d) (g := g) (hd d hdst) T (cells := (a.eval x).cells) (cs := killPs g (opnd s x).cells) (hc.kill (upd_ne _ _ _)) (by rw [hl]; exact h1) (hc.leafs h2)
        rw [hl] at h3
        exact wp_of_run (v := .pointer (some ⟨w.heap.size, 0, none⟩)) (w' := w.alloc (.cells (a.eval x).cells T)) (by simp [execOp, hop, Instr.box, newVar, newRow]) (.of_rel hk M.le_refl (by rw [hdst]; exact h3))
      · exact hval h
    · exact h.elim
  case buildSlice T n ps =>
    split at h
    · rename_i d hdst
      split at h
      · rename_i g hg
        have hT := hE T
        split at h
        · rename_i e esz eb z htd
          rw [htd] at hT
          split at h
          · rename_i es hf
            obtain ⟨⟨h1, h2⟩, hk⟩ := h
            obtain ⟨t1, t2, t3, ⟨j, zv, t4, t5, t6, t7, t8⟩, t9, t10⟩ := hT
            obtain ⟨vs, q1, q2, q3, q4, q5⟩ := fillS_run hr ps.toList (List.replicate n z) _ es (by
              intro c hc
              rw [List.mem_replicate] at hc
              rw [hc.2, t9]) (rep_replicate n (t8.2.1 M).toS) (leafs_replicate n t8.2.2) hf
            have hlen : es.length = n := by simpa using q3
            have hbs := run_buildSlice' (w := w) t1 t4 t5 t7 (by rw [t8.1, t9]) t10 h1 (parts := ps.map fun (i, x) => (i, a.eval x)) (vs := vs) (by simpa using q1)
            have hI := q2.toI h2
            have hvl : vs.length = n * esz := by rw [← q2.length, flatten_length q4, hlen]
            have hnm : n ≤ maxLen := by
              have := Nat.le_mul_of_pos_right n t10
              simp only [maxLen]; omega
            have hown : (w.alloc (.cells vs.toArray e)).ownsRow 0 e esz (.slice (some ⟨w.heap.size, 0, none⟩) n n) n vs :=
              ⟨hvl, .inr ⟨w.heap.size, n, vs.toArray, rfl, Nat.zero_le _, heap_alloc_new w _, Nat.le_refl _, hnm, by simp [hvl], by simp [← hvl]⟩⟩
            subst hlen
            have h3 := hr.newG (w' := w.alloc (.cells vs.toArray e)) (v := .slice (some ⟨w.heap.size, 0, none⟩) es.length es.length) (o := ⟨e, esz, es, false⟩) (xs := vs) (row := none) g
              (World.grownBy_alloc w _ none) (by intro k hk; cases hk) (by intro b hb; simp [Value.ownBlock] at hb; right; omega) hown q4 t10 hI.toS (fun _ => hI) q5
            have h4 := h3.put (d := some d) (p := .os g) (v := .slice (some ⟨w.heap.size, 0, none⟩) es.length es.length) (by intro i hi; cases hi; exact hd d hdst) (.os _ _ _ _ (by simp [upd]))
            exact wp_of_run (by simp only [execOp, hop, Sem.run_bind]; rw [hbs]; rfl) (by rw [hdst]; exact GoodK.of_rel hk M.le_refl h4)
          · exact h.elim
        · exact h.elim
      · exact hval h
    · exact h.elim
  case store T p x =>
    split at h
    · rename_i g sz i f n hp hn
      split at h
      · rename_i ob hg
        split at h
        · exact h.elim
        · rename_i hsz
          split at h
          · rename_i c hc
            obtain ⟨⟨h1, h2, h3, h4⟩, hk⟩ := h
            have hpt := hr.opnd p; rw [hp] at hpt
            obtain ⟨b, n', c', e1, e2⟩ := hpt.op_inv
            have hsize : ∃ j, P.info? T = some j ∧ j.size = n := by
              have hT := hE T
              cases htd : E T <;> rw [htd] at hn hT <;> simp only [sizeTD, Option.some.injEq] at hn <;> try (cases hn; done)
              all_goals subst hn
              case int => exact hT.2.1
              case bool => exact hT.2.1
              case str => exact hT.2.1
              case ptr => exact hT.2.1
              case func => exact hT.2.1
              case slice => exact hT.2.1
              case arr =>
                obtain ⟨e, _, _, _, ⟨i, zv, h1, h2, _⟩, _⟩ := hT
                exact ⟨i, h1, h2⟩
              case struct =>
                obtain ⟨fields, _, _, _, ⟨i, zv, h1, h2, _⟩, _⟩ := hT
                exact ⟨i, h1, h2⟩
            obtain ⟨w', hrun, hinv⟩ := store_run hr (v := a.eval x) hsize hg (by simpa using hsz) hc h1 h2 h3 h4 (hr.opnd x) e1
            have hrel : Rel N ⟨s.vs, s.ts, arep s.hp g { ob with es := ob.es.set i (splice c f (opnd s x).cells) }⟩ a w' M F δ := ⟨hr.def0, hr.size, hr.ro, hr.slot, hinv⟩
            have : (execOp a.eval o).run P w = .ok .skip w' := by
              simp [execOp, hop, e2, Instr.storeAt, Instr.sureAddr, hrun]
            refine wpIn_of_sem (by intro d; simp) this ?_
            exact .of_rel hk M.le_refl (hrel.put hd (.imm _ _ (.tup [] [] .nil)))
          · exact h.elim
      · exact h.elim
    · exact h.elim
  case makeSlice T l c =>
    split at h
    · rename_i e esz eb z k1 l1 k2 c1 d htd hl hc hdst
      have hT := hE T
      rw [htd] at hT
      obtain ⟨t1, t2, t3, ⟨j, zv, t4, t5, t6, t7, t8⟩, t9, t10⟩ := hT
      obtain ⟨⟨h0, rfl, h1, h2⟩, hk⟩ := h
      obtain ⟨n, rfl⟩ := Int.eq_ofNat_of_zero_le h0
      have hl' := hr.opnd l; rw [hl] at hl'
      have hc' := hr.opnd c; rw [hc] at hc'
      obtain ⟨w', r1, r2, r3⟩ := run_make_full (P := P) w 0 T e j zv esz t1 t4 t7 t5 k1 k2 n (by rw [t6]; omega) (by simp only [maxLen]; omega) (Nat.zero_le _)
      have hmc : (madeCells zv.cells (n * esz)).toList = (List.replicate n zv.cells.toList).flatten := by
        have := zero_cells zv.cells esz n (by rw [t8.1, t9]) t10
        unfold madeCells
        rw [this]
      rw [hmc] at r2
      have hI : RepIs M (List.replicate n z).flatten (List.replicate n zv.cells.toList).flatten := repI_replicate n (t8.2.1 M)
      have key : ∀ g, K ((s.newG g ⟨e, esz, List.replicate (n : Int).toNat z, false⟩).put d (.os g)) → o.wpIn (FnR ρ) 0 P a w (GoodK N M F K) Q := by
        intro g hk
        rw [Int.toNat_natCast] at hk
        have h3 := hr.newG (w' := w') (v := .slice (some ⟨w.heap.size, 0, none⟩) n n) (o := ⟨e, esz, List.replicate n z, false⟩) (xs := (List.replicate n zv.cells.toList).flatten) (row := none) g
          r3 (by intro k hk; cases hk) (by intro b hb; simp [Value.ownBlock] at hb; right; omega) (by simpa using r2) (by intro c hc; rw [List.mem_replicate] at hc; rw [hc.2, t9]) t10 hI.toS (fun _ => hI) ((hI.toS (δ := δ)).leafs (leafs_replicate n t8.2.2))
        have h4 := h3.put (d := some d) (p := .os g) (v := .slice (some ⟨w.heap.size, 0, none⟩) n n) (by intro i hi; cases hi; exact hd d hdst) (.os _ _ _ _ (by simp [upd]))
        exact wp_of_run (v := .slice (some ⟨w.heap.size, 0, none⟩) n n) (w' := w') (by simp [execOp, hop, hl'.int_inv, hc'.int_inv, r1]) (by rw [hdst]; exact GoodK.of_rel hk M.le_refl h4)
      exact key _ hk
    · exact h.elim
  case call c =>
    split at h
    · -- append
      rename_i hcal
      split at h
      · rename_i x y T T' d hargs hty hdst
        obtain ⟨rfl, h⟩ := h
        have hT := hE T
        split at h
        · rename_i e esz eb z htd
          rw [htd] at hT
          split at h
          · rename_i new hnew
            have hA : c.args.map a.eval = #[a.eval x, a.eval y] := Array.toList_inj.1 (by simp [hargs])
            have hTy : c.argTypes = #[T, T] := Array.toList_inj.1 (by simp [hty])
            have hrun : ∀ v' w', (Builtin.append_ #[T, T] o.type #[a.eval x, a.eval y]).run P w = .ok v' w' → (execOp a.eval o).run P w = .ok (.value v') w' := by
              intro v' w' h1
              simp only [execOp, hop, resolve, hcal, Sem.run_bind, Sem.run_pure, Result.andThen_ok, invoke, builtin, hA, hTy, h1]
            have hsrc := source_of hr.inv hnew (hr.opnd y)
            have hd' : ∀ i, some d = some i → N.Ok i := fun i hi => hd i (by rw [hdst]; exact hi)
            split at h
            · rename_i g hx
              have hxv := hr.opnd x; rw [hx] at hxv
              split at h
              · rename_i ob hg
                obtain ⟨⟨b1, b2, b3, b4, b5⟩, hk⟩ := h
                obtain ⟨xs, q1, q2, q3, q4, q5, q6, q7⟩ := hr.inv.own g ob hg
                rw [b4, b5] at q1
                obtain ⟨v', w', news, r1, r2, r3, r4, r5, r6, ⟨ao, c', r7⟩, r8⟩ := append_run hT o.type q1 hsrc b2 b1
                have hI : RepIs M (ob.es ++ new).flatten (xs ++ news) := by rw [List.flatten_append]; exact (q5 b3).append r4
                have h3 := hr.newG (w' := w') (v := v') (o := { ob with es := ob.es ++ new }) (xs := xs ++ news) (row := (δ g).ownBlock) g r3 (fun k hk => ⟨⟨ob, hg⟩, hk⟩) r8
                  (by dsimp only; rw [List.length_append, b4, b5]; exact r2) (by
                    intro e he
                    rcases List.mem_append.1 he with he | he
                    · exact q2 e he
                    · exact (r6 e he).trans b5.symm) q3 hI.toS (fun _ => hI) (by
                    intro u hu
                    rcases List.mem_append.1 hu with hu | hu
                    · exact q6 u hu
                    · exact r5 u hu)
                have h4 := h3.put (d := some d) (p := .os g) (v := v') hd' (by rw [r7]; exact .os _ _ _ _ (by simp [upd]))
                rw [← hxv.os_inv] at r1
                exact wp_of_run (hrun _ _ r1) (by rw [hdst]; exact GoodK.of_rel hk M.le_refl h4)
              · exact h.elim
            · rename_i hx
              have hxv := hr.opnd x; rw [hx] at hxv
              have key : ∀ g, (new.length * eb ≤ 140737488355328 ∧ new.length ≤ 9223372036854775807) ∧ K ((s.newG g ⟨e, esz, new, false⟩).put d (.os g)) → o.wpIn (FnR ρ) 0 P a w (GoodK N M F K) Q := by
                rintro g ⟨⟨b1, b2⟩, hk⟩
                obtain ⟨v', w', news, r1, r2, r3, r4, r5, r6, ⟨ao, c', r7⟩, r8⟩ := append_run hT o.type (World.ownsRow_nil w 0 e esz) hsrc (by omega) (by simpa using b1)
                rw [Nat.zero_add] at r2 r7
                rw [List.nil_append] at r2
                have h3 := hr.newG (w' := w') (v := v') (o := ⟨e, esz, new, false⟩) (xs := news) (row := none) g r3 (by intro k hk; cases hk) (fun b hb => by
                  rcases r8 b hb with hh | hh
                  · simp [Value.ownBlock] at hh
                  · exact .inr hh) r2 r6 hT.2.2.2.2.2 r4.toS (fun _ => r4) r5
                have h4 := h3.put (d := some d) (p := .os g) (v := v') hd' (by rw [r7]; exact .os _ _ _ _ (by simp [upd]))
                rw [← hxv.nilsl_inv] at r1
                exact wp_of_run (hrun _ _ r1) (by rw [hdst]; exact GoodK.of_rel hk M.le_refl h4)
              exact key _ h
            · exact h.elim
          · exact h.elim
        · exact h.elim
      · exact h.elim
    · -- a function
      rename_i f hcal
      have handed : ∀ {g : Nat} {first caps : List PV}, opnd s f = .fn (.func g) first caps → CallH H g (first ++ opnds s c.args.toList ++ caps) s o.dst K → o.wpIn (FnR ρ) 0 P a w (GoodK N M F K) Q := by
        intro g first caps hf h
        have hp := hr.opnd f; rw [hf] at hp
        obtain ⟨va, vb, e1, e2, e3⟩ := hp.fn_inv
        have hargs := (e2.append (opnds_rep hr c.args.toList)).append e3
        obtain ⟨h1, h2⟩ := callH_wp hH hd h hr hargs
        have hrun : (execOp a.eval o).run P w = .ok (.enter g (va ++ c.args.toList.map a.eval ++ vb).toArray) w := by
          have : (execOp a.eval o).run P w = (callFunc g (va.toArray ++ c.args.map a.eval ++ vb.toArray)).run P w := by
            simp [execOp, hop, resolve, hcal, e1, Deferred.ofValue, invoke]
          rw [this, h1]
          congr 2
          apply Array.toList_inj.1
          simp
        refine wpIn_of_sem (by intro d; simp) hrun ⟨fun h => (by cases h), (callsIn_of_calls h2).mono ?_⟩
        rintro e w' ⟨v, rfl, k1⟩
        exact k1
      split at h
      · split at h
        · rename_i g first caps hf
          exact handed hf h
        · exact h.elim
      · split at h
        · split at h
          · rename_i g first caps hf
            cases h with
            | val h =>
              refine hval ?_
              simp only [valOp, hop, hcal, hf]
              exact h
            | hnd h => exact handed hf h
          · exact h.elim
        · exact hval h
    · exact hval h
  case slice T x lo hi mx =>
    cases mx with
    | some m => exact hval (by simpa using h)
    | none =>
      simp only at h
      split at h
      · exact hval h
      · split at h
        · rename_i T' e esz eb z g d hE' hx hdst
          have hxv := hr.opnd x; rw [hx] at hxv
          have hT := hE T
          rw [hE'] at hT
          obtain ⟨t1, t2, t3, ⟨j, zv, t4, t5, t6, t7, t8⟩, t9, t10⟩ := hT
          split at h
          · rename_i ob hg
            obtain ⟨l, h, hl⟩ := bound_run hr h
            obtain ⟨hh, ⟨⟨b0, b1, b2⟩, ⟨b3, b4⟩, hk⟩, hh'⟩ := bound_run hr h
            subst b0
            obtain ⟨xs, q1, q2, q3, q4, q5, q6, q7⟩ := hr.inv.own g ob hg
            have hI := q5 b3
            have hxe := hxv.os_inv
            -- the slice that comes out of it
            have key : ∃ (ao : Option Addr) (n c : Nat), δ g = .slice ao n c ∧ n = ob.es.length ∧ n ≤ c ∧ (∀ b, (δ g).ownBlock = some b ↔ (Value.slice ao hh.toNat c).ownBlock = some b) ∧
                ((if c = 0 then ao else ao.map (·.add (0 * esz))) = ao) ∧
                w.ownsRow 0 ob.ty ob.sz (.slice ao hh.toNat c) hh.toNat (xs.take (hh.toNat * ob.sz)) := by
              have hlen : xs.length = ob.es.length * ob.sz := q1.1
              have hle : hh.toNat ≤ ob.es.length := by omega
              have hmul : hh.toNat * ob.sz ≤ ob.es.length * ob.sz := Nat.mul_le_mul_right _ hle
              rcases q1.2 with ⟨e1, e2⟩ | ⟨b, cap, cur, e1, e2, e3, e4, e5, e6, e7⟩
              · have h0 : hh.toNat = 0 := by omega
                refine ⟨none, 0, 0, e1, e2.symm, Nat.le_refl _, fun b => by rw [e1]; simp [Value.ownBlock], by simp, by simp [h0], .inl ⟨by rw [h0], h0⟩⟩
              · refine ⟨some ⟨b, 0, none⟩, ob.es.length, cap, e1, rfl, e4, fun b' => by rw [e1]; simp [Value.ownBlock], ?_, by simp; omega, .inr ⟨b, cap, cur, rfl, e2, e3, by omega, e5, e6, ?_⟩⟩
                · split
                  · rfl
                  · simp [Addr.add]
                · rw [← e7, List.take_take, Nat.min_eq_left hmul]
            obtain ⟨ao, n, c, k1, k2, k3, k4, k5, k6⟩ := key
            have hrun : (Instr.sliceBounds true n c (lo.map a.eval) (hi.map a.eval) none).run P w = .ok (0, hh.toNat, c) w := by
              have h2 : hh ≤ (n : Int) := by rw [k2]; exact b2
              rcases hh' with ⟨rfl, hn⟩ | ⟨y, k, rfl, hy⟩
              · have hn' : hh.toNat = n := by rw [hn, ← k2]; simp
                rcases hl with ⟨rfl, -⟩ | ⟨y', k', rfl, hy'⟩
                · simp [Instr.sliceBounds, hn']
                · simp [Instr.sliceBounds, hn', hy', sliceBound_run k' 0 n _ (by omega) (by omega)]
              · rcases hl with ⟨rfl, -⟩ | ⟨y', k', rfl, hy'⟩
                · simp [Instr.sliceBounds, hy, sliceBound_run k hh c _ b1 (by omega)]
                · simp [Instr.sliceBounds, hy, hy', sliceBound_run k hh c _ (by omega) (by omega), sliceBound_run k' 0 hh.toNat _ (by omega) (by omega)]
            have hfl : (ob.es.take hh.toNat).flatten = ob.es.flatten.take (hh.toNat * ob.sz) := by
              have : ∀ (n : Nat) (es : List (List PV)), (∀ e ∈ es, e.length = ob.sz) → (es.take n).flatten = es.flatten.take (n * ob.sz) := by
                intro n
                induction n with
                | zero => intro es _; simp
                | succ n ih =>
                  intro es he
                  cases es with
                  | nil => simp
                  | cons e es =>
                    have hle := he e (by simp)
                    rw [List.take_succ_cons, List.flatten_cons, List.flatten_cons, ih es (fun e h => he e (by simp [h])), List.take_append, List.take_of_length_le (l := e) (by rw [hle, Nat.succ_mul]; omega), hle, Nat.succ_mul, Nat.add_sub_cancel]
              exact this _ _ q2
            have hlen2 : (ob.es.take hh.toNat).length = hh.toNat := by simp; omega
            have hI2 : RepIs M (ob.es.take hh.toNat).flatten (xs.take (hh.toNat * ob.sz)) := by rw [hfl]; exact hI.take _
            have h3 := hr.newG (w' := w) (v := .slice ao hh.toNat c) (o := ⟨ob.ty, ob.sz, ob.es.take hh.toNat, ob.own⟩) (xs := xs.take (hh.toNat * ob.sz)) (row := (δ g).ownBlock) g
              ⟨rfl, rfl, rfl, Nat.le_refl _, fun _ _ _ => rfl⟩ (fun k hk => ⟨⟨ob, hg⟩, hk⟩) (fun b hb => .inl ((k4 b).2 hb)) (by dsimp only; rw [hlen2]; exact k6)
              (fun e he => q2 e (List.mem_of_mem_take he)) q3 hI2.toS (fun _ => hI2) (fun u hu => q6 u (List.mem_of_mem_take hu))
            have h4 := h3.put (d := some d) (p := .os g) (v := .slice ao hh.toNat c) (fun i hi => hd i (by rw [hdst]; exact hi)) (.os _ _ _ _ (by simp [upd]))
            exact wp_of_run (v := .slice ao hh.toNat c) (w' := w) (by
              have : (if c = 0 then ao else Option.map (fun x => x.add (0 * esz)) ao) = ao := k5
              simp [execOp, hop, hxe, k1, Instr.sliceAt, Instr.slice, run_underlying t1, hrun, run_sizeOf' t4, t5]
              try simpa using this) (by rw [hdst]; exact GoodK.of_rel hk M.le_refl h4)
          · exact h.elim
        · exact h.elim
end
end Go.Proofs.Ytogehfalhodapaa.Pv
namespace Go.Proofs.Ytogehfalhodapaa.Pv
open Go

section
variable {ρ : Option Nat} {P : Program} {E : Env} {C : Ctr} {H : Hnd} {w : World} {N : Cx} {s : St} {a : Act} {M : Mem} {F : Frm} {δ : Nat → Value}

theorem GoodK.mono {K K' : St → Prop} (h : ∀ s, K s → K' s) (hg : GoodK N M F K a w) : GoodK N M F K' a w :=
  let ⟨s, M', δ, h1, h2, h3⟩ := hg
  ⟨s, M', δ, h _ h1, h2, h3⟩
theorem GoodK.le {M' : Mem} {K : St → Prop} (hm : M.le M') (hg : GoodK N M' F K a w) : GoodK N M F K a w :=
  let ⟨s, M2, δ, h1, h2, h3⟩ := hg
  ⟨s, M2, δ, h1, Mem.le_trans hm h2, h3⟩

/-- the slots alone decide -/
def SEq (s s' : St) : Prop := (∀ i, s.get i = s'.get i) ∧ s.hp = s'.hp

theorem Rel.seq {s' : St} (h : Rel N s a w M F δ) (he : SEq s s') : Rel N s' a w M F δ :=
  ⟨h.def0, h.size, h.ro, fun i => by rw [← he.1]; exact h.slot i, by rw [← he.2]; exact h.inv⟩

theorem Rel.fresh (h : Rel N s a w M F δ) : Rel N s.fresh a w M F δ := by
  refine ⟨h.def0, h.size, h.ro, fun i => ?_, h.inv⟩
  have := h.slot i
  unfold St.fresh St.get at *
  simp only [aget]
  cases hv : aget s.vs i with
  | some p => rw [hv] at this; exact this
  | none => exact .imm _ _ (.junk _)

theorem Rel.reput {i : Nat} {p : PV} (h : Rel N s a w M F δ) (hp : RepS M δ p (a.tmps.getD i undef)) : Rel N (s.put i p) a w M F δ := by
  refine ⟨h.def0, h.size, h.ro, fun j => ?_, by rw [St.put_hp]; exact h.inv⟩
  rw [St.get_put]
  split
  · rename_i e; subst e; exact hp
  · exact h.slot j

theorem split_rel {d : Option Nat} {K : St → Prop} (h : splitB d K s) (hr : Rel N s a w M F δ) : ∃ s', K s' ∧ Rel N s' a w M F δ ∧ SEq s' s := by
  unfold splitB at h
  split at h
  · rename_i i
    split at h
    · rename_i c hc
      cases c with
      | true =>
        refine ⟨_, h, hr.reput (by rw [← hc]; exact hr.slot i), fun j => ?_, St.put_hp _ _ _⟩
        rw [St.get_put]; split
        · rename_i e; subst e; exact hc.symm
        · rfl
      | false =>
        refine ⟨_, h, hr.reput (by rw [← hc]; exact hr.slot i), fun j => ?_, St.put_hp _ _ _⟩
        rw [St.get_put]; split
        · rename_i e; subst e; exact hc.symm
        · rfl
    · exact ⟨s, h, hr, fun _ => rfl, rfl⟩
  · exact ⟨s, h, hr, fun _ => rfl, rfl⟩

theorem yielded_of (hr : Rel N s a w M F δ) {ops : Array Oper} {j d : Nat} (hj : opDst ops.toList j = some d) :
    (∀ b, s.get d = .bool b → yielded ops a.tmps j = some b) ∧ (s.get d = .tup [] → yielded ops a.tmps j = none) := by
  unfold opDst at hj
  simp only [Array.getElem?_toList] at hj
  cases ho : ops[j]? with
  | none => rw [ho] at hj; cases hj
  | some o =>
    rw [ho] at hj
    simp only at hj
    constructor
    · intro b hb
      have h1 := hr.slot d
      rw [hb] at h1
      have h2 := h1.bool_inv
      cases ht : a.tmps[d]? with
      | none => rw [Array.getD_eq_getD_getElem?, ht] at h2; simp [undef] at h2
      | some v =>
        rw [Array.getD_eq_getD_getElem?, ht] at h2
        simp only [Option.getD_some] at h2
        subst h2
        simp [yielded, ho, hj, ht]
    · intro hb
      have h1 := hr.slot d
      rw [hb] at h1
      obtain ⟨vs, h2, h3⟩ := h1.tup_inv
      cases h3
      cases ht : a.tmps[d]? with
      | none => simp [yielded, ho, hj, ht]
      | some v =>
        rw [Array.getD_eq_getD_getElem?, ht] at h2
        simp only [Option.getD_some] at h2
        subst h2
        simp [yielded, ho, hj, ht]

theorem guarded_cases {ops : Array Oper} {o : Oper} {K1 K2 : St → Prop} (hr : Rel N s a w M F δ) (h : guarded ops.toList o K1 K2 s) :
    (Region.wanted o (yielded ops a.tmps) = true ∧ K1 s) ∨ (Region.wanted o (yielded ops a.tmps) = false ∧ K2 s) := by
  unfold guarded at h
  split at h
  · rename_i hg
    exact .inl ⟨by simp [Region.wanted, hg], h⟩
  · rename_i j b hg
    split at h
    · rename_i d hd
      obtain ⟨y1, y2⟩ := yielded_of hr hd
      split at h
      · rename_i hb
        have := y1 _ hb
        cases b with
        | true => exact .inl ⟨by simp [Region.wanted, hg, this], h⟩
        | false => exact .inr ⟨by simp [Region.wanted, hg, this], h⟩
      · rename_i hb
        have := y1 _ hb
        cases b with
        | true => exact .inr ⟨by simp [Region.wanted, hg, this], h⟩
        | false => exact .inl ⟨by simp [Region.wanted, hg, this], h⟩
      · rename_i hb
        have := y2 hb
        exact .inr ⟨by simp [Region.wanted, hg, this], h⟩
      · exact h.elim
    · exact h.elim

theorem undef_rep : RepS M δ (.tup []) undef := .imm _ _ (.tup [] [] .nil)

theorem wpr_wp (hE : ∀ T, TDok P T (E T)) (hC : ∀ f as r, C f as r → FC P f as r) (hH : ∀ f as hp r hp', H f as hp r hp' → FH P f as hp r hp') {plan : List (Nat × Nat)} {ops : Array Oper} {gs : List Nat} {K : St → Prop}
    {Q : Exit → Act → World → Prop} : ∀ (l : List Oper) (i : Nat) (s : St) (a : Act) (w : World) (M : Mem) (δ : Nat → Value), (∀ o ∈ l, dstOk N.n N.ro o = true) → wpr E C H plan ops.toList gs i l K s → Rel N s a w M F δ →
      (∀ a w, GoodK N M F K a w → Q .normal a w) → wpListIn (FnR ρ) 0 P ops Q l a w
  | [], i, s, a, w, M, δ, hd, h, hr, hQ => hQ a w ⟨s, M, δ, h, M.le_refl, hr⟩
  | o :: r, i, s, a, w, M, δ, hd, h, hr, hQ => by
    have hdo : ∀ d, o.dst = some d → N.Ok d := by
      intro d hdd
      have := hd o (by simp)
      simp only [dstOk, hdd, Bool.and_eq_true, decide_eq_true_eq, Bool.not_eq_true'] at this
      exact this
    have hdr : ∀ o ∈ r, dstOk N.n N.ro o = true := fun o ho => hd o (by simp [ho])
    simp only [wpr] at h
    unfold wpListIn
    rcases guarded_cases hr h with ⟨hw, h⟩ | ⟨hw, h⟩
    · rw [if_pos hw]
      refine Oper.wpIn_mono ?_ (stepOp_wp hE hC hH h hr hdo)
      rintro a' w' ⟨s', M', δ', hk, hm, hr'⟩
      have hQ' : ∀ a w, GoodK N M' F K a w → Q .normal a w := fun a w hg => hQ a w (hg.le hm)
      split at hk
      · obtain ⟨s2, hk2, hr2, _⟩ := split_rel hk hr'
        exact wpr_wp hE hC hH r (i + 1) s2 a' w' M' δ' hdr hk2 hr2 hQ'
      · exact wpr_wp hE hC hH r (i + 1) s' a' w' M' δ' hdr hk hr' hQ'
    · rw [if_neg (by simp [hw])]
      exact ⟨fun _ _ => trivial, wpr_wp hE hC hH r (i + 1) _ _ w M δ hdr h (hr.put hdo undef_rep) hQ⟩

end
end Go.Proofs.Ytogehfalhodapaa.Pv
namespace Go.Proofs.Ytogehfalhodapaa.Pv
open Go
set_option linter.unusedSimpArgs false
set_option linter.unusedVariables false

section
variable {P : Program} {E : Env} {C : Ctr} {H : Hnd} {w : World} {N : Cx} {s : St} {a : Act} {M : Mem} {F : Frm} {δ : Nat → Value}

/-- in this state the operation yields this value, whatever is asked of it -/
def Yields (E : Env) (C : Ctr) (o : Oper) (s : St) (p : PV) : Prop := ∀ K : PV → Prop, K p → valOp E C o s K

theorem loadVal_split {d : TD} {cs : List PV} {K : PV → Prop} (h : loadVal d cs K) : ∃ p, (∀ K' : PV → Prop, K' p → loadVal d cs K') ∧ K p := by
  unfold loadVal at *
  split at h
  · exact ⟨_, fun K' h' => ⟨h.1, h'⟩, h.2⟩
  · exact ⟨_, fun K' h' => ⟨h.1, h'⟩, h.2⟩
  · exact h.elim
  · unfold headK at *
    split at h
    · rename_i c r
      refine ⟨c, fun K' h' => ?_, h⟩
      cases d <;> first | exact h' | simp_all
    · exact h.elim

theorem binInt_split {op : BinOp} {k : IntKind} {x y : Int} {K : PV → Prop} (h : binInt op k x y K) : ∃ p, (∀ K' : PV → Prop, K' p → binInt op k x y K') ∧ K p := by
  cases op <;> simp only [binInt] at h ⊢ <;> first
    | exact h.elim
    | exact ⟨_, fun K' h' => h', h⟩
    | exact ⟨_, fun K' h' => ⟨h.1, h'⟩, h.2⟩
    | (split at h <;> first | exact ⟨_, fun K' h' => h', h⟩ | exact ⟨_, fun K' h' => ⟨h.1, h'⟩, h.2⟩)

theorem eqOut_split {op : BinOp} {c : Bool} {K : PV → Prop} (h : eqOut op c K) : ∃ p, (∀ K' : PV → Prop, K' p → eqOut op c K') ∧ K p := by
  unfold eqOut at *
  split at h
  · exact ⟨_, fun K' h' => h', h⟩
  · exact ⟨_, fun K' h' => h', h⟩
  · exact h.elim

theorem binVal_split {d : TD} {op : BinOp} {x y : PV} {K : PV → Prop} (h : binVal d op x y K) : ∃ p, (∀ K' : PV → Prop, K' p → binVal d op x y K') ∧ K p := by
  have hs : ∀ {op : BinOp} {k : IntKind} {a b : Int}, shiftInt op k a b K → ∃ p, (∀ K' : PV → Prop, K' p → shiftInt op k a b K') ∧ K p := by
    intro op k a b h
    unfold shiftInt at *
    split at h
    · exact ⟨_, fun K' h' => ⟨h.1, h'⟩, h.2⟩
    · exact ⟨_, fun K' h' => ⟨h.1, h'⟩, h.2⟩
    · exact h.elim
  unfold binVal at *
  split at h
  · split at h
    · exact hs h
    · exact hs h
    · rename_i o1 o2
      obtain ⟨p, h1, h2⟩ := binInt_split h.2
      exact ⟨p, fun K' h' => ⟨h.1, h1 K' h'⟩, h2⟩
  · split at h
    · exact eqOut_split h
    · exact h.elim
  · split at h
    · exact ⟨_, fun K' h' => h', h⟩
    · exact ⟨_, fun K' h' => h', h⟩
    · exact ⟨_, fun K' h' => ⟨h.1, h'⟩, h.2⟩
    · exact h.elim
  · split at h
    · split at h
      · rename_i hl
        split at h
        · rename_i c hc
          obtain ⟨p, h1, h2⟩ := eqOut_split h
          exact ⟨p, fun K' h' => by first | exact h1 K' h' | (simp only [hl, if_true]; exact h1 K' h'), h2⟩
        · exact h.elim
      · exact h.elim
    · exact h.elim
  · split at h
    · rename_i c hc
      obtain ⟨p, h1, h2⟩ := eqOut_split h
      exact ⟨p, fun K' h' => by first | exact h1 K' h' | (simp only [hc]; exact h1 K' h'), h2⟩
    · exact h.elim
  · split at h
    · rename_i c hc
      obtain ⟨p, h1, h2⟩ := eqOut_split h
      exact ⟨p, fun K' h' => by first | exact h1 K' h' | (simp only [hc]; exact h1 K' h'), h2⟩
    · exact h.elim
  · exact h.elim

theorem boundOf_split {x : Option Operand} {d : Int} {K : Int → Prop} (h : boundOf s x d K) : ∃ n, (∀ K' : Int → Prop, K' n → boundOf s x d K') ∧ K n := by
  unfold boundOf at *
  split at h
  · split at h
    · rename_i n hn
      exact ⟨n, fun K' h' => by first | exact h' | (simp only [hn]; exact h'), h⟩
    · exact h.elim
  · exact ⟨d, fun K' h' => h', h⟩

theorem valOp_split {o : Oper} {K : PV → Prop} (h : valOp E C o s K) : ∃ p, Yields E C o s p ∧ K p := by
  unfold Yields
  cases hop : o.op <;> simp only [valOp, hop] at h ⊢ <;> try exact h.elim
  case move x => exact ⟨_, fun K' h' => h', h⟩
  case assign x => exact ⟨_, fun K' h' => h', h⟩
  case pick c x y =>
    split at h
    · exact ⟨_, fun K' h' => h', h⟩
    · exact ⟨_, fun K' h' => h', h⟩
    · exact h.elim
  case box T x => exact ⟨_, fun K' h' => ⟨h.1, h'⟩, h.2⟩
  case build T ps =>
    split at h
    · split at h
      · rename_i cs hf
        exact ⟨_, fun K' h' => by first | exact h' | (simp only [hf]; exact h'), h⟩
      · exact h.elim
    · split at h
      · rename_i cs hf
        exact ⟨_, fun K' h' => by first | exact h' | (simp only [hf]; exact h'), h⟩
      · exact h.elim
    · exact h.elim
  case buildSlice T n ps =>
    split at h
    · split at h
      · rename_i cs hf
        exact ⟨_, fun K' h' => by first | exact ⟨h.1, h'⟩ | (simp only [hf]; exact ⟨h.1, h'⟩), h.2⟩
      · exact h.elim
    · exact h.elim
  case load T x =>
    split at h
    · exact loadVal_split h
    · split at h
      · rename_i ob hg
        split at h
        · rename_i hsz
          split at h
          · rename_i c hc
            obtain ⟨p, h1, h2⟩ := loadVal_split h
            exact ⟨p, fun K' h' => by first | exact h1 K' h' | (simp only [hsz, if_true]; exact h1 K' h'), h2⟩
          · exact h.elim
        · exact h.elim
      · exact h.elim
    · exact h.elim
  case nilCheck x =>
    split at h
    · exact ⟨_, fun K' h' => h', h⟩
    · exact ⟨_, fun K' h' => h', h⟩
    · exact ⟨_, fun K' h' => h', h⟩
    · exact h.elim
  case binOp op xT x y yT => exact binVal_split h
  case unOp op xT x =>
    split at h
    · exact ⟨_, fun K' h' => h', h⟩
    · exact ⟨_, fun K' h' => ⟨h.1, h'⟩, h.2⟩
    · exact h.elim
  case convert S D x =>
    split at h
    · exact ⟨_, fun K' h' => h', h⟩
    · split at h
      · obtain ⟨a1, ns, a2, a3⟩ := h
        exact ⟨_, fun K' h' => ⟨a1, ns, a2, h'⟩, a3⟩
      · exact h.elim
    · exact h.elim
  case makeFunc fn as bs => exact ⟨_, fun K' h' => h', h⟩
  case slice T x lo hi mx =>
    cases mx with
    | some m => exact h.elim
    | none =>
      simp only at h ⊢
      split at h
      · split at h
        · split at h
          · exact h.elim
          · rename_i hsz
            obtain ⟨l, l1, h⟩ := boundOf_split h
            obtain ⟨u, u1, h⟩ := boundOf_split h
            exact ⟨_, fun K' h' => by rw [if_neg hsz]; exact l1 _ (u1 _ ⟨h.1, h'⟩), h.2⟩
        · obtain ⟨l, l1, h⟩ := boundOf_split h
          obtain ⟨u, u1, h⟩ := boundOf_split h
          exact ⟨_, fun K' h' => l1 _ (u1 _ ⟨h.1, h'⟩), h.2⟩
        · exact h.elim
      · exact h.elim
  case fieldAddr S x f =>
    split at h
    · split at h
      · rename_i e1 e2
        exact ⟨_, fun K' h' => by first | exact h' | (simp only [e1, e2]; exact h'), h⟩
      · rename_i e1 e2
        exact ⟨_, fun K' h' => by first | exact h' | (simp only [e1, e2]; exact h'), h⟩
      · exact h.elim
    · exact h.elim
  case field T x f =>
    split at h
    · split at h
      · exact ⟨_, fun K' h' => ⟨h.1, h'⟩, h.2⟩
      · split at h
        · rename_i e1
          exact ⟨_, fun K' h' => by first | exact h' | (simp only [e1]; exact h'), h⟩
        · exact h.elim
      · exact h.elim
    · exact h.elim
  case indexAddr T x i =>
    split at h
    · split at h
      · rename_i hsz
        obtain ⟨c, h1, h2, h3⟩ := h
        exact ⟨_, fun K' h' => by rw [if_pos hsz]; exact ⟨c, h1, h2, h'⟩, h3⟩
      · exact h.elim
    · split at h
      · rename_i ob hg
        split at h
        · rename_i hsz
          exact ⟨_, fun K' h' => by simp only [hsz, if_true]; exact ⟨h.1, by rw [hsz] at *; exact h'⟩, h.2⟩
        · exact h.elim
      · exact h.elim
    · exact ⟨_, fun K' h' => ⟨h.1, h'⟩, h.2⟩
    · exact ⟨_, fun K' h' => ⟨h.1, h'⟩, h.2⟩
    · exact h.elim
  case index T x i =>
    split at h
    · obtain ⟨h1, h⟩ := h
      split at h
      · exact ⟨_, fun K' h' => ⟨h1, h.1, h'⟩, h.2⟩
      · obtain ⟨p, h2, h3⟩ := h
        exact ⟨_, fun K' h' => ⟨h1, p, h2, h'⟩, h3⟩
    · exact h.elim
  case extract t i =>
    split at h
    · split at h
      · rename_i e1
        exact ⟨_, fun K' h' => by first | exact h' | (simp only [e1]; exact h'), h⟩
      · exact h.elim
    · exact h.elim
  case call c =>
    split at h
    · split at h
      · obtain ⟨r, h1, h2, h3, h4⟩ := h
        exact ⟨r, fun K' h' => ⟨r, h1, h2, h3, h'⟩, h4⟩
      · exact h.elim
    · split at h
      · split at h
        · unfold lenVal at *
          split at h
          · exact ⟨_, fun K' h' => h', h⟩
          · exact ⟨_, fun K' h' => h', h⟩
          · split at h
            · rename_i e1
              exact ⟨_, fun K' h' => by first | exact h' | (simp only [e1]; exact h'), h⟩
            · exact h.elim
          · exact h.elim
        · split at h
          · exact ⟨_, fun K' h' => h', h⟩
          · exact h.elim
        · exact h.elim
      · exact h.elim
    · split at h
      · split at h
        · exact ⟨_, fun K' h' => ⟨h.1, h'⟩, h.2⟩
        · exact h.elim
      · exact h.elim
    · exact h.elim

theorem opnd_congr {s' : St} {x : Operand} (h : ∀ t, x = .tmp t → s.get t = s'.get t) : opnd s x = opnd s' x := by
  cases x with
  | tmp t => exact h t rfl
  | _ => rfl

theorem opnds_congr {s' : St} : ∀ {l : List Operand}, (∀ x ∈ l, opnd s x = opnd s' x) → opnds s l = opnds s' l
  | [], _ => rfl
  | x :: r, h => by simp only [opnds]; rw [h x (by simp), opnds_congr (fun y hy => h y (by simp [hy]))]

theorem fillF_congr {s' : St} {fs : List (Nat × Nat × Bool)} : ∀ {l : List (Nat × Operand)} {z : List PV}, (∀ x ∈ l, opnd s x.2 = opnd s' x.2) → fillF s fs l z = fillF s' fs l z
  | [], _, _ => rfl
  | (i, x) :: r, z, h => by
    simp only [fillF]
    rw [h (i, x) (by simp)]
    split
    · split
      · exact fillF_congr (fun y hy => h y (by simp [hy]))
      · rfl
    · rfl
theorem fillA_congr {s' : St} {n esz : Nat} : ∀ {l : List (Nat × Operand)} {z : List PV}, (∀ x ∈ l, opnd s x.2 = opnd s' x.2) → fillA s n esz l z = fillA s' n esz l z
  | [], _, _ => rfl
  | (i, x) :: r, z, h => by
    simp only [fillA]
    rw [h (i, x) (by simp)]
    split
    · split
      · exact fillA_congr (fun y hy => h y (by simp [hy]))
      · rfl
    · rfl
theorem fillS_congr {s' : St} {esz : Nat} : ∀ {l : List (Nat × Operand)} {z : List (List PV)}, (∀ x ∈ l, opnd s x.2 = opnd s' x.2) → fillS s esz l z = fillS s' esz l z
  | [], _, _ => rfl
  | (i, x) :: r, z, h => by
    simp only [fillS]
    rw [h (i, x) (by simp)]
    split
    · split
      · exact fillS_congr (fun y hy => h y (by simp [hy]))
      · rfl
    · rfl
theorem boundOf_congr {s' : St} {x : Option Operand} {d : Int} {K : Int → Prop} (h : ∀ y, x = some y → opnd s y = opnd s' y) : boundOf s x d K = boundOf s' x d K := by
  cases x with
  | none => rfl
  | some y => simp only [boundOf, h y rfl]

/-- an operation looks at nothing but its operands and the objects -/
theorem lenVal_congr {hp hp' : List (Nat × GObj)} (hh : aget hp = aget hp') (p : PV) (K : PV → Prop) : lenVal hp p K = lenVal hp' p K := by
  unfold lenVal
  simp only [hh]
theorem borrow_congr {hp hp' : List (Nat × GObj)} (hh : aget hp = aget hp') (p : PV) : borrow hp p = borrow hp' p := by
  unfold borrow
  simp only [hh]
theorem borrows_congr {hp hp' : List (Nat × GObj)} (hh : aget hp = aget hp') : ∀ l : List PV, borrows hp l = borrows hp' l
  | [] => rfl
  | p :: r => by simp only [borrows, borrow_congr hh, borrows_congr hh r]

theorem valOp_congr {s' : St} {o : Oper} {K : PV → Prop} (h : ∀ x ∈ o.op.operands.toList, opnd s x = opnd s' x) (hh : aget s.hp = aget s'.hp) : valOp E C o s K = valOp E C o s' K := by
  cases hop : o.op <;> simp only [hop, Op.operands, Call.operands] at h <;> simp only [valOp, hop, hh, lenVal_congr hh, borrows_congr hh]
  case move x => rw [h x (by simp)]
  case assign x => rw [h x (by simp)]
  case pick c x y => rw [h c (by simp), h x (by simp), h y (by simp)]
  case box T x => rw [h x (by simp)]
  case build T ps =>
    have hf : ∀ x ∈ ps.toList, opnd s x.2 = opnd s' x.2 := fun x hx => h x.2 (by simp; exact ⟨x.1, by simpa using hx⟩)
    split
    · rw [fillF_congr hf]
    · rw [fillA_congr hf]
    · rfl
  case buildSlice T n ps =>
    have hf : ∀ x ∈ ps.toList, opnd s x.2 = opnd s' x.2 := fun x hx => h x.2 (by simp; exact ⟨x.1, by simpa using hx⟩)
    split
    · rw [fillS_congr hf]
    · rfl
  case load T x => rw [h x (by simp)]
  case nilCheck x => rw [h x (by simp)]
  case binOp op xT x y yT => rw [h x (by simp), h y (by simp)]
  case unOp op xT x => rw [h x (by simp)]
  case convert S D x => rw [h x (by simp)]
  case makeFunc fn as bs => rw [opnds_congr (fun x hx => h x (by simp at hx ⊢; exact .inl hx)), opnds_congr (fun x hx => h x (by simp at hx ⊢; exact .inr hx))]
  case slice T x lo hi mx =>
    cases mx with
    | some m => rfl
    | none =>
      have hb : ∀ (l : Int) (K : Int → Prop), boundOf s lo l K = boundOf s' lo l K := fun l K => boundOf_congr (fun y hy => h y (by subst hy; simp))
      have hb' : ∀ (l : Int) (K : Int → Prop), boundOf s hi l K = boundOf s' hi l K := fun l K => boundOf_congr (fun y hy => h y (by subst hy; simp))
      simp only [hb, hb', h x (by simp)]
  case fieldAddr S x f => rw [h x (by simp)]
  case field T x f => rw [h x (by simp)]
  case indexAddr T x i => rw [h x (by simp), h i (by simp)]
  case index T x i => rw [h x (by simp), h i (by simp)]
  case extract t i => rw [h t (by simp)]
  case call c =>
    have ha : opnds s c.args.toList = opnds s' c.args.toList := opnds_congr (fun x hx => h x (by
      cases hc : c.callee <;> simp [hc, Call.operands] at hx ⊢ <;> simp [hx]))
    have ha' : ∀ x ∈ c.args.toList, opnd s x = opnd s' x := fun x hx => h x (by
      cases hc : c.callee <;> simp [hc, Call.operands] at hx ⊢ <;> simp [hx])
    cases hc : c.callee with
    | invoke r n => rfl
    | value f =>
      have hf : opnd s f = opnd s' f := h f (by simp [hc, Call.operands])
      simp only [hf, ha]
    | builtin b =>
      cases b <;> simp only []
      case len =>
        split
        · rename_i x T h1 h2
          rw [ha' x (by rw [h1]; simp)]
        · rfl
      case min =>
        split
        · rename_i x y h1
          rw [ha' x (by rw [h1]; simp), ha' y (by rw [h1]; simp)]
        · rfl

end
end Go.Proofs.Ytogehfalhodapaa.Pv
