/-
  The layer of values: what an evaluator says of a function holds of every run of it. For every program of the model that meets the named conditions.
-/
import Derived.WalkKit
import Derived.KernelRfl
import Derived.Orders
namespace Go.Proofs.Ytbliiejdmgnkgaa.Pv

inductive PV where
  | int (k : IntKind) (n : Int)
  | bool (b : Bool)
  | str (s : ByteArray)
  | nilptr | nilfn | nilsl | junk
  | sl (sz : Nat) (es : List (List PV))
  | ptr (cs : List PV)
  | agg (cs : List PV)
  | tup (cs : List PV)
  | fn (f : Fn) (first caps : List PV)
  | os (g : Nat)
  | op (g sz i f : Nat)

structure GObj where
  ty : TypeId
  sz : Nat
  es : List (List PV)
  own : Bool

structure St where
  vs : List (Nat × PV)
  ts : List (Nat × PV)
  hp : List (Nat × GObj)

abbrev Mem := Nat → Option Obj

mutual
/-- a value that leans on memory that is never written again -/
inductive RepI (M : Mem) : PV → Value → Prop
  | int (k : IntKind) (n : Int) : RepI M (.int k n) (.int k n)
  | bool (b : Bool) : RepI M (.bool b) (.bool b)
  | str (s : ByteArray) : RepI M (.str s) (.string s)
  | nilptr : RepI M .nilptr (.pointer none)
  | nilfn : RepI M .nilfn .nilFunc
  | nilsl : RepI M .nilsl (.slice none 0 0)
  | junk (v : Value) : RepI M .junk v
  | agg (cs : List PV) (vs : List Value) : RepIs M cs vs → RepI M (.agg cs) (.agg vs.toArray)
  | tup (cs : List PV) (vs : List Value) : RepIs M cs vs → RepI M (.tup cs) (.tuple vs.toArray)
  | fn (f : Fn) (as bs : List PV) (va vb : List Value) : RepIs M as va → RepIs M bs vb → RepI M (.fn f as bs) (.func f va.toArray vb.toArray)
  | sl0 (sz : Nat) (ao : Option Addr) (c : Nat) : RepI M (.sl sz []) (.slice ao 0 c)
  | sl (sz : Nat) (es : List (List PV)) (b off c : Nat) (cells : Array Value) (T : TypeId) (fr : Nat × Nat) (vs : List Value) :
      M b = some (.cells cells T fr) → es.length ≤ c → 0 < sz → (∀ e ∈ es, e.length = sz) → RepIs M es.flatten vs → (∀ v ∈ vs, v.oneCell' = true) →
      (∀ i v, vs[i]? = some v → cells[off + i]? = some v) → RepI M (.sl sz es) (.slice (some ⟨b, off, none⟩) es.length c)
  | ptr (cs : List PV) (b off : Nat) (cells : Array Value) (T : TypeId) (fr : Nat × Nat) (vs : List Value) :
      M b = some (.cells cells T fr) → RepIs M cs vs → (∀ v ∈ vs, v.oneCell' = true) →
      (∀ i v, vs[i]? = some v → cells[off + i]? = some v) → RepI M (.ptr cs) (.pointer (some ⟨b, off, none⟩))
inductive RepIs (M : Mem) : List PV → List Value → Prop
  | nil : RepIs M [] []
  | cons (p : PV) (v : Value) (ps : List PV) (vs : List Value) : RepI M p v → RepIs M ps vs → RepIs M (p :: ps) (v :: vs)
end

def Mem.le (M M' : Mem) : Prop := ∀ b o, M b = some o → M' b = some o

theorem Mem.le_refl (M : Mem) : M.le M := fun _ _ h => h
theorem Mem.le_trans {M M' M'' : Mem} (h : M.le M') (h' : M'.le M'') : M.le M'' := fun b o x => h' b o (h b o x)

mutual
theorem RepI.mono {M M' : Mem} (h : M.le M') : ∀ {p : PV} {v : Value}, RepI M p v → RepI M' p v
  | _, _, .int k n => .int k n
  | _, _, .bool b => .bool b
  | _, _, .str s => .str s
  | _, _, .nilptr => .nilptr
  | _, _, .nilfn => .nilfn
  | _, _, .nilsl => .nilsl
  | _, _, .junk v => .junk v
  | _, _, .agg cs vs hh => .agg cs vs (RepIs.mono h hh)
  | _, _, .tup cs vs hh => .tup cs vs (RepIs.mono h hh)
  | _, _, .fn f a b va vb h1 h2 => .fn f a b va vb (RepIs.mono h h1) (RepIs.mono h h2)
  | _, _, .sl0 sz ao c => .sl0 sz ao c
  | _, _, .sl sz es b off c cells T fr vs h1 h2 h3 h4 h5 h6 h7 => .sl sz es b off c cells T fr vs (h _ _ h1) h2 h3 h4 (RepIs.mono h h5) h6 h7
  | _, _, .ptr cs b off cells T fr vs h1 h2 h3 h4 => .ptr cs b off cells T fr vs (h _ _ h1) (RepIs.mono h h2) h3 h4
theorem RepIs.mono {M M' : Mem} (h : M.le M') : ∀ {p : List PV} {v : List Value}, RepIs M p v → RepIs M' p v
  | _, _, .nil => .nil
  | _, _, .cons p v ps vs h1 h2 => .cons p v ps vs (RepI.mono h h1) (RepIs.mono h h2)
end

mutual
/-- a value that may speak of objects of the call's own -/
inductive RepS (M : Mem) (δ : Nat → Value) : PV → Value → Prop
  | imm (p : PV) (v : Value) : RepI M p v → RepS M δ p v
  | os (g : Nat) (ao : Option Addr) (n c : Nat) : δ g = .slice ao n c → RepS M δ (.os g) (.slice ao n c)
  | op (g sz i f b n c : Nat) : δ g = .slice (some ⟨b, 0, none⟩) n c → RepS M δ (.op g sz i f) (.pointer (some ⟨b, i * sz + f, none⟩))
  | agg (cs : List PV) (vs : List Value) : RepSs M δ cs vs → RepS M δ (.agg cs) (.agg vs.toArray)
  | tup (cs : List PV) (vs : List Value) : RepSs M δ cs vs → RepS M δ (.tup cs) (.tuple vs.toArray)
  | fn (f : Fn) (as bs : List PV) (va vb : List Value) : RepSs M δ as va → RepSs M δ bs vb → RepS M δ (.fn f as bs) (.func f va.toArray vb.toArray)
inductive RepSs (M : Mem) (δ : Nat → Value) : List PV → List Value → Prop
  | nil : RepSs M δ [] []
  | cons (p : PV) (v : Value) (ps : List PV) (vs : List Value) : RepS M δ p v → RepSs M δ ps vs → RepSs M δ (p :: ps) (v :: vs)
end

mutual
theorem RepS.mono {M M' : Mem} {δ : Nat → Value} (h : M.le M') : ∀ {p : PV} {v : Value}, RepS M δ p v → RepS M' δ p v
  | _, _, .imm p v hh => .imm p v (hh.mono h)
  | _, _, .os g ao n c hh => .os g ao n c hh
  | _, _, .op g sz i f b n c hh => .op g sz i f b n c hh
  | _, _, .agg cs vs hh => .agg cs vs (RepSs.mono h hh)
  | _, _, .tup cs vs hh => .tup cs vs (RepSs.mono h hh)
  | _, _, .fn f a b va vb h1 h2 => .fn f a b va vb (RepSs.mono h h1) (RepSs.mono h h2)
theorem RepSs.mono {M M' : Mem} {δ : Nat → Value} (h : M.le M') : ∀ {p : List PV} {v : List Value}, RepSs M δ p v → RepSs M' δ p v
  | _, _, .nil => .nil
  | _, _, .cons p v ps vs h1 h2 => .cons p v ps vs (RepS.mono h h1) (RepSs.mono h h2)
end

theorem RepIs.toS {M : Mem} {δ : Nat → Value} : ∀ {ps : List PV} {vs : List Value}, RepIs M ps vs → RepSs M δ ps vs
  | _, _, .nil => .nil
  | _, _, .cons p v ps vs h1 h2 => .cons p v ps vs (.imm p v h1) h2.toS

def aget {α : Type} : List (Nat × α) → Nat → Option α
  | [], _ => none
  | (j, p) :: r, i => if j = i then some p else aget r i

def arep {α : Type} : List (Nat × α) → Nat → α → List (Nat × α)
  | [], _, _ => []
  | (j, p) :: r, i, q => if j = i then (j, q) :: r else (j, p) :: arep r i q

def adel {α : Type} : List (Nat × α) → Nat → List (Nat × α)
  | [], _ => []
  | (j, p) :: r, i => if j = i then adel r i else (j, p) :: adel r i

def St.get (s : St) (i : Nat) : PV :=
  match aget s.vs i with
  | some p => p
  | none => match aget s.ts i with
    | some p => p
    | none => .junk

def St.put (s : St) (i : Nat) (p : PV) : St :=
  match aget s.vs i with
  | some _ => { s with vs := arep s.vs i p }
  | none => { s with ts := (i, p) :: s.ts }

def St.putO (s : St) (d : Option Nat) (p : PV) : St :=
  match d with
  | some i => s.put i p
  | none => s

mutual
def kill (g : Nat) : PV → PV
  | .os g' => if g' = g then .junk else .os g'
  | .op g' sz i f => if g' = g then .junk else .op g' sz i f
  | .agg cs => .agg (killL g cs)
  | .tup cs => .tup (killL g cs)
  | .fn f a b => .fn f (killL g a) (killL g b)
  | p => p
def killL (g : Nat) : List PV → List PV
  | [] => []
  | p :: r => kill g p :: killL g r
end

def killV (g : Nat) : List (Nat × PV) → List (Nat × PV)
  | [] => []
  | (i, p) :: r => (i, kill g p) :: killV g r

def killE (g : Nat) : List (List PV) → List (List PV)
  | [] => []
  | p :: r => killL g p :: killE g r

/-- objects that hold cells which may speak of other objects are told by their type: only those of one element are looked into -/
def killH (g : Nat) : List (Nat × GObj) → List (Nat × GObj)
  | [] => []
  | (i, o) :: r => if i = g then killH g r else (i, { o with es := killE g o.es }) :: killH g r

def St.kill (s : St) (g : Nat) : St := ⟨killV g s.vs, killV g s.ts, killH g s.hp⟩

def PV.cells : PV → List PV
  | .agg cs => cs
  | p => [p]

def splice (l : List PV) (off : Nat) (n : List PV) : List PV := l.take off ++ n ++ l.drop (off + n.length)

/-- what the evaluator knows of a type -/
inductive TD where
  | int (k : IntKind) | bool | str | ptr | func
  | slice (elem : TypeId) (esz ebytes : Nat) (ezero : List PV)
  | arr (n : Nat) (esz : Nat) (eagg : Bool) (zero : List PV)
  | struct (fs : List (Nat × Nat × Bool)) (zero : List PV) (cmp : Bool)
  | other

def ofCell : Value → PV
  | .int k n => .int k n
  | .bool b => .bool b
  | .string s => .str s
  | .slice none 0 0 => .nilsl
  | .pointer none => .nilptr
  | .nilFunc => .nilfn
  | _ => .junk

def ofCells : List Value → List PV
  | [] => []
  | v :: r => ofCell v :: ofCells r

def ofConst : Value → PV
  | .agg cs => .agg (ofCells cs.toList)
  | v => ofCell v

def opnd (s : St) : Operand → PV
  | .tmp i => s.get i
  | .const v => ofConst v
  | .func f => .fn (.func f) [] []
  | .global _ => .junk

theorem ofCell_rep (M : Mem) (v : Value) : RepI M (ofCell v) v := by
  unfold ofCell
  split <;> constructor

theorem ofCells_rep (M : Mem) : ∀ vs : List Value, RepIs M (ofCells vs) vs
  | [] => .nil
  | v :: r => .cons _ _ _ _ (ofCell_rep M v) (ofCells_rep M r)

theorem ofConst_rep (M : Mem) (v : Value) : RepI M (ofConst v) v := by
  unfold ofConst
  split
  · rename_i cs
    have := RepI.agg _ _ (ofCells_rep M cs.toList)
    simpa using this
  · exact ofCell_rep M _

theorem aget_arep {α : Type} (l : List (Nat × α)) (i : Nat) (q : α) (h : aget l i ≠ none) (j : Nat) : aget (arep l i q) j = if i = j then some q else aget l j := by
  induction l with
  | nil => simp [aget] at h
  | cons x r ih =>
    obtain ⟨k, p⟩ := x
    simp only [arep, aget] at *
    by_cases hk : k = i
    · subst hk
      simp only [if_true]
      simp only [aget]
      by_cases hj : k = j <;> simp [hj]
    · rw [if_neg hk] at h ⊢
      simp only [aget]
      by_cases hj : k = j
      · subst hj; simp [Ne.symm hk]
      · simp only [hj, if_false]
        exact ih h

theorem St.get_put (s : St) (i : Nat) (p : PV) (j : Nat) : (s.put i p).get j = if i = j then p else s.get j := by
  unfold St.put St.get
  cases h : aget s.vs i with
  | some q =>
    simp only [aget_arep s.vs i p (by simp [h])]
    by_cases hj : i = j
    · simp [hj]
    · simp [hj]
  | none =>
    simp only [aget]
    by_cases hj : i = j
    · subst hj; simp [h]
    · simp [hj]

theorem St.put_hp (s : St) (i : Nat) (p : PV) : (s.put i p).hp = s.hp := by
  unfold St.put
  split <;> rfl

theorem St.putO_hp (s : St) (i : Option Nat) (p : PV) : (s.putO i p).hp = s.hp := by
  unfold St.putO
  split
  · exact St.put_hp _ _ _
  · rfl

/-- what is the caller's alone: no call touches it -/
structure Frm where
  mem : Nat → Option Obj
  os : Os
  out : Array (Nat × ByteArray)
instance : CoeFun Frm (fun _ => Nat → Option Obj) := ⟨Frm.mem⟩

/-- the memory that a state speaks of -/
structure Inv (M : Mem) (F : Frm) (δ : Nat → Value) (hp : List (Nat × GObj)) (w : World) : Prop where
  m : ∀ b o, M b = some o → w.heap[b]? = some o
  f : ∀ b o, F b = some o → w.heap[b]? = some o
  mf : ∀ b, M b ≠ none → F b = none
  io : w.os = F.os ∧ w.output = F.out
  own : ∀ g o, aget hp g = some o → ∃ xs, w.ownsRow 0 o.ty o.sz (δ g) o.es.length xs ∧ (∀ e ∈ o.es, e.length = o.sz) ∧ 0 < o.sz ∧ RepSs M δ o.es.flatten xs ∧ (o.own = false → RepIs M o.es.flatten xs) ∧
    (∀ v ∈ xs, v.oneCell' = true) ∧ ∀ b, (δ g).ownBlock = some b → M b = none ∧ F b = none
  dis : ∀ g g' o o', g ≠ g' → aget hp g = some o → aget hp g' = some o' → ∀ b, (δ g).ownBlock = some b → (δ g').ownBlock ≠ some b

/-- how many slots there are; which of them are never written, and what they hold -/
structure Cx where
  n : Nat
  ro : List Nat
  val : Nat → Value
  m0 : Mem

/-- the marks of loops over functions among the deferred calls: their blocks are known, and new -/
def DefOk (m0 M : Mem) (ds : List Deferred) : Prop := m0.le M ∧ ds.Nodup ∧ ∀ d ∈ ds, ∃ D, d = { target := .collected D, args := #[] } ∧ M D = some (.deferred (some [])) ∧ m0 D = none
theorem DefOk.mono {m0 M M' : Mem} {ds : List Deferred} (hm : M.le M') (h : DefOk m0 M ds) : DefOk m0 M' ds :=
  ⟨Mem.le_trans h.1 hm, h.2.1, fun d hd => let ⟨D, h1, h2, h3⟩ := h.2.2 d hd; ⟨D, h1, hm D _ h2, h3⟩⟩

def Cx.Ok (N : Cx) (i : Nat) : Prop := i < N.n ∧ N.ro.contains i = false

structure Rel (N : Cx) (s : St) (a : Act) (w : World) (M : Mem) (F : Frm) (δ : Nat → Value) : Prop where
  def0 : DefOk N.m0 M a.defers
  size : a.tmps.size = N.n
  ro : ∀ i, N.ro.contains i = true → a.tmps.getD i undef = N.val i
  slot : ∀ i, RepS M δ (s.get i) (a.tmps.getD i undef)
  inv : Inv M F δ s.hp w

theorem Rel.opnd {N : Cx} {s : St} {a : Act} {w : World} {M : Mem} {F : Frm} {δ : Nat → Value} (h : Rel N s a w M F δ) (x : Operand) : RepS M δ (opnd s x) (a.eval x) := by
  cases x with
  | tmp i => exact h.slot i
  | const v => exact .imm _ _ (ofConst_rep M v)
  | func f => exact .imm _ _ (.fn _ [] [] [] [] .nil .nil)
  | global g => exact .imm _ _ (.junk _)

def GoodK (N : Cx) (M : Mem) (F : Frm) (K : St → Prop) (a : Act) (w : World) : Prop := ∃ s M' δ, K s ∧ M.le M' ∧ Rel N s a w M' F δ

def dstOk (n : Nat) (ro : List Nat) (o : Oper) : Bool := match o.dst with | some d => decide (d < n) && !ro.contains d | none => true

theorem Rel.put {N : Cx} {s : St} {a : Act} {w : World} {M : Mem} {F : Frm} {δ : Nat → Value} {d : Option Nat} {p : PV} {v : Value}
    (h : Rel N s a w M F δ) (hd : ∀ i, d = some i → N.Ok i) (hp : RepS M δ p v) : Rel N (s.putO d p) (a.put d v) w M F δ := by
  cases d with
  | none => exact h
  | some i =>
    have hi := hd i rfl
    refine ⟨by simpa [Act.put] using h.def0, by simpa [Act.put] using h.size, ?_, ?_, by rw [St.putO_hp]; exact h.inv⟩
    · intro j hj
      have hne : i ≠ j := by intro e; subst e; rw [hi.2] at hj; cases hj
      have := h.ro j hj
      simpa [Act.put, Array.getD_eq_getD_getElem?, Array.getElem?_setIfInBounds, hne] using this
    intro j
    simp only [St.putO, St.get_put, Act.put]
    by_cases hj : i = j
    · subst hj
      have : i < a.tmps.size := by rw [h.size]; exact hi.1
      simpa [Array.getD_eq_getD_getElem?, this] using hp
    · simp only [hj, if_false]
      have := h.slot j
      simpa [Array.getD_eq_getD_getElem?, Array.getElem?_setIfInBounds, hj] using this

/-- the same slots, in another memory -/
theorem Rel.world {N : Cx} {s : St} {a : Act} {w w' : World} {M M' : Mem} {F : Frm} {δ : Nat → Value} {hp' : List (Nat × GObj)}
    (h : Rel N s a w M F δ) (hm : M.le M') (hi : Inv M' F δ hp' w') : Rel N { s with hp := hp' } a w' M' F δ :=
  ⟨h.def0.mono hm, h.size, h.ro, fun i => (h.slot i).mono hm, hi⟩

end Go.Proofs.Ytbliiejdmgnkgaa.Pv
