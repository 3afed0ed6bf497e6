/-
  The layer of values: what an evaluator says of a function holds of every run of it. For every program of the model that meets the named conditions.
-/
import Derived.Test.YtbliiejdmgnkgaaPvP
namespace Go.Proofs.Ytbliiejdmgnkgaa.Pv
open Go
set_option linter.unusedSimpArgs false
set_option linter.unusedVariables false

def kindEq (a b : IntKind) : Bool := decide (a = b)

/-- the zero value of a type, cell by cell -/
def zeroEq : List Value → List PV → Bool
  | [], [] => true
  | .int k n :: r, .int k' n' :: r' => kindEq k k' && decide (n = n') && zeroEq r r'
  | .bool b :: r, .bool b' :: r' => b == b' && zeroEq r r'
  | .string s :: r, .str s' :: r' => s.data.toList.isEmpty && s'.data.toList.isEmpty && zeroEq r r'
  | .slice none 0 0 :: r, .nilsl :: r' => zeroEq r r'
  | .pointer none :: r, .nilptr :: r' => zeroEq r r'
  | .nilFunc :: r, .nilfn :: r' => zeroEq r r'
  | _, _ => false

def isAggD (P : Program) (T : TypeId) : Option Bool :=
  match P.underlying T with
  | some (.struct _) => some true
  | some (.array _ _) => some true
  | some _ => some false
  | none => none

def zeroAt (P : Program) (T : TypeId) (size : Nat) (z : List PV) : Bool :=
  match P.info? T with
  | some i => i.size == size && match i.zero with
    | some zv => zeroEq zv.cells.toList z
    | none => false
  | none => false

def fieldsCheck (P : Program) (zl : Nat) : List Field → List (Nat × Nat × Bool) → Bool
  | [], [] => true
  | f :: fs, (off, sz, ag) :: r => f.offset == off && decide (0 < sz) && decide (off + sz ≤ zl) && (match P.info? f.type with | some j => j.size == sz | none => false) && (isAggD P f.type == some ag) && (ag || sz == 1) && fieldsCheck P zl fs r
  | _, _ => false

def cmpCheck (P : Program) : Nat → List Field → Bool
  | _, [] => true
  | k, f :: fs => decide (f.name ≠ "_") && f.offset == k && (match P.underlying f.type with | some (.int _) => true | _ => false) && cmpCheck P (k + 1) fs

def tdCheck (P : Program) (T : TypeId) (d : TD) : Bool :=
  match d with
  | .int k => (match P.underlying T with | some (.int k') => kindEq k k' | _ => false) && zeroAt P T 1 [.int k 0]
  | .bool => (match P.underlying T with | some .bool => true | _ => false) && zeroAt P T 1 [.bool false]
  | .str => (match P.underlying T with | some .string => true | _ => false) && zeroAt P T 1 [.str ⟨#[]⟩]
  | .ptr => (match P.underlying T with | some (.pointer _) => true | _ => false) && zeroAt P T 1 [.nilptr]
  | .func => (match P.underlying T with | some (.func _ _ _) => true | _ => false) && zeroAt P T 1 [.nilfn]
  | .slice e esz eb z => (match P.underlying T with | some (.slice e') => e == e' | _ => false) && zeroAt P T 1 [.nilsl] && zeroAt P e esz z && z.length == esz && decide (0 < esz) && (match P.info? e with | some j => j.bytes == eb | none => false) && leafs z
  | .arr n esz ag z => (match P.underlying T with | some (.array n' e) => n == n' && isAggD P e == some ag && (match P.info? e with | some j => j.size == esz | none => false) | _ => false) && zeroAt P T z.length z && n * esz == z.length && (ag || esz == 1) && leafs z
  | .struct fs z cmp => (match P.underlying T with | some (.struct fields) => fieldsCheck P z.length fields.toList fs && (!cmp || (!P.stoodInHeld T && !P.eqGuardType P.depth T && z.length == fields.size && cmpCheck P 0 fields.toList)) | _ => false) && zeroAt P T z.length z && leafs z
  | .other => true

section
variable {P : Program}

theorem zeroEq_ok (M : Mem) : ∀ (vs : List Value) (z : List PV), zeroEq vs z = true → RepIs M z vs
  | [], [], _ => .nil
  | .int k n :: r, .int k' n' :: r', h => by
    simp only [zeroEq, kindEq, Bool.and_eq_true, decide_eq_true_eq] at h
    obtain ⟨⟨rfl, rfl⟩, h⟩ := h
    exact .cons _ _ _ _ (.int _ _) (zeroEq_ok M r r' h)
  | .bool b :: r, .bool b' :: r', h => by
    simp only [zeroEq, Bool.and_eq_true, beq_iff_eq] at h
    obtain ⟨rfl, h⟩ := h
    exact .cons _ _ _ _ (.bool _) (zeroEq_ok M r r' h)
  | .string s :: r, .str s' :: r', h => by
    simp only [zeroEq, Bool.and_eq_true, List.isEmpty_iff] at h
    obtain ⟨⟨h1, h2⟩, h⟩ := h
    have e1 : s = ⟨#[]⟩ := by cases s; congr 1; exact Array.toList_inj.1 h1
    have e2 : s' = ⟨#[]⟩ := by cases s'; congr 1; exact Array.toList_inj.1 h2
    subst e1; subst e2
    exact .cons _ _ _ _ (.str _) (zeroEq_ok M r r' h)
  | .slice none 0 0 :: r, .nilsl :: r', h => .cons _ _ _ _ .nilsl (zeroEq_ok M r r' h)
  | .pointer none :: r, .nilptr :: r', h => .cons _ _ _ _ .nilptr (zeroEq_ok M r r' h)
  | .nilFunc :: r, .nilfn :: r', h => .cons _ _ _ _ .nilfn (zeroEq_ok M r r' h)
  | .slice none (n + 1) c :: r, .nilsl :: r', h => by simp [zeroEq] at h
  | .slice none 0 (c + 1) :: r, .nilsl :: r', h => by simp [zeroEq] at h
  | .slice (some _) n c :: r, q :: r', h => by cases q <;> simp [zeroEq] at h
  | .pointer (some _) :: r, q :: r', h => by cases q <;> simp [zeroEq] at h
  | [], q :: r', h => by simp [zeroEq] at h
  | v :: r, [], h => by cases v <;> simp [zeroEq] at h
  | .float .. :: r, q :: r', h => by cases q <;> simp [zeroEq] at h
  | .complex .. :: r, q :: r', h => by cases q <;> simp [zeroEq] at h
  | .map .. :: r, q :: r', h => by cases q <;> simp [zeroEq] at h
  | .chan .. :: r, q :: r', h => by cases q <;> simp [zeroEq] at h
  | .func .. :: r, q :: r', h => by cases q <;> simp [zeroEq] at h
  | .iface .. :: r, q :: r', h => by cases q <;> simp [zeroEq] at h
  | .nilIface :: r, q :: r', h => by cases q <;> simp [zeroEq] at h
  | .agg .. :: r, q :: r', h => by cases q <;> simp [zeroEq] at h
  | .tuple .. :: r, q :: r', h => by cases q <;> simp [zeroEq] at h
  | .int k n :: r, q :: r', h => by
    cases q <;> first | (simp [zeroEq] at h; done) | skip
    simp only [zeroEq, kindEq, Bool.and_eq_true, decide_eq_true_eq] at h
    obtain ⟨⟨rfl, rfl⟩, h⟩ := h
    exact .cons _ _ _ _ (.int _ _) (zeroEq_ok M r r' h)
  | .bool b :: r, q :: r', h => by
    cases q <;> first | (simp [zeroEq] at h; done) | skip
    simp only [zeroEq, Bool.and_eq_true, beq_iff_eq] at h
    obtain ⟨rfl, h⟩ := h
    exact .cons _ _ _ _ (.bool _) (zeroEq_ok M r r' h)
  | .string s :: r, q :: r', h => by
    cases q <;> first | (simp [zeroEq] at h; done) | skip
    simp only [zeroEq, Bool.and_eq_true, List.isEmpty_iff] at h
    rename_i s'
    obtain ⟨⟨h1, h2⟩, h⟩ := h
    have e1 : s = ⟨#[]⟩ := by cases s; congr 1; exact Array.toList_inj.1 h1
    have e2 : s' = ⟨#[]⟩ := by cases s'; congr 1; exact Array.toList_inj.1 h2
    subst e1; subst e2
    exact .cons _ _ _ _ (.str _) (zeroEq_ok M r r' h)
  | .slice none n c :: r, q :: r', h => by
    cases q <;> first | (simp [zeroEq] at h; done) | skip
    cases n <;> cases c <;> first | (simp [zeroEq] at h; done) | exact .cons _ _ _ _ .nilsl (zeroEq_ok M r r' h)
  | .pointer none :: r, q :: r', h => by
    cases q <;> first | (simp [zeroEq] at h; done) | exact .cons _ _ _ _ .nilptr (zeroEq_ok M r r' h)
  | .nilFunc :: r, q :: r', h => by
    cases q <;> first | (simp [zeroEq] at h; done) | exact .cons _ _ _ _ .nilfn (zeroEq_ok M r r' h)

theorem zeroAt_ok {T : TypeId} {size : Nat} {z : List PV} (h : zeroAt P T size z = true) (hl : leafs z = true) : ∃ i zv, P.info? T = some i ∧ i.size = size ∧ i.zero = some zv ∧ ZeroOk zv z := by
  unfold zeroAt at h
  split at h
  · rename_i i hi
    simp only [Bool.and_eq_true, beq_iff_eq] at h
    obtain ⟨h1, h2⟩ := h
    split at h2
    · rename_i zv hz
      refine ⟨i, zv, hi, h1, hz, ?_, fun M => zeroEq_ok M _ _ h2, hl⟩
      have := (zeroEq_ok (fun _ => none) _ _ h2).length
      simpa using this.symm
    · cases h2
  · cases h

theorem aggD_ok {T : TypeId} {b : Bool} (h : (isAggD P T == some b) = true) : aggD P T b := by
  have h : isAggD P T = some b := by simpa using h
  unfold isAggD at h
  split at h
  · rename_i hu; exact ⟨_, hu, by simpa using h⟩
  · rename_i hu; exact ⟨_, hu, by simpa using h⟩
  · rename_i d h1 h2 hu
    refine ⟨_, hu, ?_⟩
    cases d <;> first | (simpa using h) | simp_all
  · cases h

theorem fields_ok {zl : Nat} : ∀ (fl : List Field) (fs : List (Nat × Nat × Bool)), fieldsCheck P zl fl fs = true → fs.length = fl.length ∧
    ∀ (k off sz : Nat) (ag : Bool), fs[k]? = some (off, sz, ag) → ∃ f, fl[k]? = some f ∧ f.offset = off ∧ 0 < sz ∧ off + sz ≤ zl ∧ (∃ j, P.info? f.type = some j ∧ j.size = sz) ∧ aggD P f.type ag ∧ (ag = false → sz = 1)
  | [], [], _ => ⟨rfl, by intro k off sz ag h; simp at h⟩
  | [], _ :: _, h => by simp [fieldsCheck] at h
  | _ :: _, [], h => by simp [fieldsCheck] at h
  | f :: fl, (off, sz, ag) :: fs, h => by
    simp only [fieldsCheck, Bool.and_eq_true, beq_iff_eq, decide_eq_true_eq, Bool.or_eq_true] at h
    obtain ⟨⟨⟨⟨⟨⟨h1, h2⟩, h3⟩, h4⟩, h5⟩, h6⟩, h7⟩ := h
    obtain ⟨i1, i2⟩ := fields_ok fl fs h7
    refine ⟨by simp [i1], ?_⟩
    intro k off' sz' ag' hk
    cases k with
    | succ k => exact i2 k off' sz' ag' (by simpa using hk)
    | zero =>
      simp only [List.getElem?_cons_zero, Option.some.injEq, Prod.mk.injEq] at hk
      obtain ⟨rfl, rfl, rfl⟩ := hk
      refine ⟨f, rfl, h1, h2, h3, ?_, aggD_ok (by simp [h5]), ?_⟩
      · split at h4
        · rename_i j hj; exact ⟨j, hj, by simpa using h4⟩
        · cases h4
      · intro hf
        rcases h6 with h6 | h6
        · rw [hf] at h6; cases h6
        · exact h6

theorem cmp_ok : ∀ (fl : List Field) (n : Nat), cmpCheck P n fl = true → ∀ (k : Nat) (f : Field), fl[k]? = some f → f.name ≠ "_" ∧ f.offset = n + k ∧ ∃ kk, P.underlying f.type = some (.int kk)
  | [], _, _, k, f, h => by simp at h
  | g :: fl, n, h, k, f, hk => by
    simp only [cmpCheck, Bool.and_eq_true, beq_iff_eq, decide_eq_true_eq] at h
    obtain ⟨⟨⟨h1, h2⟩, h3⟩, h4⟩ := h
    cases k with
    | zero =>
      simp at hk; subst hk
      refine ⟨h1, h2, ?_⟩
      split at h3
      · rename_i kk hu; exact ⟨kk, hu⟩
      · cases h3
    | succ k =>
      obtain ⟨e1, e2, e3⟩ := cmp_ok fl (n + 1) h4 k f (by simpa using hk)
      exact ⟨e1, by omega, e3⟩

theorem tdCheck_ok {T : TypeId} {d : TD} (h : tdCheck P T d = true) : TDok P T d := by
  have z1 : ∀ {z : List PV}, zeroAt P T 1 z = true → leafs z = true → one1 P T ∧ ∃ i zv, P.info? T = some i ∧ i.zero = some zv ∧ ZeroOk zv z := by
    intro z h hl
    obtain ⟨i, zv, h1, h2, h3, h4⟩ := zeroAt_ok h hl
    exact ⟨⟨i, h1, h2⟩, i, zv, h1, h3, h4⟩
  cases d <;> simp only [tdCheck, Bool.and_eq_true] at h <;> simp only [TDok]
  case int k =>
    obtain ⟨h1, h2⟩ := h
    split at h1
    · rename_i k' hu
      have : k = k' := by simpa [kindEq] using h1
      subst this
      exact ⟨hu, z1 h2 rfl⟩
    · cases h1
  case bool =>
    obtain ⟨h1, h2⟩ := h
    split at h1
    · rename_i hu; exact ⟨hu, z1 h2 rfl⟩
    · cases h1
  case str =>
    obtain ⟨h1, h2⟩ := h
    split at h1
    · rename_i hu; exact ⟨hu, z1 h2 rfl⟩
    · cases h1
  case ptr =>
    obtain ⟨h1, h2⟩ := h
    split at h1
    · rename_i hu; exact ⟨⟨_, hu⟩, z1 h2 rfl⟩
    · cases h1
  case func =>
    obtain ⟨h1, h2⟩ := h
    split at h1
    · rename_i hu; exact ⟨⟨_, _, _, hu⟩, z1 h2 rfl⟩
    · cases h1
  case slice e esz eb z =>
    obtain ⟨⟨⟨⟨⟨⟨h1, h2⟩, h3⟩, h4⟩, h5⟩, h6⟩, h7⟩ := h
    split at h1
    · rename_i e' hu
      have : e = e' := by simpa using h1
      subst this
      obtain ⟨o1, o2⟩ := z1 h2 rfl
      obtain ⟨j, zv, j1, j2, j3, j4⟩ := zeroAt_ok h3 h7
      rw [j1] at h6
      exact ⟨hu, o1, o2, ⟨j, zv, j1, j2, by simpa using h6, j3, j4⟩, by simpa using h4, by simpa using h5⟩
    · cases h1
  case arr n esz ag z =>
    obtain ⟨⟨⟨⟨h1, h2⟩, h3⟩, h4⟩, h5⟩ := h
    split at h1
    · rename_i n' e hu
      simp only [Bool.and_eq_true] at h1
      obtain ⟨⟨a1, a2⟩, a3⟩ := h1
      have : n = n' := by simpa using a1
      subst this
      obtain ⟨i, zv, i1, i2, i3, i4⟩ := zeroAt_ok h2 h5
      refine ⟨e, hu, aggD_ok a2, ?_, ⟨i, zv, i1, i2, i3, i4⟩, by simpa using h3, ?_⟩
      · split at a3
        · rename_i j hj; exact ⟨j, hj, by simpa using a3⟩
        · cases a3
      · intro hf
        subst hf
        simpa using h4
    · cases h1
  case struct fs z cmp =>
    obtain ⟨⟨h1, h2⟩, h3⟩ := h
    split at h1
    · rename_i fields hu
      simp only [Bool.and_eq_true] at h1
      obtain ⟨a1, a2⟩ := h1
      obtain ⟨i, zv, i1, i2, i3, i4⟩ := zeroAt_ok h2 h3
      obtain ⟨f1, f2⟩ := fields_ok _ _ a1
      refine ⟨fields, hu, by simpa using f1, fun k off sz ag hk => ?_, ⟨i, zv, i1, i2, i3, i4⟩, fun hc => ?_⟩
      · obtain ⟨f, g1, g2⟩ := f2 k off sz ag hk
        exact ⟨f, by simpa using g1, g2⟩
      · subst hc
        simp only [Bool.not_true, Bool.false_or, Bool.and_eq_true, Bool.not_eq_true', beq_iff_eq] at a2
        obtain ⟨⟨⟨c1, c2⟩, c3⟩, c4⟩ := a2
        refine ⟨c1, c2, c3, fun k f hk => ?_⟩
        obtain ⟨e1, e2, e3⟩ := cmp_ok _ 0 c4 k f (by simpa using hk)
        exact ⟨e1, by omega, e3, trivial⟩
    · cases h1

theorem tenv_ok (l : List (Nat × TD)) (h : (l.all fun x => tdCheck P x.1 x.2) = true) : ∀ T, TDok P T (match aget l T with | some d => d | none => .other) := by
  intro T
  cases hg : aget l T with
  | none => trivial
  | some d =>
    have : ∀ (l : List (Nat × TD)), aget l T = some d → (T, d) ∈ l := by
      intro l
      induction l with
      | nil => intro h; simp [aget] at h
      | cons x r ih =>
        obtain ⟨j, e⟩ := x
        intro h
        simp only [aget] at h
        split at h
        · rename_i e1; subst e1; cases h; simp
        · exact List.mem_cons_of_mem _ (ih h)
    rw [List.all_eq_true] at h
    exact tdCheck_ok (h _ (this l hg))

end
end Go.Proofs.Ytbliiejdmgnkgaa.Pv
