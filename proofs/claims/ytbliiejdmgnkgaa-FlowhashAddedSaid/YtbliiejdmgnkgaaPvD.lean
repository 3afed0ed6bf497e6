/-
  The layer of values: what an evaluator says of a function holds of every run of it. For every program of the model that meets the named conditions.
-/
import Derived.Test.YtbliiejdmgnkgaaPvC
namespace Go.Proofs.Ytbliiejdmgnkgaa.Pv
open Go

def aggD (P : Program) (T : TypeId) (b : Bool) : Prop :=
  ∃ d, P.underlying T = some d ∧ (match d with | .struct _ => true | .array _ _ => true | _ => false) = b

def ZeroOk (zv : Value) (z : List PV) : Prop := zv.cells.size = z.length ∧ (∀ M, RepIs M z zv.cells.toList) ∧ leafs z = true

def one1 (P : Program) (T : TypeId) : Prop := ∃ i, P.info? T = some i ∧ i.size = 1

def TDok (P : Program) (T : TypeId) : TD → Prop
  | .int k => P.underlying T = some (.int k) ∧ one1 P T ∧ ∃ i zv, P.info? T = some i ∧ i.zero = some zv ∧ ZeroOk zv [.int k 0]
  | .bool => P.underlying T = some .bool ∧ one1 P T ∧ ∃ i zv, P.info? T = some i ∧ i.zero = some zv ∧ ZeroOk zv [.bool false]
  | .str => P.underlying T = some .string ∧ one1 P T ∧ ∃ i zv, P.info? T = some i ∧ i.zero = some zv ∧ ZeroOk zv [.str ⟨#[]⟩]
  | .ptr => (∃ u, P.underlying T = some (.pointer u)) ∧ one1 P T ∧ ∃ i zv, P.info? T = some i ∧ i.zero = some zv ∧ ZeroOk zv [.nilptr]
  | .func => (∃ a b c, P.underlying T = some (.func a b c)) ∧ one1 P T ∧ ∃ i zv, P.info? T = some i ∧ i.zero = some zv ∧ ZeroOk zv [.nilfn]
  | .slice e esz eb z => P.underlying T = some (.slice e) ∧ one1 P T ∧ (∃ i zv, P.info? T = some i ∧ i.zero = some zv ∧ ZeroOk zv [.nilsl]) ∧
      (∃ j zv, P.info? e = some j ∧ j.size = esz ∧ j.bytes = eb ∧ j.zero = some zv ∧ ZeroOk zv z) ∧ z.length = esz ∧ 0 < esz
  | .arr n esz ag z => ∃ e, P.underlying T = some (.array n e) ∧ aggD P e ag ∧ (∃ j, P.info? e = some j ∧ j.size = esz) ∧
      (∃ i zv, P.info? T = some i ∧ i.size = z.length ∧ i.zero = some zv ∧ ZeroOk zv z) ∧ n * esz = z.length ∧ (ag = false → esz = 1)
  | .struct fs z cmp => ∃ fields : Array Field, P.underlying T = some (.struct fields) ∧ fs.length = fields.size ∧
      (∀ (k off sz : Nat) (ag : Bool), fs[k]? = some (off, sz, ag) → ∃ f, fields[k]? = some f ∧ f.offset = off ∧ 0 < sz ∧ off + sz ≤ z.length ∧ (∃ j, P.info? f.type = some j ∧ j.size = sz) ∧ aggD P f.type ag ∧ (ag = false → sz = 1)) ∧
      (∃ i zv, P.info? T = some i ∧ i.size = z.length ∧ i.zero = some zv ∧ ZeroOk zv z) ∧
      (cmp = true → P.stoodInHeld T = false ∧ P.eqGuardType P.depth T = false ∧ z.length = fields.size ∧
        ∀ (k : Nat) (f : Field), fields[k]? = some f → f.name ≠ "_" ∧ f.offset = k ∧ (∃ kk, P.underlying f.type = some (.int kk)) ∧ P.stoodInHeld f.type = P.stoodInHeld f.type)
  | .other => True

section
variable {P : Program} {w : World}

theorem run_typeInfo' {t : TypeId} {i : TypeInfo} (h : P.info? t = some i) : (typeInfo t).run P w = .ok i w := by
  simp [typeInfo, h]
theorem run_sizeOf' {t : TypeId} {i : TypeInfo} (h : P.info? t = some i) : (sizeOf t).run P w = .ok i.size w := by
  simp [sizeOf, run_typeInfo' h]
theorem run_isAgg' {t : TypeId} {b : Bool} (h : aggD P t b) : (isAgg t).run P w = .ok b w := by
  obtain ⟨d, h1, h2⟩ := h
  subst h2
  simp only [isAgg, Sem.run_bind, run_underlying h1, Result.andThen_ok]
  cases d <;> rfl
theorem run_zeroValue' {t : TypeId} {i : TypeInfo} {z : Value} (h : P.info? t = some i) (hz : i.zero = some z) : (zeroValue t).run P w = .ok z w := by
  simp [zeroValue, run_typeInfo' h, hz]

theorem run_loadCells' (b off : Nat) (vs : List Value) (n : Nat) (hn : n ≤ vs.length) (h : ∀ i v, vs[i]? = some v → w.cell? ⟨b, off + i, none⟩ = some v) :
    (loadCells ⟨b, off, none⟩ n).run P w = .ok (vs.take n).toArray w := by
  have h' := run_loadCells (P := P) w ⟨b, off, none⟩ n (fun j => vs.getD j undef) (fun j hj => by
    have : vs[j]? = some (vs.getD j undef) := by
      have : j < vs.length := by omega
      simp [List.getD, this]
    have h2 := h j _ this
    unfold Addr.add
    split
    · rename_i h0; subst h0; simpa using h2
    · exact h2)
  rw [h']
  congr 2
  apply List.ext_getElem
  · simp; omega
  · intro i h1 h2
    simp only [List.length_map, List.length_range, List.length_take] at h1 h2
    simp [List.getD, show i < vs.length by omega]

theorem TDok.agg_false {T : TypeId} {d : TD} (h : TDok P T d) (hd : match d with | .struct .. => False | .arr .. => False | .other => False | _ => True) : aggD P T false := by
  cases d <;> simp only [TDok] at h hd
  case int => exact ⟨_, h.1, rfl⟩
  case bool => exact ⟨_, h.1, rfl⟩
  case str => exact ⟨_, h.1, rfl⟩
  case ptr => obtain ⟨⟨u, h⟩, _⟩ := h; exact ⟨_, h, rfl⟩
  case func => obtain ⟨⟨a, b, c, h⟩, _⟩ := h; exact ⟨_, h, rfl⟩
  case slice => exact ⟨_, h.1, rfl⟩

/-- a load out of a row of cells -/
theorem loadVar_run {T : TypeId} {d : TD} (hd : TDok P T d) {M : Mem} {δ : Nat → Value} {cs : List PV} {vs : List Value} {b off : Nat}
    (hr : RepSs M δ cs vs) (hc : ∀ i v, vs[i]? = some v → w.cell? ⟨b, off + i, none⟩ = some v) {K : PV → Prop} (h : loadVal d cs K) :
    ∃ p v, K p ∧ RepS M δ p v ∧ (loadVar T ⟨b, off, none⟩).run P w = .ok v w := by
  have hag : ∀ (z : List PV), aggD P T true → (∃ i, P.info? T = some i ∧ i.size = z.length) → z.length ≤ cs.length → K (.agg (cs.take z.length)) →
      ∃ p v, K p ∧ RepS M δ p v ∧ (loadVar T ⟨b, off, none⟩).run P w = .ok v w := by
    intro z ha ⟨i, hi, hs⟩ hl hk
    refine ⟨_, _, hk, .agg _ _ (hr.take z.length), ?_⟩
    simp only [loadVar, Sem.run_bind, run_isAgg' ha, Result.andThen_ok, if_true, run_sizeOf' hi, hs]
    rw [run_loadCells' b off vs z.length (by rw [← hr.length]; exact hl) hc]
    rfl
  have hone : aggD P T false → headK cs K → ∃ p v, K p ∧ RepS M δ p v ∧ (loadVar T ⟨b, off, none⟩).run P w = .ok v w := by
    intro ha hk
    cases hr with
    | nil => exact hk.elim
    | cons p v ps vs h1 h2 =>
      refine ⟨p, v, hk, h1, ?_⟩
      have := hc 0 v rfl
      simp only [Nat.add_zero] at this
      simp [loadVar, run_isAgg' ha, this]
  cases d with
  | struct fs z _ =>
    obtain ⟨fields, h1, _, _, ⟨i, zv, hi, hs, _⟩, _⟩ := hd
    exact hag z ⟨_, h1, rfl⟩ ⟨i, hi, hs⟩ h.1 h.2
  | arr n esz ag z =>
    obtain ⟨e, h1, _, _, ⟨i, zv, hi, hs, _⟩, _⟩ := hd
    exact hag z ⟨_, h1, rfl⟩ ⟨i, hi, hs⟩ h.1 h.2
  | other => exact h.elim
  | _ => exact hone (hd.agg_false trivial) h

theorem Inv.cell {M : Mem} {F : Frm} {δ : Nat → Value} {hp : List (Nat × GObj)} (h : Inv M F δ hp w) {b : Nat} {cells : Array Value} {T : TypeId} {fr : Nat × Nat} (hb : M b = some (.cells cells T fr)) (i : Nat) :
    w.cell? ⟨b, i, none⟩ = cells[i]? := cell_of_row w b i cells T fr (h.m _ _ hb)

theorem ptr_inv2 {M : Mem} {cs : List PV} {v : Value} (h : RepI M (.ptr cs) v) : ∃ b off cells T fr vs, v = .pointer (some ⟨b, off, none⟩) ∧ M b = some (.cells cells T fr) ∧ RepIs M cs vs ∧
    (∀ v ∈ vs, v.oneCell' = true) ∧ ∀ (i : Nat) (v : Value), vs[i]? = some v → cells[off + i]? = some v := by
  cases h with
  | ptr _ b off cells T fr vs h1 h2 h3 h4 => exact ⟨b, off, cells, T, fr, vs, rfl, h1, h2, h3, h4⟩

theorem sl_inv2 {M : Mem} {sz : Nat} {es : List (List PV)} {v : Value} (h : RepI M (.sl sz es) v) : (∃ ao c, v = .slice ao 0 c ∧ es = []) ∨ ∃ b off c cells T fr vs, v = .slice (some ⟨b, off, none⟩) es.length c ∧
    M b = some (.cells cells T fr) ∧ es.length ≤ c ∧ 0 < sz ∧ (∀ e ∈ es, e.length = sz) ∧ RepIs M es.flatten vs ∧ (∀ v ∈ vs, v.oneCell' = true) ∧ ∀ (i : Nat) (v : Value), vs[i]? = some v → cells[off + i]? = some v := by
  cases h with
  | sl0 _ ao c => exact .inl ⟨ao, c, rfl, rfl⟩
  | sl _ _ b off c cells T fr vs h1 h2 h3 h4 h5 h6 h7 => exact .inr ⟨b, off, c, cells, T, fr, vs, rfl, h1, h2, h3, h4, h5, h6, h7⟩

theorem ptr_cells {M : Mem} {F : Frm} {δ : Nat → Value} {hp : List (Nat × GObj)} (hi : Inv M F δ hp w) {cs : List PV} {v : Value} (h : RepI M (.ptr cs) v) :
    ∃ b off vs, v = .pointer (some ⟨b, off, none⟩) ∧ RepIs M cs vs ∧ (∀ v ∈ vs, v.oneCell' = true) ∧ ∀ i v, vs[i]? = some v → w.cell? ⟨b, off + i, none⟩ = some v := by
  cases h with
  | ptr _ b off cells T fr vs h1 h2 h3 h4 =>
    exact ⟨b, off, vs, rfl, h2, h3, fun i v hv => by rw [hi.cell h1]; exact h4 i v hv⟩

theorem flatten_get {es : List (List PV)} {sz : Nat} (hs : ∀ e ∈ es, e.length = sz) {i : Nat} {c : List PV} (hi : es[i]? = some c) :
    (es.flatten.drop (i * sz)).take sz = c ∧ i * sz + sz ≤ es.flatten.length := by
  induction es generalizing i with
  | nil => simp at hi
  | cons e es ih =>
    have he : e.length = sz := hs e (by simp)
    cases i with
    | zero =>
      simp at hi
      subst hi
      constructor
      · simp [← he]
      · simp [he]
    | succ i =>
      have := ih (fun e h => hs e (by simp [h])) (by simpa using hi)
      constructor
      · have h' : (e ++ es.flatten).drop ((i + 1) * sz) = es.flatten.drop (i * sz) := by
          rw [List.drop_append, List.drop_eq_nil_of_le (by rw [he, Nat.succ_mul]; omega), List.nil_append, he, Nat.succ_mul, Nat.add_sub_cancel]
        rw [List.flatten_cons, h']
        exact this.1
      · simp only [List.flatten_cons, List.length_append, he, Nat.succ_mul]
        omega

/-- the cells of an owned object -/
theorem own_cells {M : Mem} {F : Frm} {δ : Nat → Value} {hp : List (Nat × GObj)} (hi : Inv M F δ hp w) {g : Nat} {o : GObj} (hg : aget hp g = some o) {b n c : Nat}
    (hδ : δ g = .slice (some ⟨b, 0, none⟩) n c) {i : Nat} {e : List PV} (he : o.es[i]? = some e) :
    ∃ vs, RepSs M δ e vs ∧ (∀ v ∈ vs, v.oneCell' = true) ∧ ∀ j v, vs[j]? = some v → w.cell? ⟨b, i * o.sz + j, none⟩ = some v := by
  obtain ⟨xs, h1, h2, h3, h4, h5, h6, h7⟩ := hi.own g o hg
  obtain ⟨h8, h9⟩ := flatten_get h2 he
  refine ⟨(xs.drop (i * o.sz)).take o.sz, ?_, ?_, ?_⟩
  · rw [← h8]; exact (h4.drop _).take _
  · intro v hv
    exact h6 v (List.mem_of_mem_drop (List.mem_of_mem_take hv))
  · intro j v hv
    rw [List.getElem?_take] at hv
    split at hv
    · rw [List.getElem?_drop] at hv
      have := h1.cells (g := b) (by rw [hδ]; rfl) (i * o.sz + j) v hv
      unfold Addr.add at this
      split at this
      · rename_i h0; rw [h0]; exact this
      · simpa using this
    · cases hv
end
end Go.Proofs.Ytbliiejdmgnkgaa.Pv
