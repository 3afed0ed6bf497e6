/-
  The layer of values: what an evaluator says of a function holds of every run of it. For every program of the model that meets the named conditions.
-/
import Derived.Test.YtbliiejdmgnkgaaPvF
namespace Go.Proofs.Ytbliiejdmgnkgaa.Pv
open Go

section
variable {P : Program} {w : World} {N : Cx} {s : St} {a : Act} {M : Mem} {F : Frm} {δ : Nat → Value}

theorem fillF_run {fields : Array Field} {fs : List (Nat × Nat × Bool)} {zl : Nat}
    (hf : ∀ (k off sz : Nat) (ag : Bool), fs[k]? = some (off, sz, ag) → ∃ f, fields[k]? = some f ∧ f.offset = off ∧ 0 < sz ∧ off + sz ≤ zl ∧ (∃ j, P.info? f.type = some j ∧ j.size = sz) ∧ aggD P f.type ag ∧ (ag = false → sz = 1))
    (place : Nat → Option (Nat × Nat)) (hpl : ∀ (k off sz : Nat) (ag : Bool), fs[k]? = some (off, sz, ag) → place k = some (off, sz))
    (hr : Rel N s a w M F δ) : ∀ (ps : List (Nat × Operand)) (z : List PV) (zv : List Value) (cs : List PV), z.length = zl → RepSs M δ z zv → fillF s fs ps z = some cs →
      ∃ vs : List Value, Instr.fill place zv.toArray (ps.map fun x => (x.1, a.eval x.2)) = some vs.toArray ∧ RepSs M δ cs vs
  | [], z, zv, cs, hz, hrep, h => by
    simp only [fillF, Option.some.injEq] at h
    subst h
    exact ⟨zv, rfl, hrep⟩
  | (i, x) :: r, z, zv, cs, hz, hrep, h => by
    simp only [fillF] at h
    split at h
    · rename_i off sz ag hk
      split at h
      · rename_i hc
        obtain ⟨f, h1, h2, h3, h4, _⟩ := hf i off sz ag hk
        have hx := (hr.opnd x).cells hc.2
        have hsz : (a.eval x).cells.size = sz := by have := hx.length; rw [hc.1] at this; simpa using this.symm
        have hl : off + sz ≤ zv.toArray.size := by simp [← hrep.length, hz, h4]
        rw [List.map_cons, fill_append zv.toArray i (a.eval x) _ off sz (hpl i off sz ag hk) hsz hl]
        refine fillF_run hf place hpl hr r _ _ cs ?_ (hrep.splice off hx) h
        unfold splice
        simp only [List.length_append, List.length_take, List.length_drop, hc.1, hz]
        omega
      · cases h
    · cases h

theorem fillA_run {n esz zl : Nat} (hz0 : n * esz = zl)
    (hr : Rel N s a w M F δ) : ∀ (ps : List (Nat × Operand)) (z : List PV) (zv : List Value) (cs : List PV), z.length = zl → RepSs M δ z zv → fillA s n esz ps z = some cs →
      ∃ vs : List Value, Instr.fill (fun i => some (i * esz, esz)) zv.toArray (ps.map fun x => (x.1, a.eval x.2)) = some vs.toArray ∧ RepSs M δ cs vs
  | [], z, zv, cs, hz, hrep, h => by
    simp only [fillA, Option.some.injEq] at h
    subst h
    exact ⟨zv, rfl, hrep⟩
  | (i, x) :: r, z, zv, cs, hz, hrep, h => by
    simp only [fillA] at h
    split at h
    · rename_i hi
      split at h
      · rename_i hc
        have hx := (hr.opnd x).cells hc.2
        have hsz : (a.eval x).cells.size = esz := by have := hx.length; rw [hc.1] at this; simpa using this.symm
        have h4 : i * esz + esz ≤ zl := by
          rw [← hz0, ← Nat.succ_mul]; exact Nat.mul_le_mul_right _ hi
        have hl : i * esz + esz ≤ zv.toArray.size := by simp [← hrep.length, hz, h4]
        rw [List.map_cons, fill_append zv.toArray i (a.eval x) _ (i * esz) esz rfl hsz hl]
        refine fillA_run hz0 hr r _ _ cs ?_ (hrep.splice _ hx) h
        unfold splice
        simp only [List.length_append, List.length_take, List.length_drop, hc.1, hz]
        omega
      · cases h
    · cases h

theorem flatten_set {es : List (List PV)} {sz : Nat} (hs : ∀ e ∈ es, e.length = sz) {i : Nat} (hi : i < es.length) {c : List PV} (hc : c.length = sz) :
    (es.set i c).flatten = splice es.flatten (i * sz) c := by
  induction es generalizing i with
  | nil => simp at hi
  | cons e es ih =>
    have he : e.length = sz := hs e (by simp)
    cases i with
    | zero =>
      unfold splice
      simp [hc, ← he]
    | succ i =>
      have := ih (fun e h => hs e (by simp [h])) (i := i) (by simpa using hi)
      unfold splice at *
      have e1 : (e ++ es.flatten).take ((i + 1) * sz) = e ++ es.flatten.take (i * sz) := by
        rw [List.take_append, List.take_of_length_le (by rw [he, Nat.succ_mul]; omega), he, Nat.succ_mul, Nat.add_sub_cancel]
      have e2 : (e ++ es.flatten).drop ((i + 1) * sz + c.length) = es.flatten.drop (i * sz + c.length) := by
        rw [List.drop_append, List.drop_eq_nil_of_le (by rw [he, Nat.succ_mul]; omega), List.nil_append, he, Nat.succ_mul]
        congr 1
        omega
      rw [List.set_cons_succ, List.flatten_cons, this, List.flatten_cons, e1, e2]
      simp

theorem fillS_run {esz : Nat} (hr : Rel N s a w M F δ) : ∀ (ps : List (Nat × Operand)) (z : List (List PV)) (zv : List Value) (es : List (List PV)), (∀ e ∈ z, e.length = esz) →
      RepSs M δ z.flatten zv → leafs z.flatten = true → fillS s esz ps z = some es →
      ∃ vs : List Value, Instr.fill (fun i => some (i * esz, esz)) zv.toArray (ps.map fun x => (x.1, a.eval x.2)) = some vs.toArray ∧ RepSs M δ es.flatten vs ∧ es.length = z.length ∧ (∀ e ∈ es, e.length = esz) ∧
        (∀ v ∈ vs, v.oneCell' = true)
  | [], z, zv, es, hz, hrep, hlf, h => by
    simp only [fillS, Option.some.injEq] at h
    subst h
    exact ⟨zv, rfl, hrep, rfl, hz, hrep.leafs hlf⟩
  | (i, x) :: r, z, zv, es, hz, hrep, hlf, h => by
    simp only [fillS] at h
    split at h
    · rename_i hi
      split at h
      · rename_i hc
        have hx := (hr.opnd x).cells hc.2
        have hsz : (a.eval x).cells.size = esz := by have := hx.length; rw [hc.1] at this; simpa using this.symm
        obtain ⟨_, h4⟩ := flatten_get hz (i := i) (c := z[i]) (by simp [hi])
        have hl : i * esz + esz ≤ zv.toArray.size := by simpa [← hrep.length] using h4
        rw [List.map_cons, fill_append zv.toArray i (a.eval x) _ (i * esz) esz rfl hsz hl]
        have hfl := flatten_set hz hi hc.1
        have hrep' := hrep.splice (i * esz) hx
        rw [← hfl] at hrep'
        obtain ⟨vs, q1, q2, q3, q4, q5⟩ := fillS_run hr r (z.set i (opnd s x).cells) _ es (by
          intro e he
          rcases List.mem_or_eq_of_mem_set he with h' | rfl
          · exact hz e h'
          · exact hc.1) hrep' (by
            rw [hfl]
            have lapp : ∀ l l' : List PV, leafs (l ++ l') = (leafs l && leafs l') := by
              intro l l'
              induction l with
              | nil => simp [leafs]
              | cons p l ih => simp [leafs, ih, Bool.and_assoc]
            have ltk : ∀ (n : Nat) (l : List PV), leafs l = true → leafs (l.take n) = true ∧ leafs (l.drop n) = true := by
              intro n l hl
              have := lapp (l.take n) (l.drop n)
              rw [List.take_append_drop, hl] at this
              simpa using this.symm
            unfold splice
            rw [lapp, lapp, (ltk _ _ hlf).1, (ltk _ _ hlf).2, hc.2]
            rfl) h
        exact ⟨vs, q1, q2, by simpa using q3, q4, q5⟩
      · cases h
    · cases h

theorem bound_run {x : Option Operand} {d : Int} {K : Int → Prop} (hr : Rel N s a w M F δ) (h : boundOf s x d K) :
    ∃ n, K n ∧ ((x = none ∧ n = d) ∨ ∃ y k, x = some y ∧ a.eval y = .int k n) := by
  cases x with
  | none => exact ⟨d, h, .inl ⟨rfl, rfl⟩⟩
  | some y =>
    simp only [boundOf] at h
    split at h
    · rename_i k n hy
      have := hr.opnd y
      rw [hy] at this
      exact ⟨n, h, .inr ⟨y, k, rfl, this.int_inv⟩⟩
    · exact h.elim

theorem sliceBound_run (k : IntKind) (n : Int) (m : Nat) (code : BoundsCode) (h0 : 0 ≤ n) (h1 : n ≤ m) : (Instr.sliceBound (.int k n) m code).run P w = .ok n.toNat w := by
  simp [Instr.sliceBound, asIntOf, h0, h1]

end
end Go.Proofs.Ytbliiejdmgnkgaa.Pv
