/-
  The layer of values: what an evaluator says of a function holds of every run of it. For every program of the model that meets the named conditions.
-/
import Derived.Test.YtbliiejdmgnkgaaPvB
namespace Go.Proofs.Ytbliiejdmgnkgaa.Pv
open Go

/-! inversions -/
section
variable {M : Mem} {δ : Nat → Value}

theorem RepS.int_inv {k : IntKind} {n : Int} {v : Value} (h : RepS M δ (.int k n) v) : v = .int k n := by
  cases h with | imm _ _ h => cases h; rfl
theorem RepS.bool_inv {b : Bool} {v : Value} (h : RepS M δ (.bool b) v) : v = .bool b := by
  cases h with | imm _ _ h => cases h; rfl
theorem RepS.str_inv {b : ByteArray} {v : Value} (h : RepS M δ (.str b) v) : v = .string b := by
  cases h with | imm _ _ h => cases h; rfl
theorem RepS.nilptr_inv {v : Value} (h : RepS M δ .nilptr v) : v = .pointer none := by
  cases h with | imm _ _ h => cases h; rfl
theorem RepS.nilfn_inv {v : Value} (h : RepS M δ .nilfn v) : v = .nilFunc := by
  cases h with | imm _ _ h => cases h; rfl
theorem RepS.nilsl_inv {v : Value} (h : RepS M δ .nilsl v) : v = .slice none 0 0 := by
  cases h with | imm _ _ h => cases h; rfl
theorem RepS.sl_inv {sz : Nat} {es : List (List PV)} {v : Value} (h : RepS M δ (.sl sz es) v) : RepI M (.sl sz es) v := by
  cases h with | imm _ _ h => exact h
theorem RepS.ptr_inv {cs : List PV} {v : Value} (h : RepS M δ (.ptr cs) v) : RepI M (.ptr cs) v := by
  cases h with | imm _ _ h => exact h
theorem RepS.os_inv {g : Nat} {v : Value} (h : RepS M δ (.os g) v) : v = δ g := by
  cases h with
  | imm _ _ h => cases h
  | os _ _ _ _ h => exact h.symm
theorem RepS.op_inv {g sz i f : Nat} {v : Value} (h : RepS M δ (.op g sz i f) v) : ∃ b n c, δ g = .slice (some ⟨b, 0, none⟩) n c ∧ v = .pointer (some ⟨b, i * sz + f, none⟩) := by
  cases h with
  | imm _ _ h => cases h
  | op _ _ _ _ b n c h => exact ⟨b, n, c, h, rfl⟩
theorem RepS.agg_inv {cs : List PV} {v : Value} (h : RepS M δ (.agg cs) v) : ∃ vs : List Value, v = .agg vs.toArray ∧ RepSs M δ cs vs := by
  cases h with
  | imm _ _ h => cases h with | agg _ vs h => exact ⟨vs, rfl, h.toS⟩
  | agg _ vs h => exact ⟨vs, rfl, h⟩
theorem RepS.tup_inv {cs : List PV} {v : Value} (h : RepS M δ (.tup cs) v) : ∃ vs : List Value, v = .tuple vs.toArray ∧ RepSs M δ cs vs := by
  cases h with
  | imm _ _ h => cases h with | tup _ vs h => exact ⟨vs, rfl, h.toS⟩
  | tup _ vs h => exact ⟨vs, rfl, h⟩
theorem RepS.fn_inv {f : Fn} {a b : List PV} {v : Value} (h : RepS M δ (.fn f a b) v) :
    ∃ va vb : List Value, v = .func f va.toArray vb.toArray ∧ RepSs M δ a va ∧ RepSs M δ b vb := by
  cases h with
  | imm _ _ h => cases h with | fn _ _ _ va vb h h' => exact ⟨va, vb, rfl, h.toS, h'.toS⟩
  | fn _ _ _ va vb h h' => exact ⟨va, vb, rfl, h, h'⟩

theorem RepSs.length {ps : List PV} {vs : List Value} : RepSs M δ ps vs → ps.length = vs.length
  | .nil => rfl
  | .cons _ _ _ _ _ h => by simp [RepSs.length h]
theorem RepIs.length {ps : List PV} {vs : List Value} : RepIs M ps vs → ps.length = vs.length
  | .nil => rfl
  | .cons _ _ _ _ _ h => by simp [RepIs.length h]
theorem RepSs.get {ps : List PV} {vs : List Value} : RepSs M δ ps vs → ∀ (i : Nat) (p : PV), ps[i]? = some p → ∃ v, vs[i]? = some v ∧ RepS M δ p v
  | .nil, i, p, h => by simp at h
  | .cons q v _ _ h1 h2, 0, p, h => by simp at h; subst h; exact ⟨v, rfl, h1⟩
  | .cons q v _ _ h1 h2, i + 1, p, h => by simpa using RepSs.get h2 i p (by simpa using h)
theorem RepIs.get {ps : List PV} {vs : List Value} : RepIs M ps vs → ∀ (i : Nat) (p : PV), ps[i]? = some p → ∃ v, vs[i]? = some v ∧ RepI M p v
  | .nil, i, p, h => by simp at h
  | .cons q v _ _ h1 h2, 0, p, h => by simp at h; subst h; exact ⟨v, rfl, h1⟩
  | .cons q v _ _ h1 h2, i + 1, p, h => by simpa using RepIs.get h2 i p (by simpa using h)
theorem RepSs.drop {ps : List PV} {vs : List Value} (n : Nat) (h : RepSs M δ ps vs) : RepSs M δ (ps.drop n) (vs.drop n) := by
  induction n generalizing ps vs with
  | zero => simpa using h
  | succ n ih => cases h with
    | nil => simp; exact .nil
    | cons p v ps vs h1 h2 => simpa using ih h2
theorem RepSs.take {ps : List PV} {vs : List Value} (n : Nat) (h : RepSs M δ ps vs) : RepSs M δ (ps.take n) (vs.take n) := by
  induction n generalizing ps vs with
  | zero => simp; exact .nil
  | succ n ih => cases h with
    | nil => simp; exact .nil
    | cons p v ps vs h1 h2 => simpa using .cons _ _ _ _ h1 (ih h2)
theorem RepIs.drop {ps : List PV} {vs : List Value} (n : Nat) (h : RepIs M ps vs) : RepIs M (ps.drop n) (vs.drop n) := by
  induction n generalizing ps vs with
  | zero => simpa using h
  | succ n ih => cases h with
    | nil => simp; exact .nil
    | cons p v ps vs h1 h2 => simpa using ih h2
theorem RepIs.take {ps : List PV} {vs : List Value} (n : Nat) (h : RepIs M ps vs) : RepIs M (ps.take n) (vs.take n) := by
  induction n generalizing ps vs with
  | zero => simp; exact .nil
  | succ n ih => cases h with
    | nil => simp; exact .nil
    | cons p v ps vs h1 h2 => simpa using .cons _ _ _ _ h1 (ih h2)
theorem RepSs.append {ps qs : List PV} {vs ws : List Value} : RepSs M δ ps vs → RepSs M δ qs ws → RepSs M δ (ps ++ qs) (vs ++ ws)
  | .nil, h => h
  | .cons p v ps vs h1 h2, h => .cons p v _ _ h1 (RepSs.append h2 h)
theorem RepIs.append {ps qs : List PV} {vs ws : List Value} : RepIs M ps vs → RepIs M qs ws → RepIs M (ps ++ qs) (vs ++ ws)
  | .nil, h => h
  | .cons p v ps vs h1 h2, h => .cons p v _ _ h1 (RepIs.append h2 h)
theorem RepSs.splice {ps qs : List PV} {vs ws : List Value} (n : Nat) (h : RepSs M δ ps vs) (h' : RepSs M δ qs ws) :
    RepSs M δ (splice ps n qs) (vs.take n ++ ws ++ vs.drop (n + ws.length)) := by
  unfold Pv.splice
  rw [h'.length]
  exact ((h.take n).append h').append (h.drop _)
theorem RepIs.splice {ps qs : List PV} {vs ws : List Value} (n : Nat) (h : RepIs M ps vs) (h' : RepIs M qs ws) :
    RepIs M (splice ps n qs) (vs.take n ++ ws ++ vs.drop (n + ws.length)) := by
  unfold Pv.splice
  rw [h'.length]
  exact ((h.take n).append h').append (h.drop _)

mutual
theorem RepS.toI : ∀ {p : PV} {v : Value}, RepS M δ p v → isImm p = true → RepI M p v
  | _, _, .imm _ _ h, _ => h
  | _, _, .os .., h => by simp [isImm] at h
  | _, _, .op .., h => by simp [isImm] at h
  | _, _, .agg cs vs hh, h => .agg cs vs (RepSs.toI hh (by simpa [isImm] using h))
  | _, _, .tup cs vs hh, h => .tup cs vs (RepSs.toI hh (by simpa [isImm] using h))
  | _, _, .fn f a b va vb h1 h2, h => .fn f a b va vb (RepSs.toI h1 (by simp [isImm] at h; exact h.1)) (RepSs.toI h2 (by simp [isImm] at h; exact h.2))
theorem RepSs.toI : ∀ {p : List PV} {v : List Value}, RepSs M δ p v → isImms p = true → RepIs M p v
  | _, _, .nil, _ => .nil
  | _, _, .cons p v ps vs h1 h2, h => .cons p v ps vs (RepS.toI h1 (by simp [isImms] at h; exact h.1)) (RepSs.toI h2 (by simp [isImms] at h; exact h.2))
end

mutual
theorem RepI.ofScalar {M' : Mem} : ∀ {p : PV} {v : Value}, RepI M p v → scalar p = true → RepI M' p v
  | _, _, .int k n, _ => .int k n
  | _, _, .bool b, _ => .bool b
  | _, _, .str s, _ => .str s
  | _, _, .agg cs vs hh, h => .agg cs vs (RepIs.ofScalar hh (by simpa [scalar] using h))
  | _, _, .tup cs vs hh, h => .tup cs vs (RepIs.ofScalar hh (by simpa [scalar] using h))
  | _, _, .nilptr, h => by simp [scalar] at h
  | _, _, .nilfn, h => by simp [scalar] at h
  | _, _, .nilsl, h => by simp [scalar] at h
  | _, _, .junk _, h => by simp [scalar] at h
  | _, _, .fn .., h => by simp [scalar] at h
  | _, _, .sl0 .., h => by simp [scalar] at h
  | _, _, .sl .., h => by simp [scalar] at h
  | _, _, .ptr .., h => by simp [scalar] at h
theorem RepIs.ofScalar {M' : Mem} : ∀ {p : List PV} {v : List Value}, RepIs M p v → scalars p = true → RepIs M' p v
  | _, _, .nil, _ => .nil
  | _, _, .cons p v ps vs h1 h2, h => .cons p v ps vs (RepI.ofScalar h1 (by simp [scalars] at h; exact h.1)) (RepIs.ofScalar h2 (by simp [scalars] at h; exact h.2))
end

theorem RepS.leaf {p : PV} {v : Value} (h : RepS M δ p v) (hl : leaf p = true) : v.oneCell' = true ∧ v.cells = #[v] := by
  cases p with
  | agg cs => simp [Pv.leaf] at hl
  | junk => simp [Pv.leaf] at hl
  | tup cs => simp [Pv.leaf] at hl
  | int k n => obtain rfl := h.int_inv; exact ⟨rfl, rfl⟩
  | bool b => obtain rfl := h.bool_inv; exact ⟨rfl, rfl⟩
  | str b => obtain rfl := h.str_inv; exact ⟨rfl, rfl⟩
  | nilptr => obtain rfl := h.nilptr_inv; exact ⟨rfl, rfl⟩
  | nilfn => obtain rfl := h.nilfn_inv; exact ⟨rfl, rfl⟩
  | nilsl => obtain rfl := h.nilsl_inv; exact ⟨rfl, rfl⟩
  | sl sz es => have h' := h.sl_inv; cases h' <;> exact ⟨rfl, rfl⟩
  | ptr cs => have h' := h.ptr_inv; cases h'; exact ⟨rfl, rfl⟩
  | fn f a b => obtain ⟨va, vb, rfl, _, _⟩ := h.fn_inv; exact ⟨rfl, rfl⟩
  | os g => cases h with
    | imm _ _ h => cases h
    | os => exact ⟨rfl, rfl⟩
  | op g sz i f => obtain ⟨b, n, c, _, rfl⟩ := h.op_inv; exact ⟨rfl, rfl⟩

theorem RepSs.leafs {ps : List PV} {vs : List Value} : RepSs M δ ps vs → leafs ps = true → ∀ v ∈ vs, v.oneCell' = true
  | .nil, _, v, hv => by simp at hv
  | .cons p u ps vs h1 h2, h, v, hv => by
    simp [Pv.leafs] at h
    rcases List.mem_cons.1 hv with rfl | hv
    · exact (h1.leaf h.1).1
    · exact RepSs.leafs h2 h.2 v hv

/-- the cells of a value -/
theorem RepS.cells {p : PV} {v : Value} (h : RepS M δ p v) (hl : leafs p.cells = true) : RepSs M δ p.cells v.cells.toList := by
  cases p with
  | agg cs => obtain ⟨vs, rfl, h'⟩ := h.agg_inv; simpa [PV.cells, Value.cells] using h'
  | junk => simp [PV.cells, Pv.leafs, Pv.leaf] at hl
  | tup cs => simp [PV.cells, Pv.leafs, Pv.leaf] at hl
  | _ => rw [(h.leaf rfl).2]; exact .cons _ _ _ _ h .nil
end

theorem RepS.os_inv' {M : Mem} {δ : Nat → Value} {g : Nat} {v : Value} (h : RepS M δ (.os g) v) : v = δ g ∧ ∃ ao n c, v = .slice ao n c := by
  cases h with
  | imm _ _ h => cases h
  | os _ ao n c h => exact ⟨h.symm, ao, n, c, rfl⟩
end Go.Proofs.Ytbliiejdmgnkgaa.Pv
