/-
  The layer of values: what an evaluator says of a function holds of every run of it. For every program of the model that meets the named conditions.
-/
import Derived.Test.YtbliiejdmgnkgaaPvM
import Derived.Deep.LoopGhost
namespace Go.Proofs.Ytbliiejdmgnkgaa.Pv
open Go
set_option linter.unusedSimpArgs false
set_option linter.unusedVariables false

section
variable {P : Program} {E : Env} {C : Ctr} {H : Hnd} {w : World} {N : Cx} {s : St} {a : Act} {M : Mem} {F : Frm} {δ : Nat → Value}

/-- in this state the operation yields this value, whatever is asked of it -/
def Yields (E : Env) (C : Ctr) (o : Oper) (s : St) (p : PV) : Prop := ∀ K : PV → Prop, K p → valOp E C o s K

theorem loadVal_split {d : TD} {cs : List PV} {K : PV → Prop} (h : loadVal d cs K) : ∃ p, (∀ K' : PV → Prop, K' p → loadVal d cs K') ∧ K p := by
  unfold loadVal at *
  split at h
  · exact ⟨_, fun K' h' => ⟨h.1, h'⟩, h.2⟩
  · exact ⟨_, fun K' h' => ⟨h.1, h'⟩, h.2⟩
  · exact h.elim
  · unfold headK at *
    split at h
    · rename_i c r
      refine ⟨c, fun K' h' => ?_, h⟩
      cases d <;> first | exact h' | simp_all
    · exact h.elim

theorem binInt_split {op : BinOp} {k : IntKind} {x y : Int} {K : PV → Prop} (h : binInt op k x y K) : ∃ p, (∀ K' : PV → Prop, K' p → binInt op k x y K') ∧ K p := by
  cases op <;> simp only [binInt] at h ⊢ <;> first
    | exact h.elim
    | exact ⟨_, fun K' h' => h', h⟩
    | exact ⟨_, fun K' h' => ⟨h.1, h'⟩, h.2⟩
    | (split at h <;> first | exact ⟨_, fun K' h' => h', h⟩ | exact ⟨_, fun K' h' => ⟨h.1, h'⟩, h.2⟩)

theorem eqOut_split {op : BinOp} {c : Bool} {K : PV → Prop} (h : eqOut op c K) : ∃ p, (∀ K' : PV → Prop, K' p → eqOut op c K') ∧ K p := by
  unfold eqOut at *
  split at h
  · exact ⟨_, fun K' h' => h', h⟩
  · exact ⟨_, fun K' h' => h', h⟩
  · exact h.elim

theorem binVal_split {d : TD} {op : BinOp} {x y : PV} {K : PV → Prop} (h : binVal d op x y K) : ∃ p, (∀ K' : PV → Prop, K' p → binVal d op x y K') ∧ K p := by
  have hs : ∀ {op : BinOp} {k : IntKind} {a b : Int}, shiftInt op k a b K → ∃ p, (∀ K' : PV → Prop, K' p → shiftInt op k a b K') ∧ K p := by
    intro op k a b h
    unfold shiftInt at *
    split at h
    · exact ⟨_, fun K' h' => ⟨h.1, h'⟩, h.2⟩
    · exact ⟨_, fun K' h' => ⟨h.1, h'⟩, h.2⟩
    · exact h.elim
  unfold binVal at *
  split at h
  · split at h
    · exact hs h
    · exact hs h
    · rename_i o1 o2
      obtain ⟨p, h1, h2⟩ := binInt_split h.2
      exact ⟨p, fun K' h' => ⟨h.1, h1 K' h'⟩, h2⟩
  · split at h
    · exact eqOut_split h
    · exact h.elim
  · split at h
    · exact ⟨_, fun K' h' => h', h⟩
    · exact ⟨_, fun K' h' => h', h⟩
    · exact ⟨_, fun K' h' => ⟨h.1, h'⟩, h.2⟩
    · exact h.elim
  · split at h
    · split at h
      · rename_i hl
        split at h
        · rename_i c hc
          obtain ⟨p, h1, h2⟩ := eqOut_split h
          exact ⟨p, fun K' h' => by first | exact h1 K' h' | (simp only [hl, if_true]; exact h1 K' h'), h2⟩
        · exact h.elim
      · exact h.elim
    · exact h.elim
  · split at h
    · rename_i c hc
      obtain ⟨p, h1, h2⟩ := eqOut_split h
      exact ⟨p, fun K' h' => by first | exact h1 K' h' | (simp only [hc]; exact h1 K' h'), h2⟩
    · exact h.elim
  · split at h
    · rename_i c hc
      obtain ⟨p, h1, h2⟩ := eqOut_split h
      exact ⟨p, fun K' h' => by first | exact h1 K' h' | (simp only [hc]; exact h1 K' h'), h2⟩
    · exact h.elim
  · exact h.elim

theorem boundOf_split {x : Option Operand} {d : Int} {K : Int → Prop} (h : boundOf s x d K) : ∃ n, (∀ K' : Int → Prop, K' n → boundOf s x d K') ∧ K n := by
  unfold boundOf at *
  split at h
  · split at h
    · rename_i n hn
      exact ⟨n, fun K' h' => by first | exact h' | (simp only [hn]; exact h'), h⟩
    · exact h.elim
  · exact ⟨d, fun K' h' => h', h⟩

theorem valOp_split {o : Oper} {K : PV → Prop} (h : valOp E C o s K) : ∃ p, Yields E C o s p ∧ K p := by
  unfold Yields
  cases hop : o.op <;> simp only [valOp, hop] at h ⊢ <;> try exact h.elim
  case move x => exact ⟨_, fun K' h' => h', h⟩
  case assign x => exact ⟨_, fun K' h' => h', h⟩
  case pick c x y =>
    split at h
    · exact ⟨_, fun K' h' => h', h⟩
    · exact ⟨_, fun K' h' => h', h⟩
    · exact h.elim
  case box T x => exact ⟨_, fun K' h' => ⟨h.1, h'⟩, h.2⟩
  case build T ps =>
    split at h
    · split at h
      · rename_i cs hf
        exact ⟨_, fun K' h' => by first | exact h' | (simp only [hf]; exact h'), h⟩
      · exact h.elim
    · split at h
      · rename_i cs hf
        exact ⟨_, fun K' h' => by first | exact h' | (simp only [hf]; exact h'), h⟩
      · exact h.elim
    · exact h.elim
  case buildSlice T n ps =>
    split at h
    · split at h
      · rename_i cs hf
        exact ⟨_, fun K' h' => by first | exact ⟨h.1, h'⟩ | (simp only [hf]; exact ⟨h.1, h'⟩), h.2⟩
      · exact h.elim
    · exact h.elim
  case load T x =>
    split at h
    · exact loadVal_split h
    · split at h
      · rename_i ob hg
        split at h
        · rename_i hsz
          split at h
          · rename_i c hc
            obtain ⟨p, h1, h2⟩ := loadVal_split h
            exact ⟨p, fun K' h' => by first | exact h1 K' h' | (simp only [hsz, if_true]; exact h1 K' h'), h2⟩
          · exact h.elim
        · exact h.elim
      · exact h.elim
    · exact h.elim
  case nilCheck x =>
    split at h
    · exact ⟨_, fun K' h' => h', h⟩
    · exact ⟨_, fun K' h' => h', h⟩
    · exact ⟨_, fun K' h' => h', h⟩
    · exact h.elim
  case binOp op xT x y yT => exact binVal_split h
  case unOp op xT x =>
    split at h
    · exact ⟨_, fun K' h' => h', h⟩
    · exact ⟨_, fun K' h' => ⟨h.1, h'⟩, h.2⟩
    · exact h.elim
  case convert S D x =>
    split at h
    · exact ⟨_, fun K' h' => h', h⟩
    · exact h.elim
  case makeFunc fn as bs => exact ⟨_, fun K' h' => h', h⟩
  case slice T x lo hi mx =>
    cases mx with
    | some m => exact h.elim
    | none =>
      simp only at h ⊢
      split at h
      · split at h
        · split at h
          · exact h.elim
          · rename_i hsz
            obtain ⟨l, l1, h⟩ := boundOf_split h
            obtain ⟨u, u1, h⟩ := boundOf_split h
            exact ⟨_, fun K' h' => by rw [if_neg hsz]; exact l1 _ (u1 _ ⟨h.1, h'⟩), h.2⟩
        · obtain ⟨l, l1, h⟩ := boundOf_split h
          obtain ⟨u, u1, h⟩ := boundOf_split h
          exact ⟨_, fun K' h' => l1 _ (u1 _ ⟨h.1, h'⟩), h.2⟩
        · exact h.elim
      · exact h.elim
  case fieldAddr S x f =>
    split at h
    · split at h
      · rename_i e1 e2
        exact ⟨_, fun K' h' => by first | exact h' | (simp only [e1, e2]; exact h'), h⟩
      · rename_i e1 e2
        exact ⟨_, fun K' h' => by first | exact h' | (simp only [e1, e2]; exact h'), h⟩
      · exact h.elim
    · exact h.elim
  case field T x f =>
    split at h
    · split at h
      · exact ⟨_, fun K' h' => ⟨h.1, h'⟩, h.2⟩
      · split at h
        · rename_i e1
          exact ⟨_, fun K' h' => by first | exact h' | (simp only [e1]; exact h'), h⟩
        · exact h.elim
      · exact h.elim
    · exact h.elim
  case indexAddr T x i =>
    split at h
    · split at h
      · rename_i hsz
        obtain ⟨c, h1, h2, h3⟩ := h
        exact ⟨_, fun K' h' => by rw [if_pos hsz]; exact ⟨c, h1, h2, h'⟩, h3⟩
      · exact h.elim
    · split at h
      · rename_i ob hg
        split at h
        · rename_i hsz
          exact ⟨_, fun K' h' => by simp only [hsz, if_true]; exact ⟨h.1, by rw [hsz] at *; exact h'⟩, h.2⟩
        · exact h.elim
      · exact h.elim
    · exact ⟨_, fun K' h' => ⟨h.1, h'⟩, h.2⟩
    · exact ⟨_, fun K' h' => ⟨h.1, h'⟩, h.2⟩
    · exact h.elim
  case index T x i =>
    split at h
    · obtain ⟨h1, h⟩ := h
      split at h
      · exact ⟨_, fun K' h' => ⟨h1, h.1, h'⟩, h.2⟩
      · obtain ⟨p, h2, h3⟩ := h
        exact ⟨_, fun K' h' => ⟨h1, p, h2, h'⟩, h3⟩
    · exact h.elim
  case extract t i =>
    split at h
    · split at h
      · rename_i e1
        exact ⟨_, fun K' h' => by first | exact h' | (simp only [e1]; exact h'), h⟩
      · exact h.elim
    · exact h.elim
  case call c =>
    split at h
    · split at h
      · obtain ⟨r, h1, h2, h3, h4⟩ := h
        exact ⟨r, fun K' h' => ⟨r, h1, h2, h3, h'⟩, h4⟩
      · exact h.elim
    · split at h
      · split at h
        · unfold lenVal at *
          split at h
          · exact ⟨_, fun K' h' => h', h⟩
          · exact ⟨_, fun K' h' => h', h⟩
          · split at h
            · rename_i e1
              exact ⟨_, fun K' h' => by first | exact h' | (simp only [e1]; exact h'), h⟩
            · exact h.elim
          · exact h.elim
        · split at h
          · exact ⟨_, fun K' h' => h', h⟩
          · exact h.elim
        · exact h.elim
      · exact h.elim
    · split at h
      · split at h
        · exact ⟨_, fun K' h' => ⟨h.1, h'⟩, h.2⟩
        · exact h.elim
      · exact h.elim
    · exact h.elim

theorem opnd_congr {s' : St} {x : Operand} (h : ∀ t, x = .tmp t → s.get t = s'.get t) : opnd s x = opnd s' x := by
  cases x with
  | tmp t => exact h t rfl
  | _ => rfl

theorem opnds_congr {s' : St} : ∀ {l : List Operand}, (∀ x ∈ l, opnd s x = opnd s' x) → opnds s l = opnds s' l
  | [], _ => rfl
  | x :: r, h => by simp only [opnds]; rw [h x (by simp), opnds_congr (fun y hy => h y (by simp [hy]))]

theorem fillF_congr {s' : St} {fs : List (Nat × Nat × Bool)} : ∀ {l : List (Nat × Operand)} {z : List PV}, (∀ x ∈ l, opnd s x.2 = opnd s' x.2) → fillF s fs l z = fillF s' fs l z
  | [], _, _ => rfl
  | (i, x) :: r, z, h => by
    simp only [fillF]
    rw [h (i, x) (by simp)]
    split
    · split
      · exact fillF_congr (fun y hy => h y (by simp [hy]))
      · rfl
    · rfl
theorem fillA_congr {s' : St} {n esz : Nat} : ∀ {l : List (Nat × Operand)} {z : List PV}, (∀ x ∈ l, opnd s x.2 = opnd s' x.2) → fillA s n esz l z = fillA s' n esz l z
  | [], _, _ => rfl
  | (i, x) :: r, z, h => by
    simp only [fillA]
    rw [h (i, x) (by simp)]
    split
    · split
      · exact fillA_congr (fun y hy => h y (by simp [hy]))
      · rfl
    · rfl
theorem fillS_congr {s' : St} {esz : Nat} : ∀ {l : List (Nat × Operand)} {z : List (List PV)}, (∀ x ∈ l, opnd s x.2 = opnd s' x.2) → fillS s esz l z = fillS s' esz l z
  | [], _, _ => rfl
  | (i, x) :: r, z, h => by
    simp only [fillS]
    rw [h (i, x) (by simp)]
    split
    · split
      · exact fillS_congr (fun y hy => h y (by simp [hy]))
      · rfl
    · rfl
theorem boundOf_congr {s' : St} {x : Option Operand} {d : Int} {K : Int → Prop} (h : ∀ y, x = some y → opnd s y = opnd s' y) : boundOf s x d K = boundOf s' x d K := by
  cases x with
  | none => rfl
  | some y => simp only [boundOf, h y rfl]

/-- an operation looks at nothing but its operands and the objects -/
theorem lenVal_congr {hp hp' : List (Nat × GObj)} (hh : aget hp = aget hp') (p : PV) (K : PV → Prop) : lenVal hp p K = lenVal hp' p K := by
  unfold lenVal
  simp only [hh]
theorem borrow_congr {hp hp' : List (Nat × GObj)} (hh : aget hp = aget hp') (p : PV) : borrow hp p = borrow hp' p := by
  unfold borrow
  simp only [hh]
theorem borrows_congr {hp hp' : List (Nat × GObj)} (hh : aget hp = aget hp') : ∀ l : List PV, borrows hp l = borrows hp' l
  | [] => rfl
  | p :: r => by simp only [borrows, borrow_congr hh, borrows_congr hh r]

theorem valOp_congr {s' : St} {o : Oper} {K : PV → Prop} (h : ∀ x ∈ o.op.operands.toList, opnd s x = opnd s' x) (hh : aget s.hp = aget s'.hp) : valOp E C o s K = valOp E C o s' K := by
  cases hop : o.op <;> simp only [hop, Op.operands, Call.operands] at h <;> simp only [valOp, hop, hh, lenVal_congr hh, borrows_congr hh]
  case move x => rw [h x (by simp)]
  case assign x => rw [h x (by simp)]
  case pick c x y => rw [h c (by simp), h x (by simp), h y (by simp)]
  case box T x => rw [h x (by simp)]
  case build T ps =>
    have hf : ∀ x ∈ ps.toList, opnd s x.2 = opnd s' x.2 := fun x hx => h x.2 (by simp; exact ⟨x.1, by simpa using hx⟩)
    split
    · rw [fillF_congr hf]
    · rw [fillA_congr hf]
    · rfl
  case buildSlice T n ps =>
    have hf : ∀ x ∈ ps.toList, opnd s x.2 = opnd s' x.2 := fun x hx => h x.2 (by simp; exact ⟨x.1, by simpa using hx⟩)
    split
    · rw [fillS_congr hf]
    · rfl
  case load T x => rw [h x (by simp)]
  case nilCheck x => rw [h x (by simp)]
  case binOp op xT x y yT => rw [h x (by simp), h y (by simp)]
  case unOp op xT x => rw [h x (by simp)]
  case convert S D x => rw [h x (by simp)]
  case makeFunc fn as bs => rw [opnds_congr (fun x hx => h x (by simp at hx ⊢; exact .inl hx)), opnds_congr (fun x hx => h x (by simp at hx ⊢; exact .inr hx))]
  case slice T x lo hi mx =>
    cases mx with
    | some m => rfl
    | none =>
      have hb : ∀ (l : Int) (K : Int → Prop), boundOf s lo l K = boundOf s' lo l K := fun l K => boundOf_congr (fun y hy => h y (by subst hy; simp))
      have hb' : ∀ (l : Int) (K : Int → Prop), boundOf s hi l K = boundOf s' hi l K := fun l K => boundOf_congr (fun y hy => h y (by subst hy; simp))
      simp only [hb, hb', h x (by simp)]
  case fieldAddr S x f => rw [h x (by simp)]
  case field T x f => rw [h x (by simp)]
  case indexAddr T x i => rw [h x (by simp), h i (by simp)]
  case index T x i => rw [h x (by simp), h i (by simp)]
  case extract t i => rw [h t (by simp)]
  case call c =>
    have ha : opnds s c.args.toList = opnds s' c.args.toList := opnds_congr (fun x hx => h x (by
      cases hc : c.callee <;> simp [hc, Call.operands] at hx ⊢ <;> simp [hx]))
    have ha' : ∀ x ∈ c.args.toList, opnd s x = opnd s' x := fun x hx => h x (by
      cases hc : c.callee <;> simp [hc, Call.operands] at hx ⊢ <;> simp [hx])
    cases hc : c.callee with
    | invoke r n => rfl
    | value f =>
      have hf : opnd s f = opnd s' f := h f (by simp [hc, Call.operands])
      simp only [hf, ha]
    | builtin b =>
      cases b <;> simp only []
      case len =>
        split
        · rename_i x T h1 h2
          rw [ha' x (by rw [h1]; simp)]
        · rfl
      case min =>
        split
        · rename_i x y h1
          rw [ha' x (by rw [h1]; simp), ha' y (by rw [h1]; simp)]
        · rfl

end
end Go.Proofs.Ytbliiejdmgnkgaa.Pv
