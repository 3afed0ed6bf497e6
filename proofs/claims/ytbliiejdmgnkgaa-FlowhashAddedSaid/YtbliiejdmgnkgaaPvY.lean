/-
  The layer of values: what an evaluator says of a function holds of every run of it. For every program of the model that meets the named conditions.
-/
import Derived.Test.YtbliiejdmgnkgaaPvX
import Derived.RangeFuncLeaves
import Derived.RangeFuncOwn
namespace Go.Proofs.Ytbliiejdmgnkgaa.Pv
open Go Go.RowKit
set_option linter.unusedSimpArgs false
set_option linter.unusedVariables false
set_option linter.unnecessarySimpa false
/-! loops over functions -/

/-- an iterator's closure: it hands out the given values in their order, one to each round, as long as the rounds leave alone what it leans on -/
structure FSeq (P : Program) (g : Nat) (caps : List PV) (xs : List (List PV)) : Prop where
  enter : ∀ (args : Array Value) (w : World), (callFunc g args).run P w = .ok (.enter g args) w
  calls : ∀ (lb : List Value) (M : Mem) (l : Nat) (J : Nat → World → Prop) (W : World), RepIs M caps lb → (∀ k W, J k W → ∀ b o, M b = some o → W.heap[b]? = some o) →
    (∀ k ys W1 vs, xs[k]? = some ys → J k W1 → RepIs M ys vs → YieldAt Fence.wide 0 P l vs.toArray W1 fun e W' => e = .returned (.bool true) ∧ J (k + 1) W') → J 0 W →
    CallsIn Fence.wide 0 P g (#[.func (.yield l) #[] #[]] ++ lb.toArray) W fun e W' => (∃ v, e = .returned v) ∧ J xs.length W'

section
variable {P : Program} {w : World} {M : Mem} {F : Frm} {δ : Nat → Value} {hp : List (Nat × GObj)}

def Frm.add (F : Frm) (l : Nat) (o : Obj) : Frm := ⟨fun b => if b = l then some o else F.mem b, F.os, F.out⟩

theorem Inv.addF (h : Inv M F δ hp w) {l : Nat} {o : Obj} (hl : w.heap[l]? = some o) (hM : M l = none) (ho : o.isCells = false) : Inv M (F.add l o) δ hp w := by
  have hcell : ∀ g ob, aget hp g = some ob → ∀ b, (δ g).ownBlock = some b → b ≠ l := by
    intro g ob hg b hb e
    obtain ⟨xs, q1, _⟩ := h.own g ob hg
    rcases q1.2 with ⟨e1, e2⟩ | ⟨b', cap, cur, e1, e2, e3, e4⟩
    · rw [e1] at hb; simp [Value.ownBlock] at hb
    · rw [e1] at hb
      have : b' = b := by simpa [Value.ownBlock] using hb
      subst this; subst e
      rw [hl] at e3; cases e3; simp [Obj.isCells] at ho
  refine ⟨h.m, ?_, ?_, h.io, ?_, h.dis⟩
  · intro b x hb
    simp only [Frm.add] at hb
    split at hb
    · rename_i e; subst e; rw [hl]; exact hb
    · exact h.f b x hb
  · intro b hb
    simp only [Frm.add]
    split
    · rename_i e; subst e; exact absurd hM hb
    · exact h.mf b hb
  · intro g ob hg
    obtain ⟨xs, q1, q2, q3, q4, q5, q6, q7⟩ := h.own g ob hg
    refine ⟨xs, q1, q2, q3, q4, q5, q6, fun b hb => ⟨(q7 b hb).1, ?_⟩⟩
    simp only [Frm.add]
    rw [if_neg (hcell g ob hg b hb)]
    exact (q7 b hb).2

/-- the block of the frame's that is turned -/
theorem Inv.turnF {l : Nat} {o o' : Obj} (h : Inv M (F.add l o) δ hp w) : Inv M (F.add l o') δ hp (w.putObj l o') := by
  have hl : w.heap[l]? = some o := h.f l o (by simp [Frm.add])
  have hlt : l < w.heap.size := (Array.getElem?_eq_some_iff.1 hl).1
  have hMl : M l = none := by
    cases hm : M l with
    | none => rfl
    | some x => have := h.mf l (by rw [hm]; simp); simp [Frm.add] at this
  refine ⟨?_, ?_, ?_, h.io, ?_, h.dis⟩
  · intro b x hb
    rw [World.putObj_heap_other (by intro e; subst e; rw [hMl] at hb; cases hb)]
    exact h.m b x hb
  · intro b x hb
    simp only [Frm.add] at hb
    split at hb
    · rename_i e; subst e; rw [World.putObj_heap_same hlt]; exact hb
    · rename_i e
      rw [World.putObj_heap_other e]
      exact h.f b x (by simp [Frm.add, e, hb])
  · intro b hb
    have := h.mf b hb
    simp only [Frm.add] at this ⊢
    split at this
    · cases this
    · rename_i e; rw [if_neg e]; exact this
  · intro g ob hg
    obtain ⟨xs, q1, q2, q3, q4, q5, q6, q7⟩ := h.own g ob hg
    refine ⟨xs, ⟨q1.1, ?_⟩, q2, q3, q4, q5, q6, fun b hb => ⟨(q7 b hb).1, ?_⟩⟩
    · rcases q1.2 with hh | ⟨b', cap, cur, e1, e2, e3, e4⟩
      · exact .inl hh
      · refine .inr ⟨b', cap, cur, e1, e2, ?_, e4⟩
        rw [World.putObj_heap_other]
        · exact e3
        · intro e; subst e
          have := (q7 b' (by rw [e1]; rfl)).2
          simp [Frm.add] at this
    · have := (q7 b hb).2
      simp only [Frm.add] at this ⊢
      split at this
      · cases this
      · rename_i e; rw [if_neg e]; exact this

theorem Inv.dropF {l : Nat} {o : Obj} (h : Inv M (F.add l o) δ hp w) (hF : F.mem l = none) : Inv M F δ hp w ∧ M l = none ∧ w.heap[l]? = some o := by
  have hMl : M l = none := by
    cases hm : M l with
    | none => rfl
    | some x => have := h.mf l (by rw [hm]; simp); simp [Frm.add] at this
  have hne : ∀ b x, F.mem b = some x → b ≠ l := by intro b x hb e; subst e; rw [hF] at hb; cases hb
  refine ⟨⟨h.m, ?_, ?_, h.io, ?_, h.dis⟩, hMl, h.f l o (by simp [Frm.add])⟩
  · intro b x hb
    exact h.f b x (by simp [Frm.add, hne b x hb, hb])
  · intro b hb
    have := h.mf b hb
    simp only [Frm.add] at this
    split at this
    · cases this
    · exact this
  · intro g ob hg
    obtain ⟨xs, q1, q2, q3, q4, q5, q6, q7⟩ := h.own g ob hg
    refine ⟨xs, q1, q2, q3, q4, q5, q6, fun b hb => ⟨(q7 b hb).1, ?_⟩⟩
    have := (q7 b hb).2
    simp only [Frm.add] at this
    split at this
    · cases this
    · exact this

theorem subHp_sub {hp' : List (Nat × GObj)} (h : Inv M F δ hp w) (hs : subHp hp' hp) : Inv M F δ hp' w :=
  ⟨h.m, h.f, h.mf, h.io, fun g o hg => h.own g o (subHp_get hs g o hg), fun g g' o o' hne hg hg' => h.dis g g' o o' hne (subHp_get hs g o hg) (subHp_get hs g' o' hg')⟩

/-- two blocks are laid -/
theorem Inv.alloc2 (h : Inv M F δ hp w) (o o' : Obj) : Inv (fun b => if b = w.heap.size then some o else M b) F δ hp ((w.alloc o).alloc o') ∧ M.le (fun b => if b = w.heap.size then some o else M b) := by
  have hM : M w.heap.size = none := by
    cases hm : M w.heap.size with
    | none => rfl
    | some x => have := (h.lt (b := w.heap.size)).1 (by rw [hm]; simp); omega
  have hF : F.mem w.heap.size = none := by
    cases hm : F.mem w.heap.size with
    | none => rfl
    | some x => have := (h.lt (b := w.heap.size)).2 (by rw [hm]; simp); omega
  have hold : ∀ (b : Nat) (x : Obj), w.heap[b]? = some x → ((w.alloc o).alloc o').heap[b]? = some x := by
    intro b x hb
    have hlt := (Array.getElem?_eq_some_iff.1 hb).1
    rw [Below.heap_alloc _ _ _ (by simp; omega), Below.heap_alloc _ _ _ hlt]
    exact hb
  refine ⟨⟨?_, fun b x hb => hold b x (h.f b x hb), ?_, ⟨h.io.1, h.io.2⟩, ?_, h.dis⟩, ?_⟩
  · intro b x hb
    split at hb
    · rename_i e; subst e
      rw [Below.heap_alloc _ _ _ (by simp)]
      rw [World.alloc_heap_new]; exact hb
    · exact hold b x (h.m b x hb)
  · intro b hb
    split at hb
    · rename_i e; subst e; exact hF
    · exact h.mf b hb
  · intro g ob hg
    obtain ⟨xs, q1, q2, q3, q4, q5, q6, q7⟩ := h.own g ob hg
    have hle : M.le (fun b => if b = w.heap.size then some o else M b) := by
      intro b x hb
      have : b ≠ w.heap.size := by intro e; subst e; rw [hM] at hb; cases hb
      simp [this, hb]
    refine ⟨xs, ⟨q1.1, ?_⟩, q2, q3, q4.mono hle, fun ho => (q5 ho).mono hle, q6, fun b hb => ⟨?_, (q7 b hb).2⟩⟩
    · rcases q1.2 with hh | ⟨b', cap, cur, e1, e2, e3, e4⟩
      · exact .inl hh
      · exact .inr ⟨b', cap, cur, e1, e2, hold _ _ e3, e4⟩
    · have := (q1.lt b hb).2
      have hne : b ≠ w.heap.size := by omega
      simp [hne, (q7 b hb).1]
  · intro b x hb
    have : b ≠ w.heap.size := by intro e; subst e; rw [hM] at hb; cases hb
    simp [this, hb]
end

def objs : List (Nat × PV) → List Nat
  | [] => []
  | (i, p) :: r => match isImm p with | true => objs r | false => i :: objs r

theorem freeOf_objs {wr : List Nat} : ∀ {l : List (Nat × PV)}, freeOf wr l = true → ∀ i, i ∈ objs l → wr.contains i = false
  | [], _, i, h => by simp [objs] at h
  | (j, p) :: r, hf, i, h => by
    simp only [freeOf, Bool.and_eq_true, Bool.or_eq_true, Bool.not_eq_true'] at hf
    simp only [objs] at h
    cases hp : isImm p with
    | true => rw [hp] at h; exact freeOf_objs hf.2 i h
    | false =>
      rw [hp] at h
      rcases List.mem_cons.1 h with rfl | h
      · rcases hf.1 with h1 | h1
        · rw [hp] at h1; cases h1
        · exact h1
      · exact freeOf_objs hf.2 i h

theorem objs_mem : ∀ {l : List (Nat × PV)} {i : Nat} {p : PV}, aget l i = some p → isImm p = false → i ∈ objs l
  | [], i, p, h, _ => by simp [aget] at h
  | (j, q) :: r, i, p, h, hp => by
    simp only [aget] at h
    simp only [objs]
    split at h
    · rename_i e; subst e; cases h
      rw [hp]; exact List.mem_cons_self
    · have := objs_mem h hp
      cases isImm q
      · exact List.mem_cons_of_mem _ this
      · exact this

theorem keepsV_get : ∀ {l : List (Nat × PV)} {s : St} {i : Nat} {p : PV}, keepsV l s → aget l i = some p → isImm p = false → s.get i = p
  | [], s, i, p, _, h, _ => by simp [aget] at h
  | (j, q) :: r, s, i, p, hk, h, hp => by
    simp only [aget] at h
    simp only [keepsV] at hk
    split at h
    · rename_i e; subst e; cases h
      rw [hp] at hk; exact hk.1
    · exact keepsV_get hk.2 h hp

/-- the slots that a round is handed -/
theorem St.puts_get : ∀ (ps : List Nat) (ys : List PV) (s : St) (r : Nat), r ∉ ps → (s.puts ps ys).get r = s.get r
  | [], _, s, r, _ => by unfold St.puts; rfl
  | i :: ps, [], s, r, _ => by unfold St.puts; rfl
  | i :: ps, y :: ys, s, r, h => by
    unfold St.puts
    simp only [List.mem_cons, not_or] at h
    rw [St.puts_get ps ys _ r h.2, St.get_put, if_neg (Ne.symm h.1)]

theorem St.puts_hp : ∀ (ps : List Nat) (ys : List PV) (s : St), (s.puts ps ys).hp = s.hp
  | [], _, s => by unfold St.puts; rfl
  | i :: ps, [], s => by unfold St.puts; rfl
  | i :: ps, y :: ys, s => by
    unfold St.puts
    rw [St.puts_hp ps ys, St.put_hp]

theorem rel_puts {M : Mem} {δ : Nat → Value} : ∀ (ps : List Nat) (ys : List PV) (vs : List Value) (s : St) (t : Array Value), ps.length = vs.length → RepSs M δ ys vs → (∀ r, RepS M δ (s.get r) (t.getD r undef)) → (∀ i ∈ ps, i < t.size) →
    ∀ r, RepS M δ ((s.puts ps ys).get r) (((ps.zip vs).foldl (fun t (x : Nat × Value) => t.setIfInBounds x.1 x.2) t).getD r undef)
  | [], ys, vs, s, t, hl, hrep, hs, hlt, r => by
    unfold St.puts; exact hs r
  | i :: ps, ys, [], s, t, hl, _, _, _, r => by simp at hl
  | i :: ps, ys, v :: vs, s, t, hl, hrep, hs, hlt, r => by
    cases hrep with
    | cons p v' ys' vs' h1 h2 =>
      unfold St.puts
      simp only [List.zip_cons_cons, List.foldl_cons]
      refine rel_puts ps ys' vs (s.put i p) (t.setIfInBounds i v) (by simpa using hl) h2 ?_ (fun j hj => by simp; exact hlt j (by simp [hj])) r
      intro j
      rw [St.get_put]
      have hi := hlt i (by simp)
      split
      · rename_i e; subst e
        simp [Array.getD_eq_getD_getElem?, hi, h1]
      · rename_i e
        have := hs j
        simpa [Array.getD_eq_getD_getElem?, Array.getElem?_setIfInBounds, e] using this

theorem foldl_size : ∀ (l : List (Nat × Value)) (t : Array Value), (l.foldl (fun t (x : Nat × Value) => t.setIfInBounds x.1 x.2) t).size = t.size
  | [], t => rfl
  | x :: r, t => by rw [List.foldl_cons, foldl_size r]; simp
theorem foldl_other : ∀ (l : List (Nat × Value)) (t : Array Value) (r : Nat), (∀ x ∈ l, x.1 ≠ r) → (l.foldl (fun t (x : Nat × Value) => t.setIfInBounds x.1 x.2) t).getD r undef = t.getD r undef
  | [], t, r, _ => rfl
  | x :: l, t, r, h => by
    rw [List.foldl_cons, foldl_other l _ r (fun y hy => h y (by simp [hy]))]
    have := h x (by simp)
    simp [Array.getD_eq_getD_getElem?, Array.getElem?_setIfInBounds, this]

theorem zip_foldl (ps : Array Tmp) (vs : List Value) (t : Array Value) :
    (ps.zip vs.toArray).foldl (fun t (x : Tmp × Value) => t.setIfInBounds x.1 x.2) t = (ps.toList.zip vs).foldl (fun t (x : Nat × Value) => t.setIfInBounds x.1 x.2) t := by
  rw [← Array.foldl_toList, Array.toList_zip]

section
variable {P : Program} {w : World} {M : Mem} {F : Frm} {δ : Nat → Value}

theorem range_law {Sq : Nat → List PV → List (List PV) → Prop} (hS : ∀ g caps xs, Sq g caps xs → FSeq P g caps xs) {codeW : (Exit → St → Prop) → St → Prop} {wr : List Nat} {f : Operand} {ps : Array Tmp} {assign body : Code} {N : Cx} {s : St} {a : Act}
    {Q : Exit → St → Prop} {R : Exit → Act → World → Prop} (hr : Rel N s a w M F δ) (h : RangeK Sq codeW wr (opnd s f) ps.toList Q s) (hps : ∀ i ∈ ps, i < N.n ∧ N.ro.contains i = false)
    (hcode : ∀ (N' : Cx) (l : Nat) (Fr : Frm) (Qc : Exit → St → Prop) (s' : St) (a' : Act) (w' : World) (M' : Mem) (δ' : Nat → Value) (R' : Exit → Act → World → Prop), N'.n = N.n →
      (∀ i, N'.ro.contains i = true → N.ro.contains i = true ∨ wr.contains i = false) → Rel N' s' a' w' M' Fr δ' → codeW Qc s' →
      (∀ s1 a1 w1 M1 δ1, Rel N' s1 a1 w1 M1 Fr δ1 → M'.le M1 → ∃ w2 Fb, (Instr.beginRound l).run P w1 = .ok () w2 ∧ Rel N' s1 a1 w2 M1 Fb δ1 ∧ ∀ e a w, GoodK N' M1 Fb (Qc e) a w → R' e a w) →
      assign.wpIn (FnR (some l)) 0 P (Exit.then (fun a₁ w₁ => ∃ w₂, (Instr.beginRound l).run P w₁ = .ok () w₂ ∧ body.wpIn (FnR (some l)) 0 P R' a₁ w₂) (fun _ _ _ => False)) a' w')
    (hR : ∀ a w, GoodK N M F (Q .normal) a w → R .normal a w) : (Code.rangeFunc f ps assign body).wpIn (FnR none) 0 P R a w := by
  obtain ⟨g, caps, xs, α, hh, I, x0, hf, hs, himm, hlen, hfree, h0, hI, hround, hdone⟩ := h
  have hseq := hS _ _ _ hs
  have hfv := hr.opnd f
  rw [hf] at hfv
  obtain ⟨va, lb, e1, e2, e3⟩ := hfv.fn_inv
  cases e2
  have hcaps : RepIs M caps lb := e3.toI himm
  refine wpIn_rangeFunc ?_
  intro fn _
  obtain ⟨rec, hrec⟩ : ∃ rec : LoopState → Option Code → Loop, rec = fun st pe => { state := st, pending := pe, fn, tmps := a.tmps, params := ps, assign, body, defers := w.heap.size } := ⟨_, rfl⟩
  obtain ⟨W1, hW1⟩ : ∃ W1, (w.alloc (.deferred (some []))).alloc (.loop (rec .ready none)) = W1 := ⟨_, rfl⟩
  have hL1 : W1.heap[w.heap.size + 1]? = some (.loop (rec .ready none)) := by
    rw [← hW1]; have := World.alloc_heap_new (w.alloc (.deferred (some []))) (.loop (rec .ready none)); rwa [World.size_alloc] at this
  obtain ⟨hi1, hle1⟩ := hr.inv.alloc2 (.deferred (some [])) (.loop (rec .ready none))
  rw [hW1] at hi1
  obtain ⟨M1, hM1⟩ : ∃ M1 : Mem, (fun b => if b = w.heap.size then some (.deferred (some [])) else M b) = M1 := ⟨_, rfl⟩
  rw [hM1] at hi1 hle1
  have hFl : F.mem (w.heap.size + 1) = none := by
    cases hm : F.mem (w.heap.size + 1) with
    | none => rfl
    | some x => have := (hr.inv.lt (b := w.heap.size + 1)).2 (by rw [hm]; simp); omega
  have hM1l : M1 (w.heap.size + 1) = none := by
    cases hm : M (w.heap.size + 1) with
    | none => rw [← hM1]; simp [hm]
    | some x => have := (hr.inv.lt (b := w.heap.size + 1)).1 (by rw [hm]; simp); omega
  have hM1D : M1 w.heap.size = some (.deferred (some [])) := by rw [← hM1]; simp
  let J : Nat → World → Prop := fun k W => ∃ M' δ' x, I k x ∧ M1.le M' ∧ Inv M' F δ' (hh x) W ∧ (∀ i p, aget s.vs i = some p → isImm p = false → RepS M' δ' p (a.tmps.getD i undef)) ∧ M' (w.heap.size + 1) = none ∧
    W.heap[w.heap.size + 1]? = some (.loop (rec .ready none))
  have slotv : ∀ i p, aget s.vs i = some p → RepS M δ p (a.tmps.getD i undef) := by
    intro i p hp
    have := hr.slot i
    unfold St.get at this
    rw [hp] at this
    exact this
  have hJ0 : J 0 W1 := ⟨M1, δ, x0, hI, M1.le_refl, subHp_sub hi1 h0, fun i p hp _ => (slotv i p hp).mono hle1, hM1l, hL1⟩
  refine ⟨w.heap.size + 1, [{ target := .collected w.heap.size, args := #[] }], W1, { target := .fn (.func g) lb.toArray, args := #[.func (.yield (w.heap.size + 1)) #[] #[]] }, W1, g,
    #[.func (.yield (w.heap.size + 1)) #[] #[]] ++ lb.toArray, W1, ?_, ?_, fun _ _ => trivial, ?_, fun h => (by cases h), ?_⟩
  · rw [← hW1, hrec]; exact run_enterLoop_outer _ _ _ _ _
  · simp only [resolve, e1]
    simp [go_sem]
  · have := hseq.enter (#[.func (.yield (w.heap.size + 1)) #[] #[]] ++ lb.toArray) W1
    exact this
  · refine CallsIn.mono (hseq.calls lb M1 (w.heap.size + 1) J W1 (hcaps.mono hle1) ?_ ?_ hJ0) ?_
    · rintro k W ⟨M', δ', x, _, hle, hinv, _⟩ b o hb
      exact hinv.m b o (hle b o hb)
    · -- one round
      rintro k ys W vs hk ⟨M', δ', x, hIx, hle, hinv, hobj, hMl, hl⟩ hys
      obtain ⟨hl1, hl2⟩ := hlen ys (List.mem_of_getElem? hk)
      have hvl : vs.length = ps.size := by rw [← hys.length, hl1]; simp
      have hy := run_yield (P := P) (args := vs.toArray) hl (by rw [hrec]; simpa using hvl)
      rw [hrec] at hy
      refine ⟨fn, _, assign, body, hy, roundIn_of_wpIn trivial ?_⟩
      -- the round's slots
      let N' : Cx := ⟨N.n, N.ro ++ objs s.vs, fun i => a.tmps.getD i undef, fun _ => none⟩
      have hnot : ∀ i, N'.ro.contains i = true → i ∉ ps.toList := by
        intro i hi hm
        have hi' : i ∈ N.ro ∨ i ∈ objs s.vs := by simpa [N'] using hi
        rcases hi' with hi' | hi'
        · have := (hps i (by simpa using hm)).2
          rw [List.contains_iff_mem.2 hi'] at this; cases this
        · have := freeOf_objs hfree i hi'
          have hmm : i ∈ ps.toList ++ wr := List.mem_append_left _ hm
          rw [List.contains_iff_mem.2 hmm] at this; cases this
      have hinvr : Inv M' (F.add (w.heap.size + 1) (.loop (rec .ready none))) δ' (hh x) W := hinv.addF hl hMl rfl
      have hrel : Rel N' (St.puts ⟨s.vs, [], hh x⟩ ps.toList ys) { tmps := (ps.zip vs.toArray).foldl (fun t (x : Tmp × Value) => t.setIfInBounds x.1 x.2) a.tmps, defers := [] } W M' (F.add (w.heap.size + 1) (.loop (rec .ready none))) δ' := by
        refine ⟨⟨fun b o h => (by cases h), List.nodup_nil, fun d hd => (by cases hd)⟩, ?_, ?_, ?_, by rw [St.puts_hp]; exact hinvr⟩
        · dsimp only; rw [zip_foldl, foldl_size]; exact hr.size
        · intro i hi
          dsimp only
          rw [zip_foldl, foldl_other]
          intro y hy e
          exact hnot i hi (e ▸ (List.of_mem_zip hy).1)
        · dsimp only
          rw [zip_foldl]
          refine rel_puts ps.toList ys vs _ a.tmps (by simp [hvl]) (hys.toS.mono hle) ?_ ?_
          · intro r
            unfold St.get
            simp only [aget]
            cases hp : aget s.vs r with
            | none => exact .imm _ _ (.junk _)
            | some p =>
              cases hpi : isImm p with
              | true => exact .imm _ _ (((slotv r p hp).toI hpi).mono (Mem.le_trans hle1 hle))
              | false => exact hobj r p hp hpi
          · intro i hi
            rw [hr.size]
            exact (hps i (by simpa using hi)).1
      refine hcode N' (w.heap.size + 1) _ _ _ _ W M' δ' (roundPost P (w.heap.size + 1) fun e W' => e = .returned (.bool true) ∧ J (k + 1) W') rfl ?_ hrel (hround k x ys hk hIx) ?_
      · intro i hi
        have hi' : i ∈ N.ro ∨ i ∈ objs s.vs := by simpa [N'] using hi
        rcases hi' with hi' | hi'
        · exact .inl (List.contains_iff_mem.2 hi')
        · right
          cases hc : wr.contains i with
          | false => rfl
          | true =>
            have := freeOf_objs hfree i hi'
            rw [List.contains_iff_mem.2 (List.mem_append_right _ (List.contains_iff_mem.1 hc))] at this; cases this
      · intro s1 a1 w1 M2 δ1 hrel1 hle2
        have hl1 : w1.heap[w.heap.size + 1]? = some (.loop (rec .ready none)) := hrel1.inv.f _ _ (by simp [Frm.add])
        refine ⟨w1.putObj (w.heap.size + 1) (.loop { rec .ready none with state := .busy }), F.add (w.heap.size + 1) (.loop { rec .ready none with state := .busy }), run_beginRound hl1 (by rw [hrec]), ?_, ?_⟩
        · exact ⟨hrel1.def0, hrel1.size, hrel1.ro, hrel1.slot, hrel1.inv.turnF⟩
        · rintro e a3 W3 ⟨s3, M3, δ3, hq, hle3, hrel3⟩
          cases e with
          | normal =>
            obtain ⟨hkeep, y, hIy, hsub⟩ := hq
            have hl3 : W3.heap[w.heap.size + 1]? = some (.loop { rec .ready none with state := .busy }) := hrel3.inv.f _ _ (by simp [Frm.add])
            have hend := run_endRound (P := P) none hl3
            have hinv4 := hrel3.inv.turnF (o' := .loop (rec .ready none))
            obtain ⟨q1, q2, q3⟩ := (subHp_sub hinv4 hsub).dropF hFl
            refine ⟨_, _, hend, rfl, M3, δ3, y, hIy, Mem.le_trans hle (Mem.le_trans hle2 hle3), ?_, ?_, q2, ?_⟩
            · rw [hrec] at q1 ⊢; exact q1
            · intro i p hp hpi
              have h1 := hrel3.slot i
              rw [keepsV_get hkeep hp hpi] at h1
              have h2 := hrel3.ro i (by simp only [N']; rw [List.contains_iff_mem]; exact List.mem_append_right _ (objs_mem hp hpi))
              rw [h2] at h1
              exact h1
            · rw [hrec] at q3 ⊢; exact q3
          | _ => exact hq.elim
    · -- behind the loop
      rintro e W2 ⟨⟨v, rfl⟩, M', δ', x, hIx, hle, hinv, hobj, hMl, hl⟩
      refine ⟨none, _, by have := run_endLoop (P := P) hl (by rw [hrec]; simp); rw [hrec] at this; exact this, hR _ _ ⟨_, M', δ', hdone x hIx, Mem.le_trans hle1 hle, ?_⟩⟩
      have hinv2 := ((hinv.addF hl hMl rfl).turnF (o' := .loop { rec .ready none with state := .exhausted })).dropF hFl
      refine ⟨⟨Mem.le_trans hr.def0.1 (Mem.le_trans hle1 hle), ?_, ?_⟩, hr.size, hr.ro, ?_, by rw [hrec] at hinv2; exact hinv2.1⟩
      · refine List.nodup_cons.2 ⟨fun hm => ?_, hr.def0.2.1⟩
        obtain ⟨D, d1, d2, d3⟩ := hr.def0.2.2 _ hm
        injection d1 with d1
        injection d1 with d1
        have := (hr.inv.lt (b := D)).1 (by rw [d2]; simp)
        omega
      · intro d hd
        simp only [List.cons_append, List.nil_append, List.mem_cons] at hd
        rcases hd with rfl | hd
        · refine ⟨w.heap.size, rfl, hle _ _ hM1D, ?_⟩
          cases hm : N.m0 w.heap.size with
          | none => rfl
          | some x => have := (hr.inv.lt (b := w.heap.size)).1 (by rw [hr.def0.1 _ _ hm]; simp); omega
        · obtain ⟨D, d1, d2, d3⟩ := hr.def0.2.2 d hd
          exact ⟨D, d1, hle _ _ (hle1 _ _ d2), d3⟩
      · intro r
        unfold St.get
        simp only [aget]
        cases hp : aget s.vs r with
        | none => exact .imm _ _ (.junk _)
        | some p =>
          cases hpi : isImm p with
          | true => exact .imm _ _ (((slotv r p hp).toI hpi).mono (Mem.le_trans hle1 hle))
          | false => exact hobj r p hp hpi
end
end Go.Proofs.Ytbliiejdmgnkgaa.Pv
