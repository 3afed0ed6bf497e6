/-
  The layer of values: what an evaluator says of a function holds of every run of it. For every program of the model that meets the named conditions.
-/
import Derived.Test.YtbliiejdmgnkgaaPvV
namespace Go.Proofs.Ytbliiejdmgnkgaa.Pv
open Go
set_option linter.unusedSimpArgs false
set_option linter.unusedVariables false
set_option linter.unnecessarySimpa false

theorem subHp_congr {hp hp' : List (Nat × GObj)} (hh : aget hp = aget hp') : ∀ {l : List (Nat × GObj)}, subHp l hp → subHp l hp'
  | [], h => h
  | (g, o) :: r, h => ⟨by rw [← hh]; exact h.1, subHp_congr hh h.2⟩
theorem freshHp_congr {hp hp' : List (Nat × GObj)} (hh : aget hp = aget hp') (hpi : List (Nat × GObj)) : ∀ {l : List (Nat × GObj)}, freshHp hpi hp l = true → freshHp hpi hp' l = true
  | [], h => h
  | (g, o) :: r, h => by
    simp only [freshHp, Bool.and_eq_true] at h ⊢
    refine ⟨?_, freshHp_congr hh hpi h.2⟩
    have : hasId hp' g = hasId hp g := by unfold hasId; rw [hh]
    rw [this]; exact h.1

theorem solid_cells {p : PV} (h : solid p = true) : solids p.cells = true := by
  cases p <;> simp [PV.cells, solids] <;> simpa [solid] using h

theorem solids_opnds {s : St} : ∀ {l : List Operand}, solids (opnds s l) = true → ∀ x ∈ l, solid (opnd s x) = true
  | [], _, x, h => by simp at h
  | y :: r, hs, x, h => by
    simp only [opnds, solids, Bool.and_eq_true] at hs
    rcases List.mem_cons.1 h with rfl | h
    · exact hs.1
    · exact solids_opnds hs.2 x h

theorem map_notown (g : Nat) (o : GObj) (h : o.own = false) : o.map (killPs g) = o := by
  unfold GObj.map; simp [h]
theorem map_imm (g : Nat) (T : TypeId) (sz : Nat) (cs : List PV) (h : isImms cs = true) : GObj.map (killPs g) ⟨T, sz, [cs], true⟩ = ⟨T, sz, [cs], true⟩ := by
  unfold GObj.map
  simp only [if_true, mapE]
  rw [killPs_eq, mapOs_imm _ _ h]

theorem killP_os {g g' : Nat} (h : g' ≠ g) : killP g' (.os g) = .os g := by
  simp [killP_eq, mapO, KillU, Ne.symm h]
theorem killP_op {g g' sz i f : Nat} (h : g' ≠ g) : killP g' (.op g sz i f) = .op g sz i f := by
  simp [killP_eq, mapO, KillQ, Ne.symm h]

theorem arep_congr {hp hp' : List (Nat × GObj)} (hh : aget hp = aget hp') {g : Nat} {o : GObj} (h : aget hp g ≠ none) : aget (arep hp g o) = aget (arep hp' g o) := by
  funext x
  rw [aget_arep _ _ _ h, aget_arep _ _ _ (by rw [← hh]; exact h), hh]

section
variable {P : Program} {E : Env} {C : Ctr} {H : Hnd} {plan : List (Nat × Nat)} {s : St}

theorem hand_congr {s' : St} {c : Call} (h : ∀ x ∈ (Op.call c).operands.toList, opnd s x = opnd s' x) : hand s c = hand s' c ∧ handX s c = handX s' c := by
  have ha : opnds s c.args.toList = opnds s' c.args.toList := opnds_congr (fun x hx => h x (by
    cases hc : c.callee <;> simp [hc, Op.operands, Call.operands] at hx ⊢ <;> simp [hx]))
  unfold hand handX
  cases hc : c.callee with
  | value f =>
    have hf : opnd s f = opnd s' f := h f (by simp [hc, Op.operands, Call.operands])
    simp only [hf, ha]
    exact ⟨trivial, trivial⟩
  | _ => exact ⟨rfl, rfl⟩

theorem step_split (hE : ∀ T, TDok P T (E T)) {o : Oper} (hf : isEff plan o = true) {K : St → Prop} (h : stepOp E C H plan o K s) :
    ∃ τ v, Tau τ ∧ Act1 τ v (solids (opnds s o.op.operands.toList) = true) (kindOf plan o) ∧ K ((τ s).putO o.dst v) ∧
      ∀ (s' : St) (K' : St → Prop), (∀ x ∈ o.op.operands.toList, opnd s x = opnd s' x) → ((newId plan o).isSome = true ∨ aget s.hp = aget s'.hp) → (∀ t, SEqX t ((τ s').putO o.dst v) → K' t) → stepOp E C H plan o K' s' := by
  have hk : kindOf plan o = match isStore o with | true => .store | false => match newId plan o with | some g => .new g | none => .oth := by
    unfold kindOf; rw [hf]; rfl
  -- operations of the last kind
  have oth : isStore o = false → newId plan o = none → ∀ (τ : St → St) (v : PV), Tau τ → K ((τ s).putO o.dst v) →
      (∀ (s' : St) (K' : St → Prop), (∀ x ∈ o.op.operands.toList, opnd s x = opnd s' x) → aget s.hp = aget s'.hp → (∀ t, SEqX t ((τ s').putO o.dst v) → K' t) → stepOp E C H plan o K' s') →
      ∃ τ v, Tau τ ∧ Act1 τ v (solids (opnds s o.op.operands.toList) = true) (kindOf plan o) ∧ K ((τ s).putO o.dst v) ∧
      ∀ (s' : St) (K' : St → Prop), (∀ x ∈ o.op.operands.toList, opnd s x = opnd s' x) → ((newId plan o).isSome = true ∨ aget s.hp = aget s'.hp) → (∀ t, SEqX t ((τ s').putO o.dst v) → K' t) → stepOp E C H plan o K' s' := by
    intro h1 h2 τ v h3 h4 h5
    refine ⟨τ, v, h3, by rw [hk, h1, h2]; exact .oth, h4, fun s' K' hx hh hK => h5 s' K' hx ?_ hK⟩
    rcases hh with hh | hh
    · rw [h2] at hh; cases hh
    · exact hh
  obtain ⟨op, hop⟩ : ∃ op, o.op = op := ⟨_, rfl⟩
  cases op <;> simp only [isEff, hop] at hf <;> simp only [stepOp, hop] at h
  case alloc T =>
    split at h
    · rename_i z d hz hd
      obtain ⟨h0, h⟩ := h
      obtain ⟨i, zv, z1, z2, z3⟩ := zeroTD_run' (hE T) hz
      have hi : isImms z = true := (z3.2.1 (fun _ => none)).isImms
      split at h
      · rename_i g hg
        have hn : newId plan o = some g := by simp [newId, hop, hd, hg]
        refine ⟨fun s => s.newG g ⟨T, z.length, [z], true⟩, .op g z.length 0 0, .newG fun _ => rfl, ?_, by rw [hd]; exact h, fun s' K' hx hh hk => ?_⟩
        · rw [hk, hn]; simp only [isStore, hop]
          exact .new g _ (fun _ => rfl) (fun _ g' => map_imm _ _ _ _ hi) fun g' hne => killP_op hne
        simp only [stepOp, hop, hz, hd, hg]
        exact ⟨h0, hk _ (by rw [hd]; exact .refl _)⟩
      · rename_i hg
        have hn : newId plan o = some d := by simp [newId, hop, hd, hg]
        refine ⟨fun s => s.newG d ⟨T, z.length, [z], true⟩, .op d z.length 0 0, .newG fun _ => rfl, ?_, by rw [hd]; exact h, fun s' K' hx hh hk => ?_⟩
        · rw [hk, hn]; simp only [isStore, hop]
          exact .new d _ (fun _ => rfl) (fun _ g' => map_imm _ _ _ _ hi) fun g' hne => killP_op hne
        simp only [stepOp, hop, hz, hd, hg]
        exact ⟨h0, hk _ (by rw [hd]; exact .refl _)⟩
    · exact h.elim
  case makeSlice T l c =>
    split at h
    · rename_i e esz eb z k1 n k2 m d hT hl hc hd
      obtain ⟨h0, h⟩ := h
      have hn : newId plan o = some (match aget plan d with | some g => g | none => d) := by
        simp only [newId, hop, hd]; split <;> simp_all
      refine ⟨fun s => s.newG (match aget plan d with | some g => g | none => d) ⟨e, esz, List.replicate n.toNat z, false⟩, _, .newG fun _ => rfl, ?_, by rw [hd]; exact h, fun s' K' hx hh hk => ?_⟩
      · rw [hk, hn]; simp only [isStore, hop]
        exact .new _ _ (fun _ => rfl) (fun _ g' => map_notown _ _ rfl) fun g' hne => killP_os hne
      have e1 := hx l (by simp [hop, Op.operands])
      have e2 := hx c (by simp [hop, Op.operands])
      simp only [stepOp, hop, hT, ← e1, ← e2, hl, hc, hd]
      exact ⟨h0, hk _ (by rw [hd]; exact .refl _)⟩
    · exact h.elim
  case store T a x =>
    have hst : isStore o = true := by simp [isStore, hop]
    rw [hst] at hk
    split at h
    · rename_i g sz i f n ha hn
      split at h
      · rename_i ob hob
        split at h
        · exact h.elim
        · rename_i hsz
          split at h
          · rename_i c hc
            obtain ⟨h0, h⟩ := h
            refine ⟨fun s0 => ⟨s0.vs, s0.ts, arep s.hp g { ob with es := ob.es.set i (splice c f (opnd s x).cells) }⟩, .tup [], .hp fun _ => rfl, by rw [hk]; exact .store _ fun _ => rfl, h, fun s' K' hx hh hk => ?_⟩
            have e1 := hx a (by simp [hop, Op.operands])
            have e2 := hx x (by simp [hop, Op.operands])
            have hh' : aget s.hp = aget s'.hp := by
              rcases hh with hh | hh
              · simp [newId, hop] at hh
              · exact hh
            simp only [stepOp, hop, ← e1, ← e2, ha, hn, ← hh', hob, hc]
            rw [if_neg hsz]
            refine ⟨h0, hk _ ?_⟩
            have hne : aget s.hp g ≠ none := by rw [hob]; simp
            exact SEqX.putO (s := ⟨s'.vs, s'.ts, arep s'.hp g { ob with es := ob.es.set i (splice c f (opnd s x).cells) }⟩) (s' := ⟨s'.vs, s'.ts, arep s.hp g { ob with es := ob.es.set i (splice c f (opnd s x).cells) }⟩)
              ⟨fun i => rfl, (arep_congr hh' hne).symm⟩ _ _
          · exact h.elim
      · exact h.elim
    · exact h.elim
  case box T x =>
    split at h
    · rename_i d hd
      rw [hd] at hf
      split at h
      · rename_i g hg
        obtain ⟨h0, h⟩ := h
        have hn : newId plan o = some g := by simp [newId, hop, hd, hg]
        refine ⟨fun s0 => s0.newG g ⟨T, (opnd s x).cells.length, [killPs g (opnd s x).cells], true⟩, _, .newG fun _ => rfl, ?_, by rw [hd]; exact h, fun s' K' hx hh hk => ?_⟩
        · rw [hk, hn]; simp only [isStore, hop]
          refine .new g _ (fun _ => rfl) (fun hs g' => map_imm _ _ _ _ ?_) fun g' hne => killP_op hne
          have h1 := solids_opnds hs x (by simp [hop, Op.operands])
          have h2 := solid_cells h1
          rw [killPs_eq, mapOs_solid _ _ h2]
          exact solids_imms h2
        have e1 := hx x (by simp [hop, Op.operands])
        simp only [stepOp, hop, hd, hg, ← e1]
        exact ⟨h0, hk _ (by rw [hd]; exact .refl _)⟩
      · rename_i hg
        simp [planned, hg] at hf
    · exact h.elim
  case buildSlice T n ps =>
    split at h
    · rename_i d hd
      rw [hd] at hf
      split at h
      · rename_i g hg
        split at h
        · rename_i e esz eb z hT
          split at h
          · rename_i es hes
            obtain ⟨h0, h⟩ := h
            have hn : newId plan o = some g := by simp [newId, hop, hd, hg]
            refine ⟨fun s0 => s0.newG g ⟨e, esz, es, false⟩, _, .newG fun _ => rfl, ?_, by rw [hd]; exact h, fun s' K' hx hh hk => ?_⟩
            · rw [hk, hn]; simp only [isStore, hop]
              exact .new _ _ (fun _ => rfl) (fun _ g' => map_notown _ _ rfl) fun g' hne => killP_os hne
            have hfs : fillS s esz ps.toList (List.replicate n z) = fillS s' esz ps.toList (List.replicate n z) :=
              fillS_congr (fun y hy => hx y.2 (by simp [hop, Op.operands]; exact ⟨y.1, by simpa using hy⟩))
            simp only [stepOp, hop, hd, hg, hT, ← hfs, hes]
            exact ⟨h0, hk _ (by rw [hd]; exact .refl _)⟩
          · exact h.elim
        · exact h.elim
      · rename_i hg
        simp [planned, hg] at hf
    · exact h.elim
  case assign x =>
    have hn : newId plan o = none := by simp [newId, hop]
    have hst : isStore o = false := by simp [isStore, hop]
    split at h
    · rename_i d e esz eb z hx0 hd hT
      split at h
      · rename_i g hg
        refine oth hst hn (fun s0 => s0.newG g ⟨e, esz, [], false⟩) (.os g) (.newG fun _ => rfl) (by rw [hd]; exact h) fun s' K' hx hh hk => ?_
        have e1 := hx x (by simp [hop, Op.operands])
        simp only [stepOp, hop, ← e1, hx0, hd, hT, hg]
        exact hk _ (by rw [hd]; exact .refl _)
      · rename_i hg
        rw [hd] at hf
        simp [planned, hg] at hf
    · rename_i hno
      refine oth hst hn (fun s0 => s0) (opnd s x) (.id fun _ => rfl) h fun s' K' hx hh hk => ?_
      have e1 := hx x (by simp [hop, Op.operands])
      simp only [stepOp, hop, ← e1]
      exact hk _ (.refl _)
  case slice T x lo hi mx =>
    have hn : newId plan o = none := by simp [newId, hop]
    have hst : isStore o = false := by simp [isStore, hop]
    cases mx with
    | some m => exact (by simpa [valOp, hop] using h : False).elim
    | none =>
      simp only at h
      rw [hf] at h
      simp only at h
      split at h
      · rename_i el esz eb z g d hE' hx0 hd
        have hf' : planned plan (some d) = true := by rw [← hd]; exact hf
        split at h
        · rename_i ob hob
          obtain ⟨l, l1, h⟩ := boundOf_split h
          obtain ⟨u, u1, ⟨h0, h1, h⟩⟩ := boundOf_split h
          refine oth hst hn (fun s0 => s0.newG g ⟨ob.ty, ob.sz, ob.es.take u.toNat, ob.own⟩) (.os g) (.newG fun _ => rfl) (by rw [hd]; exact h) fun s' K' hx hh hk => ?_
          have e1 := hx x (by simp [hop, Op.operands])
          have hb : ∀ (l : Int) (K : Int → Prop), boundOf s lo l K = boundOf s' lo l K := fun l K => boundOf_congr (fun y hy => hx y (by subst hy; simp [hop, Op.operands]))
          have hb' : ∀ (l : Int) (K : Int → Prop), boundOf s hi l K = boundOf s' hi l K := fun l K => boundOf_congr (fun y hy => hx y (by subst hy; simp [hop, Op.operands]))
          simp only [stepOp, hop, hf', hE', ← e1, hx0, hd, ← hh, hob, ← hb, ← hb']
          refine l1 (fun l => boundOf s hi ob.es.length fun h => (l = 0 ∧ 0 ≤ h ∧ h ≤ ob.es.length) ∧ (ob.own = false ∧ ob.sz = esz) ∧ K' ((s'.newG g ⟨ob.ty, ob.sz, ob.es.take h.toNat, ob.own⟩).put d (.os g))) ?_
          refine u1 (fun h => (l = 0 ∧ 0 ≤ h ∧ h ≤ ob.es.length) ∧ (ob.own = false ∧ ob.sz = esz) ∧ K' ((s'.newG g ⟨ob.ty, ob.sz, ob.es.take h.toNat, ob.own⟩).put d (.os g))) ?_
          exact ⟨h0, h1, hk _ (by rw [hd]; exact .refl _)⟩
        · exact h.elim
      · exact h.elim
  case call c =>
    have hn : newId plan o = none := by simp [newId, hop]
    have hst : isStore o = false := by simp [isStore, hop]
    cases hcal : c.callee with
    | invoke r n => simp [hcal] at hf
    | builtin b =>
      cases b <;> first | (simp [hcal] at hf; done) | skip
      simp only [hcal] at h
      split at h
      · rename_i x y T T' d hargs htys hd
        obtain ⟨hT, h⟩ := h
        have hx1 : ∀ s' : St, (∀ z ∈ o.op.operands.toList, opnd s z = opnd s' z) → opnd s x = opnd s' x ∧ opnd s y = opnd s' y := by
          intro s' hx
          exact ⟨hx x (by simp [hop, Op.operands, Call.operands, hcal, hargs]), hx y (by simp [hop, Op.operands, Call.operands, hcal, hargs])⟩
        split at h
        · rename_i e esz eb z hE
          split at h
          · rename_i new hnew
            split at h
            · rename_i g hxg
              split at h
              · rename_i ob hob
                obtain ⟨h0, h⟩ := h
                refine oth hst hn (fun s0 => s0.newG g { ob with es := ob.es ++ new }) (.os g) (.newG fun _ => rfl) (by rw [hd]; exact h) fun s' K' hx hh hk => ?_
                obtain ⟨e1, e2⟩ := hx1 s' hx
                simp only [stepOp, hop, hcal, hargs, htys, hd, hE, ← e1, ← e2, ← borrow_congr hh, ← hh, hnew, hxg, hob]
                exact ⟨hT, h0, hk _ (by rw [hd]; exact .refl _)⟩
              · exact h.elim
            · rename_i hxn
              obtain ⟨h0, h⟩ := h
              refine oth hst hn (fun s0 => s0.newG (match aget plan d with | some g => g | none => d) ⟨e, esz, new, false⟩) _ (.newG fun _ => rfl) (by rw [hd]; exact h) fun s' K' hx hh hk => ?_
              obtain ⟨e1, e2⟩ := hx1 s' hx
              simp only [stepOp, hop, hcal, hargs, htys, hd, hE, ← e1, ← e2, ← borrow_congr hh, ← hh, hnew, hxn]
              exact ⟨hT, h0, hk _ (by rw [hd]; exact .refl _)⟩
            · exact h.elim
          · exact h.elim
        · exact h.elim
      · exact h.elim
    | value f =>
      simp only [hcal] at h
      have hx0 : ∀ s' : St, (∀ z ∈ o.op.operands.toList, opnd s z = opnd s' z) → opnd s f = opnd s' f ∧ opnds s c.args.toList = opnds s' c.args.toList ∧ hand s c = hand s' c ∧ handX s c = handX s' c := by
        intro s' hx
        rw [hop] at hx
        refine ⟨hx f (by simp [hcal, Op.operands, Call.operands]), opnds_congr (fun x hx' => hx x (by simp [hcal, Op.operands, Call.operands] at hx' ⊢; simp [hx'])), hand_congr hx⟩
      have hnd : ∀ (g : Nat) (first caps : List PV), opnd s f = .fn (.func g) first caps → CallH H g (first ++ opnds s c.args.toList ++ caps) s o.dst K →
          ∃ τ v, Tau τ ∧ K ((τ s).putO o.dst v) ∧ ∀ (s' : St) (K' : St → Prop), aget s.hp = aget s'.hp → (∀ t, SEqX t ((τ s').putO o.dst v) → K' t) → CallH H g (first ++ opnds s c.args.toList ++ caps) s' o.dst K' := by
        rintro g first caps hfg ⟨hpi, r, hp', c0, c1, c2, c3⟩
        exact ⟨fun s0 => s0.handed hpi hp', _, .handed fun _ => rfl, c3, fun s' K' hh hk => ⟨hpi, r, hp', c0, subHp_congr hh c1, freshHp_congr hh hpi c2, hk _ (.refl _)⟩⟩
      have hvl : valOp E C o s (fun p => K (s.putO o.dst p)) → ∃ p, K (s.putO o.dst p) ∧ ∀ (s' : St) (K' : St → Prop), (∀ x ∈ o.op.operands.toList, opnd s x = opnd s' x) → aget s.hp = aget s'.hp → (∀ t, SEqX t (s'.putO o.dst p) → K' t) → valOp E C o s' (fun p => K' (s'.putO o.dst p)) := by
        intro hv
        obtain ⟨p, hy, hk⟩ := valOp_split hv
        refine ⟨p, hk, fun s' K' hx hh hk' => ?_⟩
        rw [← valOp_congr hx hh]
        exact hy _ (hk' _ (.refl _))
      split at h
      · rename_i hh1
        split at h
        · rename_i g first caps hfg
          obtain ⟨τ, v, t1, t2, t3⟩ := hnd g first caps hfg h
          refine oth hst hn τ v t1 t2 fun s' K' hx hh hk => ?_
          obtain ⟨e1, e2, e3, e4⟩ := hx0 s' hx
          simp only [stepOp, hop, hcal, ← e3, hh1, ← e1, hfg, ← e2]
          exact t3 s' K' hh hk
        · exact h.elim
      · rename_i hh1
        split at h
        · rename_i hh2
          split at h
          · rename_i g first caps hfg
            cases h with
            | val h =>
              have hv : valOp E C o s (fun p => K (s.putO o.dst p)) := by simp only [valOp, hop, hcal, hfg]; exact h
              obtain ⟨p, k1, k2⟩ := hvl hv
              refine oth hst hn (fun s0 => s0) p (.id fun _ => rfl) k1 fun s' K' hx hh hk => ?_
              have hxo : ∀ x ∈ o.op.operands.toList, opnd s x = opnd s' x := hx
              obtain ⟨e1, e2, e3, e4⟩ := hx0 s' hxo
              simp only [stepOp, hop, hcal, ← e3, hh1, ← e4, hh2, ← e1, hfg]
              have := k2 s' K' hxo hh hk
              simp only [valOp, hop, hcal, ← e1, hfg] at this
              exact .val this
            | hnd h =>
              obtain ⟨τ, v, t1, t2, t3⟩ := hnd g first caps hfg h
              refine oth hst hn τ v t1 t2 fun s' K' hx hh hk => ?_
              obtain ⟨e1, e2, e3, e4⟩ := hx0 s' hx
              simp only [stepOp, hop, hcal, ← e3, hh1, ← e4, hh2, ← e1, hfg]
              rw [← e2]
              exact .hnd (t3 s' K' hh hk)
          · exact h.elim
        · rename_i hh2
          obtain ⟨p, k1, k2⟩ := hvl h
          refine oth hst hn (fun s0 => s0) p (.id fun _ => rfl) k1 fun s' K' hx hh hk => ?_
          have hxo : ∀ x ∈ o.op.operands.toList, opnd s x = opnd s' x := hx
          obtain ⟨e1, e2, e3, e4⟩ := hx0 s' hxo
          simp only [stepOp, hop, hcal, ← e3, hh1, ← e4, hh2]
          exact k2 s' K' hxo hh hk
  all_goals exact absurd hf (by simp)

theorem borrow_solid {hp : List (Nat × GObj)} {p : PV} (h : solid p = true) : borrow hp p = p := by
  cases p <;> first | rfl | simp [solid] at h
theorem borrows_solid {hp : List (Nat × GObj)} : ∀ {l : List PV}, solids l = true → borrows hp l = l
  | [], _ => rfl
  | p :: r, h => by
    simp only [solids, Bool.and_eq_true] at h
    simp only [borrows]; rw [borrow_solid h.1, borrows_solid h.2]

theorem solids_append {l l' : List PV} : solids (l ++ l') = (solids l && solids l') := by
  induction l with
  | nil => simp [solids]
  | cons p l ih => simp [solids, ih, Bool.and_assoc]

/-- an operation that looks at no object -/
theorem valOp_free {s' : St} {o : Oper} {K : PV → Prop} (hf : hpFree o = true ∨ solids (opnds s o.op.operands.toList) = true) (h : ∀ x ∈ o.op.operands.toList, opnd s x = opnd s' x) : valOp E C o s K = valOp E C o s' K := by
  have h1 : valOp E C o s K = valOp E C o ⟨s.vs, s.ts, s'.hp⟩ K := by
    have ho : ∀ x, opnd ⟨s.vs, s.ts, s'.hp⟩ x = opnd s x := fun x => by cases x <;> rfl
    have hos : ∀ l, opnds ⟨s.vs, s.ts, s'.hp⟩ l = opnds s l := fun l => by induction l with
      | nil => rfl
      | cons x r ih => simp only [opnds, ho, ih]
    have hF : ∀ fs l z, fillF ⟨s.vs, s.ts, s'.hp⟩ fs l z = fillF s fs l z := fun fs l z => fillF_congr fun _ _ => ho _
    have hA : ∀ n e l z, fillA ⟨s.vs, s.ts, s'.hp⟩ n e l z = fillA s n e l z := fun n e l z => fillA_congr fun _ _ => ho _
    have hS : ∀ e l z, fillS ⟨s.vs, s.ts, s'.hp⟩ e l z = fillS s e l z := fun e l z => fillS_congr fun _ _ => ho _
    have hB : ∀ x d (K : Int → Prop), boundOf ⟨s.vs, s.ts, s'.hp⟩ x d K = boundOf s x d K := fun x d K => boundOf_congr fun _ _ => ho _
    cases hop : o.op <;> simp only [hop, hpFree, Op.operands] at hf <;> simp only [valOp, hop, ho, hos, hF, hA, hS, hB]
    case load T x =>
      have hx : solid (opnd s x) = true := by
        rcases hf with hf | hf
        · cases hf
        · exact solids_opnds hf x (by simp)
      cases hv : opnd s x <;> rw [hv] at hx <;> simp [solid] at hx <;> rfl
    case indexAddr T x i =>
      have hx : solid (opnd s x) = true := by
        rcases hf with hf | hf
        · cases hf
        · exact solids_opnds hf x (by simp)
      cases hv : opnd s x <;> rw [hv] at hx <;> simp [solid] at hx <;> (cases E T <;> first | rfl | (cases opnd s i <;> rfl))
    case slice T x lo hi mx =>
      cases mx with
      | some m => rfl
      | none => simp only [hB]
    case call c =>
      cases hcal : c.callee with
      | invoke r n => rfl
      | value f =>
        have hs : solids (opnds s (f :: c.args.toList)) = true := by
          rcases hf with hf | hf
          · cases hf
          · simpa [hcal, Call.operands] using hf
        simp only [opnds, solids, Bool.and_eq_true] at hs
        simp only
        split
        · rename_i g first caps hfv
          rw [hfv] at hs
          simp only [solid, Bool.and_eq_true] at hs
          have : solids (first ++ opnds s c.args.toList ++ caps) = true := by rw [solids_append, solids_append, hs.1.1, hs.2, hs.1.2]; rfl
          rw [borrows_solid this, borrows_solid this]
        · rfl
      | builtin b =>
        cases b <;> simp only []
        case len =>
          have hs : solids (opnds s c.args.toList) = true := by
            rcases hf with hf | hf
            · cases hf
            · simpa [hcal, Call.operands] using hf
          split
          · rename_i x T h1 h2
            have hx := solids_opnds hs x (by rw [h1]; simp)
            split
            · unfold lenVal
              cases hv : opnd s x <;> rw [hv] at hx <;> simp [solid] at hx <;> rfl
            · rfl
            · rfl
          · rfl
  rw [h1]
  exact valOp_congr h rfl
end
end Go.Proofs.Ytbliiejdmgnkgaa.Pv
