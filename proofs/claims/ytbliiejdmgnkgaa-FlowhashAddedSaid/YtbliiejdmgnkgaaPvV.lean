/-
  The layer of values: what an evaluator says of a function holds of every run of it. For every program of the model that meets the named conditions.
-/
import Derived.Test.YtbliiejdmgnkgaaPvO
namespace Go.Proofs.Ytbliiejdmgnkgaa.Pv
open Go
set_option linter.unusedSimpArgs false
set_option linter.unusedVariables false
/-! drawn regions with operations that make or change objects -/

mutual
theorem mapO_solid (u : Nat → PV) (q : Nat → Nat → Nat → Nat → PV) : ∀ {p : PV}, solid p = true → mapO u q p = p
  | .int .., _ => rfl
  | .bool _, _ => rfl
  | .str _, _ => rfl
  | .nilptr, _ => rfl
  | .nilfn, _ => rfl
  | .nilsl, _ => rfl
  | .junk, h => by simp [solid] at h
  | .sl .., _ => rfl
  | .ptr _, _ => rfl
  | .os _, h => by simp [solid] at h
  | .op .., h => by simp [solid] at h
  | .agg cs, h => by simp only [mapO]; rw [mapOs_solid u q (by simpa [solid] using h)]
  | .tup cs, h => by simp only [mapO]; rw [mapOs_solid u q (by simpa [solid] using h)]
  | .fn f a b, h => by
    simp only [solid, Bool.and_eq_true] at h
    simp only [mapO]; rw [mapOs_solid u q h.1, mapOs_solid u q h.2]
theorem mapOs_solid (u : Nat → PV) (q : Nat → Nat → Nat → Nat → PV) : ∀ {p : List PV}, solids p = true → mapOs u q p = p
  | [], _ => rfl
  | p :: r, h => by
    simp only [solids, Bool.and_eq_true] at h
    simp only [mapOs]; rw [mapO_solid u q h.1, mapOs_solid u q h.2]
end

/-- maps that turn to nothing, or leave -/
def Fades (u : Nat → PV) (q : Nat → Nat → Nat → Nat → PV) : Prop := (∀ g, u g = .os g ∨ u g = .junk) ∧ ∀ g sz i f, q g sz i f = .op g sz i f ∨ q g sz i f = .junk

mutual
theorem solid_mapO {u : Nat → PV} {q : Nat → Nat → Nat → Nat → PV} (hf : Fades u q) : ∀ {p : PV}, solid (mapO u q p) = true → mapO u q p = p
  | .int .., _ => rfl
  | .bool _, _ => rfl
  | .str _, _ => rfl
  | .nilptr, _ => rfl
  | .nilfn, _ => rfl
  | .nilsl, _ => rfl
  | .junk, h => by simp [mapO, solid] at h
  | .sl .., _ => rfl
  | .ptr _, _ => rfl
  | .os g, h => by
    simp only [mapO] at h
    rcases hf.1 g with e | e <;> simp [e, solid] at h
  | .op g sz i f, h => by
    simp only [mapO] at h
    rcases hf.2 g sz i f with e | e <;> simp [e, solid] at h
  | .agg cs, h => by simp only [mapO] at h ⊢; rw [solids_mapOs hf (by simpa [solid] using h)]
  | .tup cs, h => by simp only [mapO] at h ⊢; rw [solids_mapOs hf (by simpa [solid] using h)]
  | .fn f a b, h => by
    simp only [mapO, solid, Bool.and_eq_true] at h
    simp only [mapO]; rw [solids_mapOs hf h.1, solids_mapOs hf h.2]
theorem solids_mapOs {u : Nat → PV} {q : Nat → Nat → Nat → Nat → PV} (hf : Fades u q) : ∀ {p : List PV}, solids (mapOs u q p) = true → mapOs u q p = p
  | [], _ => rfl
  | p :: r, h => by
    simp only [mapOs, solids, Bool.and_eq_true] at h
    simp only [mapOs]; rw [solid_mapO hf h.1, solids_mapOs hf h.2]
end

mutual
theorem mapO_imm (u : Nat → PV) (q : Nat → Nat → Nat → Nat → PV) : ∀ {p : PV}, isImm p = true → mapO u q p = p
  | .int .., _ => rfl
  | .bool _, _ => rfl
  | .str _, _ => rfl
  | .nilptr, _ => rfl
  | .nilfn, _ => rfl
  | .nilsl, _ => rfl
  | .junk, h => rfl
  | .sl .., _ => rfl
  | .ptr _, _ => rfl
  | .os _, h => by simp [isImm] at h
  | .op .., h => by simp [isImm] at h
  | .agg cs, h => by simp only [mapO]; rw [mapOs_imm u q (by simpa [isImm] using h)]
  | .tup cs, h => by simp only [mapO]; rw [mapOs_imm u q (by simpa [isImm] using h)]
  | .fn f a b, h => by
    simp only [isImm, Bool.and_eq_true] at h
    simp only [mapO]; rw [mapOs_imm u q h.1, mapOs_imm u q h.2]
theorem mapOs_imm (u : Nat → PV) (q : Nat → Nat → Nat → Nat → PV) : ∀ {p : List PV}, isImms p = true → mapOs u q p = p
  | [], _ => rfl
  | p :: r, h => by
    simp only [isImms, Bool.and_eq_true] at h
    simp only [mapOs]; rw [mapO_imm u q h.1, mapOs_imm u q h.2]
end

mutual
theorem solid_imm : ∀ {p : PV}, solid p = true → isImm p = true
  | .int .., _ => rfl
  | .bool _, _ => rfl
  | .str _, _ => rfl
  | .nilptr, _ => rfl
  | .nilfn, _ => rfl
  | .nilsl, _ => rfl
  | .junk, h => rfl
  | .sl .., _ => rfl
  | .ptr _, _ => rfl
  | .os _, h => by simp [solid] at h
  | .op .., h => by simp [solid] at h
  | .agg cs, h => by simp only [isImm]; exact solids_imms (by simpa [solid] using h)
  | .tup cs, h => by simp only [isImm]; exact solids_imms (by simpa [solid] using h)
  | .fn f a b, h => by
    simp only [solid, Bool.and_eq_true] at h
    simp only [isImm, Bool.and_eq_true]; exact ⟨solids_imms h.1, solids_imms h.2⟩
theorem solids_imms : ∀ {p : List PV}, solids p = true → isImms p = true
  | [], _ => rfl
  | p :: r, h => by
    simp only [solids, Bool.and_eq_true] at h
    simp only [isImms, Bool.and_eq_true]; exact ⟨solid_imm h.1, solids_imms h.2⟩
end

mutual
theorem RepI.isImm {M : Mem} : ∀ {p : PV} {v : Value}, RepI M p v → Pv.isImm p = true
  | _, _, .int .. => rfl
  | _, _, .bool _ => rfl
  | _, _, .str _ => rfl
  | _, _, .nilptr => rfl
  | _, _, .nilfn => rfl
  | _, _, .nilsl => rfl
  | _, _, .junk _ => rfl
  | _, _, .agg cs vs hh => by simp only [Pv.isImm]; exact RepIs.isImms hh
  | _, _, .tup cs vs hh => by simp only [Pv.isImm]; exact RepIs.isImms hh
  | _, _, .fn f a b va vb h1 h2 => by simp only [Pv.isImm, Bool.and_eq_true]; exact ⟨RepIs.isImms h1, RepIs.isImms h2⟩
  | _, _, .sl0 .. => rfl
  | _, _, .sl .. => rfl
  | _, _, .ptr .. => rfl
theorem RepIs.isImms {M : Mem} : ∀ {p : List PV} {v : List Value}, RepIs M p v → Pv.isImms p = true
  | _, _, .nil => rfl
  | _, _, .cons p v ps vs h1 h2 => by simp only [Pv.isImms, Bool.and_eq_true]; exact ⟨RepI.isImm h1, RepIs.isImms h2⟩
end

theorem killP_fades (g : Nat) : Fades (KillU g) (KillQ g) :=
  ⟨fun g' => by unfold KillU; split <;> simp, fun g' sz i f => by unfold KillQ; split <;> simp⟩

/-- the same slots, and the same objects -/
def SEqX (s s' : St) : Prop := (∀ i, s.get i = s'.get i) ∧ aget s.hp = aget s'.hp

theorem SEqX.refl (s : St) : SEqX s s := ⟨fun _ => rfl, rfl⟩
theorem SEqX.symm {s s' : St} (h : SEqX s s') : SEqX s' s := ⟨fun i => (h.1 i).symm, h.2.symm⟩
theorem SEqX.trans {s s' s'' : St} (h : SEqX s s') (h' : SEqX s' s'') : SEqX s s'' := ⟨fun i => (h.1 i).trans (h'.1 i), h.2.trans h'.2⟩

theorem get_putO (s : St) (d : Option Nat) (p : PV) (r : Nat) : (s.putO d p).get r = if d = some r then p else s.get r := by
  cases d with
  | none => simp [St.putO]
  | some i =>
    simp only [St.putO, St.get_put, Option.some.injEq]

theorem SEqX.putO {s s' : St} (h : SEqX s s') (d : Option Nat) (p : PV) : SEqX (s.putO d p) (s'.putO d p) :=
  ⟨fun r => by rw [get_putO, get_putO, h.1], by rw [St.putO_hp, St.putO_hp]; exact h.2⟩

/-- what an operation does to a state, ahead of writing its slot -/
structure Tau (τ : St → St) : Prop where
  cg : ∀ s s' r, s.get r = s'.get r → (τ s).get r = (τ s').get r
  ch : ∀ s s', aget s.hp = aget s'.hp → aget (τ s).hp = aget (τ s').hp
  get : ∀ s r, solid (s.get r) = true ∨ solid ((τ s).get r) = true → (τ s).get r = s.get r

theorem Tau.seq {τ : St → St} (h : Tau τ) {s s' : St} (he : SEqX s s') : SEqX (τ s) (τ s') := ⟨fun i => h.cg _ _ _ (he.1 i), h.ch _ _ he.2⟩

theorem Tau.id {τ : St → St} (h : ∀ s, τ s = s) : Tau τ := ⟨fun s s' r e => by rw [h, h]; exact e, fun s s' e => by rw [h, h]; exact e, fun s r _ => by rw [h]⟩

theorem Tau.hp {τ : St → St} {h : List (Nat × GObj)} (ht : ∀ s, τ s = ⟨s.vs, s.ts, h⟩) : Tau τ :=
  ⟨fun s s' r e => by rw [ht, ht]; exact e, fun s s' e => by rw [ht, ht], fun s r _ => by rw [ht]; rfl⟩

theorem Tau.put {τ : St → St} (h : Tau τ) {p : PV} (hp : solid p = true) (s : St) (d : Option Nat) : SEqX (τ (s.putO d p)) ((τ s).putO d p) := by
  refine ⟨fun r => ?_, ?_⟩
  · rw [get_putO]
    split
    · rename_i e
      have : (s.putO d p).get r = p := by rw [get_putO, if_pos e]
      rw [h.get _ r (.inl (by rw [this]; exact hp)), this]
    · rename_i e
      exact h.cg _ _ _ (by rw [get_putO, if_neg e])
  · rw [St.putO_hp]
    exact h.ch _ _ (by rw [St.putO_hp])

theorem newG_get (s : St) (g : Nat) (o : GObj) (r : Nat) : (s.newG g o).get r = killP g (s.get r) := St.get_drop s g r
theorem newG_hp (s : St) (g : Nat) (o : GObj) (x : Nat) : aget (s.newG g o).hp x = if g = x then some o else (aget s.hp x).map (GObj.map (killPs g)) := by
  simp only [St.newG, aget, St.drop, aget_mapH, aget_adel]
  by_cases h : g = x <;> simp [h]

theorem Tau.newG {τ : St → St} {g : Nat} {o : GObj} (ht : ∀ s, τ s = s.newG g o) : Tau τ := by
  refine ⟨fun s s' r e => ?_, fun s s' e => ?_, fun s r h => ?_⟩
  · rw [ht, ht, newG_get, newG_get, e]
  · funext x
    rw [ht, ht, newG_hp, newG_hp, e]
  · rw [ht, newG_get] at *
    rw [killP_eq] at *
    rcases h with h | h
    · exact mapO_solid _ _ h
    · exact solid_mapO (killP_fades g) h

theorem killW_fades (k1 k2 : Nat → Bool) : Fades (fun g => match k1 g with | true => .junk | false => .os g) (fun g sz i f => match k2 g with | true => .junk | false => .op g sz i f) :=
  ⟨fun g => by dsimp only; split <;> simp, fun g sz i f => by dsimp only; split <;> simp⟩

theorem Tau.handed {τ : St → St} {hpi hp' : List (Nat × GObj)} (ht : ∀ s, τ s = s.handed hpi hp') : Tau τ := by
  have hg : ∀ (s : St) (i : Nat), (s.handed hpi hp').get i = Pv.killW (inSet hpi hp') (fun g => inSet hpi hp' g && !ownId hpi g) (s.get i) := fun s i => St.get_mapV s _ rfl _ i
  refine ⟨fun s s' r e => ?_, fun s s' e => ?_, fun s r h => ?_⟩
  · rw [ht, ht, hg, hg, e]
  · funext x
    rw [ht, ht]
    simp only [St.handed, aget_append, aget_mapH, aget_delHp, e]
  · rw [ht, hg] at *
    unfold Pv.killW at *
    rcases h with h | h
    · exact mapO_solid _ _ h
    · exact solid_mapO (killW_fades _ _) h

/-- the kinds of operations, as far as their order matters -/
inductive Kd where
  | val | store | new (g : Nat) | oth

inductive Act1 (τ : St → St) (v : PV) (sol : Prop) : Kd → Prop
  | idl (k : Kd) : (∀ s, τ s = s) → solid v = true → Act1 τ v sol k
  | val : (∀ s, τ s = s) → Act1 τ v sol .val
  | store (h : List (Nat × GObj)) : (∀ s, τ s = ⟨s.vs, s.ts, h⟩) → Act1 τ v sol .store
  | new (g : Nat) (o : GObj) : (∀ s, τ s = s.newG g o) → (sol → ∀ g', o.map (killPs g') = o) → (∀ g', g' ≠ g → killP g' v = v) → Act1 τ v sol (.new g)
  | oth : Act1 τ v sol .oth

def kindOf (plan : List (Nat × Nat)) (o : Oper) : Kd :=
  match isEff plan o with
  | false => .val
  | true => match isStore o with
    | true => .store
    | false => match newId plan o with | some g => .new g | none => .oth

theorem killP_comm (g g' : Nat) (p : PV) : killP g (killP g' p) = killP g' (killP g p) := by
  have key : (∀ p : PV, mapO (KillU g) (KillQ g) (mapO (KillU g') (KillQ g') p) = mapO (KillU g') (KillQ g') (mapO (KillU g) (KillQ g) p)) := by
    intro p
    refine PV.rec (motive_1 := fun p => mapO (KillU g) (KillQ g) (mapO (KillU g') (KillQ g') p) = mapO (KillU g') (KillQ g') (mapO (KillU g) (KillQ g) p))
      (motive_2 := fun _ => True) (motive_3 := fun ps => mapOs (KillU g) (KillQ g) (mapOs (KillU g') (KillQ g') ps) = mapOs (KillU g') (KillQ g') (mapOs (KillU g) (KillQ g) ps))
      ?_ ?_ ?_ ?_ ?_ ?_ ?_ ?_ ?_ ?_ ?_ ?_ ?_ ?_ ?_ ?_ ?_ ?_ p <;> intros <;> try trivial
    all_goals simp only [mapO, mapOs, *]
    all_goals try simp only [KillU, KillQ]
    all_goals (split <;> (try split) <;> simp_all [mapO, KillU, KillQ])
  simpa only [killP_eq] using key p


theorem killPs_comm (g g' : Nat) (p : List PV) : killPs g (killPs g' p) = killPs g' (killPs g p) := by
  have := killP_comm g g' (.agg p)
  simp only [killP_eq, mapO] at this
  injection this

theorem GObj.map_comm (g g' : Nat) (o : GObj) : (o.map (killPs g')).map (killPs g) = (o.map (killPs g)).map (killPs g') := by
  unfold GObj.map
  cases ho : o.own
  · simp [ho]
  · simp only [ho, if_true]
    congr 1
    induction o.es with
    | nil => rfl
    | cons e es ih => simp only [mapE, ih, killPs_comm g g']

/-- which pairs of operations may go in either order -/
def Apart (ki kj : Kd) (vi vj : PV) : Prop :=
  match ki, kj with
  | .val, .val => True
  | .val, .store => True
  | .store, .val => True
  | .val, _ => solid vi = true
  | _, .val => solid vj = true
  | .new g, .new g' => g ≠ g'
  | _, _ => False

theorem put_put (s : St) {d d' : Option Nat} (p p' : PV) (h : ∀ i, d = some i → d' ≠ some i) : SEqX ((s.putO d p).putO d' p') ((s.putO d' p').putO d p) := by
  refine ⟨fun r => ?_, by rw [St.putO_hp, St.putO_hp, St.putO_hp, St.putO_hp]⟩
  simp only [get_putO]
  by_cases h1 : d = some r <;> by_cases h2 : d' = some r
  · exact absurd h2 (h r h1)
  · simp [h1, h2]
  · simp [h1, h2]
  · simp [h1, h2]

theorem comm_solid {τ τ' : St → St} (hτ : Tau τ) (hτ' : ∀ s, τ' s = s) {v v' : PV} (hv' : solid v' = true) {d d' : Option Nat} (hd : ∀ i, d = some i → d' ≠ some i) (s : St) :
    SEqX ((τ ((τ' s).putO d' v')).putO d v) ((τ' ((τ s).putO d v)).putO d' v') := by
  rw [hτ', hτ']
  refine ((hτ.put hv' s d').putO d v).trans ?_
  exact (put_put (τ s) v v' hd).symm

theorem comm_store {τ τ' : St → St} {h : List (Nat × GObj)} (hτ : ∀ s, τ s = ⟨s.vs, s.ts, h⟩) (hτ' : ∀ s, τ' s = s) {v v' : PV} {d d' : Option Nat} (hd : ∀ i, d = some i → d' ≠ some i) (s : St) :
    SEqX ((τ ((τ' s).putO d' v')).putO d v) ((τ' ((τ s).putO d v)).putO d' v') := by
  rw [hτ', hτ']
  have h1 : SEqX (τ (s.putO d' v')) ((τ s).putO d' v') := by
    refine ⟨fun r => ?_, by rw [hτ, hτ, St.putO_hp]⟩
    rw [get_putO, hτ, hτ]
    have := get_putO s d' v' r
    unfold St.get at *
    exact this
  exact (h1.putO d v).trans (put_put (τ s) v v' hd).symm

theorem comm_new {τ τ' : St → St} {g g' : Nat} {o o' : GObj} (hτ : ∀ s, τ s = s.newG g o) (hτ' : ∀ s, τ' s = s.newG g' o') (hne : g ≠ g') {v v' : PV} (h1 : o.map (killPs g') = o) (h2 : o'.map (killPs g) = o')
    (h3 : killP g' v = v) (h4 : killP g v' = v') {d d' : Option Nat} (hd : ∀ i, d = some i → d' ≠ some i) (s : St) :
    SEqX ((τ ((τ' s).putO d' v')).putO d v) ((τ' ((τ s).putO d v)).putO d' v') := by
  refine ⟨fun r => ?_, ?_⟩
  · simp only [get_putO, hτ, hτ', newG_get]
    by_cases e1 : d = some r <;> by_cases e2 : d' = some r
    · exact absurd e2 (hd r e1)
    · simp [e1, e2, h3]
    · simp [e1, e2, h4]
    · simp [e1, e2, killP_comm g g']
  · funext x
    simp only [St.putO_hp, hτ, hτ', newG_hp]
    by_cases e1 : g = x <;> by_cases e2 : g' = x
    · exact absurd (e1.trans e2.symm) hne
    · simp [e1, e2, h1]
    · simp [e1, e2, h2]
    · simp only [e1, e2, if_false, Option.map_map]
      cases aget s.hp x with
      | none => rfl
      | some ob => simp [GObj.map_comm g g']

theorem comm_acts {τ τ' : St → St} {v v' : PV} {sol sol' : Prop} {k k' : Kd} (hτ : Tau τ) (hτ' : Tau τ') (a : Act1 τ v sol k) (a' : Act1 τ' v' sol' k') (hap : Apart k k' v v') (hs : (∃ g g', k = .new g ∧ k' = .new g') → sol ∧ sol')
    {d d' : Option Nat} (hd : ∀ i, d = some i → d' ≠ some i) (s : St) : SEqX ((τ ((τ' s).putO d' v')).putO d v) ((τ' ((τ s).putO d v)).putO d' v') := by
  have hd' : ∀ i, d' = some i → d ≠ some i := fun i h1 h2 => hd i h2 h1
  cases a' with
  | idl _ e he => exact comm_solid hτ e he hd s
  | val e' =>
    cases a with
    | idl _ e he => exact (comm_solid hτ' e he hd' s).symm
    | val e =>
      rw [e, e', e, e']
      exact (put_put s v v' hd).symm
    | store h e => exact comm_store e e' hd s
    | new g o e _ _ => exact comm_solid hτ e' hap hd s
    | oth => exact comm_solid hτ e' hap hd s
  | store h' e' =>
    cases a with
    | idl _ e he => exact (comm_solid hτ' e he hd' s).symm
    | val e => exact (comm_store e' e hd' s).symm
    | store h e => exact hap.elim
    | new g o e _ _ => exact hap.elim
    | oth => exact hap.elim
  | new g' o' e' c1 c2 =>
    cases a with
    | idl _ e he => exact (comm_solid hτ' e he hd' s).symm
    | val e => exact (comm_solid hτ' e hap hd' s).symm
    | store h e => exact hap.elim
    | new g o e c3 c4 =>
      obtain ⟨s1, s2⟩ := hs ⟨g, g', rfl, rfl⟩
      have hne : g ≠ g' := hap
      exact comm_new e e' hne (c3 s1 g') (c1 s2 g) (c4 g' (Ne.symm hne)) (c2 g hne) hd s
    | oth => exact hap.elim
  | oth =>
    cases a with
    | idl _ e he => exact (comm_solid hτ' e he hd' s).symm
    | val e => exact (comm_solid hτ' e hap hd' s).symm
    | store h e => exact hap.elim
    | new g o e _ _ => exact hap.elim
    | oth => exact hap.elim

/-! what must have been done before, as bits -/

theorem edgeMask_bit {acc : List Nat} {k : Nat} : ∀ {es : List Edge}, (edgeMask acc es).testBit k = true → ∃ e ∈ es, Region.binds .any e = true ∧ (k = e.on ∨ (nthN acc e.on).testBit k = true)
  | [], h => by simp [edgeMask] at h
  | e :: r, h => by
    simp only [edgeMask] at h
    split at h
    · rename_i hb
      simp only [Nat.testBit_or, Bool.or_eq_true] at h
      rcases h with (h | h) | h
      · rw [Nat.testBit_two_pow] at h
        exact ⟨e, by simp, hb, .inl (by simpa using (of_decide_eq_true h).symm)⟩
      · exact ⟨e, by simp, hb, .inr h⟩
      · obtain ⟨e', h1, h2⟩ := edgeMask_bit h
        exact ⟨e', by simp [h1], h2⟩
    · obtain ⟨e', h1, h2⟩ := edgeMask_bit h
      exact ⟨e', by simp [h1], h2⟩

theorem ancsGo_spec : ∀ (l : List Oper) (acc : List Nat), (ancsGo l acc).length = acc.length + l.length ∧ (∀ i, i < acc.length → (ancsGo l acc)[i]? = acc[i]?) ∧
    ∀ j o, l[j]? = some o → ∃ acc', (ancsGo l acc)[acc.length + j]? = some (edgeMask acc' o.after.toList) ∧ acc'.length = acc.length + j ∧ ∀ i, i < acc'.length → (ancsGo l acc)[i]? = acc'[i]?
  | [], acc => ⟨by simp [ancsGo], fun i h => rfl, by simp⟩
  | o :: r, acc => by
    obtain ⟨h1, h2, h3⟩ := ancsGo_spec r (acc ++ [edgeMask acc o.after.toList])
    simp only [List.length_append, List.length_cons, List.length_nil] at h1 h2 h3
    refine ⟨by simp only [ancsGo, List.length_cons]; omega, fun i hi => ?_, ?_⟩
    · simp only [ancsGo]
      rw [h2 i (by omega), List.getElem?_append_left hi]
    · intro j o' hj
      simp only [ancsGo]
      cases j with
      | zero =>
        simp at hj; subst hj
        refine ⟨acc, ?_, rfl, fun i hi => ?_⟩
        · rw [Nat.add_zero, h2 _ (by omega)]; simp
        · rw [h2 i (by omega), List.getElem?_append_left hi]
      | succ j =>
        obtain ⟨acc', q1, q2, q3⟩ := h3 j o' (by simpa using hj)
        exact ⟨acc', by rw [← q1]; congr 1; omega, by omega, q3⟩

theorem ancs_closed {ops : Array Oper} (hok : drawOk ops = true) {X : Nat → Prop} (hcl : ∀ (j : Nat) (o : Oper) (e : Edge), ops[j]? = some o → X j → e ∈ o.after → Region.binds .any e = true → X e.on) {k : Nat} :
    ∀ (i : Nat) (o : Oper), ops[i]? = some o → (∀ e ∈ o.after, Region.binds .any e = true → X e.on) → (nthN (ancs ops.toList) i).testBit k = true → X k := by
  intro i
  induction i using Nat.strongRecOn with
  | ind i ih =>
    intro o ho hp hb
    obtain ⟨h1, h2, h3⟩ := ancsGo_spec ops.toList []
    obtain ⟨acc', q1, q2, q3⟩ := h3 i o (by simpa using ho)
    simp only [List.length_nil, Nat.zero_add] at q1 q2
    have hn : nthN (ancs ops.toList) i = edgeMask acc' o.after.toList := by unfold nthN ancs; rw [q1]
    rw [hn] at hb
    obtain ⟨e, he, hbd, hk⟩ := edgeMask_bit hb
    have he' : e ∈ o.after := by simpa using he
    have hX := hp e he' hbd
    rcases hk with rfl | hk
    · exact hX
    · have hlt := (drawOk_at hok ho).1 e he' hbd
      have hlt2 : e.on < ops.size := by have := (Array.getElem?_eq_some_iff.1 ho).1; omega
      have hoe : ops[e.on]? = some ops[e.on] := by simp [hlt2]
      refine ih e.on hlt _ hoe (fun e' he' hb' => hcl e.on _ e' hoe hX he' hb') ?_
      have : nthN (ancs ops.toList) e.on = nthN acc' e.on := by
        unfold nthN ancs
        rw [q3 e.on (by omega)]
      rw [this]; exact hk

theorem cls_zero {ms : List Nat} {i : Nat} : ∀ {es : List (Nat × Bool)}, cls ms i es = 0 → ∀ e st, (e, st) ∈ es → e = i ∨ ordB ms i e = true
  | [], _, e, st, h => by simp at h
  | (e', st') :: r, hc, e, st, h => by
    simp only [cls] at hc
    split at hc
    · rename_i hb
      rcases List.mem_cons.1 h with h | h
      · cases h
        simp only [Bool.or_eq_true, Nat.beq_eq] at hb
        exact hb
      · exact cls_zero hc e st h
    · split at hc
      · split at hc
        · cases hc
        · rename_i n hn; exact absurd hc hn
      · cases hc

theorem cls_two {ms : List Nat} {i : Nat} : ∀ {es : List (Nat × Bool)}, cls ms i es ≠ 2 → ∀ e, (e, false) ∈ es → e = i ∨ ordB ms i e = true
  | [], _, e, h => by simp at h
  | (e', st') :: r, hc, e, h => by
    simp only [cls] at hc
    split at hc
    · rename_i hb
      rcases List.mem_cons.1 h with h | h
      · cases h
        simp only [Bool.or_eq_true, Nat.beq_eq] at hb
        exact hb
      · exact cls_two hc e h
    · split at hc
      · rcases List.mem_cons.1 h with h | h
        · cases h
        · refine cls_two ?_ e h
          intro e2
          rw [e2] at hc
          exact hc rfl
      · exact absurd rfl hc

theorem cls_le {ms : List Nat} {i : Nat} : ∀ {es : List (Nat × Bool)}, cls ms i es = 0 ∨ cls ms i es = 1 ∨ cls ms i es = 2
  | [] => .inl rfl
  | (e', st') :: r => by
    simp only [cls]
    split
    · exact cls_le
    · split
      · rcases cls_le (ms := ms) (i := i) (es := r) with h | h | h <;> simp [h]
      · simp

theorem effList_mem {plan : List (Nat × Nat)} : ∀ {l : List Oper} {i j : Nat} {o : Oper}, l[j]? = some o → isEff plan o = true → (i + j, isStore o) ∈ effList plan i l
  | [], i, j, o, h, _ => by simp at h
  | o' :: r, i, j, o, h, he => by
    simp only [effList]
    cases j with
    | zero =>
      simp at h; subst h
      simp [he]
    | succ j =>
      have := effList_mem (plan := plan) (l := r) (i := i + 1) (j := j) (by simpa using h) he
      rw [show i + 1 + j = i + (j + 1) by omega] at this
      split
      · exact List.mem_cons_of_mem _ this
      · exact this

def effPair (plan : List (Nat × Nat)) (ops : List Oper) (ms : List Nat) (i j : Nat) : Bool :=
  Nat.beq i j || ordB ms i j || (match ops[i]?, ops[j]? with
    | some o, some o' => match newId plan o, newId plan o' with
      | some g, some g' => !Nat.beq g g'
      | _, _ => false
    | _, _ => false)

/-- effects stand in an order, or make objects that have nothing to do with each other -/
def effOk (plan : List (Nat × Nat)) (ops : List Oper) : Bool :=
  (effList plan 0 ops).all fun x => (effList plan 0 ops).all fun y => effPair plan ops (ancs ops) x.1 y.1

end Go.Proofs.Ytbliiejdmgnkgaa.Pv
