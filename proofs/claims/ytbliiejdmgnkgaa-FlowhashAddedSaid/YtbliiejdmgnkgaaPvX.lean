/-
  The layer of values: what an evaluator says of a function holds of every run of it. For every program of the model that meets the named conditions.
-/
import Derived.Test.YtbliiejdmgnkgaaPvW
namespace Go.Proofs.Ytbliiejdmgnkgaa.Pv
open Go
set_option linter.unusedSimpArgs false
set_option linter.unusedVariables false
set_option linter.unnecessarySimpa false

section
variable {ρ : Option Nat} {P : Program} {E : Env} {C : Ctr} {H : Hnd} {plan : List (Nat × Nat)} {w : World} {N : Cx} {s : St} {a : Act} {M : Mem} {F : Frm} {δ : Nat → Value}

/-- what one operation did in the order of the text; c: how free it is -/
structure DidX (ρ : Option Nat) (P : Program) (N : Cx) (F : Frm) (plan : List (Nat × Nat)) (ops : List Oper) (c : Nat) (o : Oper) (s : St) (τ : St → St) (v : PV) : Prop where
  tau : Tau τ
  act : Act1 τ v (c = 2) (kindOf plan o)
  sol : c = 2 → isEff plan o = false → solid v = true
  does : (GuardOn ops o s ∧ (c = 2 → ∀ x ∈ o.op.operands.toList, solid (opnd s x) = true) ∧ ∀ s', (∀ x ∈ o.op.operands.toList, opnd s x = opnd s' x) → (c = 0 ∧ aget s.hp = aget s'.hp ∨ c ≠ 0 ∧ (isEff plan o = true → (newId plan o).isSome = true)) →
      ∀ a w M δ Q, Rel N s' a w M F δ → (∀ i, o.dst = some i → N.Ok i) → o.wpIn (FnR ρ) 0 P a w (GoodK N M F fun t => SEqX t ((τ s').putO o.dst v)) Q) ∨
    (GuardOff ops o s ∧ (∀ s, τ s = s) ∧ v = .tup [])

theorem Act1.imp {τ : St → St} {v : PV} {sol sol' : Prop} {k : Kd} (h : sol' → sol) (a : Act1 τ v sol k) : Act1 τ v sol' k := by
  cases a with
  | idl _ e he => exact .idl _ e he
  | val e => exact .val e
  | store h e => exact .store h e
  | new g o e c1 c2 => exact .new g o e (fun hc => c1 (h hc)) c2
  | oth => exact .oth

theorem looks_solid {c : Nat} {o : Oper} (h : looksOk c o s = true) : (c = 2 → ∀ x ∈ o.op.operands.toList, solid (opnd s x) = true) ∧ (c ≠ 0 → hpFree o = true ∨ solids (opnds s o.op.operands.toList) = true) := by
  unfold looksOk at h
  constructor
  · intro h2 x hx
    subst h2
    exact solids_opnds h x hx
  · intro h0
    split at h
    · exact absurd rfl h0
    · simpa using h
    · exact .inr h

/-- the order of the text, operation by operation -/
theorem trace_ofD (hE : ∀ T, TDok P T (E T)) (hC : ∀ f as r, C f as r → FC P f as r) (hH : ∀ f as hp r hp', H f as hp r hp' → FH P f as hp r hp') {ops : List Oper} {gs ms : List Nat} {es : List (Nat × Bool)} {K : St → Prop} :
    ∀ (l : List Oper) (i : Nat) (s : St), wprD E C H plan ops gs ms es i l K s →
    ∃ (τ : Nat → St → St) (v : Nat → PV) (S : Nat → St) (sE : St), (∀ k, Tau (τ k)) ∧ SEqX (S 0) s ∧ (∀ k o, l[k]? = some o → DidX ρ P N F plan ops (cls ms (i + k) es) o (S k) (τ k) (v k) ∧ SEqX (S (k + 1)) ((τ k (S k)).putO o.dst (v k))) ∧ K sE ∧ SEqX (S l.length) sE
  | [], i, s, h => ⟨fun _ s => s, fun _ => .junk, fun _ => s, s, fun _ => .id fun _ => rfl, .refl s, by simp, h, .refl s⟩
  | o :: r, i, s, h => by
    simp only [wprD] at h
    have next : ∀ (τ0 : St → St) (v0 : PV) (s1 : St), DidX ρ P N F plan ops (cls ms i es) o s τ0 v0 → SEqX s1 ((τ0 s).putO o.dst v0) → wprD E C H plan ops gs ms es (i + 1) r K s1 →
        ∃ (τ : Nat → St → St) (v : Nat → PV) (S : Nat → St) (sE : St), (∀ k, Tau (τ k)) ∧ SEqX (S 0) s ∧ (∀ k o', (o :: r)[k]? = some o' → DidX ρ P N F plan ops (cls ms (i + k) es) o' (S k) (τ k) (v k) ∧ SEqX (S (k + 1)) ((τ k (S k)).putO o'.dst (v k))) ∧
          K sE ∧ SEqX (S (o :: r).length) sE := by
      intro τ0 v0 s1 hd hs h1
      obtain ⟨τ, v, S, sE, e0, e1, e2, e3, e4⟩ := trace_ofD hE hC hH r (i + 1) s1 h1
      refine ⟨fun k => match k with | 0 => τ0 | k + 1 => τ k, fun k => match k with | 0 => v0 | k + 1 => v k, fun k => match k with | 0 => s | k + 1 => S k, sE, fun k => (match k with | 0 => hd.tau | k + 1 => e0 k), .refl s, ?_, e3, e4⟩
      intro k o' hk
      cases k with
      | zero => simp at hk; subst hk; exact ⟨hd, e1.trans hs⟩
      | succ k =>
        have := e2 k o' (by simpa using hk)
        rw [show i + 1 + k = i + (k + 1) by omega] at this
        exact this
    have split : ∀ (s1 : St), (match gs.contains i with | true => splitB o.dst (wprD E C H plan ops gs ms es (i + 1) r K) s1 | false => wprD E C H plan ops gs ms es (i + 1) r K s1) → ∃ s2, SEqX s2 s1 ∧ wprD E C H plan ops gs ms es (i + 1) r K s2 := by
      intro s1 hk
      split at hk
      · unfold splitB at hk
        split at hk
        · rename_i d hdst
          split at hk
          · rename_i c hc
            cases c with
            | true =>
              refine ⟨_, ⟨fun j => ?_, by rw [St.put_hp]⟩, hk⟩
              rw [St.get_put]; split
              · rename_i e; subst e; rw [hc]
              · rfl
            | false =>
              refine ⟨_, ⟨fun j => ?_, by rw [St.put_hp]⟩, hk⟩
              rw [St.get_put]; split
              · rename_i e; subst e; rw [hc]
              · rfl
          · exact ⟨s1, .refl _, hk⟩
        · exact ⟨s1, .refl _, hk⟩
      · exact ⟨s1, .refl _, hk⟩
    rcases guarded_word h with ⟨hg, h⟩ | ⟨hg, h⟩
    · have hl : looksOk (cls ms i es) o s = true ∧ (match isEff plan o with
        | true => stepOp E C H plan o (fun s' => match gs.contains i with | true => splitB o.dst (wprD E C H plan ops gs ms es (i + 1) r K) s' | false => wprD E C H plan ops gs ms es (i + 1) r K s') s
        | false => valOp E C o s (fun p => ifB (resOk (cls ms i es) p) (match gs.contains i with | true => splitB o.dst (wprD E C H plan ops gs ms es (i + 1) r K) (s.putO o.dst p) | false => wprD E C H plan ops gs ms es (i + 1) r K (s.putO o.dst p)))) := by
        unfold ifB at h
        split at h
        · rename_i hb; exact ⟨hb, h⟩
        · exact h.elim
      obtain ⟨hl, h⟩ := hl
      obtain ⟨l1, l2⟩ := looks_solid hl
      cases heff : isEff plan o with
      | true =>
        simp only [heff] at h
        obtain ⟨τ, v, t1, t2, t3, t4⟩ := step_split hE heff h
        obtain ⟨s2, q1, q2⟩ := split _ t3
        refine next τ v s2 ⟨t1, t2.imp ?_, fun hc h0 => by simp [heff] at h0, .inl ⟨hg, l1, ?_⟩⟩ q1 q2
        · intro hc
          rw [hc] at hl
          exact hl
        · intro s' hx hh a w M δ Q hr hd
          refine stepOp_wp hE hC hH (t4 s' _ hx ?_ fun t ht => ht) hr hd
          rcases hh with ⟨_, hh⟩ | ⟨_, hh⟩
          · exact .inr hh
          · exact .inl (hh heff)
      | false =>
        simp only [heff] at h
        obtain ⟨p, hy, hk⟩ := valOp_split h
        have hp : resOk (cls ms i es) p = true ∧ (match gs.contains i with | true => splitB o.dst (wprD E C H plan ops gs ms es (i + 1) r K) (s.putO o.dst p) | false => wprD E C H plan ops gs ms es (i + 1) r K (s.putO o.dst p)) := by
          unfold ifB at hk
          split at hk
          · rename_i hb; exact ⟨hb, hk⟩
          · exact hk.elim
        obtain ⟨s2, q1, q2⟩ := split _ hp.2
        refine next (fun s => s) p s2 ⟨.id fun _ => rfl, ?_, fun hc _ => ?_, .inl ⟨hg, l1, ?_⟩⟩ q1 q2
        · unfold kindOf; rw [heff]; exact .val fun _ => rfl
        · have := hp.1; rw [hc] at this; exact this
        · intro s' hx hh a w M δ Q hr hd
          refine val_step hE hC (K := fun t => SEqX t (s'.putO o.dst p)) ?_ hr hd
          rcases hh with ⟨_, hh⟩ | ⟨h0, hh⟩
          · rw [← valOp_congr hx hh]
            exact hy _ (.refl _)
          · rw [← valOp_free (l2 h0) hx]
            exact hy _ (.refl _)
    · exact next (fun s => s) (.tup []) _ ⟨.id fun _ => rfl, .idl _ (fun _ => rfl) rfl, fun hc _ => rfl, .inr ⟨hg, fun _ => rfl, rfl⟩⟩ (.refl _) h

/-- the operations of X, carried out in the order of the text -/
def runT (τ : Nat → St → St) (v : Nat → PV) (ds : Nat → Option Nat) (X : Nat → Bool) (s0 : St) : Nat → St
  | 0 => s0
  | k + 1 => match X k with | true => (τ k (runT τ v ds X s0 k)).putO (ds k) (v k) | false => runT τ v ds X s0 k

section
variable {τ : Nat → St → St} {v : Nat → PV} {ds : Nat → Option Nat} {s0 : St}

theorem runT_congr {X Y : Nat → Bool} : ∀ {k : Nat}, (∀ j, j < k → X j = Y j) → runT τ v ds X s0 k = runT τ v ds Y s0 k
  | 0, _ => rfl
  | k + 1, h => by
    simp only [runT]
    rw [runT_congr (fun j hj => h j (by omega)), h k (by omega)]

/-- one more operation: it may come last -/
theorem runT_insert (hτ : ∀ k, Tau (τ k)) {X : Nat → Bool} {i n : Nat} (hin : i < n) (hi : X i = false)
    (hc : ∀ k, i < k → k < n → X k = true → ∀ s, SEqX ((τ k ((τ i s).putO (ds i) (v i))).putO (ds k) (v k)) ((τ i ((τ k s).putO (ds k) (v k))).putO (ds i) (v i))) :
    ∀ k, i < k → k ≤ n → SEqX (runT τ v ds (fun j => decide (j = i) || X j) s0 k) ((τ i (runT τ v ds X s0 k)).putO (ds i) (v i))
  | 0, h, _ => absurd h (Nat.not_lt_zero _)
  | k + 1, h, hn => by
    simp only [runT]
    by_cases hk : k = i
    · subst hk
      simp only [decide_true, Bool.true_or, hi]
      rw [runT_congr (X := fun j => decide (j = k) || X j) (Y := X) (fun j hj => by simp [show j ≠ k by omega])]
      exact .refl _
    · have ih := runT_insert hτ hin hi hc k (by omega) (by omega)
      simp only [hk, decide_false, Bool.false_or]
      cases hX : X k with
      | false => exact ih
      | true => exact (((hτ k).seq ih).putO _ _).trans (hc k (by omega) (by omega) hX _)

/-- an operation sees the same, whether the operations that do not touch what it looks at have been done or not -/
theorem runT_view {X : Nat → Bool} {A : Nat → Bool} {R : Nat → Prop} (hτ : ∀ k, Tau (τ k)) (hpq : Bool) :
    ∀ n, (∀ k, k < n → X k ≠ A k → (∀ s r, R r → (τ k s).get r = s.get r) ∧ (∀ r, R r → ds k ≠ some r) ∧ (hpq = true → ∀ s, aget (τ k s).hp = aget s.hp)) →
      (∀ r, R r → (runT τ v ds X s0 n).get r = (runT τ v ds A s0 n).get r) ∧ (hpq = true → aget (runT τ v ds X s0 n).hp = aget (runT τ v ds A s0 n).hp)
  | 0, _ => ⟨fun _ _ => rfl, fun _ => rfl⟩
  | k + 1, h => by
    obtain ⟨i1, i2⟩ := runT_view hτ hpq k (fun j hj => h j (by omega))
    simp only [runT]
    by_cases hXA : X k = A k
    · rw [← hXA]
      cases X k with
      | false => exact ⟨i1, i2⟩
      | true =>
        refine ⟨fun r hr => ?_, fun hp => ?_⟩
        · rw [get_putO, get_putO]
          split
          · rfl
          · exact (hτ k).cg _ _ _ (i1 r hr)
        · rw [St.putO_hp, St.putO_hp]
          exact (hτ k).ch _ _ (i2 hp)
    · obtain ⟨h1, h2, h3⟩ := h k (by omega) hXA
      have key : ∀ s, (∀ r, R r → ((τ k s).putO (ds k) (v k)).get r = s.get r) ∧ (hpq = true → aget ((τ k s).putO (ds k) (v k)).hp = aget s.hp) := by
        intro s
        refine ⟨fun r hr => ?_, fun hp => ?_⟩
        · rw [get_putO, if_neg (h2 r hr)]; exact h1 s r hr
        · rw [St.putO_hp]; exact h3 hp s
      cases hX : X k <;> cases hA : A k
      · exact absurd (hX.trans hA.symm) hXA
      · refine ⟨fun r hr => ?_, fun hp => ?_⟩
        · rw [(key _).1 r hr]; exact i1 r hr
        · rw [(key _).2 hp]; exact i2 hp
      · refine ⟨fun r hr => ?_, fun hp => ?_⟩
        · rw [(key _).1 r hr]; exact i1 r hr
        · rw [(key _).2 hp]; exact i2 hp
      · exact absurd (hX.trans hA.symm) hXA

/-- a value without unknowns stays as long as nobody writes its slot -/
theorem runT_solid {X : Nat → Bool} (hτ : ∀ k, Tau (τ k)) {r : Nat} {p : PV} (hp : solid p = true) {k : Nat} (h0 : (runT τ v ds X s0 k).get r = p) :
    ∀ n, k ≤ n → (∀ m, k ≤ m → m < n → X m = true → ds m ≠ some r) → (runT τ v ds X s0 n).get r = p
  | 0, hle, _ => by have : k = 0 := by omega
                    subst this; exact h0
  | n + 1, hle, hw => by
    by_cases hk : k = n + 1
    · subst hk; exact h0
    · have ih := runT_solid hτ hp h0 n (by omega) (fun m h1 h2 => hw m h1 (by omega))
      simp only [runT]
      cases hX : X n with
      | false => exact ih
      | true =>
        rw [get_putO, if_neg (hw n (by omega) (by omega) hX)]
        rw [(hτ n).get _ r (.inl (by rw [ih]; exact hp))]
        exact ih

/-- and it was there ahead -/
theorem runT_solid_back {X : Nat → Bool} (hτ : ∀ k, Tau (τ k)) {r : Nat} {p : PV} (hp : solid p = true) {k : Nat} :
    ∀ n, k ≤ n → (runT τ v ds X s0 n).get r = p → (∀ m, k ≤ m → m < n → X m = true → ds m ≠ some r) → (runT τ v ds X s0 k).get r = p
  | 0, hle, h, _ => by have : k = 0 := by omega
                       subst this; exact h
  | n + 1, hle, h, hw => by
    by_cases hk : k = n + 1
    · subst hk; exact h
    · refine runT_solid_back hτ hp n (by omega) ?_ (fun m h1 h2 => hw m h1 (by omega))
      simp only [runT] at h
      cases hX : X n with
      | false => rw [hX] at h; exact h
      | true =>
        rw [hX] at h
        simp only at h
        rw [get_putO, if_neg (hw n (by omega) (by omega) hX)] at h
        rw [← (hτ n).get _ r (.inr (by rw [h]; exact hp))]
        exact h
theorem runT_none : ∀ n, runT τ v ds (fun _ => false) s0 n = s0
  | 0 => rfl
  | n + 1 => by simp only [runT]; exact runT_none n

/-- the order of the text -/
theorem runT_text {S : Nat → St} {n : Nat} (hτ : ∀ k, Tau (τ k)) (h0 : SEqX (S 0) s0) (h1 : ∀ k, k < n → SEqX (S (k + 1)) ((τ k (S k)).putO (ds k) (v k))) {i : Nat} (hi : i ≤ n) :
    ∀ k, (k ≤ i → SEqX (runT τ v ds (fun j => decide (j < i)) s0 k) (S k)) ∧ (i ≤ k → SEqX (runT τ v ds (fun j => decide (j < i)) s0 k) (S i))
  | 0 => ⟨fun _ => h0.symm, fun h => by have : i = 0 := by omega
                                        subst this; exact h0.symm⟩
  | k + 1 => by
    obtain ⟨i1, i2⟩ := runT_text hτ h0 h1 hi k
    have a1 : k + 1 ≤ i → SEqX (runT τ v ds (fun j => decide (j < i)) s0 (k + 1)) (S (k + 1)) := by
      intro h
      simp only [runT]
      rw [show decide (k < i) = true by simp; omega]
      exact (((hτ k).seq (i1 (by omega))).putO _ _).trans (h1 k (by omega)).symm
    refine ⟨a1, fun h => ?_⟩
    by_cases hk : i = k + 1
    · subst hk; exact a1 (Nat.le_refl _)
    · simp only [runT]
      rw [show decide (k < i) = false by simp; omega]
      exact i2 (by omega)
end

theorem cls_zero_of {ms : List Nat} {i : Nat} : ∀ {es : List (Nat × Bool)}, (∀ e st, (e, st) ∈ es → e = i ∨ ordB ms i e = true) → cls ms i es = 0
  | [], _ => rfl
  | (e', st') :: r, h => by
    simp only [cls]
    have : (Nat.beq e' i || ordB ms i e') = true := by
      rcases h e' st' (by simp) with h | h
      · simp [h]
      · simp [h]
    rw [this]
    exact cls_zero_of fun e st he => h e st (by simp [he])

theorem ordB_comm (ms : List Nat) (i j : Nat) : ordB ms i j = ordB ms j i := by unfold ordB; exact Bool.or_comm _ _

theorem effOk_at {ops : List Oper} (h : effOk plan ops = true) {i j : Nat} {o o' : Oper} (hi : ops[i]? = some o) (hj : ops[j]? = some o') (ei : isEff plan o = true) (ej : isEff plan o' = true) (hne : i ≠ j) (hu : ordB (ancs ops) i j = false) :
    ∃ g g', newId plan o = some g ∧ newId plan o' = some g' ∧ g ≠ g' := by
  unfold effOk at h
  rw [List.all_eq_true] at h
  have h1 := h _ (effList_mem (i := 0) hi ei)
  rw [List.all_eq_true] at h1
  have h2 := h1 _ (effList_mem (i := 0) hj ej)
  simp only [Nat.zero_add, effPair, hi, hj, hu, Bool.or_false, Bool.or_eq_true, Nat.beq_eq] at h2
  rcases h2 with h2 | h2
  · exact absurd h2 hne
  · split at h2
    · rename_i g g' e1 e2
      refine ⟨g, g', e1, e2, fun e => ?_⟩
      subst e
      simp at h2
    · cases h2

theorem newId_kind {o : Oper} {g : Nat} (he : isEff plan o = true) (h : newId plan o = some g) : kindOf plan o = .new g ∧ isStore o = false := by
  have hs : isStore o = false := by
    unfold isStore
    unfold newId at h
    split
    · rename_i e; rw [e] at h; cases h
    · rfl
  exact ⟨by unfold kindOf; rw [he, hs, h], hs⟩

theorem drawnE_wp {ops : Array Oper} (hok : drawOk ops = true) (hef : effOk plan ops.toList = true) (hdst : ∀ o ∈ ops.toList, dstOk N.n N.ro o = true) {K : St → Prop} {s0 : St} {M0 : Mem}
    {Q : Exit → Act → World → Prop} (hQ : ∀ a w, GoodK N M0 F K a w → Q .normal a w) {τ : Nat → St → St} {v : Nat → PV} {S : Nat → St} {sE : St} (hτ : ∀ k, Tau (τ k)) (h0 : SEqX (S 0) s0)
    (h1 : ∀ k o, ops.toList[k]? = some o → DidX ρ P N F plan ops.toList (cls (ancs ops.toList) k (effList plan 0 ops.toList)) o (S k) (τ k) (v k) ∧ SEqX (S (k + 1)) ((τ k (S k)).putO o.dst (v k))) (hK : K sE) (hE' : SEqX (S ops.size) sE) :
    ∀ (fuel : Nat) (listed : Array Bool) (a : Act) (w : World) (s : St) (M : Mem) (δ : Nat → Value), listed.size = ops.size → Rel N s a w M F δ → M0.le M → SEqX s (runT τ v (opDst ops.toList) (fun j => listed.getD j false) s0 ops.size) →
      (∀ j o e, ops[j]? = some o → listed.getD j false = true → e ∈ o.after → Region.binds .any e = true → listed.getD e.on false = true) → (∀ j, listed.getD j false = true → j < ops.size) →
      (listed.toList.filter (! ·)).length ≤ fuel → wpAnyIn (FnR ρ) 0 P .any ops Q fuel listed a w := by
  have hdk : ∀ k o, ops[k]? = some o → opDst ops.toList k = o.dst := fun k o hk => by unfold opDst; rw [show ops.toList[k]? = some o by simpa using hk]
  have h1' : ∀ k, k < ops.size → SEqX (S (k + 1)) ((τ k (S k)).putO (opDst ops.toList k) (v k)) := by
    intro k hk
    have ho : ops[k]? = some ops[k] := by simp [hk]
    rw [hdk k _ ho]
    exact (h1 k _ (by simpa using ho)).2
  have relX : ∀ {s s' : St} {a : Act} {w : World} {M : Mem} {δ : Nat → Value}, Rel N s a w M F δ → SEqX s s' → Rel N s' a w M F δ := by
    intro s s' a w M δ h he
    refine ⟨h.def0, h.size, h.ro, fun i => by rw [← he.1]; exact h.slot i, ⟨h.inv.m, h.inv.f, h.inv.mf, h.inv.io, ?_, ?_⟩⟩
    · intro g o hg; rw [← he.2] at hg; exact h.inv.own g o hg
    · intro g g' o o' hne hg hg'; rw [← he.2] at hg hg'; exact h.inv.dis g g' o o' hne hg hg'
  have hend : ∀ (listed : Array Bool) (a : Act) (w : World) (s : St) (M : Mem) (δ : Nat → Value), listed.size = ops.size → Rel N s a w M F δ → M0.le M → SEqX s (runT τ v (opDst ops.toList) (fun j => listed.getD j false) s0 ops.size) →
      Region.ready .any ops listed = [] → Q .normal a w := by
    intro listed a w s M δ hs hr hm hag hready
    have hall : ∀ j, j < ops.size → listed.getD j false = true := by
      intro j
      induction j using Nat.strongRecOn with
      | ind j ih =>
        intro hj
        cases hl : listed.getD j false with
        | true => rfl
        | false =>
          exfalso
          have hm : j ∈ Region.ready .any ops listed := by
            refine mem_ready.2 ⟨?_, ops[j], by simp [hj], fun e he hb => ?_⟩
            · have : j < listed.size := by omega
              simpa [Array.getD_eq_getD_getElem?, this] using hl
            · have hlt := (drawOk_at hok (i := j) (o := ops[j]) (by simp [hj])).1 e he hb
              exact ih e.on hlt (by omega)
          rw [hready] at hm
          cases hm
    rw [runT_congr (Y := fun j => decide (j < ops.size)) (fun j hj => by rw [hall j hj]; simp [hj])] at hag
    have := (runT_text (n := ops.size) hτ h0 h1' (Nat.le_refl _) ops.size).1 (Nat.le_refl _)
    exact hQ a w ⟨sE, M, δ, hK, hm, relX hr ((hag.trans this).trans hE')⟩
  intro fuel
  induction fuel with
  | zero =>
    intro listed a w s M δ hs hr hm hag hcl hlt hf
    have hempty : Region.ready .any ops listed = [] := by
      apply List.eq_nil_iff_forall_not_mem.2
      intro i hi
      obtain ⟨e1, o, e2, _⟩ := mem_ready.1 hi
      have hil : i < listed.size := by rw [hs]; exact (Array.getElem?_eq_some_iff.1 e2).1
      have hmem : listed[i] ∈ listed.toList.filter (! ·) := by
        refine List.mem_filter.2 ⟨by simp, ?_⟩
        simpa [Array.getD_eq_getD_getElem?, hil] using e1
      have : listed.toList.filter (! ·) = [] := List.eq_nil_of_length_eq_zero (by omega)
      rw [this] at hmem
      cases hmem
    exact ⟨hempty, hend listed a w s M δ hs hr hm hag hempty⟩
  | succ fuel ih =>
    intro listed a w s M δ hs hr hm hag hcl hlt hf
    refine ⟨fun h => hend listed a w s M δ hs hr hm hag h, ?_⟩
    intro i hi
    obtain ⟨hun, o, ho, hpred⟩ := mem_ready.1 hi
    have hilt : i < ops.size := (Array.getElem?_eq_some_iff.1 ho).1
    have hil : i < listed.size := by rw [hs]; exact hilt
    have hun' : listed.getD i false = false := by simpa [Array.getD_eq_getD_getElem?, hil] using hun
    have hot : ops.toList[i]? = some o := by simpa using ho
    obtain ⟨did, _⟩ := h1 i o hot
    let X : Nat → Bool := fun j => listed.getD j false
    have hXi : X i = false := hun'
    have htext := (runT_text (n := ops.size) hτ h0 h1' (i := i) (by omega) ops.size).2 (by omega)
    -- who stands in no order to i
    have hunord : ∀ k, k < ops.size → X k ≠ decide (k < i) → k ≠ i ∧ ordB (ancs ops.toList) i k = false := by
      intro k hk hX
      have hki : k ≠ i := by intro e; subst e; exact hX (by rw [hXi]; simp)
      refine ⟨hki, ?_⟩
      have hok' : ops[k]? = some ops[k] := by simp [hk]
      have low : ∀ (x y : Nat) (o' : Oper), ops[x]? = some o' → (nthN (ancs ops.toList) x).testBit y = true → y < x := by
        intro x y o' ho' hb
        refine ancs_closed hok (X := fun j => j < x) ?_ x o' ho' (fun e he hb => (drawOk_at hok ho').1 e he hb) hb
        intro j o2 e hj hjx he hb
        have := (drawOk_at hok hj).1 e he hb
        omega
      unfold ordB
      rw [Bool.or_eq_false_iff]
      constructor
      · cases hb : (nthN (ancs ops.toList) i).testBit k with
        | false => rfl
        | true =>
          have h2 := low i k o ho hb
          have h3 : X k = true := ancs_closed hok (X := fun j => X j = true) (fun j o e hj hx he hb => hcl j o e hj hx he hb) i o ho (fun e he hb => hpred e he hb) hb
          exact absurd (h3.trans (by simp [h2])) hX
      · cases hb : (nthN (ancs ops.toList) k).testBit i with
        | false => rfl
        | true =>
          have h2 := low k i _ hok' hb
          have h3 : X k = true := by
            cases hxk : X k with
            | true => rfl
            | false => exact absurd (hxk.trans (by simp; omega)) hX
          have h4 : X i = true := ancs_closed hok (X := fun j => X j = true) (fun j o e hj hx he hb => hcl j o e hj hx he hb) k _ hok' (fun e he hb => hcl k _ e hok' h3 he hb) hb
          rw [hXi] at h4; cases h4
    -- nobody whose turn is open writes what i looks at
    have hwr : ∀ k, k < ops.size → X k ≠ decide (k < i) → ∀ r, r ∈ o.looksAt ops → opDst ops.toList k ≠ some r := by
      intro k hk hX r hr hd
      have hki := (hunord k hk hX).1
      have hok' : ops[k]? = some ops[k] := by simp [hk]
      rw [hdk k _ hok'] at hd
      have hrel := ((drawOk_at hok ho).2 k _ r hok' hd).2 hr (Ne.symm hki)
      rcases Nat.lt_or_gt_of_ne hki with h | h
      · have := edge_listed hi ho (hrel.1 h)
        exact hX (by show listed.getD k false = _; rw [this]; simp [h])
      · have hedge := hrel.2 h
        have h3 : X k = true := by
          cases hxk : X k with
          | true => rfl
          | false => exact absurd (hxk.trans (by simp; omega)) hX
        unfold edgeOn at hedge
        rw [List.any_eq_true] at hedge
        obtain ⟨e, he1, he2⟩ := hedge
        simp only [Bool.and_eq_true, beq_iff_eq] at he2
        have := hcl k _ e hok' h3 (by simpa using he1) he2.1
        rw [he2.2, hun'] at this
        cases this
    have huniq : ∀ k k' r, opDst ops.toList k = some r → opDst ops.toList k' = some r → k = k' := by
      intro k k' r hk hk'
      have g : ∀ k, opDst ops.toList k = some r → ∃ o', ops[k]? = some o' ∧ o'.dst = some r := by
        intro k hk
        unfold opDst at hk
        split at hk
        · rename_i o' ho'; exact ⟨o', by simpa using ho', hk⟩
        · cases hk
      obtain ⟨o1, q1, q2⟩ := g k hk
      obtain ⟨o2, q3, q4⟩ := g k' hk'
      rcases Nat.decEq k k' with hne | he
      · exact absurd q2 (((drawOk_at hok q1).2 k' o2 r q3 q4).1 hne)
      · exact he
    -- a slot without unknowns
    have hsolid : ∀ r, r ∈ o.looksAt ops → solid ((S i).get r) = true → s.get r = (S i).get r := by
      intro r hr hsol
      rw [hag.1]
      have hA : (runT τ v (opDst ops.toList) (fun j => decide (j < i)) s0 ops.size).get r = (S i).get r := htext.1 r
      by_cases hex : ∃ j, j < i ∧ opDst ops.toList j = some r
      · obtain ⟨j, hj, hjd⟩ := hex
        have hXj : X j = true := by
          cases hxj : X j with
          | true => rfl
          | false => exact absurd hjd (hwr j (by omega) (by rw [hxj]; simp [hj]) r hr)
        have hb := runT_solid_back (k := j + 1) hτ hsol ops.size (by omega) hA (fun m h1 h2 _ hm => by have := huniq m j r hm hjd; omega)
        have hv : v j = (S i).get r := by
          rw [← hb]
          simp only [runT]
          rw [show decide (j < i) = true by simp [hj]]
          rw [get_putO, if_pos hjd]
        refine runT_solid (k := j + 1) hτ hsol ?_ ops.size (by omega) (fun m h1 h2 _ hm => by have := huniq m j r hm hjd; omega)
        simp only [runT]
        rw [show listed.getD j false = true from hXj]
        simp only
        rw [get_putO, if_pos hjd, hv]
      · have hb := runT_solid_back (k := 0) hτ hsol ops.size (by omega) hA (fun m h1 h2 h3 hm => hex ⟨m, by simpa using h3, hm⟩)
        refine runT_solid (X := fun j => listed.getD j false) (k := 0) hτ hsol (show (runT τ v (opDst ops.toList) (fun j => listed.getD j false) s0 0).get r = (S i).get r from hb) ops.size (by omega) (fun m h1 h2 h3 hm => ?_)
        by_cases hmi : m < i
        · exact hex ⟨m, hmi, hm⟩
        · exact hwr m h2 (by show listed.getD m false ≠ _; rw [h3]; simp; omega) r hr hm
    -- all slots, and the objects
    have hclass : ∀ k, k < ops.size → X k ≠ decide (k < i) → ∀ ok, ops[k]? = some ok → isEff plan ok = true →
        cls (ancs ops.toList) i (effList plan 0 ops.toList) ≠ 0 ∧ (cls (ancs ops.toList) i (effList plan 0 ops.toList) ≠ 2 → isStore ok = true) := by
      intro k hk hX ok hok' he
      obtain ⟨hki, hu⟩ := hunord k hk hX
      have hmem := effList_mem (plan := plan) (l := ops.toList) (i := 0) (j := k) (by simpa using hok') he
      rw [Nat.zero_add] at hmem
      constructor
      · intro hz
        rcases cls_zero hz k _ hmem with h | h
        · exact hki h
        · rw [hu] at h; cases h
      · intro h2
        cases hst : isStore ok with
        | true => rfl
        | false =>
          rw [hst] at hmem
          rcases cls_two h2 k hmem with h | h
          · exact absurd h hki
          · rw [hu] at h; cases h
    have hview : cls (ancs ops.toList) i (effList plan 0 ops.toList) ≠ 2 → (∀ r, r ∈ o.looksAt ops → s.get r = (S i).get r) ∧ (cls (ancs ops.toList) i (effList plan 0 ops.toList) = 0 → aget s.hp = aget (S i).hp) := by
      intro h2
      have := runT_view (τ := τ) (v := v) (ds := opDst ops.toList) (s0 := s0) (X := X) (A := fun j => decide (j < i)) (R := fun r => r ∈ o.looksAt ops) hτ (decide (cls (ancs ops.toList) i (effList plan 0 ops.toList) = 0)) ops.size (by
        intro k hk hX
        have hok' : ops[k]? = some ops[k] := by simp [hk]
        obtain ⟨didk, _⟩ := h1 k _ (by rw [Array.getElem?_toList]; exact hok')
        have hka := didk.act
        refine ⟨?_, fun r hr => hwr k hk hX r hr, ?_⟩
        · intro s r hr
          cases he : isEff plan ops[k] with
          | false =>
            have : kindOf plan ops[k] = .val := by unfold kindOf; rw [he]
            rw [this] at hka
            cases hka with
            | idl _ e _ => rw [e]
            | val e => rw [e]
          | true =>
            have hst := (hclass k hk hX _ hok' he).2 h2
            have : kindOf plan ops[k] = .store := by unfold kindOf; rw [he, hst]
            rw [this] at hka
            cases hka with
            | idl _ e _ => rw [e]
            | store h e => rw [e]; rfl
        · intro hz s
          have hz' := of_decide_eq_true hz
          cases he : isEff plan ops[k] with
          | false =>
            have : kindOf plan ops[k] = .val := by unfold kindOf; rw [he]
            rw [this] at hka
            cases hka with
            | idl _ e _ => rw [e]
            | val e => rw [e]
          | true => exact absurd hz' (hclass k hk hX _ hok' he).1)
      refine ⟨fun r hr => ?_, fun hz => ?_⟩
      · rw [hag.1, ← htext.1]; exact this.1 r hr
      · rw [hag.2, ← htext.2]; exact this.2 (by simp [hz])
    have hmemop : ∀ t, Operand.tmp t ∈ o.op.operands.toList → t ∈ o.looksAt ops := by
      intro t ht
      unfold Oper.looksAt
      refine List.mem_append.2 (.inl ?_)
      rw [List.mem_filterMap]
      exact ⟨_, ht, rfl⟩
    have hmemg : ∀ j b d, o.guard = some (j, b) → opDst ops.toList j = some d → d ∈ o.looksAt ops := by
      intro j b d hg hd
      unfold Oper.looksAt
      refine List.mem_append.2 (.inr ?_)
      simp only [hg]
      unfold opDst at hd
      split at hd
      · rename_i o' ho'
        have : ops[j]? = some o' := by simpa using ho'
        simp [this, hd]
      · cases hd
    have hd : ∀ d, o.dst = some d → N.Ok d := by
      intro d hdd
      have := hdst o (List.mem_of_getElem? hot)
      simp only [dstOk, hdd, Bool.and_eq_true, decide_eq_true_eq, Bool.not_eq_true'] at this
      exact this
    have hsize : (listed.setIfInBounds i true).size = ops.size := by simpa using hs
    have hgetD : ∀ j, (listed.setIfInBounds i true).getD j false = true ↔ j = i ∨ listed.getD j false = true := by
      intro j
      by_cases hj : j = i
      · subst hj; simp [Array.getD_eq_getD_getElem?, hil]
      · simp [Array.getD_eq_getD_getElem?, Array.getElem?_setIfInBounds, Ne.symm hj, hj]
    have hgetB : ∀ j, (listed.setIfInBounds i true).getD j false = (decide (j = i) || listed.getD j false) := by
      intro j
      rw [Bool.eq_iff_iff, hgetD j]
      simp
    have hcount : ((listed.setIfInBounds i true).toList.filter (! ·)).length ≤ fuel := by
      have key : ∀ (l : List Bool) (i : Nat), l[i]? = some false → ((l.set i true).filter (! ·)).length + 1 = (l.filter (! ·)).length := by
        intro l
        induction l with
        | nil => intro i h; simp at h
        | cons b l ih =>
          intro i h
          cases i with
          | zero => simp at h; subst h; simp
          | succ i =>
            have := ih i (by simpa using h)
            cases b <;> simp [this] <;> omega
      have := key listed.toList i (by
        have : listed[i]? = some false := by
          have := hun'
          simp only [Array.getD_eq_getD_getElem?, Array.getElem?_eq_getElem hil, Option.getD_some] at this
          rw [Array.getElem?_eq_getElem hil, this]
        simpa using this)
      simp only [Array.toList_setIfInBounds]
      omega
    have hcl' : ∀ j o e, ops[j]? = some o → (listed.setIfInBounds i true).getD j false = true → e ∈ o.after → Region.binds .any e = true → (listed.setIfInBounds i true).getD e.on false = true := by
      intro j o2 e hoj hj he hb
      rw [hgetD]
      rcases (hgetD j).1 hj with rfl | hj
      · rw [ho] at hoj; cases hoj
        exact .inr (hpred e he hb)
      · exact .inr (hcl j o2 e hoj hj he hb)
    have hlt' : ∀ j, (listed.setIfInBounds i true).getD j false = true → j < ops.size := by
      intro j hj
      rcases (hgetD j).1 hj with rfl | hj
      · exact hilt
      · exact hlt j hj
    have hcomm : ∀ k, i < k → k < ops.size → X k = true → ∀ s, SEqX ((τ k ((τ i s).putO (opDst ops.toList i) (v i))).putO (opDst ops.toList k) (v k)) ((τ i ((τ k s).putO (opDst ops.toList k) (v k))).putO (opDst ops.toList i) (v i)) := by
      intro k hik hk hXk
      have hX : X k ≠ decide (k < i) := by rw [hXk]; simp; omega
      obtain ⟨hki, hu⟩ := hunord k hk hX
      have hok' : ops[k]? = some ops[k] := by simp [hk]
      obtain ⟨didk, _⟩ := h1 k _ (by rw [Array.getElem?_toList]; exact hok')
      have hu' : ordB (ancs ops.toList) k i = false := by rw [ordB_comm]; exact hu
      have hck : isEff plan o = true → isStore o = false → cls (ancs ops.toList) k (effList plan 0 ops.toList) = 2 := by
        intro he hst
        have hmem := effList_mem (plan := plan) (l := ops.toList) (i := 0) (j := i) hot he
        rw [Nat.zero_add, hst] at hmem
        rcases Nat.decEq (cls (ancs ops.toList) k (effList plan 0 ops.toList)) 2 with hne | h
        · rcases cls_two hne i hmem with h | h
          · exact absurd h (Ne.symm hki)
          · rw [hu'] at h; cases h
        · exact h
      have hci : isEff plan ops[k] = true → isStore ops[k] = false → cls (ancs ops.toList) i (effList plan 0 ops.toList) = 2 := by
        intro he hst
        rcases Nat.decEq (cls (ancs ops.toList) i (effList plan 0 ops.toList)) 2 with hne | h
        · have := (hclass k hk hX _ hok' he).2 hne
          rw [hst] at this; cases this
        · exact h
      refine comm_acts (hτ k) (hτ i) didk.act did.act ?_ ?_ ?_
      · cases ek : isEff plan ops[k] with
        | false =>
          have k1 : kindOf plan ops[k] = .val := by unfold kindOf; rw [ek]
          rw [k1]
          cases ei : isEff plan o with
          | false =>
            have k2 : kindOf plan o = .val := by unfold kindOf; rw [ei]
            rw [k2]; trivial
          | true =>
            cases hst : isStore o with
            | true =>
              have k2 : kindOf plan o = .store := by unfold kindOf; rw [ei, hst]
              rw [k2]; trivial
            | false =>
              have := didk.sol (hck ei hst) ek
              unfold kindOf
              rw [ei, hst]
              cases newId plan o <;> exact this
        | true =>
          cases ei : isEff plan o with
          | false =>
            have k2 : kindOf plan o = .val := by unfold kindOf; rw [ei]
            rw [k2]
            cases hst : isStore ops[k] with
            | true =>
              have k1 : kindOf plan ops[k] = .store := by unfold kindOf; rw [ek, hst]
              rw [k1]; trivial
            | false =>
              have := did.sol (hci ek hst) ei
              unfold kindOf
              rw [ek, hst]
              cases newId plan ops[k] <;> exact this
          | true =>
            obtain ⟨g, g', n1, n2, hne⟩ := effOk_at hef (by simpa using hok') hot ek ei hki hu'
            rw [(newId_kind ek n1).1, (newId_kind ei n2).1]
            exact hne
      · rintro ⟨g, g', e1, e2⟩
        have kk : ∀ (o : Oper) (g : Nat), kindOf plan o = .new g → isEff plan o = true ∧ isStore o = false := by
          intro o g h
          unfold kindOf at h
          split at h
          · cases h
          · rename_i he
            split at h
            · cases h
            · rename_i hst; exact ⟨he, hst⟩
        obtain ⟨a1, a2⟩ := kk _ _ e1
        obtain ⟨a3, a4⟩ := kk _ _ e2
        exact ⟨hck a3 a4, hci a1 a2⟩
      · intro d h1 h2
        exact hki (huniq k i d h1 h2)
    have hagree : ∀ (s' : St), SEqX s' ((τ i s).putO o.dst (v i)) → SEqX s' (runT τ v (opDst ops.toList) (fun j => (listed.setIfInBounds i true).getD j false) s0 ops.size) := by
      intro s' hse
      rw [runT_congr (Y := fun j => decide (j = i) || X j) (fun j _ => hgetB j)]
      have h2 := runT_insert (v := v) (ds := opDst ops.toList) (s0 := s0) hτ hilt hXi hcomm ops.size hilt (Nat.le_refl _)
      refine hse.trans (SEqX.trans ?_ h2.symm)
      rw [hdk i o ho]
      exact ((hτ i).seq hag).putO _ _
    unfold wpOpIn
    simp only [ho]
    rcases did.does with ⟨hg, hsol, hrun⟩ | ⟨hg, hid, hq⟩
    · have hg' : GuardOn ops.toList o s := by
        rcases hg with hg | ⟨j, b, d, e1, e2, e3⟩
        · exact .inl hg
        · exact .inr ⟨j, b, d, e1, e2, by rw [hsolid d (hmemg j b d e1 e2) (by rw [e3]; rfl)]; exact e3⟩
      rw [if_pos (hg'.wanted hr)]
      have hoper : ∀ x ∈ o.op.operands.toList, opnd (S i) x = opnd s x := by
        intro x hx
        refine opnd_congr (fun t ht => ?_)
        subst ht
        by_cases h2 : cls (ancs ops.toList) i (effList plan 0 ops.toList) = 2
        · exact (hsolid t (hmemop t hx) (hsol h2 _ hx)).symm
        · exact ((hview h2).1 t (hmemop t hx)).symm
      refine Oper.wpIn_mono ?_ (hrun s hoper ?_ a w M δ Q hr hd)
      · rintro a' w' ⟨s', M', δ', hse, hm', hr'⟩
        exact ih _ a' w' s' M' δ' hsize hr' (Mem.le_trans hm hm') (hagree _ hse) hcl' hlt' hcount
      · by_cases hz : cls (ancs ops.toList) i (effList plan 0 ops.toList) = 0
        · exact .inl ⟨hz, ((hview (by omega)).2 hz).symm⟩
        · refine .inr ⟨hz, fun he => ?_⟩
          cases hn : newId plan o with
          | some g => rfl
          | none =>
            exfalso
            refine hz (cls_zero_of fun e st hes => ?_)
            unfold effOk at hef
            rw [List.all_eq_true] at hef
            have h1 := hef _ (effList_mem (i := 0) hot he)
            rw [List.all_eq_true] at h1
            have h2 := h1 _ hes
            simp only [Nat.zero_add] at h2
            cases hje : ops.toList[e]? with
            | none =>
              simp [effPair, hje] at h2
              rcases h2 with h2 | h2
              · exact .inl h2.symm
              · exact .inr h2
            | some o' =>
              simp [effPair, hot, hje, hn] at h2
              rcases h2 with h2 | h2
              · exact .inl h2.symm
              · exact .inr h2
    · have hg' : GuardOff ops.toList o s := by
        obtain ⟨j, b, d, e1, e2, e3⟩ := hg
        refine ⟨j, b, d, e1, e2, ?_⟩
        rw [hsolid d (hmemg j b d e1 e2) (by rcases e3 with e3 | e3 <;> rw [e3] <;> rfl)]
        exact e3
      rw [if_neg (by rw [hg'.wanted hr]; simp)]
      refine ⟨fun _ _ => trivial, ih _ _ w _ M δ hsize (hr.put hd undef_rep) hm (hagree _ ?_) hcl' hlt' hcount⟩
      rw [hid, hq]
      exact .refl _
end
end Go.Proofs.Ytbliiejdmgnkgaa.Pv
