/-
  The layer of values: what an evaluator says of a function holds of every run of it. For every program of the model that meets the named conditions.
-/
import Derived.Test.YtbliiejdmgnkgaaPvY
namespace Go.Proofs.Ytbliiejdmgnkgaa.Pv
open Go
set_option linter.unusedSimpArgs false
set_option linter.unusedVariables false

section
variable {P : Program} {E : Env} {C : Ctr} {H : Hnd} {Sq : Nat → List PV → List (List PV) → Prop} {w : World} {N : Cx} {s : St} {a : Act} {M : Mem} {F : Frm} {δ : Nat → Value}

theorem Inv.drew {hp : List (Nat × GObj)} (h : Inv M F δ hp w) {w' : World} (hw : w'.heap = w.heap) (hio : w'.os = w.os ∧ w'.output = w.output) : Inv M F δ hp w' := by
  refine ⟨fun b o hb => by rw [hw]; exact h.m b o hb, fun b o hb => by rw [hw]; exact h.f b o hb, h.mf, ⟨hio.1.trans h.io.1, hio.2.trans h.io.2⟩, ?_, h.dis⟩
  intro g o hg
  obtain ⟨xs, q1, q2⟩ := h.own g o hg
  refine ⟨xs, ⟨q1.1, ?_⟩, q2⟩
  rcases q1.2 with hh | ⟨b, cap, cur, e1, e2, e3, e4⟩
  · exact .inl hh
  · exact .inr ⟨b, cap, cur, e1, e2, by rw [hw]; exact e3, e4⟩

theorem Rel.drew (h : Rel N s a w M F δ) {w' : World} (hw : w'.heap = w.heap) (hio : w'.os = w.os ∧ w'.output = w.output) : Rel N s a w' M F δ := ⟨h.def0, h.size, h.ro, h.slot, h.inv.drew hw hio⟩

theorem Inv.sub {hp hp' : List (Nat × GObj)} (h : Inv M F δ hp w) (hs : subHp hp' hp) : Inv M F δ hp' w :=
  ⟨h.m, h.f, h.mf, h.io, fun g o hg => h.own g o (subHp_get hs g o hg), fun g g' o o' hne hg hg' => h.dis g g' o o' hne (subHp_get hs g o hg) (subHp_get hs g' o' hg')⟩

theorem leVs_get : ∀ {l l' : List (Nat × PV)}, leVs l l' → ∀ i q, aget l' i = some q → ∃ p, aget l i = some p ∧ (p = q ∨ q = .junk)
  | _, [], _, i, q, h => by simp [aget] at h
  | [], _ :: _, h, _, _, _ => h.elim
  | (j, p) :: r, (j', q') :: r', h, i, q, hq => by
    obtain ⟨⟨rfl, h1⟩, h2⟩ := h
    simp only [aget] at hq ⊢
    by_cases e : j = i
    · subst e
      simp only [if_true, Option.some.injEq] at hq ⊢
      subst hq
      refine ⟨p, rfl, ?_⟩
      unfold leP at h1
      split at h1
      · exact .inr rfl
      · exact .inl h1
    · simp only [e, if_false] at hq ⊢
      exact leVs_get h2 i q hq

theorem Rel.le {t : St} (h : Rel N s a w M F δ) (hl : LeSt s t) : Rel N t a w M F δ := by
  obtain ⟨h1, h2, h3⟩ := hl
  refine ⟨h.def0, h.size, h.ro, fun i => ?_, ⟨h.inv.m, h.inv.f, h.inv.mf, h.inv.io, fun g o hg => h.inv.own g o (subHp_get h3 g o hg),
    fun g g' o o' hne hg hg' => h.inv.dis g g' o o' hne (subHp_get h3 g o hg) (subHp_get h3 g' o' hg')⟩⟩
  unfold St.get
  rw [h2]
  simp only [aget]
  cases hg : aget t.vs i with
  | none => exact .imm _ _ (.junk _)
  | some q =>
    obtain ⟨p, hp, hpq⟩ := leVs_get h1 i q hg
    rcases hpq with rfl | rfl
    · have := h.slot i
      unfold St.get at this
      rw [hp] at this
      exact this
    · exact .imm _ _ (.junk _)

def flat : Code → Bool
  | .seq a b => flat a && flat b
  | .cond _ a b => flat a && flat b
  | .block _ c => flat c
  | .loop c => flat c
  | .rangeFunc .. => false
  | _ => true

def codeOk (plan : List (Nat × Nat)) (n : Nat) (ro : List Nat) : Code → Bool
  | .region _ ops draw => ops.toList.all (dstOk n ro) && (!draw || (drawOk ops && (!anyEff plan ops.toList || effOk plan ops.toList)))
  | .seq a b => codeOk plan n ro a && codeOk plan n ro b
  | .cond _ a b => codeOk plan n ro a && codeOk plan n ro b
  | .block _ c => codeOk plan n ro c
  | .loop c => codeOk plan n ro c
  | .rangeFunc _ ps a c => (ps.toList.all fun i => decide (i < n) && !ro.contains i) && (codeOk plan n ro a && codeOk plan n ro c) && (flat a && flat c)
  | _ => true

theorem dsts_mem : ∀ {l : List Oper} {o : Oper} {d : Nat}, o ∈ l → o.dst = some d → d ∈ dstsOf l
  | [], _, _, h, _ => by simp at h
  | o' :: r, o, d, h, hd => by
    simp only [dstsOf]
    rcases List.mem_cons.1 h with rfl | h
    · rw [hd]; exact List.mem_cons_self
    · have := dsts_mem h hd
      split
      · exact List.mem_cons_of_mem _ this
      · exact this

theorem codeOk_ro {plan : List (Nat × Nat)} {n : Nat} {ro ro' : List Nat} : ∀ (c : Code), flat c = true → codeOk plan n ro c = true → (∀ i, ro'.contains i = true → ro.contains i = true ∨ (writes c).contains i = false) → codeOk plan n ro' c = true
  | .skip, _, _, _ => rfl
  | .exit _, _, _, _ => rfl
  | .ret, _, _, _ => rfl
  | .scope _, _, _, _ => rfl
  | .label _, _, _, _ => rfl
  | .goto _, _, _, _ => rfl
  | .refuse _, _, _, _ => rfl
  | .rangeFunc .., h, _, _ => by cases h
  | .region _ ops draw, _, h, hro => by
    simp only [codeOk, Bool.and_eq_true, List.all_eq_true] at h ⊢
    refine ⟨fun o ho => ?_, h.2⟩
    have := h.1 o ho
    unfold dstOk at this ⊢
    split
    · rename_i d hd
      rw [hd] at this
      simp only [Bool.and_eq_true, decide_eq_true_eq, Bool.not_eq_true'] at this ⊢
      refine ⟨this.1, ?_⟩
      cases hc : ro'.contains d with
      | false => rfl
      | true =>
        rcases hro d hc with h1 | h1
        · rw [this.2] at h1; cases h1
        · simp only [writes] at h1
          rw [List.contains_iff_mem.2 (dsts_mem ho hd)] at h1; cases h1
    · rfl
  | .seq x y, hf, h, hro => by
    simp only [flat, codeOk, Bool.and_eq_true] at hf h ⊢
    exact ⟨codeOk_ro x hf.1 h.1 (fun i hi => (hro i hi).imp id fun h => by simp [writes] at h ⊢; exact h.1), codeOk_ro y hf.2 h.2 (fun i hi => (hro i hi).imp id fun h => by simp [writes] at h ⊢; exact h.2)⟩
  | .cond _ x y, hf, h, hro => by
    simp only [flat, codeOk, Bool.and_eq_true] at hf h ⊢
    exact ⟨codeOk_ro x hf.1 h.1 (fun i hi => (hro i hi).imp id fun h => by simp [writes] at h ⊢; exact h.1), codeOk_ro y hf.2 h.2 (fun i hi => (hro i hi).imp id fun h => by simp [writes] at h ⊢; exact h.2)⟩
  | .block _ c, hf, h, hro => by
    simp only [flat, codeOk] at hf h ⊢
    exact codeOk_ro c hf h (fun i hi => by simpa [writes] using hro i hi)
  | .loop c, hf, h, hro => by
    simp only [flat, codeOk] at hf h ⊢
    exact codeOk_ro c hf h (fun i hi => by simpa [writes] using hro i hi)

theorem wpc_wp (hE : ∀ T, TDok P T (E T)) (hC : ∀ f as r, C f as r → FC P f as r) (hH : ∀ f as hp r hp', H f as hp r hp' → FH P f as hp r hp') (hS : ∀ g caps xs, Sq g caps xs → FSeq P g caps xs) (hmix : P.follows .mixedOrders = true) {plan : List (Nat × Nat)} :
    ∀ (c : Code) (ρ : Option Nat) (N : Cx) (F : Frm) (Q : Exit → St → Prop) (s : St) (a : Act) (w : World) (M : Mem) (δ : Nat → Value) (R : Exit → Act → World → Prop), (ρ = none ∨ flat c = true) → codeOk plan N.n N.ro c = true → wpc E C H Sq plan c Q s → Rel N s a w M F δ →
      (∀ e a w, GoodK N M F (Q e) a w → R e a w) → Code.wpIn (FnR ρ) 0 P c R a w
  | .skip, ρ, N, F, Q, s, a, w, M, δ, R, hf, hok, h, hr, hR => wpIn_skip (hR _ _ _ ⟨s, M, δ, h, M.le_refl, hr⟩)
  | .exit n, ρ, N, F, Q, s, a, w, M, δ, R, hf, hok, h, hr, hR => wpIn_exit (hR _ _ _ ⟨s, M, δ, h, M.le_refl, hr⟩)
  | .ret, ρ, N, F, Q, s, a, w, M, δ, R, hf, hok, h, hr, hR => wpIn_ret (hR _ _ _ ⟨s, M, δ, h, M.le_refl, hr⟩)
  | .region id ops draw, ρ, N, F, Q, s, a, w, M, δ, R, hf, hok, h, hr, hR => by
    simp only [codeOk, Bool.and_eq_true, List.all_eq_true] at hok
    cases draw with
    | false =>
      simp only [wpc] at h
      exact wpIn_region_list (wpr_wp hE hC hH ops.toList 0 s.fresh a w M δ hok.1 h hr.fresh (hR .normal))
    | true =>
      simp only [wpc] at h
      have hok2 : drawOk ops = true ∧ (anyEff plan ops.toList = false ∨ effOk plan ops.toList = true) := by simpa using hok.2
      have hrel : Rel N s.fresh a { w with drawn := w.drawn + 1 } M F δ := hr.fresh.drew rfl ⟨rfl, rfl⟩
      refine wpIn_region_any hmix ?_
      have hnone : ∀ j, ¬ (Array.replicate ops.size false).getD j false = true := by
        intro j hj
        simp [Array.getD_eq_getD_getElem?, Array.getElem?_replicate] at hj
        split at hj <;> simp at hj
      cases hany : anyEff plan ops.toList with
      | false =>
        rw [hany] at h
        obtain ⟨q, S, sE, e1, e2, e3, e4⟩ := trace_of ops.toList 0 s.fresh h
        refine drawn_wp (gs := []) (K := Q .normal) (M0 := M) hE hC hok2.1 hok.1 (hR .normal) e1 e2 e3 (by simpa using e4) ops.size (Array.replicate ops.size false) a _ s.fresh M δ (by simp) hrel M.le_refl ?_ ?_ ?_ ?_
        · exact ⟨rfl, fun j d hj => absurd hj (hnone j), fun r _ => rfl⟩
        · exact fun j o e _ hj => absurd hj (hnone j)
        · exact fun j hj => absurd hj (hnone j)
        · simp
      | true =>
        rw [hany] at h hok2
        have hef : effOk plan ops.toList = true := by simpa using hok2.2
        obtain ⟨τ, v, S, sE, e0, e1, e2, e3, e4⟩ := trace_ofD (ρ := ρ) (N := N) (F := F) hE hC hH ops.toList 0 s.fresh h
        refine drawnE_wp (plan := plan) (K := Q .normal) (M0 := M) hok2.1 hef hok.1 (hR .normal) e0 e1 (fun k o hk => by have := e2 k o hk; rw [Nat.zero_add] at this; exact this) e3 (by simpa using e4) ops.size (Array.replicate ops.size false) a _ s.fresh M δ (by simp) hrel M.le_refl ?_ ?_ ?_ ?_
        · have : (fun j => (Array.replicate ops.size false).getD j false) = fun _ => false := by
            funext j
            cases hb : (Array.replicate ops.size false).getD j false with
            | false => rfl
            | true => exact absurd hb (hnone j)
          rw [this, runT_none]
          exact .refl _
        · exact fun j o e _ hj => absurd hj (hnone j)
        · exact fun j hj => absurd hj (hnone j)
        · simp
  | .seq x y, ρ, N, F, Q, s, a, w, M, δ, R, hf, hok, h, hr, hR => by
    simp only [codeOk, Bool.and_eq_true] at hok
    have hf' : (ρ = none ∨ flat x = true) ∧ (ρ = none ∨ flat y = true) := by simp only [flat, Bool.and_eq_true] at hf; exact ⟨hf.imp id (·.1), hf.imp id (·.2)⟩
    refine wpIn_seq (wpc_wp hE hC hH hS hmix x ρ N F _ s a w M δ _ hf'.1 hok.1 h hr ?_)
    rintro e a' w' hg
    cases e with
    | normal =>
      obtain ⟨s', M', δ', hk, hm, hr'⟩ := hg
      exact wpc_wp hE hC hH hS hmix y ρ N F Q s' a' w' M' δ' R hf'.2 hok.2 hk hr' (fun e a w hg => hR e a w (hg.le hm))
    | _ => exact hR _ _ _ hg
  | .cond x y z, ρ, N, F, Q, s, a, w, M, δ, R, hf, hok, h, hr, hR => by
    simp only [codeOk, Bool.and_eq_true] at hok
    have hf' : (ρ = none ∨ flat y = true) ∧ (ρ = none ∨ flat z = true) := by simp only [flat, Bool.and_eq_true] at hf; exact ⟨hf.imp id (·.1), hf.imp id (·.2)⟩
    simp only [wpc, condK] at h
    split at h
    · rename_i c hc
      have hx := hr.opnd x; rw [hc] at hx
      refine wpIn_cond (t := c) hx.bool_inv ?_
      cases c with
      | true => exact wpc_wp hE hC hH hS hmix y ρ N F Q s a w M δ R hf'.1 hok.1 h hr hR
      | false => exact wpc_wp hE hC hH hS hmix z ρ N F Q s a w M δ R hf'.2 hok.2 h hr hR
    · exact h.elim
  | .block n c, ρ, N, F, Q, s, a, w, M, δ, R, hf, hok, h, hr, hR => by
    simp only [codeOk] at hok
    refine wpIn_block (wpc_wp hE hC hH hS hmix c ρ N F _ s a w M δ _ (by simpa [flat] using hf) hok h hr ?_)
    rintro e a' w' hg
    cases e with
    | exit m =>
      simp only [Exit.inBlock]
      by_cases hmn : m = n
      · rw [if_pos hmn]
        exact hR _ _ _ (hg.mono fun s hs => by simpa [QBlock, hmn] using hs)
      · rw [if_neg hmn]
        exact hR _ _ _ (hg.mono fun s hs => by simpa [QBlock, hmn] using hs)
    | _ => exact hR _ _ _ hg
  | .loop c, ρ, N, F, Q, s, a, w, M, δ, R, hf, hok, h, hr, hR => by
    simp only [codeOk] at hok
    obtain ⟨α, G, I, μ, x0, h0, hI, hround⟩ := h
    refine wpIn_loop_ghost (fun n a w => GoodK N M F (fun s => ∃ x, I x ∧ μ x = n ∧ s = G x) a w) (μ x0) ⟨G x0, M, δ, ⟨x0, hI, rfl, rfl⟩, M.le_refl, hr.le h0⟩ ?_
    rintro n a w ⟨s', M', δ', ⟨x, hx, rfl, rfl⟩, hm, hr'⟩
    refine wpc_wp hE hC hH hS hmix c ρ N F _ (G x) a w M' δ' _ (by simpa [flat] using hf) hok (hround x hx) hr' ?_
    rintro e a2 w2 hg
    cases e with
    | normal =>
      obtain ⟨s2, M2, δ2, ⟨y, ⟨hy, hlt⟩, hle⟩, hm2, hr2⟩ := hg
      exact ⟨μ y, hlt, G y, M2, δ2, ⟨y, hy, rfl, rfl⟩, Mem.le_trans hm hm2, hr2.le hle⟩
    | _ => exact hR _ _ _ (hg.le hm)
  | .rangeFunc f ps x y, ρ, N, F, Q, s, a, w, M, δ, R, hf, hok, h, hr, hR => by
    obtain rfl : ρ = none := by
      rcases hf with h | h
      · exact h
      · simp [flat] at h
    simp only [codeOk, Bool.and_eq_true, List.all_eq_true, decide_eq_true_eq, Bool.not_eq_true'] at hok
    obtain ⟨⟨hps, hx, hy⟩, hfx, hfy⟩ := hok
    simp only [wpc] at h
    refine range_law hS hr h (fun i hi => hps i (by simpa using hi)) ?_ (fun a w hg => hR _ a w hg)
    intro N' l Fr Qc s' a' w' M' δ' R' hn hro hrel hcode hturn
    have hro1 : ∀ i, N'.ro.contains i = true → N.ro.contains i = true ∨ (writes x).contains i = false := fun i hi => (hro i hi).imp id fun h => by simp at h ⊢; exact h.1
    have hro2 : ∀ i, N'.ro.contains i = true → N.ro.contains i = true ∨ (writes y).contains i = false := fun i hi => (hro i hi).imp id fun h => by simp at h ⊢; exact h.2
    refine wpc_wp hE hC hH hS hmix x (some l) N' Fr _ s' a' w' M' δ' _ (.inr hfx) (by rw [hn]; exact codeOk_ro x hfx hx hro1) hcode hrel ?_
    rintro e a1 w1 ⟨s1, M1, δ1, hq, hm1, hrel1⟩
    cases e with
    | normal =>
      obtain ⟨w2, Fb, h1, h2, h3⟩ := hturn s1 a1 w1 M1 δ1 hrel1 hm1
      exact ⟨w2, h1, wpc_wp hE hC hH hS hmix y (some l) N' Fb _ s1 a1 w2 M1 δ1 _ (.inr hfy) (by rw [hn]; exact codeOk_ro y hfy hy hro2) hq h2 h3⟩
    | _ => exact hq.elim
  | .scope _, ρ, N, F, Q, s, a, w, M, δ, R, hf, hok, h, hr, hR => h.elim
  | .label _, ρ, N, F, Q, s, a, w, M, δ, R, hf, hok, h, hr, hR => h.elim
  | .goto _, ρ, N, F, Q, s, a, w, M, δ, R, hf, hok, h, hr, hR => h.elim
  | .refuse _, ρ, N, F, Q, s, a, w, M, δ, R, hf, hok, h, hr, hR => h.elim

/-! results and parameters -/

def resPV (P : Env) (s : St) : List ResultVar → List PV
  | [] => []
  | .tmp t :: r => s.get t :: resPV P s r
  | .cell _ _ :: r => .junk :: resPV P s r

/-- the value that the result variables hold -/
def resCell (E : Env) (s : St) : ResultVar → (PV → Prop) → Prop
  | .tmp t, K => K (s.get t)
  | .cell t T, K => match s.get t with
    | .ptr cs => loadVal (E T) cs K
    | .op g sz i f => match aget s.hp g with
      | some ob => if ob.sz = sz then match ob.es[i]? with
        | some c => loadVal (E T) (c.drop f) K
        | none => False
        else False
      | none => False
    | _ => False

def resK (E : Env) (s : St) : List ResultVar → (List PV → Prop) → Prop
  | [], K => K []
  | x :: r, K => resCell E s x fun p => resK E s r fun ps => K (p :: ps)

def oneOrTup : List PV → PV
  | [p] => p
  | ps => .tup ps

/-- what a body comes to: the results are these -/
def retK (E : Env) (vars : List ResultVar) (K : PV → St → Prop) : Exit → St → Prop
  | .ret, s => resK E s vars fun ps => K (oneOrTup ps) s
  | .normal, s => resK E s vars fun ps => K (oneOrTup ps) s
  | _, _ => False

def resOf (tmps : Array Value) (x : ResultVar) : Sem Value :=
  match x with
  | .tmp t => pure (tmps.getD t undef)
  | .cell c t => do loadVar t (← asAddr (tmps.getD c undef))

theorem results_eq (fn : Func) (tmps : Array Value) : results fn tmps = (do let vs ← fn.results.mapM (resOf tmps); pure (if h : vs.size = 1 then vs[0] else .tuple vs)) := by
  unfold results
  congr 2

theorem resCell_run (hE : ∀ T, TDok P T (E T)) {x : ResultVar} {K : PV → Prop} (hr : Rel N s a w M F δ) (h : resCell E s x K) :
    ∃ p v, K p ∧ RepS M δ p v ∧ (resOf a.tmps x).run P w = .ok v w := by
  cases x with
  | tmp t => exact ⟨_, _, h, hr.slot t, rfl⟩
  | cell t T =>
    simp only [resCell] at h
    have hx := hr.slot t
    split at h
    · rename_i cs hc
      rw [hc] at hx
      obtain ⟨b, off, vs, e1, e2, e3, e4⟩ := ptr_cells hr.inv hx.ptr_inv
      obtain ⟨p, v, k1, k2, k3⟩ := loadVar_run (hE T) e2.toS e4 h
      exact ⟨p, v, k1, k2, by simp [resOf, e1, asAddr, k3]⟩
    · rename_i g sz i f hc
      rw [hc] at hx
      obtain ⟨b, n, c, e1, e2⟩ := hx.op_inv
      split at h
      · rename_i ob hg
        split at h
        · rename_i hsz
          split at h
          · rename_i c' hc
            obtain ⟨vs, r1, r2, r3⟩ := own_cells hr.inv hg e1 hc
            obtain ⟨p, v, k1, k2, k3⟩ := loadVar_run (b := b) (off := i * sz + f) (hE T) (r1.drop f) (fun j v hv => by
              rw [List.getElem?_drop] at hv
              have := r3 _ _ hv
              rw [hsz] at this
              rw [Nat.add_assoc]; exact this) h
            exact ⟨p, v, k1, k2, by simp [resOf, e2, asAddr, k3]⟩
          · exact h.elim
        · exact h.elim
      · exact h.elim
    · exact h.elim

theorem resK_run (hE : ∀ T, TDok P T (E T)) (hr : Rel N s a w M F δ) : ∀ {l : List ResultVar} {K : List PV → Prop}, resK E s l K →
    ∃ ps vs, K ps ∧ RepSs M δ ps vs ∧ (l.mapM (resOf a.tmps)).run P w = .ok vs w
  | [], K, h => ⟨[], [], h, .nil, by simp⟩
  | x :: r, K, h => by
    obtain ⟨p, v, h1, h2, h3⟩ := resCell_run hE hr h
    obtain ⟨ps, vs, k1, k2, k3⟩ := resK_run hE hr h1
    refine ⟨p :: ps, v :: vs, k1, .cons _ _ _ _ h2 k2, ?_⟩
    rw [List.mapM_cons]
    simp only [Sem.run_bind]
    rw [h3]
    simp only [Result.andThen_ok]
    rw [k3]
    rfl

theorem results_run (hE : ∀ T, TDok P T (E T)) (hr : Rel N s a w M F δ) {fn : Func} {K : PV → St → Prop} (h : resK E s fn.results.toList fun ps => K (oneOrTup ps) s) :
    ∃ p v, K p s ∧ RepS M δ p v ∧ (results fn a.tmps).run P w = .ok v w := by
  obtain ⟨ps, vs, h1, h2, h3⟩ := resK_run hE hr h
  have hm : (fn.results.mapM (resOf a.tmps)).run P w = .ok vs.toArray w := by
    rw [Array.mapM_eq_mapM_toList]
    simp only [Sem.run_map, h3, Result.andThen_ok]
  cases h2 with
  | nil =>
    refine ⟨_, .tuple #[], h1, .imm _ _ (.tup [] [] .nil), ?_⟩
    rw [results_eq]
    simp only [Sem.run_bind]
    rw [hm]
    simp
  | cons p v ps vs k1 k2 =>
    cases k2 with
    | nil =>
      refine ⟨_, v, h1, k1, ?_⟩
      rw [results_eq]
      simp only [Sem.run_bind]
      rw [hm]
      simp
    | cons p2 v2 ps2 vs2 k3 k4 =>
      refine ⟨_, .tuple (v :: v2 :: vs2).toArray, h1, .tup _ _ (.cons _ _ _ _ k1 (.cons _ _ _ _ k3 k4)), ?_⟩
      rw [results_eq]
      simp only [Sem.run_bind]
      rw [hm]
      simp

def initVs (args : List PV) : List Nat → List (Nat × PV)
  | [] => []
  | i :: r => (i, match args[i]? with | some p => p | none => .tup []) :: initVs args r

theorem aget_initVs (args : List PV) : ∀ (vars : List Nat) (i : Nat) (p : PV), aget (initVs args vars) i = some p → p = match args[i]? with | some p => p | none => .tup []
  | [], i, p, h => by simp [initVs, aget] at h
  | j :: r, i, p, h => by
    simp only [initVs, aget] at h
    split at h
    · rename_i e; subst e; exact (Option.some.inj h).symm
    · exact aget_initVs args r i p h

theorem init_rel {args : List PV} {vs : List Value} {hp : List (Nat × GObj)} (hi : Inv M F δ hp w) (hrep : RepSs M δ args vs) (fn : Func) (hargs : args.length ≤ fn.ntmps) (vars ro : List Nat) :
    Rel ⟨fn.ntmps, ro, fun i => (vs.toArray ++ Array.replicate (fn.ntmps - vs.toArray.size) undef).getD i undef, M⟩ ⟨initVs args vars, [], hp⟩
      { tmps := vs.toArray ++ Array.replicate (fn.ntmps - vs.toArray.size) undef, defers := [] } w M F δ := by
  have hl := hrep.length
  refine ⟨⟨M.le_refl, List.nodup_nil, fun d hd => (by cases hd)⟩, by simp; omega, fun i _ => rfl, fun i => ?_, hi⟩
  have hval : RepS M δ (match args[i]? with | some p => p | none => .tup []) ((vs.toArray ++ Array.replicate (fn.ntmps - vs.toArray.size) undef).getD i undef) := by
    cases ha : args[i]? with
    | some p =>
      obtain ⟨v, hv, hp⟩ := hrep.get i p ha
      have hlt : i < vs.length := (List.getElem?_eq_some_iff.1 hv).1
      have : (vs.toArray ++ Array.replicate (fn.ntmps - vs.toArray.size) undef).getD i undef = v := by
        rw [Array.getD_eq_getD_getElem?, Array.getElem?_append_left (by simpa using hlt)]
        simp [hv]
      rw [this]; exact hp
    | none =>
      have hge : vs.length ≤ i := by rw [← hl]; exact List.getElem?_eq_none_iff.1 ha
      have : (vs.toArray ++ Array.replicate (fn.ntmps - vs.toArray.size) undef).getD i undef = undef := by
        rw [Array.getD_eq_getD_getElem?, Array.getElem?_append_right (by simpa using hge)]
        simp only [Array.getElem?_replicate]
        split <;> rfl
      rw [this]; exact undef_rep
  unfold St.get
  simp only [aget]
  cases hg : aget (initVs args vars) i with
  | some p =>
    have := aget_initVs args vars i p hg
    simp only
    rw [this]; exact hval
  | none => exact .imm _ _ (.junk _)

def frzU (hp : List (Nat × GObj)) (g : Nat) : PV :=
  match aget hp g with
  | some o => match o.own with | true => .junk | false => .sl o.sz o.es
  | none => .junk

def frzQ (hp : List (Nat × GObj)) (g sz i f : Nat) : PV :=
  match aget hp g with
  | some o => if o.sz = sz then match o.es[i]? with
    | some c => match isImms c with | true => .ptr (c.drop f) | false => .junk
    | none => .junk
    else .junk
  | none => .junk

/-- what is handed back is never written again -/
def frz (hp : List (Nat × GObj)) (p : PV) : PV := mapO (frzU hp) (frzQ hp) p

theorem frz_inv {hp : List (Nat × GObj)} (hi : Inv M F δ hp w) : ∃ M', M.le M' ∧ Inv M' F (fun _ => undef) [] w ∧ ∀ {p : PV} {v : Value}, RepS M δ p v → RepS M' δ (frz hp p) v := by
  classical
  let own : Nat → Prop := fun b => ∃ g o, aget hp g = some o ∧ (δ g).ownBlock = some b
  have hown : ∀ b, own b → M b = none ∧ F b = none := by
    rintro b ⟨g, o, hg, hb⟩
    obtain ⟨xs, _, _, _, _, _, _, h7⟩ := hi.own g o hg
    exact h7 b hb
  have hm : M.le (fun b => if own b then w.heap[b]? else M b) := by
    intro b o hb
    have : ¬ own b := fun ho => by rw [(hown b ho).1] at hb; cases hb
    simp [this, hb]
  refine ⟨fun b => if own b then w.heap[b]? else M b, hm, ⟨?_, hi.f, ?_, hi.io, by intro g o hg; simp [aget] at hg, by intro g g' o o' _ hg; simp [aget] at hg⟩, ?_⟩
  · intro b o hb
    split at hb
    · exact hb
    · exact hi.m _ _ hb
  · intro b hb
    split at hb
    · rename_i ho; exact (hown b ho).2
    · exact hi.mf b hb
  · intro p v hp'
    refine (hp'.mono hm).mapO _ _ ?_ ?_
    · intro g ao n c hδ
      unfold frzU
      split
      · rename_i o hg
        split
        · exact .imm _ _ (.junk _)
        · rename_i hof
          obtain ⟨xs, h1, h2, h3, h4, h5, h6, h7⟩ := hi.own g o hg
          refine .imm _ _ ?_
          rw [← hδ]
          rcases h1.2 with ⟨e1, e2⟩ | ⟨b, cap, cur, e1, e2, e3, e4, e5, e6, e7⟩
          · rw [e1]
            have : o.es = [] := List.eq_nil_of_length_eq_zero e2
            rw [this]
            exact .sl0 _ _ _
          · rw [e1]
            have ho : own b := ⟨g, o, hg, by rw [e1]; rfl⟩
            refine .sl _ _ _ _ _ cur o.ty (0, 0) xs (by simp only [ho, if_true]; exact e3) e4 h3 h2 ((h5 hof).mono hm) h6 ?_
            intro i u hu
            rw [← e7, List.getElem?_take] at hu
            split at hu
            · simpa using hu
            · cases hu
      · exact .imm _ _ (.junk _)
    · intro g sz i f b n c hδ
      unfold frzQ
      split
      · rename_i o hg
        split
        · rename_i hsz
          split
          · rename_i c' hc
            split
            · rename_i himm
              obtain ⟨xs, h1, h2, h3, h4, h5, h6, h7⟩ := hi.own g o hg
              rcases h1.2 with ⟨e1, e2⟩ | ⟨b', cap, cur, e1, e2, e3, e4, e5, e6, e7⟩
              · rw [hδ] at e1; cases e1
              · rw [hδ] at e1
                obtain ⟨rfl, rfl, rfl⟩ : b = b' ∧ n = o.es.length ∧ c = cap := by
                  injection e1 with h1 h2 h3
                  injection h1 with h1
                  injection h1 with h1
                  exact ⟨h1, h2, h3⟩
                have ho : own b := ⟨g, o, hg, by rw [hδ]; rfl⟩
                obtain ⟨h8, h9⟩ := flatten_get h2 hc
                have hci : RepIs M c' ((xs.drop (i * o.sz)).take o.sz) := by
                  have : RepSs M δ c' ((xs.drop (i * o.sz)).take o.sz) := by rw [← h8]; exact (h4.drop _).take _
                  exact this.toI himm
                subst hsz
                refine .imm _ _ (.ptr _ b (i * o.sz + f) cur o.ty (0, 0) (((xs.drop (i * o.sz)).take o.sz).drop f) (by simp only [ho, if_true]; exact e3) ((hci.mono hm).drop f)
                  (fun v hv => h6 v (List.mem_of_mem_drop (List.mem_of_mem_take (List.mem_of_mem_drop hv)))) ?_)
                intro k u hu
                rw [List.getElem?_drop, List.getElem?_take] at hu
                split at hu
                · rw [List.getElem?_drop, ← e7, List.getElem?_take] at hu
                  split at hu
                  · rw [Nat.add_assoc]; simpa using hu
                  · cases hu
                · cases hu
            · exact .imm _ _ (.junk _)
          · exact .imm _ _ (.junk _)
        · exact .imm _ _ (.junk _)
      · exact .imm _ _ (.junk _)

mutual
theorem RepI.cellsMono {M M2 : Mem} (h : ∀ b cells T fr, M b = some (.cells cells T fr) → M2 b = some (.cells cells T fr)) : ∀ {p : PV} {v : Value}, RepI M p v → RepI M2 p v
  | _, _, .int k n => .int k n
  | _, _, .bool b => .bool b
  | _, _, .str s => .str s
  | _, _, .nilptr => .nilptr
  | _, _, .nilfn => .nilfn
  | _, _, .nilsl => .nilsl
  | _, _, .junk v => .junk v
  | _, _, .agg cs vs hh => .agg cs vs (RepIs.cellsMono h hh)
  | _, _, .tup cs vs hh => .tup cs vs (RepIs.cellsMono h hh)
  | _, _, .fn f a b va vb h1 h2 => .fn f a b va vb (RepIs.cellsMono h h1) (RepIs.cellsMono h h2)
  | _, _, .sl0 sz ao c => .sl0 sz ao c
  | _, _, .sl sz es b off c cells T fr vs h1 h2 h3 h4 h5 h6 h7 => .sl sz es b off c cells T fr vs (h _ _ _ _ h1) h2 h3 h4 (RepIs.cellsMono h h5) h6 h7
  | _, _, .ptr cs b off cells T fr vs h1 h2 h3 h4 => .ptr cs b off cells T fr vs (h _ _ _ _ h1) (RepIs.cellsMono h h2) h3 h4
theorem RepIs.cellsMono {M M2 : Mem} (h : ∀ b cells T fr, M b = some (.cells cells T fr) → M2 b = some (.cells cells T fr)) : ∀ {p : List PV} {v : List Value}, RepIs M p v → RepIs M2 p v
  | _, _, .nil => .nil
  | _, _, .cons p v ps vs h1 h2 => .cons p v ps vs (RepI.cellsMono h h1) (RepIs.cellsMono h h2)
end
mutual
theorem RepS.cellsMono {M M2 : Mem} {δ : Nat → Value} (h : ∀ b cells T fr, M b = some (.cells cells T fr) → M2 b = some (.cells cells T fr)) : ∀ {p : PV} {v : Value}, RepS M δ p v → RepS M2 δ p v
  | _, _, .imm p v hh => .imm p v (hh.cellsMono h)
  | _, _, .os g ao n c hh => .os g ao n c hh
  | _, _, .op g sz i f b n c hh => .op g sz i f b n c hh
  | _, _, .agg cs vs hh => .agg cs vs (RepSs.cellsMono h hh)
  | _, _, .tup cs vs hh => .tup cs vs (RepSs.cellsMono h hh)
  | _, _, .fn f a b va vb h1 h2 => .fn f a b va vb (RepSs.cellsMono h h1) (RepSs.cellsMono h h2)
theorem RepSs.cellsMono {M M2 : Mem} {δ : Nat → Value} (h : ∀ b cells T fr, M b = some (.cells cells T fr) → M2 b = some (.cells cells T fr)) : ∀ {p : List PV} {v : List Value}, RepSs M δ p v → RepSs M2 δ p v
  | _, _, .nil => .nil
  | _, _, .cons p v ps vs h1 h2 => .cons p v ps vs (RepS.cellsMono h h1) (RepSs.cellsMono h h2)
end

theorem Inv.shut {hp : List (Nat × GObj)} (h : Inv M F δ hp w) {D : Nat} (hD : M D = some (.deferred (some []))) (o : Obj) :
    Inv (fun b => if b = D then none else M b) F δ hp (w.putObj D o) ∧ ∀ {p : PV} {v : Value}, RepS M δ p v → RepS (fun b => if b = D then none else M b) δ p v := by
  have hc : ∀ b cells T fr, M b = some (.cells cells T fr) → (fun b => if b = D then none else M b) b = some (.cells cells T fr) := by
    intro b cells T fr hb
    have : b ≠ D := by intro e; subst e; rw [hD] at hb; cases hb
    simp [this, hb]
  refine ⟨⟨?_, ?_, ?_, h.io, ?_, h.dis⟩, fun hr => hr.cellsMono hc⟩
  · intro b x hb
    split at hb
    · cases hb
    · rename_i e; rw [World.putObj_heap_other e]; exact h.m b x hb
  · intro b x hb
    have hF := h.mf D (by rw [hD]; simp)
    rw [World.putObj_heap_other (by intro e; subst e; rw [hF] at hb; cases hb)]
    exact h.f b x hb
  · intro b hb
    split at hb
    · exact absurd rfl hb
    · exact h.mf b hb
  · intro g ob hg
    obtain ⟨xs, q1, q2, q3, q4, q5, q6, q7⟩ := h.own g ob hg
    have hbD : ∀ b, (δ g).ownBlock = some b → b ≠ D := by intro b hb e; subst e; rw [(q7 b hb).1] at hD; cases hD
    refine ⟨xs, ⟨q1.1, ?_⟩, q2, q3, q4.cellsMono hc, fun ho => (q5 ho).cellsMono hc, q6, fun b hb => ⟨by simp [hbD b hb, (q7 b hb).1], (q7 b hb).2⟩⟩
    rcases q1.2 with hh | ⟨b', cap, cur, e1, e2, e3, e4⟩
    · exact .inl hh
    · exact .inr ⟨b', cap, cur, e1, e2, by rw [World.putObj_heap_other (hbD b' (by rw [e1]; rfl))]; exact e3, e4⟩

/-- the marks on the way out -/
theorem leaves_marks {fn : Func} {tmps : Array Value} {R : Ending → World → Prop} {hp : List (Nat × GObj)} {s : St} {m0 : Mem} : ∀ (ds : List Deferred) (M : Mem) (w : World), DefOk m0 M ds → Inv M F δ hp w → (∀ i, RepS M δ (s.get i) (tmps.getD i undef)) →
    (∀ M' w', m0.le M' → Inv M' F δ hp w' → (∀ i, RepS M' δ (s.get i) (tmps.getD i undef)) → ∃ v, (results fn tmps).run P w' = .ok v w' ∧ R (.returned v) w') → LeavesInM (FnR none) 0 P fn tmps R ds .returning w
  | [], M, w, hd, hi, hs, hfin => hfin M w hd.1 hi hs
  | d :: ds, M, w, hd, hi, hs, hfin => by
    obtain ⟨D, rfl, h1, h2⟩ := hd.2.2 d (by simp)
    have hn := List.nodup_cons.1 hd.2.1
    refine ⟨by simp, .inl ⟨D, _, rfl, run_takeDeferred (hi.m D _ h1), ?_⟩⟩
    obtain ⟨i1, i2⟩ := hi.shut h1 (.deferred none)
    refine leaves_marks ds _ _ ⟨?_, hn.2, ?_⟩ i1 (fun i => i2 (hs i)) hfin
    · intro b o hb
      have : b ≠ D := by intro e; subst e; rw [h2] at hb; cases hb
      simp [this, hd.1 b o hb]
    · intro d' hd'
      obtain ⟨D', e1, e2, e3⟩ := hd.2.2 d' (by simp [hd'])
      refine ⟨D', e1, ?_, e3⟩
      have : D' ≠ D := by
        intro e; subst e; subst e1
        exact hn.1 hd'
      simp [this, e2]

theorem FC.intro (hE : ∀ T, TDok P T (E T)) (hC : ∀ f as r, C f as r → FC P f as r) (hH : ∀ f as hp r hp', H f as hp r hp' → FH P f as hp r hp') (hS : ∀ g caps xs, Sq g caps xs → FSeq P g caps xs) (hmix : P.follows .mixedOrders = true) (plan : List (Nat × Nat)) (vars : List Nat)
    {f : Nat} {fn : Func} {body : Code} {args : List PV} {r : PV} (hf : P.funcs[f]? = some fn) (hb : fn.body = some body) (henter : ∀ (args : Array Value) (w : World), (callFunc f args).run P w = .ok (.enter f args) w)
    (hok : codeOk plan fn.ntmps [] body = true) (hargs : args.length ≤ fn.ntmps) (hrI : isImm r = true) (h : wpc E C H Sq plan body (retK E fn.results.toList fun p s => frz s.hp p = r) ⟨initVs args vars, [], []⟩) : FC P f args r := by
  refine ⟨henter, fun vs w M F hi hrep => ?_⟩
  refine (callsIn_wide (n := 0)).1 (callsIn_of_wp_marks hf hb trivial ?_ rfl)
  have hrel := init_rel hi (hrep.toS (δ := fun _ => undef)) fn hargs vars []
  refine wpc_wp hE hC hH hS hmix body none _ _ _ _ _ w M _ _ (.inl rfl) hok h hrel ?_
  rintro e a w' ⟨s, M', δ', hk, hm, hr⟩
  have fin : (resK E s fn.results.toList fun ps => frz s.hp (oneOrTup ps) = r) →
      LeavesInM (FnR none) 0 P fn a.tmps (fun e w' => ∃ M' v, e = .returned v ∧ M.le M' ∧ Inv M' F (fun _ => undef) [] w' ∧ RepI M' r v) a.defers .returning w' := by
    intro hk
    refine leaves_marks a.defers M' w' hr.def0 hr.inv hr.slot fun M2 w2 hle hi2 hs2 => ?_
    have hr2 : Rel ⟨fn.ntmps, [], fun _ => undef, fun _ => none⟩ s ⟨a.tmps, []⟩ w2 M2 F δ' := ⟨⟨fun b o h => (by cases h), List.nodup_nil, fun d hd => (by cases hd)⟩, hr.size, fun i hi => (by simp at hi), hs2, hi2⟩
    obtain ⟨p, v, h1, h2, h3⟩ := results_run (K := fun p s => frz s.hp p = r) hE hr2 hk
    obtain ⟨M3, m1, m2, m3⟩ := frz_inv hr2.inv
    have h4 := m3 h2
    rw [h1] at h4
    exact ⟨v, h3, M3, v, rfl, Mem.le_trans hle m1, m2, h4.toI hrI⟩
  cases e with
  | normal => exact fin hk
  | ret => exact fin hk
  | _ => exact hk.elim

def pinned (args : List PV) (s : St) : List Nat → Prop
  | [] => True
  | i :: r => args[i]? = some (s.get i) ∧ pinned args s r

/-- each object that is handed in behind a pointer stands in an argument that is never written -/
def pinOk (args : List PV) (ro : List Nat) : List (Nat × GObj) → Bool
  | [] => true
  | (g, o) :: r => (!o.own || ro.any fun i => match args[i]? with | some (.op g' _ _ _) => g' == g | _ => false) && pinOk args ro r

theorem pinned_get {args : List PV} {s : St} : ∀ {ro : List Nat}, pinned args s ro → ∀ i ∈ ro, args[i]? = some (s.get i)
  | [], _, i, hi => by cases hi
  | j :: r, h, i, hi => by
    rcases List.mem_cons.1 hi with rfl | hi
    · exact h.1
    · exact pinned_get h.2 i hi

theorem pinOk_get {args : List PV} {ro : List Nat} : ∀ {hp : List (Nat × GObj)}, pinOk args ro hp = true → ∀ g, ownId hp g = true → ∃ i ∈ ro, ∃ sz j f, args[i]? = some (.op g sz j f)
  | [], _, g, hg => by simp [ownId, aget] at hg
  | (g', o) :: r, h, g, hg => by
    simp only [pinOk, Bool.and_eq_true] at h
    unfold ownId at hg
    simp only [aget] at hg
    by_cases e : g' = g
    · subst e
      simp only [if_true] at hg
      rw [hg] at h
      simp only [Bool.not_true, Bool.false_or, List.any_eq_true] at h
      obtain ⟨⟨i, hi, hm⟩, _⟩ := h
      refine ⟨i, hi, ?_⟩
      split at hm
      · rename_i g2 sz j f ha
        have : g2 = g' := by simpa using hm
        subst this
        exact ⟨sz, j, f, ha⟩
      · cases hm
    · simp only [e, if_false] at hg
      exact pinOk_get h.2 g hg

theorem FH.intro (hE : ∀ T, TDok P T (E T)) (hC : ∀ f as r, C f as r → FC P f as r) (hH : ∀ f as hp r hp', H f as hp r hp' → FH P f as hp r hp') (hS : ∀ g caps xs, Sq g caps xs → FSeq P g caps xs) (hmix : P.follows .mixedOrders = true) (plan : List (Nat × Nat)) (vars ro : List Nat)
    {f : Nat} {fn : Func} {body : Code} {args : List PV} {hp hp' : List (Nat × GObj)} {r : PV} (hf : P.funcs[f]? = some fn) (hb : fn.body = some body) (henter : ∀ (args : Array Value) (w : World), (callFunc f args).run P w = .ok (.enter f args) w)
    (hok : codeOk plan fn.ntmps ro body = true) (hargs : args.length ≤ fn.ntmps) (hpin : pinOk args ro hp = true) (h : wpc E C H Sq plan body (retK E fn.results.toList fun p s => p = r ∧ subHp hp' s.hp ∧ pinned args s ro) ⟨initVs args vars, [], hp⟩) :
    FH P f args hp r hp' := by
  refine ⟨henter, fun vs w M F δ hi hrep => ?_⟩
  refine (callsIn_wide (n := 0)).1 (callsIn_of_wp_marks hf hb trivial ?_ rfl)
  have hrel := init_rel hi hrep fn hargs vars ro
  refine wpc_wp hE hC hH hS hmix body none _ _ _ _ _ w M _ _ (.inl rfl) hok h hrel ?_
  rintro e a w' ⟨s, M', δ', hk, hm, hr⟩
  have fin : (resK E s fn.results.toList fun ps => oneOrTup ps = r ∧ subHp hp' s.hp ∧ pinned args s ro) →
      LeavesInM (FnR none) 0 P fn a.tmps (fun e w' => ∃ M' δ' v, e = .returned v ∧ M.le M' ∧ Inv M' F δ' hp' w' ∧ RepS M' δ' r v ∧ ∀ g, ownId hp g = true → SameB δ δ' g) a.defers .returning w' := by
    intro hk
    refine leaves_marks a.defers M' w' hr.def0 hr.inv hr.slot fun M2 w2 hle hi2 hs2 => ?_
    have hr2 : Rel ⟨fn.ntmps, [], fun _ => undef, fun _ => none⟩ s ⟨a.tmps, []⟩ w2 M2 F δ' := ⟨⟨fun b o h => (by cases h), List.nodup_nil, fun d hd => (by cases hd)⟩, hr.size, fun i hi => (by simp at hi), hs2, hi2⟩
    obtain ⟨p, v, ⟨rfl, h1, h2⟩, h3, h4⟩ := results_run (K := fun p s => p = r ∧ subHp hp' s.hp ∧ pinned args s ro) hE hr2 hk
    refine ⟨v, h4, M2, δ', v, rfl, hle, hr2.inv.sub h1, h3, ?_⟩
    intro g hg b n c hb
    obtain ⟨i, hi, sz, j, f, ha⟩ := pinOk_get hpin g hg
    have hs := pinned_get h2 i hi
    rw [ha] at hs
    have hs' : s.get i = .op g sz j f := (Option.some.inj hs).symm
    have h5 := hr.slot i
    have hro : a.tmps.getD i undef = _ := hr.ro i (by simpa using hi)
    rw [hro, hs'] at h5
    obtain ⟨b', n', c', e1, e2⟩ := h5.op_inv
    have h6 := hrel.slot i
    obtain ⟨v0, hv0, hr0⟩ := hrep.get i _ ha
    obtain ⟨b2, n2, c2, e3, e4⟩ := hr0.op_inv
    rw [hb] at e3
    injection e3 with e5
    injection e5 with e5
    injection e5 with e5
    have hlt : i < vs.length := (List.getElem?_eq_some_iff.1 hv0).1
    have hval : (vs.toArray ++ Array.replicate (fn.ntmps - vs.toArray.size) undef).getD i undef = v0 := by
      rw [Array.getD_eq_getD_getElem?, Array.getElem?_append_left (by simpa using hlt)]
      simp [hv0]
    simp only at e2
    rw [hval, e4] at e2
    injection e2 with e2
    injection e2 with e2
    injection e2 with e2
    exact ⟨n', c', by rw [e1, e5, e2]⟩
  cases e with
  | normal => exact fin hk
  | ret => exact fin hk
  | _ => exact hk.elim

end
end Go.Proofs.Ytbliiejdmgnkgaa.Pv
