/-
  The layer of values: what an evaluator says of a function holds of every run of it. For every program of the model that meets the named conditions.
-/
import Derived.Test.YtbliiejdmgnkgaaPvO
namespace Go.Proofs.Ytbliiejdmgnkgaa.Pv
open Go
set_option linter.unusedSimpArgs false
set_option linter.unusedVariables false

section
variable {P : Program} {E : Env} {C : Ctr} {H : Hnd} {w : World} {N : Cx} {s : St} {a : Act} {M : Mem} {F : Frm} {δ : Nat → Value}

theorem Inv.drew {hp : List (Nat × GObj)} (h : Inv M F δ hp w) {w' : World} (hw : w'.heap = w.heap) (hio : w'.os = w.os ∧ w'.output = w.output) : Inv M F δ hp w' := by
  refine ⟨fun b o hb => by rw [hw]; exact h.m b o hb, fun b o hb => by rw [hw]; exact h.f b o hb, h.mf, ⟨hio.1.trans h.io.1, hio.2.trans h.io.2⟩, ?_, h.dis⟩
  intro g o hg
  obtain ⟨xs, q1, q2⟩ := h.own g o hg
  refine ⟨xs, ⟨q1.1, ?_⟩, q2⟩
  rcases q1.2 with hh | ⟨b, cap, cur, e1, e2, e3, e4⟩
  · exact .inl hh
  · exact .inr ⟨b, cap, cur, e1, e2, by rw [hw]; exact e3, e4⟩

theorem Rel.drew (h : Rel N s a w M F δ) {w' : World} (hw : w'.heap = w.heap) (hio : w'.os = w.os ∧ w'.output = w.output) : Rel N s a w' M F δ := ⟨h.def0, h.size, h.ro, h.slot, h.inv.drew hw hio⟩

theorem Inv.sub {hp hp' : List (Nat × GObj)} (h : Inv M F δ hp w) (hs : subHp hp' hp) : Inv M F δ hp' w :=
  ⟨h.m, h.f, h.mf, h.io, fun g o hg => h.own g o (subHp_get hs g o hg), fun g g' o o' hne hg hg' => h.dis g g' o o' hne (subHp_get hs g o hg) (subHp_get hs g' o' hg')⟩

theorem leVs_get : ∀ {l l' : List (Nat × PV)}, leVs l l' → ∀ i q, aget l' i = some q → ∃ p, aget l i = some p ∧ (p = q ∨ q = .junk)
  | _, [], _, i, q, h => by simp [aget] at h
  | [], _ :: _, h, _, _, _ => h.elim
  | (j, p) :: r, (j', q') :: r', h, i, q, hq => by
    obtain ⟨⟨rfl, h1⟩, h2⟩ := h
    simp only [aget] at hq ⊢
    by_cases e : j = i
    · subst e
      simp only [if_true, Option.some.injEq] at hq ⊢
      subst hq
      refine ⟨p, rfl, ?_⟩
      unfold leP at h1
      split at h1
      · exact .inr rfl
      · exact .inl h1
    · simp only [e, if_false] at hq ⊢
      exact leVs_get h2 i q hq

theorem Rel.le {t : St} (h : Rel N s a w M F δ) (hl : LeSt s t) : Rel N t a w M F δ := by
  obtain ⟨h1, h2, h3⟩ := hl
  refine ⟨h.def0, h.size, h.ro, fun i => ?_, ⟨h.inv.m, h.inv.f, h.inv.mf, h.inv.io, fun g o hg => h.inv.own g o (subHp_get h3 g o hg),
    fun g g' o o' hne hg hg' => h.inv.dis g g' o o' hne (subHp_get h3 g o hg) (subHp_get h3 g' o' hg')⟩⟩
  unfold St.get
  rw [h2]
  simp only [aget]
  cases hg : aget t.vs i with
  | none => exact .imm _ _ (.junk _)
  | some q =>
    obtain ⟨p, hp, hpq⟩ := leVs_get h1 i q hg
    rcases hpq with rfl | rfl
    · have := h.slot i
      unfold St.get at this
      rw [hp] at this
      exact this
    · exact .imm _ _ (.junk _)

theorem wpc_wp (hE : ∀ T, TDok P T (E T)) (hC : ∀ f as r, C f as r → FC P f as r) (hH : ∀ f as hp r hp', H f as hp r hp' → FH P f as hp r hp') (hmix : P.follows .mixedOrders = true) {plan : List (Nat × Nat)} :
    ∀ (c : Code) (Q : Exit → St → Prop) (s : St) (a : Act) (w : World) (M : Mem) (δ : Nat → Value) (R : Exit → Act → World → Prop), codeOk N.n N.ro c = true → wpc E C H plan c Q s → Rel N s a w M F δ →
      (∀ e a w, GoodK N M F (Q e) a w → R e a w) → Code.wp P c R a w
  | .skip, Q, s, a, w, M, δ, R, hok, h, hr, hR => wp_skip (hR _ _ _ ⟨s, M, δ, h, M.le_refl, hr⟩)
  | .exit n, Q, s, a, w, M, δ, R, hok, h, hr, hR => wp_exit (hR _ _ _ ⟨s, M, δ, h, M.le_refl, hr⟩)
  | .ret, Q, s, a, w, M, δ, R, hok, h, hr, hR => wp_ret (hR _ _ _ ⟨s, M, δ, h, M.le_refl, hr⟩)
  | .region id ops draw, Q, s, a, w, M, δ, R, hok, h, hr, hR => by
    simp only [codeOk, Bool.and_eq_true, List.all_eq_true] at hok
    cases draw with
    | false =>
      simp only [wpc] at h
      exact wp_region_list (wpr_wp hE hC hH ops.toList 0 s.fresh a w M δ hok.1 h hr.fresh (hR .normal))
    | true =>
      simp only [wpc] at h
      have hdraw : drawOk ops = true := by simpa using hok.2
      obtain ⟨q, S, sE, e1, e2, e3, e4⟩ := trace_of ops.toList 0 s.fresh h
      refine wp_region_any hmix ?_
      have hrel : Rel N s.fresh a { w with drawn := w.drawn + 1 } M F δ := hr.fresh.drew rfl ⟨rfl, rfl⟩
      refine drawn_wp (gs := []) (K := Q .normal) (M0 := M) hE hC hdraw hok.1 (hR .normal) e1 e2 e3 (by simpa using e4) ops.size (Array.replicate ops.size false) a _ s.fresh M δ (by simp) hrel M.le_refl ?_ ?_ ?_ ?_
      · refine ⟨rfl, ?_, fun r _ => rfl⟩
        intro j d hj
        simp [Array.getD_eq_getD_getElem?, Array.getElem?_replicate] at hj
        split at hj <;> simp at hj
      · intro j o e _ hj
        simp [Array.getD_eq_getD_getElem?, Array.getElem?_replicate] at hj
        split at hj <;> simp at hj
      · intro j hj
        simp [Array.getD_eq_getD_getElem?, Array.getElem?_replicate] at hj
        split at hj <;> simp at hj
      · simp
  | .seq x y, Q, s, a, w, M, δ, R, hok, h, hr, hR => by
    simp only [codeOk, Bool.and_eq_true] at hok
    refine wp_seq (wpc_wp hE hC hH hmix x _ s a w M δ _ hok.1 h hr ?_)
    rintro e a' w' hg
    cases e with
    | normal =>
      obtain ⟨s', M', δ', hk, hm, hr'⟩ := hg
      exact wpc_wp hE hC hH hmix y Q s' a' w' M' δ' R hok.2 hk hr' (fun e a w hg => hR e a w (hg.le hm))
    | _ => exact hR _ _ _ hg
  | .cond x y z, Q, s, a, w, M, δ, R, hok, h, hr, hR => by
    simp only [codeOk, Bool.and_eq_true] at hok
    simp only [wpc, condK] at h
    split at h
    · rename_i c hc
      have hx := hr.opnd x; rw [hc] at hx
      refine wp_cond (t := c) hx.bool_inv ?_
      cases c with
      | true => exact wpc_wp hE hC hH hmix y Q s a w M δ R hok.1 h hr hR
      | false => exact wpc_wp hE hC hH hmix z Q s a w M δ R hok.2 h hr hR
    · exact h.elim
  | .block n c, Q, s, a, w, M, δ, R, hok, h, hr, hR => by
    simp only [codeOk] at hok
    refine wp_block (wpc_wp hE hC hH hmix c _ s a w M δ _ hok h hr ?_)
    rintro e a' w' hg
    cases e with
    | exit m =>
      simp only [Exit.inBlock]
      by_cases hmn : m = n
      · rw [if_pos hmn]
        exact hR _ _ _ (hg.mono fun s hs => by simpa [QBlock, hmn] using hs)
      · rw [if_neg hmn]
        exact hR _ _ _ (hg.mono fun s hs => by simpa [QBlock, hmn] using hs)
    | _ => exact hR _ _ _ hg
  | .loop c, Q, s, a, w, M, δ, R, hok, h, hr, hR => by
    simp only [codeOk] at hok
    obtain ⟨α, G, I, μ, x0, h0, hI, hround⟩ := h
    refine wp_loop_ghost (fun n a w => GoodK N M F (fun s => ∃ x, I x ∧ μ x = n ∧ s = G x) a w) (μ x0) ⟨G x0, M, δ, ⟨x0, hI, rfl, rfl⟩, M.le_refl, hr.le h0⟩ ?_
    rintro n a w ⟨s', M', δ', ⟨x, hx, rfl, rfl⟩, hm, hr'⟩
    refine wpc_wp hE hC hH hmix c _ (G x) a w M' δ' _ hok (hround x hx) hr' ?_
    rintro e a2 w2 hg
    cases e with
    | normal =>
      obtain ⟨s2, M2, δ2, ⟨y, ⟨hy, hlt⟩, hle⟩, hm2, hr2⟩ := hg
      exact ⟨μ y, hlt, G y, M2, δ2, ⟨y, hy, rfl, rfl⟩, Mem.le_trans hm hm2, hr2.le hle⟩
    | _ => exact hR _ _ _ (hg.le hm)
  | .rangeFunc .., Q, s, a, w, M, δ, R, hok, h, hr, hR => h.elim
  | .scope _, Q, s, a, w, M, δ, R, hok, h, hr, hR => h.elim
  | .label _, Q, s, a, w, M, δ, R, hok, h, hr, hR => h.elim
  | .goto _, Q, s, a, w, M, δ, R, hok, h, hr, hR => h.elim
  | .refuse _, Q, s, a, w, M, δ, R, hok, h, hr, hR => h.elim

/-! results and parameters -/

def resPV (P : Env) (s : St) : List ResultVar → List PV
  | [] => []
  | .tmp t :: r => s.get t :: resPV P s r
  | .cell _ _ :: r => .junk :: resPV P s r

/-- the value that the result variables hold -/
def resCell (E : Env) (s : St) : ResultVar → (PV → Prop) → Prop
  | .tmp t, K => K (s.get t)
  | .cell t T, K => match s.get t with
    | .ptr cs => loadVal (E T) cs K
    | .op g sz i f => match aget s.hp g with
      | some ob => if ob.sz = sz then match ob.es[i]? with
        | some c => loadVal (E T) (c.drop f) K
        | none => False
        else False
      | none => False
    | _ => False

def resK (E : Env) (s : St) : List ResultVar → (List PV → Prop) → Prop
  | [], K => K []
  | x :: r, K => resCell E s x fun p => resK E s r fun ps => K (p :: ps)

def oneOrTup : List PV → PV
  | [p] => p
  | ps => .tup ps

/-- what a body comes to: the results are these -/
def retK (E : Env) (vars : List ResultVar) (K : PV → St → Prop) : Exit → St → Prop
  | .ret, s => resK E s vars fun ps => K (oneOrTup ps) s
  | .normal, s => resK E s vars fun ps => K (oneOrTup ps) s
  | _, _ => False

def resOf (tmps : Array Value) (x : ResultVar) : Sem Value :=
  match x with
  | .tmp t => pure (tmps.getD t undef)
  | .cell c t => do loadVar t (← asAddr (tmps.getD c undef))

theorem results_eq (fn : Func) (tmps : Array Value) : results fn tmps = (do let vs ← fn.results.mapM (resOf tmps); pure (if h : vs.size = 1 then vs[0] else .tuple vs)) := by
  unfold results
  congr 2

theorem resCell_run (hE : ∀ T, TDok P T (E T)) {x : ResultVar} {K : PV → Prop} (hr : Rel N s a w M F δ) (h : resCell E s x K) :
    ∃ p v, K p ∧ RepS M δ p v ∧ (resOf a.tmps x).run P w = .ok v w := by
  cases x with
  | tmp t => exact ⟨_, _, h, hr.slot t, rfl⟩
  | cell t T =>
    simp only [resCell] at h
    have hx := hr.slot t
    split at h
    · rename_i cs hc
      rw [hc] at hx
      obtain ⟨b, off, vs, e1, e2, e3, e4⟩ := ptr_cells hr.inv hx.ptr_inv
      obtain ⟨p, v, k1, k2, k3⟩ := loadVar_run (hE T) e2.toS e4 h
      exact ⟨p, v, k1, k2, by simp [resOf, e1, asAddr, k3]⟩
    · rename_i g sz i f hc
      rw [hc] at hx
      obtain ⟨b, n, c, e1, e2⟩ := hx.op_inv
      split at h
      · rename_i ob hg
        split at h
        · rename_i hsz
          split at h
          · rename_i c' hc
            obtain ⟨vs, r1, r2, r3⟩ := own_cells hr.inv hg e1 hc
            obtain ⟨p, v, k1, k2, k3⟩ := loadVar_run (b := b) (off := i * sz + f) (hE T) (r1.drop f) (fun j v hv => by
              rw [List.getElem?_drop] at hv
              have := r3 _ _ hv
              rw [hsz] at this
              rw [Nat.add_assoc]; exact this) h
            exact ⟨p, v, k1, k2, by simp [resOf, e2, asAddr, k3]⟩
          · exact h.elim
        · exact h.elim
      · exact h.elim
    · exact h.elim

theorem resK_run (hE : ∀ T, TDok P T (E T)) (hr : Rel N s a w M F δ) : ∀ {l : List ResultVar} {K : List PV → Prop}, resK E s l K →
    ∃ ps vs, K ps ∧ RepSs M δ ps vs ∧ (l.mapM (resOf a.tmps)).run P w = .ok vs w
  | [], K, h => ⟨[], [], h, .nil, by simp⟩
  | x :: r, K, h => by
    obtain ⟨p, v, h1, h2, h3⟩ := resCell_run hE hr h
    obtain ⟨ps, vs, k1, k2, k3⟩ := resK_run hE hr h1
    refine ⟨p :: ps, v :: vs, k1, .cons _ _ _ _ h2 k2, ?_⟩
    rw [List.mapM_cons]
    simp only [Sem.run_bind]
    rw [h3]
    simp only [Result.andThen_ok]
    rw [k3]
    rfl

theorem results_run (hE : ∀ T, TDok P T (E T)) (hr : Rel N s a w M F δ) {fn : Func} {K : PV → St → Prop} (h : resK E s fn.results.toList fun ps => K (oneOrTup ps) s) :
    ∃ p v, K p s ∧ RepS M δ p v ∧ (results fn a.tmps).run P w = .ok v w := by
  obtain ⟨ps, vs, h1, h2, h3⟩ := resK_run hE hr h
  have hm : (fn.results.mapM (resOf a.tmps)).run P w = .ok vs.toArray w := by
    rw [Array.mapM_eq_mapM_toList]
    simp only [Sem.run_map, h3, Result.andThen_ok]
  cases h2 with
  | nil =>
    refine ⟨_, .tuple #[], h1, .imm _ _ (.tup [] [] .nil), ?_⟩
    rw [results_eq]
    simp only [Sem.run_bind]
    rw [hm]
    simp
  | cons p v ps vs k1 k2 =>
    cases k2 with
    | nil =>
      refine ⟨_, v, h1, k1, ?_⟩
      rw [results_eq]
      simp only [Sem.run_bind]
      rw [hm]
      simp
    | cons p2 v2 ps2 vs2 k3 k4 =>
      refine ⟨_, .tuple (v :: v2 :: vs2).toArray, h1, .tup _ _ (.cons _ _ _ _ k1 (.cons _ _ _ _ k3 k4)), ?_⟩
      rw [results_eq]
      simp only [Sem.run_bind]
      rw [hm]
      simp

def initVs (args : List PV) : List Nat → List (Nat × PV)
  | [] => []
  | i :: r => (i, match args[i]? with | some p => p | none => .tup []) :: initVs args r

theorem aget_initVs (args : List PV) : ∀ (vars : List Nat) (i : Nat) (p : PV), aget (initVs args vars) i = some p → p = match args[i]? with | some p => p | none => .tup []
  | [], i, p, h => by simp [initVs, aget] at h
  | j :: r, i, p, h => by
    simp only [initVs, aget] at h
    split at h
    · rename_i e; subst e; exact (Option.some.inj h).symm
    · exact aget_initVs args r i p h

theorem init_rel {args : List PV} {vs : List Value} {hp : List (Nat × GObj)} (hi : Inv M F δ hp w) (hrep : RepSs M δ args vs) (fn : Func) (hargs : args.length ≤ fn.ntmps) (vars ro : List Nat) :
    Rel ⟨fn.ntmps, ro, fun i => (vs.toArray ++ Array.replicate (fn.ntmps - vs.toArray.size) undef).getD i undef⟩ ⟨initVs args vars, [], hp⟩
      { tmps := vs.toArray ++ Array.replicate (fn.ntmps - vs.toArray.size) undef, defers := [] } w M F δ := by
  have hl := hrep.length
  refine ⟨rfl, by simp; omega, fun i _ => rfl, fun i => ?_, hi⟩
  have hval : RepS M δ (match args[i]? with | some p => p | none => .tup []) ((vs.toArray ++ Array.replicate (fn.ntmps - vs.toArray.size) undef).getD i undef) := by
    cases ha : args[i]? with
    | some p =>
      obtain ⟨v, hv, hp⟩ := hrep.get i p ha
      have hlt : i < vs.length := (List.getElem?_eq_some_iff.1 hv).1
      have : (vs.toArray ++ Array.replicate (fn.ntmps - vs.toArray.size) undef).getD i undef = v := by
        rw [Array.getD_eq_getD_getElem?, Array.getElem?_append_left (by simpa using hlt)]
        simp [hv]
      rw [this]; exact hp
    | none =>
      have hge : vs.length ≤ i := by rw [← hl]; exact List.getElem?_eq_none_iff.1 ha
      have : (vs.toArray ++ Array.replicate (fn.ntmps - vs.toArray.size) undef).getD i undef = undef := by
        rw [Array.getD_eq_getD_getElem?, Array.getElem?_append_right (by simpa using hge)]
        simp only [Array.getElem?_replicate]
        split <;> rfl
      rw [this]; exact undef_rep
  unfold St.get
  simp only [aget]
  cases hg : aget (initVs args vars) i with
  | some p =>
    have := aget_initVs args vars i p hg
    simp only
    rw [this]; exact hval
  | none => exact .imm _ _ (.junk _)

def frzU (hp : List (Nat × GObj)) (g : Nat) : PV :=
  match aget hp g with
  | some o => match o.own with | true => .junk | false => .sl o.sz o.es
  | none => .junk

def frzQ (hp : List (Nat × GObj)) (g sz i f : Nat) : PV :=
  match aget hp g with
  | some o => if o.sz = sz then match o.es[i]? with
    | some c => match isImms c with | true => .ptr (c.drop f) | false => .junk
    | none => .junk
    else .junk
  | none => .junk

/-- what is handed back is never written again -/
def frz (hp : List (Nat × GObj)) (p : PV) : PV := mapO (frzU hp) (frzQ hp) p

theorem frz_inv {hp : List (Nat × GObj)} (hi : Inv M F δ hp w) : ∃ M', M.le M' ∧ Inv M' F (fun _ => undef) [] w ∧ ∀ {p : PV} {v : Value}, RepS M δ p v → RepS M' δ (frz hp p) v := by
  classical
  let own : Nat → Prop := fun b => ∃ g o, aget hp g = some o ∧ (δ g).ownBlock = some b
  have hown : ∀ b, own b → M b = none ∧ F b = none := by
    rintro b ⟨g, o, hg, hb⟩
    obtain ⟨xs, _, _, _, _, _, _, h7⟩ := hi.own g o hg
    exact h7 b hb
  have hm : M.le (fun b => if own b then w.heap[b]? else M b) := by
    intro b o hb
    have : ¬ own b := fun ho => by rw [(hown b ho).1] at hb; cases hb
    simp [this, hb]
  refine ⟨fun b => if own b then w.heap[b]? else M b, hm, ⟨?_, hi.f, ?_, hi.io, by intro g o hg; simp [aget] at hg, by intro g g' o o' _ hg; simp [aget] at hg⟩, ?_⟩
  · intro b o hb
    split at hb
    · exact hb
    · exact hi.m _ _ hb
  · intro b hb
    split at hb
    · rename_i ho; exact (hown b ho).2
    · exact hi.mf b hb
  · intro p v hp'
    refine (hp'.mono hm).mapO _ _ ?_ ?_
    · intro g ao n c hδ
      unfold frzU
      split
      · rename_i o hg
        split
        · exact .imm _ _ (.junk _)
        · rename_i hof
          obtain ⟨xs, h1, h2, h3, h4, h5, h6, h7⟩ := hi.own g o hg
          refine .imm _ _ ?_
          rw [← hδ]
          rcases h1.2 with ⟨e1, e2⟩ | ⟨b, cap, cur, e1, e2, e3, e4, e5, e6, e7⟩
          · rw [e1]
            have : o.es = [] := List.eq_nil_of_length_eq_zero e2
            rw [this]
            exact .sl0 _ _ _
          · rw [e1]
            have ho : own b := ⟨g, o, hg, by rw [e1]; rfl⟩
            refine .sl _ _ _ _ _ cur o.ty (0, 0) xs (by simp only [ho, if_true]; exact e3) e4 h3 h2 ((h5 hof).mono hm) h6 ?_
            intro i u hu
            rw [← e7, List.getElem?_take] at hu
            split at hu
            · simpa using hu
            · cases hu
      · exact .imm _ _ (.junk _)
    · intro g sz i f b n c hδ
      unfold frzQ
      split
      · rename_i o hg
        split
        · rename_i hsz
          split
          · rename_i c' hc
            split
            · rename_i himm
              obtain ⟨xs, h1, h2, h3, h4, h5, h6, h7⟩ := hi.own g o hg
              rcases h1.2 with ⟨e1, e2⟩ | ⟨b', cap, cur, e1, e2, e3, e4, e5, e6, e7⟩
              · rw [hδ] at e1; cases e1
              · rw [hδ] at e1
                obtain ⟨rfl, rfl, rfl⟩ : b = b' ∧ n = o.es.length ∧ c = cap := by
                  injection e1 with h1 h2 h3
                  injection h1 with h1
                  injection h1 with h1
                  exact ⟨h1, h2, h3⟩
                have ho : own b := ⟨g, o, hg, by rw [hδ]; rfl⟩
                obtain ⟨h8, h9⟩ := flatten_get h2 hc
                have hci : RepIs M c' ((xs.drop (i * o.sz)).take o.sz) := by
                  have : RepSs M δ c' ((xs.drop (i * o.sz)).take o.sz) := by rw [← h8]; exact (h4.drop _).take _
                  exact this.toI himm
                subst hsz
                refine .imm _ _ (.ptr _ b (i * o.sz + f) cur o.ty (0, 0) (((xs.drop (i * o.sz)).take o.sz).drop f) (by simp only [ho, if_true]; exact e3) ((hci.mono hm).drop f)
                  (fun v hv => h6 v (List.mem_of_mem_drop (List.mem_of_mem_take (List.mem_of_mem_drop hv)))) ?_)
                intro k u hu
                rw [List.getElem?_drop, List.getElem?_take] at hu
                split at hu
                · rw [List.getElem?_drop, ← e7, List.getElem?_take] at hu
                  split at hu
                  · rw [Nat.add_assoc]; simpa using hu
                  · cases hu
                · cases hu
            · exact .imm _ _ (.junk _)
          · exact .imm _ _ (.junk _)
        · exact .imm _ _ (.junk _)
      · exact .imm _ _ (.junk _)

theorem FC.intro (hE : ∀ T, TDok P T (E T)) (hC : ∀ f as r, C f as r → FC P f as r) (hH : ∀ f as hp r hp', H f as hp r hp' → FH P f as hp r hp') (hmix : P.follows .mixedOrders = true) (plan : List (Nat × Nat)) (vars : List Nat)
    {f : Nat} {fn : Func} {body : Code} {args : List PV} {r : PV} (hf : P.funcs[f]? = some fn) (hb : fn.body = some body) (henter : ∀ (args : Array Value) (w : World), (callFunc f args).run P w = .ok (.enter f args) w)
    (hok : codeOk fn.ntmps [] body = true) (hargs : args.length ≤ fn.ntmps) (hrI : isImm r = true) (h : wpc E C H plan body (retK E fn.results.toList fun p s => frz s.hp p = r) ⟨initVs args vars, [], []⟩) : FC P f args r := by
  refine ⟨henter, fun vs w M F hi hrep => ?_⟩
  refine calls_of_wp hf hb ?_
  have hrel := init_rel hi (hrep.toS (δ := fun _ => undef)) fn hargs vars []
  refine wpc_wp hE hC hH hmix body _ _ _ w M _ _ hok h hrel ?_
  rintro e a w' ⟨s, M', δ', hk, hm, hr⟩
  have fin : (resK E s fn.results.toList fun ps => frz s.hp (oneOrTup ps) = r) →
      a.defers = [] ∧ ∃ v, (results fn a.tmps).run P w' = .ok v w' ∧ ∃ M' v', (Ending.returned v) = .returned v' ∧ M.le M' ∧ Inv M' F (fun _ => undef) [] w' ∧ RepI M' r v' := by
    intro hk
    obtain ⟨p, v, h1, h2, h3⟩ := results_run (K := fun p s => frz s.hp p = r) hE hr hk
    obtain ⟨M2, m1, m2, m3⟩ := frz_inv hr.inv
    have h4 := m3 h2
    rw [h1] at h4
    exact ⟨hr.def0, v, h3, M2, v, rfl, Mem.le_trans hm m1, m2, h4.toI hrI⟩
  cases e with
  | normal => exact fin hk
  | ret => exact fin hk
  | _ => exact hk.elim

def pinned (args : List PV) (s : St) : List Nat → Prop
  | [] => True
  | i :: r => args[i]? = some (s.get i) ∧ pinned args s r

/-- each object that is handed in behind a pointer stands in an argument that is never written -/
def pinOk (args : List PV) (ro : List Nat) : List (Nat × GObj) → Bool
  | [] => true
  | (g, o) :: r => (!o.own || ro.any fun i => match args[i]? with | some (.op g' _ _ _) => g' == g | _ => false) && pinOk args ro r

theorem pinned_get {args : List PV} {s : St} : ∀ {ro : List Nat}, pinned args s ro → ∀ i ∈ ro, args[i]? = some (s.get i)
  | [], _, i, hi => by cases hi
  | j :: r, h, i, hi => by
    rcases List.mem_cons.1 hi with rfl | hi
    · exact h.1
    · exact pinned_get h.2 i hi

theorem pinOk_get {args : List PV} {ro : List Nat} : ∀ {hp : List (Nat × GObj)}, pinOk args ro hp = true → ∀ g, ownId hp g = true → ∃ i ∈ ro, ∃ sz j f, args[i]? = some (.op g sz j f)
  | [], _, g, hg => by simp [ownId, aget] at hg
  | (g', o) :: r, h, g, hg => by
    simp only [pinOk, Bool.and_eq_true] at h
    unfold ownId at hg
    simp only [aget] at hg
    by_cases e : g' = g
    · subst e
      simp only [if_true] at hg
      rw [hg] at h
      simp only [Bool.not_true, Bool.false_or, List.any_eq_true] at h
      obtain ⟨⟨i, hi, hm⟩, _⟩ := h
      refine ⟨i, hi, ?_⟩
      split at hm
      · rename_i g2 sz j f ha
        have : g2 = g' := by simpa using hm
        subst this
        exact ⟨sz, j, f, ha⟩
      · cases hm
    · simp only [e, if_false] at hg
      exact pinOk_get h.2 g hg

theorem FH.intro (hE : ∀ T, TDok P T (E T)) (hC : ∀ f as r, C f as r → FC P f as r) (hH : ∀ f as hp r hp', H f as hp r hp' → FH P f as hp r hp') (hmix : P.follows .mixedOrders = true) (plan : List (Nat × Nat)) (vars ro : List Nat)
    {f : Nat} {fn : Func} {body : Code} {args : List PV} {hp hp' : List (Nat × GObj)} {r : PV} (hf : P.funcs[f]? = some fn) (hb : fn.body = some body) (henter : ∀ (args : Array Value) (w : World), (callFunc f args).run P w = .ok (.enter f args) w)
    (hok : codeOk fn.ntmps ro body = true) (hargs : args.length ≤ fn.ntmps) (hpin : pinOk args ro hp = true) (h : wpc E C H plan body (retK E fn.results.toList fun p s => p = r ∧ subHp hp' s.hp ∧ pinned args s ro) ⟨initVs args vars, [], hp⟩) :
    FH P f args hp r hp' := by
  refine ⟨henter, fun vs w M F δ hi hrep => ?_⟩
  refine calls_of_wp hf hb ?_
  have hrel := init_rel hi hrep fn hargs vars ro
  refine wpc_wp hE hC hH hmix body _ _ _ w M _ _ hok h hrel ?_
  rintro e a w' ⟨s, M', δ', hk, hm, hr⟩
  have fin : (resK E s fn.results.toList fun ps => oneOrTup ps = r ∧ subHp hp' s.hp ∧ pinned args s ro) →
      a.defers = [] ∧ ∃ v, (results fn a.tmps).run P w' = .ok v w' ∧ ∃ M' δ' v', (Ending.returned v) = .returned v' ∧ M.le M' ∧ Inv M' F δ' hp' w' ∧ RepS M' δ' r v' ∧ ∀ g, ownId hp g = true → SameB δ δ' g := by
    intro hk
    obtain ⟨p, v, ⟨rfl, h1, h2⟩, h3, h4⟩ := results_run (K := fun p s => p = r ∧ subHp hp' s.hp ∧ pinned args s ro) hE hr hk
    refine ⟨hr.def0, v, h4, M', δ', v, rfl, hm, hr.inv.sub h1, h3, ?_⟩
    intro g hg b n c hb
    obtain ⟨i, hi, sz, j, f, ha⟩ := pinOk_get hpin g hg
    have hs := pinned_get h2 i hi
    rw [ha] at hs
    have hs' : s.get i = .op g sz j f := (Option.some.inj hs).symm
    have h5 := hr.slot i
    have hro : a.tmps.getD i undef = _ := hr.ro i (by simpa using hi)
    rw [hro, hs'] at h5
    obtain ⟨b', n', c', e1, e2⟩ := h5.op_inv
    have h6 := hrel.slot i
    have hiv : St.get ⟨initVs args vars, [], hp⟩ i = .op g sz j f ∨ True := .inr trivial
    obtain ⟨v0, hv0, hr0⟩ := hrep.get i _ ha
    obtain ⟨b2, n2, c2, e3, e4⟩ := hr0.op_inv
    rw [hb] at e3
    injection e3 with e5
    injection e5 with e5
    injection e5 with e5
    have hlt : i < vs.length := (List.getElem?_eq_some_iff.1 hv0).1
    have hval : (vs.toArray ++ Array.replicate (fn.ntmps - vs.toArray.size) undef).getD i undef = v0 := by
      rw [Array.getD_eq_getD_getElem?, Array.getElem?_append_left (by simpa using hlt)]
      simp [hv0]
    simp only at e2
    rw [hval, e4] at e2
    injection e2 with e2
    injection e2 with e2
    injection e2 with e2
    exact ⟨n', c', by rw [e1, e5, e2]⟩
  cases e with
  | normal => exact fin hk
  | ret => exact fin hk
  | _ => exact hk.elim

end
end Go.Proofs.Ytbliiejdmgnkgaa.Pv
