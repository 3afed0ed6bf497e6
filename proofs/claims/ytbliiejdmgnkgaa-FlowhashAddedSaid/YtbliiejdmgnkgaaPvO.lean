/-
  The layer of values: what an evaluator says of a function holds of every run of it. For every program of the model that meets the named conditions.
-/
import Derived.Test.YtbliiejdmgnkgaaPvN
namespace Go.Proofs.Ytbliiejdmgnkgaa.Pv
open Go
set_option linter.unusedSimpArgs false
set_option linter.unusedVariables false

def edgeOn (o : Oper) (j : Nat) : Bool := o.after.toList.any fun e => Region.binds .any e && e.on == j

def pairOk (ops : Array Oper) (i j : Nat) (o o' : Oper) : Bool :=
  match o'.dst with
  | some d => (i == j || o.dst != some d) && (!(o.looksAt ops).contains d || i == j || (if j < i then edgeOn o j else edgeOn o' i))
  | none => true

def drawOk (ops : Array Oper) : Bool :=
  (List.range ops.size).all fun i => match ops[i]? with
    | some o => (o.after.toList.all fun e => !Region.binds .any e || decide (e.on < i)) && (List.range ops.size).all fun j => match ops[j]? with
      | some o' => pairOk ops i j o o'
      | none => true
    | none => true

section
variable {ρ : Option Nat} {P : Program} {E : Env} {C : Ctr} {H : Hnd} {w : World} {N : Cx} {s : St} {a : Act} {M : Mem} {F : Frm} {δ : Nat → Value}

theorem drawOk_at {ops : Array Oper} (h : drawOk ops = true) {i : Nat} {o : Oper} (hi : ops[i]? = some o) :
    (∀ e ∈ o.after, Region.binds .any e = true → e.on < i) ∧ ∀ (j : Nat) (o' : Oper) (d : Tmp), ops[j]? = some o' → o'.dst = some d →
      (i ≠ j → o.dst ≠ some d) ∧ (d ∈ o.looksAt ops → i ≠ j → (j < i → edgeOn o j = true) ∧ (i < j → edgeOn o' i = true)) := by
  have hlt : i < ops.size := (Array.getElem?_eq_some_iff.1 hi).1
  unfold drawOk at h
  rw [List.all_eq_true] at h
  have h1 := h i (List.mem_range.2 hlt)
  simp only [hi, Bool.and_eq_true] at h1
  obtain ⟨h1, h2⟩ := h1
  constructor
  · intro e he hb
    rw [List.all_eq_true] at h1
    have := h1 e (by simpa using he)
    simpa [hb] using this
  · intro j o' d hj hd
    rw [List.all_eq_true] at h2
    have h3 := h2 j (List.mem_range.2 (Array.getElem?_eq_some_iff.1 hj).1)
    simp only [hj, pairOk, hd, Bool.and_eq_true, Bool.or_eq_true] at h3
    obtain ⟨h3, h4⟩ := h3
    constructor
    · intro hne
      rcases h3 with h3 | h3
      · exact absurd (by simpa using h3) hne
      · simpa using h3
    · intro hm hne
      rcases h4 with (h4 | h4) | h4
      · simp [hm] at h4
      · exact absurd (by simpa using h4) hne
      · constructor
        · intro hlt; rwa [if_pos hlt] at h4
        · intro hlt; rwa [if_neg (by omega)] at h4

theorem edge_listed {o : Oper} {i j : Nat} {ops : Array Oper} {listed : Array Bool} (hr : i ∈ Region.ready .any ops listed) (ho : ops[i]? = some o) (he : edgeOn o j = true) : listed.getD j false = true := by
  obtain ⟨h1, o', h2, h3⟩ := mem_ready.1 hr
  rw [ho] at h2
  cases h2
  unfold edgeOn at he
  rw [List.any_eq_true] at he
  obtain ⟨e, hm, hb⟩ := he
  simp only [Bool.and_eq_true, beq_iff_eq] at hb
  have := h3 e (by simpa using hm) hb.1
  rwa [hb.2] at this

/-- the guard's word, in a state -/
def GuardOn (ops : List Oper) (o : Oper) (s : St) : Prop := o.guard = none ∨ ∃ j b d, o.guard = some (j, b) ∧ opDst ops j = some d ∧ s.get d = .bool b
def GuardOff (ops : List Oper) (o : Oper) (s : St) : Prop := ∃ j b d, o.guard = some (j, b) ∧ opDst ops j = some d ∧ (s.get d = .bool (!b) ∨ s.get d = .tup [])

theorem guarded_word {ops : List Oper} {o : Oper} {K1 K2 : St → Prop} (h : guarded ops o K1 K2 s) : (GuardOn ops o s ∧ K1 s) ∨ (GuardOff ops o s ∧ K2 s) := by
  unfold guarded at h
  split at h
  · rename_i hg; exact .inl ⟨.inl hg, h⟩
  · rename_i j b hg
    split at h
    · rename_i d hd
      split at h
      · rename_i hb
        cases b with
        | true => exact .inl ⟨.inr ⟨j, true, d, hg, hd, hb⟩, h⟩
        | false => exact .inr ⟨⟨j, false, d, hg, hd, .inl hb⟩, h⟩
      · rename_i hb
        cases b with
        | true => exact .inr ⟨⟨j, true, d, hg, hd, .inl hb⟩, h⟩
        | false => exact .inl ⟨.inr ⟨j, false, d, hg, hd, hb⟩, h⟩
      · rename_i hb
        exact .inr ⟨⟨j, b, d, hg, hd, .inr hb⟩, h⟩
      · exact h.elim
    · exact h.elim

theorem GuardOn.wanted {ops : Array Oper} {o : Oper} (h : GuardOn ops.toList o s) (hr : Rel N s a w M F δ) : Region.wanted o (yielded ops a.tmps) = true := by
  rcases h with hg | ⟨j, b, d, hg, hd, hb⟩
  · simp [Region.wanted, hg]
  · simp [Region.wanted, hg, (yielded_of hr hd).1 _ hb]
theorem GuardOff.wanted {ops : Array Oper} {o : Oper} (h : GuardOff ops.toList o s) (hr : Rel N s a w M F δ) : Region.wanted o (yielded ops a.tmps) = false := by
  obtain ⟨j, b, d, hg, hd, hb⟩ := h
  rcases hb with hb | hb
  · cases b <;> simp [Region.wanted, hg, (yielded_of hr hd).1 _ hb]
  · simp [Region.wanted, hg, (yielded_of hr hd).2 hb]

/-- what one operation did in the order of the text -/
def Did (E : Env) (C : Ctr) (ops : List Oper) (o : Oper) (s : St) (q : PV) : Prop := (GuardOn ops o s ∧ Yields E C o s q) ∨ (GuardOff ops o s ∧ q = .tup [])

/-- the state when the operations of X have been carried out -/
def Agree (ops : List Oper) (q : Nat → PV) (s0 : St) (X : Nat → Prop) (s : St) : Prop :=
  s.hp = s0.hp ∧ (∀ j d, X j → opDst ops j = some d → s.get d = q j) ∧ ∀ r, (∀ j, X j → opDst ops j ≠ some r) → s.get r = s0.get r

theorem SEq.refl (s : St) : SEq s s := ⟨fun _ => rfl, rfl⟩
theorem SEq.symm {s s' : St} (h : SEq s s') : SEq s' s := ⟨fun i => (h.1 i).symm, h.2.symm⟩
theorem SEq.trans {s s' s'' : St} (h : SEq s s') (h' : SEq s' s'') : SEq s s'' := ⟨fun i => (h.1 i).trans (h'.1 i), h.2.trans h'.2⟩

/-- the order of the text, operation by operation -/
theorem trace_of {ops : List Oper} {gs : List Nat} {K : St → Prop} : ∀ (l : List Oper) (i : Nat) (s : St), wprQ E C ops gs i l K s →
    ∃ (q : Nat → PV) (S : Nat → St) (sE : St), SEq (S 0) s ∧ (∀ k o, l[k]? = some o → Did E C ops o (S k) (q k) ∧ SEq (S (k + 1)) ((S k).putO o.dst (q k))) ∧ K sE ∧ SEq (S l.length) sE
  | [], i, s, h => ⟨fun _ => .junk, fun _ => s, s, SEq.refl s, by simp, h, SEq.refl s⟩
  | o :: r, i, s, h => by
    simp only [wprQ] at h
    have next : ∀ (q0 : PV) (s1 : St), Did E C ops o s q0 → SEq s1 (s.putO o.dst q0) → wprQ E C ops gs (i + 1) r K s1 → ∃ (q : Nat → PV) (S : Nat → St) (sE : St), SEq (S 0) s ∧
        (∀ k o', (o :: r)[k]? = some o' → Did E C ops o' (S k) (q k) ∧ SEq (S (k + 1)) ((S k).putO o'.dst (q k))) ∧ K sE ∧ SEq (S (o :: r).length) sE := by
      intro q0 s1 hd hs h1
      obtain ⟨q, S, sE, e1, e2, e3, e4⟩ := trace_of r (i + 1) s1 h1
      refine ⟨fun k => match k with | 0 => q0 | k + 1 => q k, fun k => match k with | 0 => s | k + 1 => S k, sE, SEq.refl s, ?_, e3, e4⟩
      intro k o' hk
      cases k with
      | zero => simp at hk; subst hk; exact ⟨hd, e1.trans hs⟩
      | succ k => exact e2 k o' (by simpa using hk)
    rcases guarded_word h with ⟨hg, h⟩ | ⟨hg, h⟩
    · obtain ⟨p, hy, hk⟩ := valOp_split h
      have hd : Did E C ops o s p := .inl ⟨hg, hy⟩
      split at hk
      · unfold splitB at hk
        split at hk
        · rename_i d hdst
          split at hk
          · rename_i c hc
            have hp : p = .bool c := by rw [hdst] at hc; simpa [St.putO, St.get_put] using hc
            cases c with
            | true =>
              refine next p _ hd ⟨fun j => ?_, St.put_hp _ _ _⟩ hk
              rw [St.get_put]; split
              · rename_i e; subst e; rw [hc]
              · rfl
            | false =>
              refine next p _ hd ⟨fun j => ?_, St.put_hp _ _ _⟩ hk
              rw [St.get_put]; split
              · rename_i e; subst e; rw [hc]
              · rfl
          · exact next p _ hd (SEq.refl _) hk
        · exact next p _ hd (SEq.refl _) hk
      · exact next p _ hd (SEq.refl _) hk
    · exact next (.tup []) _ (.inr ⟨hg, rfl⟩) (SEq.refl _) h

theorem agree_prefix {ops : Array Oper} (hok : drawOk ops = true) {q : Nat → PV} {S : Nat → St} {s : St} (h0 : SEq (S 0) s) (h1 : ∀ k o, ops.toList[k]? = some o → SEq (S (k + 1)) ((S k).putO o.dst (q k))) :
    ∀ k, k ≤ ops.size → Agree ops.toList q s (fun j => j < k) (S k)
  | 0, _ => ⟨h0.2, fun j d hj => absurd hj (Nat.not_lt_zero j), fun r _ => h0.1 r⟩
  | k + 1, hk => by
    obtain ⟨a1, a2, a3⟩ := agree_prefix hok h0 h1 k (by omega)
    have hlt : k < ops.size := by omega
    have ho : ops.toList[k]? = some ops[k] := by simp [hlt]
    have hoa : ops[k]? = some ops[k] := by simp [hlt]
    obtain ⟨e1, e2⟩ := h1 k _ ho
    have hdk : opDst ops.toList k = ops[k].dst := by unfold opDst; rw [ho]
    refine ⟨by rw [e2, St.putO_hp]; exact a1, ?_, ?_⟩
    · intro j d hj hd
      rw [e1]
      by_cases hjk : j = k
      · subst hjk
        rw [hdk] at hd
        rw [hd]; simp [St.putO, St.get_put]
      · have hjlt : j < k := by omega
        have hoj : ops[j]? = some ops[j] := by simp [show j < ops.size by omega]
        have hdj : ops[j].dst = some d := by unfold opDst at hd; simpa [show j < ops.size by omega] using hd
        have hne := ((drawOk_at hok hoa).2 j _ d hoj hdj).1 (Ne.symm hjk)
        cases hdd : ops[k].dst with
        | none => simp only [St.putO]; exact a2 j d hjlt hd
        | some d' =>
          simp only [St.putO, St.get_put]
          rw [if_neg (by intro e; subst e; exact hne hdd)]
          exact a2 j d hjlt hd
    · intro r hr
      rw [e1]
      have hrk := hr k (by omega)
      rw [hdk] at hrk
      cases hdd : ops[k].dst with
      | none => simp only [St.putO]; exact a3 r (fun j hj => hr j (by omega))
      | some d' =>
        simp only [St.putO, St.get_put]
        rw [if_neg (by intro e; subst e; exact hrk hdd)]
        exact a3 r (fun j hj => hr j (by omega))

theorem drawn_wp (hE : ∀ T, TDok P T (E T)) (hC : ∀ f as r, C f as r → FC P f as r) {ops : Array Oper} (hok : drawOk ops = true) (hdst : ∀ o ∈ ops.toList, dstOk N.n N.ro o = true) {gs : List Nat} {K : St → Prop} {s0 : St} {M0 : Mem}
    {Q : Exit → Act → World → Prop} (hQ : ∀ a w, GoodK N M0 F K a w → Q .normal a w) {q : Nat → PV} {S : Nat → St} {sE : St} (h0 : SEq (S 0) s0)
    (h1 : ∀ k o, ops.toList[k]? = some o → Did E C ops.toList o (S k) (q k) ∧ SEq (S (k + 1)) ((S k).putO o.dst (q k))) (hK : K sE) (hE' : SEq (S ops.size) sE) :
    ∀ (fuel : Nat) (listed : Array Bool) (a : Act) (w : World) (s : St) (M : Mem) (δ : Nat → Value), listed.size = ops.size → Rel N s a w M F δ → M0.le M → Agree ops.toList q s0 (fun j => listed.getD j false = true) s →
      (∀ j o e, ops[j]? = some o → listed.getD j false = true → e ∈ o.after → Region.binds .any e = true → listed.getD e.on false = true) → (∀ j, listed.getD j false = true → j < ops.size) →
      (listed.toList.filter (! ·)).length ≤ fuel → wpAnyIn (FnR ρ) 0 P .any ops Q fuel listed a w := by
  have hend : ∀ (listed : Array Bool) (a : Act) (w : World) (s : St) (M : Mem) (δ : Nat → Value), listed.size = ops.size → Rel N s a w M F δ → M0.le M → Agree ops.toList q s0 (fun j => listed.getD j false = true) s →
      Region.ready .any ops listed = [] → Q .normal a w := by
    intro listed a w s M δ hs hr hm hag hready
    have hall : ∀ j, j < ops.size → listed.getD j false = true := by
      intro j
      induction j using Nat.strongRecOn with
      | ind j ih =>
        intro hj
        cases hl : listed.getD j false with
        | true => rfl
        | false =>
          exfalso
          have hm : j ∈ Region.ready .any ops listed := by
            refine mem_ready.2 ⟨?_, ops[j], by simp [hj], fun e he hb => ?_⟩
            · have : j < listed.size := by omega
              simpa [Array.getD_eq_getD_getElem?, this] using hl
            · have hlt := (drawOk_at hok (i := j) (o := ops[j]) (by simp [hj])).1 e he hb
              exact ih e.on hlt (by omega)
          rw [hready] at hm
          cases hm
    obtain ⟨b1, b2, b3⟩ := agree_prefix hok h0 (fun k o hk => (h1 k o hk).2) ops.size (Nat.le_refl _)
    have hdlt : ∀ j d, opDst ops.toList j = some d → j < ops.size := by
      intro j d hd
      unfold opDst at hd
      split at hd
      · rename_i o ho
        have := (List.getElem?_eq_some_iff.1 ho).1
        simpa using this
      · cases hd
    have hse : SEq s sE := by
      refine SEq.trans ⟨fun r => ?_, by rw [hag.1, b1]⟩ hE'
      by_cases hex : ∃ j, opDst ops.toList j = some r
      · obtain ⟨j, hj⟩ := hex
        rw [hag.2.1 j r (hall j (hdlt j r hj)) hj, b2 j r (hdlt j r hj) hj]
      · rw [hag.2.2 r (fun j _ hj => hex ⟨j, hj⟩), b3 r (fun j _ hj => hex ⟨j, hj⟩)]
    exact hQ a w ⟨sE, M, δ, hK, hm, hr.seq hse⟩
  intro fuel
  induction fuel with
  | zero =>
    intro listed a w s M δ hs hr hm hag hcl hlt hf
    have hempty : Region.ready .any ops listed = [] := by
      apply List.eq_nil_iff_forall_not_mem.2
      intro i hi
      obtain ⟨e1, o, e2, _⟩ := mem_ready.1 hi
      have hil : i < listed.size := by rw [hs]; exact (Array.getElem?_eq_some_iff.1 e2).1
      have hmem : listed[i] ∈ listed.toList.filter (! ·) := by
        refine List.mem_filter.2 ⟨by simp, ?_⟩
        simpa [Array.getD_eq_getD_getElem?, hil] using e1
      have : listed.toList.filter (! ·) = [] := List.eq_nil_of_length_eq_zero (by omega)
      rw [this] at hmem
      cases hmem
    exact ⟨hempty, hend listed a w s M δ hs hr hm hag hempty⟩
  | succ fuel ih =>
    intro listed a w s M δ hs hr hm hag hcl hlt hf
    refine ⟨fun h => hend listed a w s M δ hs hr hm hag h, ?_⟩
    intro i hi
    obtain ⟨hun, o, ho, hpred⟩ := mem_ready.1 hi
    have hilt : i < ops.size := (Array.getElem?_eq_some_iff.1 ho).1
    have hil : i < listed.size := by rw [hs]; exact hilt
    have hun' : listed.getD i false = false := by simpa [Array.getD_eq_getD_getElem?, hil] using hun
    have hot : ops.toList[i]? = some o := by simpa using ho
    obtain ⟨hdid, _⟩ := h1 i o hot
    obtain ⟨b1, b2, b3⟩ := agree_prefix hok h0 (fun k o hk => (h1 k o hk).2) i (by omega)
    -- the slots that it looks at hold what they held in the order of the text
    have hlook : ∀ r, r ∈ o.looksAt ops → s.get r = (S i).get r := by
      intro r hrm
      by_cases hex : ∃ j, opDst ops.toList j = some r
      · obtain ⟨j, hj⟩ := hex
        have hj' : ∃ o', ops[j]? = some o' ∧ o'.dst = some r := by
          unfold opDst at hj
          split at hj
          · rename_i o' ho'; exact ⟨o', by simpa using ho', hj⟩
          · cases hj
        obtain ⟨o', hoj, hdj⟩ := hj'
        have huniq : ∀ k, opDst ops.toList k = some r → k = j := by
          intro k hk
          have hk' : ∃ o', ops[k]? = some o' ∧ o'.dst = some r := by
            unfold opDst at hk
            split at hk
            · rename_i o' ho'; exact ⟨o', by simpa using ho', hk⟩
            · cases hk
          obtain ⟨o2, hok2, hdk⟩ := hk'
          rcases Nat.decEq k j with hne | he
          · exact absurd hdk (((drawOk_at hok hok2).2 j o' r hoj hdj).1 hne)
          · exact he
        have hrel := ((drawOk_at hok ho).2 j o' r hoj hdj).2 hrm
        rcases Nat.lt_trichotomy j i with hlt' | heq | hgt
        · have hedge := (hrel (by omega)).1 hlt'
          have hlj := edge_listed hi ho hedge
          rw [hag.2.1 j r hlj hj, b2 j r hlt' hj]
        · subst heq
          have hn1 : ∀ k, listed.getD k false = true → opDst ops.toList k ≠ some r := by
            intro k hk hk2
            rw [huniq k hk2] at hk
            rw [hun'] at hk; cases hk
          have hn2 : ∀ k, k < j → opDst ops.toList k ≠ some r := by
            intro k hk hk2
            rw [huniq k hk2] at hk
            omega
          rw [hag.2.2 r hn1, b3 r hn2]
        · have hedge := (hrel (by omega)).2 hgt
          have hn1 : ∀ k, listed.getD k false = true → opDst ops.toList k ≠ some r := by
            intro k hk hk2
            rw [huniq k hk2] at hk
            unfold edgeOn at hedge
            rw [List.any_eq_true] at hedge
            obtain ⟨e, he1, he2⟩ := hedge
            simp only [Bool.and_eq_true, beq_iff_eq] at he2
            have := hcl j o' e hoj hk (by simpa using he1) he2.1
            rw [he2.2, hun'] at this
            cases this
          have hn2 : ∀ k, k < i → opDst ops.toList k ≠ some r := by
            intro k hk hk2
            rw [huniq k hk2] at hk
            omega
          rw [hag.2.2 r hn1, b3 r hn2]
      · rw [hag.2.2 r (fun j _ hj => hex ⟨j, hj⟩), b3 r (fun j _ hj => hex ⟨j, hj⟩)]
    have hoper : ∀ x ∈ o.op.operands.toList, opnd (S i) x = opnd s x := by
      intro x hx
      refine opnd_congr (fun t ht => ?_)
      subst ht
      refine (hlook t ?_).symm
      unfold Oper.looksAt
      refine List.mem_append.2 (.inl ?_)
      rw [List.mem_filterMap]
      exact ⟨_, hx, rfl⟩
    have hguard : ∀ j b d, o.guard = some (j, b) → opDst ops.toList j = some d → s.get d = (S i).get d := by
      intro j b d hg hd
      refine hlook d ?_
      unfold Oper.looksAt
      refine List.mem_append.2 (.inr ?_)
      simp only [hg]
      unfold opDst at hd
      split at hd
      · rename_i o' ho'
        have : ops[j]? = some o' := by simpa using ho'
        simp [this, hd]
      · cases hd
    have hd : ∀ d, o.dst = some d → N.Ok d := by
      intro d hdd
      have := hdst o (List.mem_of_getElem? hot)
      simp only [dstOk, hdd, Bool.and_eq_true, decide_eq_true_eq, Bool.not_eq_true'] at this
      exact this
    have hsize : (listed.setIfInBounds i true).size = ops.size := by simpa using hs
    have hgetD : ∀ j, (listed.setIfInBounds i true).getD j false = true ↔ j = i ∨ listed.getD j false = true := by
      intro j
      by_cases hj : j = i
      · subst hj; simp [Array.getD_eq_getD_getElem?, hil]
      · simp [Array.getD_eq_getD_getElem?, Array.getElem?_setIfInBounds, Ne.symm hj, hj]
    have hcount : ((listed.setIfInBounds i true).toList.filter (! ·)).length ≤ fuel := by
      have key : ∀ (l : List Bool) (i : Nat), l[i]? = some false → ((l.set i true).filter (! ·)).length + 1 = (l.filter (! ·)).length := by
        intro l
        induction l with
        | nil => intro i h; simp at h
        | cons b l ih =>
          intro i h
          cases i with
          | zero => simp at h; subst h; simp
          | succ i =>
            have := ih i (by simpa using h)
            cases b <;> simp [this] <;> omega
      have := key listed.toList i (by
        have : listed[i]? = some false := by
          have := hun'
          simp only [Array.getD_eq_getD_getElem?, Array.getElem?_eq_getElem hil, Option.getD_some] at this
          rw [Array.getElem?_eq_getElem hil, this]
        simpa using this)
      simp only [Array.toList_setIfInBounds]
      omega
    have hcl' : ∀ j o e, ops[j]? = some o → (listed.setIfInBounds i true).getD j false = true → e ∈ o.after → Region.binds .any e = true → (listed.setIfInBounds i true).getD e.on false = true := by
      intro j o2 e hoj hj he hb
      rw [hgetD]
      rcases (hgetD j).1 hj with rfl | hj
      · rw [ho] at hoj; cases hoj
        exact .inr (hpred e he hb)
      · exact .inr (hcl j o2 e hoj hj he hb)
    have hlt' : ∀ j, (listed.setIfInBounds i true).getD j false = true → j < ops.size := by
      intro j hj
      rcases (hgetD j).1 hj with rfl | hj
      · exact hilt
      · exact hlt j hj
    have hagree : ∀ (s' : St), SEq s' (s.putO o.dst (q i)) → Agree ops.toList q s0 (fun j => (listed.setIfInBounds i true).getD j false = true) s' := by
      intro s' hse
      have hdi : opDst ops.toList i = o.dst := by unfold opDst; rw [hot]
      refine ⟨by rw [hse.2, St.putO_hp]; exact hag.1, ?_, ?_⟩
      · intro j d hj hdj
        rw [hse.1]
        rcases (hgetD j).1 hj with rfl | hj2
        · rw [hdi] at hdj; rw [hdj]; simp [St.putO, St.get_put]
        · have hne : j ≠ i := by intro e; subst e; rw [hun'] at hj2; cases hj2
          have hoj : ∃ o', ops[j]? = some o' ∧ o'.dst = some d := by
            unfold opDst at hdj
            split at hdj
            · rename_i o' ho'; exact ⟨o', by simpa using ho', hdj⟩
            · cases hdj
          obtain ⟨o', hoj, hd'⟩ := hoj
          have hne' := ((drawOk_at hok ho).2 j o' d hoj hd').1 (Ne.symm hne)
          cases hdd : o.dst with
          | none => simp only [St.putO]; exact hag.2.1 j d hj2 hdj
          | some d' =>
            simp only [St.putO, St.get_put]
            rw [if_neg (by intro e; subst e; exact hne' hdd)]
            exact hag.2.1 j d hj2 hdj
      · intro r hr'
        rw [hse.1]
        have hri := hr' i ((hgetD i).2 (.inl rfl))
        rw [hdi] at hri
        have hrest := hag.2.2 r (fun j hj => hr' j ((hgetD j).2 (.inr hj)))
        cases hdd : o.dst with
        | none => simp only [St.putO]; exact hrest
        | some d' =>
          simp only [St.putO, St.get_put]
          rw [if_neg (by intro e; subst e; exact hri hdd)]
          exact hrest
    unfold wpOpIn
    simp only [ho]
    rcases hdid with ⟨hg, hy⟩ | ⟨hg, hq⟩
    · have hg' : GuardOn ops.toList o s := by
        rcases hg with hg | ⟨j, b, d, e1, e2, e3⟩
        · exact .inl hg
        · exact .inr ⟨j, b, d, e1, e2, by rw [hguard j b d e1 e2]; exact e3⟩
      rw [if_pos (hg'.wanted hr)]
      have hv : valOp E C o s (fun p => p = q i) := by
        rw [← valOp_congr hoper (by rw [hag.1, b1])]
        exact hy _ rfl
      refine valOp_wp hE hC hv hr ?_
      rintro v p M' w' rfl hm' hi' hp'
      have hr1 : Rel N s a w' M' F δ := ⟨hr.def0.mono hm', hr.size, hr.ro, fun i => (hr.slot i).mono hm', hi'⟩
      exact ih _ _ w' _ M' δ hsize (hr1.put hd hp') (Mem.le_trans hm hm') (hagree _ (SEq.refl _)) hcl' hlt' hcount
    · have hg' : GuardOff ops.toList o s := by
        obtain ⟨j, b, d, e1, e2, e3⟩ := hg
        exact ⟨j, b, d, e1, e2, by rw [hguard j b d e1 e2]; exact e3⟩
      rw [if_neg (by rw [hg'.wanted hr]; simp)]
      exact ⟨fun _ _ => trivial, ih _ _ w _ M δ hsize (hr.put hd undef_rep) hm (hagree _ (by rw [hq]; exact SEq.refl _)) hcl' hlt' hcount⟩
end
end Go.Proofs.Ytbliiejdmgnkgaa.Pv
