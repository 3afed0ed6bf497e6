/-
  The layer of values: what an evaluator says of a function holds of every run of it. For every program of the model that meets the named conditions.
-/
import Derived.Test.YtogehfalhodapaaPv1
import Derived.RangeFuncLeaves
import Derived.RangeFuncOwn
import Derived.Scope
import Derived.ProofKit
namespace Go.Proofs.Ytogehfalhodapaa.Pv
open Go
set_option linter.unusedSimpArgs false
set_option linter.unusedVariables false

def edgeOn (o : Oper) (j : Nat) : Bool := o.after.toList.any fun e => Region.binds .any e && e.on == j

def pairOk (ops : Array Oper) (i j : Nat) (o o' : Oper) : Bool :=
  match o'.dst with
  | some d => (i == j || o.dst != some d) && (!(o.looksAt ops).contains d || i == j || (if j < i then edgeOn o j else edgeOn o' i))
  | none => true

def drawOk (ops : Array Oper) : Bool :=
  (List.range ops.size).all fun i => match ops[i]? with
    | some o => (o.after.toList.all fun e => !Region.binds .any e || decide (e.on < i)) && (List.range ops.size).all fun j => match ops[j]? with
      | some o' => pairOk ops i j o o'
      | none => true
    | none => true

section
variable {ρ : Option Nat} {P : Program} {E : Env} {C : Ctr} {H : Hnd} {w : World} {N : Cx} {s : St} {a : Act} {M : Mem} {F : Frm} {δ : Nat → Value}

theorem drawOk_at {ops : Array Oper} (h : drawOk ops = true) {i : Nat} {o : Oper} (hi : ops[i]? = some o) :
    (∀ e ∈ o.after, Region.binds .any e = true → e.on < i) ∧ ∀ (j : Nat) (o' : Oper) (d : Tmp), ops[j]? = some o' → o'.dst = some d →
      (i ≠ j → o.dst ≠ some d) ∧ (d ∈ o.looksAt ops → i ≠ j → (j < i → edgeOn o j = true) ∧ (i < j → edgeOn o' i = true)) := by
  have hlt : i < ops.size := (Array.getElem?_eq_some_iff.1 hi).1
  unfold drawOk at h
  rw [List.all_eq_true] at h
  have h1 := h i (List.mem_range.2 hlt)
  simp only [hi, Bool.and_eq_true] at h1
  obtain ⟨h1, h2⟩ := h1
  constructor
  · intro e he hb
    rw [List.all_eq_true] at h1
    have := h1 e (by simpa using he)
    simpa [hb] using this
  · intro j o' d hj hd
    rw [List.all_eq_true] at h2
    have h3 := h2 j (List.mem_range.2 (Array.getElem?_eq_some_iff.1 hj).1)
    simp only [hj, pairOk, hd, Bool.and_eq_true, Bool.or_eq_true] at h3
    obtain ⟨h3, h4⟩ := h3
    constructor
    · intro hne
      rcases h3 with h3 | h3
      · exact absurd (by simpa using h3) hne
      · simpa using h3
    · intro hm hne
      rcases h4 with (h4 | h4) | h4
      · simp [hm] at h4
      · exact absurd (by simpa using h4) hne
      · constructor
        · intro hlt; rwa [if_pos hlt] at h4
        · intro hlt; rwa [if_neg (by omega)] at h4

theorem edge_listed {o : Oper} {i j : Nat} {ops : Array Oper} {listed : Array Bool} (hr : i ∈ Region.ready .any ops listed) (ho : ops[i]? = some o) (he : edgeOn o j = true) : listed.getD j false = true := by
  obtain ⟨h1, o', h2, h3⟩ := mem_ready.1 hr
  rw [ho] at h2
  cases h2
  unfold edgeOn at he
  rw [List.any_eq_true] at he
  obtain ⟨e, hm, hb⟩ := he
  simp only [Bool.and_eq_true, beq_iff_eq] at hb
  have := h3 e (by simpa using hm) hb.1
  rwa [hb.2] at this

/-- the guard's word, in a state -/
def GuardOn (ops : List Oper) (o : Oper) (s : St) : Prop := o.guard = none ∨ ∃ j b d, o.guard = some (j, b) ∧ opDst ops j = some d ∧ s.get d = .bool b
def GuardOff (ops : List Oper) (o : Oper) (s : St) : Prop := ∃ j b d, o.guard = some (j, b) ∧ opDst ops j = some d ∧ (s.get d = .bool (!b) ∨ s.get d = .tup [])

theorem guarded_word {ops : List Oper} {o : Oper} {K1 K2 : St → Prop} (h : guarded ops o K1 K2 s) : (GuardOn ops o s ∧ K1 s) ∨ (GuardOff ops o s ∧ K2 s) := by
  unfold guarded at h
  split at h
  · rename_i hg; exact .inl ⟨.inl hg, h⟩
  · rename_i j b hg
    split at h
    · rename_i d hd
      split at h
      · rename_i hb
        cases b with
        | true => exact .inl ⟨.inr ⟨j, true, d, hg, hd, hb⟩, h⟩
        | false => exact .inr ⟨⟨j, false, d, hg, hd, .inl hb⟩, h⟩
      · rename_i hb
        cases b with
        | true => exact .inr ⟨⟨j, true, d, hg, hd, .inl hb⟩, h⟩
        | false => exact .inl ⟨.inr ⟨j, false, d, hg, hd, hb⟩, h⟩
      · rename_i hb
        exact .inr ⟨⟨j, b, d, hg, hd, .inr hb⟩, h⟩
      · exact h.elim
    · exact h.elim

theorem GuardOn.wanted {ops : Array Oper} {o : Oper} (h : GuardOn ops.toList o s) (hr : Rel N s a w M F δ) : Region.wanted o (yielded ops a.tmps) = true := by
  rcases h with hg | ⟨j, b, d, hg, hd, hb⟩
  · simp [Region.wanted, hg]
  · simp [Region.wanted, hg, (yielded_of hr hd).1 _ hb]
theorem GuardOff.wanted {ops : Array Oper} {o : Oper} (h : GuardOff ops.toList o s) (hr : Rel N s a w M F δ) : Region.wanted o (yielded ops a.tmps) = false := by
  obtain ⟨j, b, d, hg, hd, hb⟩ := h
  rcases hb with hb | hb
  · cases b <;> simp [Region.wanted, hg, (yielded_of hr hd).1 _ hb]
  · simp [Region.wanted, hg, (yielded_of hr hd).2 hb]

/-- what one operation did in the order of the text -/
def Did (E : Env) (C : Ctr) (ops : List Oper) (o : Oper) (s : St) (q : PV) : Prop := (GuardOn ops o s ∧ Yields E C o s q) ∨ (GuardOff ops o s ∧ q = .tup [])

/-- the state when the operations of X have been carried out -/
def Agree (ops : List Oper) (q : Nat → PV) (s0 : St) (X : Nat → Prop) (s : St) : Prop :=
  s.hp = s0.hp ∧ (∀ j d, X j → opDst ops j = some d → s.get d = q j) ∧ ∀ r, (∀ j, X j → opDst ops j ≠ some r) → s.get r = s0.get r

theorem SEq.refl (s : St) : SEq s s := ⟨fun _ => rfl, rfl⟩
theorem SEq.symm {s s' : St} (h : SEq s s') : SEq s' s := ⟨fun i => (h.1 i).symm, h.2.symm⟩
theorem SEq.trans {s s' s'' : St} (h : SEq s s') (h' : SEq s' s'') : SEq s s'' := ⟨fun i => (h.1 i).trans (h'.1 i), h.2.trans h'.2⟩

/-- the order of the text, operation by operation -/
theorem trace_of {ops : List Oper} {gs : List Nat} {K : St → Prop} : ∀ (l : List Oper) (i : Nat) (s : St), wprQ E C ops gs i l K s →
    ∃ (q : Nat → PV) (S : Nat → St) (sE : St), SEq (S 0) s ∧ (∀ k o, l[k]? = some o → Did E C ops o (S k) (q k) ∧ SEq (S (k + 1)) ((S k).putO o.dst (q k))) ∧ K sE ∧ SEq (S l.length) sE
  | [], i, s, h => ⟨fun _ => .junk, fun _ => s, s, SEq.refl s, by simp, h, SEq.refl s⟩
  | o :: r, i, s, h => by
    simp only [wprQ] at h
    have next : ∀ (q0 : PV) (s1 : St), Did E C ops o s q0 → SEq s1 (s.putO o.dst q0) → wprQ E C ops gs (i + 1) r K s1 → ∃ (q : Nat → PV) (S : Nat → St) (sE : St), SEq (S 0) s ∧
        (∀ k o', (o :: r)[k]? = some o' → Did E C ops o' (S k) (q k) ∧ SEq (S (k + 1)) ((S k).putO o'.dst (q k))) ∧ K sE ∧ SEq (S (o :: r).length) sE := by
      intro q0 s1 hd hs h1
      obtain ⟨q, S, sE, e1, e2, e3, e4⟩ := trace_of r (i + 1) s1 h1
      refine ⟨fun k => match k with | 0 => q0 | k + 1 => q k, fun k => match k with | 0 => s | k + 1 => S k, sE, SEq.refl s, ?_, e3, e4⟩
      intro k o' hk
      cases k with
      | zero => simp at hk; subst hk; exact ⟨hd, e1.trans hs⟩
      | succ k => exact e2 k o' (by simpa using hk)
    rcases guarded_word h with ⟨hg, h⟩ | ⟨hg, h⟩
    · obtain ⟨p, hy, hk⟩ := valOp_split h
      have hd : Did E C ops o s p := .inl ⟨hg, hy⟩
      split at hk
      · unfold splitB at hk
        split at hk
        · rename_i d hdst
          split at hk
          · rename_i c hc
            have hp : p = .bool c := by rw [hdst] at hc; simpa [St.putO, St.get_put] using hc
            cases c with
            | true =>
              refine next p _ hd ⟨fun j => ?_, St.put_hp _ _ _⟩ hk
              rw [St.get_put]; split
              · rename_i e; subst e; rw [hc]
              · rfl
            | false =>
              refine next p _ hd ⟨fun j => ?_, St.put_hp _ _ _⟩ hk
              rw [St.get_put]; split
              · rename_i e; subst e; rw [hc]
              · rfl
          · exact next p _ hd (SEq.refl _) hk
        · exact next p _ hd (SEq.refl _) hk
      · exact next p _ hd (SEq.refl _) hk
    · exact next (.tup []) _ (.inr ⟨hg, rfl⟩) (SEq.refl _) h

theorem agree_prefix {ops : Array Oper} (hok : drawOk ops = true) {q : Nat → PV} {S : Nat → St} {s : St} (h0 : SEq (S 0) s) (h1 : ∀ k o, ops.toList[k]? = some o → SEq (S (k + 1)) ((S k).putO o.dst (q k))) :
    ∀ k, k ≤ ops.size → Agree ops.toList q s (fun j => j < k) (S k)
  | 0, _ => ⟨h0.2, fun j d hj => absurd hj (Nat.not_lt_zero j), fun r _ => h0.1 r⟩
  | k + 1, hk => by
    obtain ⟨a1, a2, a3⟩ := agree_prefix hok h0 h1 k (by omega)
    have hlt : k < ops.size := by omega
    have ho : ops.toList[k]? = some ops[k] := by simp [hlt]
    have hoa : ops[k]? = some ops[k] := by simp [hlt]
    obtain ⟨e1, e2⟩ := h1 k _ ho
    have hdk : opDst ops.toList k = ops[k].dst := by unfold opDst; rw [ho]
    refine ⟨by rw [e2, St.putO_hp]; exact a1, ?_, ?_⟩
    · intro j d hj hd
      rw [e1]
      by_cases hjk : j = k
      · subst hjk
        rw [hdk] at hd
        rw [hd]; simp [St.putO, St.get_put]
      · have hjlt : j < k := by omega
        have hoj : ops[j]? = some ops[j] := by simp [show j < ops.size by omega]
        have hdj : ops[j].dst = some d := by unfold opDst at hd; simpa [show j < ops.size by omega] using hd
        have hne := ((drawOk_at hok hoa).2 j _ d hoj hdj).1 (Ne.symm hjk)
        cases hdd : ops[k].dst with
        | none => simp only [St.putO]; exact a2 j d hjlt hd
        | some d' =>
          simp only [St.putO, St.get_put]
          rw [if_neg (by intro e; subst e; exact hne hdd)]
          exact a2 j d hjlt hd
    · intro r hr
      rw [e1]
      have hrk := hr k (by omega)
      rw [hdk] at hrk
      cases hdd : ops[k].dst with
      | none => simp only [St.putO]; exact a3 r (fun j hj => hr j (by omega))
      | some d' =>
        simp only [St.putO, St.get_put]
        rw [if_neg (by intro e; subst e; exact hrk hdd)]
        exact a3 r (fun j hj => hr j (by omega))

theorem drawn_wp (hE : ∀ T, TDok P T (E T)) (hC : ∀ f as r, C f as r → FC P f as r) {ops : Array Oper} (hok : drawOk ops = true) (hdst : ∀ o ∈ ops.toList, dstOk N.n N.ro o = true) {gs : List Nat} {K : St → Prop} {s0 : St} {M0 : Mem}
    {Q : Exit → Act → World → Prop} (hQ : ∀ a w, GoodK N M0 F K a w → Q .normal a w) {q : Nat → PV} {S : Nat → St} {sE : St} (h0 : SEq (S 0) s0)
    (h1 : ∀ k o, ops.toList[k]? = some o → Did E C ops.toList o (S k) (q k) ∧ SEq (S (k + 1)) ((S k).putO o.dst (q k))) (hK : K sE) (hE' : SEq (S ops.size) sE) :
    ∀ (fuel : Nat) (listed : Array Bool) (a : Act) (w : World) (s : St) (M : Mem) (δ : Nat → Value), listed.size = ops.size → Rel N s a w M F δ → M0.le M → Agree ops.toList q s0 (fun j => listed.getD j false = true) s →
      (∀ j o e, ops[j]? = some o → listed.getD j false = true → e ∈ o.after → Region.binds .any e = true → listed.getD e.on false = true) → (∀ j, listed.getD j false = true → j < ops.size) →
      (listed.toList.filter (! ·)).length ≤ fuel → wpAnyIn (FnR ρ) 0 P .any ops Q fuel listed a w := by
  have hend : ∀ (listed : Array Bool) (a : Act) (w : World) (s : St) (M : Mem) (δ : Nat → Value), listed.size = ops.size → Rel N s a w M F δ → M0.le M → Agree ops.toList q s0 (fun j => listed.getD j false = true) s →
      Region.ready .any ops listed = [] → Q .normal a w := by
    intro listed a w s M δ hs hr hm hag hready
    have hall : ∀ j, j < ops.size → listed.getD j false = true := by
      intro j
      induction j using Nat.strongRecOn with
      | ind j ih =>
        intro hj
        cases hl : listed.getD j false with
        | true => rfl
        | false =>
          exfalso
          have hm : j ∈ Region.ready .any ops listed := by
            refine mem_ready.2 ⟨?_, ops[j], by simp [hj], fun e he hb => ?_⟩
            · have : j < listed.size := by omega
              simpa [Array.getD_eq_getD_getElem?, this] using hl
            · have hlt := (drawOk_at hok (i := j) (o := ops[j]) (by simp [hj])).1 e he hb
              exact ih e.on hlt (by omega)
          rw [hready] at hm
          cases hm
    obtain ⟨b1, b2, b3⟩ := agree_prefix hok h0 (fun k o hk => (h1 k o hk).2) ops.size (Nat.le_refl _)
    have hdlt : ∀ j d, opDst ops.toList j = some d → j < ops.size := by
      intro j d hd
      unfold opDst at hd
      split at hd
      · rename_i o ho
        have := (List.getElem?_eq_some_iff.1 ho).1
        simpa using this
      · cases hd
    have hse : SEq s sE := by
      refine SEq.trans ⟨fun r => ?_, by rw [hag.1, b1]⟩ hE'
      by_cases hex : ∃ j, opDst ops.toList j = some r
      · obtain ⟨j, hj⟩ := hex
        rw [hag.2.1 j r (hall j (hdlt j r hj)) hj, b2 j r (hdlt j r hj) hj]
      · rw [hag.2.2 r (fun j _ hj => hex ⟨j, hj⟩), b3 r (fun j _ hj => hex ⟨j, hj⟩)]
    exact hQ a w ⟨sE, M, δ, hK, hm, hr.seq hse⟩
  intro fuel
  induction fuel with
  | zero =>
    intro listed a w s M δ hs hr hm hag hcl hlt hf
    have hempty : Region.ready .any ops listed = [] := by
      apply List.eq_nil_iff_forall_not_mem.2
      intro i hi
      obtain ⟨e1, o, e2, _⟩ := mem_ready.1 hi
      have hil : i < listed.size := by rw [hs]; exact (Array.getElem?_eq_some_iff.1 e2).1
      have hmem : listed[i] ∈ listed.toList.filter (! ·) := by
        refine List.mem_filter.2 ⟨by simp, ?_⟩
        simpa [Array.getD_eq_getD_getElem?, hil] using e1
      have : listed.toList.filter (! ·) = [] := List.eq_nil_of_length_eq_zero (by omega)
      rw [this] at hmem
      cases hmem
    exact ⟨hempty, hend listed a w s M δ hs hr hm hag hempty⟩
  | succ fuel ih =>
    intro listed a w s M δ hs hr hm hag hcl hlt hf
    refine ⟨fun h => hend listed a w s M δ hs hr hm hag h, ?_⟩
    intro i hi
    obtain ⟨hun, o, ho, hpred⟩ := mem_ready.1 hi
    have hilt : i < ops.size := (Array.getElem?_eq_some_iff.1 ho).1
    have hil : i < listed.size := by rw [hs]; exact hilt
    have hun' : listed.getD i false = false := by simpa [Array.getD_eq_getD_getElem?, hil] using hun
    have hot : ops.toList[i]? = some o := by simpa using ho
    obtain ⟨hdid, _⟩ := h1 i o hot
    obtain ⟨b1, b2, b3⟩ := agree_prefix hok h0 (fun k o hk => (h1 k o hk).2) i (by omega)
    -- the slots that it looks at hold what they held in the order of the text
    have hlook : ∀ r, r ∈ o.looksAt ops → s.get r = (S i).get r := by
      intro r hrm
      by_cases hex : ∃ j, opDst ops.toList j = some r
      · obtain ⟨j, hj⟩ := hex
        have hj' : ∃ o', ops[j]? = some o' ∧ o'.dst = some r := by
          unfold opDst at hj
          split at hj
          · rename_i o' ho'; exact ⟨o', by simpa using ho', hj⟩
          · cases hj
        obtain ⟨o', hoj, hdj⟩ := hj'
        have huniq : ∀ k, opDst ops.toList k = some r → k = j := by
          intro k hk
          have hk' : ∃ o', ops[k]? = some o' ∧ o'.dst = some r := by
            unfold opDst at hk
            split at hk
            · rename_i o' ho'; exact ⟨o', by simpa using ho', hk⟩
            · cases hk
          obtain ⟨o2, hok2, hdk⟩ := hk'
          rcases Nat.decEq k j with hne | he
          · exact absurd hdk (((drawOk_at hok hok2).2 j o' r hoj hdj).1 hne)
          · exact he
        have hrel := ((drawOk_at hok ho).2 j o' r hoj hdj).2 hrm
        rcases Nat.lt_trichotomy j i with hlt' | heq | hgt
        · have hedge := (hrel (by omega)).1 hlt'
          have hlj := edge_listed hi ho hedge
          rw [hag.2.1 j r hlj hj, b2 j r hlt' hj]
        · subst heq
          have hn1 : ∀ k, listed.getD k false = true → opDst ops.toList k ≠ some r := by
            intro k hk hk2
            rw [huniq k hk2] at hk
            rw [hun'] at hk; cases hk
          have hn2 : ∀ k, k < j → opDst ops.toList k ≠ some r := by
            intro k hk hk2
            rw [huniq k hk2] at hk
            omega
          rw [hag.2.2 r hn1, b3 r hn2]
        · have hedge := (hrel (by omega)).2 hgt
          have hn1 : ∀ k, listed.getD k false = true → opDst ops.toList k ≠ some r := by
            intro k hk hk2
            rw [huniq k hk2] at hk
            unfold edgeOn at hedge
            rw [List.any_eq_true] at hedge
            obtain ⟨e, he1, he2⟩ := hedge
            simp only [Bool.and_eq_true, beq_iff_eq] at he2
            have := hcl j o' e hoj hk (by simpa using he1) he2.1
            rw [he2.2, hun'] at this
            cases this
          have hn2 : ∀ k, k < i → opDst ops.toList k ≠ some r := by
            intro k hk hk2
            rw [huniq k hk2] at hk
            omega
          rw [hag.2.2 r hn1, b3 r hn2]
      · rw [hag.2.2 r (fun j _ hj => hex ⟨j, hj⟩), b3 r (fun j _ hj => hex ⟨j, hj⟩)]
    have hoper : ∀ x ∈ o.op.operands.toList, opnd (S i) x = opnd s x := by
      intro x hx
      refine opnd_congr (fun t ht => ?_)
      subst ht
      refine (hlook t ?_).symm
      unfold Oper.looksAt
      refine List.mem_append.2 (.inl ?_)
      rw [List.mem_filterMap]
      exact ⟨_, hx, rfl⟩
    have hguard : ∀ j b d, o.guard = some (j, b) → opDst ops.toList j = some d → s.get d = (S i).get d := by
      intro j b d hg hd
      refine hlook d ?_
      unfold Oper.looksAt
      refine List.mem_append.2 (.inr ?_)
      simp only [hg]
      unfold opDst at hd
      split at hd
      · rename_i o' ho'
        have : ops[j]? = some o' := by simpa using ho'
        simp [this, hd]
      · cases hd
    have hd : ∀ d, o.dst = some d → N.Ok d := by
      intro d hdd
      have := hdst o (List.mem_of_getElem? hot)
      simp only [dstOk, hdd, Bool.and_eq_true, decide_eq_true_eq, Bool.not_eq_true'] at this
      exact this
    have hsize : (listed.setIfInBounds i true).size = ops.size := by simpa using hs
    have hgetD : ∀ j, (listed.setIfInBounds i true).getD j false = true ↔ j = i ∨ listed.getD j false = true := by
      intro j
      by_cases hj : j = i
      · subst hj; simp [Array.getD_eq_getD_getElem?, hil]
      · simp [Array.getD_eq_getD_getElem?, Array.getElem?_setIfInBounds, Ne.symm hj, hj]
    have hcount : ((listed.setIfInBounds i true).toList.filter (! ·)).length ≤ fuel := by
      have key : ∀ (l : List Bool) (i : Nat), l[i]? = some false → ((l.set i true).filter (! ·)).length + 1 = (l.filter (! ·)).length := by
        intro l
        induction l with
        | nil => intro i h; simp at h
        | cons b l ih =>
          intro i h
          cases i with
          | zero => simp at h; subst h; simp
          | succ i =>
            have := ih i (by simpa using h)
            cases b <;> simp [this] <;> omega
      have := key listed.toList i (by
        have : listed[i]? = some false := by
          have := hun'
          simp only [Array.getD_eq_getD_getElem?, Array.getElem?_eq_getElem hil, Option.getD_some] at this
          rw [Array.getElem?_eq_getElem hil, this]
        simpa using this)
      simp only [Array.toList_setIfInBounds]
      omega
    have hcl' : ∀ j o e, ops[j]? = some o → (listed.setIfInBounds i true).getD j false = true → e ∈ o.after → Region.binds .any e = true → (listed.setIfInBounds i true).getD e.on false = true := by
      intro j o2 e hoj hj he hb
      rw [hgetD]
      rcases (hgetD j).1 hj with rfl | hj
      · rw [ho] at hoj; cases hoj
        exact .inr (hpred e he hb)
      · exact .inr (hcl j o2 e hoj hj he hb)
    have hlt' : ∀ j, (listed.setIfInBounds i true).getD j false = true → j < ops.size := by
      intro j hj
      rcases (hgetD j).1 hj with rfl | hj
      · exact hilt
      · exact hlt j hj
    have hagree : ∀ (s' : St), SEq s' (s.putO o.dst (q i)) → Agree ops.toList q s0 (fun j => (listed.setIfInBounds i true).getD j false = true) s' := by
      intro s' hse
      have hdi : opDst ops.toList i = o.dst := by unfold opDst; rw [hot]
      refine ⟨by rw [hse.2, St.putO_hp]; exact hag.1, ?_, ?_⟩
      · intro j d hj hdj
        rw [hse.1]
        rcases (hgetD j).1 hj with rfl | hj2
        · rw [hdi] at hdj; rw [hdj]; simp [St.putO, St.get_put]
        · have hne : j ≠ i := by intro e; subst e; rw [hun'] at hj2; cases hj2
          have hoj : ∃ o', ops[j]? = some o' ∧ o'.dst = some d := by
            unfold opDst at hdj
            split at hdj
            · rename_i o' ho'; exact ⟨o', by simpa using ho', hdj⟩
            · cases hdj
          obtain ⟨o', hoj, hd'⟩ := hoj
          have hne' := ((drawOk_at hok ho).2 j o' d hoj hd').1 (Ne.symm hne)
          cases hdd : o.dst with
          | none => simp only [St.putO]; exact hag.2.1 j d hj2 hdj
          | some d' =>
            simp only [St.putO, St.get_put]
            rw [if_neg (by intro e; subst e; exact hne' hdd)]
            exact hag.2.1 j d hj2 hdj
      · intro r hr'
        rw [hse.1]
        have hri := hr' i ((hgetD i).2 (.inl rfl))
        rw [hdi] at hri
        have hrest := hag.2.2 r (fun j hj => hr' j ((hgetD j).2 (.inr hj)))
        cases hdd : o.dst with
        | none => simp only [St.putO]; exact hrest
        | some d' =>
          simp only [St.putO, St.get_put]
          rw [if_neg (by intro e; subst e; exact hri hdd)]
          exact hrest
    unfold wpOpIn
    simp only [ho]
    rcases hdid with ⟨hg, hy⟩ | ⟨hg, hq⟩
    · have hg' : GuardOn ops.toList o s := by
        rcases hg with hg | ⟨j, b, d, e1, e2, e3⟩
        · exact .inl hg
        · exact .inr ⟨j, b, d, e1, e2, by rw [hguard j b d e1 e2]; exact e3⟩
      rw [if_pos (hg'.wanted hr)]
      have hv : valOp E C o s (fun p => p = q i) := by
        rw [← valOp_congr hoper (by rw [hag.1, b1])]
        exact hy _ rfl
      refine valOp_wp hE hC hv hr ?_
      rintro v p M' w' rfl hm' hi' hp'
      have hr1 : Rel N s a w' M' F δ := ⟨hr.def0.mono hm', hr.size, hr.ro, fun i => (hr.slot i).mono hm', hi'⟩
      exact ih _ _ w' _ M' δ hsize (hr1.put hd hp') (Mem.le_trans hm hm') (hagree _ (SEq.refl _)) hcl' hlt' hcount
    · have hg' : GuardOff ops.toList o s := by
        obtain ⟨j, b, d, e1, e2, e3⟩ := hg
        exact ⟨j, b, d, e1, e2, by rw [hguard j b d e1 e2]; exact e3⟩
      rw [if_neg (by rw [hg'.wanted hr]; simp)]
      exact ⟨fun _ _ => trivial, ih _ _ w _ M δ hsize (hr.put hd undef_rep) hm (hagree _ (by rw [hq]; exact SEq.refl _)) hcl' hlt' hcount⟩
end
end Go.Proofs.Ytogehfalhodapaa.Pv
namespace Go.Proofs.Ytogehfalhodapaa.Pv
open Go
set_option linter.unusedSimpArgs false
set_option linter.unusedVariables false
/-! drawn regions with operations that make or change objects -/

mutual
theorem mapO_solid (u : Nat → PV) (q : Nat → Nat → Nat → Nat → PV) : ∀ {p : PV}, solid p = true → mapO u q p = p
  | .int .., _ => rfl
  | .bool _, _ => rfl
  | .str _, _ => rfl
  | .nilptr, _ => rfl
  | .nilfn, _ => rfl
  | .nilsl, _ => rfl
  | .junk, h => by simp [solid] at h
  | .sl .., _ => rfl
  | .ptr _, _ => rfl
  | .os _, h => by simp [solid] at h
  | .op .., h => by simp [solid] at h
  | .agg cs, h => by simp only [mapO]; rw [mapOs_solid u q (by simpa [solid] using h)]
  | .tup cs, h => by simp only [mapO]; rw [mapOs_solid u q (by simpa [solid] using h)]
  | .fn f a b, h => by
    simp only [solid, Bool.and_eq_true] at h
    simp only [mapO]; rw [mapOs_solid u q h.1, mapOs_solid u q h.2]
theorem mapOs_solid (u : Nat → PV) (q : Nat → Nat → Nat → Nat → PV) : ∀ {p : List PV}, solids p = true → mapOs u q p = p
  | [], _ => rfl
  | p :: r, h => by
    simp only [solids, Bool.and_eq_true] at h
    simp only [mapOs]; rw [mapO_solid u q h.1, mapOs_solid u q h.2]
end

/-- maps that turn to nothing, or leave -/
def Fades (u : Nat → PV) (q : Nat → Nat → Nat → Nat → PV) : Prop := (∀ g, u g = .os g ∨ u g = .junk) ∧ ∀ g sz i f, q g sz i f = .op g sz i f ∨ q g sz i f = .junk

mutual
theorem solid_mapO {u : Nat → PV} {q : Nat → Nat → Nat → Nat → PV} (hf : Fades u q) : ∀ {p : PV}, solid (mapO u q p) = true → mapO u q p = p
  | .int .., _ => rfl
  | .bool _, _ => rfl
  | .str _, _ => rfl
  | .nilptr, _ => rfl
  | .nilfn, _ => rfl
  | .nilsl, _ => rfl
  | .junk, h => by simp [mapO, solid] at h
  | .sl .., _ => rfl
  | .ptr _, _ => rfl
  | .os g, h => by
    simp only [mapO] at h
    rcases hf.1 g with e | e <;> simp [e, solid] at h
  | .op g sz i f, h => by
    simp only [mapO] at h
    rcases hf.2 g sz i f with e | e <;> simp [e, solid] at h
  | .agg cs, h => by simp only [mapO] at h ⊢; rw [solids_mapOs hf (by simpa [solid] using h)]
  | .tup cs, h => by simp only [mapO] at h ⊢; rw [solids_mapOs hf (by simpa [solid] using h)]
  | .fn f a b, h => by
    simp only [mapO, solid, Bool.and_eq_true] at h
    simp only [mapO]; rw [solids_mapOs hf h.1, solids_mapOs hf h.2]
theorem solids_mapOs {u : Nat → PV} {q : Nat → Nat → Nat → Nat → PV} (hf : Fades u q) : ∀ {p : List PV}, solids (mapOs u q p) = true → mapOs u q p = p
  | [], _ => rfl
  | p :: r, h => by
    simp only [mapOs, solids, Bool.and_eq_true] at h
    simp only [mapOs]; rw [solid_mapO hf h.1, solids_mapOs hf h.2]
end

mutual
theorem mapO_imm (u : Nat → PV) (q : Nat → Nat → Nat → Nat → PV) : ∀ {p : PV}, isImm p = true → mapO u q p = p
  | .int .., _ => rfl
  | .bool _, _ => rfl
  | .str _, _ => rfl
  | .nilptr, _ => rfl
  | .nilfn, _ => rfl
  | .nilsl, _ => rfl
  | .junk, h => rfl
  | .sl .., _ => rfl
  | .ptr _, _ => rfl
  | .os _, h => by simp [isImm] at h
  | .op .., h => by simp [isImm] at h
  | .agg cs, h => by simp only [mapO]; rw [mapOs_imm u q (by simpa [isImm] using h)]
  | .tup cs, h => by simp only [mapO]; rw [mapOs_imm u q (by simpa [isImm] using h)]
  | .fn f a b, h => by
    simp only [isImm, Bool.and_eq_true] at h
    simp only [mapO]; rw [mapOs_imm u q h.1, mapOs_imm u q h.2]
theorem mapOs_imm (u : Nat → PV) (q : Nat → Nat → Nat → Nat → PV) : ∀ {p : List PV}, isImms p = true → mapOs u q p = p
  | [], _ => rfl
  | p :: r, h => by
    simp only [isImms, Bool.and_eq_true] at h
    simp only [mapOs]; rw [mapO_imm u q h.1, mapOs_imm u q h.2]
end

mutual
theorem solid_imm : ∀ {p : PV}, solid p = true → isImm p = true
  | .int .., _ => rfl
  | .bool _, _ => rfl
  | .str _, _ => rfl
  | .nilptr, _ => rfl
  | .nilfn, _ => rfl
  | .nilsl, _ => rfl
  | .junk, h => rfl
  | .sl .., _ => rfl
  | .ptr _, _ => rfl
  | .os _, h => by simp [solid] at h
  | .op .., h => by simp [solid] at h
  | .agg cs, h => by simp only [isImm]; exact solids_imms (by simpa [solid] using h)
  | .tup cs, h => by simp only [isImm]; exact solids_imms (by simpa [solid] using h)
  | .fn f a b, h => by
    simp only [solid, Bool.and_eq_true] at h
    simp only [isImm, Bool.and_eq_true]; exact ⟨solids_imms h.1, solids_imms h.2⟩
theorem solids_imms : ∀ {p : List PV}, solids p = true → isImms p = true
  | [], _ => rfl
  | p :: r, h => by
    simp only [solids, Bool.and_eq_true] at h
    simp only [isImms, Bool.and_eq_true]; exact ⟨solid_imm h.1, solids_imms h.2⟩
end

mutual
theorem RepI.isImm {M : Mem} : ∀ {p : PV} {v : Value}, RepI M p v → Pv.isImm p = true
  | _, _, .int .. => rfl
  | _, _, .bool _ => rfl
  | _, _, .str _ => rfl
  | _, _, .nilptr => rfl
  | _, _, .nilfn => rfl
  | _, _, .nilsl => rfl
  | _, _, .junk _ => rfl
  | _, _, .agg cs vs hh => by simp only [Pv.isImm]; exact RepIs.isImms hh
  | _, _, .tup cs vs hh => by simp only [Pv.isImm]; exact RepIs.isImms hh
  | _, _, .fn f a b va vb h1 h2 => by simp only [Pv.isImm, Bool.and_eq_true]; exact ⟨RepIs.isImms h1, RepIs.isImms h2⟩
  | _, _, .sl0 .. => rfl
  | _, _, .sl .. => rfl
  | _, _, .ptr .. => rfl
theorem RepIs.isImms {M : Mem} : ∀ {p : List PV} {v : List Value}, RepIs M p v → Pv.isImms p = true
  | _, _, .nil => rfl
  | _, _, .cons p v ps vs h1 h2 => by simp only [Pv.isImms, Bool.and_eq_true]; exact ⟨RepI.isImm h1, RepIs.isImms h2⟩
end

theorem killP_fades (g : Nat) : Fades (KillU g) (KillQ g) :=
  ⟨fun g' => by unfold KillU; split <;> simp, fun g' sz i f => by unfold KillQ; split <;> simp⟩

theorem firm_solid {k : Option Nat} {p : PV} (h : solid p = true) : firm k p = true := by unfold firm; rw [h]; rfl
theorem firm_cases {k : Option Nat} {p : PV} (h : firm k p = true) : solid p = true ∨ ∃ g sz i f, p = .op g sz i f ∧ k = some g := by
  unfold firm at h
  rw [Bool.or_eq_true] at h
  rcases h with h | h
  · exact .inl h
  · split at h
    · split at h
      · exact .inr ⟨_, _, _, _, rfl, by rw [Nat.eq_of_beq_eq_true h]⟩
      · cases h
    · cases h
theorem mapO_op {u : Nat → PV} {q : Nat → Nat → Nat → Nat → PV} (hf : Fades u q) {p : PV} {g sz i f : Nat} (h : mapO u q p = .op g sz i f) : mapO u q p = p := by
  cases p <;> simp only [mapO] at h ⊢ <;> try (cases h; done)
  case os g' => rcases hf.1 g' with e | e <;> rw [e] at h <;> cases h
  case op g' a b c => rcases hf.2 g' a b c with e | e <;> rw [e] at h ⊢; cases h
theorem firms_opnds {k : Option Nat} {s : St} : ∀ {l : List Operand}, firms k (opnds s l) = true → ∀ x ∈ l, firm k (opnd s x) = true
  | [], _, x, hx => by cases hx
  | y :: r, h, x, hx => by
    simp only [opnds, firms, Bool.and_eq_true] at h
    rcases List.mem_cons.1 hx with e | e
    · rw [e]; exact h.1
    · exact firms_opnds h.2 x e

/-- the same slots, and the same objects -/
def SEqX (s s' : St) : Prop := (∀ i, s.get i = s'.get i) ∧ aget s.hp = aget s'.hp

theorem SEqX.refl (s : St) : SEqX s s := ⟨fun _ => rfl, rfl⟩
theorem SEqX.symm {s s' : St} (h : SEqX s s') : SEqX s' s := ⟨fun i => (h.1 i).symm, h.2.symm⟩
theorem SEqX.trans {s s' s'' : St} (h : SEqX s s') (h' : SEqX s' s'') : SEqX s s'' := ⟨fun i => (h.1 i).trans (h'.1 i), h.2.trans h'.2⟩

theorem get_putO (s : St) (d : Option Nat) (p : PV) (r : Nat) : (s.putO d p).get r = if d = some r then p else s.get r := by
  cases d with
  | none => simp [St.putO]
  | some i =>
    simp only [St.putO, St.get_put, Option.some.injEq]

theorem SEqX.putO {s s' : St} (h : SEqX s s') (d : Option Nat) (p : PV) : SEqX (s.putO d p) (s'.putO d p) :=
  ⟨fun r => by rw [get_putO, get_putO, h.1], by rw [St.putO_hp, St.putO_hp]; exact h.2⟩

/-- what an operation does to a state, ahead of writing its slot -/
structure Tau (k : Option Nat) (τ : St → St) : Prop where
  cg : ∀ s s' r, s.get r = s'.get r → (τ s).get r = (τ s').get r
  ch : ∀ s s', aget s.hp = aget s'.hp → aget (τ s).hp = aget (τ s').hp
  get : ∀ s r, firm k (s.get r) = true ∨ firm k ((τ s).get r) = true → (τ s).get r = s.get r

theorem Tau.seq {k : Option Nat} {τ : St → St} (h : Tau k τ) {s s' : St} (he : SEqX s s') : SEqX (τ s) (τ s') := ⟨fun i => h.cg _ _ _ (he.1 i), h.ch _ _ he.2⟩

theorem Tau.id {k : Option Nat} {τ : St → St} (h : ∀ s, τ s = s) : Tau k τ := ⟨fun s s' r e => by rw [h, h]; exact e, fun s s' e => by rw [h, h]; exact e, fun s r _ => by rw [h]⟩

theorem Tau.hp {τ : St → St} {h : List (Nat × GObj)} {k : Option Nat} (ht : ∀ s, τ s = ⟨s.vs, s.ts, h⟩) : Tau k τ :=
  ⟨fun s s' r e => by rw [ht, ht]; exact e, fun s s' e => by rw [ht, ht], fun s r _ => by rw [ht]; rfl⟩

theorem Tau.put {k : Option Nat} {τ : St → St} (h : Tau k τ) {p : PV} (hp : firm k p = true) (s : St) (d : Option Nat) : SEqX (τ (s.putO d p)) ((τ s).putO d p) := by
  refine ⟨fun r => ?_, ?_⟩
  · rw [get_putO]
    split
    · rename_i e
      have : (s.putO d p).get r = p := by rw [get_putO, if_pos e]
      rw [h.get _ r (.inl (by rw [this]; exact hp)), this]
    · rename_i e
      exact h.cg _ _ _ (by rw [get_putO, if_neg e])
  · rw [St.putO_hp]
    exact h.ch _ _ (by rw [St.putO_hp])

theorem newG_get (s : St) (g : Nat) (o : GObj) (r : Nat) : (s.newG g o).get r = killP g (s.get r) := St.get_drop s g r
theorem newG_hp (s : St) (g : Nat) (o : GObj) (x : Nat) : aget (s.newG g o).hp x = if g = x then some o else (aget s.hp x).map (GObj.map (killPs g)) := by
  simp only [St.newG, aget, St.drop, aget_mapH, aget_adel]
  by_cases h : g = x <;> simp [h]

theorem Tau.newG {k : Option Nat} {τ : St → St} {g : Nat} {o : GObj} (hg : ∀ g0, k = some g0 → g ≠ g0) (ht : ∀ s, τ s = s.newG g o) : Tau k τ := by
  refine ⟨fun s s' r e => ?_, fun s s' e => ?_, fun s r h => ?_⟩
  · rw [ht, ht, newG_get, newG_get, e]
  · funext x
    rw [ht, ht, newG_hp, newG_hp, e]
  · rw [ht, newG_get] at *
    rw [killP_eq] at *
    rcases h with h | h
    · rcases firm_cases h with h | ⟨g', sz, i, f, e, ek⟩
      · exact mapO_solid _ _ h
      · rw [e]; simp only [mapO, KillQ]; rw [if_neg (Ne.symm (hg g' ek))]
    · rcases firm_cases h with h | ⟨g', sz, i, f, e, ek⟩
      · exact solid_mapO (killP_fades g) h
      · exact mapO_op (killP_fades g) e

theorem killW_fades (k1 k2 : Nat → Bool) : Fades (fun g => match k1 g with | true => .junk | false => .os g) (fun g sz i f => match k2 g with | true => .junk | false => .op g sz i f) :=
  ⟨fun g => by dsimp only; split <;> simp, fun g sz i f => by dsimp only; split <;> simp⟩

theorem Tau.handed {τ : St → St} {hpi hp' : List (Nat × GObj)} (ht : ∀ s, τ s = s.handed hpi hp') : Tau none τ := by
  have hg : ∀ (s : St) (i : Nat), (s.handed hpi hp').get i = Pv.killW (turned hpi hp') (fun g => inSet hpi hp' g && !ownId hpi g) (s.get i) := fun s i => St.get_mapV s _ rfl _ i
  refine ⟨fun s s' r e => ?_, fun s s' e => ?_, fun s r h => ?_⟩
  · rw [ht, ht, hg, hg, e]
  · funext x
    rw [ht, ht]
    simp only [St.handed, aget_append, aget_mapH, aget_delHp, e]
  · rw [ht, hg] at *
    unfold Pv.killW at *
    rcases h with h | h
    · rcases firm_cases h with h | ⟨g', sz, i, f, e, ek⟩
      · exact mapO_solid _ _ h
      · cases ek
    · rcases firm_cases h with h | ⟨g', sz, i, f, e, ek⟩
      · exact solid_mapO (killW_fades _ _) h
      · cases ek

/-- the kinds of operations, as far as their order matters -/
inductive Kd where
  | val | store | new (g : Nat) | oth

inductive Act1 (τ : St → St) (v : PV) (sol : Prop) : Kd → Prop
  | idl (k : Kd) : (∀ s, τ s = s) → solid v = true → Act1 τ v sol k
  | val : (∀ s, τ s = s) → Act1 τ v sol .val
  | store (h : List (Nat × GObj)) : (∀ s, τ s = ⟨s.vs, s.ts, h⟩) → Act1 τ v sol .store
  | new (g : Nat) (o : GObj) : (∀ s, τ s = s.newG g o) → (sol → ∀ g', o.map (killPs g') = o) → (∀ g', g' ≠ g → killP g' v = v) → Act1 τ v sol (.new g)
  | oth : Act1 τ v sol .oth

def kindOf (plan : List (Nat × Nat)) (o : Oper) : Kd :=
  match isEff plan o with
  | false => .val
  | true => match isStore o with
    | true => .store
    | false => match newId plan o with | some g => .new g | none => .oth

theorem killP_comm (g g' : Nat) (p : PV) : killP g (killP g' p) = killP g' (killP g p) := by
  have key : (∀ p : PV, mapO (KillU g) (KillQ g) (mapO (KillU g') (KillQ g') p) = mapO (KillU g') (KillQ g') (mapO (KillU g) (KillQ g) p)) := by
    intro p
    refine PV.rec (motive_1 := fun p => mapO (KillU g) (KillQ g) (mapO (KillU g') (KillQ g') p) = mapO (KillU g') (KillQ g') (mapO (KillU g) (KillQ g) p))
      (motive_2 := fun _ => True) (motive_3 := fun ps => mapOs (KillU g) (KillQ g) (mapOs (KillU g') (KillQ g') ps) = mapOs (KillU g') (KillQ g') (mapOs (KillU g) (KillQ g) ps))
      ?_ ?_ ?_ ?_ ?_ ?_ ?_ ?_ ?_ ?_ ?_ ?_ ?_ ?_ ?_ ?_ ?_ ?_ p <;> intros <;> try trivial
    all_goals simp only [mapO, mapOs, *]
    all_goals try simp only [KillU, KillQ]
    all_goals (split <;> (try split) <;> simp_all [mapO, KillU, KillQ])
  simpa only [killP_eq] using key p


theorem killPs_comm (g g' : Nat) (p : List PV) : killPs g (killPs g' p) = killPs g' (killPs g p) := by
  have := killP_comm g g' (.agg p)
  simp only [killP_eq, mapO] at this
  injection this

theorem GObj.map_comm (g g' : Nat) (o : GObj) : (o.map (killPs g')).map (killPs g) = (o.map (killPs g)).map (killPs g') := by
  unfold GObj.map
  cases ho : o.own
  · simp [ho]
  · simp only [ho, if_true]
    congr 1
    induction o.es with
    | nil => rfl
    | cons e es ih => simp only [mapE, ih, killPs_comm g g']

/-- which pairs of operations may go in either order -/
def Apart (k : Option Nat) (ki kj : Kd) (vi vj : PV) : Prop :=
  match ki, kj with
  | .val, .val => True
  | .val, .store => True
  | .store, .val => True
  | .val, _ => firm k vi = true
  | _, .val => firm k vj = true
  | .new g, .new g' => g ≠ g'
  | _, _ => False

theorem put_put (s : St) {d d' : Option Nat} (p p' : PV) (h : ∀ i, d = some i → d' ≠ some i) : SEqX ((s.putO d p).putO d' p') ((s.putO d' p').putO d p) := by
  refine ⟨fun r => ?_, by rw [St.putO_hp, St.putO_hp, St.putO_hp, St.putO_hp]⟩
  simp only [get_putO]
  by_cases h1 : d = some r <;> by_cases h2 : d' = some r
  · exact absurd h2 (h r h1)
  · simp [h1, h2]
  · simp [h1, h2]
  · simp [h1, h2]

theorem comm_solid {k : Option Nat} {τ τ' : St → St} (hτ : Tau k τ) (hτ' : ∀ s, τ' s = s) {v v' : PV} (hv' : firm k v' = true) {d d' : Option Nat} (hd : ∀ i, d = some i → d' ≠ some i) (s : St) :
    SEqX ((τ ((τ' s).putO d' v')).putO d v) ((τ' ((τ s).putO d v)).putO d' v') := by
  rw [hτ', hτ']
  refine ((hτ.put hv' s d').putO d v).trans ?_
  exact (put_put (τ s) v v' hd).symm

theorem comm_store {τ τ' : St → St} {h : List (Nat × GObj)} (hτ : ∀ s, τ s = ⟨s.vs, s.ts, h⟩) (hτ' : ∀ s, τ' s = s) {v v' : PV} {d d' : Option Nat} (hd : ∀ i, d = some i → d' ≠ some i) (s : St) :
    SEqX ((τ ((τ' s).putO d' v')).putO d v) ((τ' ((τ s).putO d v)).putO d' v') := by
  rw [hτ', hτ']
  have h1 : SEqX (τ (s.putO d' v')) ((τ s).putO d' v') := by
    refine ⟨fun r => ?_, by rw [hτ, hτ, St.putO_hp]⟩
    rw [get_putO, hτ, hτ]
    have := get_putO s d' v' r
    unfold St.get at *
    exact this
  exact (h1.putO d v).trans (put_put (τ s) v v' hd).symm

theorem comm_new {τ τ' : St → St} {g g' : Nat} {o o' : GObj} (hτ : ∀ s, τ s = s.newG g o) (hτ' : ∀ s, τ' s = s.newG g' o') (hne : g ≠ g') {v v' : PV} (h1 : o.map (killPs g') = o) (h2 : o'.map (killPs g) = o')
    (h3 : killP g' v = v) (h4 : killP g v' = v') {d d' : Option Nat} (hd : ∀ i, d = some i → d' ≠ some i) (s : St) :
    SEqX ((τ ((τ' s).putO d' v')).putO d v) ((τ' ((τ s).putO d v)).putO d' v') := by
  refine ⟨fun r => ?_, ?_⟩
  · simp only [get_putO, hτ, hτ', newG_get]
    by_cases e1 : d = some r <;> by_cases e2 : d' = some r
    · exact absurd e2 (hd r e1)
    · simp [e1, e2, h3]
    · simp [e1, e2, h4]
    · simp [e1, e2, killP_comm g g']
  · funext x
    simp only [St.putO_hp, hτ, hτ', newG_hp]
    by_cases e1 : g = x <;> by_cases e2 : g' = x
    · exact absurd (e1.trans e2.symm) hne
    · simp [e1, e2, h1]
    · simp [e1, e2, h2]
    · simp only [e1, e2, if_false, Option.map_map]
      cases aget s.hp x with
      | none => rfl
      | some ob => simp [GObj.map_comm g g']

theorem comm_acts {kp : Option Nat} {τ τ' : St → St} {v v' : PV} {sol sol' : Prop} {k k' : Kd} (hτ : Tau kp τ) (hτ' : Tau kp τ') (a : Act1 τ v sol k) (a' : Act1 τ' v' sol' k') (hap : Apart kp k k' v v') (hs : (∃ g g', k = .new g ∧ k' = .new g') → sol ∧ sol')
    {d d' : Option Nat} (hd : ∀ i, d = some i → d' ≠ some i) (s : St) : SEqX ((τ ((τ' s).putO d' v')).putO d v) ((τ' ((τ s).putO d v)).putO d' v') := by
  have hd' : ∀ i, d' = some i → d ≠ some i := fun i h1 h2 => hd i h2 h1
  cases a' with
  | idl _ e he => exact comm_solid hτ e (firm_solid he) hd s
  | val e' =>
    cases a with
    | idl _ e he => exact (comm_solid hτ' e (firm_solid he) hd' s).symm
    | val e =>
      rw [e, e', e, e']
      exact (put_put s v v' hd).symm
    | store h e => exact comm_store e e' hd s
    | new g o e _ _ => exact comm_solid hτ e' hap hd s
    | oth => exact comm_solid hτ e' hap hd s
  | store h' e' =>
    cases a with
    | idl _ e he => exact (comm_solid hτ' e (firm_solid he) hd' s).symm
    | val e => exact (comm_store e' e hd' s).symm
    | store h e => exact hap.elim
    | new g o e _ _ => exact hap.elim
    | oth => exact hap.elim
  | new g' o' e' c1 c2 =>
    cases a with
    | idl _ e he => exact (comm_solid hτ' e (firm_solid he) hd' s).symm
    | val e => exact (comm_solid hτ' e hap hd' s).symm
    | store h e => exact hap.elim
    | new g o e c3 c4 =>
      obtain ⟨s1, s2⟩ := hs ⟨g, g', rfl, rfl⟩
      have hne : g ≠ g' := hap
      exact comm_new e e' hne (c3 s1 g') (c1 s2 g) (c4 g' (Ne.symm hne)) (c2 g hne) hd s
    | oth => exact hap.elim
  | oth =>
    cases a with
    | idl _ e he => exact (comm_solid hτ' e (firm_solid he) hd' s).symm
    | val e => exact (comm_solid hτ' e hap hd' s).symm
    | store h e => exact hap.elim
    | new g o e _ _ => exact hap.elim
    | oth => exact hap.elim

/-! what must have been done before, as bits -/

theorem edgeMask_bit {acc : List Nat} {k : Nat} : ∀ {es : List Edge}, (edgeMask acc es).testBit k = true → ∃ e ∈ es, Region.binds .any e = true ∧ (k = e.on ∨ (nthN acc e.on).testBit k = true)
  | [], h => by simp [edgeMask] at h
  | e :: r, h => by
    simp only [edgeMask] at h
    split at h
    · rename_i hb
      simp only [Nat.testBit_or, Bool.or_eq_true] at h
      rcases h with (h | h) | h
      · rw [Nat.testBit_two_pow] at h
        exact ⟨e, by simp, hb, .inl (by simpa using (of_decide_eq_true h).symm)⟩
      · exact ⟨e, by simp, hb, .inr h⟩
      · obtain ⟨e', h1, h2⟩ := edgeMask_bit h
        exact ⟨e', by simp [h1], h2⟩
    · obtain ⟨e', h1, h2⟩ := edgeMask_bit h
      exact ⟨e', by simp [h1], h2⟩

theorem ancsGo_spec : ∀ (l : List Oper) (acc : List Nat), (ancsGo l acc).length = acc.length + l.length ∧ (∀ i, i < acc.length → (ancsGo l acc)[i]? = acc[i]?) ∧
    ∀ j o, l[j]? = some o → ∃ acc', (ancsGo l acc)[acc.length + j]? = some (edgeMask acc' o.after.toList) ∧ acc'.length = acc.length + j ∧ ∀ i, i < acc'.length → (ancsGo l acc)[i]? = acc'[i]?
  | [], acc => ⟨by simp [ancsGo], fun i h => rfl, by simp⟩
  | o :: r, acc => by
    obtain ⟨h1, h2, h3⟩ := ancsGo_spec r (acc ++ [edgeMask acc o.after.toList])
    simp only [List.length_append, List.length_cons, List.length_nil] at h1 h2 h3
    refine ⟨by simp only [ancsGo, List.length_cons]; omega, fun i hi => ?_, ?_⟩
    · simp only [ancsGo]
      rw [h2 i (by omega), List.getElem?_append_left hi]
    · intro j o' hj
      simp only [ancsGo]
      cases j with
      | zero =>
        simp at hj; subst hj
        refine ⟨acc, ?_, rfl, fun i hi => ?_⟩
        · rw [Nat.add_zero, h2 _ (by omega)]; simp
        · rw [h2 i (by omega), List.getElem?_append_left hi]
      | succ j =>
        obtain ⟨acc', q1, q2, q3⟩ := h3 j o' (by simpa using hj)
        exact ⟨acc', by rw [← q1]; congr 1; omega, by omega, q3⟩

theorem ancs_closed {ops : Array Oper} (hok : drawOk ops = true) {X : Nat → Prop} (hcl : ∀ (j : Nat) (o : Oper) (e : Edge), ops[j]? = some o → X j → e ∈ o.after → Region.binds .any e = true → X e.on) {k : Nat} :
    ∀ (i : Nat) (o : Oper), ops[i]? = some o → (∀ e ∈ o.after, Region.binds .any e = true → X e.on) → (nthN (ancs ops.toList) i).testBit k = true → X k := by
  intro i
  induction i using Nat.strongRecOn with
  | ind i ih =>
    intro o ho hp hb
    obtain ⟨h1, h2, h3⟩ := ancsGo_spec ops.toList []
    obtain ⟨acc', q1, q2, q3⟩ := h3 i o (by simpa using ho)
    simp only [List.length_nil, Nat.zero_add] at q1 q2
    have hn : nthN (ancs ops.toList) i = edgeMask acc' o.after.toList := by unfold nthN ancs; rw [q1]
    rw [hn] at hb
    obtain ⟨e, he, hbd, hk⟩ := edgeMask_bit hb
    have he' : e ∈ o.after := by simpa using he
    have hX := hp e he' hbd
    rcases hk with rfl | hk
    · exact hX
    · have hlt := (drawOk_at hok ho).1 e he' hbd
      have hlt2 : e.on < ops.size := by have := (Array.getElem?_eq_some_iff.1 ho).1; omega
      have hoe : ops[e.on]? = some ops[e.on] := by simp [hlt2]
      refine ih e.on hlt _ hoe (fun e' he' hb' => hcl e.on _ e' hoe hX he' hb') ?_
      have : nthN (ancs ops.toList) e.on = nthN acc' e.on := by
        unfold nthN ancs
        rw [q3 e.on (by omega)]
      rw [this]; exact hk

theorem cls_zero {ms : List Nat} {i : Nat} : ∀ {es : List (Nat × Bool)}, cls ms i es = 0 → ∀ e st, (e, st) ∈ es → e = i ∨ ordB ms i e = true
  | [], _, e, st, h => by simp at h
  | (e', st') :: r, hc, e, st, h => by
    simp only [cls] at hc
    split at hc
    · rename_i hb
      rcases List.mem_cons.1 h with h | h
      · cases h
        simp only [Bool.or_eq_true, Nat.beq_eq] at hb
        exact hb
      · exact cls_zero hc e st h
    · split at hc
      · split at hc
        · cases hc
        · rename_i n hn; exact absurd hc hn
      · cases hc

theorem cls_two {ms : List Nat} {i : Nat} : ∀ {es : List (Nat × Bool)}, cls ms i es ≠ 2 → ∀ e, (e, false) ∈ es → e = i ∨ ordB ms i e = true
  | [], _, e, h => by simp at h
  | (e', st') :: r, hc, e, h => by
    simp only [cls] at hc
    split at hc
    · rename_i hb
      rcases List.mem_cons.1 h with h | h
      · cases h
        simp only [Bool.or_eq_true, Nat.beq_eq] at hb
        exact hb
      · exact cls_two hc e h
    · split at hc
      · rcases List.mem_cons.1 h with h | h
        · cases h
        · refine cls_two ?_ e h
          intro e2
          rw [e2] at hc
          exact hc rfl
      · exact absurd rfl hc

theorem cls_le {ms : List Nat} {i : Nat} : ∀ {es : List (Nat × Bool)}, cls ms i es = 0 ∨ cls ms i es = 1 ∨ cls ms i es = 2
  | [] => .inl rfl
  | (e', st') :: r => by
    simp only [cls]
    split
    · exact cls_le
    · split
      · rcases cls_le (ms := ms) (i := i) (es := r) with h | h | h <;> simp [h]
      · simp

theorem effList_mem {plan : List (Nat × Nat)} : ∀ {l : List Oper} {i j : Nat} {o : Oper}, l[j]? = some o → isEff plan o = true → (i + j, isStore o) ∈ effList plan i l
  | [], i, j, o, h, _ => by simp at h
  | o' :: r, i, j, o, h, he => by
    simp only [effList]
    cases j with
    | zero =>
      simp at h; subst h
      simp [he]
    | succ j =>
      have := effList_mem (plan := plan) (l := r) (i := i + 1) (j := j) (by simpa using h) he
      rw [show i + 1 + j = i + (j + 1) by omega] at this
      split
      · exact List.mem_cons_of_mem _ this
      · exact this

def effPair (plan : List (Nat × Nat)) (ops : List Oper) (ms : List Nat) (i j : Nat) : Bool :=
  Nat.beq i j || ordB ms i j || (match ops[i]?, ops[j]? with
    | some o, some o' => match newId plan o, newId plan o' with
      | some g, some g' => !Nat.beq g g'
      | _, _ => false
    | _, _ => false)

/-- effects stand in an order, or make objects that have nothing to do with each other -/
def effOk (plan : List (Nat × Nat)) (ops : List Oper) : Bool :=
  (effList plan 0 ops).all fun x => (effList plan 0 ops).all fun y => effPair plan ops (ancs ops) x.1 y.1

end Go.Proofs.Ytogehfalhodapaa.Pv
namespace Go.Proofs.Ytogehfalhodapaa.Pv
open Go
set_option linter.unusedSimpArgs false
set_option linter.unusedVariables false
set_option linter.unnecessarySimpa false

theorem subHp_congr {hp hp' : List (Nat × GObj)} (hh : aget hp = aget hp') : ∀ {l : List (Nat × GObj)}, subHp l hp → subHp l hp'
  | [], h => h
  | (g, o) :: r, h => ⟨by rw [← hh]; exact h.1, subHp_congr hh h.2⟩
theorem freshHp_congr {hp hp' : List (Nat × GObj)} (hh : aget hp = aget hp') (hpi : List (Nat × GObj)) : ∀ {l : List (Nat × GObj)}, freshHp hpi hp l = true → freshHp hpi hp' l = true
  | [], h => h
  | (g, o) :: r, h => by
    simp only [freshHp, Bool.and_eq_true] at h ⊢
    refine ⟨?_, freshHp_congr hh hpi h.2⟩
    have : hasId hp' g = hasId hp g := by unfold hasId; rw [hh]
    rw [this]; exact h.1

theorem solid_cells {p : PV} (h : solid p = true) : solids p.cells = true := by
  cases p <;> simp [PV.cells, solids] <;> simpa [solid] using h

theorem solids_opnds {s : St} : ∀ {l : List Operand}, solids (opnds s l) = true → ∀ x ∈ l, solid (opnd s x) = true
  | [], _, x, h => by simp at h
  | y :: r, hs, x, h => by
    simp only [opnds, solids, Bool.and_eq_true] at hs
    rcases List.mem_cons.1 h with rfl | h
    · exact hs.1
    · exact solids_opnds hs.2 x h

theorem map_notown (g : Nat) (o : GObj) (h : o.own = false) : o.map (killPs g) = o := by
  unfold GObj.map; simp [h]
theorem map_imm (g : Nat) (T : TypeId) (sz : Nat) (cs : List PV) (h : isImms cs = true) : GObj.map (killPs g) ⟨T, sz, [cs], true⟩ = ⟨T, sz, [cs], true⟩ := by
  unfold GObj.map
  simp only [if_true, mapE]
  rw [killPs_eq, mapOs_imm _ _ h]

theorem killP_os {g g' : Nat} (h : g' ≠ g) : killP g' (.os g) = .os g := by
  simp [killP_eq, mapO, KillU, Ne.symm h]
theorem killP_op {g g' sz i f : Nat} (h : g' ≠ g) : killP g' (.op g sz i f) = .op g sz i f := by
  simp [killP_eq, mapO, KillQ, Ne.symm h]

theorem arep_congr {hp hp' : List (Nat × GObj)} (hh : aget hp = aget hp') {g : Nat} {o : GObj} (h : aget hp g ≠ none) : aget (arep hp g o) = aget (arep hp' g o) := by
  funext x
  rw [aget_arep _ _ _ h, aget_arep _ _ _ (by rw [← hh]; exact h), hh]

section
variable {P : Program} {E : Env} {C : Ctr} {H : Hnd} {plan : List (Nat × Nat)} {s : St}

theorem hand_congr {s' : St} {c : Call} (h : ∀ x ∈ (Op.call c).operands.toList, opnd s x = opnd s' x) : hand s c = hand s' c ∧ handX s c = handX s' c := by
  have ha : opnds s c.args.toList = opnds s' c.args.toList := opnds_congr (fun x hx => h x (by
    cases hc : c.callee <;> simp [hc, Op.operands, Call.operands] at hx ⊢ <;> simp [hx]))
  unfold hand handX
  cases hc : c.callee with
  | value f =>
    have hf : opnd s f = opnd s' f := h f (by simp [hc, Op.operands, Call.operands])
    simp only [hf, ha]
    exact ⟨trivial, trivial⟩
  | _ => exact ⟨rfl, rfl⟩

theorem step_split (hE : ∀ T, TDok P T (E T)) {o : Oper} (hf : isEff plan o = true) {K : St → Prop} (k0 : Option Nat) (hto : touchOk k0 plan o s = true) (h : stepOp E C H plan o K s) :
    ∃ τ v, Tau k0 τ ∧ Act1 τ v (solids (opnds s o.op.operands.toList) = true) (kindOf plan o) ∧ K ((τ s).putO o.dst v) ∧
      ∀ (s' : St) (K' : St → Prop), (∀ x ∈ o.op.operands.toList, opnd s x = opnd s' x) → ((newId plan o).isSome = true ∨ aget s.hp = aget s'.hp) → (∀ t, SEqX t ((τ s').putO o.dst v) → K' t) → stepOp E C H plan o K' s' := by
  have hk : kindOf plan o = match isStore o with | true => .store | false => match newId plan o with | some g => .new g | none => .oth := by
    unfold kindOf; rw [hf]; first | done | rfl
  -- operations of the last kind
  have oth : isStore o = false → newId plan o = none → ∀ (τ : St → St) (v : PV), Tau k0 τ → K ((τ s).putO o.dst v) →
      (∀ (s' : St) (K' : St → Prop), (∀ x ∈ o.op.operands.toList, opnd s x = opnd s' x) → aget s.hp = aget s'.hp → (∀ t, SEqX t ((τ s').putO o.dst v) → K' t) → stepOp E C H plan o K' s') →
      ∃ τ v, Tau k0 τ ∧ Act1 τ v (solids (opnds s o.op.operands.toList) = true) (kindOf plan o) ∧ K ((τ s).putO o.dst v) ∧
      ∀ (s' : St) (K' : St → Prop), (∀ x ∈ o.op.operands.toList, opnd s x = opnd s' x) → ((newId plan o).isSome = true ∨ aget s.hp = aget s'.hp) → (∀ t, SEqX t ((τ s').putO o.dst v) → K' t) → stepOp E C H plan o K' s' := by
    intro h1 h2 τ v h3 h4 h5
    refine ⟨τ, v, h3, by rw [hk, h1, h2]; exact .oth, h4, fun s' K' hx hh hK => h5 s' K' hx ?_ hK⟩
    rcases hh with hh | hh
    · rw [h2] at hh; cases hh
    · exact hh
  obtain ⟨op, hop⟩ : ∃ op, o.op = op := ⟨_, rfl⟩
  cases op <;> simp only [isEff, hop] at hf <;> simp only [stepOp, hop] at h
  case alloc T =>
    split at h
    · rename_i z d hz hd
      obtain ⟨h0, h⟩ := h
      obtain ⟨i, zv, z1, z2, z3⟩ := zeroTD_run' (hE T) hz
      have hi : isImms z = true := (z3.2.1 (fun _ => none)).isImms
      split at h
      · rename_i g hg
        have hn : newId plan o = some g := by simp [newId, hop, hd, hg]
        refine ⟨fun s => s.newG g ⟨T, z.length, [z], true⟩, .op g z.length 0 0, .newG (fun g0 e => by rw [e] at hto; simp only [touchOk, hop, hn] at hto; simp only [Bool.not_eq_true'] at hto; exact Nat.ne_of_beq_eq_false hto) fun _ => rfl, ?_, by rw [hd]; exact h, fun s' K' hx hh hk => ?_⟩
        · rw [hk, hn]; simp only [isStore, hop]
          exact .new g _ (fun _ => rfl) (fun _ g' => map_imm _ _ _ _ hi) fun g' hne => killP_op hne
        simp only [stepOp, hop, hz, hd, hg]
        exact ⟨h0, hk _ (by rw [hd]; exact .refl _)⟩
      · rename_i hg
        have hn : newId plan o = some d := by simp [newId, hop, hd, hg]
        refine ⟨fun s => s.newG d ⟨T, z.length, [z], true⟩, .op d z.length 0 0, .newG (fun g0 e => by rw [e] at hto; simp only [touchOk, hop, hn] at hto; simp only [Bool.not_eq_true'] at hto; exact Nat.ne_of_beq_eq_false hto) fun _ => rfl, ?_, by rw [hd]; exact h, fun s' K' hx hh hk => ?_⟩
        · rw [hk, hn]; simp only [isStore, hop]
          exact .new d _ (fun _ => rfl) (fun _ g' => map_imm _ _ _ _ hi) fun g' hne => killP_op hne
        simp only [stepOp, hop, hz, hd, hg]
        exact ⟨h0, hk _ (by rw [hd]; exact .refl _)⟩
    · exact h.elim
  case makeSlice T l c =>
    split at h
    · rename_i e esz eb z k1 n k2 m d hT hl hc hd
      obtain ⟨h0, h⟩ := h
      have hn : newId plan o = some (match aget plan d with | some g => g | none => d) := by
        simp only [newId, hop, hd]; split <;> simp_all
      refine ⟨fun s => s.newG (match aget plan d with | some g => g | none => d) ⟨e, esz, List.replicate n.toNat z, false⟩, _, .newG (fun g0 e => by rw [e] at hto; simp only [touchOk, hop, hn] at hto; simp only [Bool.not_eq_true'] at hto; exact Nat.ne_of_beq_eq_false hto) fun _ => rfl, ?_, by rw [hd]; exact h, fun s' K' hx hh hk => ?_⟩
      · rw [hk, hn]; simp only [isStore, hop]
        exact .new _ _ (fun _ => rfl) (fun _ g' => map_notown _ _ rfl) fun g' hne => killP_os hne
      have e1 := hx l (by simp [hop, Op.operands])
      have e2 := hx c (by simp [hop, Op.operands])
      simp only [stepOp, hop, hT, ← e1, ← e2, hl, hc, hd]
      exact ⟨h0, hk _ (by rw [hd]; exact .refl _)⟩
    · exact h.elim
  case store T a x =>
    have hst : isStore o = true := by simp [isStore, hop]
    rw [hst] at hk
    split at h
    · rename_i g sz i f n ha hn
      split at h
      · rename_i ob hob
        split at h
        · exact h.elim
        · rename_i hsz
          split at h
          · rename_i c hc
            obtain ⟨h0, h⟩ := h
            refine ⟨fun s0 => ⟨s0.vs, s0.ts, arep s.hp g { ob with es := ob.es.set i (splice c f (opnd s x).cells) }⟩, .tup [], .hp fun _ => rfl, by rw [hk]; exact .store _ fun _ => rfl, h, fun s' K' hx hh hk => ?_⟩
            have e1 := hx a (by simp [hop, Op.operands])
            have e2 := hx x (by simp [hop, Op.operands])
            have hh' : aget s.hp = aget s'.hp := by
              rcases hh with hh | hh
              · simp [newId, hop] at hh
              · exact hh
            simp only [stepOp, hop, ← e1, ← e2, ha, hn, ← hh', hob, hc]
            rw [if_neg hsz]
            refine ⟨h0, hk _ ?_⟩
            have hne : aget s.hp g ≠ none := by rw [hob]; simp
            exact SEqX.putO (s := ⟨s'.vs, s'.ts, arep s'.hp g { ob with es := ob.es.set i (splice c f (opnd s x).cells) }⟩) (s' := ⟨s'.vs, s'.ts, arep s.hp g { ob with es := ob.es.set i (splice c f (opnd s x).cells) }⟩)
              ⟨fun i => rfl, (arep_congr hh' hne).symm⟩ _ _
          · exact h.elim
      · exact h.elim
    · exact h.elim
  case box T x =>
    split at h
    · rename_i d hd
      rw [hd] at hf
      split at h
      · rename_i g hg
        obtain ⟨h0, h⟩ := h
        have hn : newId plan o = some g := by simp [newId, hop, hd, hg]
        refine ⟨fun s0 => s0.newG g ⟨T, (opnd s x).cells.length, [killPs g (opnd s x).cells], true⟩, _, .newG (fun g0 e => by rw [e] at hto; simp only [touchOk, hop, hn] at hto; simp only [Bool.not_eq_true'] at hto; exact Nat.ne_of_beq_eq_false hto) fun _ => rfl, ?_, by rw [hd]; exact h, fun s' K' hx hh hk => ?_⟩
        · rw [hk, hn]; simp only [isStore, hop]
          refine .new g _ (fun _ => rfl) (fun hs g' => map_imm _ _ _ _ ?_) fun g' hne => killP_op hne
          have h1 := solids_opnds hs x (by simp [hop, Op.operands])
          have h2 := solid_cells h1
          rw [killPs_eq, mapOs_solid _ _ h2]
          exact solids_imms h2
        have e1 := hx x (by simp [hop, Op.operands])
        simp only [stepOp, hop, hd, hg, ← e1]
        exact ⟨h0, hk _ (by rw [hd]; exact .refl _)⟩
      · rename_i hg
        simp [planned, hg] at hf
    · exact h.elim
  case buildSlice T n ps =>
    split at h
    · rename_i d hd
      rw [hd] at hf
      split at h
      · rename_i g hg
        split at h
        · rename_i e esz eb z hT
          split at h
          · rename_i es hes
            obtain ⟨h0, h⟩ := h
            have hn : newId plan o = some g := by simp [newId, hop, hd, hg]
            refine ⟨fun s0 => s0.newG g ⟨e, esz, es, false⟩, _, .newG (fun g0 e => by rw [e] at hto; simp only [touchOk, hop, hn] at hto; simp only [Bool.not_eq_true'] at hto; exact Nat.ne_of_beq_eq_false hto) fun _ => rfl, ?_, by rw [hd]; exact h, fun s' K' hx hh hk => ?_⟩
            · rw [hk, hn]; simp only [isStore, hop]
              exact .new _ _ (fun _ => rfl) (fun _ g' => map_notown _ _ rfl) fun g' hne => killP_os hne
            have hfs : fillS s esz ps.toList (List.replicate n z) = fillS s' esz ps.toList (List.replicate n z) :=
              fillS_congr (fun y hy => hx y.2 (by simp [hop, Op.operands]; exact ⟨y.1, by simpa using hy⟩))
            simp only [stepOp, hop, hd, hg, hT, ← hfs, hes]
            exact ⟨h0, hk _ (by rw [hd]; exact .refl _)⟩
          · exact h.elim
        · exact h.elim
      · rename_i hg
        simp [planned, hg] at hf
    · exact h.elim
  case assign x =>
    have hn : newId plan o = none := by simp [newId, hop]
    have hst : isStore o = false := by simp [isStore, hop]
    split at h
    · rename_i d e esz eb z hx0 hd hT
      split at h
      · rename_i g hg
        refine oth hst hn (fun s0 => s0.newG g ⟨e, esz, [], false⟩) (.os g) (.newG (fun g0 e => by rw [e] at hto; simp only [touchOk, hop, hd, hg] at hto; simp only [Bool.not_eq_true'] at hto; exact Nat.ne_of_beq_eq_false hto) fun _ => rfl) (by rw [hd]; exact h) fun s' K' hx hh hk => ?_
        have e1 := hx x (by simp [hop, Op.operands])
        simp only [stepOp, hop, ← e1, hx0, hd, hT, hg]
        exact hk _ (by rw [hd]; exact .refl _)
      · rename_i hg
        rw [hd] at hf
        simp [planned, hg] at hf
    · rename_i hno
      refine oth hst hn (fun s0 => s0) (opnd s x) (.id fun _ => rfl) h fun s' K' hx hh hk => ?_
      have e1 := hx x (by simp [hop, Op.operands])
      simp only [stepOp, hop, ← e1]
      exact hk _ (.refl _)
  case slice T x lo hi mx =>
    have hn : newId plan o = none := by simp [newId, hop]
    have hst : isStore o = false := by simp [isStore, hop]
    cases mx with
    | some m => exact (by simpa [valOp, hop] using h : False).elim
    | none =>
      simp only at h
      rw [hf] at h
      simp only at h
      split at h
      · rename_i el esz eb z g d hE' hx0 hd
        have hf' : planned plan (some d) = true := by rw [← hd]; exact hf
        split at h
        · rename_i ob hob
          obtain ⟨l, l1, h⟩ := boundOf_split h
          obtain ⟨u, u1, ⟨h0, h1, h⟩⟩ := boundOf_split h
          refine oth hst hn (fun s0 => s0.newG g ⟨ob.ty, ob.sz, ob.es.take u.toNat, ob.own⟩) (.os g) (.newG (fun g0 e => by rw [e] at hto; simp only [touchOk, hop, hx0] at hto; simp only [Bool.not_eq_true'] at hto; exact Nat.ne_of_beq_eq_false hto) fun _ => rfl) (by rw [hd]; exact h) fun s' K' hx hh hk => ?_
          have e1 := hx x (by simp [hop, Op.operands])
          have hb : ∀ (l : Int) (K : Int → Prop), boundOf s lo l K = boundOf s' lo l K := fun l K => boundOf_congr (fun y hy => hx y (by subst hy; simp [hop, Op.operands]))
          have hb' : ∀ (l : Int) (K : Int → Prop), boundOf s hi l K = boundOf s' hi l K := fun l K => boundOf_congr (fun y hy => hx y (by subst hy; simp [hop, Op.operands]))
          simp only [stepOp, hop, hf', hE', ← e1, hx0, hd, ← hh, hob, ← hb, ← hb']
          refine l1 (fun l => boundOf s hi ob.es.length fun h => (l = 0 ∧ 0 ≤ h ∧ h ≤ ob.es.length) ∧ (ob.own = false ∧ ob.sz = esz) ∧ K' ((s'.newG g ⟨ob.ty, ob.sz, ob.es.take h.toNat, ob.own⟩).put d (.os g))) ?_
          refine u1 (fun h => (l = 0 ∧ 0 ≤ h ∧ h ≤ ob.es.length) ∧ (ob.own = false ∧ ob.sz = esz) ∧ K' ((s'.newG g ⟨ob.ty, ob.sz, ob.es.take h.toNat, ob.own⟩).put d (.os g))) ?_
          exact ⟨h0, h1, hk _ (by rw [hd]; exact .refl _)⟩
        · exact h.elim
      · exact h.elim
  case call c =>
    have hn : newId plan o = none := by simp [newId, hop]
    have hst : isStore o = false := by simp [isStore, hop]
    cases hcal : c.callee with
    | invoke r n => simp [hcal] at hf
    | builtin b =>
      cases b <;> first | (simp [hcal] at hf; done) | skip
      simp only [hcal] at h
      split at h
      · rename_i x y T T' d hargs htys hd
        obtain ⟨hT, h⟩ := h
        have hx1 : ∀ s' : St, (∀ z ∈ o.op.operands.toList, opnd s z = opnd s' z) → opnd s x = opnd s' x ∧ opnd s y = opnd s' y := by
          intro s' hx
          exact ⟨hx x (by simp [hop, Op.operands, Call.operands, hcal, hargs]), hx y (by simp [hop, Op.operands, Call.operands, hcal, hargs])⟩
        split at h
        · rename_i e esz eb z hE
          split at h
          · rename_i new hnew
            split at h
            · rename_i g hxg
              split at h
              · rename_i ob hob
                obtain ⟨h0, h⟩ := h
                refine oth hst hn (fun s0 => s0.newG g { ob with es := ob.es ++ new }) (.os g) (.newG (fun g0 e => by rw [e] at hto; simp only [touchOk, hop, hcal, hargs, hxg] at hto; simp only [Bool.not_eq_true'] at hto; exact Nat.ne_of_beq_eq_false hto) fun _ => rfl) (by rw [hd]; exact h) fun s' K' hx hh hk => ?_
                obtain ⟨e1, e2⟩ := hx1 s' hx
                simp only [stepOp, hop, hcal, hargs, htys, hd, hE, ← e1, ← e2, ← borrow_congr hh, ← hh, hnew, hxg, hob]
                exact ⟨hT, h0, hk _ (by rw [hd]; exact .refl _)⟩
              · exact h.elim
            · rename_i hxn
              obtain ⟨h0, h⟩ := h
              refine oth hst hn (fun s0 => s0.newG (match aget plan d with | some g => g | none => d) ⟨e, esz, new, false⟩) _ (.newG (fun g0 e => by rw [e] at hto; simp only [touchOk, hop, hcal, hargs, hxn, hd] at hto; simp only [Bool.not_eq_true'] at hto; exact Nat.ne_of_beq_eq_false hto) fun _ => rfl) (by rw [hd]; exact h) fun s' K' hx hh hk => ?_
              obtain ⟨e1, e2⟩ := hx1 s' hx
              simp only [stepOp, hop, hcal, hargs, htys, hd, hE, ← e1, ← e2, ← borrow_congr hh, ← hh, hnew, hxn]
              exact ⟨hT, h0, hk _ (by rw [hd]; exact .refl _)⟩
            · exact h.elim
          · exact h.elim
        · exact h.elim
      · exact h.elim
    | value f =>
      simp only [hcal] at h
      have hx0 : ∀ s' : St, (∀ z ∈ o.op.operands.toList, opnd s z = opnd s' z) → opnd s f = opnd s' f ∧ opnds s c.args.toList = opnds s' c.args.toList ∧ hand s c = hand s' c ∧ handX s c = handX s' c := by
        intro s' hx
        rw [hop] at hx
        refine ⟨hx f (by simp [hcal, Op.operands, Call.operands]), opnds_congr (fun x hx' => hx x (by simp [hcal, Op.operands, Call.operands] at hx' ⊢; simp [hx'])), hand_congr hx⟩
      have hnd : ∀ (g : Nat) (first caps : List PV), opnd s f = .fn (.func g) first caps → CallH H g (first ++ opnds s c.args.toList ++ caps) s o.dst K →
          ∃ τ v, Tau k0 τ ∧ K ((τ s).putO o.dst v) ∧ ∀ (s' : St) (K' : St → Prop), aget s.hp = aget s'.hp → (∀ t, SEqX t ((τ s').putO o.dst v) → K' t) → CallH H g (first ++ opnds s c.args.toList ++ caps) s' o.dst K' := by
        have hk0 : k0 = none := by
          cases k0 with
          | none => rfl
          | some g0 => simp [touchOk, hop, hcal] at hto
        rintro g first caps hfg ⟨hpi, r, hp', c0, c1, c2, c3⟩
        exact ⟨fun s0 => s0.handed hpi hp', _, (by rw [hk0]; exact .handed fun _ => rfl), c3, fun s' K' hh hk => ⟨hpi, r, hp', c0, subHp_congr hh c1, freshHp_congr hh hpi c2, hk _ (.refl _)⟩⟩
      have hvl : valOp E C o s (fun p => K (s.putO o.dst p)) → ∃ p, K (s.putO o.dst p) ∧ ∀ (s' : St) (K' : St → Prop), (∀ x ∈ o.op.operands.toList, opnd s x = opnd s' x) → aget s.hp = aget s'.hp → (∀ t, SEqX t (s'.putO o.dst p) → K' t) → valOp E C o s' (fun p => K' (s'.putO o.dst p)) := by
        intro hv
        obtain ⟨p, hy, hk⟩ := valOp_split hv
        refine ⟨p, hk, fun s' K' hx hh hk' => ?_⟩
        rw [← valOp_congr hx hh]
        exact hy _ (hk' _ (.refl _))
      split at h
      · rename_i hh1
        split at h
        · rename_i g first caps hfg
          obtain ⟨τ, v, t1, t2, t3⟩ := hnd g first caps hfg h
          refine oth hst hn τ v t1 t2 fun s' K' hx hh hk => ?_
          obtain ⟨e1, e2, e3, e4⟩ := hx0 s' hx
          simp only [stepOp, hop, hcal, ← e3, hh1, ← e1, hfg, ← e2]
          exact t3 s' K' hh hk
        · exact h.elim
      · rename_i hh1
        split at h
        · rename_i hh2
          split at h
          · rename_i g first caps hfg
            cases h with
            | val h =>
              have hv : valOp E C o s (fun p => K (s.putO o.dst p)) := by simp only [valOp, hop, hcal, hfg]; exact h
              obtain ⟨p, k1, k2⟩ := hvl hv
              refine oth hst hn (fun s0 => s0) p (.id fun _ => rfl) k1 fun s' K' hx hh hk => ?_
              have hxo : ∀ x ∈ o.op.operands.toList, opnd s x = opnd s' x := hx
              obtain ⟨e1, e2, e3, e4⟩ := hx0 s' hxo
              simp only [stepOp, hop, hcal, ← e3, hh1, ← e4, hh2, ← e1, hfg]
              have := k2 s' K' hxo hh hk
              simp only [valOp, hop, hcal, ← e1, hfg] at this
              exact .val this
            | hnd h =>
              obtain ⟨τ, v, t1, t2, t3⟩ := hnd g first caps hfg h
              refine oth hst hn τ v t1 t2 fun s' K' hx hh hk => ?_
              obtain ⟨e1, e2, e3, e4⟩ := hx0 s' hx
              simp only [stepOp, hop, hcal, ← e3, hh1, ← e4, hh2, ← e1, hfg]
              rw [← e2]
              exact .hnd (t3 s' K' hh hk)
          · exact h.elim
        · rename_i hh2
          obtain ⟨p, k1, k2⟩ := hvl h
          refine oth hst hn (fun s0 => s0) p (.id fun _ => rfl) k1 fun s' K' hx hh hk => ?_
          have hxo : ∀ x ∈ o.op.operands.toList, opnd s x = opnd s' x := hx
          obtain ⟨e1, e2, e3, e4⟩ := hx0 s' hxo
          simp only [stepOp, hop, hcal, ← e3, hh1, ← e4, hh2]
          exact k2 s' K' hxo hh hk
  all_goals exact absurd hf (by simp)

theorem borrow_solid {hp : List (Nat × GObj)} {p : PV} (h : solid p = true) : borrow hp p = p := by
  cases p <;> first | rfl | simp [solid] at h
theorem borrows_solid {hp : List (Nat × GObj)} : ∀ {l : List PV}, solids l = true → borrows hp l = l
  | [], _ => rfl
  | p :: r, h => by
    simp only [solids, Bool.and_eq_true] at h
    simp only [borrows]; rw [borrow_solid h.1, borrows_solid h.2]

theorem solids_append {l l' : List PV} : solids (l ++ l') = (solids l && solids l') := by
  induction l with
  | nil => simp [solids]
  | cons p l ih => simp [solids, ih, Bool.and_assoc]

/-- an operation that looks at no object -/
theorem valOp_free {s' : St} {o : Oper} {K : PV → Prop} (hf : hpFree o = true ∨ solids (opnds s o.op.operands.toList) = true) (h : ∀ x ∈ o.op.operands.toList, opnd s x = opnd s' x) : valOp E C o s K = valOp E C o s' K := by
  have h1 : valOp E C o s K = valOp E C o ⟨s.vs, s.ts, s'.hp⟩ K := by
    have ho : ∀ x, opnd ⟨s.vs, s.ts, s'.hp⟩ x = opnd s x := fun x => by cases x <;> rfl
    have hos : ∀ l, opnds ⟨s.vs, s.ts, s'.hp⟩ l = opnds s l := fun l => by induction l with
      | nil => rfl
      | cons x r ih => simp only [opnds, ho, ih]
    have hF : ∀ fs l z, fillF ⟨s.vs, s.ts, s'.hp⟩ fs l z = fillF s fs l z := fun fs l z => fillF_congr fun _ _ => ho _
    have hA : ∀ n e l z, fillA ⟨s.vs, s.ts, s'.hp⟩ n e l z = fillA s n e l z := fun n e l z => fillA_congr fun _ _ => ho _
    have hS : ∀ e l z, fillS ⟨s.vs, s.ts, s'.hp⟩ e l z = fillS s e l z := fun e l z => fillS_congr fun _ _ => ho _
    have hB : ∀ x d (K : Int → Prop), boundOf ⟨s.vs, s.ts, s'.hp⟩ x d K = boundOf s x d K := fun x d K => boundOf_congr fun _ _ => ho _
    cases hop : o.op <;> simp only [hop, hpFree, Op.operands] at hf <;> simp only [valOp, hop, ho, hos, hF, hA, hS, hB]
    case load T x =>
      have hx : solid (opnd s x) = true := by
        rcases hf with hf | hf
        · cases hf
        · exact solids_opnds hf x (by simp)
      cases hv : opnd s x <;> rw [hv] at hx <;> simp [solid] at hx <;> rfl
    case indexAddr T x i =>
      have hx : solid (opnd s x) = true := by
        rcases hf with hf | hf
        · cases hf
        · exact solids_opnds hf x (by simp)
      cases hv : opnd s x <;> rw [hv] at hx <;> simp [solid] at hx <;> (cases E T <;> first | rfl | (cases opnd s i <;> rfl))
    case slice T x lo hi mx =>
      cases mx with
      | some m => rfl
      | none => simp only [hB]
    case call c =>
      cases hcal : c.callee with
      | invoke r n => rfl
      | value f =>
        have hs : solids (opnds s (f :: c.args.toList)) = true := by
          rcases hf with hf | hf
          · cases hf
          · simpa [hcal, Call.operands] using hf
        simp only [opnds, solids, Bool.and_eq_true] at hs
        simp only
        split
        · rename_i g first caps hfv
          rw [hfv] at hs
          simp only [solid, Bool.and_eq_true] at hs
          have : solids (first ++ opnds s c.args.toList ++ caps) = true := by rw [solids_append, solids_append, hs.1.1, hs.2, hs.1.2]; rfl
          rw [borrows_solid this, borrows_solid this]
        · rfl
      | builtin b =>
        cases b <;> simp only []
        case len =>
          have hs : solids (opnds s c.args.toList) = true := by
            rcases hf with hf | hf
            · cases hf
            · simpa [hcal, Call.operands] using hf
          split
          · rename_i x T h1 h2
            have hx := solids_opnds hs x (by rw [h1]; simp)
            split
            · unfold lenVal
              cases hv : opnd s x <;> rw [hv] at hx <;> simp [solid] at hx <;> rfl
            · rfl
            · rfl
          · rfl
  rw [h1]
  exact valOp_congr h rfl
end
end Go.Proofs.Ytogehfalhodapaa.Pv
namespace Go.Proofs.Ytogehfalhodapaa.Pv
open Go
set_option linter.unusedSimpArgs false
set_option linter.unusedVariables false
set_option linter.unnecessarySimpa false

section
variable {ρ : Option Nat} {P : Program} {E : Env} {C : Ctr} {H : Hnd} {plan : List (Nat × Nat)} {w : World} {N : Cx} {s : St} {a : Act} {M : Mem} {F : Frm} {δ : Nat → Value}

/-- what one operation did in the order of the text; c: how free it is -/
structure DidX (ρ : Option Nat) (P : Program) (N : Cx) (F : Frm) (plan : List (Nat × Nat)) (ops : List Oper) (c : Nat) (o : Oper) (s : St) (τ : St → St) (v : PV) : Prop where
  tau : Tau (aget plan 400000) τ
  act : Act1 τ v (c = 2) (kindOf plan o)
  sol : c = 2 → isEff plan o = false → firm (aget plan 400000) v = true
  does : (GuardOn ops o s ∧ (c = 2 → ∀ x ∈ o.op.operands.toList, firm (aget plan 400000) (opnd s x) = true) ∧ ∀ s', (∀ x ∈ o.op.operands.toList, opnd s x = opnd s' x) → (c = 0 ∧ aget s.hp = aget s'.hp ∨ c ≠ 0 ∧ (isEff plan o = true → (newId plan o).isSome = true)) →
      ∀ a w M δ Q, Rel N s' a w M F δ → (∀ i, o.dst = some i → N.Ok i) → o.wpIn (FnR ρ) 0 P a w (GoodK N M F fun t => SEqX t ((τ s').putO o.dst v)) Q) ∨
    (GuardOff ops o s ∧ (∀ s, τ s = s) ∧ v = .tup [])

theorem Act1.imp {τ : St → St} {v : PV} {sol sol' : Prop} {k : Kd} (h : sol' → sol) (a : Act1 τ v sol k) : Act1 τ v sol' k := by
  cases a with
  | idl _ e he => exact .idl _ e he
  | val e => exact .val e
  | store h e => exact .store h e
  | new g o e c1 c2 => exact .new g o e (fun hc => c1 (h hc)) c2
  | oth => exact .oth

theorem looks_solid {c : Nat} {o : Oper} (h : looksOk plan c o s = true) : (c = 2 → ∀ x ∈ o.op.operands.toList, firm (aget plan 400000) (opnd s x) = true) ∧ (c ≠ 0 → hpFree o = true ∨ solids (opnds s o.op.operands.toList) = true) := by
  unfold looksOk at h
  constructor
  · intro h2 x hx
    subst h2
    simp only [Bool.or_eq_true, Bool.and_eq_true] at h
    rcases h with h | h
    · exact firm_solid (solids_opnds h x hx)
    · exact firms_opnds h.2.2 x hx
  · intro h0
    split at h
    · exact absurd rfl h0
    · simpa using h
    · simp only [Bool.or_eq_true, Bool.and_eq_true] at h
      rcases h with h | h
      · exact .inr h
      · exact .inl h.2.1

/-- the order of the text, operation by operation -/
theorem trace_ofD (hE : ∀ T, TDok P T (E T)) (hC : ∀ f as r, C f as r → FC P f as r) (hH : ∀ f as hp r hp', H f as hp r hp' → FH P f as hp r hp') {ops : List Oper} {gs ms : List Nat} {es : List (Nat × Bool)} {K : St → Prop} :
    ∀ (l : List Oper) (i : Nat) (s : St), wprD E C H plan ops gs ms es i l K s →
    ∃ (τ : Nat → St → St) (v : Nat → PV) (S : Nat → St) (sE : St), (∀ k, Tau (aget plan 400000) (τ k)) ∧ SEqX (S 0) s ∧ (∀ k o, l[k]? = some o → DidX ρ P N F plan ops (cls ms (i + k) es) o (S k) (τ k) (v k) ∧ SEqX (S (k + 1)) ((τ k (S k)).putO o.dst (v k))) ∧ K sE ∧ SEqX (S l.length) sE
  | [], i, s, h => ⟨fun _ s => s, fun _ => .junk, fun _ => s, s, fun _ => .id fun _ => rfl, .refl s, by simp, h, .refl s⟩
  | o :: r, i, s, h => by
    simp only [wprD] at h
    have next : ∀ (τ0 : St → St) (v0 : PV) (s1 : St), DidX ρ P N F plan ops (cls ms i es) o s τ0 v0 → SEqX s1 ((τ0 s).putO o.dst v0) → wprD E C H plan ops gs ms es (i + 1) r K s1 →
        ∃ (τ : Nat → St → St) (v : Nat → PV) (S : Nat → St) (sE : St), (∀ k, Tau (aget plan 400000) (τ k)) ∧ SEqX (S 0) s ∧ (∀ k o', (o :: r)[k]? = some o' → DidX ρ P N F plan ops (cls ms (i + k) es) o' (S k) (τ k) (v k) ∧ SEqX (S (k + 1)) ((τ k (S k)).putO o'.dst (v k))) ∧
          K sE ∧ SEqX (S (o :: r).length) sE := by
      intro τ0 v0 s1 hd hs h1
      obtain ⟨τ, v, S, sE, e0, e1, e2, e3, e4⟩ := trace_ofD hE hC hH r (i + 1) s1 h1
      refine ⟨fun k => match k with | 0 => τ0 | k + 1 => τ k, fun k => match k with | 0 => v0 | k + 1 => v k, fun k => match k with | 0 => s | k + 1 => S k, sE, fun k => (match k with | 0 => hd.tau | k + 1 => e0 k), .refl s, ?_, e3, e4⟩
      intro k o' hk
      cases k with
      | zero => simp at hk; subst hk; exact ⟨hd, e1.trans hs⟩
      | succ k =>
        have := e2 k o' (by simpa using hk)
        rw [show i + 1 + k = i + (k + 1) by omega] at this
        exact this
    have split : ∀ (s1 : St), (match gs.contains i with | true => splitB o.dst (wprD E C H plan ops gs ms es (i + 1) r K) s1 | false => wprD E C H plan ops gs ms es (i + 1) r K s1) → ∃ s2, SEqX s2 s1 ∧ wprD E C H plan ops gs ms es (i + 1) r K s2 := by
      intro s1 hk
      split at hk
      · unfold splitB at hk
        split at hk
        · rename_i d hdst
          split at hk
          · rename_i c hc
            cases c with
            | true =>
              refine ⟨_, ⟨fun j => ?_, by rw [St.put_hp]⟩, hk⟩
              rw [St.get_put]; split
              · rename_i e; subst e; rw [hc]
              · rfl
            | false =>
              refine ⟨_, ⟨fun j => ?_, by rw [St.put_hp]⟩, hk⟩
              rw [St.get_put]; split
              · rename_i e; subst e; rw [hc]
              · rfl
          · exact ⟨s1, .refl _, hk⟩
        · exact ⟨s1, .refl _, hk⟩
      · exact ⟨s1, .refl _, hk⟩
    rcases guarded_word h with ⟨hg, h⟩ | ⟨hg, h⟩
    · have hl : looksOk plan (cls ms i es) o s = true ∧ (match isEff plan o with
        | true => ifB (touchOk (aget plan 400000) plan o s) (stepOp E C H plan o (fun s' => match gs.contains i with | true => splitB o.dst (wprD E C H plan ops gs ms es (i + 1) r K) s' | false => wprD E C H plan ops gs ms es (i + 1) r K s') s)
        | false => valOp E C o s (fun p => ifB (resOk plan (cls ms i es) p) (match gs.contains i with | true => splitB o.dst (wprD E C H plan ops gs ms es (i + 1) r K) (s.putO o.dst p) | false => wprD E C H plan ops gs ms es (i + 1) r K (s.putO o.dst p)))) := by
        unfold ifB at h
        split at h
        · rename_i hb; exact ⟨hb, h⟩
        · exact h.elim
      obtain ⟨hl, h⟩ := hl
      obtain ⟨l1, l2⟩ := looks_solid hl
      cases heff : isEff plan o with
      | true =>
        simp only [heff] at h
        have hto : touchOk (aget plan 400000) plan o s = true ∧ stepOp E C H plan o (fun s' => match gs.contains i with | true => splitB o.dst (wprD E C H plan ops gs ms es (i + 1) r K) s' | false => wprD E C H plan ops gs ms es (i + 1) r K s') s := by
          unfold ifB at h
          split at h
          · rename_i hb; exact ⟨hb, h⟩
          · exact h.elim
        obtain ⟨hto, h⟩ := hto
        obtain ⟨τ, v, t1, t2, t3, t4⟩ := step_split hE heff _ hto h
        obtain ⟨s2, q1, q2⟩ := split _ t3
        refine next τ v s2 ⟨t1, t2.imp ?_, fun hc h0 => by simp [heff] at h0, .inl ⟨hg, l1, ?_⟩⟩ q1 q2
        · intro hc
          rw [hc] at hl
          unfold looksOk at hl
          simp only [heff, Bool.not_true, Bool.false_and, Bool.or_false] at hl
          exact hl
        · intro s' hx hh a w M δ Q hr hd
          refine stepOp_wp hE hC hH (t4 s' _ hx ?_ fun t ht => ht) hr hd
          rcases hh with ⟨_, hh⟩ | ⟨_, hh⟩
          · exact .inr hh
          · exact .inl (hh heff)
      | false =>
        simp only [heff] at h
        obtain ⟨p, hy, hk⟩ := valOp_split h
        have hp : resOk plan (cls ms i es) p = true ∧ (match gs.contains i with | true => splitB o.dst (wprD E C H plan ops gs ms es (i + 1) r K) (s.putO o.dst p) | false => wprD E C H plan ops gs ms es (i + 1) r K (s.putO o.dst p)) := by
          unfold ifB at hk
          split at hk
          · rename_i hb; exact ⟨hb, hk⟩
          · exact hk.elim
        obtain ⟨s2, q1, q2⟩ := split _ hp.2
        refine next (fun s => s) p s2 ⟨.id fun _ => rfl, ?_, fun hc _ => ?_, .inl ⟨hg, l1, ?_⟩⟩ q1 q2
        · unfold kindOf; rw [heff]; exact .val fun _ => rfl
        · have := hp.1; rw [hc] at this; exact this
        · intro s' hx hh a w M δ Q hr hd
          refine val_step hE hC (K := fun t => SEqX t (s'.putO o.dst p)) ?_ hr hd
          rcases hh with ⟨_, hh⟩ | ⟨h0, hh⟩
          · rw [← valOp_congr hx hh]
            exact hy _ (.refl _)
          · rw [← valOp_free (l2 h0) hx]
            exact hy _ (.refl _)
    · exact next (fun s => s) (.tup []) _ ⟨.id fun _ => rfl, .idl _ (fun _ => rfl) rfl, fun hc _ => rfl, .inr ⟨hg, fun _ => rfl, rfl⟩⟩ (.refl _) h

/-- the operations of X, carried out in the order of the text -/
def runT (τ : Nat → St → St) (v : Nat → PV) (ds : Nat → Option Nat) (X : Nat → Bool) (s0 : St) : Nat → St
  | 0 => s0
  | k + 1 => match X k with | true => (τ k (runT τ v ds X s0 k)).putO (ds k) (v k) | false => runT τ v ds X s0 k

section
variable {τ : Nat → St → St} {v : Nat → PV} {ds : Nat → Option Nat} {s0 : St}

theorem runT_congr {X Y : Nat → Bool} : ∀ {k : Nat}, (∀ j, j < k → X j = Y j) → runT τ v ds X s0 k = runT τ v ds Y s0 k
  | 0, _ => rfl
  | k + 1, h => by
    simp only [runT]
    rw [runT_congr (fun j hj => h j (by omega)), h k (by omega)]

/-- one more operation: it may come last -/
theorem runT_insert (hτ : ∀ k, Tau (aget plan 400000) (τ k)) {X : Nat → Bool} {i n : Nat} (hin : i < n) (hi : X i = false)
    (hc : ∀ k, i < k → k < n → X k = true → ∀ s, SEqX ((τ k ((τ i s).putO (ds i) (v i))).putO (ds k) (v k)) ((τ i ((τ k s).putO (ds k) (v k))).putO (ds i) (v i))) :
    ∀ k, i < k → k ≤ n → SEqX (runT τ v ds (fun j => decide (j = i) || X j) s0 k) ((τ i (runT τ v ds X s0 k)).putO (ds i) (v i))
  | 0, h, _ => absurd h (Nat.not_lt_zero _)
  | k + 1, h, hn => by
    simp only [runT]
    by_cases hk : k = i
    · subst hk
      simp only [decide_true, Bool.true_or, hi]
      rw [runT_congr (X := fun j => decide (j = k) || X j) (Y := X) (fun j hj => by simp [show j ≠ k by omega])]
      exact .refl _
    · have ih := runT_insert hτ hin hi hc k (by omega) (by omega)
      simp only [hk, decide_false, Bool.false_or]
      cases hX : X k with
      | false => exact ih
      | true => exact (((hτ k).seq ih).putO _ _).trans (hc k (by omega) (by omega) hX _)

/-- an operation sees the same, whether the operations that do not touch what it looks at have been done or not -/
theorem runT_view {X : Nat → Bool} {A : Nat → Bool} {R : Nat → Prop} (hτ : ∀ k, Tau (aget plan 400000) (τ k)) (hpq : Bool) :
    ∀ n, (∀ k, k < n → X k ≠ A k → (∀ s r, R r → (τ k s).get r = s.get r) ∧ (∀ r, R r → ds k ≠ some r) ∧ (hpq = true → ∀ s, aget (τ k s).hp = aget s.hp)) →
      (∀ r, R r → (runT τ v ds X s0 n).get r = (runT τ v ds A s0 n).get r) ∧ (hpq = true → aget (runT τ v ds X s0 n).hp = aget (runT τ v ds A s0 n).hp)
  | 0, _ => ⟨fun _ _ => rfl, fun _ => rfl⟩
  | k + 1, h => by
    obtain ⟨i1, i2⟩ := runT_view hτ hpq k (fun j hj => h j (by omega))
    simp only [runT]
    by_cases hXA : X k = A k
    · rw [← hXA]
      cases X k with
      | false => exact ⟨i1, i2⟩
      | true =>
        refine ⟨fun r hr => ?_, fun hp => ?_⟩
        · rw [get_putO, get_putO]
          split
          · rfl
          · exact (hτ k).cg _ _ _ (i1 r hr)
        · rw [St.putO_hp, St.putO_hp]
          exact (hτ k).ch _ _ (i2 hp)
    · obtain ⟨h1, h2, h3⟩ := h k (by omega) hXA
      have key : ∀ s, (∀ r, R r → ((τ k s).putO (ds k) (v k)).get r = s.get r) ∧ (hpq = true → aget ((τ k s).putO (ds k) (v k)).hp = aget s.hp) := by
        intro s
        refine ⟨fun r hr => ?_, fun hp => ?_⟩
        · rw [get_putO, if_neg (h2 r hr)]; exact h1 s r hr
        · rw [St.putO_hp]; exact h3 hp s
      cases hX : X k <;> cases hA : A k
      · exact absurd (hX.trans hA.symm) hXA
      · refine ⟨fun r hr => ?_, fun hp => ?_⟩
        · rw [(key _).1 r hr]; exact i1 r hr
        · rw [(key _).2 hp]; exact i2 hp
      · refine ⟨fun r hr => ?_, fun hp => ?_⟩
        · rw [(key _).1 r hr]; exact i1 r hr
        · rw [(key _).2 hp]; exact i2 hp
      · exact absurd (hX.trans hA.symm) hXA

/-- a value without unknowns stays as long as nobody writes its slot -/
theorem runT_solid {X : Nat → Bool} (hτ : ∀ k, Tau (aget plan 400000) (τ k)) {r : Nat} {p : PV} (hp : firm (aget plan 400000) p = true) {k : Nat} (h0 : (runT τ v ds X s0 k).get r = p) :
    ∀ n, k ≤ n → (∀ m, k ≤ m → m < n → X m = true → ds m ≠ some r) → (runT τ v ds X s0 n).get r = p
  | 0, hle, _ => by have : k = 0 := by omega
                    subst this; exact h0
  | n + 1, hle, hw => by
    by_cases hk : k = n + 1
    · subst hk; exact h0
    · have ih := runT_solid hτ hp h0 n (by omega) (fun m h1 h2 => hw m h1 (by omega))
      simp only [runT]
      cases hX : X n with
      | false => exact ih
      | true =>
        rw [get_putO, if_neg (hw n (by omega) (by omega) hX)]
        rw [(hτ n).get _ r (.inl (by rw [ih]; exact hp))]
        exact ih

/-- and it was there ahead -/
theorem runT_solid_back {X : Nat → Bool} (hτ : ∀ k, Tau (aget plan 400000) (τ k)) {r : Nat} {p : PV} (hp : firm (aget plan 400000) p = true) {k : Nat} :
    ∀ n, k ≤ n → (runT τ v ds X s0 n).get r = p → (∀ m, k ≤ m → m < n → X m = true → ds m ≠ some r) → (runT τ v ds X s0 k).get r = p
  | 0, hle, h, _ => by have : k = 0 := by omega
                       subst this; exact h
  | n + 1, hle, h, hw => by
    by_cases hk : k = n + 1
    · subst hk; exact h
    · refine runT_solid_back hτ hp n (by omega) ?_ (fun m h1 h2 => hw m h1 (by omega))
      simp only [runT] at h
      cases hX : X n with
      | false => rw [hX] at h; exact h
      | true =>
        rw [hX] at h
        simp only at h
        rw [get_putO, if_neg (hw n (by omega) (by omega) hX)] at h
        rw [← (hτ n).get _ r (.inr (by rw [h]; exact hp))]
        exact h
theorem runT_none : ∀ n, runT τ v ds (fun _ => false) s0 n = s0
  | 0 => rfl
  | n + 1 => by simp only [runT]; exact runT_none n

/-- the order of the text -/
theorem runT_text {S : Nat → St} {n : Nat} (hτ : ∀ k, Tau (aget plan 400000) (τ k)) (h0 : SEqX (S 0) s0) (h1 : ∀ k, k < n → SEqX (S (k + 1)) ((τ k (S k)).putO (ds k) (v k))) {i : Nat} (hi : i ≤ n) :
    ∀ k, (k ≤ i → SEqX (runT τ v ds (fun j => decide (j < i)) s0 k) (S k)) ∧ (i ≤ k → SEqX (runT τ v ds (fun j => decide (j < i)) s0 k) (S i))
  | 0 => ⟨fun _ => h0.symm, fun h => by have : i = 0 := by omega
                                        subst this; exact h0.symm⟩
  | k + 1 => by
    obtain ⟨i1, i2⟩ := runT_text hτ h0 h1 hi k
    have a1 : k + 1 ≤ i → SEqX (runT τ v ds (fun j => decide (j < i)) s0 (k + 1)) (S (k + 1)) := by
      intro h
      simp only [runT]
      rw [show decide (k < i) = true by simp; omega]
      exact (((hτ k).seq (i1 (by omega))).putO _ _).trans (h1 k (by omega)).symm
    refine ⟨a1, fun h => ?_⟩
    by_cases hk : i = k + 1
    · subst hk; exact a1 (Nat.le_refl _)
    · simp only [runT]
      rw [show decide (k < i) = false by simp; omega]
      exact i2 (by omega)
end

theorem cls_zero_of {ms : List Nat} {i : Nat} : ∀ {es : List (Nat × Bool)}, (∀ e st, (e, st) ∈ es → e = i ∨ ordB ms i e = true) → cls ms i es = 0
  | [], _ => rfl
  | (e', st') :: r, h => by
    simp only [cls]
    have : (Nat.beq e' i || ordB ms i e') = true := by
      rcases h e' st' (by simp) with h | h
      · simp [h]
      · simp [h]
    rw [this]
    exact cls_zero_of fun e st he => h e st (by simp [he])

theorem ordB_comm (ms : List Nat) (i j : Nat) : ordB ms i j = ordB ms j i := by unfold ordB; exact Bool.or_comm _ _

theorem effOk_at {ops : List Oper} (h : effOk plan ops = true) {i j : Nat} {o o' : Oper} (hi : ops[i]? = some o) (hj : ops[j]? = some o') (ei : isEff plan o = true) (ej : isEff plan o' = true) (hne : i ≠ j) (hu : ordB (ancs ops) i j = false) :
    ∃ g g', newId plan o = some g ∧ newId plan o' = some g' ∧ g ≠ g' := by
  unfold effOk at h
  rw [List.all_eq_true] at h
  have h1 := h _ (effList_mem (i := 0) hi ei)
  rw [List.all_eq_true] at h1
  have h2 := h1 _ (effList_mem (i := 0) hj ej)
  simp only [Nat.zero_add, effPair, hi, hj, hu, Bool.or_false, Bool.or_eq_true, Nat.beq_eq] at h2
  rcases h2 with h2 | h2
  · exact absurd h2 hne
  · split at h2
    · rename_i g g' e1 e2
      refine ⟨g, g', e1, e2, fun e => ?_⟩
      subst e
      simp at h2
    · cases h2

theorem newId_kind {o : Oper} {g : Nat} (he : isEff plan o = true) (h : newId plan o = some g) : kindOf plan o = .new g ∧ isStore o = false := by
  have hs : isStore o = false := by
    unfold isStore
    unfold newId at h
    split
    · rename_i e; rw [e] at h; cases h
    · rfl
  exact ⟨by unfold kindOf; rw [he, hs, h], hs⟩

theorem drawnE_wp {ops : Array Oper} (hok : drawOk ops = true) (hef : effOk plan ops.toList = true) (hdst : ∀ o ∈ ops.toList, dstOk N.n N.ro o = true) {K : St → Prop} {s0 : St} {M0 : Mem}
    {Q : Exit → Act → World → Prop} (hQ : ∀ a w, GoodK N M0 F K a w → Q .normal a w) {τ : Nat → St → St} {v : Nat → PV} {S : Nat → St} {sE : St} (hτ : ∀ k, Tau (aget plan 400000) (τ k)) (h0 : SEqX (S 0) s0)
    (h1 : ∀ k o, ops.toList[k]? = some o → DidX ρ P N F plan ops.toList (cls (ancs ops.toList) k (effList plan 0 ops.toList)) o (S k) (τ k) (v k) ∧ SEqX (S (k + 1)) ((τ k (S k)).putO o.dst (v k))) (hK : K sE) (hE' : SEqX (S ops.size) sE) :
    ∀ (fuel : Nat) (listed : Array Bool) (a : Act) (w : World) (s : St) (M : Mem) (δ : Nat → Value), listed.size = ops.size → Rel N s a w M F δ → M0.le M → SEqX s (runT τ v (opDst ops.toList) (fun j => listed.getD j false) s0 ops.size) →
      (∀ j o e, ops[j]? = some o → listed.getD j false = true → e ∈ o.after → Region.binds .any e = true → listed.getD e.on false = true) → (∀ j, listed.getD j false = true → j < ops.size) →
      (listed.toList.filter (! ·)).length ≤ fuel → wpAnyIn (FnR ρ) 0 P .any ops Q fuel listed a w := by
  have hdk : ∀ k o, ops[k]? = some o → opDst ops.toList k = o.dst := fun k o hk => by unfold opDst; rw [show ops.toList[k]? = some o by simpa using hk]
  have h1' : ∀ k, k < ops.size → SEqX (S (k + 1)) ((τ k (S k)).putO (opDst ops.toList k) (v k)) := by
    intro k hk
    have ho : ops[k]? = some ops[k] := by simp [hk]
    rw [hdk k _ ho]
    exact (h1 k _ (by simpa using ho)).2
  have relX : ∀ {s s' : St} {a : Act} {w : World} {M : Mem} {δ : Nat → Value}, Rel N s a w M F δ → SEqX s s' → Rel N s' a w M F δ := by
    intro s s' a w M δ h he
    refine ⟨h.def0, h.size, h.ro, fun i => by rw [← he.1]; exact h.slot i, ⟨h.inv.m, h.inv.f, h.inv.mf, h.inv.io, ?_, ?_⟩⟩
    · intro g o hg; rw [← he.2] at hg; exact h.inv.own g o hg
    · intro g g' o o' hne hg hg'; rw [← he.2] at hg hg'; exact h.inv.dis g g' o o' hne hg hg'
  have hend : ∀ (listed : Array Bool) (a : Act) (w : World) (s : St) (M : Mem) (δ : Nat → Value), listed.size = ops.size → Rel N s a w M F δ → M0.le M → SEqX s (runT τ v (opDst ops.toList) (fun j => listed.getD j false) s0 ops.size) →
      Region.ready .any ops listed = [] → Q .normal a w := by
    intro listed a w s M δ hs hr hm hag hready
    have hall : ∀ j, j < ops.size → listed.getD j false = true := by
      intro j
      induction j using Nat.strongRecOn with
      | ind j ih =>
        intro hj
        cases hl : listed.getD j false with
        | true => rfl
        | false =>
          exfalso
          have hm : j ∈ Region.ready .any ops listed := by
            refine mem_ready.2 ⟨?_, ops[j], by simp [hj], fun e he hb => ?_⟩
            · have : j < listed.size := by omega
              simpa [Array.getD_eq_getD_getElem?, this] using hl
            · have hlt := (drawOk_at hok (i := j) (o := ops[j]) (by simp [hj])).1 e he hb
              exact ih e.on hlt (by omega)
          rw [hready] at hm
          cases hm
    rw [runT_congr (Y := fun j => decide (j < ops.size)) (fun j hj => by rw [hall j hj]; simp [hj])] at hag
    have := (runT_text (n := ops.size) hτ h0 h1' (Nat.le_refl _) ops.size).1 (Nat.le_refl _)
    exact hQ a w ⟨sE, M, δ, hK, hm, relX hr ((hag.trans this).trans hE')⟩
  intro fuel
  induction fuel with
  | zero =>
    intro listed a w s M δ hs hr hm hag hcl hlt hf
    have hempty : Region.ready .any ops listed = [] := by
      apply List.eq_nil_iff_forall_not_mem.2
      intro i hi
      obtain ⟨e1, o, e2, _⟩ := mem_ready.1 hi
      have hil : i < listed.size := by rw [hs]; exact (Array.getElem?_eq_some_iff.1 e2).1
      have hmem : listed[i] ∈ listed.toList.filter (! ·) := by
        refine List.mem_filter.2 ⟨by simp, ?_⟩
        simpa [Array.getD_eq_getD_getElem?, hil] using e1
      have : listed.toList.filter (! ·) = [] := List.eq_nil_of_length_eq_zero (by omega)
      rw [this] at hmem
      cases hmem
    exact ⟨hempty, hend listed a w s M δ hs hr hm hag hempty⟩
  | succ fuel ih =>
    intro listed a w s M δ hs hr hm hag hcl hlt hf
    refine ⟨fun h => hend listed a w s M δ hs hr hm hag h, ?_⟩
    intro i hi
    obtain ⟨hun, o, ho, hpred⟩ := mem_ready.1 hi
    have hilt : i < ops.size := (Array.getElem?_eq_some_iff.1 ho).1
    have hil : i < listed.size := by rw [hs]; exact hilt
    have hun' : listed.getD i false = false := by simpa [Array.getD_eq_getD_getElem?, hil] using hun
    have hot : ops.toList[i]? = some o := by simpa using ho
    obtain ⟨did, _⟩ := h1 i o hot
    let X : Nat → Bool := fun j => listed.getD j false
    have hXi : X i = false := hun'
    have htext := (runT_text (n := ops.size) hτ h0 h1' (i := i) (by omega) ops.size).2 (by omega)
    -- who stands in no order to i
    have hunord : ∀ k, k < ops.size → X k ≠ decide (k < i) → k ≠ i ∧ ordB (ancs ops.toList) i k = false := by
      intro k hk hX
      have hki : k ≠ i := by intro e; subst e; exact hX (by rw [hXi]; simp)
      refine ⟨hki, ?_⟩
      have hok' : ops[k]? = some ops[k] := by simp [hk]
      have low : ∀ (x y : Nat) (o' : Oper), ops[x]? = some o' → (nthN (ancs ops.toList) x).testBit y = true → y < x := by
        intro x y o' ho' hb
        refine ancs_closed hok (X := fun j => j < x) ?_ x o' ho' (fun e he hb => (drawOk_at hok ho').1 e he hb) hb
        intro j o2 e hj hjx he hb
        have := (drawOk_at hok hj).1 e he hb
        omega
      unfold ordB
      rw [Bool.or_eq_false_iff]
      constructor
      · cases hb : (nthN (ancs ops.toList) i).testBit k with
        | false => rfl
        | true =>
          have h2 := low i k o ho hb
          have h3 : X k = true := ancs_closed hok (X := fun j => X j = true) (fun j o e hj hx he hb => hcl j o e hj hx he hb) i o ho (fun e he hb => hpred e he hb) hb
          exact absurd (h3.trans (by simp [h2])) hX
      · cases hb : (nthN (ancs ops.toList) k).testBit i with
        | false => rfl
        | true =>
          have h2 := low k i _ hok' hb
          have h3 : X k = true := by
            cases hxk : X k with
            | true => rfl
            | false => exact absurd (hxk.trans (by simp; omega)) hX
          have h4 : X i = true := ancs_closed hok (X := fun j => X j = true) (fun j o e hj hx he hb => hcl j o e hj hx he hb) k _ hok' (fun e he hb => hcl k _ e hok' h3 he hb) hb
          rw [hXi] at h4; cases h4
    -- nobody whose turn is open writes what i looks at
    have hwr : ∀ k, k < ops.size → X k ≠ decide (k < i) → ∀ r, r ∈ o.looksAt ops → opDst ops.toList k ≠ some r := by
      intro k hk hX r hr hd
      have hki := (hunord k hk hX).1
      have hok' : ops[k]? = some ops[k] := by simp [hk]
      rw [hdk k _ hok'] at hd
      have hrel := ((drawOk_at hok ho).2 k _ r hok' hd).2 hr (Ne.symm hki)
      rcases Nat.lt_or_gt_of_ne hki with h | h
      · have := edge_listed hi ho (hrel.1 h)
        exact hX (by show listed.getD k false = _; rw [this]; simp [h])
      · have hedge := hrel.2 h
        have h3 : X k = true := by
          cases hxk : X k with
          | true => rfl
          | false => exact absurd (hxk.trans (by simp; omega)) hX
        unfold edgeOn at hedge
        rw [List.any_eq_true] at hedge
        obtain ⟨e, he1, he2⟩ := hedge
        simp only [Bool.and_eq_true, beq_iff_eq] at he2
        have := hcl k _ e hok' h3 (by simpa using he1) he2.1
        rw [he2.2, hun'] at this
        cases this
    have huniq : ∀ k k' r, opDst ops.toList k = some r → opDst ops.toList k' = some r → k = k' := by
      intro k k' r hk hk'
      have g : ∀ k, opDst ops.toList k = some r → ∃ o', ops[k]? = some o' ∧ o'.dst = some r := by
        intro k hk
        unfold opDst at hk
        split at hk
        · rename_i o' ho'; exact ⟨o', by simpa using ho', hk⟩
        · cases hk
      obtain ⟨o1, q1, q2⟩ := g k hk
      obtain ⟨o2, q3, q4⟩ := g k' hk'
      rcases Nat.decEq k k' with hne | he
      · exact absurd q2 (((drawOk_at hok q1).2 k' o2 r q3 q4).1 hne)
      · exact he
    -- a slot without unknowns
    have hsolid : ∀ r, r ∈ o.looksAt ops → firm (aget plan 400000) ((S i).get r) = true → s.get r = (S i).get r := by
      intro r hr hsol
      rw [hag.1]
      have hA : (runT τ v (opDst ops.toList) (fun j => decide (j < i)) s0 ops.size).get r = (S i).get r := htext.1 r
      by_cases hex : ∃ j, j < i ∧ opDst ops.toList j = some r
      · obtain ⟨j, hj, hjd⟩ := hex
        have hXj : X j = true := by
          cases hxj : X j with
          | true => rfl
          | false => exact absurd hjd (hwr j (by omega) (by rw [hxj]; simp [hj]) r hr)
        have hb := runT_solid_back (k := j + 1) hτ hsol ops.size (by omega) hA (fun m h1 h2 _ hm => by have := huniq m j r hm hjd; omega)
        have hv : v j = (S i).get r := by
          rw [← hb]
          simp only [runT]
          rw [show decide (j < i) = true by simp [hj]]
          rw [get_putO, if_pos hjd]
        refine runT_solid (k := j + 1) hτ hsol ?_ ops.size (by omega) (fun m h1 h2 _ hm => by have := huniq m j r hm hjd; omega)
        simp only [runT]
        rw [show listed.getD j false = true from hXj]
        simp only
        rw [get_putO, if_pos hjd, hv]
      · have hb := runT_solid_back (k := 0) hτ hsol ops.size (by omega) hA (fun m h1 h2 h3 hm => hex ⟨m, by simpa using h3, hm⟩)
        refine runT_solid (X := fun j => listed.getD j false) (k := 0) hτ hsol (show (runT τ v (opDst ops.toList) (fun j => listed.getD j false) s0 0).get r = (S i).get r from hb) ops.size (by omega) (fun m h1 h2 h3 hm => ?_)
        by_cases hmi : m < i
        · exact hex ⟨m, hmi, hm⟩
        · exact hwr m h2 (by show listed.getD m false ≠ _; rw [h3]; simp; omega) r hr hm
    -- all slots, and the objects
    have hclass : ∀ k, k < ops.size → X k ≠ decide (k < i) → ∀ ok, ops[k]? = some ok → isEff plan ok = true →
        cls (ancs ops.toList) i (effList plan 0 ops.toList) ≠ 0 ∧ (cls (ancs ops.toList) i (effList plan 0 ops.toList) ≠ 2 → isStore ok = true) := by
      intro k hk hX ok hok' he
      obtain ⟨hki, hu⟩ := hunord k hk hX
      have hmem := effList_mem (plan := plan) (l := ops.toList) (i := 0) (j := k) (by simpa using hok') he
      rw [Nat.zero_add] at hmem
      constructor
      · intro hz
        rcases cls_zero hz k _ hmem with h | h
        · exact hki h
        · rw [hu] at h; cases h
      · intro h2
        cases hst : isStore ok with
        | true => rfl
        | false =>
          rw [hst] at hmem
          rcases cls_two h2 k hmem with h | h
          · exact absurd h hki
          · rw [hu] at h; cases h
    have hview : cls (ancs ops.toList) i (effList plan 0 ops.toList) ≠ 2 → (∀ r, r ∈ o.looksAt ops → s.get r = (S i).get r) ∧ (cls (ancs ops.toList) i (effList plan 0 ops.toList) = 0 → aget s.hp = aget (S i).hp) := by
      intro h2
      have := runT_view (τ := τ) (v := v) (ds := opDst ops.toList) (s0 := s0) (X := X) (A := fun j => decide (j < i)) (R := fun r => r ∈ o.looksAt ops) hτ (decide (cls (ancs ops.toList) i (effList plan 0 ops.toList) = 0)) ops.size (by
        intro k hk hX
        have hok' : ops[k]? = some ops[k] := by simp [hk]
        obtain ⟨didk, _⟩ := h1 k _ (by rw [Array.getElem?_toList]; exact hok')
        have hka := didk.act
        refine ⟨?_, fun r hr => hwr k hk hX r hr, ?_⟩
        · intro s r hr
          cases he : isEff plan ops[k] with
          | false =>
            have : kindOf plan ops[k] = .val := by unfold kindOf; rw [he]
            rw [this] at hka
            cases hka with
            | idl _ e _ => rw [e]
            | val e => rw [e]
          | true =>
            have hst := (hclass k hk hX _ hok' he).2 h2
            have : kindOf plan ops[k] = .store := by unfold kindOf; rw [he, hst]
            rw [this] at hka
            cases hka with
            | idl _ e _ => rw [e]
            | store h e => rw [e]; rfl
        · intro hz s
          have hz' := of_decide_eq_true hz
          cases he : isEff plan ops[k] with
          | false =>
            have : kindOf plan ops[k] = .val := by unfold kindOf; rw [he]
            rw [this] at hka
            cases hka with
            | idl _ e _ => rw [e]
            | val e => rw [e]
          | true => exact absurd hz' (hclass k hk hX _ hok' he).1)
      refine ⟨fun r hr => ?_, fun hz => ?_⟩
      · rw [hag.1, ← htext.1]; exact this.1 r hr
      · rw [hag.2, ← htext.2]; exact this.2 (by simp [hz])
    have hmemop : ∀ t, Operand.tmp t ∈ o.op.operands.toList → t ∈ o.looksAt ops := by
      intro t ht
      unfold Oper.looksAt
      refine List.mem_append.2 (.inl ?_)
      rw [List.mem_filterMap]
      exact ⟨_, ht, rfl⟩
    have hmemg : ∀ j b d, o.guard = some (j, b) → opDst ops.toList j = some d → d ∈ o.looksAt ops := by
      intro j b d hg hd
      unfold Oper.looksAt
      refine List.mem_append.2 (.inr ?_)
      simp only [hg]
      unfold opDst at hd
      split at hd
      · rename_i o' ho'
        have : ops[j]? = some o' := by simpa using ho'
        simp [this, hd]
      · cases hd
    have hd : ∀ d, o.dst = some d → N.Ok d := by
      intro d hdd
      have := hdst o (List.mem_of_getElem? hot)
      simp only [dstOk, hdd, Bool.and_eq_true, decide_eq_true_eq, Bool.not_eq_true'] at this
      exact this
    have hsize : (listed.setIfInBounds i true).size = ops.size := by simpa using hs
    have hgetD : ∀ j, (listed.setIfInBounds i true).getD j false = true ↔ j = i ∨ listed.getD j false = true := by
      intro j
      by_cases hj : j = i
      · subst hj; simp [Array.getD_eq_getD_getElem?, hil]
      · simp [Array.getD_eq_getD_getElem?, Array.getElem?_setIfInBounds, Ne.symm hj, hj]
    have hgetB : ∀ j, (listed.setIfInBounds i true).getD j false = (decide (j = i) || listed.getD j false) := by
      intro j
      rw [Bool.eq_iff_iff, hgetD j]
      simp
    have hcount : ((listed.setIfInBounds i true).toList.filter (! ·)).length ≤ fuel := by
      have key : ∀ (l : List Bool) (i : Nat), l[i]? = some false → ((l.set i true).filter (! ·)).length + 1 = (l.filter (! ·)).length := by
        intro l
        induction l with
        | nil => intro i h; simp at h
        | cons b l ih =>
          intro i h
          cases i with
          | zero => simp at h; subst h; simp
          | succ i =>
            have := ih i (by simpa using h)
            cases b <;> simp [this] <;> omega
      have := key listed.toList i (by
        have : listed[i]? = some false := by
          have := hun'
          simp only [Array.getD_eq_getD_getElem?, Array.getElem?_eq_getElem hil, Option.getD_some] at this
          rw [Array.getElem?_eq_getElem hil, this]
        simpa using this)
      simp only [Array.toList_setIfInBounds]
      omega
    have hcl' : ∀ j o e, ops[j]? = some o → (listed.setIfInBounds i true).getD j false = true → e ∈ o.after → Region.binds .any e = true → (listed.setIfInBounds i true).getD e.on false = true := by
      intro j o2 e hoj hj he hb
      rw [hgetD]
      rcases (hgetD j).1 hj with rfl | hj
      · rw [ho] at hoj; cases hoj
        exact .inr (hpred e he hb)
      · exact .inr (hcl j o2 e hoj hj he hb)
    have hlt' : ∀ j, (listed.setIfInBounds i true).getD j false = true → j < ops.size := by
      intro j hj
      rcases (hgetD j).1 hj with rfl | hj
      · exact hilt
      · exact hlt j hj
    have hcomm : ∀ k, i < k → k < ops.size → X k = true → ∀ s, SEqX ((τ k ((τ i s).putO (opDst ops.toList i) (v i))).putO (opDst ops.toList k) (v k)) ((τ i ((τ k s).putO (opDst ops.toList k) (v k))).putO (opDst ops.toList i) (v i)) := by
      intro k hik hk hXk
      have hX : X k ≠ decide (k < i) := by rw [hXk]; simp; omega
      obtain ⟨hki, hu⟩ := hunord k hk hX
      have hok' : ops[k]? = some ops[k] := by simp [hk]
      obtain ⟨didk, _⟩ := h1 k _ (by rw [Array.getElem?_toList]; exact hok')
      have hu' : ordB (ancs ops.toList) k i = false := by rw [ordB_comm]; exact hu
      have hck : isEff plan o = true → isStore o = false → cls (ancs ops.toList) k (effList plan 0 ops.toList) = 2 := by
        intro he hst
        have hmem := effList_mem (plan := plan) (l := ops.toList) (i := 0) (j := i) hot he
        rw [Nat.zero_add, hst] at hmem
        rcases Nat.decEq (cls (ancs ops.toList) k (effList plan 0 ops.toList)) 2 with hne | h
        · rcases cls_two hne i hmem with h | h
          · exact absurd h (Ne.symm hki)
          · rw [hu'] at h; cases h
        · exact h
      have hci : isEff plan ops[k] = true → isStore ops[k] = false → cls (ancs ops.toList) i (effList plan 0 ops.toList) = 2 := by
        intro he hst
        rcases Nat.decEq (cls (ancs ops.toList) i (effList plan 0 ops.toList)) 2 with hne | h
        · have := (hclass k hk hX _ hok' he).2 hne
          rw [hst] at this; cases this
        · exact h
      refine comm_acts (hτ k) (hτ i) didk.act did.act ?_ ?_ ?_
      · cases ek : isEff plan ops[k] with
        | false =>
          have k1 : kindOf plan ops[k] = .val := by unfold kindOf; rw [ek]
          rw [k1]
          cases ei : isEff plan o with
          | false =>
            have k2 : kindOf plan o = .val := by unfold kindOf; rw [ei]
            rw [k2]; trivial
          | true =>
            cases hst : isStore o with
            | true =>
              have k2 : kindOf plan o = .store := by unfold kindOf; rw [ei, hst]
              rw [k2]; trivial
            | false =>
              have := didk.sol (hck ei hst) ek
              unfold kindOf
              rw [ei, hst]
              cases newId plan o <;> exact this
        | true =>
          cases ei : isEff plan o with
          | false =>
            have k2 : kindOf plan o = .val := by unfold kindOf; rw [ei]
            rw [k2]
            cases hst : isStore ops[k] with
            | true =>
              have k1 : kindOf plan ops[k] = .store := by unfold kindOf; rw [ek, hst]
              rw [k1]; trivial
            | false =>
              have := did.sol (hci ek hst) ei
              unfold kindOf
              rw [ek, hst]
              cases newId plan ops[k] <;> exact this
          | true =>
            obtain ⟨g, g', n1, n2, hne⟩ := effOk_at hef (by simpa using hok') hot ek ei hki hu'
            rw [(newId_kind ek n1).1, (newId_kind ei n2).1]
            exact hne
      · rintro ⟨g, g', e1, e2⟩
        have kk : ∀ (o : Oper) (g : Nat), kindOf plan o = .new g → isEff plan o = true ∧ isStore o = false := by
          intro o g h
          unfold kindOf at h
          split at h
          · cases h
          · rename_i he
            split at h
            · cases h
            · rename_i hst; exact ⟨he, hst⟩
        obtain ⟨a1, a2⟩ := kk _ _ e1
        obtain ⟨a3, a4⟩ := kk _ _ e2
        exact ⟨hck a3 a4, hci a1 a2⟩
      · intro d h1 h2
        exact hki (huniq k i d h1 h2)
    have hagree : ∀ (s' : St), SEqX s' ((τ i s).putO o.dst (v i)) → SEqX s' (runT τ v (opDst ops.toList) (fun j => (listed.setIfInBounds i true).getD j false) s0 ops.size) := by
      intro s' hse
      rw [runT_congr (Y := fun j => decide (j = i) || X j) (fun j _ => hgetB j)]
      have h2 := runT_insert (v := v) (ds := opDst ops.toList) (s0 := s0) hτ hilt hXi hcomm ops.size hilt (Nat.le_refl _)
      refine hse.trans (SEqX.trans ?_ h2.symm)
      rw [hdk i o ho]
      exact ((hτ i).seq hag).putO _ _
    unfold wpOpIn
    simp only [ho]
    rcases did.does with ⟨hg, hsol, hrun⟩ | ⟨hg, hid, hq⟩
    · have hg' : GuardOn ops.toList o s := by
        rcases hg with hg | ⟨j, b, d, e1, e2, e3⟩
        · exact .inl hg
        · exact .inr ⟨j, b, d, e1, e2, by rw [hsolid d (hmemg j b d e1 e2) (by rw [e3]; rfl)]; exact e3⟩
      rw [if_pos (hg'.wanted hr)]
      have hoper : ∀ x ∈ o.op.operands.toList, opnd (S i) x = opnd s x := by
        intro x hx
        refine opnd_congr (fun t ht => ?_)
        subst ht
        by_cases h2 : cls (ancs ops.toList) i (effList plan 0 ops.toList) = 2
        · exact (hsolid t (hmemop t hx) (hsol h2 _ hx)).symm
        · exact ((hview h2).1 t (hmemop t hx)).symm
      refine Oper.wpIn_mono ?_ (hrun s hoper ?_ a w M δ Q hr hd)
      · rintro a' w' ⟨s', M', δ', hse, hm', hr'⟩
        exact ih _ a' w' s' M' δ' hsize hr' (Mem.le_trans hm hm') (hagree _ hse) hcl' hlt' hcount
      · by_cases hz : cls (ancs ops.toList) i (effList plan 0 ops.toList) = 0
        · exact .inl ⟨hz, ((hview (by omega)).2 hz).symm⟩
        · refine .inr ⟨hz, fun he => ?_⟩
          cases hn : newId plan o with
          | some g => rfl
          | none =>
            exfalso
            refine hz (cls_zero_of fun e st hes => ?_)
            unfold effOk at hef
            rw [List.all_eq_true] at hef
            have h1 := hef _ (effList_mem (i := 0) hot he)
            rw [List.all_eq_true] at h1
            have h2 := h1 _ hes
            simp only [Nat.zero_add] at h2
            cases hje : ops.toList[e]? with
            | none =>
              simp [effPair, hje] at h2
              rcases h2 with h2 | h2
              · exact .inl h2.symm
              · exact .inr h2
            | some o' =>
              simp [effPair, hot, hje, hn] at h2
              rcases h2 with h2 | h2
              · exact .inl h2.symm
              · exact .inr h2
    · have hg' : GuardOff ops.toList o s := by
        obtain ⟨j, b, d, e1, e2, e3⟩ := hg
        refine ⟨j, b, d, e1, e2, ?_⟩
        rw [hsolid d (hmemg j b d e1 e2) (by rcases e3 with e3 | e3 <;> rw [e3] <;> rfl)]
        exact e3
      rw [if_neg (by rw [hg'.wanted hr]; simp)]
      refine ⟨fun _ _ => trivial, ih _ _ w _ M δ hsize (hr.put hd undef_rep) hm (hagree _ ?_) hcl' hlt' hcount⟩
      rw [hid, hq]
      exact .refl _
end
end Go.Proofs.Ytogehfalhodapaa.Pv
namespace Go.Proofs.Ytogehfalhodapaa.Pv
open Go Go.RowKit
set_option linter.unusedSimpArgs false
set_option linter.unusedVariables false
set_option linter.unnecessarySimpa false
/-! loops over functions -/

/-- an iterator's closure: it hands out the given values in their order, one to each round, as long as the rounds leave alone what it leans on -/
structure FSeq (P : Program) (g : Nat) (caps : List PV) (xs : List (List PV)) : Prop where
  enter : ∀ (args : Array Value) (w : World), (callFunc g args).run P w = .ok (.enter g args) w
  calls : ∀ (lb : List Value) (M : Mem) (l : Nat) (J : Nat → World → Prop) (W : World), RepIs M caps lb → (∀ k W, J k W → ∀ b o, M b = some o → W.heap[b]? = some o) →
    (∀ k ys W1 vs, xs[k]? = some ys → J k W1 → RepIs M ys vs → YieldAt Fence.wide 0 P l vs.toArray W1 fun e W' => e = .returned (.bool true) ∧ J (k + 1) W') → J 0 W →
    CallsIn Fence.wide 0 P g (#[.func (.yield l) #[] #[]] ++ lb.toArray) W fun e W' => (∃ v, e = .returned v) ∧ J xs.length W'

section
variable {P : Program} {w : World} {M : Mem} {F : Frm} {δ : Nat → Value} {hp : List (Nat × GObj)}

def Frm.add (F : Frm) (l : Nat) (o : Obj) : Frm := ⟨fun b => if b = l then some o else F.mem b, F.os, F.out⟩

theorem Inv.addF (h : Inv M F δ hp w) {l : Nat} {o : Obj} (hl : w.heap[l]? = some o) (hM : M l = none) (ho : o.isCells = false) : Inv M (F.add l o) δ hp w := by
  have hcell : ∀ g ob, aget hp g = some ob → ∀ b, (δ g).ownBlock = some b → b ≠ l := by
    intro g ob hg b hb e
    obtain ⟨xs, q1, _⟩ := h.own g ob hg
    rcases q1.2 with ⟨e1, e2⟩ | ⟨b', cap, cur, e1, e2, e3, e4⟩
    · rw [e1] at hb; simp [Value.ownBlock] at hb
    · rw [e1] at hb
      have : b' = b := by simpa [Value.ownBlock] using hb
      subst this; subst e
      rw [hl] at e3; cases e3; simp [Obj.isCells] at ho
  refine ⟨h.m, ?_, ?_, h.io, ?_, h.dis⟩
  · intro b x hb
    simp only [Frm.add] at hb
    split at hb
    · rename_i e; subst e; rw [hl]; exact hb
    · exact h.f b x hb
  · intro b hb
    simp only [Frm.add]
    split
    · rename_i e; subst e; exact absurd hM hb
    · exact h.mf b hb
  · intro g ob hg
    obtain ⟨xs, q1, q2, q3, q4, q5, q6, q7⟩ := h.own g ob hg
    refine ⟨xs, q1, q2, q3, q4, q5, q6, fun b hb => ⟨(q7 b hb).1, ?_⟩⟩
    simp only [Frm.add]
    rw [if_neg (hcell g ob hg b hb)]
    exact (q7 b hb).2

/-- the block of the frame's that is turned -/
theorem Inv.turnF {l : Nat} {o o' : Obj} (h : Inv M (F.add l o) δ hp w) : Inv M (F.add l o') δ hp (w.putObj l o') := by
  have hl : w.heap[l]? = some o := h.f l o (by simp [Frm.add])
  have hlt : l < w.heap.size := (Array.getElem?_eq_some_iff.1 hl).1
  have hMl : M l = none := by
    cases hm : M l with
    | none => rfl
    | some x => have := h.mf l (by rw [hm]; simp); simp [Frm.add] at this
  refine ⟨?_, ?_, ?_, h.io, ?_, h.dis⟩
  · intro b x hb
    rw [World.putObj_heap_other (by intro e; subst e; rw [hMl] at hb; cases hb)]
    exact h.m b x hb
  · intro b x hb
    simp only [Frm.add] at hb
    split at hb
    · rename_i e; subst e; rw [World.putObj_heap_same hlt]; exact hb
    · rename_i e
      rw [World.putObj_heap_other e]
      exact h.f b x (by simp [Frm.add, e, hb])
  · intro b hb
    have := h.mf b hb
    simp only [Frm.add] at this ⊢
    split at this
    · cases this
    · rename_i e; rw [if_neg e]; exact this
  · intro g ob hg
    obtain ⟨xs, q1, q2, q3, q4, q5, q6, q7⟩ := h.own g ob hg
    refine ⟨xs, ⟨q1.1, ?_⟩, q2, q3, q4, q5, q6, fun b hb => ⟨(q7 b hb).1, ?_⟩⟩
    · rcases q1.2 with hh | ⟨b', cap, cur, e1, e2, e3, e4⟩
      · exact .inl hh
      · refine .inr ⟨b', cap, cur, e1, e2, ?_, e4⟩
        rw [World.putObj_heap_other]
        · exact e3
        · intro e; subst e
          have := (q7 b' (by rw [e1]; rfl)).2
          simp [Frm.add] at this
    · have := (q7 b hb).2
      simp only [Frm.add] at this ⊢
      split at this
      · cases this
      · rename_i e; rw [if_neg e]; exact this

theorem Inv.dropF {l : Nat} {o : Obj} (h : Inv M (F.add l o) δ hp w) (hF : F.mem l = none) : Inv M F δ hp w ∧ M l = none ∧ w.heap[l]? = some o := by
  have hMl : M l = none := by
    cases hm : M l with
    | none => rfl
    | some x => have := h.mf l (by rw [hm]; simp); simp [Frm.add] at this
  have hne : ∀ b x, F.mem b = some x → b ≠ l := by intro b x hb e; subst e; rw [hF] at hb; cases hb
  refine ⟨⟨h.m, ?_, ?_, h.io, ?_, h.dis⟩, hMl, h.f l o (by simp [Frm.add])⟩
  · intro b x hb
    exact h.f b x (by simp [Frm.add, hne b x hb, hb])
  · intro b hb
    have := h.mf b hb
    simp only [Frm.add] at this
    split at this
    · cases this
    · exact this
  · intro g ob hg
    obtain ⟨xs, q1, q2, q3, q4, q5, q6, q7⟩ := h.own g ob hg
    refine ⟨xs, q1, q2, q3, q4, q5, q6, fun b hb => ⟨(q7 b hb).1, ?_⟩⟩
    have := (q7 b hb).2
    simp only [Frm.add] at this
    split at this
    · cases this
    · exact this

theorem subHp_sub {hp' : List (Nat × GObj)} (h : Inv M F δ hp w) (hs : subHp hp' hp) : Inv M F δ hp' w :=
  ⟨h.m, h.f, h.mf, h.io, fun g o hg => h.own g o (subHp_get hs g o hg), fun g g' o o' hne hg hg' => h.dis g g' o o' hne (subHp_get hs g o hg) (subHp_get hs g' o' hg')⟩

/-- two blocks are laid -/
theorem Inv.alloc2 (h : Inv M F δ hp w) (o o' : Obj) : Inv (fun b => if b = w.heap.size then some o else M b) F δ hp ((w.alloc o).alloc o') ∧ M.le (fun b => if b = w.heap.size then some o else M b) := by
  have hM : M w.heap.size = none := by
    cases hm : M w.heap.size with
    | none => rfl
    | some x => have := (h.lt (b := w.heap.size)).1 (by rw [hm]; simp); omega
  have hF : F.mem w.heap.size = none := by
    cases hm : F.mem w.heap.size with
    | none => rfl
    | some x => have := (h.lt (b := w.heap.size)).2 (by rw [hm]; simp); omega
  have hold : ∀ (b : Nat) (x : Obj), w.heap[b]? = some x → ((w.alloc o).alloc o').heap[b]? = some x := by
    intro b x hb
    have hlt := (Array.getElem?_eq_some_iff.1 hb).1
    rw [Below.heap_alloc _ _ _ (by simp; omega), Below.heap_alloc _ _ _ hlt]
    exact hb
  refine ⟨⟨?_, fun b x hb => hold b x (h.f b x hb), ?_, ⟨h.io.1, h.io.2⟩, ?_, h.dis⟩, ?_⟩
  · intro b x hb
    split at hb
    · rename_i e; subst e
      rw [Below.heap_alloc _ _ _ (by simp)]
      rw [World.alloc_heap_new]; exact hb
    · exact hold b x (h.m b x hb)
  · intro b hb
    split at hb
    · rename_i e; subst e; exact hF
    · exact h.mf b hb
  · intro g ob hg
    obtain ⟨xs, q1, q2, q3, q4, q5, q6, q7⟩ := h.own g ob hg
    have hle : M.le (fun b => if b = w.heap.size then some o else M b) := by
      intro b x hb
      have : b ≠ w.heap.size := by intro e; subst e; rw [hM] at hb; cases hb
      simp [this, hb]
    refine ⟨xs, ⟨q1.1, ?_⟩, q2, q3, q4.mono hle, fun ho => (q5 ho).mono hle, q6, fun b hb => ⟨?_, (q7 b hb).2⟩⟩
    · rcases q1.2 with hh | ⟨b', cap, cur, e1, e2, e3, e4⟩
      · exact .inl hh
      · exact .inr ⟨b', cap, cur, e1, e2, hold _ _ e3, e4⟩
    · have := (q1.lt b hb).2
      have hne : b ≠ w.heap.size := by omega
      simp [hne, (q7 b hb).1]
  · intro b x hb
    have : b ≠ w.heap.size := by intro e; subst e; rw [hM] at hb; cases hb
    simp [this, hb]
end

def objs : List (Nat × PV) → List Nat
  | [] => []
  | (i, p) :: r => match isImm p with | true => objs r | false => i :: objs r

theorem freeOf_objs {wr : List Nat} : ∀ {l : List (Nat × PV)}, freeOf wr l = true → ∀ i, i ∈ objs l → wr.contains i = false
  | [], _, i, h => by simp [objs] at h
  | (j, p) :: r, hf, i, h => by
    simp only [freeOf, Bool.and_eq_true, Bool.or_eq_true, Bool.not_eq_true'] at hf
    simp only [objs] at h
    cases hp : isImm p with
    | true => rw [hp] at h; exact freeOf_objs hf.2 i h
    | false =>
      rw [hp] at h
      rcases List.mem_cons.1 h with rfl | h
      · rcases hf.1 with h1 | h1
        · rw [hp] at h1; cases h1
        · exact h1
      · exact freeOf_objs hf.2 i h

theorem objs_mem : ∀ {l : List (Nat × PV)} {i : Nat} {p : PV}, aget l i = some p → isImm p = false → i ∈ objs l
  | [], i, p, h, _ => by simp [aget] at h
  | (j, q) :: r, i, p, h, hp => by
    simp only [aget] at h
    simp only [objs]
    split at h
    · rename_i e; subst e; cases h
      rw [hp]; exact List.mem_cons_self
    · have := objs_mem h hp
      cases isImm q
      · exact List.mem_cons_of_mem _ this
      · exact this

theorem keepsV_get : ∀ {l : List (Nat × PV)} {s : St} {i : Nat} {p : PV}, keepsV l s → aget l i = some p → isImm p = false → s.get i = p
  | [], s, i, p, _, h, _ => by simp [aget] at h
  | (j, q) :: r, s, i, p, hk, h, hp => by
    simp only [aget] at h
    simp only [keepsV] at hk
    split at h
    · rename_i e; subst e; cases h
      rw [hp] at hk; exact hk.1
    · exact keepsV_get hk.2 h hp

/-- the slots that a round is handed -/
theorem St.puts_get : ∀ (ps : List Nat) (ys : List PV) (s : St) (r : Nat), r ∉ ps → (s.puts ps ys).get r = s.get r
  | [], _, s, r, _ => by unfold St.puts; rfl
  | i :: ps, [], s, r, _ => by unfold St.puts; rfl
  | i :: ps, y :: ys, s, r, h => by
    unfold St.puts
    simp only [List.mem_cons, not_or] at h
    rw [St.puts_get ps ys _ r h.2, St.get_put, if_neg (Ne.symm h.1)]

theorem St.puts_hp : ∀ (ps : List Nat) (ys : List PV) (s : St), (s.puts ps ys).hp = s.hp
  | [], _, s => by unfold St.puts; rfl
  | i :: ps, [], s => by unfold St.puts; rfl
  | i :: ps, y :: ys, s => by
    unfold St.puts
    rw [St.puts_hp ps ys, St.put_hp]

theorem rel_puts {M : Mem} {δ : Nat → Value} : ∀ (ps : List Nat) (ys : List PV) (vs : List Value) (s : St) (t : Array Value), ps.length = vs.length → RepSs M δ ys vs → (∀ r, RepS M δ (s.get r) (t.getD r undef)) → (∀ i ∈ ps, i < t.size) →
    ∀ r, RepS M δ ((s.puts ps ys).get r) (((ps.zip vs).foldl (fun t (x : Nat × Value) => t.setIfInBounds x.1 x.2) t).getD r undef)
  | [], ys, vs, s, t, hl, hrep, hs, hlt, r => by
    unfold St.puts; exact hs r
  | i :: ps, ys, [], s, t, hl, _, _, _, r => by simp at hl
  | i :: ps, ys, v :: vs, s, t, hl, hrep, hs, hlt, r => by
    cases hrep with
    | cons p v' ys' vs' h1 h2 =>
      unfold St.puts
      simp only [List.zip_cons_cons, List.foldl_cons]
      refine rel_puts ps ys' vs (s.put i p) (t.setIfInBounds i v) (by simpa using hl) h2 ?_ (fun j hj => by simp; exact hlt j (by simp [hj])) r
      intro j
      rw [St.get_put]
      have hi := hlt i (by simp)
      split
      · rename_i e; subst e
        simp [Array.getD_eq_getD_getElem?, hi, h1]
      · rename_i e
        have := hs j
        simpa [Array.getD_eq_getD_getElem?, Array.getElem?_setIfInBounds, e] using this

theorem foldl_size : ∀ (l : List (Nat × Value)) (t : Array Value), (l.foldl (fun t (x : Nat × Value) => t.setIfInBounds x.1 x.2) t).size = t.size
  | [], t => rfl
  | x :: r, t => by rw [List.foldl_cons, foldl_size r]; simp
theorem foldl_other : ∀ (l : List (Nat × Value)) (t : Array Value) (r : Nat), (∀ x ∈ l, x.1 ≠ r) → (l.foldl (fun t (x : Nat × Value) => t.setIfInBounds x.1 x.2) t).getD r undef = t.getD r undef
  | [], t, r, _ => rfl
  | x :: l, t, r, h => by
    rw [List.foldl_cons, foldl_other l _ r (fun y hy => h y (by simp [hy]))]
    have := h x (by simp)
    simp [Array.getD_eq_getD_getElem?, Array.getElem?_setIfInBounds, this]

theorem zip_foldl (ps : Array Tmp) (vs : List Value) (t : Array Value) :
    (ps.zip vs.toArray).foldl (fun t (x : Tmp × Value) => t.setIfInBounds x.1 x.2) t = (ps.toList.zip vs).foldl (fun t (x : Nat × Value) => t.setIfInBounds x.1 x.2) t := by
  rw [← Array.foldl_toList, Array.toList_zip]

section
variable {P : Program} {w : World} {M : Mem} {F : Frm} {δ : Nat → Value}

theorem range_law {Sq : Nat → List PV → List (List PV) → Prop} (hS : ∀ g caps xs, Sq g caps xs → FSeq P g caps xs) {codeW : (Exit → St → Prop) → St → Prop} {wr : List Nat} {f : Operand} {ps : Array Tmp} {assign body : Code} {N : Cx} {s : St} {a : Act}
    {Q : Exit → St → Prop} {R : Exit → Act → World → Prop} (hr : Rel N s a w M F δ) (h : RangeK Sq codeW wr (opnd s f) ps.toList Q s) (hps : ∀ i ∈ ps, i < N.n ∧ N.ro.contains i = false)
    (hcode : ∀ (N' : Cx) (l : Nat) (Fr : Frm) (Qc : Exit → St → Prop) (s' : St) (a' : Act) (w' : World) (M' : Mem) (δ' : Nat → Value) (R' : Exit → Act → World → Prop), N'.n = N.n →
      (∀ i, N'.ro.contains i = true → N.ro.contains i = true ∨ wr.contains i = false) → Rel N' s' a' w' M' Fr δ' → codeW Qc s' →
      (∀ s1 a1 w1 M1 δ1, Rel N' s1 a1 w1 M1 Fr δ1 → M'.le M1 → ∃ w2 Fb, (Instr.beginRound l).run P w1 = .ok () w2 ∧ Rel N' s1 a1 w2 M1 Fb δ1 ∧ ∀ e a w, GoodK N' M1 Fb (Qc e) a w → R' e a w) →
      assign.wpIn (FnR (some l)) 0 P (Exit.then (fun a₁ w₁ => ∃ w₂, (Instr.beginRound l).run P w₁ = .ok () w₂ ∧ body.wpIn (FnR (some l)) 0 P R' a₁ w₂) (fun _ _ _ => False)) a' w')
    (hR : ∀ a w, GoodK N M F (Q .normal) a w → R .normal a w) : (Code.rangeFunc f ps assign body).wpIn (FnR none) 0 P R a w := by
  obtain ⟨g, caps, xs, α, hh, I, x0, hf, hs, himm, hlen, hfree, h0, hI, hround, hdone⟩ := h
  have hseq := hS _ _ _ hs
  have hfv := hr.opnd f
  rw [hf] at hfv
  obtain ⟨va, lb, e1, e2, e3⟩ := hfv.fn_inv
  cases e2
  have hcaps : RepIs M caps lb := e3.toI himm
  refine wpIn_rangeFunc ?_
  intro fn _
  obtain ⟨rec, hrec⟩ : ∃ rec : LoopState → Option Code → Loop, rec = fun st pe => { state := st, pending := pe, fn, tmps := a.tmps, params := ps, assign, body, defers := w.heap.size } := ⟨_, rfl⟩
  obtain ⟨W1, hW1⟩ : ∃ W1, (w.alloc (.deferred (some []))).alloc (.loop (rec .ready none)) = W1 := ⟨_, rfl⟩
  have hL1 : W1.heap[w.heap.size + 1]? = some (.loop (rec .ready none)) := by
    rw [← hW1]; have := World.alloc_heap_new (w.alloc (.deferred (some []))) (.loop (rec .ready none)); rwa [World.size_alloc] at this
  obtain ⟨hi1, hle1⟩ := hr.inv.alloc2 (.deferred (some [])) (.loop (rec .ready none))
  rw [hW1] at hi1
  obtain ⟨M1, hM1⟩ : ∃ M1 : Mem, (fun b => if b = w.heap.size then some (.deferred (some [])) else M b) = M1 := ⟨_, rfl⟩
  rw [hM1] at hi1 hle1
  have hFl : F.mem (w.heap.size + 1) = none := by
    cases hm : F.mem (w.heap.size + 1) with
    | none => rfl
    | some x => have := (hr.inv.lt (b := w.heap.size + 1)).2 (by rw [hm]; simp); omega
  have hM1l : M1 (w.heap.size + 1) = none := by
    cases hm : M (w.heap.size + 1) with
    | none => rw [← hM1]; simp [hm]
    | some x => have := (hr.inv.lt (b := w.heap.size + 1)).1 (by rw [hm]; simp); omega
  have hM1D : M1 w.heap.size = some (.deferred (some [])) := by rw [← hM1]; simp
  let J : Nat → World → Prop := fun k W => ∃ M' δ' x, I k x ∧ M1.le M' ∧ Inv M' F δ' (hh x) W ∧ (∀ i p, aget s.vs i = some p → isImm p = false → RepS M' δ' p (a.tmps.getD i undef)) ∧ M' (w.heap.size + 1) = none ∧
    W.heap[w.heap.size + 1]? = some (.loop (rec .ready none))
  have slotv : ∀ i p, aget s.vs i = some p → RepS M δ p (a.tmps.getD i undef) := by
    intro i p hp
    have := hr.slot i
    unfold St.get at this
    rw [hp] at this
    exact this
  have hJ0 : J 0 W1 := ⟨M1, δ, x0, hI, M1.le_refl, subHp_sub hi1 h0, fun i p hp _ => (slotv i p hp).mono hle1, hM1l, hL1⟩
  refine ⟨w.heap.size + 1, [{ target := .collected w.heap.size, args := #[] }], W1, { target := .fn (.func g) lb.toArray, args := #[.func (.yield (w.heap.size + 1)) #[] #[]] }, W1, g,
    #[.func (.yield (w.heap.size + 1)) #[] #[]] ++ lb.toArray, W1, ?_, ?_, fun _ _ => trivial, ?_, fun h => (by cases h), ?_⟩
  · rw [← hW1, hrec]; exact run_enterLoop_outer _ _ _ _ _
  · simp only [resolve, e1]
    simp [go_sem]
  · have := hseq.enter (#[.func (.yield (w.heap.size + 1)) #[] #[]] ++ lb.toArray) W1
    exact this
  · refine CallsIn.mono (hseq.calls lb M1 (w.heap.size + 1) J W1 (hcaps.mono hle1) ?_ ?_ hJ0) ?_
    · rintro k W ⟨M', δ', x, _, hle, hinv, _⟩ b o hb
      exact hinv.m b o (hle b o hb)
    · -- one round
      rintro k ys W vs hk ⟨M', δ', x, hIx, hle, hinv, hobj, hMl, hl⟩ hys
      obtain ⟨hl1, hl2⟩ := hlen ys (List.mem_of_getElem? hk)
      have hvl : vs.length = ps.size := by rw [← hys.length, hl1]; simp
      have hy := run_yield (P := P) (args := vs.toArray) hl (by rw [hrec]; simpa using hvl)
      rw [hrec] at hy
      refine ⟨fn, _, assign, body, hy, roundIn_of_wpIn trivial ?_⟩
      -- the round's slots
      let N' : Cx := ⟨N.n, N.ro ++ objs s.vs, fun i => a.tmps.getD i undef, fun _ => none⟩
      have hnot : ∀ i, N'.ro.contains i = true → i ∉ ps.toList := by
        intro i hi hm
        have hi' : i ∈ N.ro ∨ i ∈ objs s.vs := by simpa [N'] using hi
        rcases hi' with hi' | hi'
        · have := (hps i (by simpa using hm)).2
          rw [List.contains_iff_mem.2 hi'] at this; cases this
        · have := freeOf_objs hfree i hi'
          have hmm : i ∈ ps.toList ++ wr := List.mem_append_left _ hm
          rw [List.contains_iff_mem.2 hmm] at this; cases this
      have hinvr : Inv M' (F.add (w.heap.size + 1) (.loop (rec .ready none))) δ' (hh x) W := hinv.addF hl hMl rfl
      have hrel : Rel N' (St.puts ⟨s.vs, [], hh x⟩ ps.toList ys) { tmps := (ps.zip vs.toArray).foldl (fun t (x : Tmp × Value) => t.setIfInBounds x.1 x.2) a.tmps, defers := [] } W M' (F.add (w.heap.size + 1) (.loop (rec .ready none))) δ' := by
        refine ⟨⟨fun b o h => (by cases h), List.nodup_nil, fun d hd => (by cases hd)⟩, ?_, ?_, ?_, by rw [St.puts_hp]; exact hinvr⟩
        · dsimp only; rw [zip_foldl, foldl_size]; exact hr.size
        · intro i hi
          dsimp only
          rw [zip_foldl, foldl_other]
          intro y hy e
          exact hnot i hi (e ▸ (List.of_mem_zip hy).1)
        · dsimp only
          rw [zip_foldl]
          refine rel_puts ps.toList ys vs _ a.tmps (by simp [hvl]) (hys.toS.mono hle) ?_ ?_
          · intro r
            unfold St.get
            simp only [aget]
            cases hp : aget s.vs r with
            | none => exact .imm _ _ (.junk _)
            | some p =>
              cases hpi : isImm p with
              | true => exact .imm _ _ (((slotv r p hp).toI hpi).mono (Mem.le_trans hle1 hle))
              | false => exact hobj r p hp hpi
          · intro i hi
            rw [hr.size]
            exact (hps i (by simpa using hi)).1
      refine hcode N' (w.heap.size + 1) _ _ _ _ W M' δ' (roundPost P (w.heap.size + 1) fun e W' => e = .returned (.bool true) ∧ J (k + 1) W') rfl ?_ hrel (hround k x ys hk hIx) ?_
      · intro i hi
        have hi' : i ∈ N.ro ∨ i ∈ objs s.vs := by simpa [N'] using hi
        rcases hi' with hi' | hi'
        · exact .inl (List.contains_iff_mem.2 hi')
        · right
          cases hc : wr.contains i with
          | false => rfl
          | true =>
            have := freeOf_objs hfree i hi'
            rw [List.contains_iff_mem.2 (List.mem_append_right _ (List.contains_iff_mem.1 hc))] at this; cases this
      · intro s1 a1 w1 M2 δ1 hrel1 hle2
        have hl1 : w1.heap[w.heap.size + 1]? = some (.loop (rec .ready none)) := hrel1.inv.f _ _ (by simp [Frm.add])
        refine ⟨w1.putObj (w.heap.size + 1) (.loop { rec .ready none with state := .busy }), F.add (w.heap.size + 1) (.loop { rec .ready none with state := .busy }), run_beginRound hl1 (by rw [hrec]), ?_, ?_⟩
        · exact ⟨hrel1.def0, hrel1.size, hrel1.ro, hrel1.slot, hrel1.inv.turnF⟩
        · rintro e a3 W3 ⟨s3, M3, δ3, hq, hle3, hrel3⟩
          cases e with
          | normal =>
            obtain ⟨hkeep, y, hIy, hsub⟩ := hq
            have hl3 : W3.heap[w.heap.size + 1]? = some (.loop { rec .ready none with state := .busy }) := hrel3.inv.f _ _ (by simp [Frm.add])
            have hend := run_endRound (P := P) none hl3
            have hinv4 := hrel3.inv.turnF (o' := .loop (rec .ready none))
            obtain ⟨q1, q2, q3⟩ := (subHp_sub hinv4 hsub).dropF hFl
            refine ⟨_, _, hend, rfl, M3, δ3, y, hIy, Mem.le_trans hle (Mem.le_trans hle2 hle3), ?_, ?_, q2, ?_⟩
            · rw [hrec] at q1 ⊢; exact q1
            · intro i p hp hpi
              have h1 := hrel3.slot i
              rw [keepsV_get hkeep hp hpi] at h1
              have h2 := hrel3.ro i (by simp only [N']; rw [List.contains_iff_mem]; exact List.mem_append_right _ (objs_mem hp hpi))
              rw [h2] at h1
              exact h1
            · rw [hrec] at q3 ⊢; exact q3
          | _ => exact hq.elim
    · -- behind the loop
      rintro e W2 ⟨⟨v, rfl⟩, M', δ', x, hIx, hle, hinv, hobj, hMl, hl⟩
      refine ⟨none, _, by have := run_endLoop (P := P) hl (by rw [hrec]; simp); rw [hrec] at this; exact this, hR _ _ ⟨_, M', δ', hdone x hIx, Mem.le_trans hle1 hle, ?_⟩⟩
      have hinv2 := ((hinv.addF hl hMl rfl).turnF (o' := .loop { rec .ready none with state := .exhausted })).dropF hFl
      refine ⟨⟨Mem.le_trans hr.def0.1 (Mem.le_trans hle1 hle), ?_, ?_⟩, hr.size, hr.ro, ?_, by rw [hrec] at hinv2; exact hinv2.1⟩
      · refine List.nodup_cons.2 ⟨fun hm => ?_, hr.def0.2.1⟩
        obtain ⟨D, d1, d2, d3⟩ := hr.def0.2.2 _ hm
        injection d1 with d1
        injection d1 with d1
        have := (hr.inv.lt (b := D)).1 (by rw [d2]; simp)
        omega
      · intro d hd
        simp only [List.cons_append, List.nil_append, List.mem_cons] at hd
        rcases hd with rfl | hd
        · refine ⟨w.heap.size, rfl, hle _ _ hM1D, ?_⟩
          cases hm : N.m0 w.heap.size with
          | none => rfl
          | some x => have := (hr.inv.lt (b := w.heap.size)).1 (by rw [hr.def0.1 _ _ hm]; simp); omega
        · obtain ⟨D, d1, d2, d3⟩ := hr.def0.2.2 d hd
          exact ⟨D, d1, hle _ _ (hle1 _ _ d2), d3⟩
      · intro r
        unfold St.get
        simp only [aget]
        cases hp : aget s.vs r with
        | none => exact .imm _ _ (.junk _)
        | some p =>
          cases hpi : isImm p with
          | true => exact .imm _ _ (((slotv r p hp).toI hpi).mono (Mem.le_trans hle1 hle))
          | false => exact hobj r p hp hpi
end
end Go.Proofs.Ytogehfalhodapaa.Pv
namespace Go.Proofs.Ytogehfalhodapaa.Pv
open Go
set_option linter.unusedSimpArgs false
set_option linter.unusedVariables false

section
variable {P : Program} {E : Env} {C : Ctr} {H : Hnd} {Sq : Nat → List PV → List (List PV) → Prop} {w : World} {N : Cx} {s : St} {a : Act} {M : Mem} {F : Frm} {δ : Nat → Value}

theorem Inv.drew {hp : List (Nat × GObj)} (h : Inv M F δ hp w) {w' : World} (hw : w'.heap = w.heap) (hio : w'.os = w.os ∧ w'.output = w.output) : Inv M F δ hp w' := by
  refine ⟨fun b o hb => by rw [hw]; exact h.m b o hb, fun b o hb => by rw [hw]; exact h.f b o hb, h.mf, ⟨hio.1.trans h.io.1, hio.2.trans h.io.2⟩, ?_, h.dis⟩
  intro g o hg
  obtain ⟨xs, q1, q2⟩ := h.own g o hg
  refine ⟨xs, ⟨q1.1, ?_⟩, q2⟩
  rcases q1.2 with hh | ⟨b, cap, cur, e1, e2, e3, e4⟩
  · exact .inl hh
  · exact .inr ⟨b, cap, cur, e1, e2, by rw [hw]; exact e3, e4⟩

theorem Rel.drew (h : Rel N s a w M F δ) {w' : World} (hw : w'.heap = w.heap) (hio : w'.os = w.os ∧ w'.output = w.output) : Rel N s a w' M F δ := ⟨h.def0, h.size, h.ro, h.slot, h.inv.drew hw hio⟩

theorem Inv.sub {hp hp' : List (Nat × GObj)} (h : Inv M F δ hp w) (hs : subHp hp' hp) : Inv M F δ hp' w :=
  ⟨h.m, h.f, h.mf, h.io, fun g o hg => h.own g o (subHp_get hs g o hg), fun g g' o o' hne hg hg' => h.dis g g' o o' hne (subHp_get hs g o hg) (subHp_get hs g' o' hg')⟩

theorem leVs_get : ∀ {l l' : List (Nat × PV)}, leVs l l' → ∀ i q, aget l' i = some q → ∃ p, aget l i = some p ∧ (p = q ∨ q = .junk)
  | _, [], _, i, q, h => by simp [aget] at h
  | [], _ :: _, h, _, _, _ => h.elim
  | (j, p) :: r, (j', q') :: r', h, i, q, hq => by
    obtain ⟨⟨rfl, h1⟩, h2⟩ := h
    simp only [aget] at hq ⊢
    by_cases e : j = i
    · subst e
      simp only [if_true, Option.some.injEq] at hq ⊢
      subst hq
      refine ⟨p, rfl, ?_⟩
      unfold leP at h1
      split at h1
      · exact .inr rfl
      · exact .inl h1
    · simp only [e, if_false] at hq ⊢
      exact leVs_get h2 i q hq

theorem Rel.le {t : St} (h : Rel N s a w M F δ) (hl : LeSt s t) : Rel N t a w M F δ := by
  obtain ⟨h1, h2, h3⟩ := hl
  refine ⟨h.def0, h.size, h.ro, fun i => ?_, ⟨h.inv.m, h.inv.f, h.inv.mf, h.inv.io, fun g o hg => h.inv.own g o (subHp_get h3 g o hg),
    fun g g' o o' hne hg hg' => h.inv.dis g g' o o' hne (subHp_get h3 g o hg) (subHp_get h3 g' o' hg')⟩⟩
  unfold St.get
  rw [h2]
  simp only [aget]
  cases hg : aget t.vs i with
  | none => exact .imm _ _ (.junk _)
  | some q =>
    obtain ⟨p, hp, hpq⟩ := leVs_get h1 i q hg
    rcases hpq with rfl | rfl
    · have := h.slot i
      unfold St.get at this
      rw [hp] at this
      exact this
    · exact .imm _ _ (.junk _)

def flat : Code → Bool
  | .seq a b => flat a && flat b
  | .cond _ a b => flat a && flat b
  | .block _ c => flat c
  | .loop c => flat c
  | .rangeFunc .. => false
  | .scope _ => false
  | _ => true

def codeOk (plan : List (Nat × Nat)) (n : Nat) (ro : List Nat) : Code → Bool
  | .region _ ops draw => ops.toList.all (dstOk n ro) && (!draw || (drawOk ops && (!anyEff plan ops.toList || effOk plan ops.toList)))
  | .seq a b => codeOk plan n ro a && codeOk plan n ro b
  | .cond _ a b => codeOk plan n ro a && codeOk plan n ro b
  | .block _ c => codeOk plan n ro c
  | .loop c => codeOk plan n ro c
  | .rangeFunc _ ps a c => (ps.toList.all fun i => decide (i < n) && !ro.contains i) && (codeOk plan n ro a && codeOk plan n ro c) && (flat a && flat c)
  | .scope c => codeOk plan n ro c
  | _ => true

theorem dsts_mem : ∀ {l : List Oper} {o : Oper} {d : Nat}, o ∈ l → o.dst = some d → d ∈ dstsOf l
  | [], _, _, h, _ => by simp at h
  | o' :: r, o, d, h, hd => by
    simp only [dstsOf]
    rcases List.mem_cons.1 h with rfl | h
    · rw [hd]; exact List.mem_cons_self
    · have := dsts_mem h hd
      split
      · exact List.mem_cons_of_mem _ this
      · exact this

theorem codeOk_ro {plan : List (Nat × Nat)} {n : Nat} {ro ro' : List Nat} : ∀ (c : Code), flat c = true → codeOk plan n ro c = true → (∀ i, ro'.contains i = true → ro.contains i = true ∨ (writes c).contains i = false) → codeOk plan n ro' c = true
  | .skip, _, _, _ => rfl
  | .exit _, _, _, _ => rfl
  | .ret, _, _, _ => rfl
  | .scope _, hf, _, _ => by simp [flat] at hf
  | .label _, _, _, _ => rfl
  | .goto _, _, _, _ => rfl
  | .refuse _, _, _, _ => rfl
  | .rangeFunc .., h, _, _ => by cases h
  | .region _ ops draw, _, h, hro => by
    simp only [codeOk, Bool.and_eq_true, List.all_eq_true] at h ⊢
    refine ⟨fun o ho => ?_, h.2⟩
    have := h.1 o ho
    unfold dstOk at this ⊢
    split
    · rename_i d hd
      rw [hd] at this
      simp only [Bool.and_eq_true, decide_eq_true_eq, Bool.not_eq_true'] at this ⊢
      refine ⟨this.1, ?_⟩
      cases hc : ro'.contains d with
      | false => rfl
      | true =>
        rcases hro d hc with h1 | h1
        · rw [this.2] at h1; cases h1
        · simp only [writes] at h1
          rw [List.contains_iff_mem.2 (dsts_mem ho hd)] at h1; cases h1
    · rfl
  | .seq x y, hf, h, hro => by
    simp only [flat, codeOk, Bool.and_eq_true] at hf h ⊢
    exact ⟨codeOk_ro x hf.1 h.1 (fun i hi => (hro i hi).imp id fun h => by simp [writes] at h ⊢; exact h.1), codeOk_ro y hf.2 h.2 (fun i hi => (hro i hi).imp id fun h => by simp [writes] at h ⊢; exact h.2)⟩
  | .cond _ x y, hf, h, hro => by
    simp only [flat, codeOk, Bool.and_eq_true] at hf h ⊢
    exact ⟨codeOk_ro x hf.1 h.1 (fun i hi => (hro i hi).imp id fun h => by simp [writes] at h ⊢; exact h.1), codeOk_ro y hf.2 h.2 (fun i hi => (hro i hi).imp id fun h => by simp [writes] at h ⊢; exact h.2)⟩
  | .block _ c, hf, h, hro => by
    simp only [flat, codeOk] at hf h ⊢
    exact codeOk_ro c hf h (fun i hi => by simpa [writes] using hro i hi)
  | .loop c, hf, h, hro => by
    simp only [flat, codeOk] at hf h ⊢
    exact codeOk_ro c hf h (fun i hi => by simpa [writes] using hro i hi)

section
variable {F : Fence} {n : Nat} {Q : Exit → Act → World → Prop} {a : Act} {w : World}
theorem stepR_scope {b : Frame} {a : Act} {k : List Item} {cs : List Frame} {w : World} {c : Code} : step P (lone (b.atR a (.code (.scope c) :: k)) cs w) = .next (lone (b.atR a (.code c :: .inScope c :: k)) cs w) :=
  step_lone_go (by simp [stepG, stepG.exec, Frame.atR])
theorem stepR_inScope {b : Frame} {a : Act} {k : List Item} {cs : List Frame} {w : World} {c : Code} : step P (lone (b.atR a (.inScope c :: k)) cs w) = .next (lone (b.atR a k) cs w) :=
  step_lone_go (by simp [stepG, stepG.exec, Frame.atR])
theorem wpIn_scope_straight {c : Code} (h : c.wpIn F n P (Exit.noGoto Q) a w) : (Code.scope c).wpIn F n P Q a w := by
  intro b k cs hro hb hr
  have h0 : (lone (b.atR a (.code (.scope c) :: k)) cs w).fenced P F := fenced_calm hb hr rfl
  obtain ⟨e, a₁, w₁, hq, harr⟩ := h b (.inScope c :: k) cs hro hb hr
  cases e with
  | normal => exact ⟨.normal, a₁, w₁, hq, .head h0 stepR_scope (StepsIn.trans harr (.one (fenced_calm hb hr rfl) stepR_inScope))⟩
  | exit id =>
    have hx : exitTo id (.inScope c :: k) = exitTo id k := by simp [exitTo]
    exact ⟨.exit id, a₁, w₁, hq, fun k' hk => .head h0 stepR_scope (harr.1 k' (by rw [hx]; exact hk)),
      fun hr' hk => let ⟨k₁, h1, h2⟩ := harr.2 hr' (by rw [hx]; exact hk); ⟨k₁, h1, .head h0 stepR_scope h2⟩⟩
  | goto l => exact hq.elim
  | ret => exact ⟨_, a₁, w₁, hq, .of_steps (.one h0 stepR_scope) harr⟩
  | panic ch => exact ⟨_, a₁, w₁, hq, .of_steps (.one h0 stepR_scope) harr⟩
  | outgrown => exact ⟨_, a₁, w₁, hq, .of_steps (.one h0 stepR_scope) harr⟩
end

theorem mapE_flattenO (u : Nat → PV) (q : Nat → Nat → Nat → Nat → PV) (es : List (List PV)) : (mapE (mapOs u q) es).flatten = mapOs u q es.flatten := by
  induction es with
  | nil => simp [mapE, mapOs]
  | cons e es ih => rw [mapE, List.flatten_cons, List.flatten_cons, ih, mapOs_append]
theorem mapE_lengthO (u : Nat → PV) (q : Nat → Nat → Nat → Nat → PV) (es : List (List PV)) : (mapE (mapOs u q) es).length = es.length := by
  induction es with
  | nil => rfl
  | cons e es ih => simp [mapE, ih]
theorem mapE_memO (u : Nat → PV) (q : Nat → Nat → Nat → Nat → PV) (es : List (List PV)) {sz : Nat} (h : ∀ e ∈ es, e.length = sz) : ∀ e ∈ mapE (mapOs u q) es, e.length = sz := by
  induction es with
  | nil => simp [mapE]
  | cons e es ih =>
    intro e' he'
    rw [mapE] at he'
    rcases List.mem_cons.1 he' with rfl | he'
    · rw [mapOs_length]; exact h e (by simp)
    · exact ih (fun e he => h e (by simp [he])) e' he'
theorem Rel.freeze {N : Cx} {s : St} {a : Act} {w : World} {M : Mem} {F : Frm} {δ : Nat → Value} (h : Rel N s a w M F δ) (g : Nat) : ∃ M', M.le M' ∧ Rel N (s.freeze g) a w M' F δ := by
  unfold St.freeze
  split
  · rename_i ob hg
    split
    · exact ⟨M, M.le_refl, h⟩
    · rename_i hof
      classical
      obtain ⟨xs, h1, h2, h3, h4, h5, h6, h7⟩ := h.inv.own g ob hg
      obtain ⟨own, hownd⟩ : ∃ own : Nat → Prop, ∀ b, own b ↔ (δ g).ownBlock = some b := ⟨_, fun _ => Iff.rfl⟩
      have hm : M.le (fun b => if own b then w.heap[b]? else M b) := by
        intro b o hb
        have : ¬ own b := fun ho => by rw [(h7 b ((hownd b).1 ho)).1] at hb; cases hb
        simp [this, hb]
      refine ⟨fun b => if own b then w.heap[b]? else M b, hm, ?_⟩
      have hsl : RepI (fun b => if own b then w.heap[b]? else M b) (.sl ob.sz ob.es) (δ g) := by
        rcases h1.2 with ⟨e1, e2⟩ | ⟨b, cap, cur, e1, e2, e3, e4, e5, e6, e7⟩
        · rw [e1, List.eq_nil_of_length_eq_zero e2]
          exact .sl0 _ _ _
        · rw [e1]
          have ho : own b := (hownd b).2 (by rw [e1]; rfl)
          refine .sl _ _ _ _ _ cur ob.ty (0, 0) xs (by simp only [ho, if_true]; exact e3) e4 h3 h2 ((h5 hof).mono hm) h6 ?_
          intro i u hu
          rw [← e7, List.getElem?_take] at hu
          split at hu
          · simpa using hu
          · cases hu
      have hU : ∀ (g' : Nat) (ao : Option Addr) (n c : Nat), δ g' = .slice ao n c → RepS (fun b => if own b then w.heap[b]? else M b) δ (frzOU g ob.sz ob.es g') (.slice ao n c) := by
        intro g' ao n c hδ
        unfold frzOU
        split
        · rename_i e; subst e; rw [← hδ]; exact .imm _ _ hsl
        · exact .os _ _ _ _ hδ
      have hQ : ∀ (g' sz i f b n c : Nat), δ g' = .slice (some ⟨b, 0, none⟩) n c → RepS (fun b => if own b then w.heap[b]? else M b) δ (frzOQ g g' sz i f) (.pointer (some ⟨b, i * sz + f, none⟩)) := by
        intro g' sz i f b n c hδ
        unfold frzOQ
        split
        · exact .imm _ _ (.junk _)
        · exact .op _ _ _ _ b n c hδ
      refine ⟨h.def0.mono hm, h.size, h.ro, fun i => ?_, ⟨?_, h.inv.f, ?_, h.inv.io, ?_, ?_⟩⟩
      · rw [St.get_mapV s _ rfl]
        exact ((h.slot i).mono hm).mapO _ _ hU hQ
      · intro b o hb
        split at hb
        · exact hb
        · exact h.inv.m _ _ hb
      · intro b hb
        split at hb
        · rename_i ho; exact (h7 b ((hownd b).1 ho)).2
        · exact h.inv.mf b hb
      · intro g' o hg'
        simp only [aget_mapH, aget_adel] at hg'
        by_cases hne : g = g'
        · simp [hne] at hg'
        · simp only [hne, if_false] at hg'
          cases ho : aget s.hp g' with
          | none => rw [ho] at hg'; simp at hg'
          | some o' =>
            rw [ho] at hg'
            simp only [Option.map_some, Option.some.injEq] at hg'
            obtain ⟨ys, q1, q2, q3, q4, q5, q6, q7⟩ := h.inv.own g' o' ho
            have hq7 : ∀ b, (δ g').ownBlock = some b → (fun b => if own b then w.heap[b]? else M b) b = none ∧ F b = none := by
              intro b hb
              have : ¬ own b := fun hob => h.inv.dis g g' ob o' hne hg ho b ((hownd b).1 hob) hb
              exact ⟨by simp [this, (q7 b hb).1], (q7 b hb).2⟩
            subst hg'
            unfold GObj.map
            split
            · rename_i hown
              refine ⟨ys, ?_, mapE_memO _ _ _ q2, q3, ?_, ?_, q6, hq7⟩
              · dsimp only; unfold frzOs; rw [mapE_lengthO]; exact q1
              · dsimp only; unfold frzOs; rw [mapE_flattenO]; exact (q4.mono hm).mapO _ _ hU hQ
              · intro hf; rw [hown] at hf; cases hf
            · rename_i hown
              have hi := (q5 (by simpa using hown)).mono hm
              exact ⟨ys, q1, q2, q3, hi.toS, fun _ => hi, q6, hq7⟩
      · intro g1 g2 o1 o2 hne e1 e2 b hb
        simp only [aget_mapH, aget_adel] at e1 e2
        have f1 : ∃ o, aget s.hp g1 = some o := by
          by_cases e : g = g1
          · simp [e] at e1
          · simp only [e, if_false] at e1; cases ho : aget s.hp g1 with
            | none => rw [ho] at e1; simp at e1
            | some o => exact ⟨o, rfl⟩
        have f2 : ∃ o, aget s.hp g2 = some o := by
          by_cases e : g = g2
          · simp [e] at e2
          · simp only [e, if_false] at e2; cases ho : aget s.hp g2 with
            | none => rw [ho] at e2; simp at e2
            | some o => exact ⟨o, rfl⟩
        obtain ⟨o1', f1⟩ := f1
        obtain ⟨o2', f2⟩ := f2
        exact h.inv.dis g1 g2 o1' o2' hne f1 f2 b hb
  · exact ⟨M, M.le_refl, h⟩
theorem Rel.frzAt {N : Cx} {s : St} {a : Act} {w : World} {M : Mem} {F : Frm} {δ : Nat → Value} (h : Rel N s a w M F δ) (plan : List (Nat × Nat)) (n : Nat) : ∃ M', M.le M' ∧ Rel N (Pv.frzAt plan n s) a w M' F δ := by
  unfold Pv.frzAt
  split
  · exact h.freeze _
  · exact ⟨M, M.le_refl, h⟩
/-- a cut -/
theorem cutAt_run {N : Cx} {F : Frm} {plan : List (Nat × Nat)} {k : Nat} {run : (Exit → St → Prop) → St → Prop} {Q : Exit → St → Prop} {s : St} {M : Mem} {R : Exit → Act → World → Prop} {X : Prop} (h : cutAt plan k run Q s)
    (hR : ∀ e a w, GoodK N M F (Q e) a w → R e a w) (go : ∀ Q' : Exit → St → Prop, run Q' s → (∀ e a w, GoodK N M F (Q' e) a w → R e a w) → X) : X := by
  unfold cutAt at h
  split at h
  · obtain ⟨α, G, I, h1, h2⟩ := h
    refine go _ h1 ?_
    rintro e a w hg
    cases e with
    | normal =>
      obtain ⟨s', M', δ', ⟨x, hx, hle⟩, hm, hr⟩ := hg
      exact hR _ _ _ ⟨G x, M', δ', h2 x hx, hm, hr.le hle⟩
    | _ => exact hR _ _ _ hg
  · exact go Q h hR

theorem wpc_wp (hE : ∀ T, TDok P T (E T)) (hC : ∀ f as r, C f as r → FC P f as r) (hH : ∀ f as hp r hp', H f as hp r hp' → FH P f as hp r hp') (hS : ∀ g caps xs, Sq g caps xs → FSeq P g caps xs) (hmix : P.follows .mixedOrders = true) {plan : List (Nat × Nat)} :
    ∀ (c : Code) (ρ : Option Nat) (N : Cx) (F : Frm) (Q : Exit → St → Prop) (s : St) (a : Act) (w : World) (M : Mem) (δ : Nat → Value) (R : Exit → Act → World → Prop), (ρ = none ∨ flat c = true) → codeOk plan N.n N.ro c = true → wpc E C H Sq plan c Q s → Rel N s a w M F δ →
      (∀ e a w, GoodK N M F (Q e) a w → R e a w) → Code.wpIn (FnR ρ) 0 P c R a w
  | .skip, ρ, N, F, Q, s, a, w, M, δ, R, hf, hok, h, hr, hR => wpIn_skip (hR _ _ _ ⟨s, M, δ, h, M.le_refl, hr⟩)
  | .exit n, ρ, N, F, Q, s, a, w, M, δ, R, hf, hok, h, hr, hR => wpIn_exit (hR _ _ _ ⟨s, M, δ, h, M.le_refl, hr⟩)
  | .ret, ρ, N, F, Q, s, a, w, M, δ, R, hf, hok, h, hr, hR => wpIn_ret (hR _ _ _ ⟨s, M, δ, h, M.le_refl, hr⟩)
  | .region id ops draw, ρ, N, F, Q, s, a, w, M, δ, R, hf, hok, h, hr, hR => by
    simp only [codeOk, Bool.and_eq_true, List.all_eq_true] at hok
    obtain ⟨M1, hm1, hr1⟩ := hr.fresh.frzAt plan id
    replace hR : ∀ e a w, GoodK N M1 F (Q e) a w → R e a w := fun e a w hg => hR e a w (hg.le hm1)
    obtain ⟨s1, hs1⟩ : ∃ s1, Pv.frzAt plan id s.fresh = s1 := ⟨_, rfl⟩
    rw [hs1] at hr1
    cases draw with
    | false =>
      simp only [wpc] at h
      rw [hs1] at h
      exact cutAt_run h hR fun Q h hR => wpIn_region_list (wpr_wp hE hC hH ops.toList 0 s1 a w M1 δ hok.1 h hr1 (hR .normal))
    | true =>
      simp only [wpc] at h
      rw [hs1] at h
      have hok2 : drawOk ops = true ∧ (anyEff plan ops.toList = false ∨ effOk plan ops.toList = true) := by simpa using hok.2
      have hrel : Rel N s1 a { w with drawn := w.drawn + 1 } M1 F δ := hr1.drew rfl ⟨rfl, rfl⟩
      refine wpIn_region_any hmix ?_
      have hnone : ∀ j, ¬ (Array.replicate ops.size false).getD j false = true := by
        intro j hj
        simp [Array.getD_eq_getD_getElem?, Array.getElem?_replicate] at hj
        split at hj <;> simp at hj
      cases hany : anyEff plan ops.toList with
      | false =>
        rw [hany] at h
        refine cutAt_run h hR fun Q h hR => ?_
        obtain ⟨q, S, sE, e1, e2, e3, e4⟩ := trace_of ops.toList 0 s1 h
        refine drawn_wp (gs := []) (K := Q .normal) (M0 := M1) hE hC hok2.1 hok.1 (hR .normal) e1 e2 e3 (by simpa using e4) ops.size (Array.replicate ops.size false) a _ s1 M1 δ (by simp) hrel M1.le_refl ?_ ?_ ?_ ?_
        · exact ⟨rfl, fun j d hj => absurd hj (hnone j), fun r _ => rfl⟩
        · exact fun j o e _ hj => absurd hj (hnone j)
        · exact fun j hj => absurd hj (hnone j)
        · simp
      | true =>
        rw [hany] at h hok2
        refine cutAt_run h hR fun Q h hR => ?_
        have hef : effOk plan ops.toList = true := by simpa using hok2.2
        obtain ⟨τ, v, S, sE, e0, e1, e2, e3, e4⟩ := trace_ofD (ρ := ρ) (N := N) (F := F) hE hC hH ops.toList 0 s1 h
        refine drawnE_wp (plan := plan) (K := Q .normal) (M0 := M1) hok2.1 hef hok.1 (hR .normal) e0 e1 (fun k o hk => by have := e2 k o hk; rw [Nat.zero_add] at this; exact this) e3 (by simpa using e4) ops.size (Array.replicate ops.size false) a _ s1 M1 δ (by simp) hrel M1.le_refl ?_ ?_ ?_ ?_
        · have : (fun j => (Array.replicate ops.size false).getD j false) = fun _ => false := by
            funext j
            cases hb : (Array.replicate ops.size false).getD j false with
            | false => rfl
            | true => exact absurd hb (hnone j)
          rw [this, runT_none]
          exact .refl _
        · exact fun j o e _ hj => absurd hj (hnone j)
        · exact fun j hj => absurd hj (hnone j)
        · simp
  | .seq x y, ρ, N, F, Q, s, a, w, M, δ, R, hf, hok, h, hr, hR => by
    simp only [codeOk, Bool.and_eq_true] at hok
    have hf' : (ρ = none ∨ flat x = true) ∧ (ρ = none ∨ flat y = true) := by simp only [flat, Bool.and_eq_true] at hf; exact ⟨hf.imp id (·.1), hf.imp id (·.2)⟩
    refine wpIn_seq (wpc_wp hE hC hH hS hmix x ρ N F _ s a w M δ _ hf'.1 hok.1 h hr ?_)
    rintro e a' w' hg
    cases e with
    | normal =>
      obtain ⟨s', M', δ', hk, hm, hr'⟩ := hg
      exact wpc_wp hE hC hH hS hmix y ρ N F Q s' a' w' M' δ' R hf'.2 hok.2 hk hr' (fun e a w hg => hR e a w (hg.le hm))
    | _ => exact hR _ _ _ hg
  | .cond x y z, ρ, N, F, Q, s, a, w, M, δ, R, hf, hok, h, hr, hR => by
    simp only [codeOk, Bool.and_eq_true] at hok
    have hf' : (ρ = none ∨ flat y = true) ∧ (ρ = none ∨ flat z = true) := by simp only [flat, Bool.and_eq_true] at hf; exact ⟨hf.imp id (·.1), hf.imp id (·.2)⟩
    simp only [wpc] at h
    refine cutAt_run h hR fun Q h hR => ?_
    simp only [condK] at h
    split at h
    · rename_i c hc
      have hx := hr.opnd x; rw [hc] at hx
      refine wpIn_cond (t := c) hx.bool_inv ?_
      cases c with
      | true => exact wpc_wp hE hC hH hS hmix y ρ N F Q s a w M δ R hf'.1 hok.1 h hr hR
      | false => exact wpc_wp hE hC hH hS hmix z ρ N F Q s a w M δ R hf'.2 hok.2 h hr hR
    · exact h.elim
  | .block n c, ρ, N, F, Q, s, a, w, M, δ, R, hf, hok, h, hr, hR => by
    simp only [codeOk] at hok
    simp only [wpc] at h
    refine cutAt_run h hR fun Q h hR => ?_
    refine wpIn_block (wpc_wp hE hC hH hS hmix c ρ N F _ s a w M δ _ (by simpa [flat] using hf) hok h hr ?_)
    rintro e a' w' hg
    cases e with
    | exit m =>
      simp only [Exit.inBlock]
      by_cases hmn : m = n
      · rw [if_pos hmn]
        exact hR _ _ _ (hg.mono fun s hs => by simpa [QBlock, hmn] using hs)
      · rw [if_neg hmn]
        exact hR _ _ _ (hg.mono fun s hs => by simpa [QBlock, hmn] using hs)
    | _ => exact hR _ _ _ hg
  | .loop c, ρ, N, F, Q, s, a, w, M, δ, R, hf, hok, h, hr, hR => by
    simp only [codeOk] at hok
    obtain ⟨α, G, I, μ, x0, h0, hI, hround⟩ := h
    refine wpIn_loop_ghost (fun n a w => GoodK N M F (fun s => ∃ x, I x ∧ μ x = n ∧ s = G x) a w) (μ x0) ⟨G x0, M, δ, ⟨x0, hI, rfl, rfl⟩, M.le_refl, hr.le h0⟩ ?_
    rintro n a w ⟨s', M', δ', ⟨x, hx, rfl, rfl⟩, hm, hr'⟩
    refine wpc_wp hE hC hH hS hmix c ρ N F _ (G x) a w M' δ' _ (by simpa [flat] using hf) hok (hround x hx) hr' ?_
    rintro e a2 w2 hg
    cases e with
    | normal =>
      obtain ⟨s2, M2, δ2, ⟨y, ⟨hy, hlt⟩, hle⟩, hm2, hr2⟩ := hg
      exact ⟨μ y, hlt, G y, M2, δ2, ⟨y, hy, rfl, rfl⟩, Mem.le_trans hm hm2, hr2.le hle⟩
    | _ => exact hR _ _ _ (hg.le hm)
  | .rangeFunc f ps x y, ρ, N, F, Q, s, a, w, M, δ, R, hf, hok, h, hr, hR => by
    obtain rfl : ρ = none := by
      rcases hf with h | h
      · exact h
      · simp [flat] at h
    simp only [codeOk, Bool.and_eq_true, List.all_eq_true, decide_eq_true_eq, Bool.not_eq_true'] at hok
    obtain ⟨⟨hps, hx, hy⟩, hfx, hfy⟩ := hok
    simp only [wpc] at h
    refine range_law hS hr h (fun i hi => hps i (by simpa using hi)) ?_ (fun a w hg => hR _ a w hg)
    intro N' l Fr Qc s' a' w' M' δ' R' hn hro hrel hcode hturn
    have hro1 : ∀ i, N'.ro.contains i = true → N.ro.contains i = true ∨ (writes x).contains i = false := fun i hi => (hro i hi).imp id fun h => by simp at h ⊢; exact h.1
    have hro2 : ∀ i, N'.ro.contains i = true → N.ro.contains i = true ∨ (writes y).contains i = false := fun i hi => (hro i hi).imp id fun h => by simp at h ⊢; exact h.2
    refine wpc_wp hE hC hH hS hmix x (some l) N' Fr _ s' a' w' M' δ' _ (.inr hfx) (by rw [hn]; exact codeOk_ro x hfx hx hro1) hcode hrel ?_
    rintro e a1 w1 ⟨s1, M1, δ1, hq, hm1, hrel1⟩
    cases e with
    | normal =>
      obtain ⟨w2, Fb, h1, h2, h3⟩ := hturn s1 a1 w1 M1 δ1 hrel1 hm1
      exact ⟨w2, h1, wpc_wp hE hC hH hS hmix y (some l) N' Fb _ s1 a1 w2 M1 δ1 _ (.inr hfy) (by rw [hn]; exact codeOk_ro y hfy hy hro2) hq h2 h3⟩
    | _ => exact hq.elim
  | .scope c, ρ, N, F, Q, s, a, w, M, δ, R, hf, hok, h, hr, hR => by
    obtain rfl : ρ = none := by
      rcases hf with h | h
      · exact h
      · simp [flat] at h
    simp only [codeOk] at hok
    refine wpIn_scope_straight (wpc_wp hE hC hH hS hmix c none N F _ s a w M δ _ (.inl rfl) hok h hr ?_)
    rintro e a' w' hg
    cases e with
    | goto l => obtain ⟨s', M', δ', hk, _⟩ := hg; exact hk.elim
    | _ => exact hR _ _ _ hg
  | .label _, ρ, N, F, Q, s, a, w, M, δ, R, hf, hok, h, hr, hR => wpIn_label (hR _ _ _ ⟨s, M, δ, h, M.le_refl, hr⟩)
  | .goto _, ρ, N, F, Q, s, a, w, M, δ, R, hf, hok, h, hr, hR => h.elim
  | .refuse _, ρ, N, F, Q, s, a, w, M, δ, R, hf, hok, h, hr, hR => h.elim

/-! results and parameters -/

def resPV (P : Env) (s : St) : List ResultVar → List PV
  | [] => []
  | .tmp t :: r => s.get t :: resPV P s r
  | .cell _ _ :: r => .junk :: resPV P s r

/-- the value that the result variables hold -/
def resCell (E : Env) (s : St) : ResultVar → (PV → Prop) → Prop
  | .tmp t, K => K (s.get t)
  | .cell t T, K => match s.get t with
    | .ptr cs => loadVal (E T) cs K
    | .op g sz i f => match aget s.hp g with
      | some ob => if ob.sz = sz then match ob.es[i]? with
        | some c => loadVal (E T) (c.drop f) K
        | none => False
        else False
      | none => False
    | _ => False

def resK (E : Env) (s : St) : List ResultVar → (List PV → Prop) → Prop
  | [], K => K []
  | x :: r, K => resCell E s x fun p => resK E s r fun ps => K (p :: ps)

def oneOrTup : List PV → PV
  | [p] => p
  | ps => .tup ps

/-- what a body comes to: the results are these -/
def retK (E : Env) (vars : List ResultVar) (K : PV → St → Prop) : Exit → St → Prop
  | .ret, s => resK E s vars fun ps => K (oneOrTup ps) s
  | .normal, s => resK E s vars fun ps => K (oneOrTup ps) s
  | _, _ => False

def resOf (tmps : Array Value) (x : ResultVar) : Sem Value :=
  match x with
  | .tmp t => pure (tmps.getD t undef)
  | .cell c t => do loadVar t (← asAddr (tmps.getD c undef))

theorem results_eq (fn : Func) (tmps : Array Value) : results fn tmps = (do let vs ← fn.results.mapM (resOf tmps); pure (if h : vs.size = 1 then vs[0] else .tuple vs)) := by
  unfold results
  congr 2

theorem resCell_run (hE : ∀ T, TDok P T (E T)) {x : ResultVar} {K : PV → Prop} (hr : Rel N s a w M F δ) (h : resCell E s x K) :
    ∃ p v, K p ∧ RepS M δ p v ∧ (resOf a.tmps x).run P w = .ok v w := by
  cases x with
  | tmp t => exact ⟨_, _, h, hr.slot t, rfl⟩
  | cell t T =>
    simp only [resCell] at h
    have hx := hr.slot t
    split at h
    · rename_i cs hc
      rw [hc] at hx
      obtain ⟨b, off, vs, e1, e2, e3, e4⟩ := ptr_cells hr.inv hx.ptr_inv
      obtain ⟨p, v, k1, k2, k3⟩ := loadVar_run (hE T) e2.toS e4 h
      exact ⟨p, v, k1, k2, by simp [resOf, e1, asAddr, k3]⟩
    · rename_i g sz i f hc
      rw [hc] at hx
      obtain ⟨b, n, c, e1, e2⟩ := hx.op_inv
      split at h
      · rename_i ob hg
        split at h
        · rename_i hsz
          split at h
          · rename_i c' hc
            obtain ⟨vs, r1, r2, r3⟩ := own_cells hr.inv hg e1 hc
            obtain ⟨p, v, k1, k2, k3⟩ := loadVar_run (b := b) (off := i * sz + f) (hE T) (r1.drop f) (fun j v hv => by
              rw [List.getElem?_drop] at hv
              have := r3 _ _ hv
              rw [hsz] at this
              rw [Nat.add_assoc]; exact this) h
            exact ⟨p, v, k1, k2, by simp [resOf, e2, asAddr, k3]⟩
          · exact h.elim
        · exact h.elim
      · exact h.elim
    · exact h.elim

theorem resK_run (hE : ∀ T, TDok P T (E T)) (hr : Rel N s a w M F δ) : ∀ {l : List ResultVar} {K : List PV → Prop}, resK E s l K →
    ∃ ps vs, K ps ∧ RepSs M δ ps vs ∧ (l.mapM (resOf a.tmps)).run P w = .ok vs w
  | [], K, h => ⟨[], [], h, .nil, by simp⟩
  | x :: r, K, h => by
    obtain ⟨p, v, h1, h2, h3⟩ := resCell_run hE hr h
    obtain ⟨ps, vs, k1, k2, k3⟩ := resK_run hE hr h1
    refine ⟨p :: ps, v :: vs, k1, .cons _ _ _ _ h2 k2, ?_⟩
    rw [List.mapM_cons]
    simp only [Sem.run_bind]
    rw [h3]
    simp only [Result.andThen_ok]
    rw [k3]
    rfl

theorem results_run (hE : ∀ T, TDok P T (E T)) (hr : Rel N s a w M F δ) {fn : Func} {K : PV → St → Prop} (h : resK E s fn.results.toList fun ps => K (oneOrTup ps) s) :
    ∃ p v, K p s ∧ RepS M δ p v ∧ (results fn a.tmps).run P w = .ok v w := by
  obtain ⟨ps, vs, h1, h2, h3⟩ := resK_run hE hr h
  have hm : (fn.results.mapM (resOf a.tmps)).run P w = .ok vs.toArray w := by
    rw [Array.mapM_eq_mapM_toList]
    simp only [Sem.run_map, h3, Result.andThen_ok]
  cases h2 with
  | nil =>
    refine ⟨_, .tuple #[], h1, .imm _ _ (.tup [] [] .nil), ?_⟩
    rw [results_eq]
    simp only [Sem.run_bind]
    rw [hm]
    simp
  | cons p v ps vs k1 k2 =>
    cases k2 with
    | nil =>
      refine ⟨_, v, h1, k1, ?_⟩
      rw [results_eq]
      simp only [Sem.run_bind]
      rw [hm]
      simp
    | cons p2 v2 ps2 vs2 k3 k4 =>
      refine ⟨_, .tuple (v :: v2 :: vs2).toArray, h1, .tup _ _ (.cons _ _ _ _ k1 (.cons _ _ _ _ k3 k4)), ?_⟩
      rw [results_eq]
      simp only [Sem.run_bind]
      rw [hm]
      simp

def initVs (args : List PV) : List Nat → List (Nat × PV)
  | [] => []
  | i :: r => (i, match args[i]? with | some p => p | none => .tup []) :: initVs args r

theorem aget_initVs (args : List PV) : ∀ (vars : List Nat) (i : Nat) (p : PV), aget (initVs args vars) i = some p → p = match args[i]? with | some p => p | none => .tup []
  | [], i, p, h => by simp [initVs, aget] at h
  | j :: r, i, p, h => by
    simp only [initVs, aget] at h
    split at h
    · rename_i e; subst e; exact (Option.some.inj h).symm
    · exact aget_initVs args r i p h

theorem init_rel {args : List PV} {vs : List Value} {hp : List (Nat × GObj)} (hi : Inv M F δ hp w) (hrep : RepSs M δ args vs) (fn : Func) (hargs : args.length ≤ fn.ntmps) (vars ro : List Nat) :
    Rel ⟨fn.ntmps, ro, fun i => (vs.toArray ++ Array.replicate (fn.ntmps - vs.toArray.size) undef).getD i undef, M⟩ ⟨initVs args vars, [], hp⟩
      { tmps := vs.toArray ++ Array.replicate (fn.ntmps - vs.toArray.size) undef, defers := [] } w M F δ := by
  have hl := hrep.length
  refine ⟨⟨M.le_refl, List.nodup_nil, fun d hd => (by cases hd)⟩, by simp; omega, fun i _ => rfl, fun i => ?_, hi⟩
  have hval : RepS M δ (match args[i]? with | some p => p | none => .tup []) ((vs.toArray ++ Array.replicate (fn.ntmps - vs.toArray.size) undef).getD i undef) := by
    cases ha : args[i]? with
    | some p =>
      obtain ⟨v, hv, hp⟩ := hrep.get i p ha
      have hlt : i < vs.length := (List.getElem?_eq_some_iff.1 hv).1
      have : (vs.toArray ++ Array.replicate (fn.ntmps - vs.toArray.size) undef).getD i undef = v := by
        rw [Array.getD_eq_getD_getElem?, Array.getElem?_append_left (by simpa using hlt)]
        simp [hv]
      rw [this]; exact hp
    | none =>
      have hge : vs.length ≤ i := by rw [← hl]; exact List.getElem?_eq_none_iff.1 ha
      have : (vs.toArray ++ Array.replicate (fn.ntmps - vs.toArray.size) undef).getD i undef = undef := by
        rw [Array.getD_eq_getD_getElem?, Array.getElem?_append_right (by simpa using hge)]
        simp only [Array.getElem?_replicate]
        split <;> rfl
      rw [this]; exact undef_rep
  unfold St.get
  simp only [aget]
  cases hg : aget (initVs args vars) i with
  | some p =>
    have := aget_initVs args vars i p hg
    simp only
    rw [this]; exact hval
  | none => exact .imm _ _ (.junk _)

def frzU (hp : List (Nat × GObj)) (g : Nat) : PV :=
  match aget hp g with
  | some o => match o.own with | true => .junk | false => .sl o.sz o.es
  | none => .junk

def frzQ (hp : List (Nat × GObj)) (g sz i f : Nat) : PV :=
  match aget hp g with
  | some o => if o.sz = sz then match o.es[i]? with
    | some c => match isImms c with | true => .ptr (c.drop f) | false => .junk
    | none => .junk
    else .junk
  | none => .junk

/-- what is handed back is never written again -/
def frz (hp : List (Nat × GObj)) (p : PV) : PV := mapO (frzU hp) (frzQ hp) p

theorem frz_inv {hp : List (Nat × GObj)} (hi : Inv M F δ hp w) : ∃ M', M.le M' ∧ Inv M' F (fun _ => undef) [] w ∧ ∀ {p : PV} {v : Value}, RepS M δ p v → RepS M' δ (frz hp p) v := by
  classical
  let own : Nat → Prop := fun b => ∃ g o, aget hp g = some o ∧ (δ g).ownBlock = some b
  have hown : ∀ b, own b → M b = none ∧ F b = none := by
    rintro b ⟨g, o, hg, hb⟩
    obtain ⟨xs, _, _, _, _, _, _, h7⟩ := hi.own g o hg
    exact h7 b hb
  have hm : M.le (fun b => if own b then w.heap[b]? else M b) := by
    intro b o hb
    have : ¬ own b := fun ho => by rw [(hown b ho).1] at hb; cases hb
    simp [this, hb]
  refine ⟨fun b => if own b then w.heap[b]? else M b, hm, ⟨?_, hi.f, ?_, hi.io, by intro g o hg; simp [aget] at hg, by intro g g' o o' _ hg; simp [aget] at hg⟩, ?_⟩
  · intro b o hb
    split at hb
    · exact hb
    · exact hi.m _ _ hb
  · intro b hb
    split at hb
    · rename_i ho; exact (hown b ho).2
    · exact hi.mf b hb
  · intro p v hp'
    refine (hp'.mono hm).mapO _ _ ?_ ?_
    · intro g ao n c hδ
      unfold frzU
      split
      · rename_i o hg
        split
        · exact .imm _ _ (.junk _)
        · rename_i hof
          obtain ⟨xs, h1, h2, h3, h4, h5, h6, h7⟩ := hi.own g o hg
          refine .imm _ _ ?_
          rw [← hδ]
          rcases h1.2 with ⟨e1, e2⟩ | ⟨b, cap, cur, e1, e2, e3, e4, e5, e6, e7⟩
          · rw [e1]
            have : o.es = [] := List.eq_nil_of_length_eq_zero e2
            rw [this]
            exact .sl0 _ _ _
          · rw [e1]
            have ho : own b := ⟨g, o, hg, by rw [e1]; rfl⟩
            refine .sl _ _ _ _ _ cur o.ty (0, 0) xs (by simp only [ho, if_true]; exact e3) e4 h3 h2 ((h5 hof).mono hm) h6 ?_
            intro i u hu
            rw [← e7, List.getElem?_take] at hu
            split at hu
            · simpa using hu
            · cases hu
      · exact .imm _ _ (.junk _)
    · intro g sz i f b n c hδ
      unfold frzQ
      split
      · rename_i o hg
        split
        · rename_i hsz
          split
          · rename_i c' hc
            split
            · rename_i himm
              obtain ⟨xs, h1, h2, h3, h4, h5, h6, h7⟩ := hi.own g o hg
              rcases h1.2 with ⟨e1, e2⟩ | ⟨b', cap, cur, e1, e2, e3, e4, e5, e6, e7⟩
              · rw [hδ] at e1; cases e1
              · rw [hδ] at e1
                obtain ⟨rfl, rfl, rfl⟩ : b = b' ∧ n = o.es.length ∧ c = cap := by
                  injection e1 with h1 h2 h3
                  injection h1 with h1
                  injection h1 with h1
                  exact ⟨h1, h2, h3⟩
                have ho : own b := ⟨g, o, hg, by rw [hδ]; rfl⟩
                obtain ⟨h8, h9⟩ := flatten_get h2 hc
                have hci : RepIs M c' ((xs.drop (i * o.sz)).take o.sz) := by
                  have : RepSs M δ c' ((xs.drop (i * o.sz)).take o.sz) := by rw [← h8]; exact (h4.drop _).take _
                  exact this.toI himm
                subst hsz
                refine .imm _ _ (.ptr _ b (i * o.sz + f) cur o.ty (0, 0) (((xs.drop (i * o.sz)).take o.sz).drop f) (by simp only [ho, if_true]; exact e3) ((hci.mono hm).drop f)
                  (fun v hv => h6 v (List.mem_of_mem_drop (List.mem_of_mem_take (List.mem_of_mem_drop hv)))) ?_)
                intro k u hu
                rw [List.getElem?_drop, List.getElem?_take] at hu
                split at hu
                · rw [List.getElem?_drop, ← e7, List.getElem?_take] at hu
                  split at hu
                  · rw [Nat.add_assoc]; simpa using hu
                  · cases hu
                · cases hu
            · exact .imm _ _ (.junk _)
          · exact .imm _ _ (.junk _)
        · exact .imm _ _ (.junk _)
      · exact .imm _ _ (.junk _)

mutual
theorem RepI.cellsMono {M M2 : Mem} (h : ∀ b cells T fr, M b = some (.cells cells T fr) → M2 b = some (.cells cells T fr)) : ∀ {p : PV} {v : Value}, RepI M p v → RepI M2 p v
  | _, _, .int k n => .int k n
  | _, _, .bool b => .bool b
  | _, _, .str s => .str s
  | _, _, .nilptr => .nilptr
  | _, _, .nilfn => .nilfn
  | _, _, .nilsl => .nilsl
  | _, _, .junk v => .junk v
  | _, _, .agg cs vs hh => .agg cs vs (RepIs.cellsMono h hh)
  | _, _, .tup cs vs hh => .tup cs vs (RepIs.cellsMono h hh)
  | _, _, .fn f a b va vb h1 h2 => .fn f a b va vb (RepIs.cellsMono h h1) (RepIs.cellsMono h h2)
  | _, _, .sl0 sz ao c => .sl0 sz ao c
  | _, _, .sl sz es b off c cells T fr vs h1 h2 h3 h4 h5 h6 h7 => .sl sz es b off c cells T fr vs (h _ _ _ _ h1) h2 h3 h4 (RepIs.cellsMono h h5) h6 h7
  | _, _, .ptr cs b off cells T fr vs h1 h2 h3 h4 => .ptr cs b off cells T fr vs (h _ _ _ _ h1) (RepIs.cellsMono h h2) h3 h4
theorem RepIs.cellsMono {M M2 : Mem} (h : ∀ b cells T fr, M b = some (.cells cells T fr) → M2 b = some (.cells cells T fr)) : ∀ {p : List PV} {v : List Value}, RepIs M p v → RepIs M2 p v
  | _, _, .nil => .nil
  | _, _, .cons p v ps vs h1 h2 => .cons p v ps vs (RepI.cellsMono h h1) (RepIs.cellsMono h h2)
end
mutual
theorem RepS.cellsMono {M M2 : Mem} {δ : Nat → Value} (h : ∀ b cells T fr, M b = some (.cells cells T fr) → M2 b = some (.cells cells T fr)) : ∀ {p : PV} {v : Value}, RepS M δ p v → RepS M2 δ p v
  | _, _, .imm p v hh => .imm p v (hh.cellsMono h)
  | _, _, .os g ao n c hh => .os g ao n c hh
  | _, _, .op g sz i f b n c hh => .op g sz i f b n c hh
  | _, _, .agg cs vs hh => .agg cs vs (RepSs.cellsMono h hh)
  | _, _, .tup cs vs hh => .tup cs vs (RepSs.cellsMono h hh)
  | _, _, .fn f a b va vb h1 h2 => .fn f a b va vb (RepSs.cellsMono h h1) (RepSs.cellsMono h h2)
theorem RepSs.cellsMono {M M2 : Mem} {δ : Nat → Value} (h : ∀ b cells T fr, M b = some (.cells cells T fr) → M2 b = some (.cells cells T fr)) : ∀ {p : List PV} {v : List Value}, RepSs M δ p v → RepSs M2 δ p v
  | _, _, .nil => .nil
  | _, _, .cons p v ps vs h1 h2 => .cons p v ps vs (RepS.cellsMono h h1) (RepSs.cellsMono h h2)
end

theorem Inv.shut {hp : List (Nat × GObj)} (h : Inv M F δ hp w) {D : Nat} (hD : M D = some (.deferred (some []))) (o : Obj) :
    Inv (fun b => if b = D then none else M b) F δ hp (w.putObj D o) ∧ ∀ {p : PV} {v : Value}, RepS M δ p v → RepS (fun b => if b = D then none else M b) δ p v := by
  have hc : ∀ b cells T fr, M b = some (.cells cells T fr) → (fun b => if b = D then none else M b) b = some (.cells cells T fr) := by
    intro b cells T fr hb
    have : b ≠ D := by intro e; subst e; rw [hD] at hb; cases hb
    simp [this, hb]
  refine ⟨⟨?_, ?_, ?_, h.io, ?_, h.dis⟩, fun hr => hr.cellsMono hc⟩
  · intro b x hb
    split at hb
    · cases hb
    · rename_i e; rw [World.putObj_heap_other e]; exact h.m b x hb
  · intro b x hb
    have hF := h.mf D (by rw [hD]; simp)
    rw [World.putObj_heap_other (by intro e; subst e; rw [hF] at hb; cases hb)]
    exact h.f b x hb
  · intro b hb
    split at hb
    · exact absurd rfl hb
    · exact h.mf b hb
  · intro g ob hg
    obtain ⟨xs, q1, q2, q3, q4, q5, q6, q7⟩ := h.own g ob hg
    have hbD : ∀ b, (δ g).ownBlock = some b → b ≠ D := by intro b hb e; subst e; rw [(q7 b hb).1] at hD; cases hD
    refine ⟨xs, ⟨q1.1, ?_⟩, q2, q3, q4.cellsMono hc, fun ho => (q5 ho).cellsMono hc, q6, fun b hb => ⟨by simp [hbD b hb, (q7 b hb).1], (q7 b hb).2⟩⟩
    rcases q1.2 with hh | ⟨b', cap, cur, e1, e2, e3, e4⟩
    · exact .inl hh
    · exact .inr ⟨b', cap, cur, e1, e2, by rw [World.putObj_heap_other (hbD b' (by rw [e1]; rfl))]; exact e3, e4⟩

mutual
/-- a nil slice may be told as an empty one -/
def wk : PV → PV → Prop
  | .nilsl, .sl _ es => es = []
  | .tup a, .tup b => wks a b
  | .agg a, .agg b => wks a b
  | .sl n a, .sl m b => n = m ∧ wkss a b
  | _, _ => False
def wks : List PV → List PV → Prop
  | [], [] => True
  | p :: r, q :: r' => (p = q ∨ wk p q) ∧ wks r r'
  | _, _ => False
def wkss : List (List PV) → List (List PV) → Prop
  | [], [] => True
  | p :: r, q :: r' => wks p q ∧ wkss r r'
  | _, _ => False
end

theorem wks_length : ∀ {a b : List PV}, wks a b → a.length = b.length
  | [], [], _ => rfl
  | [], _ :: _, h => by simp [wks] at h
  | _ :: _, [], h => by simp [wks] at h
  | p :: r, q :: r', h => by simp only [wks] at h; simp [wks_length h.2]
theorem wkss_length : ∀ {a b : List (List PV)}, wkss a b → a.length = b.length
  | [], [], _ => rfl
  | [], _ :: _, h => by simp [wkss] at h
  | _ :: _, [], h => by simp [wkss] at h
  | p :: r, q :: r', h => by simp only [wkss] at h; simp [wkss_length h.2]
theorem wkss_all {n : Nat} : ∀ {a b : List (List PV)}, wkss a b → (∀ e ∈ a, e.length = n) → ∀ e ∈ b, e.length = n
  | [], [], _, _ => by simp
  | [], _ :: _, h, _ => by simp [wkss] at h
  | _ :: _, [], h, _ => by simp
  | p :: r, q :: r', h, ha => by
    simp only [wkss] at h
    intro e he
    rcases List.mem_cons.1 he with rfl | he
    · rw [← wks_length h.1]; exact ha p (by simp)
    · exact wkss_all h.2 (fun e he => ha e (by simp [he])) e he
theorem wks_append : ∀ {a b a' b' : List PV}, wks a b → wks a' b' → wks (a ++ a') (b ++ b')
  | [], [], _, _, _, h' => h'
  | [], _ :: _, _, _, h, _ => by simp [wks] at h
  | _ :: _, [], _, _, h, _ => by simp [wks] at h
  | p :: r, q :: r', _, _, h, h' => by
    simp only [wks] at h
    simp only [List.cons_append, wks]
    exact ⟨h.1, wks_append h.2 h'⟩
theorem wkss_flatten : ∀ {a b : List (List PV)}, wkss a b → wks a.flatten b.flatten
  | [], [], _ => by simp [wks]
  | [], _ :: _, h => by simp [wkss] at h
  | _ :: _, [], h => by simp [wkss] at h
  | p :: r, q :: r', h => by
    simp only [wkss] at h
    simp only [List.flatten_cons]
    exact wks_append h.1 (wkss_flatten h.2)

mutual
theorem RepI.wk {M : Mem} : ∀ {p q : PV} {v : Value}, RepI M p v → (p = q ∨ Pv.wk p q) → RepI M q v
  | _, q, _, .int k n, h => by rcases h with rfl | h; exact .int k n; cases q <;> simp [Pv.wk] at h
  | _, q, _, .bool b, h => by rcases h with rfl | h; exact .bool b; cases q <;> simp [Pv.wk] at h
  | _, q, _, .str s, h => by rcases h with rfl | h; exact .str s; cases q <;> simp [Pv.wk] at h
  | _, q, _, .nilptr, h => by rcases h with rfl | h; exact .nilptr; cases q <;> simp [Pv.wk] at h
  | _, q, _, .nilfn, h => by rcases h with rfl | h; exact .nilfn; cases q <;> simp [Pv.wk] at h
  | _, q, _, .nilsl, h => by
    rcases h with rfl | h
    · exact .nilsl
    · cases q <;> simp [Pv.wk] at h
      subst h; exact .sl0 _ _ _
  | _, q, _, .junk v, h => by rcases h with rfl | h; exact .junk v; cases q <;> simp [Pv.wk] at h
  | _, q, _, .agg cs vs hh, h => by
    rcases h with rfl | h
    · exact .agg cs vs hh
    · cases q <;> simp only [Pv.wk] at h
      exact .agg _ _ (RepIs.wks hh h)
  | _, q, _, .tup cs vs hh, h => by
    rcases h with rfl | h
    · exact .tup cs vs hh
    · cases q <;> simp only [Pv.wk] at h
      exact .tup _ _ (RepIs.wks hh h)
  | _, q, _, .fn f a b va vb h1 h2, h => by rcases h with rfl | h; exact .fn f a b va vb h1 h2; cases q <;> simp [Pv.wk] at h
  | _, q, _, .sl0 sz ao c, h => by
    rcases h with rfl | h
    · exact .sl0 sz ao c
    · cases q <;> simp only [Pv.wk] at h
      obtain ⟨rfl, h⟩ := h
      have := wkss_length h
      rename_i es
      have : es = [] := List.eq_nil_of_length_eq_zero this.symm
      subst this
      exact .sl0 _ _ _
  | _, q, _, .sl sz es b off c cells T fr vs h1 h2 h3 h4 h5 h6 h7, h => by
    rcases h with rfl | h
    · exact .sl sz es b off c cells T fr vs h1 h2 h3 h4 h5 h6 h7
    · cases q <;> simp only [Pv.wk] at h
      obtain ⟨rfl, h⟩ := h
      have hl := wkss_length h
      rw [hl]
      exact .sl _ _ b off c cells T fr vs h1 (by omega) h3 (wkss_all h h4) (RepIs.wks h5 (wkss_flatten h)) h6 h7
  | _, q, _, .ptr cs b off cells T fr vs h1 h2 h3 h4, h => by rcases h with rfl | h; exact .ptr cs b off cells T fr vs h1 h2 h3 h4; cases q <;> simp [Pv.wk] at h
theorem RepIs.wks {M : Mem} : ∀ {p q : List PV} {v : List Value}, RepIs M p v → Pv.wks p q → RepIs M q v
  | _, q, _, .nil, h => by
    cases q with
    | nil => exact .nil
    | cons => simp [Pv.wks] at h
  | _, q, _, .cons p v ps vs h1 h2, h => by
    cases q with
    | nil => simp [Pv.wks] at h
    | cons q qs =>
      simp only [Pv.wks] at h
      exact .cons _ _ _ _ (RepI.wk h1 h.1) (RepIs.wks h2 h.2)
end

/-- the marks on the way out -/
theorem leaves_marks {fn : Func} {tmps : Array Value} {R : Ending → World → Prop} {hp : List (Nat × GObj)} {s : St} {m0 : Mem} : ∀ (ds : List Deferred) (M : Mem) (w : World), DefOk m0 M ds → Inv M F δ hp w → (∀ i, RepS M δ (s.get i) (tmps.getD i undef)) →
    (∀ M' w', m0.le M' → Inv M' F δ hp w' → (∀ i, RepS M' δ (s.get i) (tmps.getD i undef)) → ∃ v, (results fn tmps).run P w' = .ok v w' ∧ R (.returned v) w') → LeavesInM (FnR none) 0 P fn tmps R ds .returning w
  | [], M, w, hd, hi, hs, hfin => hfin M w hd.1 hi hs
  | d :: ds, M, w, hd, hi, hs, hfin => by
    obtain ⟨D, rfl, h1, h2⟩ := hd.2.2 d (by simp)
    have hn := List.nodup_cons.1 hd.2.1
    refine ⟨by simp, .inl ⟨D, _, rfl, run_takeDeferred (hi.m D _ h1), ?_⟩⟩
    obtain ⟨i1, i2⟩ := hi.shut h1 (.deferred none)
    refine leaves_marks ds _ _ ⟨?_, hn.2, ?_⟩ i1 (fun i => i2 (hs i)) hfin
    · intro b o hb
      have : b ≠ D := by intro e; subst e; rw [h2] at hb; cases hb
      simp [this, hd.1 b o hb]
    · intro d' hd'
      obtain ⟨D', e1, e2, e3⟩ := hd.2.2 d' (by simp [hd'])
      refine ⟨D', e1, ?_, e3⟩
      have : D' ≠ D := by
        intro e; subst e; subst e1
        exact hn.1 hd'
      simp [this, e2]

mutual
theorem frz_imm (hp : List (Nat × GObj)) : ∀ p : PV, isImm (frz hp p) = true
  | .int .. => rfl
  | .bool _ => rfl
  | .str _ => rfl
  | .nilptr => rfl
  | .nilfn => rfl
  | .nilsl => rfl
  | .junk => rfl
  | .sl .. => rfl
  | .ptr _ => rfl
  | .os g => by
    simp only [frz, mapO, frzU]
    split
    · split <;> rfl
    · rfl
  | .op g sz i f => by
    simp only [frz, mapO, frzQ]
    split
    · split
      · split
        · split <;> rfl
        · rfl
      · rfl
    · rfl
  | .agg cs => by simp only [frz, mapO, isImm]; exact frzs_imm hp cs
  | .tup cs => by simp only [frz, mapO, isImm]; exact frzs_imm hp cs
  | .fn f a b => by simp only [frz, mapO, isImm, Bool.and_eq_true]; exact ⟨frzs_imm hp a, frzs_imm hp b⟩
theorem frzs_imm (hp : List (Nat × GObj)) : ∀ p : List PV, isImms (mapOs (frzU hp) (frzQ hp) p) = true
  | [] => rfl
  | p :: r => by simp only [mapOs, isImms, Bool.and_eq_true]; exact ⟨frz_imm hp p, frzs_imm hp r⟩
end

theorem FC.intro (hE : ∀ T, TDok P T (E T)) (hC : ∀ f as r, C f as r → FC P f as r) (hH : ∀ f as hp r hp', H f as hp r hp' → FH P f as hp r hp') (hS : ∀ g caps xs, Sq g caps xs → FSeq P g caps xs) (hmix : P.follows .mixedOrders = true) (plan : List (Nat × Nat)) (vars : List Nat)
    {f : Nat} {fn : Func} {body : Code} {args : List PV} {r : PV} (hf : P.funcs[f]? = some fn) (hb : fn.body = some body) (henter : ∀ (args : Array Value) (w : World), (callFunc f args).run P w = .ok (.enter f args) w)
    (hok : codeOk plan fn.ntmps [] body = true) (hargs : args.length ≤ fn.ntmps) (h : wpc E C H Sq plan body (retK E fn.results.toList fun p s => frz s.hp p = r ∨ wk (frz s.hp p) r) ⟨initVs args vars, [], []⟩) : FC P f args r := by
  refine ⟨henter, fun vs w M F hi hrep => ?_⟩
  refine (callsIn_wide (n := 0)).1 (callsIn_of_wp_marks hf hb trivial ?_ rfl)
  have hrel := init_rel hi (hrep.toS (δ := fun _ => undef)) fn hargs vars []
  refine wpc_wp hE hC hH hS hmix body none _ _ _ _ _ w M _ _ (.inl rfl) hok h hrel ?_
  rintro e a w' ⟨s, M', δ', hk, hm, hr⟩
  have fin : (resK E s fn.results.toList fun ps => frz s.hp (oneOrTup ps) = r ∨ wk (frz s.hp (oneOrTup ps)) r) →
      LeavesInM (FnR none) 0 P fn a.tmps (fun e w' => ∃ M' v, e = .returned v ∧ M.le M' ∧ Inv M' F (fun _ => undef) [] w' ∧ RepI M' r v) a.defers .returning w' := by
    intro hk
    refine leaves_marks a.defers M' w' hr.def0 hr.inv hr.slot fun M2 w2 hle hi2 hs2 => ?_
    have hr2 : Rel ⟨fn.ntmps, [], fun _ => undef, fun _ => none⟩ s ⟨a.tmps, []⟩ w2 M2 F δ' := ⟨⟨fun b o h => (by cases h), List.nodup_nil, fun d hd => (by cases hd)⟩, hr.size, fun i hi => (by simp at hi), hs2, hi2⟩
    obtain ⟨p, v, h1, h2, h3⟩ := results_run (K := fun p s => frz s.hp p = r ∨ wk (frz s.hp p) r) hE hr2 hk
    obtain ⟨M3, m1, m2, m3⟩ := frz_inv hr2.inv
    have h4 := m3 h2
    have h5 : isImm (frz s.hp p) = true := frz_imm s.hp p
    exact ⟨v, h3, M3, v, rfl, Mem.le_trans hle m1, m2, (h4.toI h5).wk h1⟩
  cases e with
  | normal => exact fin hk
  | ret => exact fin hk
  | _ => exact hk.elim

def pinned (args : List PV) (s : St) : List Nat → Prop
  | [] => True
  | i :: r => args[i]? = some (s.get i) ∧ pinned args s r

/-- a value points to an object: itself, or out of what a function has caught -/
def opIn (g : Nat) : PV → Bool
  | .op g' _ _ _ => g' == g
  | .fn _ _ b => b.any fun p => match p with | .op g' _ _ _ => g' == g | _ => false
  | _ => false

theorem opIn_same {M M' : Mem} {δ δ' : Nat → Value} {g : Nat} {p : PV} {v : Value} (h : opIn g p = true) (h1 : RepS M δ p v) (h2 : RepS M' δ' p v) : SameB δ δ' g := by
  have key : ∀ {sz i f : Nat} {v : Value}, RepS M δ (.op g sz i f) v → RepS M' δ' (.op g sz i f) v → SameB δ δ' g := by
    intro sz i f v k1 k2 b n c e
    obtain ⟨b1, n1, c1, e1, e2⟩ := k1.op_inv
    obtain ⟨b2, n2, c2, e3, e4⟩ := k2.op_inv
    rw [e] at e1
    injection e1 with e5
    injection e5 with e5
    injection e5 with e5
    rw [e2] at e4
    injection e4 with e6
    injection e6 with e6
    injection e6 with e6
    exact ⟨n2, c2, by rw [e3, e5, e6]⟩
  cases p with
  | op g' sz i f =>
    simp only [opIn, beq_iff_eq] at h
    subst h
    exact key h1 h2
  | fn f a b =>
    simp only [opIn, List.any_eq_true] at h
    obtain ⟨q, hq, hm⟩ := h
    obtain ⟨k, hk, ek⟩ := List.mem_iff_getElem.1 hq
    have hk' : b[k]? = some q := by rw [← ek]; exact List.getElem?_eq_getElem hk
    obtain ⟨va, vb, e1, e2, e3⟩ := h1.fn_inv
    obtain ⟨va', vb', e1', e2', e3'⟩ := h2.fn_inv
    rw [e1] at e1'
    injection e1' with f1 f2 f3
    have f3 : vb = vb' := by have := congrArg Array.toList f3; simpa using this
    subst f3
    obtain ⟨u, hu, hr⟩ := e3.get k _ hk'
    obtain ⟨u', hu', hr'⟩ := e3'.get k _ hk'
    rw [hu] at hu'
    cases hu'
    split at hm
    · rename_i g2 sz i f
      have : g2 = g := by simpa using hm
      subst this
      exact key hr hr'
    · cases hm
  | _ => simp [opIn] at h

/-- each object that is handed in behind a pointer stands in an argument that is never written -/
def pinOk (args : List PV) (ro : List Nat) : List (Nat × GObj) → Bool
  | [] => true
  | (g, o) :: r => ((!o.own || ro.any fun i => match args[i]? with | some p => opIn g p | _ => false) && (!keptId g || ro.any fun i => match args[i]? with | some (.os g') => g' == g | _ => false)) && pinOk args ro r

theorem pinned_get {args : List PV} {s : St} : ∀ {ro : List Nat}, pinned args s ro → ∀ i ∈ ro, args[i]? = some (s.get i)
  | [], _, i, hi => by cases hi
  | j :: r, h, i, hi => by
    rcases List.mem_cons.1 hi with rfl | hi
    · exact h.1
    · exact pinned_get h.2 i hi

theorem pinOk_get {args : List PV} {ro : List Nat} : ∀ {hp : List (Nat × GObj)}, pinOk args ro hp = true → ∀ g, ownId hp g = true → ∃ i ∈ ro, ∃ p, args[i]? = some p ∧ opIn g p = true
  | [], _, g, hg => by simp [ownId, aget] at hg
  | (g', o) :: r, h, g, hg => by
    simp only [pinOk, Bool.and_eq_true] at h
    unfold ownId at hg
    simp only [aget] at hg
    by_cases e : g' = g
    · subst e
      simp only [if_true] at hg
      rw [hg] at h
      simp only [Bool.not_true, Bool.false_or, List.any_eq_true] at h
      obtain ⟨⟨⟨i, hi, hm⟩, _⟩, _⟩ := h
      refine ⟨i, hi, ?_⟩
      split at hm
      · rename_i p ha
        exact ⟨p, ha, hm⟩
      · cases hm
    · simp only [e, if_false] at hg
      exact pinOk_get h.2 g hg

theorem pinOk_kept {args : List PV} {ro : List Nat} : ∀ {hp : List (Nat × GObj)}, pinOk args ro hp = true → ∀ g, hasId hp g = true → keptId g = true → ∃ i ∈ ro, args[i]? = some (.os g)
  | [], _, g, hg, _ => by simp [hasId, aget] at hg
  | (g', o') :: r, h, g, hg, hk => by
    simp only [pinOk, Bool.and_eq_true] at h
    unfold hasId at hg
    simp only [aget] at hg
    by_cases e : g' = g
    · subst e
      have h2 := h.1.2
      rw [hk] at h2
      simp only [Bool.not_true, Bool.false_or, List.any_eq_true] at h2
      obtain ⟨i, hi, hm⟩ := h2
      refine ⟨i, hi, ?_⟩
      split at hm
      · rename_i g2 ha
        have : g2 = g' := by simpa using hm
        subst this
        exact ha
      · cases hm
    · simp only [e, if_false] at hg
      exact pinOk_kept h.2 g hg hk

theorem FH.intro (hE : ∀ T, TDok P T (E T)) (hC : ∀ f as r, C f as r → FC P f as r) (hH : ∀ f as hp r hp', H f as hp r hp' → FH P f as hp r hp') (hS : ∀ g caps xs, Sq g caps xs → FSeq P g caps xs) (hmix : P.follows .mixedOrders = true) (plan : List (Nat × Nat)) (vars ro : List Nat)
    {f : Nat} {fn : Func} {body : Code} {args : List PV} {hp hp' : List (Nat × GObj)} {r : PV} (hf : P.funcs[f]? = some fn) (hb : fn.body = some body) (henter : ∀ (args : Array Value) (w : World), (callFunc f args).run P w = .ok (.enter f args) w)
    (hok : codeOk plan fn.ntmps ro body = true) (hargs : args.length ≤ fn.ntmps) (hpin : pinOk args ro hp = true) (h : wpc E C H Sq plan body (retK E fn.results.toList fun p s => p = r ∧ subHp hp' s.hp ∧ pinned args s ro) ⟨initVs args vars, [], hp⟩) :
    FH P f args hp r hp' := by
  refine ⟨henter, fun vs w M F δ hi hrep => ?_⟩
  refine (callsIn_wide (n := 0)).1 (callsIn_of_wp_marks hf hb trivial ?_ rfl)
  have hrel := init_rel hi hrep fn hargs vars ro
  refine wpc_wp hE hC hH hS hmix body none _ _ _ _ _ w M _ _ (.inl rfl) hok h hrel ?_
  rintro e a w' ⟨s, M', δ', hk, hm, hr⟩
  have fin : (resK E s fn.results.toList fun ps => oneOrTup ps = r ∧ subHp hp' s.hp ∧ pinned args s ro) →
      LeavesInM (FnR none) 0 P fn a.tmps (fun e w' => ∃ M' δ' v, e = .returned v ∧ M.le M' ∧ Inv M' F δ' hp' w' ∧ RepS M' δ' r v ∧ (∀ g, ownId hp g = true → SameB δ δ' g) ∧ ∀ g, hasId hp g = true → keptId g = true → δ' g = δ g) a.defers .returning w' := by
    intro hk
    refine leaves_marks a.defers M' w' hr.def0 hr.inv hr.slot fun M2 w2 hle hi2 hs2 => ?_
    have hr2 : Rel ⟨fn.ntmps, [], fun _ => undef, fun _ => none⟩ s ⟨a.tmps, []⟩ w2 M2 F δ' := ⟨⟨fun b o h => (by cases h), List.nodup_nil, fun d hd => (by cases hd)⟩, hr.size, fun i hi => (by simp at hi), hs2, hi2⟩
    obtain ⟨p, v, ⟨rfl, h1, h2⟩, h3, h4⟩ := results_run (K := fun p s => p = r ∧ subHp hp' s.hp ∧ pinned args s ro) hE hr2 hk
    refine ⟨v, h4, M2, δ', v, rfl, hle, hr2.inv.sub h1, h3, ?_, ?_⟩
    rotate_left
    · intro g hg hk
      obtain ⟨i, hi, ha⟩ := pinOk_kept hpin g hg hk
      have hs := pinned_get h2 i hi
      rw [ha] at hs
      have hs' : s.get i = .os g := (Option.some.inj hs).symm
      have h5 := hr.slot i
      have hro : a.tmps.getD i undef = _ := hr.ro i (by simpa using hi)
      rw [hro, hs'] at h5
      have h6 := h5.os_inv
      obtain ⟨v0, hv0, hr0⟩ := hrep.get i _ ha
      have hlt : i < vs.length := (List.getElem?_eq_some_iff.1 hv0).1
      have hval : (vs.toArray ++ Array.replicate (fn.ntmps - vs.toArray.size) undef).getD i undef = v0 := by
        rw [Array.getD_eq_getD_getElem?, Array.getElem?_append_left (by simpa using hlt)]
        simp [hv0]
      simp only at h6
      rw [hval] at h6
      have h7 := hr0.os_inv
      rw [← h6, ← h7]
    intro g hg
    obtain ⟨i, hi, q, ha, hop⟩ := pinOk_get hpin g hg
    have hs := pinned_get h2 i hi
    rw [ha] at hs
    have hs' : s.get i = q := (Option.some.inj hs).symm
    have h5 := hr.slot i
    have hro : a.tmps.getD i undef = _ := hr.ro i (by simpa using hi)
    rw [hro, hs'] at h5
    obtain ⟨v0, hv0, hr0⟩ := hrep.get i _ ha
    have hlt : i < vs.length := (List.getElem?_eq_some_iff.1 hv0).1
    have hval : (vs.toArray ++ Array.replicate (fn.ntmps - vs.toArray.size) undef).getD i undef = v0 := by
      rw [Array.getD_eq_getD_getElem?, Array.getElem?_append_left (by simpa using hlt)]
      simp [hv0]
    simp only at h5
    rw [hval] at h5
    exact opIn_same hop hr0 h5
  cases e with
  | normal => exact fin hk
  | ret => exact fin hk
  | _ => exact hk.elim

end
end Go.Proofs.Ytogehfalhodapaa.Pv
namespace Go.Proofs.Ytogehfalhodapaa.Pv
open Go
set_option linter.unusedSimpArgs false
set_option linter.unusedVariables false

def kindEq (a b : IntKind) : Bool := decide (a = b)

/-- the zero value of a type, cell by cell -/
def zeroEq : List Value → List PV → Bool
  | [], [] => true
  | .int k n :: r, .int k' n' :: r' => kindEq k k' && decide (n = n') && zeroEq r r'
  | .bool b :: r, .bool b' :: r' => b == b' && zeroEq r r'
  | .string s :: r, .str s' :: r' => s.data.toList.isEmpty && s'.data.toList.isEmpty && zeroEq r r'
  | .slice none 0 0 :: r, .nilsl :: r' => zeroEq r r'
  | .pointer none :: r, .nilptr :: r' => zeroEq r r'
  | .nilFunc :: r, .nilfn :: r' => zeroEq r r'
  | _, _ => false

def isAggD (P : Program) (T : TypeId) : Option Bool :=
  match P.underlying T with
  | some (.struct _) => some true
  | some (.array _ _) => some true
  | some _ => some false
  | none => none

def zeroAt (P : Program) (T : TypeId) (size : Nat) (z : List PV) : Bool :=
  match P.info? T with
  | some i => i.size == size && match i.zero with
    | some zv => zeroEq zv.cells.toList z
    | none => false
  | none => false

def fieldsCheck (P : Program) (zl : Nat) : List Field → List (Nat × Nat × Bool) → Bool
  | [], [] => true
  | f :: fs, (off, sz, ag) :: r => f.offset == off && decide (0 < sz) && decide (off + sz ≤ zl) && (match P.info? f.type with | some j => j.size == sz | none => false) && (isAggD P f.type == some ag) && (ag || sz == 1) && fieldsCheck P zl fs r
  | _, _ => false

def cmpCheck (P : Program) : Nat → List Field → Bool
  | _, [] => true
  | k, f :: fs => decide (f.name ≠ "_") && f.offset == k && (match P.underlying f.type with | some (.int _) => true | _ => false) && cmpCheck P (k + 1) fs

def tdCheck (P : Program) (T : TypeId) (d : TD) : Bool :=
  match d with
  | .int k => (match P.underlying T with | some (.int k') => kindEq k k' | _ => false) && zeroAt P T 1 [.int k 0]
  | .bool => (match P.underlying T with | some .bool => true | _ => false) && zeroAt P T 1 [.bool false]
  | .str => (match P.underlying T with | some .string => true | _ => false) && zeroAt P T 1 [.str ⟨#[]⟩]
  | .ptr => (match P.underlying T with | some (.pointer _) => true | _ => false) && zeroAt P T 1 [.nilptr]
  | .func => (match P.underlying T with | some (.func _ _ _) => true | _ => false) && zeroAt P T 1 [.nilfn]
  | .slice e esz eb z => (match P.underlying T with | some (.slice e') => e == e' | _ => false) && zeroAt P T 1 [.nilsl] && zeroAt P e esz z && z.length == esz && decide (0 < esz) && (match P.info? e with | some j => j.bytes == eb | none => false) && leafs z
  | .arr n esz ag z => (match P.underlying T with | some (.array n' e) => n == n' && isAggD P e == some ag && (match P.info? e with | some j => j.size == esz | none => false) | _ => false) && zeroAt P T z.length z && n * esz == z.length && (ag || esz == 1) && leafs z
  | .struct fs z cmp => (match P.underlying T with | some (.struct fields) => fieldsCheck P z.length fields.toList fs && (!cmp || (!P.stoodInHeld T && !P.eqGuardType P.depth T && z.length == fields.size && cmpCheck P 0 fields.toList)) | _ => false) && zeroAt P T z.length z && leafs z
  | .other => true

section
variable {P : Program}

theorem zeroEq_ok (M : Mem) : ∀ (vs : List Value) (z : List PV), zeroEq vs z = true → RepIs M z vs
  | [], [], _ => .nil
  | .int k n :: r, .int k' n' :: r', h => by
    simp only [zeroEq, kindEq, Bool.and_eq_true, decide_eq_true_eq] at h
    obtain ⟨⟨rfl, rfl⟩, h⟩ := h
    exact .cons _ _ _ _ (.int _ _) (zeroEq_ok M r r' h)
  | .bool b :: r, .bool b' :: r', h => by
    simp only [zeroEq, Bool.and_eq_true, beq_iff_eq] at h
    obtain ⟨rfl, h⟩ := h
    exact .cons _ _ _ _ (.bool _) (zeroEq_ok M r r' h)
  | .string s :: r, .str s' :: r', h => by
    simp only [zeroEq, Bool.and_eq_true, List.isEmpty_iff] at h
    obtain ⟨⟨h1, h2⟩, h⟩ := h
    have e1 : s = ⟨#[]⟩ := by cases s; congr 1; exact Array.toList_inj.1 h1
    have e2 : s' = ⟨#[]⟩ := by cases s'; congr 1; exact Array.toList_inj.1 h2
    subst e1; subst e2
    exact .cons _ _ _ _ (.str _) (zeroEq_ok M r r' h)
  | .slice none 0 0 :: r, .nilsl :: r', h => .cons _ _ _ _ .nilsl (zeroEq_ok M r r' h)
  | .pointer none :: r, .nilptr :: r', h => .cons _ _ _ _ .nilptr (zeroEq_ok M r r' h)
  | .nilFunc :: r, .nilfn :: r', h => .cons _ _ _ _ .nilfn (zeroEq_ok M r r' h)
  | .slice none (n + 1) c :: r, .nilsl :: r', h => by simp [zeroEq] at h
  | .slice none 0 (c + 1) :: r, .nilsl :: r', h => by simp [zeroEq] at h
  | .slice (some _) n c :: r, q :: r', h => by cases q <;> simp [zeroEq] at h
  | .pointer (some _) :: r, q :: r', h => by cases q <;> simp [zeroEq] at h
  | [], q :: r', h => by simp [zeroEq] at h
  | v :: r, [], h => by cases v <;> simp [zeroEq] at h
  | .float .. :: r, q :: r', h => by cases q <;> simp [zeroEq] at h
  | .complex .. :: r, q :: r', h => by cases q <;> simp [zeroEq] at h
  | .map .. :: r, q :: r', h => by cases q <;> simp [zeroEq] at h
  | .chan .. :: r, q :: r', h => by cases q <;> simp [zeroEq] at h
  | .func .. :: r, q :: r', h => by cases q <;> simp [zeroEq] at h
  | .iface .. :: r, q :: r', h => by cases q <;> simp [zeroEq] at h
  | .nilIface :: r, q :: r', h => by cases q <;> simp [zeroEq] at h
  | .agg .. :: r, q :: r', h => by cases q <;> simp [zeroEq] at h
  | .tuple .. :: r, q :: r', h => by cases q <;> simp [zeroEq] at h
  | .int k n :: r, q :: r', h => by
    cases q <;> first | (simp [zeroEq] at h; done) | skip
    simp only [zeroEq, kindEq, Bool.and_eq_true, decide_eq_true_eq] at h
    obtain ⟨⟨rfl, rfl⟩, h⟩ := h
    exact .cons _ _ _ _ (.int _ _) (zeroEq_ok M r r' h)
  | .bool b :: r, q :: r', h => by
    cases q <;> first | (simp [zeroEq] at h; done) | skip
    simp only [zeroEq, Bool.and_eq_true, beq_iff_eq] at h
    obtain ⟨rfl, h⟩ := h
    exact .cons _ _ _ _ (.bool _) (zeroEq_ok M r r' h)
  | .string s :: r, q :: r', h => by
    cases q <;> first | (simp [zeroEq] at h; done) | skip
    simp only [zeroEq, Bool.and_eq_true, List.isEmpty_iff] at h
    rename_i s'
    obtain ⟨⟨h1, h2⟩, h⟩ := h
    have e1 : s = ⟨#[]⟩ := by cases s; congr 1; exact Array.toList_inj.1 h1
    have e2 : s' = ⟨#[]⟩ := by cases s'; congr 1; exact Array.toList_inj.1 h2
    subst e1; subst e2
    exact .cons _ _ _ _ (.str _) (zeroEq_ok M r r' h)
  | .slice none n c :: r, q :: r', h => by
    cases q <;> first | (simp [zeroEq] at h; done) | skip
    cases n <;> cases c <;> first | (simp [zeroEq] at h; done) | exact .cons _ _ _ _ .nilsl (zeroEq_ok M r r' h)
  | .pointer none :: r, q :: r', h => by
    cases q <;> first | (simp [zeroEq] at h; done) | exact .cons _ _ _ _ .nilptr (zeroEq_ok M r r' h)
  | .nilFunc :: r, q :: r', h => by
    cases q <;> first | (simp [zeroEq] at h; done) | exact .cons _ _ _ _ .nilfn (zeroEq_ok M r r' h)

theorem zeroAt_ok {T : TypeId} {size : Nat} {z : List PV} (h : zeroAt P T size z = true) (hl : leafs z = true) : ∃ i zv, P.info? T = some i ∧ i.size = size ∧ i.zero = some zv ∧ ZeroOk zv z := by
  unfold zeroAt at h
  split at h
  · rename_i i hi
    simp only [Bool.and_eq_true, beq_iff_eq] at h
    obtain ⟨h1, h2⟩ := h
    split at h2
    · rename_i zv hz
      refine ⟨i, zv, hi, h1, hz, ?_, fun M => zeroEq_ok M _ _ h2, hl⟩
      have := (zeroEq_ok (fun _ => none) _ _ h2).length
      simpa using this.symm
    · cases h2
  · cases h

theorem aggD_ok {T : TypeId} {b : Bool} (h : (isAggD P T == some b) = true) : aggD P T b := by
  have h : isAggD P T = some b := by simpa using h
  unfold isAggD at h
  split at h
  · rename_i hu; exact ⟨_, hu, by simpa using h⟩
  · rename_i hu; exact ⟨_, hu, by simpa using h⟩
  · rename_i d h1 h2 hu
    refine ⟨_, hu, ?_⟩
    cases d <;> first | (simpa using h) | simp_all
  · cases h

theorem fields_ok {zl : Nat} : ∀ (fl : List Field) (fs : List (Nat × Nat × Bool)), fieldsCheck P zl fl fs = true → fs.length = fl.length ∧
    ∀ (k off sz : Nat) (ag : Bool), fs[k]? = some (off, sz, ag) → ∃ f, fl[k]? = some f ∧ f.offset = off ∧ 0 < sz ∧ off + sz ≤ zl ∧ (∃ j, P.info? f.type = some j ∧ j.size = sz) ∧ aggD P f.type ag ∧ (ag = false → sz = 1)
  | [], [], _ => ⟨rfl, by intro k off sz ag h; simp at h⟩
  | [], _ :: _, h => by simp [fieldsCheck] at h
  | _ :: _, [], h => by simp [fieldsCheck] at h
  | f :: fl, (off, sz, ag) :: fs, h => by
    simp only [fieldsCheck, Bool.and_eq_true, beq_iff_eq, decide_eq_true_eq, Bool.or_eq_true] at h
    obtain ⟨⟨⟨⟨⟨⟨h1, h2⟩, h3⟩, h4⟩, h5⟩, h6⟩, h7⟩ := h
    obtain ⟨i1, i2⟩ := fields_ok fl fs h7
    refine ⟨by simp [i1], ?_⟩
    intro k off' sz' ag' hk
    cases k with
    | succ k => exact i2 k off' sz' ag' (by simpa using hk)
    | zero =>
      simp only [List.getElem?_cons_zero, Option.some.injEq, Prod.mk.injEq] at hk
      obtain ⟨rfl, rfl, rfl⟩ := hk
      refine ⟨f, rfl, h1, h2, h3, ?_, aggD_ok (by simp [h5]), ?_⟩
      · split at h4
        · rename_i j hj; exact ⟨j, hj, by simpa using h4⟩
        · cases h4
      · intro hf
        rcases h6 with h6 | h6
        · rw [hf] at h6; cases h6
        · exact h6

theorem cmp_ok : ∀ (fl : List Field) (n : Nat), cmpCheck P n fl = true → ∀ (k : Nat) (f : Field), fl[k]? = some f → f.name ≠ "_" ∧ f.offset = n + k ∧ ∃ kk, P.underlying f.type = some (.int kk)
  | [], _, _, k, f, h => by simp at h
  | g :: fl, n, h, k, f, hk => by
    simp only [cmpCheck, Bool.and_eq_true, beq_iff_eq, decide_eq_true_eq] at h
    obtain ⟨⟨⟨h1, h2⟩, h3⟩, h4⟩ := h
    cases k with
    | zero =>
      simp at hk; subst hk
      refine ⟨h1, h2, ?_⟩
      split at h3
      · rename_i kk hu; exact ⟨kk, hu⟩
      · cases h3
    | succ k =>
      obtain ⟨e1, e2, e3⟩ := cmp_ok fl (n + 1) h4 k f (by simpa using hk)
      exact ⟨e1, by omega, e3⟩

theorem tdCheck_ok {T : TypeId} {d : TD} (h : tdCheck P T d = true) : TDok P T d := by
  have z1 : ∀ {z : List PV}, zeroAt P T 1 z = true → leafs z = true → one1 P T ∧ ∃ i zv, P.info? T = some i ∧ i.zero = some zv ∧ ZeroOk zv z := by
    intro z h hl
    obtain ⟨i, zv, h1, h2, h3, h4⟩ := zeroAt_ok h hl
    exact ⟨⟨i, h1, h2⟩, i, zv, h1, h3, h4⟩
  cases d <;> simp only [tdCheck, Bool.and_eq_true] at h <;> simp only [TDok]
  case int k =>
    obtain ⟨h1, h2⟩ := h
    split at h1
    · rename_i k' hu
      have : k = k' := by simpa [kindEq] using h1
      subst this
      exact ⟨hu, z1 h2 rfl⟩
    · cases h1
  case bool =>
    obtain ⟨h1, h2⟩ := h
    split at h1
    · rename_i hu; exact ⟨hu, z1 h2 rfl⟩
    · cases h1
  case str =>
    obtain ⟨h1, h2⟩ := h
    split at h1
    · rename_i hu; exact ⟨hu, z1 h2 rfl⟩
    · cases h1
  case ptr =>
    obtain ⟨h1, h2⟩ := h
    split at h1
    · rename_i hu; exact ⟨⟨_, hu⟩, z1 h2 rfl⟩
    · cases h1
  case func =>
    obtain ⟨h1, h2⟩ := h
    split at h1
    · rename_i hu; exact ⟨⟨_, _, _, hu⟩, z1 h2 rfl⟩
    · cases h1
  case slice e esz eb z =>
    obtain ⟨⟨⟨⟨⟨⟨h1, h2⟩, h3⟩, h4⟩, h5⟩, h6⟩, h7⟩ := h
    split at h1
    · rename_i e' hu
      have : e = e' := by simpa using h1
      subst this
      obtain ⟨o1, o2⟩ := z1 h2 rfl
      obtain ⟨j, zv, j1, j2, j3, j4⟩ := zeroAt_ok h3 h7
      rw [j1] at h6
      exact ⟨hu, o1, o2, ⟨j, zv, j1, j2, by simpa using h6, j3, j4⟩, by simpa using h4, by simpa using h5⟩
    · cases h1
  case arr n esz ag z =>
    obtain ⟨⟨⟨⟨h1, h2⟩, h3⟩, h4⟩, h5⟩ := h
    split at h1
    · rename_i n' e hu
      simp only [Bool.and_eq_true] at h1
      obtain ⟨⟨a1, a2⟩, a3⟩ := h1
      have : n = n' := by simpa using a1
      subst this
      obtain ⟨i, zv, i1, i2, i3, i4⟩ := zeroAt_ok h2 h5
      refine ⟨e, hu, aggD_ok a2, ?_, ⟨i, zv, i1, i2, i3, i4⟩, by simpa using h3, ?_⟩
      · split at a3
        · rename_i j hj; exact ⟨j, hj, by simpa using a3⟩
        · cases a3
      · intro hf
        subst hf
        simpa using h4
    · cases h1
  case struct fs z cmp =>
    obtain ⟨⟨h1, h2⟩, h3⟩ := h
    split at h1
    · rename_i fields hu
      simp only [Bool.and_eq_true] at h1
      obtain ⟨a1, a2⟩ := h1
      obtain ⟨i, zv, i1, i2, i3, i4⟩ := zeroAt_ok h2 h3
      obtain ⟨f1, f2⟩ := fields_ok _ _ a1
      refine ⟨fields, hu, by simpa using f1, fun k off sz ag hk => ?_, ⟨i, zv, i1, i2, i3, i4⟩, fun hc => ?_⟩
      · obtain ⟨f, g1, g2⟩ := f2 k off sz ag hk
        exact ⟨f, by simpa using g1, g2⟩
      · subst hc
        simp only [Bool.not_true, Bool.false_or, Bool.and_eq_true, Bool.not_eq_true', beq_iff_eq] at a2
        obtain ⟨⟨⟨c1, c2⟩, c3⟩, c4⟩ := a2
        refine ⟨c1, c2, c3, fun k f hk => ?_⟩
        obtain ⟨e1, e2, e3⟩ := cmp_ok _ 0 c4 k f (by simpa using hk)
        exact ⟨e1, by omega, e3, trivial⟩
    · cases h1

theorem tenv_ok (l : List (Nat × TD)) (h : (l.all fun x => tdCheck P x.1 x.2) = true) : ∀ T, TDok P T (match aget l T with | some d => d | none => .other) := by
  intro T
  cases hg : aget l T with
  | none => trivial
  | some d =>
    have : ∀ (l : List (Nat × TD)), aget l T = some d → (T, d) ∈ l := by
      intro l
      induction l with
      | nil => intro h; simp [aget] at h
      | cons x r ih =>
        obtain ⟨j, e⟩ := x
        intro h
        simp only [aget] at h
        split at h
        · rename_i e1; subst e1; cases h; simp
        · exact List.mem_cons_of_mem _ (ih h)
    rw [List.all_eq_true] at h
    exact tdCheck_ok (h _ (this l hg))

end
end Go.Proofs.Ytogehfalhodapaa.Pv
namespace Go.Proofs.Ytogehfalhodapaa.Pv
open Go
/-- the arithmetic of the evaluator, kept from being computed while the program's text is -/
structure Ar where
  i : (Unit → Int) → Int
  n : (Unit → Nat) → Nat
  b : (Unit → Bool) → Bool
  s : (Unit → ByteArray) → ByteArray
  p : (Unit → Prop) → Prop
  e : (Unit → List (List PV)) → List (List PV)
  c : (Unit → List PV) → List PV
  q : PV → (Unit → PV) → Prop
  e2 : PV → (Unit → PV) → Prop
def withE (es : List (List PV)) (k : List (List PV) → Prop) : Prop := k es
def withC (cs : List PV) (k : List PV → Prop) : Prop := k cs
def ar : Ar := ⟨fun f => f (), fun f => f (), fun f => f (), fun f => f (), fun f => f (), fun f => f (), fun f => f (), fun p f => p = f () ∨ wk p (f ()), fun p f => p = f ()⟩

def binIntA (A : Ar) (op : BinOp) (k : IntKind) (a b : Int) (K : PV → Prop) : Prop :=
  match op with
  | .add => match k with | .i64 => A.p (fun _ => inI64 (a + b)) ∧ K (.int .i64 (A.i fun _ => a + b)) | k => K (.int k (A.i fun _ => k.wrap (a + b)))
  | .sub => match k with | .i64 => A.p (fun _ => inI64 (a - b)) ∧ K (.int .i64 (A.i fun _ => a - b)) | k => K (.int k (A.i fun _ => k.wrap (a - b)))
  | .mul => match k with | .i64 => A.p (fun _ => inI64 (a * b)) ∧ K (.int .i64 (A.i fun _ => a * b)) | k => K (.int k (A.i fun _ => k.wrap (a * b)))
  | .quo => match k with | .i64 => A.p (fun _ => b ≠ 0 ∧ inI64 (a.tdiv b)) ∧ K (.int .i64 (A.i fun _ => a.tdiv b)) | k => A.p (fun _ => b ≠ 0) ∧ K (.int k (A.i fun _ => k.wrap (a.tdiv b)))
  | .rem => A.p (fun _ => b ≠ 0) ∧ K (.int k (A.i fun _ => a.tmod b))
  | .eql => K (.bool (A.b fun _ => decide (a = b)))
  | .neq => K (.bool (A.b fun _ => !decide (a = b)))
  | .lss => K (.bool (A.b fun _ => decide (a < b)))
  | .leq => K (.bool (A.b fun _ => decide (a ≤ b)))
  | .gtr => K (.bool (A.b fun _ => decide (b < a)))
  | .geq => K (.bool (A.b fun _ => decide (b ≤ a)))
  | .and => K (.int k (A.i fun _ => k.wrap ((BitVec.ofInt k.bits a &&& BitVec.ofInt k.bits b).toNat : Int)))
  | .or => K (.int k (A.i fun _ => k.wrap ((BitVec.ofInt k.bits a ||| BitVec.ofInt k.bits b).toNat : Int)))
  | .xor => K (.int k (A.i fun _ => k.wrap ((BitVec.ofInt k.bits a ^^^ BitVec.ofInt k.bits b).toNat : Int)))
  | _ => False

def shiftIntA (A : Ar) (op : BinOp) (k : IntKind) (a b : Int) (K : PV → Prop) : Prop :=
  match op with
  | .shl => A.p (fun _ => 0 ≤ b) ∧ K (.int k (A.i fun _ => k.wrap (a * 2 ^ (min b.toNat k.bits))))
  | .shr => A.p (fun _ => 0 ≤ b) ∧ K (.int k (A.i fun _ => a.fdiv (2 ^ (min b.toNat k.bits))))
  | _ => False

def cellsEqA (A : Ar) : List PV → List PV → Option Bool
  | [], [] => some true
  | .int k a :: r, .int k' b :: r' => match decide (k = k'), cellsEqA A r r' with | true, some c => some (A.b fun _ => decide (a = b) && c) | _, _ => none
  | _, _ => none

def binValA (A : Ar) (d : TD) (op : BinOp) (a b : PV) (K : PV → Prop) : Prop :=
  match a, b with
  | .int k x, .int k' y => match op with
    | .shl => shiftIntA A .shl k x y K
    | .shr => shiftIntA A .shr k x y K
    | op => k = k' ∧ binIntA A op k x y K
  | .bool x, .bool y => match d with | .bool => eqOut op (A.b fun _ => decide (x = y)) K | _ => False
  | .str x, .str y => match op with
    | .eql => K (.bool (A.b fun _ => decide (x = y)))
    | .neq => K (.bool (A.b fun _ => !decide (x = y)))
    | .add => A.p (fun _ => x.size + y.size ≤ 9223372036854775807) ∧ K (.str (A.s fun _ => x ++ y))
    | _ => False
  | .agg x, .agg y => match d with
    | .struct _ z true => if x.length = z.length then match cellsEqA A x y with | some c => eqOut op c K | none => False else False
    | _ => False
  | x, .nilptr => match d, isNilP x with | .ptr, some c => eqOut op c K | _, _ => False
  | x, .nilfn => match d, isNilF x with | .func, some c => eqOut op c K | _, _ => False
  | _, _ => False

def lenValA (A : Ar) (hp : List (Nat × GObj)) (p : PV) (K : PV → Prop) : Prop :=
  match p with
  | .sl _ es => K (.int .i64 (A.i fun _ => es.length))
  | .nilsl => K (.int .i64 0)
  | .os g => match aget hp g with | some o => withE o.es fun es => K (.int .i64 (A.i fun _ => es.length)) | none => False
  | _ => False

/-- an operation that changes no object of the call's own: the value that it yields -/
def valOpA (A : Ar) (E : Env) (C : Ctr) (o : Oper) (s : St) (K : PV → Prop) : Prop :=
  match o.op with
  | .move x => K (opnd s x)
  | .assign x => K (opnd s x)
  | .pick c a b => match opnd s c with | .bool true => K (opnd s a) | .bool false => K (opnd s b) | _ => False
  | .box _ x => (isImm (opnd s x) = true ∧ leafs (opnd s x).cells = true) ∧ K (.ptr (opnd s x).cells)
  | .build T ps => match E T with
    | .struct fs z _ => match fillF s fs ps.toList z with | some cs => K (.agg cs) | none => False
    | .arr n esz _ z => match fillA s n esz ps.toList z with | some cs => K (.agg cs) | none => False
    | _ => False
  | .buildSlice T n ps => match E T with
    | .slice _ esz _ z => match fillS s esz ps.toList (List.replicate n z) with
      | some es => (n * esz ≤ 16777216 ∧ isImms es.flatten = true) ∧ K (.sl esz es)
      | none => False
    | _ => False
  | .load T x => match opnd s x with
    | .ptr cs => loadVal (E T) cs K
    | .op g sz i f => match aget s.hp g with
      | some ob => if ob.sz = sz then match ob.own with
        | true => match ob.es[i]? with
          | some c => loadVal (E T) (c.drop f) K
          | none => False
        | false => withE ob.es fun es => ∃ c, es[i]? = some c ∧ loadVal (E T) (c.drop f) K
        else False
      | none => False
    | _ => False
  | .nilCheck x => match opnd s x with | .ptr cs => K (.ptr cs) | .op a b c d => K (.op a b c d) | .fn (.func f) b c => K (.fn (.func f) b c) | _ => False
  | .binOp op T x y _ => binValA A (E T) op (opnd s x) (opnd s y) K
  | .unOp op _ x => match op, opnd s x with
    | .not, .bool b => K (.bool (A.b fun _ => !b))
    | .neg, .int .i64 n => A.p (fun _ => inI64 (-n)) ∧ K (.int .i64 (A.i fun _ => -n))
    | _, _ => False
  | .convert S D x => match E S, E D, opnd s x with
    | .int _, .int k, .int _ n => K (.int k (A.i fun _ => k.wrap n))
    | .slice e _ _ _, .str, .sl sz es => match E e with
      | .int .u8 => sz = 1 ∧ ∃ ns : List Int, es = byteCells ns ∧ K (.str (A.s fun _ => bytesStr ns))
      | _ => False
    | _, _, _ => False
  | .makeFunc fn a b => K (.fn fn (opnds s a.toList) (opnds s b.toList))
  | .slice T x lo hi none => match E T with
    | .slice _ esz _ _ => match opnd s x with
      | .sl sz es => if sz ≠ esz then False else boundOf s lo 0 fun l => boundOf s hi (A.i fun _ => es.length) fun h => A.p (fun _ => 0 ≤ l ∧ l ≤ h ∧ h ≤ es.length) ∧ K (.sl sz (A.e fun _ => (es.take h.toNat).drop l.toNat))
      | .nilsl => boundOf s lo 0 fun l => boundOf s hi 0 fun h => A.p (fun _ => l = 0 ∧ h = 0) ∧ K .nilsl
      | _ => False
    | _ => False
  | .fieldAddr S x f => match E S with
    | .struct fs _ _ => match fs[f]?, opnd s x with
      | some (off, _, _), .ptr cs => K (.ptr (cs.drop off))
      | some (off, _, _), .op g sz i fo => K (.op g sz i (fo + off))
      | _, _ => False
    | _ => False
  | .field T x f => match E T, opnd s x with
    | .struct fs _ _, .agg cs => match fs[f]? with
      | some (off, sz, true) => off + sz ≤ cs.length ∧ K (.agg ((cs.drop off).take sz))
      | some (off, _, false) => match cs[off]? with | some p => K p | none => False
      | none => False
    | _, _ => False
  | .indexAddr T x i => match E T, opnd s x, opnd s i with
    | .slice _ esz _ _, .sl sz es, .int _ n => if sz = esz then ∃ c, es[n.toNat]? = some c ∧ 0 ≤ n ∧ K (.ptr c) else False
    | .slice _ esz _ _, .os g, .int _ n => match aget s.hp g with
      | some ob => if ob.sz = esz then (withE ob.es fun es => A.p (fun _ => 0 ≤ n ∧ n < es.length) ∧ K (.op g ob.sz (A.n fun _ => n.toNat) 0)) else False
      | none => False
    | .arr len esz _ _, .ptr cs, .int _ n => match i with | .const _ => ifB (decide (0 ≤ n) && decide (n < len)) (K (.ptr (cs.drop (n.toNat * esz)))) | _ => A.p (fun _ => 0 ≤ n ∧ n < len) ∧ K (.ptr (A.c fun _ => cs.drop (n.toNat * esz)))
    | .arr len esz _ _, .op g sz j f, .int _ n => match i with | .const _ => ifB (decide (0 ≤ n) && decide (n < len)) (K (.op g sz j (f + n.toNat * esz))) | _ => A.p (fun _ => 0 ≤ n ∧ n < len) ∧ K (.op g sz j (A.n fun _ => f + n.toNat * esz))
    | _, _, _ => False
  | .index T x i => match E T, opnd s x, opnd s i with
    | .arr len esz ag _, .agg cs, .int _ n => A.p (fun _ => 0 ≤ n ∧ n < len) ∧ match ag with
      | true => A.p (fun _ => n.toNat * esz + esz ≤ cs.length) ∧ K (.agg (A.c fun _ => (cs.drop (n.toNat * esz)).take esz))
      | false => ∃ p, cs[n.toNat * esz]? = some p ∧ K p
    | _, _, _ => False
  | .extract t i => match opnd s t with
    | .tup cs => match cs[i]? with | some p => K p | none => False
    | _ => False
  | .call c => match c.callee with
    | .value f => match opnd s f with
      | .fn (.func g) first caps => CallV C g (first ++ opnds s c.args.toList ++ caps) (borrows s.hp (first ++ opnds s c.args.toList ++ caps)) K
      | _ => False
    | .builtin .len => match c.args.toList, c.argTypes.toList with
      | [x], [T] => match E T with
        | .slice .. => lenValA A s.hp (opnd s x) K
        | .str => match opnd s x with | .str b => K (.int .i64 (A.i fun _ => b.size)) | _ => False
        | _ => False
      | _, _ => False
    | .builtin .min => match c.args.toList with
      | [x, y] => match opnd s x, opnd s y with
        | .int k a, .int k' b => k = k' ∧ K (.int k (A.i fun _ => if b < a then b else a))
        | _, _ => False
      | _ => False
    | _ => False
  | _ => False

def stepOpA (A : Ar) (E : Env) (C : Ctr) (H : Hnd) (plan : List (Nat × Nat)) (o : Oper) (K : St → Prop) (s : St) : Prop :=
  match o.op with
  | .assign x => match opnd s x, o.dst, E o.type with
    | .nilsl, some d, .slice e esz _ _ => match aget plan d with
      | some g => K ((s.newG g ⟨e, esz, [], false⟩).put d (.os g))
      | none => K (s.put d .nilsl)
    | v, d, _ => K (s.putO d v)
  | .alloc T => match zeroTD (E T), o.dst with
    | some z, some d => 0 < z.length ∧ match aget plan d with
      | some g => K ((s.newG g ⟨T, z.length, [z], true⟩).put d (.op g z.length 0 0))
      | none => K ((s.newG d ⟨T, z.length, [z], true⟩).put d (.op d z.length 0 0))
    | _, _ => False
  | .box T x => match o.dst with
    | some d => match aget plan d with
      | some g => (0 < (opnd s x).cells.length ∧ leafs (opnd s x).cells = true) ∧ K ((s.newG g ⟨T, (opnd s x).cells.length, [killPs g (opnd s x).cells], true⟩).put d (.op g (opnd s x).cells.length 0 0))
      | none => valOpA A E C o s fun p => K (s.putO o.dst p)
    | none => False
  | .buildSlice T n ps => match o.dst with
    | some d => match aget plan d with
      | some g => match E T with
        | .slice e esz _ z => match fillS s esz ps.toList (List.replicate n z) with
          | some es => (n * esz ≤ 16777216 ∧ isImms es.flatten = true) ∧ K ((s.newG g ⟨e, esz, es, false⟩).put d (.os g))
          | none => False
        | _ => False
      | none => valOpA A E C o s fun p => K (s.putO o.dst p)
    | none => False
  | .store T a x => match opnd s a, sizeTD (E T) with
    | .op g sz i f, some n => match aget s.hp g with
      | some ob => if ob.sz ≠ sz then False else match ob.own with
        | true => match ob.es[i]? with
          | some c => (f + n ≤ c.length ∧ (opnd s x).cells.length = n ∧ leafs (opnd s x).cells = true ∧ (true || isImm (opnd s x)) = true) ∧
            K (St.putO ⟨s.vs, s.ts, arep s.hp g ⟨ob.ty, ob.sz, ob.es.set i (splice c f (opnd s x).cells), true⟩⟩ o.dst (.tup []))
          | none => False
        | false => withE ob.es fun es => withC (opnd s x).cells fun cs => ifB (Nat.beq cs.length n && (leafs cs && isImm (opnd s x))) (∃ c, es[i]? = some c ∧ f + n ≤ c.length ∧
            K (St.putO ⟨s.vs, s.ts, arep s.hp g ⟨ob.ty, ob.sz, A.e fun _ => es.set i (splice c f cs), false⟩⟩ o.dst (.tup [])))
      | none => False
    | _, _ => False
  | .makeSlice T l c => match E T, opnd s l, opnd s c, o.dst with
    | .slice e esz eb z, .int _ l, .int _ c, some d =>
      let g := match aget plan d with | some g => g | none => d
      A.p (fun _ => 0 ≤ l ∧ l = c ∧ eb * l ≤ 281474976710656 ∧ l ≤ 9223372036854775807) ∧ K ((s.newG g ⟨e, esz, A.e fun _ => List.replicate l.toNat z, false⟩).put d (.os g))
    | _, _, _, _ => False
  | .call c => match c.callee with
    | .builtin .append => match c.args.toList, c.argTypes.toList, o.dst with
      | [x, y], [T, T'], some d => T = T' ∧ match E T with
        | .slice e esz eb _ => match asEs esz (borrow s.hp (opnd s y)) with
          | some new => match opnd s x with
            | .os g => match aget s.hp g with
              | some ob => withE ob.es fun es => (A.p (fun _ => (es.length + new.length) * eb ≤ 140737488355328 ∧ es.length + new.length ≤ 9223372036854775807) ∧ ob.own = false ∧ ob.ty = e ∧ ob.sz = esz) ∧ K ((s.newG g ⟨ob.ty, ob.sz, A.e fun _ => es ++ new, ob.own⟩).put d (.os g))
              | none => False
            | .nilsl =>
              let g := match aget plan d with | some g => g | none => d
              A.p (fun _ => new.length * eb ≤ 140737488355328 ∧ new.length ≤ 9223372036854775807) ∧ K ((s.newG g ⟨e, esz, new, false⟩).put d (.os g))
            | _ => False
          | none => False
        | _ => False
      | _, _, _ => False
    | .value f => match hand s c with
      | true => (match opnd s f with
        | .fn (.func g) first caps => CallH H g (first ++ opnds s c.args.toList ++ caps) s o.dst K
        | _ => False)
      | false => match handX s c || planned plan o.dst with
        | true => (match opnd s f with
          | .fn (.func g) first caps => CallX C H g (first ++ opnds s c.args.toList ++ caps) (borrows s.hp (first ++ opnds s c.args.toList ++ caps)) s o.dst K
          | _ => False)
        | false => valOpA A E C o s fun p => K (s.putO o.dst p)
    | _ => valOpA A E C o s fun p => K (s.putO o.dst p)
  | .slice T x lo hi none => match planned plan o.dst with
    | false => valOpA A E C o s fun p => K (s.putO o.dst p)
    | true => match E T, opnd s x, o.dst with
      | .slice _ esz _ _, .os g, some d => match aget s.hp g with
        | some ob => boundOf s lo 0 fun l => withE ob.es fun es => boundOf s hi (A.i fun _ => es.length) fun h => A.p (fun _ => l = 0 ∧ 0 ≤ h ∧ h ≤ es.length) ∧ (ob.own = false ∧ ob.sz = esz) ∧
            K ((s.newG g ⟨ob.ty, ob.sz, A.e fun _ => es.take h.toNat, ob.own⟩).put d (.os g))
        | none => False
      | _, _, _ => False
  | _ => valOpA A E C o s fun p => K (s.putO o.dst p)

def wprA (A : Ar) (E : Env) (C : Ctr) (H : Hnd) (plan : List (Nat × Nat)) (ops : List Oper) (gs : List Nat) : Nat → List Oper → (St → Prop) → St → Prop
  | _, [], K, s => K s
  | i, o :: r, K, s => guarded ops o (stepOpA A E C H plan o (fun s' => match gs.contains i with | true => splitB o.dst (wprA A E C H plan ops gs (i + 1) r K) s' | false => wprA A E C H plan ops gs (i + 1) r K s'))
      (fun s => wprA A E C H plan ops gs (i + 1) r K (s.putO o.dst (.tup []))) s

/-- a region whose order is open: operations that change no object alone -/
def wprQA (A : Ar) (E : Env) (C : Ctr) (ops : List Oper) (gs : List Nat) : Nat → List Oper → (St → Prop) → St → Prop
  | _, [], K, s => K s
  | i, o :: r, K, s => guarded ops o (fun s1 => valOpA A E C o s1 (fun p => match gs.contains i with | true => splitB o.dst (wprQA A E C ops gs (i + 1) r K) (s1.putO o.dst p) | false => wprQA A E C ops gs (i + 1) r K (s1.putO o.dst p)))
      (fun s => wprQA A E C ops gs (i + 1) r K (s.putO o.dst (.tup []))) s

/-- a region whose order is open, with operations that make or change objects -/
def wprDA (A : Ar) (E : Env) (C : Ctr) (H : Hnd) (plan : List (Nat × Nat)) (ops : List Oper) (gs ms : List Nat) (es : List (Nat × Bool)) : Nat → List Oper → (St → Prop) → St → Prop
  | _, [], K, s => K s
  | i, o :: r, K, s => guarded ops o
      (fun s1 => ifB (looksOk plan (cls ms i es) o s1) (match isEff plan o with
        | true => ifB (touchOk (aget plan 400000) plan o s1) (stepOpA A E C H plan o (fun s' => match gs.contains i with | true => splitB o.dst (wprDA A E C H plan ops gs ms es (i + 1) r K) s' | false => wprDA A E C H plan ops gs ms es (i + 1) r K s') s1)
        | false => valOpA A E C o s1 (fun p => ifB (resOk plan (cls ms i es) p) (match gs.contains i with | true => splitB o.dst (wprDA A E C H plan ops gs ms es (i + 1) r K) (s1.putO o.dst p) | false => wprDA A E C H plan ops gs ms es (i + 1) r K (s1.putO o.dst p)))))
      (fun s => wprDA A E C H plan ops gs ms es (i + 1) r K (s.putO o.dst (.tup []))) s

def wpcA (A : Ar) (E : Env) (C : Ctr) (H : Hnd) (Sq : Nat → List PV → List (List PV) → Prop) (plan : List (Nat × Nat)) : Code → (Exit → St → Prop) → St → Prop
  | .skip, Q, s => Q .normal s
  | .region n ops draw, Q, s => match draw with
    | false => cutAt plan (100000 + n) (fun Q => wprA A E C H plan ops.toList (guardsOf ops.toList) 0 ops.toList (Q .normal)) Q (frzAt plan n s.fresh)
    | true => match anyEff plan ops.toList with
      | false => cutAt plan (100000 + n) (fun Q => wprQA A E C ops.toList (guardsOf ops.toList) 0 ops.toList (Q .normal)) Q (frzAt plan n s.fresh)
      | true => cutAt plan (100000 + n) (fun Q => wprDA A E C H plan ops.toList (guardsOf ops.toList) (ancs ops.toList) (effList plan 0 ops.toList) 0 ops.toList (Q .normal)) Q (frzAt plan n s.fresh)
  | .seq a b, Q, s => wpcA A E C H Sq plan a (QSeq (wpcA A E C H Sq plan b Q) Q) s
  | .cond x a b, Q, s => cutAt plan (condKey a b) (fun Q s => condK (opnd s x) (wpcA A E C H Sq plan a Q) (wpcA A E C H Sq plan b Q) s) Q s
  | .block n c, Q, s => cutAt plan (300000 + n) (fun Q => wpcA A E C H Sq plan c (QBlock n Q)) Q s
  | .loop c, Q, s => LoopK (wpcA A E C H Sq plan c) Q s
  | .exit n, Q, s => Q (.exit n) s
  | .ret, Q, s => Q .ret s
  | .rangeFunc f ps a c, Q, s => RangeK Sq (fun Q => wpcA A E C H Sq plan a (QSeq1 (wpcA A E C H Sq plan c Q))) (writes a ++ writes c) (opnd s f) ps.toList Q s
  | .label _, Q, s => Q .normal s
  | .scope c, Q, s => wpcA A E C H Sq plan c (QScope Q) s
  | _, _, _ => False

theorem binIntA_eq : binIntA ar = binInt := rfl
theorem shiftIntA_eq : shiftIntA ar = shiftInt := rfl
theorem cellsEqA_eq : ∀ a b, cellsEqA ar a b = cellsEq a b := by
  intro a
  induction a with
  | nil => intro b; cases b <;> rfl
  | cons x r ih => intro b; cases b with
    | nil => cases x <;> rfl
    | cons y r' => cases x <;> cases y <;> first | rfl | (simp only [cellsEqA, cellsEq, ih]; rfl)
theorem binValA_eq : binValA ar = binVal := by
  funext d op a b K
  unfold binValA binVal
  simp only [cellsEqA_eq]
  rfl
theorem lenValA_eq : lenValA ar = lenVal := rfl
theorem exMatch {α : Type} (x : Option α) (P : α → Prop) : (∃ c, x = some c ∧ P c) = (match x with | some c => P c | none => False) := by
  cases x <;> simp
theorem matchOpt {α : Type} (x : Option α) (P Q : α → Prop) (h : ∀ c, P c = Q c) : (match x with | some c => P c | none => False) = (match x with | some c => Q c | none => False) := by
  cases x <;> simp [h]
theorem ifB_and (p q : Prop) [Decidable p] [Decidable q] (P : Prop) : ifB (decide p && decide q) P = ((p ∧ q) ∧ P) := by
  unfold ifB
  by_cases h : p <;> by_cases h' : q <;> simp [h, h']
theorem constMatch (i : Operand) (X : Prop) : (match i with | .const _ => X | _ => X) = X := by cases i <;> rfl
theorem valOpA_eq (E : Env) (C : Ctr) (o : Oper) (s : St) (K : PV → Prop) : valOpA ar E C o s K = valOp E C o s K := by
  have h : ∀ ob : GObj, ∀ (T i f : Nat), (match ob.own with
        | true => match ob.es[i]? with
          | some c => loadVal (E T) (c.drop f) K
          | none => False
        | false => withE ob.es fun es => ∃ c, es[i]? = some c ∧ loadVal (E T) (c.drop f) K) = (match ob.es[i]? with | some c => loadVal (E T) (c.drop f) K | none => False) := by
    intro ob T i f
    cases ob.own
    · dsimp only [withE]; cases ob.es[i]? <;> simp
    · rfl
  unfold valOpA valOp
  simp only [binValA_eq, lenValA_eq, h]
  simp only [show withE = fun es k => k es from rfl]
  simp only [show ar.p = fun f => f () from rfl, show ar.c = fun f => f () from rfl, show ar.n = fun f => f () from rfl, ifB_and, constMatch]
  rfl
theorem stepOpA_eq (E : Env) (C : Ctr) (H : Hnd) (plan : List (Nat × Nat)) (o : Oper) (K : St → Prop) (s : St) : stepOpA ar E C H plan o K s = stepOp E C H plan o K s := by
  have h : ∀ (ob : GObj) (g i f n : Nat) (x : Operand), (match ob.own with
        | true => match ob.es[i]? with
          | some c => (f + n ≤ c.length ∧ (opnd s x).cells.length = n ∧ leafs (opnd s x).cells = true ∧ (true || isImm (opnd s x)) = true) ∧
            K (St.putO ⟨s.vs, s.ts, arep s.hp g ⟨ob.ty, ob.sz, ob.es.set i (splice c f (opnd s x).cells), true⟩⟩ o.dst (.tup []))
          | none => False
        | false => withE ob.es fun es => withC (opnd s x).cells fun cs => ifB (Nat.beq cs.length n && (leafs cs && isImm (opnd s x))) (∃ c, es[i]? = some c ∧ f + n ≤ c.length ∧
            K (St.putO ⟨s.vs, s.ts, arep s.hp g ⟨ob.ty, ob.sz, ar.e fun _ => es.set i (splice c f cs), false⟩⟩ o.dst (.tup [])))) =
      (match ob.es[i]? with
        | some c => (f + n ≤ c.length ∧ (opnd s x).cells.length = n ∧ leafs (opnd s x).cells = true ∧ (ob.own || isImm (opnd s x)) = true) ∧
            K (St.putO ⟨s.vs, s.ts, arep s.hp g { ob with es := ob.es.set i (splice c f (opnd s x).cells) }⟩ o.dst (.tup []))
        | none => False) := by
    intro ob g i f n x
    obtain ⟨ty, sz, es, own⟩ := ob
    cases own
    · dsimp only [withE, withC]
      have e : ∀ (b : Bool) (P : Prop), ifB b P = (b = true ∧ P) := by intro b P; cases b <;> simp [ifB]
      rw [e]
      simp only [Bool.and_eq_true, Nat.beq_eq]
      cases es[i]? with
      | none => simp
      | some c =>
        simp [ar]
        constructor
        · rintro ⟨⟨a1, a2, a3⟩, a4, a5⟩; exact ⟨⟨a4, a1, a2, a3⟩, a5⟩
        · rintro ⟨⟨a4, a1, a2, a3⟩, a5⟩; exact ⟨⟨a1, a2, a3⟩, a4, a5⟩
    · rfl
  unfold stepOpA stepOp
  simp only [valOpA_eq, h]
  simp only [show ar.p = fun f => f () from rfl, and_assoc, show withE = fun es k => k es from rfl]
  rfl
theorem stepOpA_fun (E : Env) (C : Ctr) (H : Hnd) (plan : List (Nat × Nat)) : stepOpA ar E C H plan = stepOp E C H plan := by
  funext o K s; exact stepOpA_eq E C H plan o K s
theorem valOpA_fun (E : Env) (C : Ctr) : valOpA ar E C = valOp E C := by
  funext o K s; exact valOpA_eq E C o K s
theorem wprA_eq (E : Env) (C : Ctr) (H : Hnd) (plan : List (Nat × Nat)) (ops : List Oper) (gs : List Nat) : ∀ (l : List Oper) (i : Nat) (K : St → Prop), wprA ar E C H plan ops gs i l K = wpr E C H plan ops gs i l K := by
  intro l
  induction l with
  | nil => intros; rfl
  | cons o r ih => intro i K; funext s; simp only [wprA, wpr, stepOpA_fun, ih]; rfl
theorem wprQA_eq (E : Env) (C : Ctr) (ops : List Oper) (gs : List Nat) : ∀ (l : List Oper) (i : Nat) (K : St → Prop), wprQA ar E C ops gs i l K = wprQ E C ops gs i l K := by
  intro l
  induction l with
  | nil => intros; rfl
  | cons o r ih => intro i K; funext s; simp only [wprQA, wprQ, valOpA_fun, ih]; rfl
theorem wprDA_eq (E : Env) (C : Ctr) (H : Hnd) (plan : List (Nat × Nat)) (ops : List Oper) (gs ms : List Nat) (es : List (Nat × Bool)) : ∀ (l : List Oper) (i : Nat) (K : St → Prop), wprDA ar E C H plan ops gs ms es i l K = wprD E C H plan ops gs ms es i l K := by
  intro l
  induction l with
  | nil => intros; rfl
  | cons o r ih => intro i K; funext s; simp only [wprDA, wprD, stepOpA_fun, valOpA_fun, ih]; rfl
theorem wpcA_eq (E : Env) (C : Ctr) (H : Hnd) (Sq : Nat → List PV → List (List PV) → Prop) (plan : List (Nat × Nat)) : ∀ (c : Code) (Q : Exit → St → Prop), wpcA ar E C H Sq plan c Q = wpc E C H Sq plan c Q
  | .skip, Q => rfl
  | .region _ ops draw, Q => by funext s; simp only [wpcA, wpc, wprA_eq, wprQA_eq, wprDA_eq]; first | done | rfl
  | .seq a b, Q => by funext s; simp only [wpcA, wpc, wpcA_eq E C H Sq plan a, wpcA_eq E C H Sq plan b]
  | .cond x a b, Q => by funext s; simp only [wpcA, wpc, wpcA_eq E C H Sq plan a, wpcA_eq E C H Sq plan b]
  | .block n c, Q => by funext s; simp only [wpcA, wpc, wpcA_eq E C H Sq plan c]
  | .loop c, Q => by
    funext s
    have : wpcA ar E C H Sq plan c = wpc E C H Sq plan c := funext (wpcA_eq E C H Sq plan c)
    simp only [wpcA, wpc, this]
  | .exit n, Q => rfl
  | .ret, Q => rfl
  | .rangeFunc f ps a c, Q => by
    funext s
    simp only [wpcA, wpc, wpcA_eq E C H Sq plan a, wpcA_eq E C H Sq plan c]
  | .scope c, Q => by funext s; simp only [wpcA, wpc, wpcA_eq E C H Sq plan c]
  | .label .., Q => rfl
  | .goto .., Q => rfl
  | .refuse .., Q => rfl
theorem ar_i (f : Unit → Int) : ar.i f = f () := rfl
theorem ar_n (f : Unit → Nat) : ar.n f = f () := rfl
theorem ar_b (f : Unit → Bool) : ar.b f = f () := rfl
theorem ar_s (f : Unit → ByteArray) : ar.s f = f () := rfl
theorem ar_p (f : Unit → Prop) : ar.p f = f () := rfl
theorem ar_e (f : Unit → List (List PV)) : ar.e f = f () := rfl
theorem ar_c (f : Unit → List PV) : ar.c f = f () := rfl
theorem ar_e2 (p : PV) (f : Unit → PV) : ar.e2 p f = (p = f ()) := rfl
theorem ar_q (p : PV) (f : Unit → PV) : ar.q p f = (p = f () ∨ wk p (f ())) := rfl
end Go.Proofs.Ytogehfalhodapaa.Pv
namespace Go.Proofs.Ytogehfalhodapaa.Pv
open Go
theorem splitBool {c : Bool} {P Q : Prop} (h1 : c = true → P) (h0 : c = false → Q) : match (generalizing := false) c with | true => P | false => Q := by
  cases c
  · exact h0 rfl
  · exact h1 rfl
/-- the same, the false case first -/
theorem splitBoolF {c : Bool} {P Q : Prop} (h0 : c = false → Q) (h1 : c = true → P) : match (generalizing := false) c with | true => P | false => Q := splitBool h1 h0
theorem splitTrue {c : Bool} {P Q : Prop} (h : c = true) (h1 : P) : match (generalizing := false) c with | true => P | false => Q := by
  subst h; exact h1
theorem splitFalse {c : Bool} {P Q : Prop} (h : c = false) (h1 : Q) : match (generalizing := false) c with | true => P | false => Q := by
  subst h; exact h1
/-- the evaluator opens the coercion: back again -/
theorem ncast (n : Nat) : @NatCast.natCast Int instNatCastInt n = @Nat.cast Int instNatCastInt n := rfl
/-! calls, told by the kind of their result: the result is named, so that it stays small -/
section
variable {C : Ctr} {f : Nat} {args args' : List PV} {k : PV → Prop}
theorem CallV.int (κ : IntKind) (n : Int) (h : C f args' (.int κ n)) (h1 : isImms args' = true) (h3 : ∀ m, m = n → k (.int κ m)) : CallV C f args args' k :=
  .intro _ h h1 (by simp [scalar]) (h3 n rfl)
theorem CallV.bool (n : Bool) (h : C f args' (.bool n)) (h1 : isImms args' = true) (h3 : ∀ m, m = n → k (.bool m)) : CallV C f args args' k :=
  .intro _ h h1 (by simp [scalar]) (h3 n rfl)
theorem CallV.sl (sz : Nat) (es : List (List PV)) (h : C f args' (.sl sz es)) (h1 : isImms args' = true) (h2 : isImms args = true) (h3 : ∀ m, m = es → k (.sl sz m)) : CallV C f args args' k :=
  .intro _ h h1 (by simp [h2]) (h3 es rfl)
end
section
variable {C : Ctr} {f : Nat} {args args' : List PV} {k : PV → Prop}
/-- the result is told by a few values, which are named -/
theorem CallV.nm1 {ι : Type} (F : ι → PV) (x : ι) (h : C f args' (F x)) (h1 : isImms args' = true) (h2 : ∀ m, (isImms args || scalar (F m)) = true) (h3 : ∀ m, m = x → k (F m)) : CallV C f args args' k :=
  .intro _ h h1 (h2 x) (h3 x rfl)
theorem CallV.nm2 {ι κ : Type} (F : ι → κ → PV) (x : ι) (y : κ) (h : C f args' (F x y)) (h1 : isImms args' = true) (h2 : ∀ m n, (isImms args || scalar (F m n)) = true) (h3 : ∀ m n, m = x → n = y → k (F m n)) : CallV C f args args' k :=
  .intro _ h h1 (h2 x y) (h3 x y rfl rfl)
theorem CallV.nm3 {ι κ μ : Type} (F : ι → κ → μ → PV) (x : ι) (y : κ) (z : μ) (h : C f args' (F x y z)) (h1 : isImms args' = true) (h2 : ∀ m n o, (isImms args || scalar (F m n o)) = true)
    (h3 : ∀ m n o, m = x → n = y → o = z → k (F m n o)) : CallV C f args args' k :=
  .intro _ h h1 (h2 x y z) (h3 x y z rfl rfl rfl)
end
/-- a slice of ints -/
def ints (xs : List Int) : List (List PV) := xs.map fun x => [.int .i64 x]
theorem ints_len (xs : List Int) : (ints xs).length = xs.length := by simp [ints]
theorem ints_get {xs : List Int} {i : Nat} {x : Int} (h : xs[i]? = some x) : (ints xs)[i]? = some [.int .i64 x] := by simp [ints, h]
theorem ints_imm (xs : List Int) : isImms (ints xs).flatten = true := by
  induction xs with
  | nil => rfl
  | cons x r ih => simpa [ints, isImms, isImm] using ih
/-- an index that lies within -/
theorem ints_at {xs : List Int} {n : Int} (h0 : 0 ≤ n) (h1 : n < xs.length) : ∃ x, xs[n.toNat]? = some x ∧ (ints xs)[n.toNat]? = some [.int .i64 x] := by
  have h : n.toNat < xs.length := by omega
  exact ⟨xs[n.toNat], by simp [h], ints_get (by simp [h])⟩
end Go.Proofs.Ytogehfalhodapaa.Pv
namespace Go.Proofs.Ytogehfalhodapaa.Pv
open Go Go.RowKit Go.ChangeShapes

theorem law_calls {P : Program} {n : Nat} {args : List PV} {vs : List Value} {W : World} (h : FC P n args (.bool true)) (hr : RepIs (fun b => W.heap[b]?) args vs) :
    Calls P n vs.toArray W fun e W' => e = .returned (.bool true) ∧ W'.os = W.os ∧ W'.output = W.output ∧ ∀ b, b < W.heap.size → W'.heap[b]? = W.heap[b]? := by
  refine (h.calls vs W (fun b => W.heap[b]?) ⟨fun _ => none, W.os, W.output⟩ ⟨fun b o h => h, fun b o h => (by cases h), fun b _ => rfl, ⟨rfl, rfl⟩, (by intro g o hg; simp [aget] at hg), (by intro g g' o o' _ hg; simp [aget] at hg)⟩ hr).mono ?_
  rintro e W' ⟨M', v, rfl, hm, hi, hv⟩
  cases hv
  refine ⟨rfl, hi.io.1, hi.io.2, fun b hb => ?_⟩
  have : W.heap[b]? = some W.heap[b] := Array.getElem?_eq_getElem hb
  rw [this]
  exact hi.m b _ (hm b _ this)

section
variable {H : Type} {enc : TypeId × Value → H} {P : Program} {W W' : World}

theorem same_old (hold : ∀ b, b < W.heap.size → W'.heap[b]? = W.heap[b]?) {p : MemPlace} (hp : p.block < W.heap.size) : W.sameAt W' p := by
  cases p with
  | cell b off =>
    have := hold b hp
    simp only [World.sameAt, World.cell?, this]
  | map b => exact hold b hp

theorem trodAll_stays (K : Kids P (· < P.types.size)) (hsz : ∀ {t e : TypeId}, t < P.types.size → P.underlying t = some (.slice e) → 0 < P.cellsOf e) (hold : ∀ b, b < W.heap.size → W'.heap[b]? = W.heap[b]?) {sp : Nat → Bool} :
    ∀ {ts : List TypeId} {vs : List Value} {ds : List (DataW H)} {ps : List MemPlace}, (∀ t ∈ ts, t < P.types.size) → DataW.TrodAll enc P W 0 (fun _ => true) true ts vs ds ps → (∀ p ∈ ps, p.block < W.heap.size) → (∀ p ∈ ps, sp p.block = true) →
      DataW.TrodAll enc P W' 0 sp true ts vs ds ps
  | [], [], [], _, _, h, _, _ => h
  | _ :: _, _ :: _, _ :: _, _, ht, ⟨p, q, ⟨n, h⟩, hs, e⟩, hl, hsp => by
    subst e
    refine ⟨p, q, ⟨n, DataW.trod_stays K (fun h1 h => hsz h1 h) (fun h => by cases h) (ht _ (by simp)) h (fun x hx => same_old hold (hl x (List.mem_append_left _ hx))) fun x hx => hsp x (List.mem_append_left _ hx)⟩, ?_, rfl⟩
    exact trodAll_stays K hsz hold (fun t h => ht t (by simp [h])) hs (fun x hx => hl x (List.mem_append_right _ hx)) fun x hx => hsp x (List.mem_append_right _ hx)
  | [], _ :: _, _, _, _, h, _, _ => h.elim
  | [], [], _ :: _, _, _, h, _, _ => h.elim
  | _ :: _, [], _, _, _, h, _, _ => h.elim
  | _ :: _, _ :: _, [], _, _, h, _, _ => h.elim

def sliceOk (P : Program) : Bool := (List.range P.types.size).all fun t => match P.underlying t with | some (.slice e) => decide (0 < P.cellsOf e) | _ => true

theorem sliceOk_ok (h : sliceOk P = true) {t e : TypeId} (hlt : t < P.types.size) (ht : P.underlying t = some (.slice e)) : 0 < P.cellsOf e := by
  have := List.all_eq_true.1 h t (by simpa using hlt)
  rw [ht] at this
  simpa using this

/-- the conclusion of a law's row: it answered true, and no old block was written -/
theorem post_law {f : Func} {s : ChangeSpec} {apart fresh handsOn again : Bool} {args : Array Value} {ds gs : List (DataW H)} {before : List MemPlace} {tb : TypeId} (K : Kids P (· < P.types.size)) (hts : ∀ t ∈ f.params.toList, t < P.types.size)
    (hsz : ∀ {t e : TypeId}, t < P.types.size → P.underlying t = some (.slice e) → 0 < P.cellsOf e)
    (hW : DataW.Whole enc P f.params.toList s.vars apart W args.toList ds gs before) (hv : s.vars = [])
    (hos : W'.os = W.os) (hout : W'.output = W.output) (hold : ∀ b, b < W.heap.size → W'.heap[b]? = W.heap[b]?)
    (hrt : f.resultTypes = #[tb]) (hb : P.underlying tb = some .bool)
    (h1 : (s.fn H (ds ++ gs)).results = [.lit (.bool true)]) (h2 : (s.fn H (ds ++ gs)).args = ds) (h3 : (s.fn H (ds ++ gs)).vars = []) :
    s.post enc P f apart fresh handsOn again W args (.bool true) W' := by
  have hW' := hW
  obtain ⟨pa, pv, hA, hV, hps, hz, hn⟩ := hW
  have hlt : ∀ p ∈ before, p.block < W.heap.size := fun p hp => hW'.lt p hp
  rw [hv] at hV
  have hpv : pv = [] := by
    cases gs with
    | nil => exact hV
    | cons g gs => exact hV.elim
  subst hpv
  rw [List.append_nil] at hps
  subst hps
  have hbool : ∀ (b : Nat) (sp : Nat → Bool) (hd : Bool), DataW.TrodAll enc P W' b sp hd f.resultTypes.toList ((Value.bool true).resultList f.resultTypes.size) (s.fn H (ds ++ gs)).results [] := by
    intro b sp hd
    rw [h1, hrt]
    refine ⟨[], [], ⟨1, ?_⟩, rfl, rfl⟩
    simp [DataW.trod, hb, Value.cells]
  have hargs : ∀ sp : Nat → Bool, (∀ p ∈ before, sp p.block = true) → DataW.TrodAll enc P W' 0 sp true f.params.toList args.toList (s.fn H (ds ++ gs)).args before := by
    intro sp hsp
    rw [h2]
    exact trodAll_stays K hsz hold hts hA hlt hsp
  have hvars : ∀ sp : Nat → Bool, DataW.TrodVars enc P W' sp s.vars (s.fn H (ds ++ gs)).vars [] := by
    intro sp; rw [hv, h3]; rfl
  have hkeep : W.keptBut W' (fun p => p ∈ before ∧ (p ∈ ([] : List MemPlace) ∨ p ∈ before ∨ p ∈ ([] : List MemPlace))) :=
    ⟨hos, hout, fun i hi => by rw [hold i hi]; exact (World.keptBut_refl W (fun p => p ∈ before ∧ (p ∈ ([] : List MemPlace) ∨ p ∈ before ∨ p ∈ ([] : List MemPlace)))).2.2 i hi⟩
  refine ⟨ds, gs, before, [], before, [], hW', hbool _ _ _, hargs _ (fun p hp => by simpa using hlt p hp), hvars _, hkeep, fun _ => ?_⟩
  refine ⟨?_, (s.fn H (ds ++ gs)).results ++ (s.fn H (ds ++ gs)).args, (s.fn H (ds ++ gs)).vars, before, ⟨before, [], ?_, hvars _, by simp, ?_, hn⟩, fun p hp _ => hp⟩
  · exact ok_one (t := tb) hrt rfl (okWide_bool_mk hb true)
  · have := trodAll_append (hargs (fun _ => true) (fun _ _ => rfl)) (hbool 0 (fun _ => true) true)
    simpa using this
  · intro b off hp
    rw [World.frozen?_of_block (hold b (hlt _ hp))]
    exact hz b off hp
end
end Go.Proofs.Ytogehfalhodapaa.Pv
