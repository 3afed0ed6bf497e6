/-
  The layer of values: what an evaluator says of a function holds of every run of it. For every program of the model that meets the named conditions.
-/
import Derived.Test.YtbliiejdmgnkgaaPvL
import Derived.Still
namespace Go.Proofs.Ytbliiejdmgnkgaa.Pv
open Go

section
variable {ρ : Option Nat} {P : Program} {E : Env} {C : Ctr} {H : Hnd} {w : World} {N : Cx} {s : St} {a : Act} {M : Mem} {F : Frm} {δ : Nat → Value}

theorem GoodK.mono {K K' : St → Prop} (h : ∀ s, K s → K' s) (hg : GoodK N M F K a w) : GoodK N M F K' a w :=
  let ⟨s, M', δ, h1, h2, h3⟩ := hg
  ⟨s, M', δ, h _ h1, h2, h3⟩
theorem GoodK.le {M' : Mem} {K : St → Prop} (hm : M.le M') (hg : GoodK N M' F K a w) : GoodK N M F K a w :=
  let ⟨s, M2, δ, h1, h2, h3⟩ := hg
  ⟨s, M2, δ, h1, Mem.le_trans hm h2, h3⟩

/-- the slots alone decide -/
def SEq (s s' : St) : Prop := (∀ i, s.get i = s'.get i) ∧ s.hp = s'.hp

theorem Rel.seq {s' : St} (h : Rel N s a w M F δ) (he : SEq s s') : Rel N s' a w M F δ :=
  ⟨h.def0, h.size, h.ro, fun i => by rw [← he.1]; exact h.slot i, by rw [← he.2]; exact h.inv⟩

theorem Rel.fresh (h : Rel N s a w M F δ) : Rel N s.fresh a w M F δ := by
  refine ⟨h.def0, h.size, h.ro, fun i => ?_, h.inv⟩
  have := h.slot i
  unfold St.fresh St.get at *
  simp only [aget]
  cases hv : aget s.vs i with
  | some p => rw [hv] at this; exact this
  | none => exact .imm _ _ (.junk _)

theorem Rel.reput {i : Nat} {p : PV} (h : Rel N s a w M F δ) (hp : RepS M δ p (a.tmps.getD i undef)) : Rel N (s.put i p) a w M F δ := by
  refine ⟨h.def0, h.size, h.ro, fun j => ?_, by rw [St.put_hp]; exact h.inv⟩
  rw [St.get_put]
  split
  · rename_i e; subst e; exact hp
  · exact h.slot j

theorem split_rel {d : Option Nat} {K : St → Prop} (h : splitB d K s) (hr : Rel N s a w M F δ) : ∃ s', K s' ∧ Rel N s' a w M F δ ∧ SEq s' s := by
  unfold splitB at h
  split at h
  · rename_i i
    split at h
    · rename_i c hc
      cases c with
      | true =>
        refine ⟨_, h, hr.reput (by rw [← hc]; exact hr.slot i), fun j => ?_, St.put_hp _ _ _⟩
        rw [St.get_put]; split
        · rename_i e; subst e; exact hc.symm
        · rfl
      | false =>
        refine ⟨_, h, hr.reput (by rw [← hc]; exact hr.slot i), fun j => ?_, St.put_hp _ _ _⟩
        rw [St.get_put]; split
        · rename_i e; subst e; exact hc.symm
        · rfl
    · exact ⟨s, h, hr, fun _ => rfl, rfl⟩
  · exact ⟨s, h, hr, fun _ => rfl, rfl⟩

theorem yielded_of (hr : Rel N s a w M F δ) {ops : Array Oper} {j d : Nat} (hj : opDst ops.toList j = some d) :
    (∀ b, s.get d = .bool b → yielded ops a.tmps j = some b) ∧ (s.get d = .tup [] → yielded ops a.tmps j = none) := by
  unfold opDst at hj
  simp only [Array.getElem?_toList] at hj
  cases ho : ops[j]? with
  | none => rw [ho] at hj; cases hj
  | some o =>
    rw [ho] at hj
    simp only at hj
    constructor
    · intro b hb
      have h1 := hr.slot d
      rw [hb] at h1
      have h2 := h1.bool_inv
      cases ht : a.tmps[d]? with
      | none => rw [Array.getD_eq_getD_getElem?, ht] at h2; simp [undef] at h2
      | some v =>
        rw [Array.getD_eq_getD_getElem?, ht] at h2
        simp only [Option.getD_some] at h2
        subst h2
        simp [yielded, ho, hj, ht]
    · intro hb
      have h1 := hr.slot d
      rw [hb] at h1
      obtain ⟨vs, h2, h3⟩ := h1.tup_inv
      cases h3
      cases ht : a.tmps[d]? with
      | none => simp [yielded, ho, hj, ht]
      | some v =>
        rw [Array.getD_eq_getD_getElem?, ht] at h2
        simp only [Option.getD_some] at h2
        subst h2
        simp [yielded, ho, hj, ht]

theorem guarded_cases {ops : Array Oper} {o : Oper} {K1 K2 : St → Prop} (hr : Rel N s a w M F δ) (h : guarded ops.toList o K1 K2 s) :
    (Region.wanted o (yielded ops a.tmps) = true ∧ K1 s) ∨ (Region.wanted o (yielded ops a.tmps) = false ∧ K2 s) := by
  unfold guarded at h
  split at h
  · rename_i hg
    exact .inl ⟨by simp [Region.wanted, hg], h⟩
  · rename_i j b hg
    split at h
    · rename_i d hd
      obtain ⟨y1, y2⟩ := yielded_of hr hd
      split at h
      · rename_i hb
        have := y1 _ hb
        cases b with
        | true => exact .inl ⟨by simp [Region.wanted, hg, this], h⟩
        | false => exact .inr ⟨by simp [Region.wanted, hg, this], h⟩
      · rename_i hb
        have := y1 _ hb
        cases b with
        | true => exact .inr ⟨by simp [Region.wanted, hg, this], h⟩
        | false => exact .inl ⟨by simp [Region.wanted, hg, this], h⟩
      · rename_i hb
        have := y2 hb
        exact .inr ⟨by simp [Region.wanted, hg, this], h⟩
      · exact h.elim
    · exact h.elim

theorem undef_rep : RepS M δ (.tup []) undef := .imm _ _ (.tup [] [] .nil)

theorem wpr_wp (hE : ∀ T, TDok P T (E T)) (hC : ∀ f as r, C f as r → FC P f as r) (hH : ∀ f as hp r hp', H f as hp r hp' → FH P f as hp r hp') {plan : List (Nat × Nat)} {ops : Array Oper} {gs : List Nat} {K : St → Prop}
    {Q : Exit → Act → World → Prop} : ∀ (l : List Oper) (i : Nat) (s : St) (a : Act) (w : World) (M : Mem) (δ : Nat → Value), (∀ o ∈ l, dstOk N.n N.ro o = true) → wpr E C H plan ops.toList gs i l K s → Rel N s a w M F δ →
      (∀ a w, GoodK N M F K a w → Q .normal a w) → wpListIn (FnR ρ) 0 P ops Q l a w
  | [], i, s, a, w, M, δ, hd, h, hr, hQ => hQ a w ⟨s, M, δ, h, M.le_refl, hr⟩
  | o :: r, i, s, a, w, M, δ, hd, h, hr, hQ => by
    have hdo : ∀ d, o.dst = some d → N.Ok d := by
      intro d hdd
      have := hd o (by simp)
      simp only [dstOk, hdd, Bool.and_eq_true, decide_eq_true_eq, Bool.not_eq_true'] at this
      exact this
    have hdr : ∀ o ∈ r, dstOk N.n N.ro o = true := fun o ho => hd o (by simp [ho])
    simp only [wpr] at h
    unfold wpListIn
    rcases guarded_cases hr h with ⟨hw, h⟩ | ⟨hw, h⟩
    · rw [if_pos hw]
      refine Oper.wpIn_mono ?_ (stepOp_wp hE hC hH h hr hdo)
      rintro a' w' ⟨s', M', δ', hk, hm, hr'⟩
      have hQ' : ∀ a w, GoodK N M' F K a w → Q .normal a w := fun a w hg => hQ a w (hg.le hm)
      split at hk
      · obtain ⟨s2, hk2, hr2, _⟩ := split_rel hk hr'
        exact wpr_wp hE hC hH r (i + 1) s2 a' w' M' δ' hdr hk2 hr2 hQ'
      · exact wpr_wp hE hC hH r (i + 1) s' a' w' M' δ' hdr hk hr' hQ'
    · rw [if_neg (by simp [hw])]
      exact ⟨fun _ _ => trivial, wpr_wp hE hC hH r (i + 1) _ _ w M δ hdr h (hr.put hdo undef_rep) hQ⟩

end
end Go.Proofs.Ytbliiejdmgnkgaa.Pv
