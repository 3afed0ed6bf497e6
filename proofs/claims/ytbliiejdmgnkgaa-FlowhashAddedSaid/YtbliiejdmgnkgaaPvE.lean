/-
  The layer of values: what an evaluator says of a function holds of every run of it. For every program of the model that meets the named conditions.
-/
import Derived.Test.YtbliiejdmgnkgaaPvD
namespace Go.Proofs.Ytbliiejdmgnkgaa.Pv
open Go

/-- the contract of a function on values that lean on read memory alone -/
structure FC (P : Program) (f : Nat) (args : List PV) (r : PV) : Prop where
  enter : ∀ (args : Array Value) (w : World), (callFunc f args).run P w = .ok (.enter f args) w
  calls : ∀ (vs : List Value) (w : World) (M : Mem) (F : Frm), Inv M F (fun _ => undef) [] w → RepIs M args vs →
    Calls P f vs.toArray w fun e w' => ∃ M' v, e = .returned v ∧ M.le M' ∧ Inv M' F (fun _ => undef) [] w' ∧ RepI M' r v

section
variable {P : Program} {w : World}

theorem opnds_rep {N : Cx} {s : St} {a : Act} {M : Mem} {F : Frm} {δ : Nat → Value} (h : Rel N s a w M F δ) : ∀ l : List Operand, RepSs M δ (opnds s l) (l.map a.eval)
  | [] => .nil
  | x :: r => .cons _ _ _ _ (h.opnd x) (opnds_rep h r)

theorem borrow_rep {M : Mem} {F : Frm} {δ : Nat → Value} {hp : List (Nat × GObj)} (hi : Inv M F δ hp w) {p : PV} {v : Value} (h : RepS M δ p v) {M' : Mem} (hm : M.le M')
    (hb : ∀ g o, aget hp g = some o → ∀ b, (δ g).ownBlock = some b → M' b = w.heap[b]?) : RepS M' δ (borrow hp p) v := by
  unfold borrow
  split
  · rename_i g
    split
    · rename_i o hg
      split
      · exact h.mono hm
      · rename_i hown
        obtain ⟨hv, ao, n, c, hs⟩ := h.os_inv'
        obtain ⟨xs, h1, h2, h3, h4, h5, h6, h7⟩ := hi.own g o hg
        have h5' := h5 (by simpa using hown)
        refine .imm _ _ ?_
        rw [hv]
        rcases h1.2 with ⟨e1, e2⟩ | ⟨b, cap, cur, e1, e2, e3, e4, e5, e6, e7⟩
        · rw [e1]
          have : o.es = [] := List.eq_nil_of_length_eq_zero e2
          rw [this]
          exact .sl0 _ _ _
        · rw [e1]
          refine .sl _ _ _ _ _ cur o.ty (0, 0) xs ?_ e4 h3 h2 (h5'.mono hm) h6 ?_
          · rw [hb g o hg b (by rw [e1]; rfl)]; exact e3
          · intro i u hu
            rw [← e7, List.getElem?_take] at hu
            split at hu
            · simpa using hu
            · cases hu
    · exact h.mono hm
  · exact h.mono hm

theorem borrows_rep {M : Mem} {F : Frm} {δ : Nat → Value} {hp : List (Nat × GObj)} (hi : Inv M F δ hp w) {M' : Mem} (hm : M.le M')
    (hb : ∀ g o, aget hp g = some o → ∀ b, (δ g).ownBlock = some b → M' b = w.heap[b]?) : ∀ {ps : List PV} {vs : List Value}, RepSs M δ ps vs → RepSs M' δ (borrows hp ps) vs
  | _, _, .nil => .nil
  | _, _, .cons _ _ _ _ h1 h2 => .cons _ _ _ _ (borrow_rep hi h1 hm hb) (borrows_rep hi hm hb h2)

theorem borrows_imm (hp : List (Nat × GObj)) : ∀ ps : List PV, isImms ps = true → borrows hp ps = ps
  | [], _ => rfl
  | p :: r, h => by
    simp [isImms] at h
    have h1 : borrow hp p = p := by
      unfold borrow
      split
      · simp [isImm] at h
      · rfl
    simp [borrows, h1, borrows_imm hp r h.2]

/-- a call of a function by its contract -/
theorem callV_wp {C : Ctr} (hC : ∀ f as r, C f as r → FC P f as r) {f : Nat} {hp : List (Nat × GObj)} {args : List PV} {vs : List Value} {K : PV → Prop} {M : Mem} {F : Frm} {δ : Nat → Value}
    (h : CallV C f args (borrows hp args) K) (hi : Inv M F δ hp w) (hr : RepSs M δ args vs) :
    (∀ (as : Array Value) (w : World), (callFunc f as).run P w = .ok (.enter f as) w) ∧
    Calls P f vs.toArray w fun e w' => ∃ M' v p, e = .returned v ∧ K p ∧ M.le M' ∧ Inv M' F δ hp w' ∧ RepS M' δ p v := by
  obtain ⟨r, hc, h1, h2, h3⟩ := h
  have hfc := hC _ _ _ hc
  refine ⟨hfc.enter, ?_⟩
  -- the blocks of the objects
  let own : Nat → Prop := fun b => ∃ g o, aget hp g = some o ∧ (δ g).ownBlock = some b
  have hown : ∀ b, own b → M b = none ∧ F b = none := by
    rintro b ⟨g, o, hg, hb⟩
    obtain ⟨xs, _, _, _, _, _, _, h7⟩ := hi.own g o hg
    exact h7 b hb
  classical
  by_cases himm : isImms args = true
  · -- nothing is lent
    have hi0 : Inv M ⟨fun b => if own b then w.heap[b]? else F b, F.os, F.out⟩ (fun _ => undef) [] w := by
      refine ⟨hi.m, ?_, ?_, hi.io, by intro g o hg; simp [aget] at hg, by intro g g' o o' _ hg; simp [aget] at hg⟩
      · intro b o hb
        dsimp only at hb
        split at hb
        · exact hb
        · exact hi.f _ _ hb
      · intro b hb
        dsimp only
        split
        · rename_i ho; exact absurd (hown b ho).1 hb
        · exact hi.mf b hb
    rw [borrows_imm hp args himm] at hc
    refine ((hC _ _ _ hc).calls vs w M _ hi0 (hr.toI himm)).mono ?_
    rintro e w' ⟨M', v, rfl, hm, hi', hrep⟩
    refine ⟨M', v, r, rfl, h3, hm, ?_, .imm _ _ hrep⟩
    have hold : ∀ b, own b → w'.heap[b]? = w.heap[b]? := by
      intro b hb
      cases hwb : w.heap[b]? with
      | none =>
        obtain ⟨g, o, hg, hgb⟩ := hb
        obtain ⟨xs, h1, _⟩ := hi.own g o hg
        have := (h1.lt b hgb).2
        simp at hwb; omega
      | some x => exact hi'.f b x (by simp [hb, hwb])
    refine ⟨hi'.m, ?_, ?_, hi'.io, ?_, hi.dis⟩
    · intro b x hb
      have hno : ¬ own b := fun ho => by rw [(hown b ho).2] at hb; cases hb
      exact hi'.f b x (by simp [hno, hb])
    · intro b hb
      have := hi'.mf b hb
      dsimp only at this
      split at this
      · rename_i ho; exact (hown b ho).2
      · exact this
    · intro g o hg
      obtain ⟨xs, q1, q2, q3, q4, q5, q6, q7⟩ := hi.own g o hg
      refine ⟨xs, ?_, q2, q3, q4.mono hm, fun ho => (q5 ho).mono hm, q6, ?_⟩
      · refine ⟨q1.1, ?_⟩
        rcases q1.2 with hh | ⟨b, cap, cur, e1, e2, e3, e4⟩
        · exact .inl hh
        · exact .inr ⟨b, cap, cur, e1, e2, by rw [hold b ⟨g, o, hg, by rw [e1]; rfl⟩]; exact e3, e4⟩
      · intro b hb
        refine ⟨?_, (q7 b hb).2⟩
        have ho : own b := ⟨g, o, hg, hb⟩
        cases hm' : M' b with
        | none => rfl
        | some x =>
          have := hi'.mf b (by rw [hm']; simp)
          simp only [ho, if_true] at this
          have h8 := (q1.lt b hb).2
          simp at this; omega
  · -- objects are lent for the time of the call; the result leans on no memory
    have hsc : scalar r = true := by simpa [himm] using h2
    have hi0 : Inv (fun b => if own b then w.heap[b]? else M b) F (fun _ => undef) [] w := by
      refine ⟨?_, hi.f, ?_, hi.io, by intro g o hg; simp [aget] at hg, by intro g g' o o' _ hg; simp [aget] at hg⟩
      · intro b o hb
        skip
        split at hb
        · exact hb
        · exact hi.m _ _ hb
      · intro b hb
        skip
        split at hb
        · rename_i ho; exact (hown b ho).2
        · exact hi.mf b hb
    have hm0 : M.le (fun b => if own b then w.heap[b]? else M b) := by
      intro b o hb
      have : ¬ own b := fun ho => by rw [(hown b ho).1] at hb; cases hb
      simp [this, hb]
    have hrep0 := borrows_rep hi hm0 (fun g o hg b hb => by
      have ho : own b := ⟨g, o, hg, hb⟩
      simp [ho]) hr
    refine (hfc.calls vs w _ F hi0 (hrep0.toI h1)).mono ?_
    rintro e w' ⟨M', v, rfl, hm, hi', hrep⟩
    refine ⟨fun b => if own b then none else M' b, v, r, rfl, h3, ?_, ?_, .imm _ _ (hrep.ofScalar hsc)⟩
    · intro b o hb
      have : ¬ own b := fun ho => by rw [(hown b ho).1] at hb; cases hb
      simp only [this, if_false]
      exact hm b o (hm0 b o hb)
    · have hold : ∀ b, own b → w'.heap[b]? = w.heap[b]? := by
        intro b hb
        cases hwb : w.heap[b]? with
        | none =>
          obtain ⟨g, o, hg, hgb⟩ := hb
          obtain ⟨xs, h1, _⟩ := hi.own g o hg
          have := (h1.lt b hgb).2
          simp at hwb; omega
        | some x => exact hi'.m b x (hm b x (by simp [hb, hwb]))
      have hmm : M.le (fun b => if own b then none else M' b) := by
        intro b o hb
        have : ¬ own b := fun ho => by rw [(hown b ho).1] at hb; cases hb
        simp only [this, if_false]
        exact hm b o (hm0 b o hb)
      refine ⟨?_, hi'.f, ?_, hi'.io, ?_, hi.dis⟩
      · intro b o hb
        skip
        split at hb
        · cases hb
        · exact hi'.m b o hb
      · intro b hb
        skip
        split at hb
        · exact absurd rfl hb
        · exact hi'.mf b hb
      · intro g o hg
        obtain ⟨xs, q1, q2, q3, q4, q5, q6, q7⟩ := hi.own g o hg
        refine ⟨xs, ?_, q2, q3, q4.mono hmm, fun ho => (q5 ho).mono hmm, q6, ?_⟩
        · refine ⟨q1.1, ?_⟩
          rcases q1.2 with hh | ⟨b, cap, cur, e1, e2, e3, e4⟩
          · exact .inl hh
          · exact .inr ⟨b, cap, cur, e1, e2, by rw [hold b ⟨g, o, hg, by rw [e1]; rfl⟩]; exact e3, e4⟩
        · intro b hb
          refine ⟨?_, (q7 b hb).2⟩
          have ho : own b := ⟨g, o, hg, hb⟩
          simp [ho]
end
end Go.Proofs.Ytbliiejdmgnkgaa.Pv
