/-
  Contracts of functions that the law reaches, and plain lemmas about what they compute. Conditions stand with each.
-/
import Derived.Test.YtogehfalhodapaaPart2
namespace Go.Proofs.Ytogehfalhodapaa
open Go Go.Proofs.Ytogehfalhodapaa.Pv
set_option linter.unusedSimpArgs false
set_option linter.unusedVariables false
/-! what the numbers of paths mean: an only shortest path -/
def sumAt (t : Topo) (C : List Int) : List Int → Int
  | [] => 0
  | a :: r => at0 C (headOf t a) + sumAt t C r
theorem sumAt_congr {t : Topo} {C C' : List Int} : ∀ {nl : List Int}, (∀ a ∈ nl, at0 C' (headOf t a) = at0 C (headOf t a)) → sumAt t C' nl = sumAt t C nl
  | [], _ => rfl
  | a :: r, h => by
    unfold sumAt
    rw [h a (by simp), sumAt_congr (nl := r) fun b hb => h b (by simp [hb])]
theorem sumAt_nonneg {t : Topo} {C : List Int} : ∀ {nl : List Int}, (∀ a ∈ nl, 0 ≤ at0 C (headOf t a)) → 0 ≤ sumAt t C nl
  | [], _ => Int.le_refl _
  | a :: r, h => by
    unfold sumAt
    have := h a (by simp)
    have := sumAt_nonneg (nl := r) fun b hb => h b (by simp [hb])
    omega
theorem cntArc_other {t : Topo} {x a i : Int} {C : List Int} (hx : 0 ≤ x) (hi : 0 ≤ i) (hl : x < C.length) (h : i ≠ x) : at0 (cntArc t 2 x C a) i = at0 C i := by
  unfold cntArc; rw [at0_set hx hi hl, if_neg h]
/-- one node is done -/
theorem cntFold {t : Topo} {x : Int} (hv : valid t = true) (hx : 0 ≤ x) : ∀ (nl : List Int) (C : List Int), x < C.length → (∀ a ∈ nl, isArc t a = true ∧ headOf t a ≠ x ∧ 0 ≤ at0 C (headOf t a)) → 0 ≤ at0 C x → at0 C x ≤ 2 →
    at0 (nl.foldl (cntArc t 2 x) C) x = min 2 (at0 C x + sumAt t C nl) ∧ (∀ i, 0 ≤ i → i ≠ x → at0 (nl.foldl (cntArc t 2 x) C) i = at0 C i) ∧ (nl.foldl (cntArc t 2 x) C).length = C.length
  | [], C, _, _, h0, h2 => ⟨by simp [sumAt]; omega, fun _ _ _ => rfl, rfl⟩
  | a :: r, C, hl, h, h0, h2 => by
    obtain ⟨a1, a2, a3⟩ := h a (by simp)
    have hok := arc_ok a1
    have hl' : x < (cntArc t 2 x C a).length := by simpa [cntArc] using hl
    have hx' : at0 (cntArc t 2 x C a) x = at0 C x + min (at0 C (headOf t a)) (2 - at0 C x) := by unfold cntArc; rw [at0_set hx hx hl, if_pos rfl]
    have hoth : ∀ i, 0 ≤ i → i ≠ x → at0 (cntArc t 2 x C a) i = at0 C i := fun i hi hne => cntArc_other hx hi hl hne
    obtain ⟨e1, e2, e3⟩ := cntFold hv hx r (cntArc t 2 x C a) hl' (fun b hb => by
      obtain ⟨b1, b2, b3⟩ := h b (by simp [hb])
      refine ⟨b1, b2, ?_⟩
      rw [hoth _ (arc_ok b1).2.2.1 b2]; exact b3) (by rw [hx']; omega) (by rw [hx']; omega)
    have hs : sumAt t (cntArc t 2 x C a) r = sumAt t C r := sumAt_congr fun b hb => hoth _ (arc_ok (h b (by simp [hb])).1).2.2.1 (h b (by simp [hb])).2.1
    have hsn : 0 ≤ sumAt t C r := sumAt_nonneg fun b hb => (h b (by simp [hb])).2.2
    refine ⟨?_, fun i hi hne => by rw [List.foldl_cons, e2 i hi hne, hoth i hi hne], by rw [List.foldl_cons, e3]; simp [cntArc]⟩
    rw [List.foldl_cons, e1, hx', hs]
    show _ = min 2 (at0 C x + (at0 C (headOf t a) + sumAt t C r))
    omega
theorem next_lt {t : Topo} {down : List Bool} {D : List Int} {x d a : Int} (hv : valid t = true) (h : a ∈ nextOf t down D x d) : at0 D (headOf t a) < at0 D x ∧ 0 ≤ at0 D (headOf t a) ∧ x ≠ d ∧ isArc t a = true := by
  have hn := next_is hv h
  have h1 := hn.eq
  have h2 := (arc_ok hn.arc).2.2.2.2.2.1
  exact ⟨by omega, hn.pos, hn.neq, hn.arc⟩
/-- what holds when some nodes are done -/
structure CntI (t : Topo) (down : List Bool) (D : List Int) (d : Int) (done C : List Int) : Prop where
  len : (C.length : Int) = t.nodes
  nn : ∀ i, 0 ≤ i → i < t.nodes → 0 ≤ at0 C i
  val : ∀ x ∈ done, x ≠ d → at0 C x = min 2 (sumAt t C (nextOf t down D x d))
  new : ∀ x, 0 ≤ x → x < t.nodes → ¬ x ∈ done → x ≠ d → at0 C x = 0
  dst : at0 C d = 1
theorem CntI.node {t : Topo} {down : List Bool} {D C done : List Int} {d x : Int} (h : CntI t down D d done C) (hv : valid t = true) (hx : 0 ≤ x) (hx1 : x < t.nodes) (hnew : ¬ x ∈ done) (hle : ∀ y ∈ done, 0 ≤ y ∧ y < t.nodes ∧ at0 D y ≤ at0 D x) (hd : 0 ≤ d) :
    CntI t down D d (done ++ [x]) (cntNode t down D d 2 C x) := by
  have hl := h.len
  have hxC : 0 ≤ at0 C x ∧ at0 C x ≤ 2 := by
    by_cases e : x = d
    · rw [e, h.dst]; omega
    · rw [h.new x hx hx1 hnew e]; omega
  have hnx : ∀ a ∈ nextOf t down D x d, isArc t a = true ∧ headOf t a ≠ x ∧ 0 ≤ at0 C (headOf t a) := fun a ha => by
    obtain ⟨q1, q2, q3, q4⟩ := next_lt hv ha
    have hok := arc_ok q4
    exact ⟨q4, fun e => by rw [e] at q1; omega, h.nn _ hok.2.2.1 hok.2.2.2.1⟩
  obtain ⟨e1, e2, e3⟩ := cntFold hv hx (nextOf t down D x d) C (by omega) hnx hxC.1 hxC.2
  have hsn : 0 ≤ sumAt t C (nextOf t down D x d) := sumAt_nonneg fun a ha => (hnx a ha).2.2
  have hcn : cntNode t down D d 2 C x = (nextOf t down D x d).foldl (cntArc t 2 x) C := rfl
  rw [hcn]
  have hsame : ∀ y, at0 D y ≤ at0 D x → sumAt t ((nextOf t down D x d).foldl (cntArc t 2 x) C) (nextOf t down D y d) = sumAt t C (nextOf t down D y d) := fun y hy => sumAt_congr fun a ha => by
    obtain ⟨q1, q2, q3, q4⟩ := next_lt hv ha
    exact e2 _ (arc_ok q4).2.2.1 fun e => by rw [e] at q1; omega
  refine ⟨by rw [e3]; exact hl, fun i hi hi1 => ?_, fun y hy hyd => ?_, fun y hy hy1 hn hyd => ?_, ?_⟩
  · by_cases e : i = x
    · rw [e, e1]; omega
    · rw [e2 i hi e]; exact h.nn i hi hi1
  · rcases List.mem_append.1 hy with hy | hy
    · obtain ⟨y0, y1, y2⟩ := hle y hy
      rw [e2 y y0 (fun e => hnew (e ▸ hy)), hsame y y2]
      exact h.val y hy hyd
    · obtain rfl : y = x := by simpa using hy
      rw [e1, h.new y hx hx1 hnew hyd, hsame y (Int.le_refl _), Int.zero_add]
  · have hyx : y ≠ x := fun e => hn (by simp [e])
    rw [e2 y hy hyx]
    exact h.new y hy hy1 (fun e => hn (List.mem_append_left _ e)) hyd
  · by_cases e : d = x
    · subst e
      rw [e1, h.dst]
      have : nextOf t down D d d = [] := by
        cases hh : nextOf t down D d d with
        | nil => rfl
        | cons a r => exact ((next_lt hv (by rw [hh]; exact List.mem_cons_self : a ∈ nextOf t down D d d)).2.2.1 rfl).elim
      rw [this]; rfl
    · rw [e2 d hd e]; exact h.dst
theorem cnt_all {t : Topo} {down : List Bool} {D : List Int} {d : Int} (hv : valid t = true) (hd : 0 ≤ d ∧ d < t.nodes) : ∀ (todo done C : List Int), CntI t down D d done C → (done ++ todo).Pairwise (fun a b => befo D b a) → (∀ x ∈ done ++ todo, 0 ≤ x ∧ x < t.nodes) →
    CntI t down D d (done ++ todo) (todo.foldl (cntNode t down D d 2) C)
  | [], done, C, h, _, _ => by simpa using h
  | x :: r, done, C, h, hp, hr => by
    have hx := hr x (by simp)
    have hp' := List.pairwise_append.1 hp
    have hnew : ¬ x ∈ done := fun e => by
      have := hp'.2.2 x e x (by simp)
      unfold befo at this; omega
    have hle : ∀ y ∈ done, 0 ≤ y ∧ y < t.nodes ∧ at0 D y ≤ at0 D x := fun y hy => by
      have h1 := hr y (by simp [hy])
      have := hp'.2.2 y hy x (by simp)
      unfold befo at this
      exact ⟨h1.1, h1.2, by omega⟩
    have hn := h.node hv hx.1 hx.2 hnew hle hd.1
    have := cnt_all hv hd r (done ++ [x]) _ hn (by rw [List.append_assoc]; exact hp) (by rw [List.append_assoc]; exact hr)
    rw [List.append_assoc] at this
    exact this
theorem count_is {t : Topo} {down : List Bool} {D : List Int} {d : Int} (hv : valid t = true) (hd : 0 ≤ d ∧ d < t.nodes) : CntI t down D d (ordOf t D).reverse (countOf t down D d 2) := by
  have hO := ordOf_is t D
  have hst : CntI t down D d [] ((List.replicate t.nodes.toNat 0).set d.toNat (min 1 2)) := by
    have hg : ∀ i, 0 ≤ i → i < t.nodes → at0 ((List.replicate t.nodes.toNat (0 : Int)).set d.toNat (min 1 2)) i = if i = d then 1 else 0 := fun i h0 h1 => by
      rw [at0_set hd.1 h0 (by simp; omega)]
      split
      · rfl
      · unfold at0; rw [List.getElem?_replicate, if_pos (by omega)]; rfl
    refine ⟨by simp; omega, fun i h0 h1 => ?_, fun x hx => (List.not_mem_nil hx).elim, fun x h0 h1 _ hne => ?_, ?_⟩
    · rw [hg i h0 h1]; split <;> omega
    · rw [hg x h0 h1, if_neg hne]
    · rw [hg d hd.1 hd.2, if_pos rfl]
  have := cnt_all (down := down) (D := D) hv hd (ordOf t D).reverse [] _ hst (by rw [List.nil_append, List.pairwise_reverse]; exact hO.srt) (fun x hx => by
    have := (hO.mem x).1 (by simpa using hx); exact this.1)
  simpa [countOf] using this
/-- an only shortest path -/
def OnlyP (t : Topo) (down : List Bool) (D : List Int) (d : Int) : Int → List Int → Prop
  | x, [] => x = d
  | x, a :: r => x ≠ d ∧ nextOf t down D x d = [a] ∧ OnlyP t down D d (headOf t a) r
theorem count_pos {t : Topo} {down : List Bool} {D : List Int} {d : Int} (hv : valid t = true) (hD : IsDist t down d false D) (hd : 0 ≤ d ∧ d < t.nodes) : ∀ (n : Nat) (x : Int), (at0 D x).toNat ≤ n → 0 ≤ x → x < t.nodes → 0 ≤ at0 D x →
    1 ≤ at0 (countOf t down D d 2) x ∧ (at0 (countOf t down D d 2) x = 1 ↔ ∃ p, OnlyP t down D d x p) := by
  have hc := count_is (down := down) (D := D) hv hd
  have hO := ordOf_is t D
  intro n
  induction n using Nat.strongRecOn with
  | ind n ih =>
    intro x hn h0 h1 hDx
    by_cases hxd : x = d
    · subst hxd
      rw [hc.dst]
      exact ⟨Int.le_refl _, fun _ => ⟨[], rfl⟩, fun _ => rfl⟩
    · have hval := hc.val x (by rw [List.mem_reverse]; exact (hO.mem x).2 ⟨⟨h0, h1⟩, hDx⟩) hxd
      have hex := nextOf_some hD h0 h1 hxd hDx
      have hih : ∀ a ∈ nextOf t down D x d, 1 ≤ at0 (countOf t down D d 2) (headOf t a) ∧ (at0 (countOf t down D d 2) (headOf t a) = 1 ↔ ∃ p, OnlyP t down D d (headOf t a) p) := fun a ha => by
        obtain ⟨q1, q2, q3, q4⟩ := next_lt hv ha
        have hok := arc_ok q4
        exact ih (at0 D (headOf t a)).toNat (by omega) (headOf t a) (Nat.le_refl _) hok.2.2.1 hok.2.2.2.1 q2
      have hsum : ∀ nl : List Int, (∀ a ∈ nl, 1 ≤ at0 (countOf t down D d 2) (headOf t a)) → (nl.length : Int) ≤ sumAt t (countOf t down D d 2) nl := by
        intro nl
        induction nl with
        | nil => intro _; exact Int.le_refl _
        | cons a r ihr =>
          intro h
          have h1 := h a (by simp)
          have h2 := ihr fun b hb => h b (by simp [hb])
          unfold sumAt
          rw [List.length_cons]; push_cast; omega
      cases hnl : nextOf t down D x d with
      | nil => rw [hnl] at hex; obtain ⟨a, ha⟩ := hex; cases ha
      | cons a r =>
        rw [hnl] at hih hval
        have hs := hsum (a :: r) fun b hb => (hih b hb).1
        have ha := hih a (by simp)
        rw [List.length_cons] at hs
        push_cast at hs
        refine ⟨by rw [hval]; omega, fun h => ?_, fun ⟨p, hp⟩ => ?_⟩
        · rw [h] at hval
          have hr : r = [] := List.eq_nil_of_length_eq_zero (by omega)
          subst hr
          have : sumAt t (countOf t down D d 2) [a] = at0 (countOf t down D d 2) (headOf t a) := by simp [sumAt]
          rw [this] at hval
          obtain ⟨p, hp⟩ := ha.2.1 (by omega)
          exact ⟨a :: p, hxd, hnl, hp⟩
        · cases p with
          | nil => exact (hxd hp).elim
          | cons b q =>
            obtain ⟨_, p2, p3⟩ := hp
            rw [hnl] at p2
            obtain ⟨rfl, rfl⟩ : a = b ∧ r = [] := by simpa using p2
            rw [hval]
            have : sumAt t (countOf t down D d 2) [a] = at0 (countOf t down D d 2) (headOf t a) := by simp [sumAt]
            rw [this, ha.2.2 ⟨q, p3⟩]
            rfl
theorem OnlyP.sp {t : Topo} {down : List Bool} {D : List Int} {d : Int} (hv : valid t = true) (hD : IsDist t down d false D) : ∀ (p : List Int) (x : Int), OnlyP t down D d x p → spOf t down D d x = p
  | [], x, h => by rw [show x = d from h]; exact spOf_end hD
  | a :: r, x, h => by
    obtain ⟨h1, h2, h3⟩ := h
    rw [spOf_step hv hD h1 h2, OnlyP.sp hv hD r _ h3]
end Go.Proofs.Ytogehfalhodapaa
namespace Go.Proofs.Ytogehfalhodapaa
open Go Go.Proofs.Ytogehfalhodapaa.Pv
set_option linter.unusedSimpArgs false
set_option linter.unusedVariables false
/-! parts of an only shortest path are only shortest paths -/
def endP (t : Topo) : Int → List Int → Int
  | x, [] => x
  | _, a :: r => endP t (headOf t a) r
theorem endP_app (t : Topo) : ∀ (u v : List Int) (x : Int), endP t x (u ++ v) = endP t (endP t x u) v
  | [], v, x => rfl
  | a :: r, v, x => endP_app t r v (headOf t a)
theorem endP_last {t : Topo} : ∀ {p : List Int} {x : Int}, p ≠ [] → endP t x p = headOf t (at0 p ((p.length : Int) - 1))
  | [], x, h => (h rfl).elim
  | [a], x, _ => rfl
  | a :: b :: r, x, _ => by
    have h := endP_last (t := t) (p := b :: r) (x := headOf t a) (by simp)
    show endP t (headOf t a) (b :: r) = _
    rw [h]
    congr 1
    unfold at0
    rw [show (((a :: b :: r).length : Int) - 1).toNat = (((b :: r).length : Int) - 1).toNat + 1 by simp, List.getElem?_cons_succ]
theorem OnlyP.rest {t : Topo} {down : List Bool} {D : List Int} {d : Int} : ∀ (u v : List Int) (x : Int), OnlyP t down D d x (u ++ v) → OnlyP t down D d (endP t x u) v
  | [], v, x, h => h
  | a :: r, v, x, h => OnlyP.rest r v (headOf t a) h.2.2
theorem OnlyP.end {t : Topo} {down : List Bool} {D : List Int} {d : Int} : ∀ (p : List Int) (x : Int), OnlyP t down D d x p → endP t x p = d
  | [], x, h => h
  | a :: r, x, h => OnlyP.end r (headOf t a) h.2.2
theorem OnlyP.tail {t : Topo} {down : List Bool} {D : List Int} {d x a : Int} {r : List Int} (hv : valid t = true) (h : OnlyP t down D d x (a :: r)) : NextIs t down D x d a :=
  next_is hv (by rw [h.2.1]; exact List.mem_cons_self)
theorem OnlyP.pos {t : Topo} {down : List Bool} {D : List Int} {d : Int} (hv : valid t = true) (hD : IsDist t down d false D) {p : List Int} {x : Int} (h : OnlyP t down D d x p) : 0 ≤ at0 D x := by
  cases p with
  | nil => rw [show x = d from h, hD.zero]; exact Int.le_refl _
  | cons a r =>
    have hn := h.tail hv
    have := hn.eq
    have := hn.pos
    have := (arc_ok hn.arc).2.2.2.2.2.1
    omega
theorem OnlyP.mid {t : Topo} {down : List Bool} {D : List Int} {d : Int} (hv : valid t = true) : ∀ (u : List Int) (x : Int) (v : List Int), OnlyP t down D d x (u ++ v) → u ≠ [] → transOf t (endP t x u) d = true ∧ 0 ≤ endP t x u ∧ endP t x u < t.nodes
  | [], x, v, _, h => (h rfl).elim
  | [a], x, v, h, _ => by
    have hn := OnlyP.tail hv h
    have hok := arc_ok hn.arc
    exact ⟨hn.tr, hok.2.2.1, hok.2.2.2.1⟩
  | a :: b :: r, x, v, h, _ => OnlyP.mid hv (b :: r) (headOf t a) v h.2.2 (by simp)
/-- by way of a node -/
theorem dist_via {t : Topo} {down : List Bool} {D M : List Int} {d m : Int} (hv : valid t = true) (hD : IsDist t down d false D) (hM : IsDist t down m false M) (hm : 0 ≤ at0 D m) (htr : transOf t m d = true) : ∀ (n : Nat) (x : Int), (at0 M x).toNat ≤ n → 0 ≤ x → x < t.nodes → 0 ≤ at0 M x →
    0 ≤ at0 D x ∧ at0 D x ≤ at0 M x + at0 D m := by
  intro n
  induction n using Nat.strongRecOn with
  | ind n ih =>
    intro x hn h0 h1 hMx
    by_cases e : x = m
    · subst e; rw [hM.zero]; omega
    · obtain ⟨a, ⟨o1, o2, o3, o4⟩, e1, e2⟩ := hM.some x h0 h1 e hMx
      have hok := arc_ok o1
      simp only [viaY, toX, Bool.false_eq_true, if_false] at o3 o4 e1 e2
      obtain ⟨i1, i2⟩ := ih (at0 M (headOf t a)).toNat (by omega) (headOf t a) (Nat.le_refl _) hok.2.2.1 hok.2.2.2.1 o3
      have htr2 : transOf t (headOf t a) d = true := by
        unfold transOf at o4
        simp only [Bool.or_eq_true, decide_eq_true_eq] at o4
        rcases o4 with q | q
        · rw [q]; exact htr
        · unfold transOf; rw [q]; simp
      have hb := hD.best a ⟨o1, o2, i1, htr2⟩
      simp only [viaY, toX, Bool.false_eq_true, if_false] at hb
      rw [e1] at hb
      omega
theorem takeArcs_nodup (k : Nat) : (takeArcs k).Nodup := (takeArcs_asc k).imp fun h => by omega
theorem nextOf_one {t : Topo} {down : List Bool} {D : List Int} {x d a : Int} (h : ∀ b ∈ nextOf t down D x d, b = a) (hex : ∃ b, b ∈ nextOf t down D x d) : nextOf t down D x d = [a] := by
  have hnd : (nextOf t down D x d).Nodup := (takeArcs_nodup _).filter _
  generalize nextOf t down D x d = l at h hex hnd
  match l, h, hex, hnd with
  | [], _, hex, _ => obtain ⟨b, hb⟩ := hex; cases hb
  | [b], h, _, _ => rw [h b (by simp)]
  | b :: c :: r, h, _, hnd =>
    have e1 := h b (by simp)
    have e2 := h c (by simp)
    rw [e1, e2] at hnd
    simp at hnd
theorem OnlyP.front {t : Topo} {down : List Bool} {D M : List Int} {d m : Int} (hv : valid t = true) (hD : IsDist t down d false D) (hM : IsDist t down m false M) (hmid : transOf t m d = true) (hm : 0 ≤ at0 D m) : ∀ (v : List Int) (x : Int) (w : List Int), 0 ≤ x → x < t.nodes → OnlyP t down D d x (v ++ w) → endP t x v = m →
    OnlyP t down M m x v ∧ 0 ≤ at0 M x ∧ at0 M x + at0 D m = at0 D x
  | [], x, w, h0, h1, h, he => by
    obtain rfl : x = m := he
    rw [hM.zero]
    exact ⟨rfl, Int.le_refl _, by omega⟩
  | a :: r, x, w, h0, h1, h, he => by
    have hn := OnlyP.tail hv h
    have hok := arc_ok hn.arc
    obtain ⟨i1, i2, i3⟩ := OnlyP.front hv hD hM hmid hm r (headOf t a) w hok.2.2.1 hok.2.2.2.1 h.2.2 he
    have htr : transOf t (headOf t a) m = true := by
      have q := hn.tr
      unfold transOf at q
      simp only [Bool.or_eq_true, decide_eq_true_eq] at q
      rcases q with q | q
      · have hr : r = [] := by
          cases r with
          | nil => rfl
          | cons b s => exact (h.2.2.1 q).elim
        subst hr
        have : headOf t a = m := he
        rw [this]; simp [transOf]
      · unfold transOf; rw [q]; simp
    have hb := hM.best a ⟨hn.arc, hn.up, i2, htr⟩
    simp only [viaY, toX, Bool.false_eq_true, if_false] at hb
    rw [hn.tail] at hb
    have htri := dist_via hv hD hM hm hmid _ x (Nat.le_refl _) h0 h1 hb.1
    have heq := hn.eq
    have hMx : at0 M x = at0 M (headOf t a) + costOf t a := by omega
    have hxm : x ≠ m := fun e => by
      rw [e, hM.zero] at hMx; omega
    refine ⟨⟨hxm, nextOf_one (fun b hb2 => ?_) (nextOf_some hM h0 h1 hxm hb.1), i1⟩, hb.1, by omega⟩
    have nb := next_is hv hb2
    have hokb := arc_ok nb.arc
    obtain ⟨t1, t2⟩ := dist_via hv hD hM hm hmid _ (headOf t b) (Nat.le_refl _) hokb.2.2.1 hokb.2.2.2.1 nb.pos
    have htrb : transOf t (headOf t b) d = true := by
      have q := nb.tr
      unfold transOf at q
      simp only [Bool.or_eq_true, decide_eq_true_eq] at q
      rcases q with q | q
      · rw [q]; exact hmid
      · unfold transOf; rw [q]; simp
    have hbb := hD.best b ⟨nb.arc, nb.up, t1, htrb⟩
    simp only [viaY, toX, Bool.false_eq_true, if_false] at hbb
    rw [nb.tail] at hbb
    have hbe := nb.eq
    have hmemb : b ∈ nextOf t down D x d := by
      refine List.mem_filter.2 ⟨(List.mem_filter.1 hb2).1, ?_⟩
      simp only [nxt, onOf, nb.tail, decide_true, Bool.true_and, nb.up, htrb, Bool.and_true, decide_eq_true_eq, Bool.and_eq_true, ne_eq]
      exact ⟨⟨h.1, t1⟩, by omega⟩
    rw [h.2.1] at hmemb
    simpa using hmemb
/-- what it means that there is an only shortest path -/
theorem uniq_iff {t : Topo} {down : List Bool} {x y : Int} : uniqOf t down x y = true ↔ (searchOf t down y false).2 = 0 ∧ (0 ≤ x ∧ x < t.nodes) ∧ ∃ p, OnlyP t down (distOf t down y false) y x p := by
  unfold uniqOf countR
  by_cases h1 : (searchOf t down y false).2 = 0
  · obtain ⟨hf, hd0, hse, hD, hDb⟩ := search_ok h1
    have hv := fits_valid hf
    rw [if_neg (by simp [h1])]
    cases hw : within x 0 (t.nodes - 1) with
    | false =>
      have : ¬ (0 ≤ x ∧ x < t.nodes) := fun h => by simp [within] at hw; omega
      simp [h1, this]
    | true =>
      have hx : 0 ≤ x ∧ x < t.nodes := by simp [within] at hw; omega
      have hc := count_is (down := down) (D := distOf t down y false) hv hd0
      simp only [h1, hx, Bool.true_eq_false, if_false, if_neg (show ¬ (2 : Int) < 0 by omega), decide_true, Bool.true_and, decide_eq_true_eq, true_and, and_self]
      by_cases hp : 0 ≤ at0 (distOf t down y false) x
      · exact (count_pos hv hD hd0 _ x (Nat.le_refl _) hx.1 hx.2 hp).2
      · have hxy : x ≠ y := fun e => by rw [e, hD.zero] at hp; omega
        have := hc.new x hx.1 hx.2 (fun e => hp ((((ordOf_is t _).mem x).1 (by simpa using e)).2)) hxy
        rw [this]
        constructor
        · intro h; cases h
        · rintro ⟨p, q⟩; exact (hp (q.pos hv hD)).elim
  · rw [if_pos h1]
    simp [h1]
end Go.Proofs.Ytogehfalhodapaa
namespace Go.Proofs.Ytogehfalhodapaa
open Go Go.Proofs.Ytogehfalhodapaa.Pv
set_option linter.unusedSimpArgs false
set_option linter.unusedVariables false
/-! lists of segments: a part of a covered part is covered; a longest step is a best one -/
theorem covers_iff {t : Topo} {down : List Bool} {p : List Int} (hp : p ≠ []) : coversOf t down p = true ↔ ∃ y, (searchOf t down y false).2 = 0 ∧ OnlyP t down (distOf t down y false) y (tailOf t (at0 p 0)) p := by
  have hlast := endP_last (t := t) (x := tailOf t (at0 p 0)) hp
  unfold coversOf
  generalize headOf t (at0 p ((p.length : Int) - 1)) = y at hlast
  generalize tailOf t (at0 p 0) = x at hlast
  simp only [Bool.and_eq_true, uniq_iff, decide_eq_true_eq, eqL]
  constructor
  · rintro ⟨⟨h1, hx, q, hq⟩, h2, h3⟩
    obtain ⟨hf, hd0, hse, hD, hDb⟩ := search_ok h1
    have hv := fits_valid hf
    have hsp := OnlyP.sp hv hD q x hq
    have hpos := hq.pos hv hD
    have hw : within x 0 (t.nodes - 1) = true := by simp [within]; omega
    have hwd : within y 0 (t.nodes - 1) = true := by simp [within]; omega
    have : (spathOf t down x y).1 = q := by
      unfold spathOf
      rw [if_neg (by simp [hf]), if_neg (by simp [hwd]), if_neg (by simp [hw]), if_neg (by omega)]
      exact hsp
    rw [h3] at this
    subst this
    exact ⟨y, h1, hq⟩
  · rintro ⟨z, h1, hq⟩
    obtain rfl : y = z := by rw [← hlast]; exact hq.end
    obtain ⟨hf, hd0, hse, hD, hDb⟩ := search_ok h1
    have hv := fits_valid hf
    have hsp := OnlyP.sp hv hD p x hq
    have hpos := hq.pos hv hD
    have hx : 0 ≤ x ∧ x < t.nodes := by
      cases p with
      | nil => exact (hp rfl).elim
      | cons a r =>
        have hn := OnlyP.tail hv hq
        have := arc_ok hn.arc
        rw [hn.tail] at this
        omega
    have hw : within x 0 (t.nodes - 1) = true := by simp [within]; omega
    have hwd : within y 0 (t.nodes - 1) = true := by simp [within]; omega
    have : spathOf t down x y = (p, 0) := by
      unfold spathOf
      rw [if_neg (by simp [hf]), if_neg (by simp [hwd]), if_neg (by simp [hw]), if_neg (by omega)]
      rw [hsp]
    exact ⟨⟨h1, hx, p, hq⟩, by rw [this], by rw [this]⟩
theorem at0_head (a : Int) (r : List Int) : at0 (a :: r) 0 = a := rfl
/-- a part of a covered part is covered -/
theorem covers_part {t : Topo} {down : List Bool} {u v w : List Int} (hv0 : v ≠ []) (h : coversOf t down (u ++ v ++ w) = true) : coversOf t down v = true := by
  have hne : u ++ v ++ w ≠ [] := by simp [hv0]
  obtain ⟨y, h1, hq⟩ := (covers_iff hne).1 h
  obtain ⟨hf, hd0, hse, hD, hDb⟩ := search_ok h1
  have hv := fits_valid hf
  generalize tailOf t (at0 (u ++ v ++ w) 0) = x at hq
  rw [List.append_assoc] at hq
  have hq2 := OnlyP.rest u (v ++ w) x hq
  obtain ⟨a, r, rfl⟩ : ∃ a r, v = a :: r := by cases v with | nil => exact (hv0 rfl).elim | cons a r => exact ⟨a, r, rfl⟩
  generalize endP t x u = x' at hq2
  have hn : NextIs t down (distOf t down y false) x' y a := OnlyP.tail hv hq2
  have hok := arc_ok hn.arc
  have hx' : 0 ≤ x' ∧ x' < t.nodes := by rw [hn.tail] at hok; omega
  obtain ⟨m1, m2, m3⟩ := OnlyP.mid hv (a :: r) x' w hq2 (by simp)
  have hrest := (OnlyP.rest (a :: r) w x' hq2).pos hv hD
  obtain ⟨hM, _⟩ := distOf_is (down := down) (dir := false) hv m2 m3
  obtain ⟨f1, f2, f3⟩ := OnlyP.front hv hD hM m1 hrest (a :: r) x' w hx'.1 hx'.2 hq2 rfl
  refine (covers_iff (by simp)).2 ⟨endP t x' (a :: r), ?_, ?_⟩
  · unfold searchOf
    rw [if_neg (by simp [hf]), if_neg (by simp [within]; omega)]
  · rw [at0_head, hn.tail]; exact f1
/-! lists over any condition that parts inherit -/
def PartC (C : List Int → Bool) : Prop := ∀ u v w : List Int, v ≠ [] → C (u ++ v ++ w) = true → C v = true
theorem covers_partC (t : Topo) (down : List Bool) : PartC (coversOf t down) := fun _ _ _ h1 h2 => covers_part h1 h2
/-- the least number of steps -/
def Steps (C : List Int → Bool) : Nat → List Int → Prop
  | 0, p => p = []
  | n + 1, p => ∃ k, 1 ≤ k ∧ k ≤ p.length ∧ (k = 1 ∨ C (p.take k) = true) ∧ Steps C n (p.drop k)
theorem Steps.zero_iff {C : List Int → Bool} {p : List Int} : Steps C 0 p ↔ p = [] := Iff.rfl
/-- a shorter rest needs no more steps -/
theorem Steps.mono {C : List Int → Bool} (hC : PartC C) : ∀ (n : Nat) (p : List Int) (j : Nat), Steps C n p → ∃ m, m ≤ n ∧ Steps C m (p.drop j)
  | 0, p, j, h => ⟨0, Nat.le_refl _, by rw [show p = [] from h]; simp [Steps]⟩
  | n + 1, p, j, h => by
    obtain ⟨k, k1, k2, k3, k4⟩ := h
    by_cases hj : j < k
    · -- the step is cut
      refine ⟨n + 1, Nat.le_refl _, k - j, by omega, by rw [List.length_drop]; omega, ?_, by rw [List.drop_drop, show j + (k - j) = k by omega]; exact k4⟩
      rcases k3 with e | e
      · exact .inl (by omega)
      · refine .inr (hC (p.take j) _ [] ?_ ?_)
        · intro h; have := congrArg List.length h; simp at this; omega
        · rw [List.append_nil]
          have : p.take k = p.take j ++ (p.drop j).take (k - j) := by rw [← List.take_add, show j + (k - j) = k by omega]
          rw [← this]; exact e
    · obtain ⟨m, m1, m2⟩ := Steps.mono hC n (p.drop k) (j - k) k4
      rw [List.drop_drop, show k + (j - k) = j by omega] at m2
      exact ⟨m, by omega, m2⟩
theorem bestK_spec (C : List Int → Bool) (p : List Int) : ∀ n, (bestK C p n = 0 ∨ C (p.take (bestK C p n)) = true) ∧ ∀ k, 1 ≤ k → k ≤ n → C (p.take k) = true → k ≤ bestK C p n
  | 0 => ⟨.inl rfl, fun k h1 h2 => by omega⟩
  | n + 1 => by
    obtain ⟨i1, i2⟩ := bestK_spec C p n
    unfold bestK
    split
    · rename_i h
      exact ⟨.inr h, fun k _ h2 _ => h2⟩
    · rename_i h
      refine ⟨i1, fun k h1 h2 h3 => ?_⟩
      by_cases e : k = n + 1
      · subst e; exact (h h3).elim
      · exact i2 k h1 (by omega) h3
/-- the list of longest steps takes so many steps, and no fewer do -/
theorem listGo_steps (t : Topo) (C : List Int → Bool) : ∀ (n : Nat) (p : List Int), p.length ≤ n → Steps C (listGo t C p).length p := by
  intro n
  induction n with
  | zero => intro p hp; obtain rfl : p = [] := List.eq_nil_of_length_eq_zero (by omega); rw [listGo_nil]; rfl
  | succ n ih =>
    intro p hp
    by_cases h : p = []
    · rw [h, listGo_nil]; rfl
    · have h0 : 0 < p.length := List.length_pos_iff.2 h
      have h1 := stepAt_pos C p p.length
      rw [listGo_cons h, List.length_cons]
      refine ⟨stepAt C p p.length, h1, stepAt_le C p h, ?_, ih _ (by rw [List.length_drop]; omega)⟩
      unfold stepAt
      split
      · exact .inl rfl
      · rename_i e; exact .inr ((bestK_spec C p p.length).1.resolve_left e)
theorem listGo_least {t : Topo} {C : List Int → Bool} (hC : PartC C) : ∀ (n : Nat) (p : List Int), Steps C n p → (listGo t C p).length ≤ n
  | 0, p, h => by rw [show p = [] from h, listGo_nil]; exact Nat.le_refl _
  | n + 1, p, h => by
    obtain ⟨k, k1, k2, k3, k4⟩ := h
    have hp : p ≠ [] := fun e => by rw [e] at k2; simp at k2; omega
    rw [listGo_cons hp, List.length_cons]
    have hle : k ≤ stepAt C p p.length := by
      have hs := stepAt_pos C p p.length
      rcases k3 with e | e
      · omega
      · have := (bestK_spec C p p.length).2 k k1 k2 e
        unfold stepAt; split <;> omega
    obtain ⟨m, m1, m2⟩ := Steps.mono hC n (p.drop k) (stepAt C p p.length - k) k4
    rw [List.drop_drop, show k + (stepAt C p p.length - k) = stepAt C p p.length by omega] at m2
    have := listGo_least (t := t) hC m (p.drop (stepAt C p p.length)) m2
    omega
end Go.Proofs.Ytogehfalhodapaa
namespace Go.Proofs.Ytogehfalhodapaa
open Go Go.Proofs.Ytogehfalhodapaa.Pv
set_option linter.unusedSimpArgs false
set_option linter.unusedVariables false
/-! the law EncodeUnique -/
theorem pathGo_end {t : Topo} : ∀ (p : List Int) (i : Nat) (to cost : Int), (pathGo t i to cost p).2.2 = 0 → (pathGo t i to cost p).1 = endP t to p ∧ (p ≠ [] → tailOf t (at0 p 0) = to)
  | [], _, to, _, _ => ⟨rfl, fun h => (h rfl).elim⟩
  | b :: r, i, to, cost, h => by
    unfold pathGo at h ⊢
    unfold pathStep at h ⊢
    cases hb : isArc t b with
    | false => rw [hb] at h; simp at h
    | true =>
      rw [hb, if_neg (by simp)] at h
      rw [if_neg (by simp)]
      by_cases hc : (!decide (tailOf t b = to) || (decide (0 < i) && overOf t to)) = true
      · rw [if_pos hc] at h; simp at h
      · rw [if_neg hc] at h ⊢
        have ht : tailOf t b = to := by
          simp only [Bool.or_eq_true, Bool.not_eq_true', decide_eq_false_iff_not, not_or, Decidable.not_not] at hc
          exact hc.1
        obtain ⟨i1, _⟩ := pathGo_end r (i + 1) (headOf t b) (cost + costOf t b) h
        exact ⟨i1, fun _ => ht⟩
theorem pathOf_end {t : Topo} {f : Int} {p : List Int} (h : (pathOf t f p).2.2 = 0) : (pathOf t f p).1 = endP t f p ∧ (p ≠ [] → tailOf t (at0 p 0) = f) := by
  unfold pathOf at h ⊢
  split at h
  · cases h
  · rename_i h1
    rw [if_neg h1]
    split at h
    · cases h
    · rename_i h2
      rw [if_neg h2]
      exact pathGo_end p _ _ _ h
theorem listGo_one {t : Topo} {C : List Int → Bool} {p : List Int} (hp : p ≠ []) : listGo t C p = [⟨1, headOf t (at0 p ((p.length : Int) - 1))⟩] ↔ C p = true := by
  have h0 : 0 < p.length := List.length_pos_iff.2 hp
  have hle := bestK_le C p p.length
  have hsp := bestK_spec C p p.length
  rw [listGo_cons hp]
  constructor
  · intro h
    have h2 := (List.cons.inj h).2
    have h1 := (List.cons.inj h).1
    have hd : p.drop (stepAt C p p.length) = [] := by
      by_cases e : p.drop (stepAt C p p.length) = []
      · exact e
      · rw [listGo_cons e] at h2; cases h2
    have hlen : p.length ≤ stepAt C p p.length := by
      have := congrArg List.length hd
      rw [List.length_drop] at this; simp at this; omega
    unfold segAt at h1
    unfold stepAt at hlen
    by_cases e : bestK C p p.length = 0
    · rw [if_pos e] at h1; cases h1
    · rw [if_neg e] at hlen
      have : bestK C p p.length = p.length := by omega
      have h3 := hsp.1.resolve_left e
      rwa [this, List.take_length] at h3
  · intro h
    have hb : bestK C p p.length = p.length := by
      have := hsp.2 p.length h0 (Nat.le_refl _) (by rw [List.take_length]; exact h)
      omega
    have hs : stepAt C p p.length = p.length := by unfold stepAt; rw [hb, if_neg (by omega)]
    rw [hs, List.drop_length, listGo_nil]
    unfold segAt
    rw [hb, if_neg (by omega)]
theorem checkOf_ok {t : Topo} {down : List Bool} {p : List Int} {f : Int} (h : checkOf t down p f = 0) : fitsOf t down = true ∧ (pathOf t f p).2.2 = 0 ∧ p.any (fun a => !upOf down a) = false := by
  unfold checkOf at h
  split at h
  · cases h
  · rename_i h1
    split at h
    · rename_i h2; exact (h2 h).elim
    · rename_i h2
      split at h
      · cases h
      · rename_i h3; exact ⟨by simpa using h1, Decidable.of_not_not h2, by simpa using h3⟩
set_option maxHeartbeats 2000000 in
theorem l_EncodeUnique (t : Topo) (down : List Bool) (f : Int) (p : List Int) (l : List Segm) : FCs 4 [casePV t down f p l] (.bool true) := by
  refine FCs.intro [(100010, 0)] [0,1,2,3,4,5,6,7,8,9,10] (fun A => [caseA A t down f p l]) Try.func4 rfl Try.call4 (by kernel_rfl) (by simp [Try.f4]) ?_
  intro A hA
  cbv
  refine CallV.bool _ (by subst hA; exact l_awake20) (by subst hA; rfl) fun m1 g1 => ?_
  cbv
  refine splitFalse (by subst hA; rw [g1]; rfl) ?_
  cbv
  refine CallV.bool _ (by subst hA; exact l_large20 t down f p l) (by subst hA; rfl) fun m2 g2 => ?_
  cbv
  refine splitBoolF (fun e1 => ?_) (fun e1 => ?_)
  rotate_left
  · cbv
    (subst hA; refine Or.inl ?_; simp only [ar])
  have hlg : largeOf t down p l = false := by rw [← g2, e1]
  obtain ⟨hn, hp, hl⟩ := large_no hlg
  have c1 := c_List20 t down p f (by omega) (by omega)
  have hnil : checkOf t down p f ≠ 0 ∨ p = [] → (listOf t down p f).1 = [] := fun h => by
    unfold listOf
    split
    · rfl
    · rename_i h1
      rcases h with h | h
      · exact (h1 h).elim
      · rw [h]; exact listGo_nil _ _
  have hE : (listOf t down p f).2 = checkOf t down p f := by
    unfold listOf
    split
    · rfl
    · rename_i h1; exact (Decidable.of_not_not h1).symm
  have hL : checkOf t down p f = 0 → (listOf t down p f).1 = listGo t (coversOf t down) p := fun h => by unfold listOf; rw [if_neg (by simp [h])]
  rw [hE] at c1
  generalize (listOf t down p f).1 = L at c1 hnil hL
  cbv
  refine CallV.nm2 (fun a b => .tup [.sl 2 a, .int .i64 b]) _ _ (by subst hA; exact c1) (by subst hA; rfl) (by subst hA; intros; rfl) fun a e g3 g4 => ?_
  cbv
  have hempty : checkOf t down p f ≠ 0 ∨ p = [] → A.b (fun _ => decide ((A.i fun _ => (a.length : Int)) = 0)) = true := fun h => by subst hA; exact decide_eq_true (by rw [g3, hnil h]; rfl)
  refine splitBoolF (fun e2 => ?_) (fun e2 => ?_)
  rotate_left
  · have h2 : checkOf t down p f ≠ 0 := by
      have h : (!decide (e = 0)) = true := by subst hA; exact e2
      rw [← g4]; simpa using h
    cbv
    have := hempty (.inl h2)
    subst hA
    exact Or.inl (congrArg PV.bool this)
  have h2 : checkOf t down p f = 0 := by
    have h : (!decide (e = 0)) = false := by subst hA; exact e2
    rw [← g4]; simpa using h
  cbv
  refine splitBoolF (fun e3 => ?_) (fun e3 => ?_)
  rotate_left
  · have h3 : ((ints p).length : Int) = 0 := of_decide_eq_true (by subst hA; exact e3)
    rw [ints_len] at h3
    have h3 : p = [] := List.eq_nil_of_length_eq_zero (by ((try simp only [ncast, Int.ofNat_eq_natCast] at *); omega))
    cbv
    have := hempty (.inr h3)
    subst hA
    exact Or.inl (congrArg PV.bool this)
  have h3 : ¬ (((ints p).length : Int) = 0) := of_decide_eq_false (by subst hA; exact e3)
  rw [ints_len] at h3
  have hp0 : p ≠ [] := fun h => by rw [h] at h3; simp at h3
  have hL := hL h2
  obtain ⟨hf, hpo, hup⟩ := checkOf_ok h2
  obtain ⟨hto, htl⟩ := pathOf_end hpo
  have htl := htl hp0
  rw [endP_last hp0] at hto
  have hone := listGo_one (t := t) (C := coversOf t down) hp0
  have hcov : coversOf t down p = (uniqOf t down f (headOf t (at0 p ((p.length : Int) - 1))) && (decide ((spathOf t down f (headOf t (at0 p ((p.length : Int) - 1)))).2 = 0) && eqL (spathOf t down f (headOf t (at0 p ((p.length : Int) - 1)))).1 p)) := by unfold coversOf; rw [htl]
  rw [← hto] at hone hcov
  cbv
  refine CallV.nm3 (fun a b c => .tup [.int .i64 a, .int .i64 b, .int .i64 c]) _ _ _ (by subst hA; exact r_Path t f p (by omega)) (by subst hA; rfl) (by intros; rfl) fun x y z g5 g6 g7 => ?_
  rw [← g5] at hone hcov
  cbv
  have hsl := spath_len t down f x
  refine CallV.nm2 (fun a b => .tup [.sl 1 a, .int .i64 b]) _ _ (by subst hA; exact r_Path11 t down f x) (by subst hA; rfl) (by subst hA; intros; rfl) fun D e' g8 g9 => ?_
  rw [← g9] at hcov
  generalize (spathOf t down f x).1 = q at g8 hsl hcov
  cbv
  refine CutC.upd Bool (fun b => [(10, .bool b)]) (fun _ => []) (fun b => b = coversOf t down p) ?_ ?_
  · cbv
    refine splitBoolF (fun e4 => ?_) (fun e4 => ?_)
    · have h4 : ¬ (e' = 0) := of_decide_eq_false (by subst hA; exact e4)
      cbv
      refine ⟨_, rfl, ?_⟩
      simp [LeSt, leVs, leP, St.set, setVs, aget, subHp]
      rw [hcov]; simp [h4]
    · have h4 : e' = 0 := of_decide_eq_true (by subst hA; exact e4)
      cbv
      refine CallV.bool _ (by subst hA; exact r_Unique t down f x) (by subst hA; rfl) fun u g10 => ?_
      cbv
      rw [← g10] at hcov
      refine splitBoolF (fun e5 => ?_) (fun e5 => ?_)
      · cbv
        refine ⟨_, rfl, ?_⟩
        simp [LeSt, leVs, leP, St.set, setVs, aget, subHp]
        rw [hcov, e5]; simp
      · cbv
        refine CallV.bool _ (by subst hA; rw [g8]; exact r_SameInts q p (by ((try simp only [ncast, Int.ofNat_eq_natCast] at *); omega))) (by subst hA; rfl) fun m g11 => ?_
        cbv
        refine ⟨_, rfl, ?_⟩
        simp [LeSt, leVs, leP, St.set, setVs, aget, subHp]
        rw [hcov, e5, g11]; simp [h4]
  rintro c hc
  cbv
  refine splitBoolF (fun e6 => ?_) (fun e6 => ?_)
  · have h6 : ¬ ((a.length : Int) = 1) := of_decide_eq_false (by subst hA; exact e6)
    have hcf : c = false := by
      rw [hc]
      cases hcv : coversOf t down p
      · rfl
      · have := hone.2 hcv
        rw [← hL] at this
        rw [g3, segs_len, this] at h6
        simp at h6
    cbv
    subst hA
    refine Or.inl ?_
    rw [hcf]
    rfl
  · have h6 : (a.length : Int) = 1 := of_decide_eq_true (by subst hA; exact e6)
    rw [g3, segs_len] at h6
    obtain ⟨s, hs⟩ : ∃ s, L = [s] := List.length_eq_one_iff.1 (by ((try simp only [ncast, Int.ofNat_eq_natCast] at *); omega))
    have ha : a = [[.int .i64 s.k, .int .i64 s.n]] := by rw [g3, hs]; rfl
    cbv
    refine ⟨_, by rw [ha]; rfl, Int.le_refl _, ?_⟩
    cbv
    subst hA
    refine Or.inl ?_
    rw [← hL, hs] at hone
    refine congrArg PV.bool (decide_eq_true ?_)
    show c = (decide (s.k = 1) && (decide (s.n = x) && true))
    rw [hc, Bool.eq_iff_iff, ← hone]
    simp only [Bool.and_eq_true, decide_eq_true_eq, and_true]
    constructor
    · intro h
      have := (List.cons.inj h).1
      rw [this]; exact ⟨rfl, rfl⟩
    · rintro ⟨h1, h2⟩
      rw [← segm_ext (a := s) (b := ⟨1, x⟩) h1 h2]
end Go.Proofs.Ytogehfalhodapaa
namespace Go.Proofs.Ytogehfalhodapaa
open Go Go.Proofs.Ytogehfalhodapaa.Pv
set_option linter.unusedSimpArgs false
set_option linter.unusedVariables false
/-! the least number of segments -/
noncomputable def leastOf (t : Topo) (down : List Bool) (p : List Int) (f : Int) : Int × Int := (((listOf t down p f).1.length : Int), (listOf t down p f).2)
theorem c_Least20 (t : Topo) (down : List Bool) (p : List Int) (f : Int) (hl : p.length ≤ 1000000) (hn20 : t.nodes < 20) :
    FCs 20 [t.pv, .sl 1 (bools down), .sl 1 (ints p), .int .i64 f] (.tup [.int .i64 (leastOf t down p f).1, .int .i64 (leastOf t down p f).2]) := by
  refine FCs.intro [] [0,1,2,3,4,8,9,10,11] (fun A => [t.pvA A, .sl 1 (A.e fun _ => bools down), .sl 1 (A.e fun _ => ints p), .int .i64 f]) Try.func20 rfl Try.call20 (by kernel_rfl) (by simp [Try.f20]) ?_
  intro A hA
  cbv
  have c1 := c_List20 t down p f hl hn20
  unfold leastOf
  generalize listOf t down p f = R at c1
  refine CallV.nm2 (fun a b => .tup [.sl 2 a, .int .i64 b]) _ _ (by subst hA; exact c1) (by subst hA; rfl) (by subst hA; intros; rfl) fun a e g3 g4 => ?_
  cbv
  subst hA
  exact Or.inl (by simp only [ar, g3, g4, segs_len]; try rfl)
/-- how many steps the rest behind an index takes -/
def restLen (t : Topo) (C : List Int → Bool) (p : List Int) (j : Nat) : Int := ((listGo t C (p.drop j)).length : Int)
theorem restLen_anti {t : Topo} {C : List Int → Bool} (hC : PartC C) {p : List Int} {i j : Nat} (h : i ≤ j) : restLen t C p j ≤ restLen t C p i := by
  obtain ⟨m, m1, m2⟩ := Steps.mono hC _ (p.drop i) (j - i) (listGo_steps t C _ (p.drop i) (Nat.le_refl _))
  rw [List.drop_drop, show i + (j - i) = j by omega] at m2
  have := listGo_least (t := t) hC m _ m2
  unfold restLen; omega
theorem restLen_step {t : Topo} {C : List Int → Bool} {p : List Int} {i : Nat} (h : i < p.length) : restLen t C p i = 1 + restLen t C p (i + stepAt C (p.drop i) (p.length - i)) := by
  have hne : p.drop i ≠ [] := fun e => by have := congrArg List.length e; rw [List.length_drop] at this; simp at this; omega
  unfold restLen
  rw [listGo_cons hne, List.length_drop, List.length_cons, List.drop_drop]
  push_cast; omega
theorem restLen_end {t : Topo} {C : List Int → Bool} {p : List Int} : restLen t C p p.length = 0 := by unfold restLen; rw [List.drop_length, listGo_nil]; rfl
theorem restLen_bound {t : Topo} {C : List Int → Bool} {p : List Int} {i : Nat} : 0 ≤ restLen t C p i ∧ restLen t C p i ≤ p.length := by
  have := listGo_len t C _ (p.drop i) (Nat.le_refl _)
  rw [List.length_drop] at this
  unfold restLen; omega
def restsFrom (t : Topo) (C : List Int → Bool) (p : List Int) (k : Nat) : List Int := (List.range (p.length + 1 - k)).map fun r => restLen t C p (k + r)
def restArr (t : Topo) (C : List Int → Bool) (p : List Int) (k : Nat) : List Int := List.replicate k 0 ++ restsFrom t C p k
theorem restArr_len {t : Topo} {C : List Int → Bool} {p : List Int} {k : Nat} (h : k ≤ p.length) : (restArr t C p k).length = p.length + 1 := by
  simp [restArr, restsFrom]; omega
theorem restArr_get {t : Topo} {C : List Int → Bool} {p : List Int} {k j : Nat} (h : k ≤ j) (h2 : j ≤ p.length) : (restArr t C p k)[j]? = some (restLen t C p j) := by
  unfold restArr restsFrom
  rw [List.getElem?_append_right (by simpa using h)]
  simp [show j - k < p.length + 1 - k by omega, show k + (j - k) = j by omega]
theorem restArr_start {t : Topo} {C : List Int → Bool} {p : List Int} : restArr t C p p.length = List.replicate (p.length + 1) 0 := by
  unfold restArr restsFrom
  rw [show p.length + 1 - p.length = 1 by omega, List.replicate_succ']
  simp [restLen_end]
theorem restArr_next {t : Topo} {C : List Int → Bool} {p : List Int} {i : Nat} (h : i < p.length) : (restArr t C p (i + 1)).set i (restLen t C p i) = restArr t C p i := by
  unfold restArr
  rw [List.replicate_succ', List.append_assoc]
  have h1 : i = (List.replicate i (0 : Int)).length := by simp
  conv => lhs; arg 2; rw [h1]
  rw [List.set_append_right _ _ (Nat.le_refl _), Nat.sub_self]
  have h2 : restsFrom t C p i = restLen t C p i :: restsFrom t C p (i + 1) := by
    unfold restsFrom
    rw [show p.length + 1 - i = (p.length + 1 - (i + 1)) + 1 by omega, List.range_succ_eq_map, List.map_cons, List.map_map]
    congr 1
    refine List.map_congr_left fun r _ => ?_
    show restLen t C p (i + (r + 1)) = _
    congr 1; omega
  rw [h2]
  rfl
set_option maxHeartbeats 4000000 in
theorem r_Least20 (t : Topo) (down : List Bool) (p : List Int) (f : Int) (hl : p.length ≤ 1000000) :
    FCs 21 [t.pv, .sl 1 (bools down), .sl 1 (ints p), .int .i64 f] (.tup [.int .i64 (leastOf t down p f).1, .int .i64 (leastOf t down p f).2]) := by
  refine FCs.intro [(11, 11), (25, 11)] [0,1,2,3,4,8,9,10,11,12,13] (fun A => [t.pvA A, .sl 1 (A.e fun _ => bools down), .sl 1 (A.e fun _ => ints p), .int .i64 f]) Try.func21 rfl Try.call21 (by kernel_rfl) (by simp [Try.f21]) ?_
  intro A hA
  cbv
  refine CallV.int _ _ (by subst hA; exact r_Check20 t down p f hl) (by subst hA; rfl) fun e g1 => ?_
  cbv
  refine splitBoolF (fun e1 => ?_) (fun e1 => ?_)
  rotate_left
  · have h1 : e ≠ 0 := by
      have h : (!decide (e = 0)) = true := by subst hA; exact e1
      simpa using h
    have : leastOf t down p f = (0, e) := by unfold leastOf listOf; rw [← g1, if_pos h1]; rfl
    rw [this]
    cbv
    (subst hA; refine Or.inl ?_; simp only [ar])
  have h1 : e = 0 := by
    have h : (!decide (e = 0)) = false := by subst hA; exact e1
    simpa using h
  have hlo : leastOf t down p f = (restLen t (coversOf t down) p 0, 0) := by unfold leastOf listOf restLen; rw [← g1, if_neg (by simp [h1])]; rfl
  rw [hlo]
  have hPC := covers_partC t down
  have hrl := fun k => restArr_len (t := t) (C := coversOf t down) (p := p) (k := k)
  have hrg := fun k j => restArr_get (t := t) (C := coversOf t down) (p := p) (k := k) (j := j)
  have hrs := restArr_start (t := t) (C := coversOf t down) (p := p)
  have hrn := fun i => restArr_next (t := t) (C := coversOf t down) (p := p) (i := i)
  have hrb := fun i => restLen_bound (t := t) (C := coversOf t down) (p := p) (i := i)
  have hst := fun i => restLen_step (t := t) (C := coversOf t down) (p := p) (i := i)
  have han := fun i j => restLen_anti (t := t) hPC (p := p) (i := i) (j := j)
  generalize hR : restLen t (coversOf t down) p = R at hrg hrn hrb hst han
  generalize hArr : restArr t (coversOf t down) p = Ar1 at hrl hrg hrs hrn
  cbv
  refine ⟨by subst hA; simp only [ar, inI64, ints_len]; ((try simp only [ncast, Int.ofNat_eq_natCast] at *); omega), ?_⟩
  refine ⟨by subst hA; simp only [ar, ints_len]; exact ⟨by ((try simp only [ncast, Int.ofNat_eq_natCast] at *); omega), by trivial, by show (8 : Int) * ((p.length : Int) + 1) ≤ 281474976710656; ((try simp only [ncast, Int.ofNat_eq_natCast] at *); omega), by ((try simp only [ncast, Int.ofNat_eq_natCast] at *); omega)⟩, ?_⟩
  refine ⟨by subst hA; simp only [ar, inI64, ints_len]; ((try simp only [ncast, Int.ofNat_eq_natCast] at *); omega), ?_⟩
  refine LoopK.upd Nat (fun k => [(12, .int .i64 (A.i fun _ => (k : Int) - 1)), (13, .junk)]) (fun k => [(11, ⟨3, 1, A.e fun _ => ints (Ar1 k), false⟩)]) (fun k => k ≤ p.length) (fun k => k) p.length ?_ ?_ ?_
  · subst hA
    simp [LeSt, leVs, leP, St.set, setVs, aget, subHp]
    simp only [ar, ints_len, hrs]
    refine ⟨trivial, ?_⟩
    rw [show ((p.length : Int) + 1).toNat = p.length + 1 by omega]
    simp [ints]
  · exact Nat.le_refl _
  rintro k hk
  cbv
  refine splitBool (fun e2 => ?_) (fun e2 => ?_)
  · have h2 : (0 : Int) ≤ (k : Int) - 1 := of_decide_eq_true (by subst hA; exact e2)
    obtain ⟨i, hki⟩ : ∃ i, k = i + 1 := ⟨k - 1, by ((try simp only [ncast, Int.ofNat_eq_natCast] at *); omega)⟩
    have hi1 : ((k : Int) - 1).toNat = i ∧ (k : Int) - 1 = i ∧ (((k : Int) - 1) + 1).toNat = k := by omega
    have hrk := hrg k k (Nat.le_refl _) hk
    have hlk := hrl k hk
    have hbk := hrb k
    have hik : i < p.length := by omega
    have hsl : stepAt (coversOf t down) (p.drop i) 0 = 1 := by unfold stepAt bestK; rfl
    have hstp := fun m => stepAt_step (C := coversOf t down) (q := p.drop i) (m := m)
    have hpos := fun m => stepAt_pos (coversOf t down) (p.drop i) m
    have hmono : ∀ m, stepAt (coversOf t down) (p.drop i) m ≤ m + 1 := fun m => by
      have := bestK_le (coversOf t down) (p.drop i) m
      unfold stepAt; split <;> omega
    have htk : ∀ m : Nat, ((ints p).take (i + m)).drop i = ints ((p.drop i).take m) := fun m => by rw [ints_take, ints_dropE, List.drop_take, Nat.add_sub_cancel_left]
    have hql : (p.drop i).length = p.length - i := List.length_drop
    have hfin := hst i hik
    have hnx := hrn i hik
    rw [← hki] at hnx
    generalize p.drop i = q at hsl hstp hpos hmono htk hql hfin
    have hset : ∀ (v : Int) (j : Nat), k ≤ j → j ≤ p.length → ((Ar1 k).set i v)[j]? = some (R j) := fun v j h1 h2 => by rw [List.getElem?_set_ne (by omega)]; exact hrg k j h1 h2
    have hsi : ∀ v : Int, ((Ar1 k).set i v)[i]? = some v := fun v => List.getElem?_set_self (by omega)
    obtain ⟨v0, hv0, hv0'⟩ := ints_atN (xs := Ar1 k) (k := i) (by omega)
    cbv
    refine ⟨by subst hA; simp only [ar, inI64]; ((try simp only [ncast, Int.ofNat_eq_natCast] at *); omega), ?_⟩
    refine ⟨by subst hA; simp only [ar, ints_len, hlk]; ((try simp only [ncast, Int.ofNat_eq_natCast] at *); omega), _, by subst hA; simp only [ar]; rw [show ((k : Int) - 1 + 1).toNat = k from hi1.2.2]; exact ints_get hrk, ?_⟩
    cbv
    refine ⟨by subst hA; simp only [ar, inI64]; ((try simp only [ncast, Int.ofNat_eq_natCast] at *); omega), ?_⟩
    refine ⟨by subst hA; simp only [ar, ints_len, hlk]; ((try simp only [ncast, Int.ofNat_eq_natCast] at *); omega), _, by subst hA; simp only [ar]; rw [show ((k : Int) - 1).toNat = i from hi1.1]; exact hv0', Nat.le_refl _, ?_⟩
    cbv
    refine ⟨by subst hA; simp only [ar, inI64]; ((try simp only [ncast, Int.ofNat_eq_natCast] at *); omega), ?_⟩
    refine LoopK.upd Nat (fun m => [(13, .int .i64 (A.i fun _ => (i : Int) + m + 1))]) (fun m => [(11, ⟨3, 1, A.e fun _ => ints ((Ar1 k).set i (1 + R (i + stepAt (coversOf t down) q m))), false⟩)]) (fun m => m ≤ q.length) (fun m => q.length - m) 0 ?_ ?_ ?_
    · subst hA
      simp [LeSt, leVs, leP, St.set, setVs, aget, subHp]
      simp only [ar, splice, hsl]
      refine ⟨by omega, ?_⟩
      rw [hi1.1, show i + 1 = k by omega]
      simp [ints, List.map_set]
    · exact Nat.zero_le _
    rintro m hm
    have hsl2 : ((ints p).take ((i : Int) + m + 1).toNat).drop ((k : Int) - 1).toNat = ints (q.take (m + 1)) := by rw [hi1.1, show ((i : Int) + m + 1).toNat = i + (m + 1) by omega]; exact htk (m + 1)
    have hmm := hmono m
    have hrs2 := hrb (i + stepAt (coversOf t down) q m)
    cbv
    refine splitBool (fun e3 => ?_) (fun e3 => ?_)
    · have h3 : (i : Int) + m + 1 ≤ ((ints p).length : Int) := of_decide_eq_true (by subst hA; exact e3)
      rw [ints_len] at h3
      have hm1 : m + 1 ≤ q.length := by ((try simp only [ncast, Int.ofNat_eq_natCast] at *); omega)
      have hst1 := hstp m
      have hgk := hset (1 + R (i + stepAt (coversOf t down) q m)) (i + m + 1) (by omega) (by omega)
      have hgi := hsi (1 + R (i + stepAt (coversOf t down) q m))
      have hle := han (i + stepAt (coversOf t down) q m) (i + m + 1) (by omega)
      have hb2 := hrb (i + m + 1)
      have hlen2 : ((Ar1 k).set i (1 + R (i + stepAt (coversOf t down) q m))).length = p.length + 1 := by rw [List.length_set]; exact hlk
      have hset2 : ∀ w : Int, ((Ar1 k).set i (1 + R (i + stepAt (coversOf t down) q m))).set i w = (Ar1 k).set i w := fun w => by rw [List.set_set]
      have hkk : ((i : Int) + m + 1).toNat = i + m + 1 := by omega
      generalize hv1 : R (i + stepAt (coversOf t down) q m) = v1 at hgk hgi hle hrs2 hlen2 hset2
      generalize hXs : (Ar1 k).set i (1 + v1) = Xs at hgk hgi hlen2 hset2
      cbv
      refine ⟨by subst hA; simp only [ar, ints_len]; ((try simp only [ncast, Int.ofNat_eq_natCast] at *); omega), ?_⟩
      refine CallV.bool (coversOf t down (q.take (m + 1))) (by subst hA; have := r_Covers t down (q.take (m + 1)) (by rw [List.length_take]; omega) (by rw [List.length_take]; omega); rw [← hsl2] at this; exact this) (by subst hA; rfl) fun b g2 => ?_
      rw [← g2] at hst1
      cbv
      refine splitBoolF (fun e4 => ?_) (fun e4 => ?_)
      · rw [e4, if_neg (by simp)] at hst1
        cbv
        refine ⟨by subst hA; simp only [ar, inI64]; ((try simp only [ncast, Int.ofNat_eq_natCast] at *); omega), ?_⟩
        refine ⟨m + 1, ⟨hm1, by omega⟩, ?_⟩
        subst hA
        simp [LeSt, leVs, leP, St.set, setVs, aget, subHp]
        rw [hst1, hv1, hXs]
        simp only [ar]
        exact ⟨by omega, trivial⟩
      · rw [e4, if_pos rfl] at hst1
        cbv
        refine ⟨by subst hA; simp only [ar, ints_len, hlen2]; ((try simp only [ncast, Int.ofNat_eq_natCast] at *); omega), _, by subst hA; simp only [ar]; rw [show ((k : Int) - 1).toNat = i from hi1.1]; exact ints_get hgi, ?_⟩
        cbv
        refine ⟨by subst hA; simp only [ar, ints_len, hlen2]; ((try simp only [ncast, Int.ofNat_eq_natCast] at *); omega), _, by subst hA; simp only [ar]; rw [show ((i : Int) + m + 1).toNat = i + m + 1 from hkk]; exact ints_get hgk, ?_⟩
        cbv
        refine ⟨by subst hA; simp only [ar, inI64]; ((try simp only [ncast, Int.ofNat_eq_natCast] at *); omega), ?_⟩
        refine ⟨by subst hA; simp only [ar, ints_len, hlen2]; ((try simp only [ncast, Int.ofNat_eq_natCast] at *); omega), _, by subst hA; simp only [ar]; rw [show ((k : Int) - 1).toNat = i from hi1.1]; exact ints_get hgi, Nat.le_refl _, ?_⟩
        cbv
        refine ⟨by subst hA; simp only [ar, inI64]; ((try simp only [ncast, Int.ofNat_eq_natCast] at *); omega), ?_⟩
        refine ⟨m + 1, ⟨hm1, by omega⟩, ?_⟩
        subst hA
        simp [LeSt, leVs, leP, St.set, setVs, aget, subHp]
        rw [hst1, ← hset2 (1 + R (i + (m + 1)))]
        simp only [ar, splice]
        refine ⟨by omega, ?_⟩
        rw [hi1.1]
        have hmin : (if 1 + R (i + m + 1) < 1 + v1 then 1 + R (i + m + 1) else 1 + v1) = 1 + R (i + (m + 1)) := by
          rw [show i + (m + 1) = i + m + 1 by omega]
          split <;> omega
        simp only [ints, List.map_set]
        refine congrArg (fun q : Int => (List.map (fun x => [PV.int IntKind.i64 x]) Xs).set i [PV.int IntKind.i64 q]) ?_
        exact hmin
    · have h3 : ¬ ((i : Int) + m + 1 ≤ ((ints p).length : Int)) := of_decide_eq_false (by subst hA; exact e3)
      rw [ints_len] at h3
      have hm1 : m = q.length := by ((try simp only [ncast, Int.ofNat_eq_natCast] at *); omega)
      rw [hm1, hql, ← hfin, hnx]
      cbv
      refine ⟨by subst hA; simp only [ar, inI64]; ((try simp only [ncast, Int.ofNat_eq_natCast] at *); omega), ?_⟩
      refine ⟨i, ⟨by omega, by omega⟩, ?_⟩
      subst hA
      simp [LeSt, leVs, leP, St.set, setVs, aget, subHp]
      simp only [ar]
      first | omega | exact ⟨by omega, trivial⟩
  · have h2 : ¬ ((0 : Int) ≤ (k : Int) - 1) := of_decide_eq_false (by subst hA; exact e2)
    have hk0 : k = 0 := by ((try simp only [ncast, Int.ofNat_eq_natCast] at *); omega)
    have hr0 := hrg 0 0 (Nat.le_refl _) (Nat.zero_le _)
    have hl0 := hrl 0 (Nat.zero_le _)
    rw [hk0]
    cbv
    refine ⟨by subst hA; simp only [ar, ints_len, hl0]; ((try simp only [ncast, Int.ofNat_eq_natCast] at *); omega), _, by subst hA; exact ints_get hr0, ?_⟩
    cbv
    (subst hA; refine Or.inl ?_; simp only [ar])
end Go.Proofs.Ytogehfalhodapaa
namespace Go.Proofs.Ytogehfalhodapaa
open Go Go.Proofs.Ytogehfalhodapaa.Pv
set_option linter.unusedSimpArgs false
set_option linter.unusedVariables false
/-! the law EncodeLeast -/
set_option maxHeartbeats 1000000 in
theorem l_EncodeLeast (t : Topo) (down : List Bool) (f : Int) (p : List Int) (l : List Segm) : FCs 5 [casePV t down f p l] (.bool true) := by
  refine FCs.intro [] [0,1,2,3,4,5,6,7,8] (fun A => [caseA A t down f p l]) Try.func5 rfl Try.call5 (by kernel_rfl) (by simp [Try.f5]) ?_
  intro A hA
  cbv
  refine CallV.bool _ (by subst hA; exact l_awake20) (by subst hA; rfl) fun m1 g1 => ?_
  cbv
  refine splitFalse (by subst hA; rw [g1]; rfl) ?_
  cbv
  refine CallV.bool _ (by subst hA; exact l_large20 t down f p l) (by subst hA; rfl) fun m2 g2 => ?_
  cbv
  refine splitBoolF (fun e1 => ?_) (fun e1 => ?_)
  rotate_left
  · cbv
    (subst hA; refine Or.inl ?_; simp only [ar])
  have hlg : largeOf t down p l = false := by rw [← g2, e1]
  obtain ⟨hn, hp, hl⟩ := large_no hlg
  have c1 := c_Least20 t down p f (by omega) (by omega)
  have c2 := r_Least20 t down p f (by omega)
  have c3 := c_List20 t down p f (by omega) (by omega)
  have hlen : (leastOf t down p f).1 = ((listOf t down p f).1.length : Int) := rfl
  have herr : (leastOf t down p f).2 = (listOf t down p f).2 := rfl
  rw [← herr] at c3
  generalize (listOf t down p f).1 = L at c3 hlen
  generalize (leastOf t down p f).1 = N at c1 c2 hlen
  generalize (leastOf t down p f).2 = E at c1 c2 c3
  cbv
  refine CallV.nm2 (fun a b => .tup [.int .i64 a, .int .i64 b]) _ _ (by subst hA; exact c1) (by subst hA; rfl) (by intros; rfl) fun a e g3 g4 => ?_
  cbv
  refine CallV.nm2 (fun a b => .tup [.int .i64 a, .int .i64 b]) _ _ (by subst hA; exact c2) (by subst hA; rfl) (by intros; rfl) fun b e' g5 g6 => ?_
  cbv
  refine CallV.nm2 (fun a b => .tup [.sl 2 a, .int .i64 b]) _ _ (by subst hA; exact c3) (by subst hA; rfl) (by subst hA; intros; rfl) fun s g g7 g8 => ?_
  cbv
  refine splitTrue (by subst hA; exact decide_eq_true (by rw [g4, g6])) ?_
  cbv
  refine splitTrue (by subst hA; exact decide_eq_true (by rw [g3, g5])) ?_
  cbv
  refine splitTrue (by subst hA; exact decide_eq_true (by rw [g8, g6])) ?_
  cbv
  subst hA
  refine Or.inl (congrArg PV.bool (decide_eq_true ?_))
  show (s.length : Int) = b
  rw [g7, g5, segs_len, hlen]
end Go.Proofs.Ytogehfalhodapaa
