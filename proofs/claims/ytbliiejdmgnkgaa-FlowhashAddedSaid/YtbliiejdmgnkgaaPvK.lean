/-
  The layer of values: what an evaluator says of a function holds of every run of it. For every program of the model that meets the named conditions.
-/
import Derived.Test.YtbliiejdmgnkgaaPvJ
namespace Go.Proofs.Ytbliiejdmgnkgaa.Pv
open Go

/-- an object lies in the block in which it lay -/
def SameB (δ δ' : Nat → Value) (g : Nat) : Prop := ∀ b n c, δ g = .slice (some ⟨b, 0, none⟩) n c → ∃ n' c', δ' g = .slice (some ⟨b, 0, none⟩) n' c'

theorem SameB.of_eq {δ δ' : Nat → Value} {g : Nat} (h : δ' g = δ g) : SameB δ δ' g := fun b n c e => ⟨n, c, by rw [h]; exact e⟩

/-- the contract of a function that is handed objects of its caller's own -/
structure FH (P : Program) (f : Nat) (args : List PV) (hp : List (Nat × GObj)) (r : PV) (hp' : List (Nat × GObj)) : Prop where
  enter : ∀ (args : Array Value) (w : World), (callFunc f args).run P w = .ok (.enter f args) w
  calls : ∀ (vs : List Value) (w : World) (M : Mem) (F : Frm) (δ : Nat → Value), Inv M F δ hp w → RepSs M δ args vs →
    Calls P f vs.toArray w fun e w' => ∃ M' δ' v, e = .returned v ∧ M.le M' ∧ Inv M' F δ' hp' w' ∧ RepS M' δ' r v ∧ ∀ g, ownId hp g = true → SameB δ δ' g

section
variable {P : Program} {E : Env} {C : Ctr} {H : Hnd} {w : World} {N : Cx} {s : St} {a : Act} {M : Mem} {F : Frm} {δ : Nat → Value}

theorem hasId_iff (hp : List (Nat × GObj)) (g : Nat) : hasId hp g = true ↔ ∃ o, aget hp g = some o := by
  unfold hasId
  cases aget hp g <;> simp

theorem subHp_get : ∀ {hpi hp : List (Nat × GObj)}, subHp hpi hp → ∀ g o, aget hpi g = some o → aget hp g = some o
  | [], hp, _, g, o, h => by simp [aget] at h
  | (g', o') :: r, hp, hs, g, o, h => by
    simp only [aget] at h
    split at h
    · rename_i hg
      cases h
      rw [← hg]; exact hs.1
    · exact subHp_get hs.2 g o h

theorem freshHp_get {hpi hp : List (Nat × GObj)} : ∀ {hp' : List (Nat × GObj)}, freshHp hpi hp hp' = true → ∀ g o, aget hp' g = some o → hasId hpi g = true ∨ hasId hp g = false
  | [], _, g, o, h => by simp [aget] at h
  | (g', o') :: r, hs, g, o, h => by
    simp only [freshHp, Bool.and_eq_true, Bool.or_eq_true, Bool.not_eq_true'] at hs
    simp only [aget] at h
    split at h
    · rename_i hg
      rw [← hg]; exact hs.1
    · exact freshHp_get hs.2 g o h

theorem aget_delHp (hpi : List (Nat × GObj)) : ∀ (hp : List (Nat × GObj)) (g : Nat), aget (delHp hpi hp) g = if hasId hpi g then none else aget hp g
  | [], g => by simp [delHp, aget]
  | (g', o') :: r, g => by
    simp only [delHp]
    by_cases h : hasId hpi g' = true
    · rw [if_pos h, aget_delHp hpi r g]
      simp only [aget]
      by_cases hg : g' = g
      · subst hg; simp [h]
      · simp [hg]
    · rw [if_neg h]
      simp only [aget]
      by_cases hg : g' = g
      · subst hg; simp [h]
      · simp only [hg, if_false]; exact aget_delHp hpi r g

theorem aget_append {α : Type} (l l' : List (Nat × α)) (g : Nat) : aget (l ++ l') g = match aget l g with | some x => some x | none => aget l' g := by
  induction l with
  | nil => rfl
  | cons x r ih => obtain ⟨j, p⟩ := x; simp only [List.cons_append, aget]; split <;> simp [ih]

theorem RepS.killW {δ δ' : Nat → Value} (k1 k2 : Nat → Bool) (h1 : ∀ g, k1 g = false → δ' g = δ g) (h2 : ∀ g, k2 g = false → SameB δ δ' g) {p : PV} {v : Value} (h : RepS M δ p v) : RepS M δ' (Pv.killW k1 k2 p) v := by
  unfold Pv.killW
  refine h.mapO _ _ ?_ ?_
  · intro g' ao n c hg
    cases hk : k1 g' with
    | true => exact .imm _ _ (.junk _)
    | false => exact .os _ _ _ _ (by rw [h1 g' hk]; exact hg)
  · intro g' sz i f b n c hg
    cases hk : k2 g' with
    | true => exact .imm _ _ (.junk _)
    | false =>
      obtain ⟨n', c', e⟩ := h2 g' hk b n c hg
      exact .op _ _ _ _ b n' c' e
theorem RepSs.killW {δ δ' : Nat → Value} (k1 k2 : Nat → Bool) (h1 : ∀ g, k1 g = false → δ' g = δ g) (h2 : ∀ g, k2 g = false → SameB δ δ' g) {p : List PV} {v : List Value} (h : RepSs M δ p v) : RepSs M δ' (Pv.killWs k1 k2 p) v := by
  unfold Pv.killWs
  refine h.mapO _ _ ?_ ?_
  · intro g' ao n c hg
    cases hk : k1 g' with
    | true => exact .imm _ _ (.junk _)
    | false => exact .os _ _ _ _ (by rw [h1 g' hk]; exact hg)
  · intro g' sz i f b n c hg
    cases hk : k2 g' with
    | true => exact .imm _ _ (.junk _)
    | false =>
      obtain ⟨n', c', e⟩ := h2 g' hk b n c hg
      exact .op _ _ _ _ b n' c' e

theorem mapE_flattenW (k k' : Nat → Bool) (es : List (List PV)) : (mapE (killWs k k') es).flatten = killWs k k' es.flatten := by
  induction es with
  | nil => simp [mapE, killWs, mapOs]
  | cons e es ih => rw [mapE, List.flatten_cons, List.flatten_cons, ih]; unfold killWs; rw [mapOs_append]
theorem mapE_lengthW (k k' : Nat → Bool) (es : List (List PV)) : (mapE (killWs k k') es).length = es.length := by
  induction es with
  | nil => rfl
  | cons e es ih => simp [mapE, ih]
theorem mapE_memW (k k' : Nat → Bool) (es : List (List PV)) {sz : Nat} (h : ∀ e ∈ es, e.length = sz) : ∀ e ∈ mapE (killWs k k') es, e.length = sz := by
  induction es with
  | nil => simp [mapE]
  | cons e es ih =>
    intro e' he'
    rw [mapE] at he'
    rcases List.mem_cons.1 he' with rfl | he'
    · unfold killWs; rw [mapOs_length]; exact h e (by simp)
    · exact ih (fun e he => h e (by simp [he])) e' he'

/-- what is known of one object, when the numbers' meaning turns -/
theorem own_killW {δ δ' : Nat → Value} {o : GObj} {w' : World} {M M' : Mem} {F : Frm} {g : Nat} (k k' : Nat → Bool) (hδ : ∀ g, k g = false → δ' g = δ g) (hδ' : ∀ g, k' g = false → SameB δ δ' g) (hm : M.le M')
    (hg : δ' g = δ g) (hb : ∀ b, (δ g).ownBlock = some b → w'.heap[b]? = w.heap[b]?) (hM : ∀ b, (δ g).ownBlock = some b → M' b = none ∧ F b = none)
    (h : ∃ xs, w.ownsRow 0 o.ty o.sz (δ g) o.es.length xs ∧ (∀ e ∈ o.es, e.length = o.sz) ∧ 0 < o.sz ∧ RepSs M δ o.es.flatten xs ∧ (o.own = false → RepIs M o.es.flatten xs) ∧ (∀ v ∈ xs, v.oneCell' = true)) :
    ∃ xs, w'.ownsRow 0 (o.map (killWs k k')).ty (o.map (killWs k k')).sz (δ' g) (o.map (killWs k k')).es.length xs ∧ (∀ e ∈ (o.map (killWs k k')).es, e.length = (o.map (killWs k k')).sz) ∧ 0 < (o.map (killWs k k')).sz ∧
      RepSs M' δ' (o.map (killWs k k')).es.flatten xs ∧ ((o.map (killWs k k')).own = false → RepIs M' (o.map (killWs k k')).es.flatten xs) ∧ (∀ v ∈ xs, v.oneCell' = true) ∧ ∀ b, (δ' g).ownBlock = some b → M' b = none ∧ F b = none := by
  obtain ⟨xs, q1, q2, q3, q4, q5, q6⟩ := h
  have q1' : w'.ownsRow 0 o.ty o.sz (δ g) o.es.length xs := by
    refine ⟨q1.1, ?_⟩
    rcases q1.2 with hh | ⟨b, cap, cur, e1, e2, e3, e4⟩
    · exact .inl hh
    · exact .inr ⟨b, cap, cur, e1, e2, by rw [hb b (by rw [e1]; rfl)]; exact e3, e4⟩
  refine ⟨xs, ?_⟩
  unfold GObj.map
  split
  · rename_i hown
    refine ⟨?_, mapE_memW k k' _ q2, q3, ?_, ?_, q6, by rw [hg]; exact hM⟩
    · rw [hg]; dsimp only; rw [mapE_lengthW]; exact q1'
    · dsimp only; rw [mapE_flattenW]; exact (q4.mono hm).killW k k' hδ hδ'
    · intro hf; rw [hown] at hf; cases hf
  · rename_i hown
    have hi := (q5 (by simpa using hown)).mono hm
    exact ⟨by rw [hg]; exact q1', q2, q3, hi.toS, fun _ => hi, q6, by rw [hg]; exact hM⟩

theorem St.get_mapV (s : St) (h : PV → PV) (hj : h .junk = .junk) (hp : List (Nat × GObj)) (i : Nat) : St.get ⟨mapV h s.vs, mapV h s.ts, hp⟩ i = h (s.get i) := by
  unfold St.get
  simp only [aget_mapV]
  cases aget s.vs i with
  | some p => rfl
  | none =>
    simp only [Option.map_none]
    cases aget s.ts i with
    | some p => rfl
    | none => exact hj.symm

theorem callH_wp (hH : ∀ f as hp r hp', H f as hp r hp' → FH P f as hp r hp') {f : Nat} {args : List PV} {vs : List Value} {d : Option Nat} {K : St → Prop} (hd : ∀ i, d = some i → N.Ok i)
    (h : CallH H f args s d K) (hr : Rel N s a w M F δ) (hrep : RepSs M δ args vs) :
    (∀ (as : Array Value) (w : World), (callFunc f as).run P w = .ok (.enter f as) w) ∧
    Calls P f vs.toArray w fun e w' => ∃ v, e = .returned v ∧ GoodK N M F K (a.put d v) w' := by
  obtain ⟨hpi, r, hp', h, h0, h1, h3⟩ := h
  have hfh := hH _ _ _ _ _ h
  refine ⟨hfh.enter, ?_⟩
  let rest : Nat → Prop := fun b => ∃ g o, hasId hpi g = false ∧ aget s.hp g = some o ∧ (δ g).ownBlock = some b
  have hrest : ∀ b, rest b → M b = none ∧ F b = none := by
    rintro b ⟨g, o, _, hg, hb⟩
    obtain ⟨xs, _, _, _, _, _, _, h7⟩ := hr.inv.own g o hg
    exact h7 b hb
  classical
  have hi0 : Inv M ⟨fun b => if rest b then w.heap[b]? else F b, F.os, F.out⟩ δ hpi w := by
    refine ⟨hr.inv.m, ?_, ?_, hr.inv.io, ?_, ?_⟩
    · intro b o hb
      dsimp only at hb
      split at hb
      · exact hb
      · exact hr.inv.f _ _ hb
    · intro b hb
      dsimp only
      split
      · rename_i ho; exact absurd (hrest b ho).1 hb
      · exact hr.inv.mf b hb
    · intro g o hg
      obtain ⟨xs, q1, q2, q3, q4, q5, q6, q7⟩ := hr.inv.own g o (subHp_get h0 g o hg)
      refine ⟨xs, q1, q2, q3, q4, q5, q6, fun b hb => ⟨(q7 b hb).1, ?_⟩⟩
      dsimp only
      split
      · rename_i hre
        obtain ⟨g', o', hn, hg', hb'⟩ := hre
        by_cases e : g = g'
        · subst e
          have := (hasId_iff hpi g).2 ⟨o, hg⟩
          rw [hn] at this; cases this
        · exact absurd hb' (hr.inv.dis g g' o o' e (subHp_get h0 g o hg) hg' b hb)
      · exact (q7 b hb).2
    · intro g g' o o' hne hg hg' b hb
      exact hr.inv.dis g g' o o' hne (subHp_get h0 g o hg) (subHp_get h0 g' o' hg') b hb
  refine (hfh.calls vs w M _ δ hi0 hrep).mono ?_
  rintro e w' ⟨M', δ', v, rfl, hm, hi', hv, hkeep⟩
  refine ⟨v, rfl, ?_⟩
  let δ2 : Nat → Value := fun g => if inSet hpi hp' g then δ' g else δ g
  have hold : ∀ b, rest b → w'.heap[b]? = w.heap[b]? := by
    intro b hb
    cases hwb : w.heap[b]? with
    | none =>
      obtain ⟨g, o, _, hg, hgb⟩ := hb
      obtain ⟨xs, h1, _⟩ := hr.inv.own g o hg
      have := (h1.lt b hgb).2
      simp at hwb; omega
    | some x => exact hi'.f b x (by simp [hb, hwb])
  have hd1 : ∀ g, inSet hpi hp' g = false → δ2 g = δ g := by
    intro g hg
    simp only [δ2, hg]
    rfl
  have hd1' : ∀ g, (inSet hpi hp' g && !ownId hpi g) = false → SameB δ δ2 g := by
    intro g hg
    cases hin : inSet hpi hp' g with
    | false => exact .of_eq (hd1 g hin)
    | true =>
      rw [hin] at hg
      have hk := hkeep g (by simpa using hg)
      intro b n c e
      obtain ⟨n', c', e'⟩ := hk b n c e
      exact ⟨n', c', by simp only [δ2, hin, if_true]; exact e'⟩
  have hd2 : ∀ g, (!inSet hpi hp' g) = false → δ2 g = δ' g := by
    intro g hg
    simp only [δ2]
    rw [if_pos (by simpa using hg)]
  have hMrest : ∀ b, rest b → M' b = none := by
    intro b hb
    cases hmm : M' b with
    | none => rfl
    | some x =>
      have := hi'.mf b (by rw [hmm]; simp)
      simp only [hb, if_true] at this
      obtain ⟨g, o, _, hg, hgb⟩ := hb
      obtain ⟨xs, h1, _⟩ := hr.inv.own g o hg
      have h2 := (h1.lt b hgb).2
      simp at this; omega
  have hrel : Rel N (s.handed hpi hp') a w' M' F δ2 := by
    refine ⟨hr.def0.mono hm, hr.size, hr.ro, ?_, ?_⟩
    · intro i
      have : (s.handed hpi hp').get i = Pv.killW (inSet hpi hp') (fun g => inSet hpi hp' g && !ownId hpi g) (s.get i) := St.get_mapV s _ rfl _ i
      rw [this]
      exact ((hr.slot i).mono hm).killW _ _ hd1 hd1'
    · have hget : ∀ g o, aget (s.handed hpi hp').hp g = some o → (∃ o', aget hp' g = some o' ∧ o = o'.map (killWs (fun g => !inSet hpi hp' g) fun g => !inSet hpi hp' g)) ∨
          (aget hp' g = none ∧ hasId hpi g = false ∧ ∃ o', aget s.hp g = some o' ∧ o = o'.map (killWs (inSet hpi hp') fun g => inSet hpi hp' g && !ownId hpi g)) := by
        intro g o hg
        simp only [St.handed, aget_append, aget_mapH, aget_delHp] at hg
        cases hg1 : aget hp' g with
        | some o' =>
          simp only [hg1, Option.map_some, Option.some.injEq] at hg
          exact .inl ⟨o', rfl, hg.symm⟩
        | none =>
          simp only [hg1, Option.map_none] at hg
          split at hg
          · simp at hg
          · rename_i hn
            cases hg2 : aget s.hp g with
            | none => rw [hg2] at hg; simp at hg
            | some o' =>
              rw [hg2] at hg
              simp only [Option.map_some, Option.some.injEq] at hg
              exact .inr ⟨rfl, by simpa using hn, o', rfl, hg.symm⟩
      refine ⟨hi'.m, ?_, ?_, hi'.io, ?_, ?_⟩
      · intro b x hb
        have hno : ¬ rest b := fun ho => by rw [(hrest b ho).2] at hb; cases hb
        exact hi'.f b x (by simp [hno, hb])
      · intro b hb
        have := hi'.mf b hb
        dsimp only at this
        split at this
        · rename_i ho; exact (hrest b ho).2
        · exact this
      · intro g o hg
        rcases hget g o hg with ⟨o', hg1, rfl⟩ | ⟨hg1, hn, o', hg2, rfl⟩
        · obtain ⟨xs, q1, q2, q3, q4, q5, q6, q7⟩ := hi'.own g o' hg1
          have hin : inSet hpi hp' g = true := by simp [inSet, (hasId_iff hp' g).2 ⟨o', hg1⟩]
          refine own_killW (w := w') (M := M') _ _ hd2 (fun g hg => .of_eq (hd2 g hg)) M'.le_refl (hd2 g (by simp [hin])) (fun b hb => rfl) ?_ ⟨xs, q1, q2, q3, q4, q5, q6⟩
          intro b hb
          refine ⟨(q7 b hb).1, ?_⟩
          have := (q7 b hb).2
          dsimp only at this
          split at this
          · rename_i hre; exact (hrest b hre).2
          · exact this
        · obtain ⟨xs, q1, q2, q3, q4, q5, q6, q7⟩ := hr.inv.own g o' hg2
          have hin : inSet hpi hp' g = false := by
            have : hasId hp' g = false := by unfold hasId; rw [hg1]
            simp [inSet, hn, this]
          refine own_killW (w := w) (M := M) _ _ hd1 hd1' hm (hd1 g (by simp [hin])) (fun b hb => hold b ⟨g, o', hn, hg2, hb⟩) ?_ ⟨xs, q1, q2, q3, q4, q5, q6⟩
          intro b hb
          exact ⟨hMrest b ⟨g, o', hn, hg2, hb⟩, (q7 b hb).2⟩
      · intro g1 g2 o1 o2 hne e1 e2 b hb
        rcases hget g1 o1 e1 with ⟨o1', f1, _⟩ | ⟨f1, n1, o1', k1, _⟩ <;> rcases hget g2 o2 e2 with ⟨o2', f2, _⟩ | ⟨f2, n2, o2', k2, _⟩
        · have i1 : inSet hpi hp' g1 = true := by simp [inSet, (hasId_iff hp' g1).2 ⟨o1', f1⟩]
          have i2 : inSet hpi hp' g2 = true := by simp [inSet, (hasId_iff hp' g2).2 ⟨o2', f2⟩]
          rw [hd2 g1 (by simp [i1])] at hb
          rw [hd2 g2 (by simp [i2])]
          exact hi'.dis g1 g2 o1' o2' hne f1 f2 b hb
        · have i1 : inSet hpi hp' g1 = true := by simp [inSet, (hasId_iff hp' g1).2 ⟨o1', f1⟩]
          have i2 : inSet hpi hp' g2 = false := by
            have : hasId hp' g2 = false := by unfold hasId; rw [f2]
            simp [inSet, n2, this]
          rw [hd2 g1 (by simp [i1])] at hb
          rw [hd1 g2 (by simp [i2])]
          intro hb2
          obtain ⟨xs, q1, _, _, _, _, _, q7⟩ := hi'.own g1 o1' f1
          have := (q7 b hb).2
          have hre : rest b := ⟨g2, o2', n2, k2, hb2⟩
          simp only [hre, if_true] at this
          obtain ⟨ys, r1, _⟩ := hr.inv.own g2 o2' k2
          have h2 := (r1.lt b hb2).2
          simp at this; omega
        · have i2 : inSet hpi hp' g2 = true := by simp [inSet, (hasId_iff hp' g2).2 ⟨o2', f2⟩]
          have i1 : inSet hpi hp' g1 = false := by
            have : hasId hp' g1 = false := by unfold hasId; rw [f1]
            simp [inSet, n1, this]
          rw [hd1 g1 (by simp [i1])] at hb
          rw [hd2 g2 (by simp [i2])]
          intro hb2
          obtain ⟨xs, q1, _, _, _, _, _, q7⟩ := hi'.own g2 o2' f2
          have := (q7 b hb2).2
          have hre : rest b := ⟨g1, o1', n1, k1, hb⟩
          simp only [hre, if_true] at this
          obtain ⟨ys, r1, _⟩ := hr.inv.own g1 o1' k1
          have h2 := (r1.lt b hb).2
          simp at this; omega
        · have i1 : inSet hpi hp' g1 = false := by
            have : hasId hp' g1 = false := by unfold hasId; rw [f1]
            simp [inSet, n1, this]
          have i2 : inSet hpi hp' g2 = false := by
            have : hasId hp' g2 = false := by unfold hasId; rw [f2]
            simp [inSet, n2, this]
          rw [hd1 g1 (by simp [i1])] at hb
          rw [hd1 g2 (by simp [i2])]
          exact hr.inv.dis g1 g2 o1' o2' hne k1 k2 b hb
  exact ⟨_, M', δ2, h3, hm, hrel.put hd (hv.killW _ _ hd2 (fun g hg => .of_eq (hd2 g hg)))⟩
end
end Go.Proofs.Ytbliiejdmgnkgaa.Pv
