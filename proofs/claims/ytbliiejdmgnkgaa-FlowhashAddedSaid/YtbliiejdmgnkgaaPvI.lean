/-
  The layer of values: what an evaluator says of a function holds of every run of it. For every program of the model that meets the named conditions.
-/
import Derived.Test.YtbliiejdmgnkgaaPvH
namespace Go.Proofs.Ytbliiejdmgnkgaa.Pv
open Go

section
variable {P : Program} {w : World} {N : Cx} {s : St} {a : Act} {M : Mem} {F : Frm} {δ δ' : Nat → Value}

theorem aget_mapV (h : PV → PV) (l : List (Nat × PV)) (i : Nat) : aget (mapV h l) i = (aget l i).map h := by
  induction l with
  | nil => rfl
  | cons x r ih => obtain ⟨j, p⟩ := x; simp only [mapV, aget]; split <;> simp [ih]
theorem aget_mapH (h : List PV → List PV) (l : List (Nat × GObj)) (i : Nat) : aget (mapH h l) i = (aget l i).map (GObj.map h) := by
  induction l with
  | nil => rfl
  | cons x r ih => obtain ⟨j, p⟩ := x; simp only [mapH, aget]; split <;> simp [ih]
theorem aget_adel {α : Type} (l : List (Nat × α)) (g i : Nat) : aget (adel l g) i = if g = i then none else aget l i := by
  induction l with
  | nil => simp [adel, aget]
  | cons x r ih =>
    obtain ⟨j, p⟩ := x
    simp only [adel, aget]
    by_cases h : j = g
    · subst h
      simp only [if_true, ih]
      by_cases h' : j = i <;> simp [h']
    · simp only [h, if_false, aget]
      by_cases h' : j = i
      · subst h'; simp [Ne.symm h]
      · simp [h', ih]

def KillU (g : Nat) : Nat → PV := fun g' => if g' = g then .junk else .os g'
def KillQ (g : Nat) : Nat → Nat → Nat → Nat → PV := fun g' sz i f => if g' = g then .junk else .op g' sz i f

theorem killP_eq (g : Nat) (p : PV) : killP g p = mapO (KillU g) (KillQ g) p := rfl
theorem killPs_eq (g : Nat) (p : List PV) : killPs g p = mapOs (KillU g) (KillQ g) p := rfl

mutual
theorem RepI.mapO (u : Nat → PV) (q : Nat → Nat → Nat → Nat → PV) : ∀ {p : PV} {v : Value}, RepI M p v → RepS M δ' (Pv.mapO u q p) v
  | _, _, .int k n => .imm _ _ (.int k n)
  | _, _, .bool b => .imm _ _ (.bool b)
  | _, _, .str s => .imm _ _ (.str s)
  | _, _, .nilptr => .imm _ _ .nilptr
  | _, _, .nilfn => .imm _ _ .nilfn
  | _, _, .nilsl => .imm _ _ .nilsl
  | _, _, .junk v => .imm _ _ (.junk v)
  | _, _, .agg cs vs hh => .agg _ _ (RepIs.mapO u q hh)
  | _, _, .tup cs vs hh => .tup _ _ (RepIs.mapO u q hh)
  | _, _, .fn f a b va vb h1 h2 => .fn f _ _ va vb (RepIs.mapO u q h1) (RepIs.mapO u q h2)
  | _, _, .sl0 sz ao c => .imm _ _ (.sl0 sz ao c)
  | _, _, .sl sz es b off c cells T fr vs h1 h2 h3 h4 h5 h6 h7 => .imm _ _ (.sl sz es b off c cells T fr vs h1 h2 h3 h4 h5 h6 h7)
  | _, _, .ptr cs b off cells T fr vs h1 h2 h3 h4 => .imm _ _ (.ptr cs b off cells T fr vs h1 h2 h3 h4)
theorem RepIs.mapO (u : Nat → PV) (q : Nat → Nat → Nat → Nat → PV) : ∀ {p : List PV} {v : List Value}, RepIs M p v → RepSs M δ' (mapOs u q p) v
  | _, _, .nil => .nil
  | _, _, .cons p v ps vs h1 h2 => .cons _ _ _ _ (RepI.mapO u q h1) (RepIs.mapO u q h2)
end

mutual
theorem RepS.mapO (u : Nat → PV) (q : Nat → Nat → Nat → Nat → PV) (hu : ∀ g ao n c, δ g = .slice ao n c → RepS M δ' (u g) (.slice ao n c))
    (hq : ∀ g sz i f b n c, δ g = .slice (some ⟨b, 0, none⟩) n c → RepS M δ' (q g sz i f) (.pointer (some ⟨b, i * sz + f, none⟩))) : ∀ {p : PV} {v : Value}, RepS M δ p v → RepS M δ' (Pv.mapO u q p) v
  | _, _, .imm p v hh => hh.mapO u q
  | _, _, .os g ao n c hh => hu g ao n c hh
  | _, _, .op g sz i f b n c hh => hq g sz i f b n c hh
  | _, _, .agg cs vs hh => .agg _ vs (RepSs.mapO u q hu hq hh)
  | _, _, .tup cs vs hh => .tup _ vs (RepSs.mapO u q hu hq hh)
  | _, _, .fn f a b va vb h1 h2 => .fn f _ _ va vb (RepSs.mapO u q hu hq h1) (RepSs.mapO u q hu hq h2)
theorem RepSs.mapO (u : Nat → PV) (q : Nat → Nat → Nat → Nat → PV) (hu : ∀ g ao n c, δ g = .slice ao n c → RepS M δ' (u g) (.slice ao n c))
    (hq : ∀ g sz i f b n c, δ g = .slice (some ⟨b, 0, none⟩) n c → RepS M δ' (q g sz i f) (.pointer (some ⟨b, i * sz + f, none⟩))) : ∀ {p : List PV} {v : List Value}, RepSs M δ p v → RepSs M δ' (mapOs u q p) v
  | _, _, .nil => .nil
  | _, _, .cons p v ps vs h1 h2 => .cons _ v _ vs (RepS.mapO u q hu hq h1) (RepSs.mapO u q hu hq h2)
end

theorem RepS.kill {g : Nat} (hδ : ∀ g', g' ≠ g → δ' g' = δ g') {p : PV} {v : Value} (h : RepS M δ p v) : RepS M δ' (killP g p) v := by
  rw [killP_eq]
  refine h.mapO _ _ ?_ ?_
  · intro g' ao n c hg
    unfold KillU
    split
    · exact .imm _ _ (.junk _)
    · rename_i hne; exact .os _ _ _ _ (by rw [hδ g' hne]; exact hg)
  · intro g' sz i f b n c hg
    unfold KillQ
    split
    · exact .imm _ _ (.junk _)
    · rename_i hne; exact .op _ _ _ _ b n c (by rw [hδ g' hne]; exact hg)
theorem RepSs.kill {g : Nat} (hδ : ∀ g', g' ≠ g → δ' g' = δ g') {p : List PV} {v : List Value} (h : RepSs M δ p v) : RepSs M δ' (killPs g p) v := by
  rw [killPs_eq]
  refine h.mapO _ _ ?_ ?_
  · intro g' ao n c hg
    unfold KillU
    split
    · exact .imm _ _ (.junk _)
    · rename_i hne; exact .os _ _ _ _ (by rw [hδ g' hne]; exact hg)
  · intro g' sz i f b n c hg
    unfold KillQ
    split
    · exact .imm _ _ (.junk _)
    · rename_i hne; exact .op _ _ _ _ b n c (by rw [hδ g' hne]; exact hg)

theorem mapOs_append (u : Nat → PV) (q : Nat → Nat → Nat → Nat → PV) (l l' : List PV) : mapOs u q (l ++ l') = mapOs u q l ++ mapOs u q l' := by
  induction l with
  | nil => simp [mapOs]
  | cons p l ih => simp [mapOs, ih]
theorem mapOs_length (u : Nat → PV) (q : Nat → Nat → Nat → Nat → PV) (l : List PV) : (mapOs u q l).length = l.length := by
  induction l with
  | nil => simp [mapOs]
  | cons p l ih => simp [mapOs, ih]
theorem mapE_flatten (g : Nat) (es : List (List PV)) : (mapE (killPs g) es).flatten = killPs g es.flatten := by
  induction es with
  | nil => simp [mapE, killPs, mapOs]
  | cons e es ih => rw [mapE, List.flatten_cons, List.flatten_cons, ih, killPs_eq, killPs_eq, killPs_eq, mapOs_append]
theorem mapE_length (g : Nat) (es : List (List PV)) : (mapE (killPs g) es).length = es.length := by
  induction es with
  | nil => rfl
  | cons e es ih => simp [mapE, ih]
theorem mapE_mem (g : Nat) (es : List (List PV)) {sz : Nat} (h : ∀ e ∈ es, e.length = sz) : ∀ e ∈ mapE (killPs g) es, e.length = sz := by
  induction es with
  | nil => simp [mapE]
  | cons e es ih =>
    intro e' he'
    rw [mapE] at he'
    rcases List.mem_cons.1 he' with rfl | he'
    · rw [killPs_eq, mapOs_length]; exact h e (by simp)
    · exact ih (fun e he => h e (by simp [he])) e' he'

theorem St.get_drop (s : St) (g i : Nat) : (s.drop g).get i = killP g (s.get i) := by
  unfold St.get St.drop
  simp only [aget_mapV]
  cases aget s.vs i with
  | some p => rfl
  | none =>
    simp only [Option.map_none]
    cases aget s.ts i with
    | some p => rfl
    | none => rfl

/-- an object is forgotten -/
theorem Rel.drop (h : Rel N s a w M F δ) (g : Nat) (hδ : ∀ g', g' ≠ g → δ' g' = δ g') : Rel N (s.drop g) a w M F δ' := by
  refine ⟨h.def0, h.size, h.ro, fun i => by rw [St.get_drop]; exact (h.slot i).kill hδ, ⟨h.inv.m, h.inv.f, h.inv.mf, h.inv.io, ?_, ?_⟩⟩
  · intro g' o hg
    simp only [St.drop, aget_mapH, aget_adel] at hg
    by_cases hne : g = g'
    · simp [hne] at hg
    · simp only [hne, if_false] at hg
      cases ho : aget s.hp g' with
      | none => rw [ho] at hg; simp at hg
      | some o' =>
        rw [ho] at hg
        simp only [Option.map_some, Option.some.injEq] at hg
        obtain ⟨xs, q1, q2, q3, q4, q5, q6, q7⟩ := h.inv.own g' o' ho
        have hd : δ' g' = δ g' := hδ g' (Ne.symm hne)
        subst hg
        unfold GObj.map
        split
        · rename_i hown
          refine ⟨xs, ?_, mapE_mem g _ q2, q3, ?_, ?_, q6, ?_⟩
          · rw [hd]; dsimp only; rw [mapE_length]; exact q1
          · dsimp only; rw [mapE_flatten]; exact q4.kill hδ
          · intro hf; rw [hown] at hf; cases hf
          · rw [hd]; exact q7
        · rename_i hown
          have hi := q5 (by simpa using hown)
          exact ⟨xs, by rw [hd]; exact q1, q2, q3, hi.toS, fun _ => hi, q6, by rw [hd]; exact q7⟩
  · intro g1 g2 o1 o2 hne h1 h2 b hb
    simp only [St.drop, aget_mapH, aget_adel] at h1 h2
    by_cases e1 : g = g1
    · simp [e1] at h1
    · by_cases e2 : g = g2
      · simp [e2] at h2
      · simp only [e1, e2, if_false] at h1 h2
        rw [hδ g1 (Ne.symm e1)] at hb
        rw [hδ g2 (Ne.symm e2)]
        cases ho1 : aget s.hp g1 with
        | none => rw [ho1] at h1; simp at h1
        | some x1 => cases ho2 : aget s.hp g2 with
          | none => rw [ho2] at h2; simp at h2
          | some x2 => exact h.inv.dis g1 g2 x1 x2 hne ho1 ho2 b hb

theorem Inv.lt {hp : List (Nat × GObj)} (h : Inv M F δ hp w) {b : Nat} : (M b ≠ none → b < w.heap.size) ∧ (F b ≠ none → b < w.heap.size) := by
  constructor
  · intro hb
    cases hm : M b with
    | none => exact absurd hm hb
    | some o => exact (Array.getElem?_eq_some_iff.1 (h.m b o hm)).1
  · intro hb
    cases hm : F b with
    | none => exact absurd hm hb
    | some o => exact (Array.getElem?_eq_some_iff.1 (h.f b o hm)).1

def upd (δ : Nat → Value) (g : Nat) (v : Value) : Nat → Value := fun g' => if g' = g then v else δ g'

theorem upd_ne (δ : Nat → Value) (g : Nat) (v : Value) : ∀ g', g' ≠ g → upd δ g v g' = δ g' := fun g' h => by simp [upd, h]

/-- an object of one's own is added: it lies in a new block, or in that of the object of the same number, which is forgotten -/
theorem Rel.newG {w' : World} {v : Value} {o : GObj} {xs : List Value} {row : Option Nat} (h : Rel N s a w M F δ) (g : Nat) (hgrow : w.grownBy w' row)
    (hrow : ∀ k, row = some k → (∃ o0, aget s.hp g = some o0) ∧ (δ g).ownBlock = some k) (hv : ∀ b, v.ownBlock = some b → row = some b ∨ w.heap.size ≤ b)
    (hown : w'.ownsRow 0 o.ty o.sz v o.es.length xs) (h2 : ∀ e ∈ o.es, e.length = o.sz) (h3 : 0 < o.sz) (h4 : RepSs M (upd δ g v) o.es.flatten xs) (h5 : o.own = false → RepIs M o.es.flatten xs)
    (h6 : ∀ u ∈ xs, u.oneCell' = true) : Rel N (s.newG g o) a w' M F (upd δ g v) := by
  have hd := h.drop g (δ' := upd δ g v) (upd_ne δ g v)
  have hkeep : ∀ b, b < w.heap.size → row ≠ some b → w'.heap[b]? = w.heap[b]? := fun b hb hne => hgrow.block b hb (fun e => hne e.symm)
  have hMF : ∀ b, row = some b → M b = none ∧ F b = none := by
    intro b hb
    obtain ⟨⟨o0, ho⟩, hbl⟩ := hrow b hb
    obtain ⟨ys, _, _, _, _, _, _, q7⟩ := h.inv.own g o0 ho
    exact q7 b hbl
  refine ⟨h.def0, h.size, h.ro, fun i => hd.slot i, ⟨?_, ?_, h.inv.mf, ⟨hgrow.os.trans h.inv.io.1, hgrow.output.trans h.inv.io.2⟩, ?_, ?_⟩⟩
  · intro b x hb
    rw [hkeep b (h.inv.lt.1 (by rw [hb]; simp)) (fun e => by rw [(hMF b e).1] at hb; cases hb)]
    exact h.inv.m b x hb
  · intro b x hb
    rw [hkeep b (h.inv.lt.2 (by rw [hb]; simp)) (fun e => by rw [(hMF b e).2] at hb; cases hb)]
    exact h.inv.f b x hb
  · intro g' o' hg
    simp only [St.newG, aget] at hg
    by_cases hgg : g = g'
    · subst hgg
      simp only [if_true, Option.some.injEq] at hg
      subst hg
      have : upd δ g v g = v := by simp [upd]
      rw [this]
      refine ⟨xs, hown, h2, h3, h4, h5, h6, fun b hb => ?_⟩
      rcases hv b hb with hr | hge
      · exact hMF b hr
      · constructor
        · cases hm : M b with
          | none => rfl
          | some x => have := (h.inv.lt (b := b)).1 (by rw [hm]; simp); omega
        · cases hm : F b with
          | none => rfl
          | some x => have := (h.inv.lt (b := b)).2 (by rw [hm]; simp); omega
    · simp only [hgg, if_false] at hg
      obtain ⟨ys, q1, q2, q3, q4, q5, q6, q7⟩ := hd.inv.own g' o' hg
      refine ⟨ys, ⟨q1.1, ?_⟩, q2, q3, q4, q5, q6, q7⟩
      rcases q1.2 with hh | ⟨b, cap, cur, e1, e2, e3, e4⟩
      · exact .inl hh
      · refine .inr ⟨b, cap, cur, e1, e2, ?_, e4⟩
        rw [hkeep b (Array.getElem?_eq_some_iff.1 e3).1 ?_]
        · exact e3
        · intro er
          obtain ⟨⟨o0, ho⟩, hbl⟩ := hrow b er
          simp only [St.drop, aget_mapH, aget_adel, hgg, if_false] at hg
          cases hgo : aget s.hp g' with
          | none => rw [hgo] at hg; simp at hg
          | some o1 =>
            refine h.inv.dis g g' o0 o1 hgg ho hgo b hbl ?_
            rw [upd_ne δ g v g' (Ne.symm hgg)] at e1
            rw [e1]; rfl
  · intro g1 g2 o1 o2 hne h1 h2' b hb
    have key : ∀ g' o', g ≠ g' → aget (s.drop g).hp g' = some o' → ∀ b, v.ownBlock = some b → (upd δ g v g').ownBlock ≠ some b := by
      intro g' o' hgg hg b hb hb'
      obtain ⟨ys, q1, _⟩ := hd.inv.own g' o' hg
      have hlt := (q1.lt b hb').2
      rcases hv b hb with hr | hge
      · obtain ⟨⟨o0, ho⟩, hbl⟩ := hrow b hr
        simp only [St.drop, aget_mapH, aget_adel, hgg, if_false] at hg
        cases hgo : aget s.hp g' with
        | none => rw [hgo] at hg; simp at hg
        | some o1 =>
          refine h.inv.dis g g' o0 o1 hgg ho hgo b hbl ?_
          rw [upd_ne δ g v g' (Ne.symm hgg)] at hb'
          exact hb'
      · omega
    have hvg : upd δ g v g = v := by simp [upd]
    simp only [St.newG, aget] at h1 h2'
    by_cases e1 : g = g1
    · subst e1
      rw [hvg] at hb
      have e2 : ¬ g = g2 := hne
      simp only [e2, if_false] at h2'
      exact key g2 o2 e2 h2' b hb
    · simp only [e1, if_false] at h1
      by_cases e2 : g = g2
      · subst e2
        rw [hvg]
        intro hv'
        exact key g1 o1 e1 h1 b hv' hb
      · simp only [e2, if_false] at h2'
        exact hd.inv.dis g1 g2 o1 o2 hne h1 h2' b hb

end
end Go.Proofs.Ytbliiejdmgnkgaa.Pv
