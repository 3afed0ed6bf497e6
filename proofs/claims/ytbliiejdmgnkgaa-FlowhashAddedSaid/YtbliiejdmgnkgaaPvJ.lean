/-
  The layer of values: what an evaluator says of a function holds of every run of it. For every program of the model that meets the named conditions.
-/
import Derived.Test.YtbliiejdmgnkgaaPvI
namespace Go.Proofs.Ytbliiejdmgnkgaa.Pv
open Go

section
variable {P : Program} {E : Env} {C : Ctr} {w : World} {N : Cx} {s : St} {a : Act} {M : Mem} {F : Frm} {δ : Nat → Value}

theorem zeroTD_run' {T : TypeId} {d : TD} (hd : TDok P T d) {z : List PV} (hz : zeroTD d = some z) : ∃ i zv, P.info? T = some i ∧ i.zero = some zv ∧ ZeroOk zv z := by
  cases d <;> simp only [zeroTD, Option.some.injEq] at hz <;> try (cases hz; done)
  all_goals subst hz
  case int => exact hd.2.2
  case bool => exact hd.2.2
  case str => exact hd.2.2
  case ptr => exact hd.2.2
  case func => exact hd.2.2
  case slice => exact hd.2.2.1
  case arr =>
    obtain ⟨e, _, _, _, ⟨i, zv, h1, _, h2, h3⟩, _⟩ := hd
    exact ⟨i, zv, h1, h2, h3⟩
  case struct =>
    obtain ⟨fields, _, _, _, ⟨i, zv, h1, _, h2, h3⟩, _⟩ := hd
    exact ⟨i, zv, h1, h2, h3⟩

theorem own_fresh (cells : Array Value) (T : TypeId) (sz : Nat) (h : cells.size = sz) : (w.alloc (.cells cells T)).ownsRow 0 T sz (.slice (some ⟨w.heap.size, 0, none⟩) 1 1) 1 cells.toList := by
  refine ⟨by simp [h], .inr ⟨w.heap.size, 1, cells, rfl, Nat.zero_le _, heap_alloc_new w _, Nat.le_refl _, by decide, by simp [h], ?_⟩⟩
  rw [List.take_of_length_le (by simp [h])]

theorem Rel.allocG (hr : Rel N s a w M F δ) {d g : Nat} (hd : N.Ok d) (T : TypeId) {cells : Array Value} {cs : List PV} (hc : RepSs M (upd δ g (.slice (some ⟨w.heap.size, 0, none⟩) 1 1)) cs cells.toList)
    (h0 : 0 < cs.length) (hl : ∀ v ∈ cells.toList, v.oneCell' = true) :
    Rel N ((s.newG g ⟨T, cs.length, [cs], true⟩).put d (.op g cs.length 0 0)) (a.put (some d) (.pointer (some ⟨w.heap.size, 0, none⟩))) (w.alloc (.cells cells T)) M F (upd δ g (.slice (some ⟨w.heap.size, 0, none⟩) 1 1)) := by
  have hsz : cells.size = cs.length := by have := hc.length; simpa using this.symm
  have h1 := hr.newG (w' := w.alloc (.cells cells T)) (v := .slice (some ⟨w.heap.size, 0, none⟩) 1 1) (o := ⟨T, cs.length, [cs], true⟩) (xs := cells.toList) (row := none) g
    (World.grownBy_alloc w _ none) (by intro k hk; cases hk) (by intro b hb; simp [Value.ownBlock] at hb; right; omega) (own_fresh cells T _ hsz) (by simp) h0 (by simpa using hc) (by simp) hl
  have h2 := h1.put (d := some d) (p := .op g cs.length 0 0) (v := .pointer (some ⟨w.heap.size, 0 * cs.length + 0, none⟩)) (by intro i hi; cases hi; exact hd) (.op g cs.length 0 0 w.heap.size 1 1 (by simp [upd]))
  simpa [St.putO] using h2

theorem store_run (hr : Rel N s a w M F δ) {g sz i f n : Nat} {ob : GObj} {c : List PV} {T : TypeId} {p : PV} {v : Value} (hT : ∃ j, P.info? T = some j ∧ j.size = n)
    (hg : aget s.hp g = some ob) (hsz : ob.sz = sz) (hc : ob.es[i]? = some c) (hfn : f + n ≤ c.length) (hpl : p.cells.length = n) (hlf : leafs p.cells = true) (hown : (ob.own || isImm p) = true)
    (hv : RepS M δ p v) {b n' c' : Nat} (hδ : δ g = .slice (some ⟨b, 0, none⟩) n' c') :
    ∃ w', (storeVar T ⟨b, i * sz + f, none⟩ v).run P w = .ok () w' ∧ Inv M F δ (arep s.hp g { ob with es := ob.es.set i (splice c f p.cells) }) w' := by
  obtain ⟨j, hj, hjs⟩ := hT
  obtain ⟨xs, q1, q2, q3, q4, q5, q6, q7⟩ := hr.inv.own g ob hg
  have hcells := hv.cells hlf
  have hvl : v.cells.size = n := by have := hcells.length; rw [hpl] at this; simpa using this.symm
  have hone : ∀ u ∈ v.cells.toList, u.oneCell' = true := hcells.leafs hlf
  subst hsz
  rcases q1.2 with ⟨e1, e2⟩ | ⟨b', cap, cur, e1, e2, e3, e4, e5, e6, e7⟩
  · rw [hδ] at e1; cases e1
  · rw [hδ] at e1
    obtain ⟨rfl, rfl, rfl⟩ : b = b' ∧ n' = ob.es.length ∧ c' = cap := by
      injection e1 with h1 h2 h3
      injection h1 with h1
      injection h1 with h1
      exact ⟨h1, h2, h3⟩
    have hil : i < ob.es.length := (List.getElem?_eq_some_iff.1 hc).1
    have hclen : c.length = ob.sz := q2 c (List.mem_of_getElem? hc)
    have hxl : xs.length = ob.es.length * ob.sz := q1.1
    have hin : i * ob.sz + f + n ≤ ob.es.length * ob.sz := by
      have h1 : (i + 1) * ob.sz ≤ ob.es.length * ob.sz := Nat.mul_le_mul_right _ hil
      rw [Nat.succ_mul] at h1
      omega
    have hcs : cur.size = c' * ob.sz := e6
    have hcl : ob.es.length * ob.sz ≤ c' * ob.sz := Nat.mul_le_mul_right _ e4
    have hrun := run_storeCells_at P b (i * ob.sz + f) ob.ty v.cells.toList 0 cur w e3 (by simp [hvl]; omega) hone
    simp only [Nat.add_zero] at hrun
    refine ⟨_, by simp only [storeVar, Sem.run_bind, run_sizeOf' hj, Result.andThen_ok, hjs, hvl, ne_eq, not_true, if_false]; exact hrun, ?_⟩
    -- the row behind the store
    have hset := flatten_set q2 hil (c := splice c f p.cells) (by unfold splice; simp only [List.length_append, List.length_take, List.length_drop, hpl]; omega)
    have hfl : (ob.es.set i (splice c f p.cells)).flatten = splice ob.es.flatten (i * ob.sz + f) p.cells := by
      rw [hset]
      obtain ⟨h8, h9⟩ := flatten_get q2 hc
      have hsl : (splice c f p.cells).length = ob.sz := by unfold splice; simp only [List.length_append, List.length_take, List.length_drop, hpl]; omega
      unfold splice at hsl ⊢
      apply List.ext_getElem?
      intro k
      have hk : ∀ m, m < ob.sz → ob.es.flatten[i * ob.sz + m]? = c[m]? := by
        intro m hm
        have := congrArg (fun l => l[m]?) h8
        simp only [List.getElem?_take, hm, if_true, List.getElem?_drop] at this
        exact this
      simp only [List.getElem?_append, List.length_append, List.length_take, List.length_drop, List.getElem?_take, List.getElem?_drop, hpl]
      have hL : i * ob.sz + ob.sz ≤ ob.es.flatten.length := h9
      rw [Nat.min_eq_left (show i * ob.sz ≤ ob.es.flatten.length by omega), Nat.min_eq_left (show f ≤ c.length by omega), Nat.min_eq_left (show i * ob.sz + f ≤ ob.es.flatten.length by omega)]
      have hfc : f + n ≤ ob.sz := by omega
      by_cases k1 : k < i * ob.sz
      · simp [k1, show k < i * ob.sz + f by omega, show k < i * ob.sz + (f + n + (c.length - (f + n))) by omega, show k < i * ob.sz + f + n by omega]
      · by_cases k2 : k < i * ob.sz + f
        · have := hk (k - i * ob.sz) (by omega)
          rw [show i * ob.sz + (k - i * ob.sz) = k by omega] at this
          simp [k1, k2, show k < i * ob.sz + (f + n + (c.length - (f + n))) by omega, show k - i * ob.sz < f + n by omega, show k - i * ob.sz < f by omega, this, show k < i * ob.sz + f + n by omega]
        · by_cases k3 : k < i * ob.sz + f + n
          · simp [k1, k2, k3, show k < i * ob.sz + (f + n + (c.length - (f + n))) by omega, show k - i * ob.sz < f + n by omega, show ¬ k - i * ob.sz < f by omega, show k - i * ob.sz - f = k - (i * ob.sz + f) by omega]
          · by_cases k4 : k < i * ob.sz + ob.sz
            · have := hk (k - i * ob.sz) (by omega)
              rw [show i * ob.sz + (k - i * ob.sz) = k by omega] at this
              simp [k1, k3, show k < i * ob.sz + (f + n + (c.length - (f + n))) by omega, show ¬ k - i * ob.sz < f + n by omega, show f + n + (k - i * ob.sz - (f + n)) = k - i * ob.sz by omega, this.symm,
                show i * ob.sz + f + n + (k - (i * ob.sz + f + n)) = k by omega]
            · simp [k3, show i * ob.sz + (f + n + (c.length - (f + n))) = i * ob.sz + ob.sz by omega,
                show i * ob.sz + ob.sz + (k - (i * ob.sz + ob.sz)) = k by omega, show i * ob.sz + f + n + (k - (i * ob.sz + f + n)) = k by omega]
              intro h
              exact absurd h k4
    have hlen : (ob.es.set i (splice c f p.cells)).length = ob.es.length := by simp
    have hne : aget s.hp g ≠ none := by rw [hg]; simp
    refine ⟨?_, ?_, hr.inv.mf, hr.inv.io, ?_, ?_⟩
    · intro b2 o hb
      rw [setRow_other]
      · exact hr.inv.m b2 o hb
      · intro e; subst e; rw [(q7 b2 (by rw [hδ]; rfl)).1] at hb; cases hb
    · intro b2 o hb
      rw [setRow_other]
      · exact hr.inv.f b2 o hb
      · intro e; subst e; rw [(q7 b2 (by rw [hδ]; rfl)).2] at hb; cases hb
    · intro g' o' hg'
      rw [aget_arep _ _ _ hne] at hg'
      by_cases hgg : g = g'
      · subst hgg
        simp only [if_true, Option.some.injEq] at hg'
        subst hg'
        dsimp only
        have hxs' : (xs.take (i * ob.sz + f) ++ v.cells.toList ++ xs.drop (i * ob.sz + f + v.cells.toList.length)).length = xs.length := by
          simp only [List.length_append, List.length_take, List.length_drop, Array.length_toList, hvl]; omega
        refine ⟨xs.take (i * ob.sz + f) ++ v.cells.toList ++ xs.drop (i * ob.sz + f + v.cells.toList.length), ⟨by rw [hxs', hlen]; exact hxl, ?_⟩, ?_, q3, ?_, ?_, ?_, ?_⟩
        · rw [hlen, hδ]
          refine .inr ⟨b, c', _, rfl, Nat.zero_le _, setRow_heap w b cur _ ob.ty (0, 0) e3, e4, e5, ?_, ?_⟩
          · simp only [List.size_toArray, List.length_append, List.length_take, List.length_drop, Array.length_toList, hvl]
            omega
          · rw [← e7]
            apply List.ext_getElem?
            intro k
            simp only [List.getElem?_take, List.getElem?_append, List.length_append, List.length_take, List.getElem?_drop, Array.length_toList, hvl]
            rw [Nat.min_eq_left (show i * ob.sz + f ≤ cur.size by omega), Nat.min_eq_left (show ob.es.length * ob.sz ≤ cur.size by omega), Nat.min_eq_left (show i * ob.sz + f ≤ ob.es.length * ob.sz by omega)]
            by_cases k0 : k < ob.es.length * ob.sz
            · simp only [k0, if_true]
              by_cases k1 : k < i * ob.sz + f + n
              · simp [k1]
              · simp [k1, show i * ob.sz + f + n + (k - (i * ob.sz + f + n)) = k by omega, k0]
            · simp only [k0, if_false]
              rw [if_neg (by omega)]
              rw [if_neg (by omega)]
        · intro e he
          rcases List.mem_or_eq_of_mem_set he with h' | rfl
          · exact q2 e h'
          · unfold splice; simp only [List.length_append, List.length_take, List.length_drop, hpl]; omega
        · rw [hfl]; exact q4.splice _ hcells
        · intro ho
          have hi2 : isImm p = true := by rw [ho] at hown; simpa using hown
          rw [hfl]
          have hci : isImms p.cells = true := by
            cases p <;> simp [isImm, PV.cells, isImms] at hi2 ⊢
            all_goals first | exact hi2 | skip
          exact (q5 ho).splice _ (hcells.toI hci)
        · intro u hu
          rcases List.mem_append.1 hu with hu | hu
          · rcases List.mem_append.1 hu with hu | hu
            · exact q6 u (List.mem_of_mem_take hu)
            · exact hone u hu
          · exact q6 u (List.mem_of_mem_drop hu)
        · exact q7
      · simp only [hgg, if_false] at hg'
        obtain ⟨ys, r1, r2, r3, r4, r5, r6, r7⟩ := hr.inv.own g' o' hg'
        refine ⟨ys, ⟨r1.1, ?_⟩, r2, r3, r4, r5, r6, r7⟩
        rcases r1.2 with hh | ⟨b2, cap2, cur2, s1, s2, s3, s4⟩
        · exact .inl hh
        · refine .inr ⟨b2, cap2, cur2, s1, s2, ?_, s4⟩
          rw [setRow_other]
          · exact s3
          · intro e; subst e
            exact hr.inv.dis g g' ob o' hgg hg hg' b2 (by rw [hδ]; rfl) (by rw [s1]; rfl)
    · intro g1 g2 o1 o2 hne' h1 h2
      rw [aget_arep _ _ _ hne] at h1 h2
      have h1' : ∃ o1', aget s.hp g1 = some o1' := by
        by_cases e : g = g1
        · subst e; exact ⟨ob, hg⟩
        · simp only [e, if_false] at h1; exact ⟨o1, h1⟩
      have h2' : ∃ o2', aget s.hp g2 = some o2' := by
        by_cases e : g = g2
        · subst e; exact ⟨ob, hg⟩
        · simp only [e, if_false] at h2; exact ⟨o2, h2⟩
      obtain ⟨o1', h1'⟩ := h1'
      obtain ⟨o2', h2'⟩ := h2'
      exact hr.inv.dis g1 g2 o1' o2' hne' h1' h2'
end
end Go.Proofs.Ytbliiejdmgnkgaa.Pv
