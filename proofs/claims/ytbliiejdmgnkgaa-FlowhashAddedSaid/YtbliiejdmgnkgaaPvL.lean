/-
  The layer of values: what an evaluator says of a function holds of every run of it. For every program of the model that meets the named conditions.
-/
import Derived.Test.YtbliiejdmgnkgaaPvK
namespace Go.Proofs.Ytbliiejdmgnkgaa.Pv
open Go

section
variable {ρ : Option Nat} {P : Program} {E : Env} {C : Ctr} {H : Hnd} {w : World} {N : Cx} {s : St} {a : Act} {M : Mem} {F : Frm} {δ : Nat → Value}

theorem GoodK.of_rel {K : St → Prop} {s' : St} {a' : Act} {w' : World} {M' : Mem} {δ' : Nat → Value} (hk : K s') (hm : M.le M') (hr : Rel N s' a' w' M' F δ') : GoodK N M F K a' w' := ⟨s', M', δ', hk, hm, hr⟩

theorem putSome (s : St) (d : Nat) (p : PV) : s.putO (some d) p = s.put d p := rfl

theorem val_step (hE : ∀ T, TDok P T (E T)) (hC : ∀ f as r, C f as r → FC P f as r) {o : Oper} {K : St → Prop} (h : valOp E C o s fun p => K (s.putO o.dst p)) (hr : Rel N s a w M F δ)
    (hd : ∀ i, o.dst = some i → N.Ok i) {Q : Exit → Act → World → Prop} : o.wpIn (FnR ρ) 0 P a w (GoodK N M F K) Q :=
  valOp_wp hE hC h hr fun v p M' w' hk hm hi hp => by
    have h1 : Rel N s a w' M' F δ := ⟨hr.def0.mono hm, hr.size, hr.ro, fun i => (hr.slot i).mono hm, hi⟩
    exact .of_rel hk hm (h1.put hd hp)

theorem flatten_length {es : List (List PV)} {sz : Nat} (h : ∀ e ∈ es, e.length = sz) : es.flatten.length = es.length * sz := by
  induction es with
  | nil => simp
  | cons x es ih => rw [List.flatten_cons, List.length_append, h x (by simp), ih (fun e he => h e (by simp [he])), List.length_cons, Nat.succ_mul]; omega

/-- where the new elements lie -/
def Source (M : Mem) (w : World) (esz : Nat) (es : List (List PV)) (u : Value) : Prop :=
  (∃ ao c, u = .slice ao 0 c ∧ es = []) ∨ ∃ b off c vs, u = .slice (some ⟨b, off, none⟩) es.length c ∧ RepIs M es.flatten vs ∧ (∀ v ∈ vs, v.oneCell' = true) ∧ (∀ e ∈ es, e.length = esz) ∧
    ∀ (i : Nat) (v : Value), vs[i]? = some v → w.cell? ⟨b, off + i, none⟩ = some v

theorem source_of {hp : List (Nat × GObj)} (hi : Inv M F δ hp w) {y : PV} {u : Value} {esz : Nat} {es : List (List PV)} (hy : asEs esz (borrow hp y) = some es) (hu : RepS M δ y u) : Source M w esz es u := by
  have himm : ∀ y, asEs esz y = some es → RepS M δ y u → Source M w esz es u := by
    intro y hy hu
    unfold asEs at hy
    split at hy
    · rename_i sz es'
      split at hy
      · rename_i hsz
        cases hy
        subst hsz
        rcases sl_inv2 hu.sl_inv with ⟨ao, c, e1, e2⟩ | ⟨b, off, c, cells, T', fr, vs, e1, e2, e3, e4, e5, e6, e7, e8⟩
        · exact .inl ⟨ao, c, e1, e2⟩
        · exact .inr ⟨b, off, c, vs, e1, e6, e7, e5, fun i v hv => by rw [hi.cell e2]; exact e8 i v hv⟩
      · cases hy
    · cases hy
      exact .inl ⟨none, 0, hu.nilsl_inv, rfl⟩
    · cases hy
  unfold borrow at hy
  split at hy
  · rename_i g
    split at hy
    · rename_i o hg
      split at hy
      · simp [asEs] at hy
      · rename_i hown
        obtain ⟨xs, q1, q2, q3, q4, q5, q6, q7⟩ := hi.own g o hg
        simp only [asEs] at hy
        split at hy
        · rename_i hsz
          cases hy
          have hv := hu.os_inv
          rcases q1.2 with ⟨e1, e2⟩ | ⟨b, cap, cur, e1, e2, e3, e4, e5, e6, e7⟩
          · exact .inl ⟨none, 0, by rw [hv, e1], List.eq_nil_of_length_eq_zero e2⟩
          · refine .inr ⟨b, 0, cap, xs, by rw [hv, e1], q5 (by simpa using hown), q6, fun e he => (q2 e he).trans hsz, fun i v hv => ?_⟩
            have := q1.cells (g := b) (by rw [e1]; rfl) i v hv
            unfold Addr.add at this
            split at this
            · rename_i h0; subst h0; exact this
            · exact this
        · cases hy
    · simp [asEs] at hy
  · exact himm _ hy hu

theorem append_run {T e : TypeId} {esz eb : Nat} {z : List PV} (hT : TDok P T (.slice e esz eb z)) (ty : TypeId) {v : Value} {n : Nat} {xs : List Value} (hown : w.ownsRow 0 e esz v n xs)
    {es : List (List PV)} {u : Value} (hsrc : Source M w esz es u)
    (h63 : n + es.length ≤ 9223372036854775807) (hb : (n + es.length) * eb ≤ 140737488355328) :
    ∃ v' w' news, (Builtin.append_ #[T, T] ty #[v, u]).run P w = .ok v' w' ∧ w'.ownsRow 0 e esz v' (n + es.length) (xs ++ news) ∧ w.grownBy w' v.ownBlock ∧ RepIs M es.flatten news ∧ (∀ x ∈ news, x.oneCell' = true) ∧
      (∀ e ∈ es, e.length = esz) ∧ (∃ ao c, v' = .slice ao (n + es.length) c) ∧ ∀ b, v'.ownBlock = some b → v.ownBlock = some b ∨ w.heap.size ≤ b := by
  obtain ⟨t1, t2, t3, ⟨j, zv, t4, t5, t6, t7, t8⟩, t9, t10⟩ := hT
  have hsh : ∀ (v' : Value) (w' : World) (m : Nat) (ys : List Value), w'.ownsRow 0 e esz v' m ys → ∃ ao c, v' = .slice ao m c := by
    intro v' w' m ys ho
    rcases ho.2 with ⟨e1, e2⟩ | ⟨g, cap, cur, e1, _⟩
    · exact ⟨none, 0, by rw [e1, e2]⟩
    · exact ⟨_, _, e1⟩
  have hout : ∀ (ad : Addr) (m c : Nat) (news : List Value), news.length = m * esz → (∀ j u, news[j]? = some u → w.cell? (ad.add j) = some u) → (∀ u ∈ news, u.oneCell' = true) → n + m ≤ 9223372036854775807 → (n + m) * eb ≤ 140737488355328 →
      ∃ v' w', (Builtin.append_ #[T, T] ty #[v, .slice (some ad) m c]).run P w = .ok v' w' ∧ w'.ownsRow 0 e esz v' (n + m) (xs ++ news) ∧ w.grownBy w' v.ownBlock ∧ ∀ b, v'.ownBlock = some b → v.ownBlock = some b ∨ w.heap.size ≤ b := by
    intro ad m c news h1 h2 h3 h4 h5
    obtain ⟨v', w', r1, r2, r3, r4⟩ := run_append_own (P := P) w 0 T ty e j zv esz eb t1 t4 t7 t5 t6 (by rw [t8.1, t9]) t10 v n xs hown ad m c news h1 h2 h3 (by simp only [maxLen]; exact h4) h5 (Nat.zero_le _)
    refine ⟨v', w', r1, r2, r3, ?_⟩
    rcases hown.2 with ⟨rfl, rfl⟩ | ⟨g, cap, cur, rfl, hbg, hg, hnc, hcm, hcs, htake⟩
    · -- a nil slice: the same law says that the row is new
      obtain ⟨v2, w2, r1', r2', _⟩ := run_append_own (P := P) w w.heap.size T ty e j zv esz eb t1 t4 t7 t5 t6 (by rw [t8.1, t9]) t10 (.slice none 0 0) 0 xs ⟨hown.1, .inl ⟨rfl, rfl⟩⟩ ad m c news h1 h2 h3 (by simp only [maxLen]; exact h4) h5 (Nat.le_refl _)
      rw [r1] at r1'
      injection r1' with e1 e2
      subst e1; subst e2
      exact fun b hb => .inr (r2'.lt b hb).1
    · by_cases hroom : n + m ≤ cap
      · have hr := run_append_room (P := P) w T ty e j t1 t4 g n cap cur hg ad m c news (by rw [t5]; exact h1) h2 h3 hroom (by rw [t5, h1, hcs, ← Nat.add_mul]; exact Nat.mul_le_mul_right _ hroom)
        rw [r1] at hr
        injection hr with e1 e2
        subst e1
        exact fun b hb => .inl hb
      · have holds : ∀ j u, xs[j]? = some u → w.cell? ((⟨g, 0, none⟩ : Addr).add j) = some u := hown.cells (g := g) rfl
        have hr := run_append_grow (P := P) w T ty e j zv t1 t4 t7 ⟨g, 0, none⟩ n cap xs (by rw [t5]; exact hown.1) holds ad m c news (by rw [t5]; exact h1) h2 (by omega) (by omega) (growslice_fits (by omega) (by rw [t6]; exact h5))
        rw [r1] at hr
        injection hr with e1 e2
        subst e1
        intro b hb
        simp [Value.ownBlock] at hb
        right; omega
  rcases hsrc with ⟨ao, c, rfl, rfl⟩ | ⟨b, off, c, vs, rfl, e6, e7, e5, e8⟩
  · have hg : w.grownBy w v.ownBlock := ⟨rfl, rfl, rfl, Nat.le_refl _, fun _ _ _ => rfl⟩
    cases ao with
    | none =>
      refine ⟨v, w, [], ?_, by simpa using hown, hg, .nil, by simp, by simp, hsh v w n xs hown, fun b hb => .inl hb⟩
      obtain ⟨q1, hv⟩ := hown
      rcases hv with ⟨rfl, rfl⟩ | ⟨g, cap, cur, rfl, _, e3, e4, _⟩
      · simp [Builtin.append_, run_underlying t1, run_sizeOf' t4, Builtin.lenOf, Builtin.firstCells]
      · simp [Builtin.append_, run_underlying t1, run_sizeOf' t4, Builtin.lenOf, Builtin.firstCells, e4, storeCells]
    | some ad =>
      obtain ⟨v', w', r1, r2, r3, r4⟩ := hout ad 0 c [] (by simp) (by simp) (by simp) (by simpa using h63) (by simpa using hb)
      exact ⟨v', w', [], r1, r2, r3, .nil, by simp, by simp, hsh v' w' _ _ r2, r4⟩
  · have hlen : vs.length = es.length * esz := by rw [← e6.length, flatten_length e5]
    obtain ⟨v', w', r1, r2, r3, r4⟩ := hout ⟨b, off, none⟩ es.length c vs hlen (fun k x hx => by
      have hc := e8 k x hx
      unfold Addr.add
      split
      · rename_i h0; subst h0; simpa using hc
      · exact hc) e7 h63 hb
    exact ⟨v', w', vs, r1, r2, r3, e6, e7, e5, hsh v' w' _ _ r2, r4⟩

theorem stepOp_wp (hE : ∀ T, TDok P T (E T)) (hC : ∀ f as r, C f as r → FC P f as r) (hH : ∀ f as hp r hp', H f as hp r hp' → FH P f as hp r hp') {plan : List (Nat × Nat)} {o : Oper} {K : St → Prop}
    (h : stepOp E C H plan o K s) (hr : Rel N s a w M F δ) (hd : ∀ i, o.dst = some i → N.Ok i) {Q : Exit → Act → World → Prop} : o.wpIn (FnR ρ) 0 P a w (GoodK N M F K) Q := by
  have hval := fun hh => val_step (ρ := ρ) (K := K) hE hC (o := o) hh hr hd (Q := Q)
  cases hop : o.op <;> simp only [stepOp, hop] at h <;> try exact hval h
  case assign x =>
    have hx := hr.opnd x
    have same : K (s.putO o.dst (opnd s x)) → o.wpIn (FnR ρ) 0 P a w (GoodK N M F K) Q := fun hk =>
      wp_of_run (v := a.eval x) (w' := w) (by simp [execOp, hop]) (.of_rel hk M.le_refl (hr.put hd hx))
    split at h
    · rename_i d e esz eb z hxv hdst htd
      have hT := hE o.type
      rw [htd] at hT
      split at h
      · rename_i g hg
        rw [hxv] at hx
        have hnil := hx.nilsl_inv
        have h1 := hr.newG (w' := w) (v := .slice none 0 0) (o := ⟨e, esz, [], false⟩) (xs := []) (row := none) g ⟨rfl, rfl, rfl, Nat.le_refl _, fun _ _ _ => rfl⟩
          (by intro k hk; cases hk) (by intro b hb; simp [Value.ownBlock] at hb) (World.ownsRow_nil w 0 e esz) (by simp) hT.2.2.2.2.2 .nil (fun _ => .nil) (by simp)
        have h2 := h1.put (d := some d) (p := .os g) (v := .slice none 0 0) (by intro i hi; cases hi; exact hd d hdst) (.os _ _ _ _ (by simp [upd]))
        rw [← hnil, ← hdst] at h2
        exact wp_of_run (v := a.eval x) (w' := w) (by simp [execOp, hop]) (.of_rel (by rw [← putSome, ← hdst] at h; exact h) M.le_refl h2)
      · rw [hdst, putSome, hxv] at same
        exact same h
    · exact same h
  case alloc T =>
    split at h
    · rename_i z d hz hdst
      obtain ⟨i, zv, z1, z2, z3⟩ := zeroTD_run' (hE T) hz
      obtain ⟨hz0, h⟩ := h
      have key : ∀ g, K ((s.newG g ⟨T, z.length, [z], true⟩).put d (.op g z.length 0 0)) → o.wpIn (FnR ρ) 0 P a w (GoodK N M F K) Q := by
        intro g hk
        have h1 := hr.allocG (d := d) (g := g) (hd d hdst) T (cells := zv.cells) (cs := z) (z3.2.1 M).toS hz0 ((z3.2.1 M).toS (δ := δ) |>.leafs z3.2.2)
        refine wp_of_run (v := .pointer (some ⟨w.heap.size, 0, none⟩)) (w' := w.alloc (.cells zv.cells T)) ?_ (.of_rel hk M.le_refl (by rw [hdst]; exact h1))
        have : (zeroValue T).run P w = .ok zv w := run_zeroValue' z1 z2
        simp [execOp, hop, Instr.alloc, this, newVar, newRow]
      split at h
      · exact key _ h
      · exact key _ h
    · exact h.elim
  case box T x =>
    split at h
    · rename_i d hdst
      split at h
      · rename_i g hg
        obtain ⟨⟨h1, h2⟩, hk⟩ := h
        have hc := (hr.opnd x).cells h2
        have hl : (killPs g (opnd s x).cells).length = (opnd s x).cells.length := by rw [killPs_eq, mapOs_length]
        have h3 := hr.allocG (d := d) (g := g) (hd d hdst) T (cells := (a.eval x).cells) (cs := killPs g (opnd s x).cells) (hc.kill (upd_ne _ _ _)) (by rw [hl]; exact h1) (hc.leafs h2)
        rw [hl] at h3
        exact wp_of_run (v := .pointer (some ⟨w.heap.size, 0, none⟩)) (w' := w.alloc (.cells (a.eval x).cells T)) (by simp [execOp, hop, Instr.box, newVar, newRow]) (.of_rel hk M.le_refl (by rw [hdst]; exact h3))
      · exact hval h
    · exact h.elim
  case buildSlice T n ps =>
    split at h
    · rename_i d hdst
      split at h
      · rename_i g hg
        have hT := hE T
        split at h
        · rename_i e esz eb z htd
          rw [htd] at hT
          split at h
          · rename_i es hf
            obtain ⟨⟨h1, h2⟩, hk⟩ := h
            obtain ⟨t1, t2, t3, ⟨j, zv, t4, t5, t6, t7, t8⟩, t9, t10⟩ := hT
            obtain ⟨vs, q1, q2, q3, q4, q5⟩ := fillS_run hr ps.toList (List.replicate n z) _ es (by
              intro c hc
              rw [List.mem_replicate] at hc
              rw [hc.2, t9]) (rep_replicate n (t8.2.1 M).toS) (leafs_replicate n t8.2.2) hf
            have hlen : es.length = n := by simpa using q3
            have hbs := run_buildSlice' (w := w) t1 t4 t5 t7 (by rw [t8.1, t9]) t10 h1 (parts := ps.map fun (i, x) => (i, a.eval x)) (vs := vs) (by simpa using q1)
            have hI := q2.toI h2
            have hvl : vs.length = n * esz := by rw [← q2.length, flatten_length q4, hlen]
            have hnm : n ≤ maxLen := by
              have := Nat.le_mul_of_pos_right n t10
              simp only [maxLen]; omega
            have hown : (w.alloc (.cells vs.toArray e)).ownsRow 0 e esz (.slice (some ⟨w.heap.size, 0, none⟩) n n) n vs :=
              ⟨hvl, .inr ⟨w.heap.size, n, vs.toArray, rfl, Nat.zero_le _, heap_alloc_new w _, Nat.le_refl _, hnm, by simp [hvl], by simp [← hvl]⟩⟩
            subst hlen
            have h3 := hr.newG (w' := w.alloc (.cells vs.toArray e)) (v := .slice (some ⟨w.heap.size, 0, none⟩) es.length es.length) (o := ⟨e, esz, es, false⟩) (xs := vs) (row := none) g
              (World.grownBy_alloc w _ none) (by intro k hk; cases hk) (by intro b hb; simp [Value.ownBlock] at hb; right; omega) hown q4 t10 hI.toS (fun _ => hI) q5
            have h4 := h3.put (d := some d) (p := .os g) (v := .slice (some ⟨w.heap.size, 0, none⟩) es.length es.length) (by intro i hi; cases hi; exact hd d hdst) (.os _ _ _ _ (by simp [upd]))
            exact wp_of_run (by simp only [execOp, hop, Sem.run_bind]; rw [hbs]; rfl) (by rw [hdst]; exact GoodK.of_rel hk M.le_refl h4)
          · exact h.elim
        · exact h.elim
      · exact hval h
    · exact h.elim
  case store T p x =>
    split at h
    · rename_i g sz i f n hp hn
      split at h
      · rename_i ob hg
        split at h
        · exact h.elim
        · rename_i hsz
          split at h
          · rename_i c hc
            obtain ⟨⟨h1, h2, h3, h4⟩, hk⟩ := h
            have hpt := hr.opnd p; rw [hp] at hpt
            obtain ⟨b, n', c', e1, e2⟩ := hpt.op_inv
            have hsize : ∃ j, P.info? T = some j ∧ j.size = n := by
              have hT := hE T
              cases htd : E T <;> rw [htd] at hn hT <;> simp only [sizeTD, Option.some.injEq] at hn <;> try (cases hn; done)
              all_goals subst hn
              case int => exact hT.2.1
              case bool => exact hT.2.1
              case str => exact hT.2.1
              case ptr => exact hT.2.1
              case func => exact hT.2.1
              case slice => exact hT.2.1
              case arr =>
                obtain ⟨e, _, _, _, ⟨i, zv, h1, h2, _⟩, _⟩ := hT
                exact ⟨i, h1, h2⟩
              case struct =>
                obtain ⟨fields, _, _, _, ⟨i, zv, h1, h2, _⟩, _⟩ := hT
                exact ⟨i, h1, h2⟩
            obtain ⟨w', hrun, hinv⟩ := store_run hr (v := a.eval x) hsize hg (by simpa using hsz) hc h1 h2 h3 h4 (hr.opnd x) e1
            have hrel : Rel N ⟨s.vs, s.ts, arep s.hp g { ob with es := ob.es.set i (splice c f (opnd s x).cells) }⟩ a w' M F δ := ⟨hr.def0, hr.size, hr.ro, hr.slot, hinv⟩
            have : (execOp a.eval o).run P w = .ok .skip w' := by
              simp [execOp, hop, e2, Instr.storeAt, Instr.sureAddr, hrun]
            refine wpIn_of_sem (by intro d; simp) this ?_
            exact .of_rel hk M.le_refl (hrel.put hd (.imm _ _ (.tup [] [] .nil)))
          · exact h.elim
      · exact h.elim
    · exact h.elim
  case makeSlice T l c =>
    split at h
    · rename_i e esz eb z k1 l1 k2 c1 d htd hl hc hdst
      have hT := hE T
      rw [htd] at hT
      obtain ⟨t1, t2, t3, ⟨j, zv, t4, t5, t6, t7, t8⟩, t9, t10⟩ := hT
      obtain ⟨⟨h0, rfl, h1, h2⟩, hk⟩ := h
      obtain ⟨n, rfl⟩ := Int.eq_ofNat_of_zero_le h0
      have hl' := hr.opnd l; rw [hl] at hl'
      have hc' := hr.opnd c; rw [hc] at hc'
      obtain ⟨w', r1, r2, r3⟩ := run_make_full (P := P) w 0 T e j zv esz t1 t4 t7 t5 k1 k2 n (by rw [t6]; omega) (by simp only [maxLen]; omega) (Nat.zero_le _)
      have hmc : (madeCells zv.cells (n * esz)).toList = (List.replicate n zv.cells.toList).flatten := by
        have := zero_cells zv.cells esz n (by rw [t8.1, t9]) t10
        unfold madeCells
        rw [this]
      rw [hmc] at r2
      have hI : RepIs M (List.replicate n z).flatten (List.replicate n zv.cells.toList).flatten := repI_replicate n (t8.2.1 M)
      have key : ∀ g, K ((s.newG g ⟨e, esz, List.replicate (n : Int).toNat z, false⟩).put d (.os g)) → o.wpIn (FnR ρ) 0 P a w (GoodK N M F K) Q := by
        intro g hk
        rw [Int.toNat_natCast] at hk
        have h3 := hr.newG (w' := w') (v := .slice (some ⟨w.heap.size, 0, none⟩) n n) (o := ⟨e, esz, List.replicate n z, false⟩) (xs := (List.replicate n zv.cells.toList).flatten) (row := none) g
          r3 (by intro k hk; cases hk) (by intro b hb; simp [Value.ownBlock] at hb; right; omega) (by simpa using r2) (by intro c hc; rw [List.mem_replicate] at hc; rw [hc.2, t9]) t10 hI.toS (fun _ => hI) ((hI.toS (δ := δ)).leafs (leafs_replicate n t8.2.2))
        have h4 := h3.put (d := some d) (p := .os g) (v := .slice (some ⟨w.heap.size, 0, none⟩) n n) (by intro i hi; cases hi; exact hd d hdst) (.os _ _ _ _ (by simp [upd]))
        exact wp_of_run (v := .slice (some ⟨w.heap.size, 0, none⟩) n n) (w' := w') (by simp [execOp, hop, hl'.int_inv, hc'.int_inv, r1]) (by rw [hdst]; exact GoodK.of_rel hk M.le_refl h4)
      exact key _ hk
    · exact h.elim
  case call c =>
    split at h
    · -- append
      rename_i hcal
      split at h
      · rename_i x y T T' d hargs hty hdst
        obtain ⟨rfl, h⟩ := h
        have hT := hE T
        split at h
        · rename_i e esz eb z htd
          rw [htd] at hT
          split at h
          · rename_i new hnew
            have hA : c.args.map a.eval = #[a.eval x, a.eval y] := Array.toList_inj.1 (by simp [hargs])
            have hTy : c.argTypes = #[T, T] := Array.toList_inj.1 (by simp [hty])
            have hrun : ∀ v' w', (Builtin.append_ #[T, T] o.type #[a.eval x, a.eval y]).run P w = .ok v' w' → (execOp a.eval o).run P w = .ok (.value v') w' := by
              intro v' w' h1
              simp only [execOp, hop, resolve, hcal, Sem.run_bind, Sem.run_pure, Result.andThen_ok, invoke, builtin, hA, hTy, h1]
            have hsrc := source_of hr.inv hnew (hr.opnd y)
            have hd' : ∀ i, some d = some i → N.Ok i := fun i hi => hd i (by rw [hdst]; exact hi)
            split at h
            · rename_i g hx
              have hxv := hr.opnd x; rw [hx] at hxv
              split at h
              · rename_i ob hg
                obtain ⟨⟨b1, b2, b3, b4, b5⟩, hk⟩ := h
                obtain ⟨xs, q1, q2, q3, q4, q5, q6, q7⟩ := hr.inv.own g ob hg
                rw [b4, b5] at q1
                obtain ⟨v', w', news, r1, r2, r3, r4, r5, r6, ⟨ao, c', r7⟩, r8⟩ := append_run hT o.type q1 hsrc b2 b1
                have hI : RepIs M (ob.es ++ new).flatten (xs ++ news) := by rw [List.flatten_append]; exact (q5 b3).append r4
                have h3 := hr.newG (w' := w') (v := v') (o := { ob with es := ob.es ++ new }) (xs := xs ++ news) (row := (δ g).ownBlock) g r3 (fun k hk => ⟨⟨ob, hg⟩, hk⟩) r8
                  (by dsimp only; rw [List.length_append, b4, b5]; exact r2) (by
                    intro e he
                    rcases List.mem_append.1 he with he | he
                    · exact q2 e he
                    · exact (r6 e he).trans b5.symm) q3 hI.toS (fun _ => hI) (by
                    intro u hu
                    rcases List.mem_append.1 hu with hu | hu
                    · exact q6 u hu
                    · exact r5 u hu)
                have h4 := h3.put (d := some d) (p := .os g) (v := v') hd' (by rw [r7]; exact .os _ _ _ _ (by simp [upd]))
                rw [← hxv.os_inv] at r1
                exact wp_of_run (hrun _ _ r1) (by rw [hdst]; exact GoodK.of_rel hk M.le_refl h4)
              · exact h.elim
            · rename_i hx
              have hxv := hr.opnd x; rw [hx] at hxv
              have key : ∀ g, (new.length * eb ≤ 140737488355328 ∧ new.length ≤ 9223372036854775807) ∧ K ((s.newG g ⟨e, esz, new, false⟩).put d (.os g)) → o.wpIn (FnR ρ) 0 P a w (GoodK N M F K) Q := by
                rintro g ⟨⟨b1, b2⟩, hk⟩
                obtain ⟨v', w', news, r1, r2, r3, r4, r5, r6, ⟨ao, c', r7⟩, r8⟩ := append_run hT o.type (World.ownsRow_nil w 0 e esz) hsrc (by omega) (by simpa using b1)
                rw [Nat.zero_add] at r2 r7
                rw [List.nil_append] at r2
                have h3 := hr.newG (w' := w') (v := v') (o := ⟨e, esz, new, false⟩) (xs := news) (row := none) g r3 (by intro k hk; cases hk) (fun b hb => by
                  rcases r8 b hb with hh | hh
                  · simp [Value.ownBlock] at hh
                  · exact .inr hh) r2 r6 hT.2.2.2.2.2 r4.toS (fun _ => r4) r5
                have h4 := h3.put (d := some d) (p := .os g) (v := v') hd' (by rw [r7]; exact .os _ _ _ _ (by simp [upd]))
                rw [← hxv.nilsl_inv] at r1
                exact wp_of_run (hrun _ _ r1) (by rw [hdst]; exact GoodK.of_rel hk M.le_refl h4)
              exact key _ h
            · exact h.elim
          · exact h.elim
        · exact h.elim
      · exact h.elim
    · -- a function
      rename_i f hcal
      have handed : ∀ {g : Nat} {first caps : List PV}, opnd s f = .fn (.func g) first caps → CallH H g (first ++ opnds s c.args.toList ++ caps) s o.dst K → o.wpIn (FnR ρ) 0 P a w (GoodK N M F K) Q := by
        intro g first caps hf h
        have hp := hr.opnd f; rw [hf] at hp
        obtain ⟨va, vb, e1, e2, e3⟩ := hp.fn_inv
        have hargs := (e2.append (opnds_rep hr c.args.toList)).append e3
        obtain ⟨h1, h2⟩ := callH_wp hH hd h hr hargs
        have hrun : (execOp a.eval o).run P w = .ok (.enter g (va ++ c.args.toList.map a.eval ++ vb).toArray) w := by
          have : (execOp a.eval o).run P w = (callFunc g (va.toArray ++ c.args.map a.eval ++ vb.toArray)).run P w := by
            simp [execOp, hop, resolve, hcal, e1, Deferred.ofValue, invoke]
          rw [this, h1]
          congr 2
          apply Array.toList_inj.1
          simp
        refine wpIn_of_sem (by intro d; simp) hrun ⟨fun h => (by cases h), (callsIn_of_calls h2).mono ?_⟩
        rintro e w' ⟨v, rfl, k1⟩
        exact k1
      split at h
      · split at h
        · rename_i g first caps hf
          exact handed hf h
        · exact h.elim
      · split at h
        · split at h
          · rename_i g first caps hf
            cases h with
            | val h =>
              refine hval ?_
              simp only [valOp, hop, hcal, hf]
              exact h
            | hnd h => exact handed hf h
          · exact h.elim
        · exact hval h
    · exact hval h
  case slice T x lo hi mx =>
    cases mx with
    | some m => exact hval (by simpa using h)
    | none =>
      simp only at h
      split at h
      · exact hval h
      · split at h
        · rename_i T' e esz eb z g d hE' hx hdst
          have hxv := hr.opnd x; rw [hx] at hxv
          have hT := hE T
          rw [hE'] at hT
          obtain ⟨t1, t2, t3, ⟨j, zv, t4, t5, t6, t7, t8⟩, t9, t10⟩ := hT
          split at h
          · rename_i ob hg
            obtain ⟨l, h, hl⟩ := bound_run hr h
            obtain ⟨hh, ⟨⟨b0, b1, b2⟩, ⟨b3, b4⟩, hk⟩, hh'⟩ := bound_run hr h
            subst b0
            obtain ⟨xs, q1, q2, q3, q4, q5, q6, q7⟩ := hr.inv.own g ob hg
            have hI := q5 b3
            have hxe := hxv.os_inv
            -- the slice that comes out of it
            have key : ∃ (ao : Option Addr) (n c : Nat), δ g = .slice ao n c ∧ n = ob.es.length ∧ n ≤ c ∧ (∀ b, (δ g).ownBlock = some b ↔ (Value.slice ao hh.toNat c).ownBlock = some b) ∧
                ((if c = 0 then ao else ao.map (·.add (0 * esz))) = ao) ∧
                w.ownsRow 0 ob.ty ob.sz (.slice ao hh.toNat c) hh.toNat (xs.take (hh.toNat * ob.sz)) := by
              have hlen : xs.length = ob.es.length * ob.sz := q1.1
              have hle : hh.toNat ≤ ob.es.length := by omega
              have hmul : hh.toNat * ob.sz ≤ ob.es.length * ob.sz := Nat.mul_le_mul_right _ hle
              rcases q1.2 with ⟨e1, e2⟩ | ⟨b, cap, cur, e1, e2, e3, e4, e5, e6, e7⟩
              · have h0 : hh.toNat = 0 := by omega
                refine ⟨none, 0, 0, e1, e2.symm, Nat.le_refl _, fun b => by rw [e1]; simp [Value.ownBlock], by simp, by simp [h0], .inl ⟨by rw [h0], h0⟩⟩
              · refine ⟨some ⟨b, 0, none⟩, ob.es.length, cap, e1, rfl, e4, fun b' => by rw [e1]; simp [Value.ownBlock], ?_, by simp; omega, .inr ⟨b, cap, cur, rfl, e2, e3, by omega, e5, e6, ?_⟩⟩
                · split
                  · rfl
                  · simp [Addr.add]
                · rw [← e7, List.take_take, Nat.min_eq_left hmul]
            obtain ⟨ao, n, c, k1, k2, k3, k4, k5, k6⟩ := key
            have hrun : (Instr.sliceBounds true n c (lo.map a.eval) (hi.map a.eval) none).run P w = .ok (0, hh.toNat, c) w := by
              have h2 : hh ≤ (n : Int) := by rw [k2]; exact b2
              rcases hh' with ⟨rfl, hn⟩ | ⟨y, k, rfl, hy⟩
              · have hn' : hh.toNat = n := by rw [hn, ← k2]; simp
                rcases hl with ⟨rfl, -⟩ | ⟨y', k', rfl, hy'⟩
                · simp [Instr.sliceBounds, hn']
                · simp [Instr.sliceBounds, hn', hy', sliceBound_run k' 0 n _ (by omega) (by omega)]
              · rcases hl with ⟨rfl, -⟩ | ⟨y', k', rfl, hy'⟩
                · simp [Instr.sliceBounds, hy, sliceBound_run k hh c _ b1 (by omega)]
                · simp [Instr.sliceBounds, hy, hy', sliceBound_run k hh c _ (by omega) (by omega), sliceBound_run k' 0 hh.toNat _ (by omega) (by omega)]
            have hfl : (ob.es.take hh.toNat).flatten = ob.es.flatten.take (hh.toNat * ob.sz) := by
              have : ∀ (n : Nat) (es : List (List PV)), (∀ e ∈ es, e.length = ob.sz) → (es.take n).flatten = es.flatten.take (n * ob.sz) := by
                intro n
                induction n with
                | zero => intro es _; simp
                | succ n ih =>
                  intro es he
                  cases es with
                  | nil => simp
                  | cons e es =>
                    have hle := he e (by simp)
                    rw [List.take_succ_cons, List.flatten_cons, List.flatten_cons, ih es (fun e h => he e (by simp [h])), List.take_append, List.take_of_length_le (l := e) (by rw [hle, Nat.succ_mul]; omega), hle, Nat.succ_mul, Nat.add_sub_cancel]
              exact this _ _ q2
            have hlen2 : (ob.es.take hh.toNat).length = hh.toNat := by simp; omega
            have hI2 : RepIs M (ob.es.take hh.toNat).flatten (xs.take (hh.toNat * ob.sz)) := by rw [hfl]; exact hI.take _
            have h3 := hr.newG (w' := w) (v := .slice ao hh.toNat c) (o := ⟨ob.ty, ob.sz, ob.es.take hh.toNat, ob.own⟩) (xs := xs.take (hh.toNat * ob.sz)) (row := (δ g).ownBlock) g
              ⟨rfl, rfl, rfl, Nat.le_refl _, fun _ _ _ => rfl⟩ (fun k hk => ⟨⟨ob, hg⟩, hk⟩) (fun b hb => .inl ((k4 b).2 hb)) (by dsimp only; rw [hlen2]; exact k6)
              (fun e he => q2 e (List.mem_of_mem_take he)) q3 hI2.toS (fun _ => hI2) (fun u hu => q6 u (List.mem_of_mem_take hu))
            have h4 := h3.put (d := some d) (p := .os g) (v := .slice ao hh.toNat c) (fun i hi => hd i (by rw [hdst]; exact hi)) (.os _ _ _ _ (by simp [upd]))
            exact wp_of_run (v := .slice ao hh.toNat c) (w' := w) (by
              have : (if c = 0 then ao else Option.map (fun x => x.add (0 * esz)) ao) = ao := k5
              simp [execOp, hop, hxe, k1, Instr.sliceAt, Instr.slice, run_underlying t1, hrun, run_sizeOf' t4, t5]
              try simpa using this) (by rw [hdst]; exact GoodK.of_rel hk M.le_refl h4)
          · exact h.elim
        · exact h.elim
end
end Go.Proofs.Ytbliiejdmgnkgaa.Pv
