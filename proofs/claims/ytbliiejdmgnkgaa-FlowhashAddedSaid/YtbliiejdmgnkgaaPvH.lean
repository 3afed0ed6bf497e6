/-
  The layer of values: what an evaluator says of a function holds of every run of it. For every program of the model that meets the named conditions.
-/
import Derived.Test.YtbliiejdmgnkgaaPvG
namespace Go.Proofs.Ytbliiejdmgnkgaa.Pv
open Go

section
variable {ρ : Option Nat} {P : Program} {E : Env} {C : Ctr} {w : World} {N : Cx} {s : St} {a : Act} {M : Mem} {F : Frm} {δ : Nat → Value}

theorem Inv.alloc {hp : List (Nat × GObj)} (hi : Inv M F δ hp w) (cells : Array Value) (T : TypeId) : 
    Inv (fun b => if b = w.heap.size then some (.cells cells T) else M b) F δ hp (w.alloc (.cells cells T)) ∧ M.le (fun b => if b = w.heap.size then some (.cells cells T) else M b) := by
  have hM : ∀ b o, M b = some o → b < w.heap.size := fun b o h => (Array.getElem?_eq_some_iff.1 (hi.m b o h)).1
  have hF : ∀ b o, F b = some o → b < w.heap.size := fun b o h => (Array.getElem?_eq_some_iff.1 (hi.f b o h)).1
  have hle : M.le (fun b => if b = w.heap.size then some (.cells cells T) else M b) := by
    intro b o h
    have := hM b o h
    simp [show b ≠ w.heap.size by omega, h]
  refine ⟨⟨?_, ?_, ?_, hi.io, ?_, hi.dis⟩, hle⟩
  · intro b o h
    split at h
    · rename_i hb; subst hb; cases h; exact heap_alloc_new w _
    · rw [heap_alloc_old w _ (hM b o h)]; exact hi.m b o h
  · intro b o h
    rw [heap_alloc_old w _ (hF b o h)]; exact hi.f b o h
  · intro b h
    split at h
    · rename_i hb
      subst hb
      cases hf : F w.heap.size with
      | none => rfl
      | some o => have := hF _ _ hf; omega
    · exact hi.mf b h
  · intro g o hg
    obtain ⟨xs, q1, q2, q3, q4, q5, q6, q7⟩ := hi.own g o hg
    refine ⟨xs, q1.alloc _, q2, q3, q4.mono hle, fun h => (q5 h).mono hle, q6, fun b hb => ?_⟩
    have := (q1.lt b hb).2
    simp [show b ≠ w.heap.size by omega, q7 b hb]

theorem places_of : ∀ (fields : List Field) (fs : List (Nat × Nat × Bool)), fs.length = fields.length →
    (∀ (k off sz : Nat) (ag : Bool), fs[k]? = some (off, sz, ag) → ∃ f, fields[k]? = some f ∧ f.offset = off ∧ ∃ j, P.info? f.type = some j ∧ j.size = sz) →
    fields.mapM (fun f => (P.info? f.type).map fun i => (f.offset, i.size)) = some (fs.map fun x => (x.1, x.2.1))
  | [], fs, hl, h => by
    have : fs = [] := List.eq_nil_of_length_eq_zero (by simpa using hl)
    subst this; rfl
  | f :: fields, [], hl, h => by simp at hl
  | f :: fields, (off, sz, ag) :: fs, hl, h => by
    obtain ⟨f', h1, h2, j, h3, h4⟩ := h 0 off sz ag rfl
    simp at h1
    subst h1
    have ih := places_of fields fs (by simpa using hl) (fun k off sz ag hk => h (k + 1) off sz ag (by simpa using hk))
    simp [List.mapM_cons, h3, ih, h2, h4]

theorem rep_replicate {z : List PV} {zs : List Value} (n : Nat) (h : RepSs M δ z zs) : RepSs M δ (List.replicate n z).flatten (List.replicate n zs).flatten := by
  induction n with
  | zero => exact .nil
  | succ n ih =>
    rw [List.replicate_succ, List.replicate_succ, List.flatten_cons, List.flatten_cons]
    exact h.append ih
theorem repI_replicate {z : List PV} {zs : List Value} (n : Nat) (h : RepIs M z zs) : RepIs M (List.replicate n z).flatten (List.replicate n zs).flatten := by
  induction n with
  | zero => exact .nil
  | succ n ih =>
    rw [List.replicate_succ, List.replicate_succ, List.flatten_cons, List.flatten_cons]
    exact h.append ih

theorem leafs_append : ∀ l l' : List PV, leafs (l ++ l') = (leafs l && leafs l') := by
  intro l l'
  induction l with
  | nil => simp [leafs]
  | cons p l ih => simp [leafs, ih, Bool.and_assoc]

theorem leafs_replicate {z : List PV} (n : Nat) (h : leafs z = true) : leafs (List.replicate n z).flatten = true := by
  induction n with
  | zero => rfl
  | succ n ih => rw [List.replicate_succ, List.flatten_cons, leafs_append, ih, h]; rfl

theorem flatten_replicate_get {zs : List Value} {esz : Nat} (hz : zs.length = esz) (n k : Nat) (hk : k < n) : ((List.replicate n zs).flatten.drop (k * esz)).take esz = zs := by
  induction n generalizing k with
  | zero => omega
  | succ n ih =>
    rw [List.replicate_succ, List.flatten_cons]
    cases k with
    | zero => simp [← hz]
    | succ k =>
      have h' : (zs ++ (List.replicate n zs).flatten).drop ((k + 1) * esz) = (List.replicate n zs).flatten.drop (k * esz) := by
        rw [List.drop_append, List.drop_eq_nil_of_le (by rw [hz, Nat.succ_mul]; omega), List.nil_append]
        congr 1
        rw [hz, Nat.succ_mul]
        omega
      rw [h']
      exact ih k (by omega)

theorem zero_cells (zv : Array Value) (esz n : Nat) (hz : zv.size = esz) (h0 : 0 < esz) :
    (Array.range (n * esz)).map (fun x => zv[x % zv.size]!) = (List.replicate n zv.toList).flatten.toArray := by
  apply Array.toList_inj.1
  apply List.ext_getElem
  · simp [hz]
  · intro i i1 i2
    simp only [Array.toList_map, Array.toList_range, List.getElem_map, List.getElem_range]
    have hn : i < n * esz := by simpa using i1
    rw [hz]
    have hm : i % esz < esz := Nat.mod_lt _ h0
    rw [getElem!_pos zv (i % esz) (by rw [hz]; exact hm)]
    have hq : i / esz < n := (Nat.div_lt_iff_lt_mul h0).2 hn
    have r1 := flatten_replicate_get (zs := zv.toList) (by simpa using hz) n (i / esz) hq
    have hi : i = i / esz * esz + i % esz := by rw [Nat.mul_comm]; exact (Nat.div_add_mod i esz).symm
    have h5 : (List.replicate n zv.toList).flatten[i]? = zv.toList[i % esz]? := by
      have h6 := congrArg (fun l => l[i % esz]?) r1
      simp only [List.getElem?_take, hm, if_true, List.getElem?_drop] at h6
      rw [← hi] at h6
      exact h6
    have h7 : (List.replicate n zv.toList).flatten[i]? = some (List.replicate n zv.toList).flatten[i] := List.getElem?_eq_getElem _
    rw [h7] at h5
    have h8 : zv.toList[i % esz]? = some zv[i % esz] := by simp [hz, hm]
    rw [h8] at h5
    exact (Option.some.inj h5).symm

theorem run_buildSlice' {T e : TypeId} {j : TypeInfo} {zv : Value} {esz n : Nat} (t1 : P.underlying T = some (.slice e)) (t4 : P.info? e = some j) (t5 : j.size = esz) (t7 : j.zero = some zv)
    (hz : zv.cells.size = esz) (h0 : 0 < esz) (hle : n * esz ≤ 16777216) {parts : Array (Nat × Value)} {vs : List Value}
    (h : Instr.fill (fun i => some (i * esz, esz)) (List.replicate n zv.cells.toList).flatten.toArray parts.toList = some vs.toArray) :
    (Instr.buildSlice T n parts).run P w = .ok (.slice (some ⟨w.heap.size, 0, none⟩) n n) (w.alloc (.cells vs.toArray e)) := by
  by_cases hn : n * esz = 0
  · have hn0 : n = 0 := by
      rcases Nat.mul_eq_zero.1 hn with h | h
      · exact h
      · omega
    subst hn0
    have hr : Array.map (fun _ => (default : Value)) (Array.range 0) = (List.replicate 0 zv.cells.toList).flatten.toArray := by simp
    simp [Instr.buildSlice, run_underlying t1, run_sizeOf' t4, t5, newRow]
    rw [show Array.range 0 = #[] from rfl, Array.map_empty]
    simp only [List.replicate_zero, List.flatten_nil] at h
    rw [h]
    rfl
  · rw [← zero_cells zv.cells esz n hz h0] at h
    simp [Instr.buildSlice, run_underlying t1, run_sizeOf' t4, t5, newRow, hn, run_zeroValue' t4 t7, show ¬ 16777216 < n * esz by omega]
    rw [h]
    rfl

theorem RepIs.of_zero {z : List PV} {zv : Value} (h : ZeroOk zv z) (M : Mem) : RepIs M z zv.cells.toList := h.2.1 M

theorem cellsEq_run {d : Nat} {xs ys : Array Value} : ∀ (fl : List Field) (off : Nat) (x y : List PV) (c : Bool), (∀ k f, fl[k]? = some f → f.name ≠ "_" ∧ f.offset = off + k ∧ ∃ kk, P.underlying f.type = some (.int kk)) →
    RepSs M δ x (xs.toList.drop off) → RepSs M δ y (ys.toList.drop off) → x.length = fl.length → cellsEq x y = some c → (Op.eqFields (d + 1) xs ys fl).run P w = .ok c w
  | [], off, x, y, c, hf, hx, hy, hl, h => by
    have : x = [] := List.eq_nil_of_length_eq_zero (by simpa using hl)
    subst this
    cases y with
    | nil => simp [cellsEq] at h; subst h; simp [Op.eqFields]
    | cons => simp [cellsEq] at h
  | f :: fl, off, x, y, c, hf, hx, hy, hl, h => by
    obtain ⟨f1, f2, kk, f3⟩ := hf 0 f rfl
    cases x with
    | nil => simp at hl
    | cons p x =>
      cases y with
      | nil => cases p <;> simp [cellsEq] at h
      | cons q y =>
        cases p <;> cases q <;> simp only [cellsEq] at h <;> try (cases h; done)
        rename_i k1 n1 k2 n2
        split at h
        · rename_i c' hk hc'
          have hk : k1 = k2 := by simpa using hk
          subst hk
          cases hxd : xs.toList.drop off with
          | nil => rw [hxd] at hx; cases hx
          | cons u us =>
            cases hyd : ys.toList.drop off with
            | nil => rw [hyd] at hy; cases hy
            | cons u' us' =>
              rw [hxd] at hx; rw [hyd] at hy
              cases hx with | cons _ _ _ _ hx1 hx2 =>
              cases hy with | cons _ _ _ _ hy1 hy2 =>
              have e1 : xs[off]? = some (.int k1 n1) := by
                have := congrArg (fun l => l[0]?) hxd
                simp only [List.getElem?_drop] at this
                simpa [hx1.int_inv] using this
              have e2 : ys[off]? = some (.int k1 n2) := by
                have := congrArg (fun l => l[0]?) hyd
                simp only [List.getElem?_drop] at this
                simpa [hy1.int_inv] using this
              have hus : us = xs.toList.drop (off + 1) := by
                have := congrArg List.tail hxd
                simpa using this.symm
              have hus' : us' = ys.toList.drop (off + 1) := by
                have := congrArg List.tail hyd
                simpa using this.symm
              rw [hus] at hx2; rw [hus'] at hy2
              have ih := cellsEq_run (d := d) fl (off + 1) x y c' (fun k g hg => by
                obtain ⟨g1, g2, g3⟩ := hf (k + 1) g (by simpa using hg)
                exact ⟨g1, by omega, g3⟩) hx2 hy2 (by simpa using hl) hc'
              have hag : aggD P f.type false := ⟨_, f3, rfl⟩
              have hoff : f.offset = off := by simpa using f2
              have p1 : (part f.type xs f.offset).run P w = .ok (.int k1 n1) w := by simp [part, run_isAgg' hag, hoff, e1]
              have p2 : (part f.type ys f.offset).run P w = .ok (.int k1 n2) w := by simp [part, run_isAgg' hag, hoff, e2]
              simp only [Op.eqFields, f1, ne_eq, not_false_eq_true, if_true, Sem.run_bind, p1, p2, Result.andThen_ok, run_equalIn_int w d f.type k1 kk n1 n2 f3, Sem.run_ite]
              simp only [Option.some.injEq] at h
              subst h
              by_cases hn : n1 = n2
              · subst hn
                simp [ih]
              · simp [hn]
        · cases h

theorem binVal_run {xT : TypeId} {d : TD} (hd : TDok P xT d) {op : BinOp} {p q : PV} {K : PV → Prop} (h : binVal d op p q K) {u v : Value} (hx : RepS M δ p u) (hy : RepS M δ q v) (x y : Operand) :
    ∃ r z, K r ∧ (eqGuard op xT x y u v).run P w = .ok () w ∧ (binOp op xT u v).run P w = .ok z w ∧ RepS M δ r z := by
  have beq : ∀ a b : Bool, (a == b) = decide (a = b) := fun a b => by cases a <;> cases b <;> rfl
  unfold binVal at h
  split at h
  · rename_i k n k' n'
    rw [hx.int_inv, hy.int_inv]
    have hg : (eqGuard op xT x y (.int k n) (.int k' n')).run P w = .ok () w := by
      cases op <;> simp [eqGuard]
    split at h
    · unfold shiftInt at h
      exact ⟨_, .int k (k.wrap (n * 2 ^ (min n'.toNat k.bits))), h.2, hg, by simp [binOp, Op.shift, show ¬ n' < 0 by omega], .imm _ _ (.int _ _)⟩
    · unfold shiftInt at h
      exact ⟨_, .int k (n.fdiv (2 ^ (min n'.toNat k.bits))), h.2, hg, by simp [binOp, Op.shift, show ¬ n' < 0 by omega], .imm _ _ (.int _ _)⟩
    · obtain ⟨rfl, h⟩ := h
      obtain ⟨r, z, e1, e2, e3⟩ := binInt_run (P := P) (w := w) h xT
      exact ⟨r, z, e1, hg, e2, e3 _ _⟩
  · rename_i b b'
    rw [hx.bool_inv, hy.bool_inv]
    cases d <;> simp only [] at h <;> try exact h.elim
    have hu := hd.1
    cases op <;> simp only [eqOut] at h <;> try exact h.elim
    · exact ⟨_, .bool (decide (b = b')), h, by simp [eqGuard], by simp [binOp, Op.equal, Op.maxDepth, run_equalIn_bool' w _ xT b b' hu, beq], .imm _ _ (.bool _)⟩
    · exact ⟨_, .bool (!decide (b = b')), h, by simp [eqGuard], by simp [binOp, Op.equal, Op.maxDepth, run_equalIn_bool' w _ xT b b' hu, beq], .imm _ _ (.bool _)⟩
  · rename_i b b'
    rw [hx.str_inv, hy.str_inv]
    have hg : (eqGuard op xT x y (.string b) (.string b')).run P w = .ok () w := by
      cases op <;> simp [eqGuard]
    have hbe : (b.toList == b'.toList) = decide (b = b') := by
      by_cases hb : b = b'
      · subst hb; simp
      · have : b.toList ≠ b'.toList := by
          intro h'
          rw [ByteArray.toList_eq, ByteArray.toList_eq] at h'
          apply hb
          cases b; cases b'
          congr 1
          exact Array.toList_inj.1 h'
        simp [hb, this]
    split at h
    · exact ⟨_, .bool (decide (b = b')), h, hg, by simp [binOp, Op.stringOp, hbe], .imm _ _ (.bool _)⟩
    · exact ⟨_, .bool (!decide (b = b')), h, hg, by simp [binOp, Op.stringOp, hbe], .imm _ _ (.bool _)⟩
    · refine ⟨_, .string (b ++ b'), h.2, hg, ?_, .imm _ _ (.str _)⟩
      have : ¬ (IntKind.i64.max < ((b.size + b'.size : Nat) : Int)) := by
        have := h.1
        simp only [show IntKind.i64.max = 9223372036854775807 from rfl]
        omega
      simp only [binOp, Op.stringOp, Sem.run_ite]
      rw [if_neg (by simpa using this)]
      rfl
    · exact h.elim
  · rename_i cs ds
    split at h
    · rename_i fs z
      split at h
      · rename_i hlen
        split at h
        · rename_i c hc
          obtain ⟨vs, rfl, hvs⟩ := hx.agg_inv
          obtain ⟨us, rfl, hus⟩ := hy.agg_inv
          obtain ⟨fields, f1, f2, f3, f4, f5⟩ := hd
          obtain ⟨c1, c2, c3, c4⟩ := f5 rfl
          have hfo : P.fieldsOf xT = fields := by simp [Program.fieldsOf, f1]
          have heq : (Op.equal xT (.agg vs.toArray) (.agg us.toArray)).run P w = .ok c w := by
            have h1 := run_equalIn_struct (P := P) w 9999 xT vs.toArray us.toArray (by rw [hfo]; exact f1) c1
            rw [hfo] at h1
            have h2 := cellsEq_run (P := P) (w := w) (d := 9998) (xs := vs.toArray) (ys := us.toArray) fields.toList 0 cs ds c (fun k f hf => by
              obtain ⟨g1, g2, g3, _⟩ := c4 k f (by simpa using hf)
              exact ⟨g1, by omega, g3⟩) (by simpa using hvs) (by simpa using hus) (by rw [hlen, c3]; simp) hc
            exact h1.trans h2
          have hg : ∀ op : BinOp, (eqGuard op xT x y (.agg vs.toArray) (.agg us.toArray)).run P w = .ok () w := by
            intro op
            cases op <;> simp [eqGuard, c2]
          cases op <;> simp only [eqOut] at h <;> try exact h.elim
          · exact ⟨_, .bool c, h, hg _, by simp [binOp, heq], .imm _ _ (.bool _)⟩
          · exact ⟨_, .bool (!c), h, hg _, by simp [binOp, heq], .imm _ _ (.bool _)⟩
        · exact h.elim
      · exact h.elim
    · exact h.elim
  · split at h
    · rename_i c hc
      obtain ⟨⟨el, hu⟩, _⟩ := hd
      have hpt : P.underlying xT = some (.pointer (P.pointee xT)) := by simp [Program.pointee, hu]
      rw [hy.nilptr_inv]
      have hpv : ∃ po : Option Addr, u = .pointer po ∧ po.isNone = c := by
        cases p <;> simp [isNilP] at hc
        · subst hc; exact ⟨none, hx.nilptr_inv, rfl⟩
        · obtain ⟨b, off, cells, T', fr, vs, e1, _⟩ := ptr_inv2 hx.ptr_inv
          exact ⟨_, e1, by rw [hc]; rfl⟩
        · obtain ⟨b, n, c', e1, e2⟩ := hx.op_inv
          exact ⟨_, e2, by rw [hc]; rfl⟩
      obtain ⟨po, rfl, hpo⟩ := hpv
      have hg : ∀ op : BinOp, (eqGuard op xT x y (.pointer po) (.pointer none)).run P w = .ok () w := by
        intro op
        cases op <;> simp [eqGuard]
      cases op <;> simp only [eqOut] at h <;> try exact h.elim
      · exact ⟨_, .bool c, h, hg _, by rw [run_eql_pointer_nil w xT po hpt, hpo], .imm _ _ (.bool _)⟩
      · exact ⟨_, .bool (!c), h, hg _, by rw [run_neq_pointer_nil w xT po hpt, hpo], .imm _ _ (.bool _)⟩
    · exact h.elim
  · split at h
    · rename_i c hc
      obtain ⟨⟨fa, fb, fc, hu⟩, _⟩ := hd
      rw [hy.nilfn_inv]
      have hpv : (u = .nilFunc ∧ c = true) ∨ ∃ f va vb, u = .func f va vb ∧ c = false := by
        cases p <;> simp [isNilF] at hc
        · exact .inl ⟨hx.nilfn_inv, hc⟩
        · obtain ⟨va, vb, e1, _⟩ := hx.fn_inv
          exact .inr ⟨_, _, _, e1, hc⟩
      have heq : (Op.equal xT u .nilFunc).run P w = .ok c w := by
        have : ∀ d, (Op.equalIn (d + 1) xT u .nilFunc).run P w = .ok c w := by
          intro d
          rcases hpv with ⟨rfl, rfl⟩ | ⟨f, va, vb, rfl, rfl⟩ <;> simp [Op.equalIn, run_underlying hu]
        exact this 9999
      have hg : ∀ op : BinOp, (eqGuard op xT x y u .nilFunc).run P w = .ok () w := by
        intro op
        rcases hpv with ⟨rfl, rfl⟩ | ⟨f, va, vb, rfl, rfl⟩ <;> cases op <;> simp [eqGuard]
      have hbo : (binOp .eql xT u .nilFunc).run P w = .ok (.bool c) w ∧ (binOp .neq xT u .nilFunc).run P w = .ok (.bool (!c)) w := by
        rcases hpv with ⟨rfl, rfl⟩ | ⟨f, va, vb, rfl, rfl⟩ <;> simp [binOp, heq]
      cases op <;> simp only [eqOut] at h <;> try exact h.elim
      · exact ⟨_, .bool c, h, hg _, hbo.1, .imm _ _ (.bool _)⟩
      · exact ⟨_, .bool (!c), h, hg _, hbo.2, .imm _ _ (.bool _)⟩
    · exact h.elim
  · exact h.elim

theorem valOp_wp (hE : ∀ T, TDok P T (E T)) (hC : ∀ f as r, C f as r → FC P f as r) {o : Oper} {K : PV → Prop} (h : valOp E C o s K) (hr : Rel N s a w M F δ)
    {next : Act → World → Prop} {Q : Exit → Act → World → Prop}
    (hn : ∀ v p M' w', K p → M.le M' → Inv M' F δ s.hp w' → RepS M' δ p v → next (a.put o.dst v) w') : o.wpIn (FnR ρ) 0 P a w next Q := by
  have same : ∀ (v : Value) (p : PV), K p → RepS M δ p v → (execOp a.eval o).run P w = .ok (.value v) w → o.wpIn (FnR ρ) 0 P a w next Q :=
    fun v p hk hp hrun => wp_of_run hrun (hn v p M w hk M.le_refl hr.inv hp)
  cases hop : o.op <;> simp only [valOp, hop] at h <;> try exact h.elim
  case move x => exact same _ _ h (hr.opnd x) (by simp [execOp, hop])
  case assign x => exact same _ _ h (hr.opnd x) (by simp [execOp, hop])
  case pick c x y =>
    split at h
    · rename_i hc
      have := hr.opnd c; rw [hc] at this
      exact same _ _ h (hr.opnd x) (by simp [execOp, hop, this.bool_inv, asBool])
    · rename_i hc
      have := hr.opnd c; rw [hc] at this
      exact same _ _ h (hr.opnd y) (by simp [execOp, hop, this.bool_inv, asBool])
    · exact h.elim
  case box T x =>
    obtain ⟨⟨h1, h2⟩, hk⟩ := h
    obtain ⟨hi', hle⟩ := hr.inv.alloc (a.eval x).cells T
    refine wp_of_run (v := .pointer (some ⟨w.heap.size, 0, none⟩)) (w' := w.alloc (.cells (a.eval x).cells T)) (by simp [execOp, hop, Instr.box, newVar, newRow]) (hn _ _ _ _ hk hle hi' ?_)
    have hc := (hr.opnd x).cells h2
    have hci : isImms (opnd s x).cells = true := by
      cases hx : opnd s x <;> simp [hx, isImm, PV.cells, isImms] at h1 ⊢
      all_goals first | exact h1 | skip
    exact .imm _ _ (.ptr _ _ _ (a.eval x).cells T (0, 0) (a.eval x).cells.toList (by simp) ((hc.toI hci).mono hle) (hc.leafs h2) (by simp))
  case build T ps =>
    have hT := hE T
    cases hd : E T <;> simp only [hd] at h hT <;> try exact h.elim
    case struct fs z _ =>
      split at h
      · rename_i cs hf
        obtain ⟨fields, h1, h2, h3, ⟨i, zv, h4, h5, h6, h7⟩, _⟩ := hT
        have hpl := places_of (P := P) fields.toList fs (by simpa using h2) (fun k off sz ag hk => by
          obtain ⟨f, e1, e2, e3, e4, e5, _⟩ := h3 k off sz ag hk
          exact ⟨f, by simpa using e1, e2, e5⟩)
        obtain ⟨vs, hrun, hrep⟩ := fillF_run h3 (fun x => (fs.map fun x => (x.1, x.2.1)).toArray[x]?) (fun k off sz ag hk => by simp [hk]) hr ps.toList z zv.cells.toList cs rfl (h7.2.1 M).toS hf
        refine same _ _ h (.agg _ _ hrep) ?_
        have hb : P.built T (ps.map fun (i, x) => (i, a.eval x)).toList = some vs.toArray := by
          simp only [Program.built, h4, h1, h6, hpl]
          simpa using hrun
        simp only [execOp, hop, Sem.run_bind]
        rw [run_build w T _ _ hb]
        first | done | rfl
      · exact h.elim
    case arr n esz ag z =>
      split at h
      · rename_i cs hf
        obtain ⟨e, h1, h2, ⟨j, h3, h4⟩, ⟨i, zv, h5, h6, h7, h8⟩, h9, h10⟩ := hT
        obtain ⟨vs, hrun, hrep⟩ := fillA_run h9 hr ps.toList z zv.cells.toList cs rfl (h8.2.1 M).toS hf
        refine same _ _ h (.agg _ _ hrep) ?_
        have hb : P.built T (ps.map fun (i, x) => (i, a.eval x)).toList = some vs.toArray := by
          simp only [Program.built, h5, h1, h7, h3, h4]
          simpa using hrun
        simp only [execOp, hop, Sem.run_bind]
        rw [run_build w T _ _ hb]
        first | done | rfl
      · exact h.elim
  case buildSlice T n ps =>
    have hT := hE T
    cases hd : E T <;> simp only [hd] at h hT <;> try exact h.elim
    case slice e esz eb z =>
      split at h
      · rename_i es hf
        obtain ⟨⟨h1, h2⟩, hk⟩ := h
        obtain ⟨t1, t2, t3, ⟨j, zv, t4, t5, t6, t7, t8⟩, t9, t10⟩ := hT
        obtain ⟨vs, q1, q2, q3, q4, q5⟩ := fillS_run hr ps.toList (List.replicate n z) _ es (by
          intro c hc
          rw [List.mem_replicate] at hc
          rw [hc.2, t9]) (rep_replicate n (t8.2.1 M).toS) (leafs_replicate n t8.2.2) hf
        have hlen : es.length = n := by simpa using q3
        obtain ⟨hi', hle⟩ := hr.inv.alloc vs.toArray e
        have hbs := run_buildSlice' (w := w) t1 t4 t5 t7 (by rw [t8.1, t9]) t10 h1 (parts := ps.map fun (i, x) => (i, a.eval x)) (vs := vs) (by simpa using q1)
        refine wp_of_run (by simp only [execOp, hop, Sem.run_bind]; rw [hbs]; rfl) (hn _ _ _ _ hk hle hi' ?_)
        subst hlen
        have hrI := (q2.toI h2).mono hle
        exact .imm _ _ (.sl esz es w.heap.size 0 es.length vs.toArray e (0, 0) vs (by simp) (Nat.le_refl _) t10 q4 hrI q5 (by simp))
      · exact h.elim
  case load T x =>
    split at h
    · rename_i cs hx
      have hp := hr.opnd x; rw [hx] at hp
      obtain ⟨b, off, vs, e1, e2, e3, e4⟩ := ptr_cells hr.inv hp.ptr_inv
      obtain ⟨p, v, k1, k2, k3⟩ := loadVar_run (hE T) e2.toS e4 h
      exact same _ _ k1 k2 (by simp [execOp, hop, e1, Instr.loadAt, Instr.sureAddr, k3])
    · rename_i g sz i f hx
      have hp := hr.opnd x; rw [hx] at hp
      obtain ⟨b, n, c, e1, e2⟩ := hp.op_inv
      split at h
      · rename_i ob hg
        split at h
        · rename_i hsz
          split at h
          · rename_i c' hc
            obtain ⟨vs, r1, r2, r3⟩ := own_cells hr.inv hg e1 hc
            obtain ⟨p, v, k1, k2, k3⟩ := loadVar_run (b := b) (off := i * sz + f) (hE T) (r1.drop f) (fun j v hv => by
              rw [List.getElem?_drop] at hv
              have := r3 _ _ hv
              rw [hsz] at this
              rw [Nat.add_assoc]; exact this) h
            exact same _ _ k1 k2 (by simp [execOp, hop, e2, Instr.loadAt, Instr.sureAddr, k3])
          · exact h.elim
        · exact h.elim
      · exact h.elim
    · exact h.elim
  case nilCheck x =>
    split at h
    · rename_i cs hx
      have hp := hr.opnd x; rw [hx] at hp
      obtain ⟨b, off, vs, e1, _⟩ := ptr_cells hr.inv hp.ptr_inv
      exact same _ _ h hp (by simp [execOp, hop, e1])
    · rename_i g sz i f hx
      have hp := hr.opnd x; rw [hx] at hp
      obtain ⟨b, n, c, e1, e2⟩ := hp.op_inv
      exact same _ _ h hp (by simp [execOp, hop, e2])
    · rename_i f as bs hx
      have hp := hr.opnd x; rw [hx] at hp
      obtain ⟨va, vb, e1, _⟩ := hp.fn_inv
      exact same _ _ h hp (by simp [execOp, hop, e1])
    · exact h.elim
  case binOp op xT x y yT =>
    have hx := hr.opnd x
    have hy := hr.opnd y
    obtain ⟨p, v, k1, k2, k3, k4⟩ := binVal_run (w := w) (hE xT) h hx hy x y
    exact same v p k1 k4 (by simp only [execOp, hop, Sem.run_bind, k2, Result.andThen_ok, k3, Sem.run_pure])
  case unOp op xT x =>
    split at h
    · rename_i b hx
      have hp := hr.opnd x; rw [hx] at hp
      exact same (.bool !b) _ h (.imm _ _ (.bool _)) (by simp [execOp, hop, hp.bool_inv, Op.unary])
    · rename_i n hx
      have hp := hr.opnd x; rw [hx] at hp
      have : IntKind.i64.wrap (0 - n) = -n := by
        have := h.1
        unfold inI64 at this
        rw [Int.zero_sub]
        exact IntWalk.i64_in _ (by omega)
      exact same (.int .i64 (-n)) _ h.2 (.imm _ _ (.int _ _)) (by simp only [execOp, hop, hp.int_inv, Op.unary, Op.intArith, this]; simp)
    · exact h.elim
  case convert S D x =>
    split at h
    · rename_i k' k k'' n hS hD hx
      have hp := hr.opnd x; rw [hx] at hp
      have h1 := hE S; rw [hS] at h1
      have h2 := hE D; rw [hD] at h2
      exact same (.int k (k.wrap n)) _ h (.imm _ _ (.int _ _)) (by simp [execOp, hop, hp.int_inv, convert, run_underlying h1.1, run_underlying h2.1, Conv.intToInt])
    · exact h.elim
  case makeFunc fn as bs =>
    exact same (.func fn (as.toList.map a.eval).toArray (bs.toList.map a.eval).toArray) _ h (.fn _ _ _ _ _ (opnds_rep hr _) (opnds_rep hr _)) (by simp [execOp, hop, Instr.makeFunc]; constructor <;> (apply Array.toList_inj.1; simp))
  case extract t i =>
    split at h
    · rename_i cs hx
      have hp := hr.opnd t; rw [hx] at hp
      obtain ⟨vs, e1, e2⟩ := hp.tup_inv
      split at h
      · rename_i p hp'
        obtain ⟨v, hv, hrep⟩ := e2.get i p hp'
        exact same v _ h hrep (by simp [execOp, hop, e1, Instr.extract, hv])
      · exact h.elim
    · exact h.elim
  case fieldAddr S x f =>
    have hT := hE S
    cases hd : E S <;> simp only [hd] at h hT <;> try exact h.elim
    case struct fs z _ =>
      obtain ⟨fields, h1, h2, h3, _⟩ := hT
      split at h
      · rename_i off sz ag cs hf hx
        have hp := hr.opnd x; rw [hx] at hp
        obtain ⟨fd, f1, f2, f3, f4, ⟨j, f5, f6⟩, _⟩ := h3 _ _ _ _ hf
        obtain ⟨b, o, cells, T, fr, vs, hv, q1, q2, q3, q4⟩ := ptr_inv2 hp.ptr_inv
        refine same (.pointer (some ⟨b, o + off, none⟩)) _ h (.imm _ _ (.ptr _ b (o + off) cells T fr (vs.drop off) q1 (q2.drop off) (fun v hv => q3 v (List.mem_of_mem_drop hv)) (fun i v hv => ?_))) ?_
        · rw [List.getElem?_drop] at hv
          rw [Nat.add_assoc]; exact q4 _ _ hv
        · have : (fieldPlace ⟨b, o, none⟩ fd).run P w = .ok ⟨b, o + off, none⟩ w := by
            simp only [fieldPlace, Sem.run_bind, run_sizeOf' f5, Result.andThen_ok, f6]
            rw [if_neg (by omega)]
            simp only [Sem.run_pure, f2]
            congr 1
            unfold Addr.add
            split
            · rename_i h0; simp
            · rfl
          simp [execOp, hop, hv, Instr.fieldAt, run_underlying h1, f1, Instr.sureAddr, this]
      · rename_i off sz ag g sz' i fo hf hx
        have hp := hr.opnd x; rw [hx] at hp
        obtain ⟨b, n, c, e1, e2⟩ := hp.op_inv
        obtain ⟨fd, f1, f2, f3, f4, ⟨j, f5, f6⟩, _⟩ := h3 _ _ _ _ hf
        refine same (.pointer (some ⟨b, i * sz' + (fo + off), none⟩)) _ h (.op _ _ _ _ b n c e1) ?_
        have : (fieldPlace ⟨b, i * sz' + fo, none⟩ fd).run P w = .ok ⟨b, i * sz' + (fo + off), none⟩ w := by
          simp only [fieldPlace, Sem.run_bind, run_sizeOf' f5, Result.andThen_ok, f6]
          rw [if_neg (by omega)]
          simp only [Sem.run_pure, f2]
          congr 1
          unfold Addr.add
          split
          · rename_i h0; simp
          · simp [Nat.add_assoc]
        simp [execOp, hop, e2, Instr.fieldAt, run_underlying h1, f1, Instr.sureAddr, this]
      · exact h.elim
  case field T x f =>
    have hT := hE T
    split at h
    · rename_i fs z _ cs hd hx
      rw [hd] at hT
      obtain ⟨fields, h1, h2, h3, _⟩ := hT
      have hp := hr.opnd x; rw [hx] at hp
      obtain ⟨vs, e1, e2⟩ := hp.agg_inv
      split at h
      · rename_i off sz hf
        obtain ⟨fd, f1, f2, f3, f4, ⟨j, f5, f6⟩, f7, _⟩ := h3 _ _ _ _ hf
        refine same (.agg ((vs.drop off).take sz).toArray) _ h.2 (.agg _ _ ((e2.drop off).take sz)) ?_
        have : (part fd.type vs.toArray off).run P w = .ok (.agg ((vs.drop off).take sz).toArray) w := by
          simp only [part, Sem.run_bind, run_isAgg' f7, Result.andThen_ok, if_true, run_sizeOf' f5, f6, Sem.run_pure]
          congr 2
          apply Array.toList_inj.1
          simp
        simp [execOp, hop, e1, Instr.field, run_underlying h1, f1, asAgg, f2, this]
      · rename_i off sz hf
        split at h
        · rename_i p hp'
          obtain ⟨fd, f1, f2, f3, f4, ⟨j, f5, f6⟩, f7, _⟩ := h3 _ _ _ _ hf
          obtain ⟨v, hv, hrep⟩ := e2.get _ _ hp'
          refine same v _ h hrep ?_
          have : (part fd.type vs.toArray off).run P w = .ok v w := by
            simp [part, run_isAgg' f7, hv]
          simp [execOp, hop, e1, Instr.field, run_underlying h1, f1, asAgg, f2, this]
        · exact h.elim
      · exact h.elim
    · exact h.elim
  case slice T x lo hi mx =>
    cases mx with
    | some m => exact h.elim
    | none =>
      simp only at h
      have hT := hE T
      cases hd : E T <;> simp only [hd] at h hT <;> try exact h.elim
      case slice e esz eb z =>
        obtain ⟨t1, t2, t3, ⟨j, zv, t4, t5, t6, t7, t8⟩, t9, t10⟩ := hT
        have hb : ∀ (len cap : Nat) (l hh : Int), ((lo = none ∧ l = 0) ∨ ∃ y k, lo = some y ∧ a.eval y = .int k l) → ((hi = none ∧ hh = len) ∨ ∃ y k, hi = some y ∧ a.eval y = .int k hh) → 0 ≤ l → l ≤ hh → hh ≤ len → len ≤ cap →
            (Instr.sliceBounds true len cap (lo.map a.eval) (hi.map a.eval) none).run P w = .ok (l.toNat, hh.toNat, cap) w := by
          intro len cap l hh hl hh' h0 h1 h2 h3
          rcases hh' with ⟨rfl, rfl⟩ | ⟨y, k, rfl, hy⟩
          · rcases hl with ⟨rfl, rfl⟩ | ⟨y', k', rfl, hy'⟩
            · simp [Instr.sliceBounds]
            · simp [Instr.sliceBounds, hy', sliceBound_run k' l len _ h0 h1]
          · rcases hl with ⟨rfl, rfl⟩ | ⟨y', k', rfl, hy'⟩
            · simp [Instr.sliceBounds, hy, sliceBound_run k hh cap _ h1 (by omega)]
            · simp [Instr.sliceBounds, hy, hy', sliceBound_run k hh cap _ (by omega) (by omega), sliceBound_run k' l hh.toNat _ h0 (by omega)]
        split at h
        · rename_i sz es hx
          have hp := hr.opnd x; rw [hx] at hp
          split at h
          · exact h.elim
          · rename_i hsz
            have hsz : sz = esz := by simpa using hsz
            subst hsz
            obtain ⟨l, h, hl⟩ := bound_run hr h
            obtain ⟨hh, ⟨⟨b0, b1, b2⟩, hk⟩, hh'⟩ := bound_run hr h
            rcases sl_inv2 hp.sl_inv with ⟨ao, c, e1, e2⟩ | ⟨b, off, c, cells, T', fr, vs, e1, e2, e3, e4, e5, e6, e7, e8⟩
            · subst e2
              have b2' : hh ≤ ((0 : Nat) : Int) := by simpa using b2
              have hrun := hb 0 c l hh hl (by simpa using hh') b0 b1 b2' (Nat.zero_le _)
              have l0 : l = 0 := by omega
              have hh0 : hh = 0 := by omega
              subst l0; subst hh0
              refine same (.slice (if c = 0 then ao else ao.map (·.add (0 * sz))) 0 c) _ hk ?_ ?_
              · simp only [List.take_nil, List.drop_nil]
                exact .imm _ _ (.sl0 _ _ _)
              · simp [execOp, hop, e1, Instr.sliceAt, Instr.slice, run_underlying t1, hrun, run_sizeOf' t4, t5]
            · have hrun := hb es.length c l hh hl hh' b0 b1 b2 e3
              have hlen : ((es.take hh.toNat).drop l.toNat).length = hh.toNat - l.toNat := by simp; omega
              refine same (.slice (if c = l.toNat then some ⟨b, off, none⟩ else (some (⟨b, off, none⟩ : Addr)).map (·.add (l.toNat * sz))) (hh.toNat - l.toNat) (c - l.toNat)) _ hk ?_ ?_
              · by_cases hemp : (es.take hh.toNat).drop l.toNat = []
                · rw [hemp] at hlen ⊢
                  rw [← hlen]
                  exact .imm _ _ (.sl0 _ _ _)
                · have hne : hh.toNat - l.toNat ≠ 0 := fun h0 => hemp (List.eq_nil_of_length_eq_zero (hlen.trans h0))
                  have hc : c ≠ l.toNat := by omega
                  rw [if_neg hc, ← hlen]
                  have hadd : (⟨b, off, none⟩ : Addr).add (l.toNat * sz) = ⟨b, off + l.toNat * sz, none⟩ := by
                    unfold Addr.add
                    split
                    · rename_i h0; simp
                    · rfl
                  rw [Option.map_some, hadd]
                  have hfl : ∀ (n : Nat) (es : List (List PV)), (∀ e ∈ es, e.length = sz) → (es.take n).flatten = es.flatten.take (n * sz) ∧ (es.drop n).flatten = es.flatten.drop (n * sz) := by
                    intro n
                    induction n with
                    | zero => intro es _; simp
                    | succ n ih =>
                      intro es he
                      cases es with
                      | nil => simp
                      | cons e es =>
                        have hle := he e (by simp)
                        obtain ⟨i1, i2⟩ := ih es (fun e h => he e (by simp [h]))
                        constructor
                        · rw [List.take_succ_cons, List.flatten_cons, List.flatten_cons, i1, List.take_append, List.take_of_length_le (l := e) (by rw [hle, Nat.succ_mul]; omega), hle, Nat.succ_mul, Nat.add_sub_cancel]
                        · rw [List.drop_succ_cons, List.flatten_cons, i2, List.drop_append, List.drop_eq_nil_of_le (as := e) (by rw [hle, Nat.succ_mul]; omega), List.nil_append, hle, Nat.succ_mul, Nat.add_sub_cancel]
                  have htk : ∀ e ∈ es.take hh.toNat, e.length = sz := fun e he => e5 e (List.mem_of_mem_take he)
                  refine .imm _ _ (.sl sz _ b (off + l.toNat * sz) (c - l.toNat) cells T' fr ((vs.take (hh.toNat * sz)).drop (l.toNat * sz)) e2 (by rw [hlen]; omega) e4 (fun e he => htk e (List.mem_of_mem_drop he)) ?_
                    (fun v hv => e7 v (List.mem_of_mem_take (List.mem_of_mem_drop hv))) ?_)
                  · rw [(hfl _ _ htk).2, (hfl _ _ e5).1]
                    exact (e6.take _).drop _
                  · intro i v hv
                    rw [List.getElem?_drop, List.getElem?_take] at hv
                    split at hv
                    · rw [Nat.add_assoc]; exact e8 _ _ hv
                    · cases hv
              · simp [execOp, hop, e1, Instr.sliceAt, Instr.slice, run_underlying t1, hrun, run_sizeOf' t4, t5]
        · rename_i hx
          have hp := hr.opnd x; rw [hx] at hp
          obtain ⟨l, h, hl⟩ := bound_run hr h
          obtain ⟨hh, ⟨⟨b0, b1⟩, hk⟩, hh'⟩ := bound_run hr h
          subst b0; subst b1
          have hrun := hb 0 0 0 0 hl (by simpa using hh') (by omega) (by omega) (by simp) (Nat.le_refl _)
          exact same (.slice none 0 0) _ hk (.imm _ _ .nilsl) (by simp [execOp, hop, hp.nilsl_inv, Instr.sliceAt, Instr.slice, run_underlying t1, hrun, run_sizeOf' t4, t5])
        · exact h.elim
  case indexAddr T x i =>
    have hT := hE T
    split at h
    · rename_i e esz eb z sz es k n hd hx hi
      rw [hd] at hT
      obtain ⟨t1, t2, t3, ⟨j, zv, t4, t5, t6, t7, t8⟩, t9, t10⟩ := hT
      split at h
      · rename_i hsz
        subst hsz
        obtain ⟨c, h1, h2, hk⟩ := h
        have hp := hr.opnd x; rw [hx] at hp
        have hi' := hr.opnd i; rw [hi] at hi'
        have hlt : n.toNat < es.length := (List.getElem?_eq_some_iff.1 h1).1
        rcases sl_inv2 hp.sl_inv with ⟨ao, c', e1, e2⟩ | ⟨b, off, c', cells, T', fr, vs, e1, e2, e3, e4, e5, e6, e7, e8⟩
        · subst e2; simp at hlt
        · obtain ⟨f1, f2⟩ := flatten_get e5 h1
          have hadd : (⟨b, off, none⟩ : Addr).add (n.toNat * sz) = ⟨b, off + n.toNat * sz, none⟩ := by
            unfold Addr.add
            split
            · rename_i h0; simp
            · rfl
          refine same (.pointer (some ⟨b, off + n.toNat * sz, none⟩)) _ hk (.imm _ _ (.ptr c b (off + n.toNat * sz) cells T' fr ((vs.drop (n.toNat * sz)).take sz) e2 ?_ (fun v hv => e7 v (List.mem_of_mem_drop (List.mem_of_mem_take hv))) ?_)) ?_
          · rw [← f1]; exact (e6.drop _).take _
          · intro i v hv
            rw [List.getElem?_take] at hv
            split at hv
            · rw [List.getElem?_drop] at hv
              rw [Nat.add_assoc]; exact e8 _ _ hv
            · cases hv
          · have : n < (es.length : Int) := by omega
            simp [execOp, hop, e1, hi'.int_inv, Instr.indexAt, asIntOf, run_underlying t1, h2, this, run_sizeOf' t4, t5, hadd]
      · exact h.elim
    · rename_i e esz eb z g k n hd hx hi
      rw [hd] at hT
      obtain ⟨t1, t2, t3, ⟨j, zv, t4, t5, t6, t7, t8⟩, t9, t10⟩ := hT
      have hp := hr.opnd x; rw [hx] at hp
      have hi' := hr.opnd i; rw [hi] at hi'
      split at h
      · rename_i ob hg
        split at h
        · rename_i hsz
          obtain ⟨⟨h1, h2⟩, hk⟩ := h
          obtain ⟨xs, q1, _⟩ := hr.inv.own g ob hg
          rcases q1.2 with ⟨_, e2⟩ | ⟨b, cap, cur, e1, _⟩
          · rw [e2] at h2; omega
          · have hadd : (⟨b, 0, none⟩ : Addr).add (n.toNat * esz) = ⟨b, n.toNat * esz, none⟩ := by
              unfold Addr.add
              split
              · rename_i h0; simp
              · simp
            refine same (.pointer (some ⟨b, n.toNat * ob.sz + 0, none⟩)) _ hk (.op _ _ _ _ b _ _ e1) ?_
            simp [execOp, hop, hp.os_inv, e1, hi'.int_inv, Instr.indexAt, asIntOf, run_underlying t1, h1, h2, run_sizeOf' t4, t5, hadd, hsz]
        · exact h.elim
      · exact h.elim
    · rename_i len esz ag z cs k n hd hx hi
      rw [hd] at hT
      obtain ⟨e, t1, t2, ⟨j, t3, t4⟩, _⟩ := hT
      obtain ⟨⟨h1, h2⟩, hk⟩ := h
      have hp := hr.opnd x; rw [hx] at hp
      have hi' := hr.opnd i; rw [hi] at hi'
      obtain ⟨b, off, cells, T', fr, vs, hv, q1, q2, q3, q4⟩ := ptr_inv2 hp.ptr_inv
      have hadd : (⟨b, off, none⟩ : Addr).add (n.toNat * esz) = ⟨b, off + n.toNat * esz, none⟩ := by
        unfold Addr.add
        split
        · rename_i h0; simp
        · rfl
      refine same (.pointer (some ⟨b, off + n.toNat * esz, none⟩)) _ hk (.imm _ _ (.ptr _ b (off + n.toNat * esz) cells T' fr (vs.drop (n.toNat * esz)) q1 (q2.drop _) (fun v hv => q3 v (List.mem_of_mem_drop hv)) (fun i v hv => ?_))) ?_
      · rw [List.getElem?_drop] at hv
        rw [Nat.add_assoc]; exact q4 _ _ hv
      · simp [execOp, hop, hv, hi'.int_inv, Instr.indexAt, asIntOf, run_underlying t1, Instr.sureAddr, h1, h2, run_sizeOf' t3, t4, hadd]
    · rename_i len esz ag z g sz jj f k n hd hx hi
      rw [hd] at hT
      obtain ⟨e, t1, t2, ⟨j, t3, t4⟩, _⟩ := hT
      obtain ⟨⟨h1, h2⟩, hk⟩ := h
      have hp := hr.opnd x; rw [hx] at hp
      have hi' := hr.opnd i; rw [hi] at hi'
      obtain ⟨b, nn, c, e1, e2⟩ := hp.op_inv
      have hadd : (⟨b, jj * sz + f, none⟩ : Addr).add (n.toNat * esz) = ⟨b, jj * sz + (f + n.toNat * esz), none⟩ := by
        unfold Addr.add
        split
        · rename_i h0; simp
        · simp [Nat.add_assoc]
      refine same (.pointer (some ⟨b, jj * sz + (f + n.toNat * esz), none⟩)) _ hk (.op _ _ _ _ b nn c e1) ?_
      simp [execOp, hop, e2, hi'.int_inv, Instr.indexAt, asIntOf, run_underlying t1, Instr.sureAddr, h1, h2, run_sizeOf' t3, t4, hadd]
    · exact h.elim
  case index T x i =>
    have hT := hE T
    split at h
    · rename_i len esz ag z cs k n hd hx hi
      rw [hd] at hT
      obtain ⟨e, t1, t2, ⟨j, t3, t4⟩, _, _, t5⟩ := hT
      obtain ⟨⟨h1, h2⟩, hk⟩ := h
      have hp := hr.opnd x; rw [hx] at hp
      have hi' := hr.opnd i; rw [hi] at hi'
      obtain ⟨vs, e1, e2⟩ := hp.agg_inv
      split at hk
      · refine same (.agg ((vs.drop (n.toNat * esz)).take esz).toArray) _ hk.2 (.agg _ _ ((e2.drop _).take esz)) ?_
        have : (part e vs.toArray (n.toNat * esz)).run P w = .ok (.agg ((vs.drop (n.toNat * esz)).take esz).toArray) w := by
          simp only [part, Sem.run_bind, run_isAgg' t2, Result.andThen_ok, if_true, run_sizeOf' t3, t4, Sem.run_pure]
          congr 2
          apply Array.toList_inj.1
          simp
        simp [execOp, hop, e1, hi'.int_inv, Instr.index, asIntOf, run_underlying t1, h1, h2, run_sizeOf' t3, t4, this]
      · obtain ⟨p, hp', hk⟩ := hk
        obtain ⟨v, hv, hrep⟩ := e2.get _ _ hp'
        refine same v _ hk hrep ?_
        have : (part e vs.toArray (n.toNat * esz)).run P w = .ok v w := by
          simp [part, run_isAgg' t2, hv]
        simp [execOp, hop, e1, hi'.int_inv, Instr.index, asIntOf, run_underlying t1, h1, h2, run_sizeOf' t3, t4, this]
    · exact h.elim
  case call c =>
    cases hcal : c.callee with
    | invoke r n => simp only [hcal] at h
    | value f =>
      simp only [hcal] at h
      split at h
      · rename_i g first caps hf
        have hp := hr.opnd f; rw [hf] at hp
        obtain ⟨va, vb, e1, e2, e3⟩ := hp.fn_inv
        have hargs := (e2.append (opnds_rep hr c.args.toList)).append e3
        obtain ⟨h1, h2⟩ := callV_wp hC h hr.inv hargs
        have hrun : (execOp a.eval o).run P w = .ok (.enter g (va ++ c.args.toList.map a.eval ++ vb).toArray) w := by
          have : (execOp a.eval o).run P w = (callFunc g (va.toArray ++ c.args.map a.eval ++ vb.toArray)).run P w := by
            simp [execOp, hop, resolve, hcal, e1, Deferred.ofValue, invoke]
          rw [this, h1]
          congr 2
          apply Array.toList_inj.1
          simp
        refine wpIn_of_sem (by intro d; simp) hrun ⟨fun h => (by cases h), (callsIn_of_calls h2).mono ?_⟩
        rintro e w' ⟨M', v, p, rfl, k1, k2, k3, k4⟩
        exact hn v p M' w' k1 k2 k3 k4
      · exact h.elim
    | builtin b =>
      cases b <;> simp only [hcal] at h <;> try exact h.elim
      case len =>
        split at h
        · rename_i x T hargs hty
          have hx := hr.opnd x
          have hrun : ∀ (n : Nat) (v : Value), v = a.eval x → (Builtin.len_ c.argTypes o.type #[v]).run P w = .ok (.int .i64 n) w → (execOp a.eval o).run P w = .ok (.value (.int .i64 n)) w := by
            intro n v hv h1
            subst hv
            have : c.args.map a.eval = #[a.eval x] := by
              apply Array.toList_inj.1
              simp [hargs]
            simp only [execOp, hop, resolve, hcal, Sem.run_bind, Sem.run_pure, Result.andThen_ok, invoke, builtin, this, h1]
          have hT := hE T
          have h0 : c.argTypes[0]? = some T := by
            have : c.argTypes = #[T] := Array.toList_inj.1 (by simp [hty])
            rw [this]; rfl
          split at h
          · rename_i e esz eb z hd
            rw [hd] at hT
            have hu := hT.1
            unfold lenVal at h
            split at h
            · rename_i es hxx
              rw [hxx] at hx
              rcases sl_inv2 hx.sl_inv with ⟨ao, c', e1, e2⟩ | ⟨b, off, c', cells, T', fr, vs, e1, _⟩
              · subst e2
                exact same _ _ h (.imm _ _ (.int _ _)) (hrun 0 _ rfl (by simp [Builtin.len_, h0, e1, run_underlying hu, goInt]))
              · exact same _ _ h (.imm _ _ (.int _ _)) (hrun es.length _ rfl (by simp [Builtin.len_, h0, e1, run_underlying hu, goInt]))
            · rename_i hxx
              rw [hxx] at hx
              exact same _ _ h (.imm _ _ (.int _ _)) (hrun 0 _ rfl (by simp [Builtin.len_, h0, hx.nilsl_inv, run_underlying hu, goInt]))
            · rename_i g hxx
              rw [hxx] at hx
              split at h
              · rename_i ob hg
                obtain ⟨xs, q1, _⟩ := hr.inv.own g ob hg
                rcases q1.2 with ⟨e1, e2⟩ | ⟨b, cap, cur, e1, _⟩
                · refine same _ _ h (.imm _ _ (.int _ _)) (hrun ob.es.length _ rfl ?_)
                  rw [hx.os_inv, e1, e2]
                  simp [Builtin.len_, h0, run_underlying hu, goInt]
                · refine same _ _ h (.imm _ _ (.int _ _)) (hrun ob.es.length _ rfl ?_)
                  rw [hx.os_inv, e1]
                  simp [Builtin.len_, h0, run_underlying hu, goInt]
              · exact h.elim
            · exact h.elim
          · rename_i hd
            rw [hd] at hT
            have hu := hT.1
            split at h
            · rename_i b hxx
              rw [hxx] at hx
              exact same _ _ h (.imm _ _ (.int _ _)) (hrun b.size _ rfl (by simp [Builtin.len_, h0, hx.str_inv, run_underlying hu, goInt]))
            · exact h.elim
          · exact h.elim
        · exact h.elim
      case min =>
        split at h
        · rename_i x y hargs
          split at h
          · rename_i k a1 k' b1 hx' hy'
            have hx := hr.opnd x; rw [hx'] at hx
            have hy := hr.opnd y; rw [hy'] at hy
            obtain ⟨rfl, hk⟩ := h
            refine same (.int k (if b1 < a1 then b1 else a1)) _ hk (.imm _ _ (.int _ _)) ?_
            have : c.args.map a.eval = #[a.eval x, a.eval y] := by
              apply Array.toList_inj.1
              simp [hargs]
            simp [execOp, hop, resolve, hcal, invoke, builtin, this, Builtin.min_, hx.int_inv, hy.int_inv, Builtin.min2]
          · exact h.elim
        · exact h.elim
end
end Go.Proofs.Ytbliiejdmgnkgaa.Pv
