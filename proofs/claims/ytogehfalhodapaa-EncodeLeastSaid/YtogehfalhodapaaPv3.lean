/-
  The layer of values: what an evaluator says of a function holds of every run of it. For every program of the model that meets the named conditions.
-/
import Derived.Test.YtogehfalhodapaaPv2
import Derived.OpenShut
namespace Go.Proofs.Ytogehfalhodapaa.Pv
open Go Go.RowKit Go.ChangeShapes
set_option linter.unusedSimpArgs false
set_option linter.unusedVariables false

/-- the shape of a type that a law's argument may have -/
inductive Sh where
  | int (k : IntKind) | bool | str | slice (e : Sh) | struct (fs : List Sh) | arr (n : Nat) (e : Sh)

mutual
def Sh.size : Sh → Nat
  | .int _ => 1
  | .bool => 1
  | .str => 1
  | .slice _ => 1
  | .struct fs => Sh.sizes fs
  | .arr n e => n * Sh.size e
def Sh.sizes : List Sh → Nat
  | [] => 0
  | s :: r => Sh.size s + Sh.sizes r
end

mutual
/-- the cells of a value of a shape -/
def Fits : Sh → List PV → Prop
  | .int k, cs => ∃ n, cs = [.int k n] ∧ (Lit.int k n).wf = true
  | .bool, cs => ∃ b, cs = [.bool b]
  | .str, cs => ∃ s, cs = [.str s] ∧ s.size ≤ maxLen
  | .slice e, cs => ∃ es : List (List PV), cs = [.sl (Sh.size e) es] ∧ es.length ≤ maxLen ∧ ∀ c ∈ es, Fits e c
  | .struct fs, cs => FitsL fs cs
  | .arr n e, cs => ∃ es : List (List PV), cs = es.flatten ∧ es.length = n ∧ ∀ c ∈ es, Fits e c
def FitsL : List Sh → List PV → Prop
  | [], cs => cs = []
  | s :: r, cs => ∃ c d, cs = c ++ d ∧ Fits s c ∧ FitsL r d
end

mutual
def shOk (P : Program) : Sh → TypeId → Bool
  | .int k, t => (match P.underlying t with | some (.int k') => decide (k = k') | _ => false) && P.cellsOf t == 1
  | .bool, t => (match P.underlying t with | some .bool => true | _ => false) && P.cellsOf t == 1
  | .str, t => (match P.underlying t with | some .string => true | _ => false) && P.cellsOf t == 1
  | .slice e, t => (match P.underlying t with | some (.slice u) => shOk P e u && decide (0 < Sh.size e) | _ => false) && P.cellsOf t == 1
  | .struct fs, t => (match P.underlying t with | some (.struct fields) => shOks P fs 0 fields.toList | _ => false) && P.cellsOf t == Sh.sizes fs
  | .arr n e, t => (match P.underlying t with | some (.array m u) => decide (m = n) && shOk P e u | _ => false) && P.cellsOf t == n * Sh.size e
def shOks (P : Program) : List Sh → Nat → List Field → Bool
  | [], _, [] => true
  | s :: r, off, f :: fl => f.offset == off && shOk P s f.type && shOks P r (off + Sh.size s) fl
  | _, _, _ => false
end

theorem shOk_size {P : Program} {s : Sh} {t : TypeId} (h : shOk P s t = true) : P.cellsOf t = Sh.size s := by
  cases s <;> simp only [shOk, Bool.and_eq_true, beq_iff_eq] at h <;> simp only [Sh.size] <;> exact h.2

theorem gather {α β : Type} (Q : Nat → α → β → Prop) : ∀ n, (∀ i, i < n → ∃ c q, Q i c q) → ∃ (cs : List α) (qs : List β), cs.length = n ∧ qs.length = n ∧ ∀ i, i < n → ∃ c q, cs[i]? = some c ∧ qs[i]? = some q ∧ Q i c q
  | 0, _ => ⟨[], [], rfl, rfl, fun i h => by omega⟩
  | n + 1, h => by
    obtain ⟨cs, qs, h1, h2, h3⟩ := gather Q n (fun i hi => h i (by omega))
    obtain ⟨c, q, hq⟩ := h n (by omega)
    refine ⟨cs ++ [c], qs ++ [q], by simp [h1], by simp [h2], fun i hi => ?_⟩
    by_cases e : i = n
    · subst e
      exact ⟨c, q, by simp [← h1], by simp [← h2], hq⟩
    · obtain ⟨c', q', k1, k2, k3⟩ := h3 i (by omega)
      exact ⟨c', q', by rw [List.getElem?_append_left (by omega)]; exact k1, by rw [List.getElem?_append_left (by omega)]; exact k2, k3⟩

theorem rep_flatten {M : Mem} : ∀ {qs : List (List PV)} {cs : List (List Value)}, qs.length = cs.length → (∀ i, i < cs.length → ∃ c q, cs[i]? = some c ∧ qs[i]? = some q ∧ RepIs M q c) → RepIs M qs.flatten cs.flatten
  | [], [], _, _ => .nil
  | q :: qs, c :: cs, hl, h => by
    obtain ⟨c', q', k1, k2, k3⟩ := h 0 (by simp)
    simp at k1 k2
    subst k1; subst k2
    exact k3.append (rep_flatten (by simpa using hl) fun i hi => by
      obtain ⟨c', q', k1, k2, k3⟩ := h (i + 1) (by simpa using hi)
      exact ⟨c', q', by simpa using k1, by simpa using k2, k3⟩)
  | [], _ :: _, hl, _ => by simp at hl
  | _ :: _, [], hl, _ => by simp at hl

theorem flat_cells {cells : Array Value} {z : Nat} : ∀ (cs : List (List Value)) (off : Nat), (∀ i c, cs[i]? = some c → c.length = z ∧ ∀ j v, c[j]? = some v → cells[off + i * z + j]? = some v) →
    ∀ k v, cs.flatten[k]? = some v → cells[off + k]? = some v
  | [], off, h, k, v, hk => by simp at hk
  | c :: cs, off, h, k, v, hk => by
    obtain ⟨h1, h2⟩ := h 0 c (by simp)
    rw [List.flatten_cons, List.getElem?_append] at hk
    split at hk
    · have := h2 k v hk
      simpa using this
    · have := flat_cells cs (off + z) (fun i c' hi => by
        obtain ⟨g1, g2⟩ := h (i + 1) c' (by simpa using hi)
        refine ⟨g1, fun j v hj => ?_⟩
        have := g2 j v hj
        rw [Nat.succ_mul] at this
        rw [show off + z + i * z + j = off + (i * z + z) + j by omega]
        exact this) (k - c.length) v hk
      rw [show off + k = off + z + (k - c.length) by omega]
      exact this

section
variable {H : Type} {enc : TypeId × Value → H} {P : Program} {W : World} {base : Nat} {sp : Nat → Bool} {held : Bool}

theorem cells_get {a : Addr} {n : Nat} {c : List Value} (h : W.cells? base a n = some c) : c.length = n ∧ ∀ j v, c[j]? = some v → W.cell? (a.add j) = some v := by
  unfold World.cells? at h
  split at h
  · have hl := mapM_some_length h
    refine ⟨by simpa using hl, fun j v hv => ?_⟩
    have hj : j < n := by
      have := (List.getElem?_eq_some_iff.1 hv).1
      simp at hl; omega
    have := mapM_some_get h j j (by simp [hj])
    rw [this]; exact hv
  · cases h

def Dec (P : Program) (enc : TypeId × Value → H) (W : World) (base : Nat) (sp : Nat → Bool) (held : Bool) (n : Nat) : Prop :=
  ∀ (s : Sh) (t : TypeId) (cs : List Value) (x : DataW H × List MemPlace), shOk P s t = true → DataW.trod enc P W base sp held n t cs = some x →
    ∃ qs, RepIs (fun b => W.heap[b]?) qs cs ∧ Fits s qs ∧ cs.length = Sh.size s ∧ ∀ v ∈ cs, v.oneCell' = true

theorem dec_fields {n : Nat} (ih : Dec P enc W base sp held n) (cs : List Value) : ∀ (fs : List Sh) (off : Nat) (fl : List Field), shOks P fs off fl = true → off + Sh.sizes fs = cs.length →
    (∀ (i : Nat) (f : Field), fl[i]? = some f → ∃ x, DataW.trod enc P W base sp held n f.type ((cs.drop f.offset).take (P.cellsOf f.type)) = some x) →
    ∃ qs, RepIs (fun b => W.heap[b]?) qs (cs.drop off) ∧ FitsL fs qs ∧ ∀ v ∈ cs.drop off, v.oneCell' = true
  | [], off, [], _, hl, _ => by
    have : cs.drop off = [] := List.drop_eq_nil_of_le (by simp [Sh.sizes] at hl; omega)
    rw [this]
    exact ⟨[], .nil, by simp [FitsL], by simp⟩
  | [], _, _ :: _, h, _, _ => by simp [shOks] at h
  | _ :: _, _, [], h, _, _ => by simp [shOks] at h
  | s :: fs, off, f :: fl, h, hl, hx => by
    simp only [shOks, Bool.and_eq_true, beq_iff_eq] at h
    obtain ⟨⟨h1, h2⟩, h3⟩ := h
    obtain ⟨x, hx0⟩ := hx 0 f rfl
    rw [shOk_size h2, h1] at hx0
    obtain ⟨q, k1, k2, k3, k4⟩ := ih s f.type _ x h2 hx0
    simp only [Sh.sizes] at hl
    obtain ⟨qs, g1, g2, g3⟩ := dec_fields ih cs fs (off + Sh.size s) fl h3 (by omega) (fun i f' hf => hx (i + 1) f' (by simpa using hf))
    have hs : cs.drop off = (cs.drop off).take (Sh.size s) ++ cs.drop (off + Sh.size s) := by
      rw [← List.drop_drop]; exact (List.take_append_drop _ _).symm
    refine ⟨q ++ qs, ?_, ⟨q, qs, rfl, k2, g2⟩, ?_⟩
    · rw [hs]; exact k1.append g1
    · rw [hs]; intro v hv
      rcases List.mem_append.1 hv with hv | hv
      · exact k4 v hv
      · exact g3 v hv

theorem arr_split {z : Nat} : ∀ (m : Nat) (cs : List Value), cs.length = m * z → cs = ((List.range m).map fun i => (cs.drop (i * z)).take z).flatten
  | 0, cs, h => by simp at h; simp [h]
  | m + 1, cs, h => by
    have ih := arr_split (z := z) m (cs.drop z) (by simp [h, Nat.succ_mul])
    rw [List.range_succ_eq_map, List.map_cons, List.flatten_cons, List.map_map]
    conv => lhs; rw [← List.take_append_drop z cs]
    simp only [Nat.zero_mul, List.drop_zero]
    congr 1
    rw [ih]
    congr 1
    refine List.map_congr_left fun i _ => ?_
    simp only [List.drop_drop, Function.comp]
    rw [Nat.succ_mul, Nat.add_comm]

theorem dec_all : ∀ n, Dec P enc W base sp held n
  | 0 => fun s t cs x _ h => by simp [DataW.trod] at h
  | n + 1 => by
    intro s t cs x hs h
    have ih := dec_all n
    have hsz := shOk_size hs
    cases s with
    | int k =>
      simp only [shOk, Bool.and_eq_true] at hs
      obtain ⟨h1, _⟩ := hs
      split at h1
      · rename_i k' hu
        have : k = k' := by simpa using h1
        subst this
        obtain ⟨m, rfl, _, hw⟩ := DataW.trod_int hu h
        exact ⟨[.int k m], .cons _ _ _ _ (.int _ _) .nil, ⟨m, rfl, hw⟩, rfl, by simp [Value.oneCell']⟩
      · cases h1
    | bool =>
      simp only [shOk, Bool.and_eq_true] at hs
      obtain ⟨h1, _⟩ := hs
      split at h1
      · rename_i hu
        obtain ⟨m, rfl, _⟩ := DataW.trod_bool hu h
        exact ⟨[.bool m], .cons _ _ _ _ (.bool _) .nil, ⟨m, rfl⟩, rfl, by simp [Value.oneCell']⟩
      · cases h1
    | str =>
      simp only [shOk, Bool.and_eq_true] at hs
      obtain ⟨h1, _⟩ := hs
      split at h1
      · rename_i hu
        obtain ⟨m, rfl, _, hw⟩ := DataW.trod_string hu h
        exact ⟨[.str m], .cons _ _ _ _ (.str _) .nil, ⟨m, rfl, hw⟩, rfl, by simp [Value.oneCell']⟩
      · cases h1
    | struct fs =>
      simp only [shOk, Bool.and_eq_true] at hs
      obtain ⟨h1, _⟩ := hs
      split at h1
      · rename_i fields hu
        obtain ⟨xs, m, hm, _, hl, hxl, hx⟩ := DataW.trod_struct hu h
        obtain rfl : n = m := by omega
        obtain ⟨qs, g1, g2, g3⟩ := dec_fields ih cs fs 0 fields.toList h1 (by rw [hl, hsz]; simp [Sh.size]) (fun i f hf => by
          have hf' : fields[i]? = some f := by simpa using hf
          have hi : i < xs.length := by rw [hxl]; exact (Array.getElem?_eq_some_iff.1 hf').1
          exact ⟨xs[i], by rw [hx i f hf']; simp [hi]⟩)
        rw [List.drop_zero] at g1 g3
        exact ⟨qs, g1, by simpa only [Fits] using g2, by rw [hl, hsz], g3⟩
      · cases h1
    | arr m e =>
      simp only [shOk, Bool.and_eq_true] at hs
      obtain ⟨h1, _⟩ := hs
      split at h1
      · rename_i m' u hu
        simp only [Bool.and_eq_true, decide_eq_true_eq] at h1
        obtain ⟨rfl, h1⟩ := h1
        obtain ⟨xs, k, hk, _, hl, hxl, hx⟩ := DataW.trod_array hu h
        obtain rfl : n = k := by omega
        rw [shOk_size h1] at hx
        obtain ⟨_, qs, _, q2, q3⟩ := gather (fun i (_ : Unit) q => RepIs (fun b => W.heap[b]?) q ((cs.drop (i * Sh.size e)).take (Sh.size e)) ∧ Fits e q ∧ ∀ v ∈ (cs.drop (i * Sh.size e)).take (Sh.size e), v.oneCell' = true) m' (fun i hi => by
          have hi' : i < xs.length := by omega
          obtain ⟨q, k1, k2, _, k4⟩ := ih e u _ xs[i] h1 (by rw [hx i hi]; simp [hi'])
          exact ⟨(), q, k1, k2, k4⟩)
        have hcl : cs.length = m' * Sh.size e := by rw [hl, hsz]; simp [Sh.size]
        have hsplit := arr_split m' cs hcl
        refine ⟨qs.flatten, ?_, ⟨qs, rfl, q2, ?_⟩, by rw [hl, hsz], ?_⟩
        · rw [hsplit]
          refine rep_flatten (by simp [q2]) fun i hi => ?_
          simp at hi
          obtain ⟨_, q, _, e2, e3, _⟩ := q3 i hi
          exact ⟨_, q, by simp [hi], e2, e3⟩
        · intro c hc
          obtain ⟨i, hi⟩ := List.getElem?_of_mem hc
          have := (List.getElem?_eq_some_iff.1 hi).1
          obtain ⟨_, q, _, e2, _, e4, _⟩ := q3 i (by omega)
          rw [hi] at e2; cases e2; exact e4
        · intro v hv
          rw [hsplit] at hv
          obtain ⟨l, hl1, hl2⟩ := List.mem_flatten.1 hv
          obtain ⟨i, hi, rfl⟩ := List.mem_map.1 hl1
          obtain ⟨_, q, _, _, _, _, e5⟩ := q3 i (by simpa using hi)
          exact e5 v hl2
      · cases h1
    | slice e =>
      simp only [shOk, Bool.and_eq_true] at hs
      obtain ⟨h1, _⟩ := hs
      split at h1
      · rename_i u hu
        simp only [Bool.and_eq_true, decide_eq_true_eq] at h1
        obtain ⟨h1, hz⟩ := h1
        rcases DataW.trod_slice hu h with ⟨rfl, _⟩ | ⟨a, len, cap, elems, rest, k, hk, rfl, _, _, hlc, hcm, hlen, hel, _, _⟩
        · exact ⟨[.sl (Sh.size e) []], .cons _ _ _ _ (.sl0 _ _ _) .nil, ⟨[], rfl, by simp, by simp⟩, rfl, by simp [Value.oneCell']⟩
        · obtain rfl : n = k := by omega
          rw [shOk_size h1] at hel
          obtain ⟨cells, qs, c1, q2, q3⟩ := gather (fun i c q => RepIs (fun b => W.heap[b]?) q c ∧ Fits e q ∧ (∀ v ∈ c, v.oneCell' = true) ∧ c.length = Sh.size e ∧ ∀ j v, c[j]? = some v → W.cell? ((a.add (i * Sh.size e)).add j) = some v) len (fun i hi => by
            have hi' : i < elems.length := by omega
            have := hel i hi
            rw [List.getElem?_eq_getElem hi'] at this
            obtain ⟨c, hc, hc2⟩ := Option.bind_eq_some_iff.1 this
            obtain ⟨g1, g2⟩ := cells_get hc
            obtain ⟨q, k1, k2, _, k4⟩ := ih e u c elems[i] h1 hc2
            exact ⟨c, q, k1, k2, k4, g1, g2⟩)
          have hfit : ∀ c ∈ qs, Fits e c := by
            intro c hc
            obtain ⟨i, hi⟩ := List.getElem?_of_mem hc
            have := (List.getElem?_eq_some_iff.1 hi).1
            obtain ⟨_, q, _, e2, _, e4, _⟩ := q3 i (by omega)
            rw [hi] at e2; cases e2; exact e4
          refine ⟨[.sl (Sh.size e) qs], .cons _ _ _ _ ?_ .nil, ⟨qs, rfl, by omega, hfit⟩, rfl, by simp [Value.oneCell']⟩
          by_cases h0 : len = 0
          · subst h0
            have : qs = [] := List.eq_nil_of_length_eq_zero q2
            subst this
            exact .sl0 _ _ _
          · obtain ⟨c0, q0, e1, _, _, _, _, hc0, hcell⟩ := q3 0 (by omega)
            have hv0 : ∃ v, c0[0]? = some v := ⟨c0[0], by simp [hc0, hz]⟩
            obtain ⟨v0, hv0⟩ := hv0
            have hc := hcell 0 v0 hv0
            simp only [Nat.zero_mul, Addr.add, if_true] at hc
            obtain ⟨b, off, spot⟩ := a
            have hblock : ∃ cl T fr, W.heap[b]? = some (.cells cl T fr) ∧ spot = none := by
              unfold World.cell? at hc
              split at hc
              · rename_i cl T fr hh
                split at hc
                · cases hc
                · rename_i hsn
                  exact ⟨cl, T, fr, hh, by simpa using hsn⟩
              · cases hc
            obtain ⟨cl, T, fr, hh, rfl⟩ := hblock
            rw [← q2]
            refine .sl _ qs b off cap cl T fr cells.flatten hh (by omega) hz ?_ ?_ ?_ ?_
            · intro q hq
              obtain ⟨i, hi⟩ := List.getElem?_of_mem hq
              have := (List.getElem?_eq_some_iff.1 hi).1
              obtain ⟨c, q', _, e2, e3, _, _, e6, _⟩ := q3 i (by omega)
              rw [hi] at e2; cases e2
              rw [e3.length, e6]
            · exact rep_flatten (by omega) fun i hi => by
                obtain ⟨c, q', e1, e2, e3, _⟩ := q3 i (by omega)
                exact ⟨c, q', e1, e2, e3⟩
            · intro v hv
              obtain ⟨l, hl1, hl2⟩ := List.mem_flatten.1 hv
              obtain ⟨i, hi⟩ := List.getElem?_of_mem hl1
              have := (List.getElem?_eq_some_iff.1 hi).1
              obtain ⟨c, q', e1, _, _, _, e5, _⟩ := q3 i (by omega)
              rw [hi] at e1; cases e1
              exact e5 v hl2
            · refine flat_cells (z := Sh.size e) cells off fun i c hi => ?_
              have hlt := (List.getElem?_eq_some_iff.1 hi).1
              obtain ⟨c', q', e1, _, _, _, _, e6, e7⟩ := q3 i (by omega)
              rw [hi] at e1; cases e1
              refine ⟨e6, fun j v hj => ?_⟩
              have := e7 j v hj
              have key : ∀ (d : Addr), d.block = b → d.spot = none → W.cell? d = some v → cl[d.off]? = some v := by
                intro d hd hs hcd
                unfold World.cell? at hcd
                rw [hd, hh] at hcd
                simpa [hs] using hcd
              have hadd : ∀ (d : Addr) (n : Nat), d.spot = none → (d.add n).block = d.block ∧ (d.add n).spot = none ∧ (d.add n).off = d.off + n := by
                intro d n hd
                unfold Addr.add
                split
                · rename_i h0; subst h0; exact ⟨rfl, hd, rfl⟩
                · exact ⟨rfl, rfl, rfl⟩
              obtain ⟨a1, a2, a3⟩ := hadd ⟨b, off, none⟩ (i * Sh.size e) rfl
              obtain ⟨b1, b2, b3⟩ := hadd (Addr.add ⟨b, off, none⟩ (i * Sh.size e)) j a2
              have := key _ (b1.trans a1) b2 this
              rw [b3, a3] at this
              exact this
      · cases h1
end
end Go.Proofs.Ytogehfalhodapaa.Pv
namespace Go.Proofs.Ytogehfalhodapaa.Pv
open Go Go.RowKit Go.ChangeShapes Go.WideShapes
section
variable {H : Type} {enc : TypeId × Value → H} {P : Program} {W : World} {base : Nat} {sp : Nat → Bool} {held : Bool}

def isAggSh : Sh → Bool
  | .struct _ => true
  | .arr _ _ => true
  | _ => false

/-- an argument of a law -/
theorem open_arg {r : Reach} {b0 : Nat} {t : TypeId} {v : Value} {d : DataW H} {ps : List MemPlace} (s : Sh) (hs : shOk P s t = true) (hval : Value.okWide P W r b0 t v)
    (hd : DataW.Trod enc P W base sp held t v d ps) : ∃ p, RepI (fun b => W.heap[b]?) p v ∧ Fits s p.cells ∧ (isAggSh s = true → ∃ cs, p = .agg cs) ∧ (isAggSh s = false → p.cells = [p]) := by
  obtain ⟨n, hd⟩ := hd
  obtain ⟨qs, h1, h2, h3, h4⟩ := dec_all n s t _ _ hs hd
  by_cases ha : isAggSh s = true
  · have hv : ∃ cs, v = .agg cs := by
      cases s <;> simp [isAggSh] at ha
      · simp only [shOk, Bool.and_eq_true] at hs
        obtain ⟨g, _⟩ := hs
        split at g
        · rename_i fields hu
          obtain ⟨cs, e, _⟩ := okWide_struct hu hval
          exact ⟨cs, e⟩
        · cases g
      · simp only [shOk, Bool.and_eq_true] at hs
        obtain ⟨g, _⟩ := hs
        split at g
        · rename_i m u hu
          simp only [Value.okWide, hu] at hval
          obtain ⟨cs, e, _⟩ := hval
          exact ⟨cs, e⟩
        · cases g
    obtain ⟨cs, rfl⟩ := hv
    have := RepI.agg _ _ h1
    exact ⟨.agg qs, by simpa [Value.cells] using this, h2, fun _ => ⟨qs, rfl⟩, fun h => (by rw [ha] at h; cases h)⟩
  · have hone : ∃ q, qs = [q] ∧ q.cells = [q] := by
      cases s <;> simp [isAggSh] at ha <;> simp only [Fits] at h2
      · obtain ⟨m, e, _⟩ := h2; exact ⟨_, e, rfl⟩
      · obtain ⟨m, e⟩ := h2; exact ⟨_, e, rfl⟩
      · obtain ⟨m, e, _⟩ := h2; exact ⟨_, e, rfl⟩
      · obtain ⟨m, e, _⟩ := h2; exact ⟨_, e, rfl⟩
    obtain ⟨q, rfl, hq⟩ := hone
    have hvc : v.cells.toList = [v] := by
      have hl : v.cells.toList.length = 1 := by
        have := h1.length; simpa using this.symm
      cases v <;> try rfl
      exfalso
      cases s <;> simp [isAggSh] at ha
      all_goals
        simp only [shOk, Bool.and_eq_true] at hs
        obtain ⟨g, _⟩ := hs
        split at g
        · rename_i hu
          simp [Value.okWide, hu, Cell.okWide, Cell.ok] at hval
        · cases g
    rw [hvc] at h1
    cases h1 with
    | cons _ _ _ _ k1 _ => exact ⟨q, k1, by rw [hq]; exact h2, fun h => absurd h ha, fun _ => hq⟩

theorem fits_int {k : IntKind} {p : PV} (h : Fits (.int k) p.cells) (hp : p.cells = [p]) : ∃ n, p = .int k n ∧ (Lit.int k n).wf = true := by
  rw [hp] at h
  simp only [Fits] at h
  obtain ⟨n, e, hw⟩ := h
  exact ⟨n, by simpa using e, hw⟩

theorem ints_of : ∀ {es : List (List PV)}, (∀ c ∈ es, Fits (.int .i64) c) → ∃ xs : List Int, es = ints xs ∧ ∀ x ∈ xs, (Lit.int .i64 x).wf = true
  | [], _ => ⟨[], rfl, by simp⟩
  | c :: es, h => by
    obtain ⟨xs, e, hw⟩ := ints_of (es := es) (fun c hc => h c (by simp [hc]))
    have := h c (by simp)
    simp only [Fits] at this
    obtain ⟨n, rfl, hn⟩ := this
    exact ⟨n :: xs, by simp [ints, e], by simpa using ⟨hn, hw⟩⟩

theorem open_ints' {r : Reach} {b0 : Nat} {t : TypeId} {v : Value} {d : DataW H} {ps : List MemPlace} (hs : shOk P (.slice (.int .i64)) t = true) (hval : Value.okWide P W r b0 t v)
    (hd : DataW.Trod enc P W base sp held t v d ps) : ∃ xs : List Int, RepI (fun b => W.heap[b]?) (.sl 1 (ints xs)) v ∧ xs.length ≤ maxLen ∧ ∀ x ∈ xs, (Lit.int .i64 x).wf = true := by
  obtain ⟨p, h1, h2, _, h3⟩ := open_arg _ hs hval hd
  rw [h3 rfl] at h2
  simp only [Fits] at h2
  obtain ⟨es, e, hl, hf⟩ := h2
  obtain ⟨xs, rfl, hw⟩ := ints_of (fun c hc => by simpa only [Fits] using hf c hc)
  have : p = .sl 1 (ints xs) := by simpa [Sh.size] using e
  subst this
  exact ⟨xs, h1, by simpa [ints] using hl, hw⟩
end
end Go.Proofs.Ytogehfalhodapaa.Pv
