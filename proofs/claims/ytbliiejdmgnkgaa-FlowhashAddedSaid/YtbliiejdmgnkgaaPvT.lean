/-
  The layer of values: what an evaluator says of a function holds of every run of it. For every program of the model that meets the named conditions.
-/
import Derived.Test.YtbliiejdmgnkgaaPvS
import Derived.ProofKit
namespace Go.Proofs.Ytbliiejdmgnkgaa.Pv
open Go Go.RowKit Go.ChangeShapes

theorem law_calls {P : Program} {n : Nat} {args : List PV} {vs : List Value} {W : World} (h : FC P n args (.bool true)) (hr : RepIs (fun b => W.heap[b]?) args vs) :
    Calls P n vs.toArray W fun e W' => e = .returned (.bool true) ∧ W'.os = W.os ∧ W'.output = W.output ∧ ∀ b, b < W.heap.size → W'.heap[b]? = W.heap[b]? := by
  refine (h.calls vs W (fun b => W.heap[b]?) ⟨fun _ => none, W.os, W.output⟩ ⟨fun b o h => h, fun b o h => (by cases h), fun b _ => rfl, ⟨rfl, rfl⟩, (by intro g o hg; simp [aget] at hg), (by intro g g' o o' _ hg; simp [aget] at hg)⟩ hr).mono ?_
  rintro e W' ⟨M', v, rfl, hm, hi, hv⟩
  cases hv
  refine ⟨rfl, hi.io.1, hi.io.2, fun b hb => ?_⟩
  have : W.heap[b]? = some W.heap[b] := Array.getElem?_eq_getElem hb
  rw [this]
  exact hi.m b _ (hm b _ this)

section
variable {H : Type} {enc : TypeId × Value → H} {P : Program} {W W' : World}

theorem same_old (hold : ∀ b, b < W.heap.size → W'.heap[b]? = W.heap[b]?) {p : MemPlace} (hp : p.block < W.heap.size) : W.sameAt W' p := by
  cases p with
  | cell b off =>
    have := hold b hp
    simp only [World.sameAt, World.cell?, this]
  | map b => exact hold b hp

theorem trodAll_stays (K : Kids P (· < P.types.size)) (hsz : ∀ {t e : TypeId}, t < P.types.size → P.underlying t = some (.slice e) → 0 < P.cellsOf e) (hold : ∀ b, b < W.heap.size → W'.heap[b]? = W.heap[b]?) {sp : Nat → Bool} :
    ∀ {ts : List TypeId} {vs : List Value} {ds : List (DataW H)} {ps : List MemPlace}, (∀ t ∈ ts, t < P.types.size) → DataW.TrodAll enc P W 0 (fun _ => true) true ts vs ds ps → (∀ p ∈ ps, p.block < W.heap.size) → (∀ p ∈ ps, sp p.block = true) →
      DataW.TrodAll enc P W' 0 sp true ts vs ds ps
  | [], [], [], _, _, h, _, _ => h
  | _ :: _, _ :: _, _ :: _, _, ht, ⟨p, q, ⟨n, h⟩, hs, e⟩, hl, hsp => by
    subst e
    refine ⟨p, q, ⟨n, DataW.trod_stays K (fun h1 h => hsz h1 h) (fun h => by cases h) (ht _ (by simp)) h (fun x hx => same_old hold (hl x (List.mem_append_left _ hx))) fun x hx => hsp x (List.mem_append_left _ hx)⟩, ?_, rfl⟩
    exact trodAll_stays K hsz hold (fun t h => ht t (by simp [h])) hs (fun x hx => hl x (List.mem_append_right _ hx)) fun x hx => hsp x (List.mem_append_right _ hx)
  | [], _ :: _, _, _, _, h, _, _ => h.elim
  | [], [], _ :: _, _, _, h, _, _ => h.elim
  | _ :: _, [], _, _, _, h, _, _ => h.elim
  | _ :: _, _ :: _, [], _, _, h, _, _ => h.elim

def sliceOk (P : Program) : Bool := (List.range P.types.size).all fun t => match P.underlying t with | some (.slice e) => decide (0 < P.cellsOf e) | _ => true

theorem sliceOk_ok (h : sliceOk P = true) {t e : TypeId} (hlt : t < P.types.size) (ht : P.underlying t = some (.slice e)) : 0 < P.cellsOf e := by
  have := List.all_eq_true.1 h t (by simpa using hlt)
  rw [ht] at this
  simpa using this

/-- the conclusion of a law's row: it answered true, and no old block was written -/
theorem post_law {f : Func} {s : ChangeSpec} {apart fresh handsOn again : Bool} {args : Array Value} {ds gs : List (DataW H)} {before : List MemPlace} {tb : TypeId} (K : Kids P (· < P.types.size)) (hts : ∀ t ∈ f.params.toList, t < P.types.size)
    (hsz : ∀ {t e : TypeId}, t < P.types.size → P.underlying t = some (.slice e) → 0 < P.cellsOf e)
    (hW : DataW.Whole enc P f.params.toList s.vars apart W args.toList ds gs before) (hv : s.vars = [])
    (hos : W'.os = W.os) (hout : W'.output = W.output) (hold : ∀ b, b < W.heap.size → W'.heap[b]? = W.heap[b]?)
    (hrt : f.resultTypes = #[tb]) (hb : P.underlying tb = some .bool)
    (h1 : (s.fn H (ds ++ gs)).results = [.lit (.bool true)]) (h2 : (s.fn H (ds ++ gs)).args = ds) (h3 : (s.fn H (ds ++ gs)).vars = []) :
    s.post enc P f apart fresh handsOn again W args (.bool true) W' := by
  have hW' := hW
  obtain ⟨pa, pv, hA, hV, hps, hz, hn⟩ := hW
  have hlt : ∀ p ∈ before, p.block < W.heap.size := fun p hp => hW'.lt p hp
  rw [hv] at hV
  have hpv : pv = [] := by
    cases gs with
    | nil => exact hV
    | cons g gs => exact hV.elim
  subst hpv
  rw [List.append_nil] at hps
  subst hps
  have hbool : ∀ (b : Nat) (sp : Nat → Bool) (hd : Bool), DataW.TrodAll enc P W' b sp hd f.resultTypes.toList ((Value.bool true).resultList f.resultTypes.size) (s.fn H (ds ++ gs)).results [] := by
    intro b sp hd
    rw [h1, hrt]
    refine ⟨[], [], ⟨1, ?_⟩, rfl, rfl⟩
    simp [DataW.trod, hb, Value.cells]
  have hargs : ∀ sp : Nat → Bool, (∀ p ∈ before, sp p.block = true) → DataW.TrodAll enc P W' 0 sp true f.params.toList args.toList (s.fn H (ds ++ gs)).args before := by
    intro sp hsp
    rw [h2]
    exact trodAll_stays K hsz hold hts hA hlt hsp
  have hvars : ∀ sp : Nat → Bool, DataW.TrodVars enc P W' sp s.vars (s.fn H (ds ++ gs)).vars [] := by
    intro sp; rw [hv, h3]; rfl
  have hkeep : W.keptBut W' (fun p => p ∈ before ∧ (p ∈ ([] : List MemPlace) ∨ p ∈ before ∨ p ∈ ([] : List MemPlace))) :=
    ⟨hos, hout, fun i hi => by rw [hold i hi]; exact (World.keptBut_refl W (fun p => p ∈ before ∧ (p ∈ ([] : List MemPlace) ∨ p ∈ before ∨ p ∈ ([] : List MemPlace)))).2.2 i hi⟩
  refine ⟨ds, gs, before, [], before, [], hW', hbool _ _ _, hargs _ (fun p hp => by simpa using hlt p hp), hvars _, hkeep, fun _ => ?_⟩
  refine ⟨?_, (s.fn H (ds ++ gs)).results ++ (s.fn H (ds ++ gs)).args, (s.fn H (ds ++ gs)).vars, before, ⟨before, [], ?_, hvars _, by simp, ?_, hn⟩, fun p hp _ => hp⟩
  · exact ok_one (t := tb) hrt rfl (okWide_bool_mk hb true)
  · have := trodAll_append (hargs (fun _ => true) (fun _ _ => rfl)) (hbool 0 (fun _ => true) true)
    simpa using this
  · intro b off hp
    rw [World.frozen?_of_block (hold b (hlt _ hp))]
    exact hz b off hp
end
end Go.Proofs.Ytbliiejdmgnkgaa.Pv
