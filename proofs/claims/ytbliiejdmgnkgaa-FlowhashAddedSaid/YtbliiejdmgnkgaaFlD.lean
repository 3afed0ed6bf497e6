/-
  For every input the law FlowhashDistinct returns true and leaves its input as it was. No condition.
-/
import Derived.Test.YtbliiejdmgnkgaaFlW
import Derived.Test.YtbliiejdmgnkgaaFlM
import Derived.Test.YtbliiejdmgnkgaaPvU
namespace Go.Proofs.Ytbliiejdmgnkgaa
open Go Go.Proofs.Ytbliiejdmgnkgaa.Pv Go.ChangeShapes Go.WideShapes Go.ChangeAt Go.RowKit
set_option linter.unusedSimpArgs false
set_option linter.unusedVariables false
theorem fc8 (f n a b : Int) (ha : isI64 a) (hb : isI64 b) : FCs 8 [.agg [.int .i64 f, .int .i64 n], .int .i64 a, .int .i64 b] (.bool true) := by
  refine FCs.intro [] [0,1,2,3,6] (fun A => [.agg [.int .i64 f, .int .i64 n], .int .i64 a, .int .i64 b]) Try.func8 rfl Try.call8 (by kernel_rfl) (by simp [Try.f8]) rfl ?_
  intro A hA
  cbv
  refine CallV.intro _ fc9 rfl rfl ?_
  cbv
  refine splitFalse (by subst hA; rfl) ?_
  cbv
  refine CallV.int _ _ (fc10 _ _ _) rfl fun m1 h1 => ?_
  cbv
  refine CallV.int _ _ (fc10 _ _ _) rfl fun m2 h2 => ?_
  have k1 : m1 = m2 ↔ a = b := by rw [h1, h2]; exact weight_arc ha hb
  clear h1 h2
  cbv
  refine splitTrue (by subst hA; simp [ar, k1]) ?_
  cbv
  refine CallV.int _ _ (fc10 _ _ _) rfl fun m3 h3 => ?_
  cbv
  refine CallV.int _ _ (fc10 _ _ _) rfl fun m4 h4 => ?_
  have k2 : m3 = m4 ↔ a = b := by rw [h3, h4]; exact weight_flow ha hb
  clear h3 h4
  cbv
  subst hA
  simp [ar, k2]
theorem wf_i64 {n : Int} (h : (Lit.int .i64 n).wf = true) : isI64 n := by
  simp only [Lit.wf, Bool.and_eq_true, decide_eq_true_eq] at h
  have h1 : IntKind.min .i64 = -9223372036854775808 := by decide
  have h2 : IntKind.max .i64 = 9223372036854775807 := by decide
  rw [h1, h2] at h
  exact h
theorem open_flow {H : Type} {enc : TypeId × Value → H} {W : World} {r : Reach} {b0 base : Nat} {sp : Nat → Bool} {held : Bool} {v : Value} {d : DataW H} {ps : List MemPlace} (hval : Value.okWide Try.prog W r b0 30 v)
    (hd : DataW.Trod enc Try.prog W base sp held 30 v d ps) : ∃ f n : Int, RepI (fun b => W.heap[b]?) (.agg [.int .i64 f, .int .i64 n]) v ∧ isI64 f ∧ isI64 n := by
  obtain ⟨p, h1, h2, h3, _⟩ := open_arg (.struct [.int .i64, .int .i64]) (by kernel_rfl) hval hd
  obtain ⟨cs, rfl⟩ := h3 rfl
  simp only [Fits, FitsL, PV.cells] at h2
  obtain ⟨c, d, rfl, ⟨f, rfl, hf⟩, c', d', rfl, ⟨n, rfl, hn⟩, rfl⟩ := h2
  exact ⟨f, n, h1, wf_i64 hf, wf_i64 hn⟩
set_option maxRecDepth 100000 in
theorem flowhashDistinct_lifted (os : Os) (started : os.Started) (H : Type) (enc : TypeId × Value → H) :
    ReturnsInHanded {} Try.checked os 8 .any (Rows.flowhashDistinctSpec.pre6 enc Try.prog Try.f8 Rows.flowhashDistinctRow.domain false) (Rows.flowhashDistinctSpec.post enc Try.prog Try.f8 false true false false) := by
  refine returnsInHanded_of_change (C := Try.checked) Try.own started (by kernel_rfl) Try.func8
    (ChangeSpec.witness6 (enc := enc) (C := Try.checked) false ⟨#[], #[.agg #[.int .i64 0, .int .i64 0], .int .i64 0, .int .i64 0], []⟩ 8 (by kernel_rfl) (by kernel_rfl) (by kernel_rfl) (by kernel_rfl)) ?_
  intro W base args ds gs before hval hW hcnd _
  have hW' := hW
  obtain ⟨p, q, hA0, hV, rfl, hfz, hnd⟩ := hW
  have hA : DataW.TrodAll enc Try.prog W 0 (fun _ => true) true Try.f8.params.toList args.toList ds p := hA0
  rw [Try.params8] at hA
  obtain ⟨v0, v1, v2, d0, d1, d2, p0, p1, p2, rfl, rfl, rfl, h0, h1, h2⟩ := trodAll_three hA
  obtain ⟨f, n, hx, -, -⟩ := open_flow (enc := enc) (hval 0 30 v0 rfl rfl) h0
  obtain ⟨a, rfl, -, -, wa⟩ := open_int (enc := enc) Try.underlying3 (hval 1 3 v1 rfl rfl) h1
  obtain ⟨b, rfl, -, -, wb⟩ := open_int (enc := enc) Try.underlying3 (hval 2 3 v2 rfl rfl) h2
  obtain ⟨rfl, rfl⟩ := trodVars_none hV
  refine (law_calls (fc8 f n a b (wf_i64 wa) (wf_i64 wb)).out (.cons _ _ _ _ hx (.cons _ _ _ _ (.int _ _) (.cons _ _ _ _ (.int _ _) .nil)))).mono fun e W' ⟨he, hos, hout, hold⟩ => ?_
  exact ⟨_, he, post_law (tb := 4) Try.kids (by decide +kernel) Try.sliceSize hW' rfl hos hout hold (by kernel_rfl) Try.underlying4 rfl rfl rfl⟩
theorem flowhashDistinct_holds : Rows.FlowhashDistinctSaid :=
  OpenClaim.holds_of_wide 8 Try.f8 rfl rfl rfl rfl rfl rfl rfl ⟨rfl, rfl, rfl, rfl, rfl⟩ rfl rfl rfl rfl rfl (by kernel_rfl) Try.func8 (by kernel_rfl)
    (of_decide_eq_true (by kernel_rfl)) (by unfold Func.isWrapper; first | (rw [if_pos (by decide +kernel)]; kernel_rfl) | (rw [if_neg (by decide +kernel)]; exact ⟨rfl, rfl⟩))
    (fun os started H enc _ => flowhashDistinct_lifted os started H enc)
end Go.Proofs.Ytbliiejdmgnkgaa
