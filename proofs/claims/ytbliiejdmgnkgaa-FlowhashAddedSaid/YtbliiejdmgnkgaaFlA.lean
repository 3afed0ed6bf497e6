/-
  For every input the law FlowhashAdded returns true and leaves its input as it was. No condition.
-/
import Derived.Test.YtbliiejdmgnkgaaFlD
import Derived.Test.YtbliiejdmgnkgaaFl2
namespace Go.Proofs.Ytbliiejdmgnkgaa
open Go Go.Proofs.Ytbliiejdmgnkgaa.Pv Go.ChangeShapes Go.WideShapes Go.ChangeAt Go.RowKit
set_option linter.unusedSimpArgs false
set_option linter.unusedVariables false
set_option maxRecDepth 100000 in
theorem flowhashAdded_lifted (os : Os) (started : os.Started) (H : Type) (enc : TypeId × Value → H) :
    ReturnsInHanded {} Try.checked os 7 .any (Rows.flowhashAddedSpec.pre6 enc Try.prog Try.f7 Rows.flowhashAddedRow.domain false) (Rows.flowhashAddedSpec.post enc Try.prog Try.f7 false true false false) := by
  refine returnsInHanded_of_change (C := Try.checked) Try.own started (by kernel_rfl) Try.func7
    (ChangeSpec.witness6 (enc := enc) (C := Try.checked) false ⟨#[], #[.agg #[.int .i64 0, .int .i64 0], .slice none 0 0, .int .i64 0], []⟩ 8 (by kernel_rfl) (by kernel_rfl) (by kernel_rfl) (by kernel_rfl)) ?_
  intro W base args ds gs before hval hW hcnd _
  have hW' := hW
  obtain ⟨p, q, hA0, hV, rfl, hfz, hnd⟩ := hW
  have hA : DataW.TrodAll enc Try.prog W 0 (fun _ => true) true Try.f7.params.toList args.toList ds p := hA0
  rw [Try.params7] at hA
  obtain ⟨v0, v1, v2, d0, d1, d2, p0, p1, p2, rfl, rfl, rfl, h0, h1, h2⟩ := trodAll_three hA
  obtain ⟨f, n, hx, -, -⟩ := open_flow (enc := enc) (hval 0 30 v0 rfl rfl) h0
  obtain ⟨xs, hxs, -⟩ := open_ints' (enc := enc) (t := 26) (by kernel_rfl) (hval 1 26 v1 rfl rfl) h1
  obtain ⟨b, rfl, -, -, wb⟩ := open_int (enc := enc) Try.underlying3 (hval 2 3 v2 rfl rfl) h2
  obtain ⟨rfl, rfl⟩ := trodVars_none hV
  refine (law_calls (fc7 f n b xs).out (.cons _ _ _ _ hx (.cons _ _ _ _ hxs (.cons _ _ _ _ (.int _ _) .nil)))).mono fun e W' ⟨he, hos, hout, hold⟩ => ?_
  exact ⟨_, he, post_law (tb := 4) Try.kids (by decide +kernel) Try.sliceSize hW' rfl hos hout hold (by kernel_rfl) Try.underlying4 rfl rfl rfl⟩
theorem flowhashAdded_holds : Rows.FlowhashAddedSaid :=
  OpenClaim.holds_of_wide 7 Try.f7 rfl rfl rfl rfl rfl rfl rfl ⟨rfl, rfl, rfl, rfl, rfl⟩ rfl rfl rfl rfl rfl (by kernel_rfl) Try.func7 (by kernel_rfl)
    (of_decide_eq_true (by kernel_rfl)) (by unfold Func.isWrapper; first | (rw [if_pos (by decide +kernel)]; kernel_rfl) | (rw [if_neg (by decide +kernel)]; exact ⟨rfl, rfl⟩))
    (fun os started H enc _ => flowhashAdded_lifted os started H enc)
end Go.Proofs.Ytbliiejdmgnkgaa
