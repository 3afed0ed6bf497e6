/-
  For every input the law EncodeLeast returns true and leaves its input as it was. No condition.
-/
import Derived.Test.YtogehfalhodapaaPart2
import Derived.Test.YtogehfalhodapaaPart3
namespace Go.Proofs.Ytogehfalhodapaa
open Go Go.Proofs.Ytogehfalhodapaa.Pv Go.ChangeShapes Go.WideShapes Go.ChangeAt Go.RowKit
set_option maxRecDepth 100000 in
theorem encodeLeast_lifted (os : Os) (started : os.Started) (H : Type) (enc : TypeId × Value → H) :
    ReturnsInHanded {} Try.checked os 5 .any (Rows.encodeLeastSpec.pre6 enc Try.prog Try.f5 Rows.encodeLeastRow.domain false) (Rows.encodeLeastSpec.post enc Try.prog Try.f5 false true false false) := by
  refine returnsInHanded_of_change (C := Try.checked) Try.own started (by kernel_rfl) Try.func5
    (ChangeSpec.witness6 (enc := enc) (C := Try.checked) false ⟨#[], #[.agg #[.int .i64 0, .slice none 0 0, .slice none 0 0, .slice none 0 0, .int .i64 0, .slice none 0 0, .slice none 0 0]], []⟩ 8 (by kernel_rfl) (by kernel_rfl) (by kernel_rfl) (by kernel_rfl)) ?_
  intro W base args ds gs before hval hW hcnd _
  have hW' := hW
  obtain ⟨p, q, hA0, hV, rfl, hfz, hnd⟩ := hW
  have hA : DataW.TrodAll enc Try.prog W 0 (fun _ => true) true Try.f5.params.toList args.toList ds p := hA0
  rw [Try.params5] at hA
  obtain ⟨v0, d0, rfl, rfl, h0⟩ := trodAll_one hA
  obtain ⟨pv0, hr0, hf0, hag0, _⟩ := open_arg (enc := enc) (t := 29) caseSh (by kernel_rfl) (hval 0 29 v0 rfl rfl) h0
  obtain ⟨cs0, rfl⟩ := hag0 rfl
  obtain ⟨t, dn, f, pa, l, hcase⟩ := fits_case (cs := cs0) hf0
  rw [hcase] at hr0
  obtain ⟨rfl, rfl⟩ := trodVars_none hV
  refine (law_calls (l_EncodeLeast _ _ _ _ _).out (.cons _ _ _ _ hr0 .nil)).mono fun e W' ⟨he, hos, hout, hold⟩ => ?_
  exact ⟨_, he, post_law (tb := 4) Try.kids (by decide +kernel) Try.sliceSize hW' rfl hos hout hold (by kernel_rfl) Try.underlying4 rfl rfl rfl⟩
theorem encodeLeast_holds : Rows.EncodeLeastSaid :=
  OpenClaim.holds_of_wide 5 Try.f5 rfl rfl rfl rfl rfl rfl rfl ⟨rfl, rfl, rfl, rfl, rfl⟩ rfl rfl rfl rfl rfl (by kernel_rfl) Try.func5 (by kernel_rfl)
    (of_decide_eq_true (by kernel_rfl)) (by unfold Func.isWrapper; first | (rw [if_pos (by decide +kernel)]; kernel_rfl) | (rw [if_neg (by decide +kernel)]; exact ⟨rfl, rfl⟩))
    (fun os started H enc _ => encodeLeast_lifted os started H enc)
end Go.Proofs.Ytogehfalhodapaa
