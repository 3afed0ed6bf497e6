/-
  For every input the law FlowhashWeight returns true and leaves its input as it was. No condition.
-/
import Derived.Test.YtbliiejdmgnkgaaFl1d
import Derived.Test.YtbliiejdmgnkgaaPvT
import Derived.Test.YtbliiejdmgnkgaaRows
namespace Go.Proofs.Ytbliiejdmgnkgaa
open Go Go.Proofs.Ytbliiejdmgnkgaa.Pv Go.ChangeShapes Go.WideShapes Go.ChangeAt Go.RowKit
theorem Try.own : ownKnob Try.prog.godebug = none := by kernel_rfl
theorem Try.laidOut : laidOutB Try.prog = true := by kernel_rfl
theorem Try.mapsRow : mapsRowed Try.prog = true := by kernel_rfl
theorem Try.kids : Kids Try.prog (· < Try.prog.types.size) := kids_rows Try.laidOut Try.mapsRow
theorem Try.sliceSize : ∀ {t e : TypeId}, t < Try.prog.types.size → Try.prog.underlying t = some (.slice e) → 0 < Try.prog.cellsOf e := sliceOk_ok (by kernel_rfl)
set_option maxRecDepth 100000 in
theorem flowhashWeight_lifted (os : Os) (started : os.Started) (H : Type) (enc : TypeId × Value → H) :
    ReturnsInHanded {} Try.checked os 3 .any (Rows.flowhashWeightSpec.pre6 enc Try.prog Try.f3 Rows.flowhashWeightRow.domain false) (Rows.flowhashWeightSpec.post enc Try.prog Try.f3 false true false false) := by
  refine returnsInHanded_of_change (C := Try.checked) Try.own started (by kernel_rfl) Try.func3
    (ChangeSpec.witness6 (enc := enc) (C := Try.checked) false ⟨#[], #[.int .i64 0, .int .i64 0, .int .i64 0], []⟩ 8 (by kernel_rfl) (by kernel_rfl) (by kernel_rfl) (by kernel_rfl)) ?_
  intro W base args ds gs before hval hW hcnd _
  have hW' := hW
  obtain ⟨p, q, hA0, hV, rfl, hfz, hnd⟩ := hW
  have hA : DataW.TrodAll enc Try.prog W 0 (fun _ => true) true Try.f3.params.toList args.toList ds p := hA0
  rw [Try.params3] at hA
  obtain ⟨v0, v1, v2, d0, d1, d2, p0, p1, p2, rfl, rfl, rfl, h0, h1, h2⟩ := trodAll_three hA
  obtain ⟨a, rfl, -⟩ := open_int (enc := enc) Try.underlying3 (hval 0 3 v0 rfl rfl) h0
  obtain ⟨b, rfl, -⟩ := open_int (enc := enc) Try.underlying3 (hval 1 3 v1 rfl rfl) h1
  obtain ⟨c, rfl, -⟩ := open_int (enc := enc) Try.underlying3 (hval 2 3 v2 rfl rfl) h2
  obtain ⟨rfl, rfl⟩ := trodVars_none hV
  refine (law_calls (fc3 a b c).out (.cons _ _ _ _ (.int _ _) (.cons _ _ _ _ (.int _ _) (.cons _ _ _ _ (.int _ _) .nil)))).mono fun e W' ⟨he, hos, hout, hold⟩ => ?_
  exact ⟨_, he, post_law (tb := 4) Try.kids (by decide +kernel) Try.sliceSize hW' rfl hos hout hold (by kernel_rfl) Try.underlying4 rfl rfl rfl⟩
theorem flowhashWeight_holds : Rows.FlowhashWeightSaid :=
  OpenClaim.holds_of_wide 3 Try.f3 rfl rfl rfl rfl rfl rfl rfl ⟨rfl, rfl, rfl, rfl, rfl⟩ rfl rfl rfl rfl rfl (by kernel_rfl) Try.func3 (by kernel_rfl)
    (of_decide_eq_true (by kernel_rfl)) (by unfold Func.isWrapper; first | (rw [if_pos (by decide +kernel)]; kernel_rfl) | (rw [if_neg (by decide +kernel)]; exact ⟨rfl, rfl⟩))
    (fun os started H enc _ => flowhashWeight_lifted os started H enc)
end Go.Proofs.Ytbliiejdmgnkgaa
