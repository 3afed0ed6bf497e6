/-
  For every input the law FlowhashOrder returns true and leaves its input as it was. No condition.
-/
import Derived.Test.YtbliiejdmgnkgaaFlD
import Derived.Test.YtbliiejdmgnkgaaFlS
namespace Go.Proofs.Ytbliiejdmgnkgaa
open Go Go.Proofs.Ytbliiejdmgnkgaa.Pv Go.ChangeShapes Go.WideShapes Go.ChangeAt Go.RowKit
set_option linter.unusedSimpArgs false
set_option linter.unusedVariables false
theorem fc5 (f n : Int) (xs : List Int) (k : Int) : FCs 5 [.agg [.int .i64 f, .int .i64 n], .sl 1 (ints xs), .int .i64 k] (.bool true) := by
  refine FCs.intro [(26, 900)] [0,1,2,3,6,7] (fun A => [.agg [.int .i64 f, .int .i64 n], .sl 1 (A.e fun _ => ints xs), .int .i64 k]) Try.func5 rfl Try.call5 (by kernel_rfl) (by simp [Try.f5]) rfl ?_
  intro A hA
  cbv
  refine CallV.intro _ fc9 rfl rfl ?_
  cbv
  refine splitFalse (by subst hA; rfl) ?_
  cbv
  refine splitBool (fun h1 => ?_) (fun h1 => ?_)
  · cbv
    refine CallV.intro _ fc9 rfl rfl ?_
    cbv
    subst hA
    exact rfl
  cbv
  refine splitBool (fun h2 => ?_) (fun h2 => ?_)
  · cbv
    refine CallV.intro _ fc9 rfl rfl ?_
    cbv
    subst hA
    exact rfl
  cbv
  refine splitBool (fun h3 => ?_) (fun h3 => ?_)
  · cbv
    refine CallV.intro _ fc9 rfl rfl ?_
    cbv
    subst hA
    exact rfl
  have hb : xs.length ≤ 60 ∧ 0 ≤ k ∧ k ≤ xs.length := by
    subst hA; simp [ar, ints] at h1 h2 h3; simp only [ncast] at *; omega
  obtain ⟨hl, hk0, hk1⟩ := hb
  clear h1 h2 h3
  cbv
  refine ⟨?_, ⟨?_, trivial⟩, ⟨?_, trivial⟩, ?_⟩
  · subst hA; simp only [ar, ints_len]; simp only [ncast] at *; omega
  · subst hA; simp only [ar, List.length_nil, List.length_drop, List.length_take, ints_len]; simp only [ncast] at *; omega
  · subst hA; simp only [ar, List.length_nil, List.length_append, List.length_drop, List.length_take, ints_len]; simp only [ncast] at *; omega
  refine CallV.int _ _ (by subst hA; exact fc12 f n xs (by omega)) (by subst hA; simp [ar, isImms, isImm]) fun c hc => ?_
  cbv
  refine CallV.int .i64 (chooseI f n (xs.drop k.toNat ++ xs)) (by
    subst hA
    have e := fc12 f n (xs.drop k.toNat ++ xs) (by simp; omega)
    have e2 : (List.map (fun x : Int => [PV.int IntKind.i64 x]) xs).take xs.length = List.map (fun x : Int => [PV.int IntKind.i64 x]) xs := List.take_of_length_le (by simp)
    simpa [ar, ints, e2] using e) (by subst hA; simp [ar, isImms, isImm]) fun d hd => ?_
  cbv
  subst hA
  rw [choose_turned xs _ (fun y hy => List.mem_of_mem_drop hy)] at hd
  subst hc hd
  simp [ar]
set_option maxRecDepth 100000 in
theorem flowhashOrder_lifted (os : Os) (started : os.Started) (H : Type) (enc : TypeId × Value → H) :
    ReturnsInHanded {} Try.checked os 5 .any (Rows.flowhashOrderSpec.pre6 enc Try.prog Try.f5 Rows.flowhashOrderRow.domain false) (Rows.flowhashOrderSpec.post enc Try.prog Try.f5 false true false false) := by
  refine returnsInHanded_of_change (C := Try.checked) Try.own started (by kernel_rfl) Try.func5
    (ChangeSpec.witness6 (enc := enc) (C := Try.checked) false ⟨#[], #[.agg #[.int .i64 0, .int .i64 0], .slice none 0 0, .int .i64 0], []⟩ 8 (by kernel_rfl) (by kernel_rfl) (by kernel_rfl) (by kernel_rfl)) ?_
  intro W base args ds gs before hval hW hcnd _
  have hW' := hW
  obtain ⟨p, q, hA0, hV, rfl, hfz, hnd⟩ := hW
  have hA : DataW.TrodAll enc Try.prog W 0 (fun _ => true) true Try.f5.params.toList args.toList ds p := hA0
  rw [Try.params5] at hA
  obtain ⟨v0, v1, v2, d0, d1, d2, p0, p1, p2, rfl, rfl, rfl, h0, h1, h2⟩ := trodAll_three hA
  obtain ⟨f, n, hx, -, -⟩ := open_flow (enc := enc) (hval 0 30 v0 rfl rfl) h0
  obtain ⟨xs, hxs, -⟩ := open_ints' (enc := enc) (t := 26) (by kernel_rfl) (hval 1 26 v1 rfl rfl) h1
  obtain ⟨b, rfl, -, -, wb⟩ := open_int (enc := enc) Try.underlying3 (hval 2 3 v2 rfl rfl) h2
  obtain ⟨rfl, rfl⟩ := trodVars_none hV
  refine (law_calls (fc5 f n xs b).out (.cons _ _ _ _ hx (.cons _ _ _ _ hxs (.cons _ _ _ _ (.int _ _) .nil)))).mono fun e W' ⟨he, hos, hout, hold⟩ => ?_
  exact ⟨_, he, post_law (tb := 4) Try.kids (by decide +kernel) Try.sliceSize hW' rfl hos hout hold (by kernel_rfl) Try.underlying4 rfl rfl rfl⟩
theorem flowhashOrder_holds : Rows.FlowhashOrderSaid :=
  OpenClaim.holds_of_wide 5 Try.f5 rfl rfl rfl rfl rfl rfl rfl ⟨rfl, rfl, rfl, rfl, rfl⟩ rfl rfl rfl rfl rfl (by kernel_rfl) Try.func5 (by kernel_rfl)
    (of_decide_eq_true (by kernel_rfl)) (by unfold Func.isWrapper; first | (rw [if_pos (by decide +kernel)]; kernel_rfl) | (rw [if_neg (by decide +kernel)]; exact ⟨rfl, rfl⟩))
    (fun os started H enc _ => flowhashOrder_lifted os started H enc)
end Go.Proofs.Ytbliiejdmgnkgaa
