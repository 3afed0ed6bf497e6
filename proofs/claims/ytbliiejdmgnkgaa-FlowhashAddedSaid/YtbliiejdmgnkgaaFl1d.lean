/-
  The layer of values: what an evaluator says of a function holds of every run of it. For every program of the model that meets the named conditions.
-/
import Derived.Test.YtbliiejdmgnkgaaFl1c
namespace Go.Proofs.Ytbliiejdmgnkgaa
open Go Go.Proofs.Ytbliiejdmgnkgaa.Pv
set_option linter.unusedSimpArgs false
set_option linter.unusedVariables false
theorem fc12n (f n : Int) : FCs 12 [.int .i64 f, .int .i64 n, .nilsl] (.int .i64 (-1)) := by
  refine FCs.intro [] [0,1,2,3,4,6] (fun A => [.int .i64 f, .int .i64 n, .nilsl]) Try.func12 rfl Try.call12 (by kernel_rfl) (by simp [Try.f12]) rfl ?_
  intro A hA
  cbv
  refine splitBool (fun h => ?_) (fun h => ?_)
  · cbv
    subst hA
    exact rfl
  · exfalso; subst hA; simp [ar] at h
theorem fc9 : FCs 9 [] (.bool true) := by
  refine FCs.intro [] [0] (fun A => []) Try.func9 rfl Try.call9 (by kernel_rfl) (by simp [Try.f9]) rfl ?_
  intro A hA
  cbv
  refine CallV.int _ _ (fc10 _ _ _) rfl fun w1 hw1 => ?_
  replace hw1 : w1 = 0 := by rw [hw1]; decide +kernel
  cbv
  refine splitTrue (by subst hA; rw [hw1]; rfl) ?_
  cbv
  refine CallV.int _ _ (fc12n _ _) rfl fun w2 hw2 => ?_
  cbv
  refine splitTrue (by subst hA; rw [hw2]; rfl) ?_
  cbv
  have h7 : FCs 12 [.int .i64 5, .int .i64 1, .sl 1 [[.int .i64 7]]] (.int .i64 (chooseI 5 1 [7])) := fc12 5 1 [7] (by simp)
  refine CallV.int _ _ h7 rfl fun w3 hw3 => ?_
  replace hw3 : w3 = 7 := by rw [hw3]; decide +kernel
  cbv
  refine splitTrue (by subst hA; rw [hw3]; rfl) ?_
  cbv
  refine CallV.int _ _ (fc10 _ _ _) rfl fun w4 hw4 => ?_
  cbv
  refine CallV.int _ _ (fc11 _ _ _) rfl fun w5 hw5 => ?_
  cbv
  subst hA
  rw [← hw4] at hw5
  subst hw5
  simp [ar]
theorem fc3 (f n a : Int) : FCs 3 [.int .i64 f, .int .i64 n, .int .i64 a] (.bool true) := by
  refine FCs.intro [] [0,1,2,6] (fun A => [.int .i64 f, .int .i64 n, .int .i64 a]) Try.func3 rfl Try.call3 (by kernel_rfl) (by simp [Try.f3]) rfl ?_
  intro A hA
  cbv
  refine CallV.intro _ fc9 rfl rfl ?_
  cbv
  refine CallV.int _ _ (fc10 _ _ _) rfl fun w4 hw4 => ?_
  cbv
  refine CallV.int _ _ (fc11 _ _ _) rfl fun w5 hw5 => ?_
  cbv
  subst hA
  rw [← hw4] at hw5
  subst hw5
  simp [ar]
theorem fc4 (f n : Int) (xs : List Int) : FCs 4 [.int .i64 f, .int .i64 n, .sl 1 (ints xs)] (.bool true) := by
  refine FCs.intro [] [0,1,2,6] (fun A => [.int .i64 f, .int .i64 n, .sl 1 (A.e fun _ => ints xs)]) Try.func4 rfl Try.call4 (by kernel_rfl) (by simp [Try.f4]) rfl ?_
  intro A hA
  cbv
  refine CallV.intro _ fc9 rfl rfl ?_
  cbv
  refine splitFalse (by subst hA; rfl) ?_
  cbv
  refine splitBool (fun h1 => ?_) (fun h1 => ?_)
  · cbv
    refine CallV.intro _ fc9 rfl rfl ?_
    cbv
    subst hA
    exact rfl
  · have hl : xs.length ≤ 1000000 := by subst hA; simp [ar, ints] at h1; simp only [ncast] at *; omega
    cbv
    refine CallV.int _ _ (by subst hA; exact fc12 _ _ xs hl) rfl fun c hc => ?_
    cbv
    refine CallV.int _ _ (by subst hA; exact fc13 _ _ xs hl) rfl fun d hd => ?_
    cbv
    subst hA hc hd
    simp [ar]
end Go.Proofs.Ytbliiejdmgnkgaa
