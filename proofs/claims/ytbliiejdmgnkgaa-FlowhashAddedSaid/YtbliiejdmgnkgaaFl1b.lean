/-
  The layer of values: what an evaluator says of a function holds of every run of it. For every program of the model that meets the named conditions.
-/
import Derived.Test.YtbliiejdmgnkgaaFl1a
namespace Go.Proofs.Ytbliiejdmgnkgaa
open Go Go.Proofs.Ytbliiejdmgnkgaa.Pv
set_option linter.unusedSimpArgs false
set_option linter.unusedVariables false
theorem fc15 (f n : Int) (x0 : Int) (r : List Int) (hl : r.length ≤ 1000000) : FCs 15 [.sl 1 (ints (x0 :: r)), .fn (.func 16) [] [.ptr [.int .i64 f], .ptr [.int .i64 n]]] (.int .i64 (r.foldl (better f n) x0)) := by
  refine FCs.intro [] [0,1,4,5,6] (fun A => [.sl 1 (A.e fun _ => ints (x0 :: r)), .fn (.func 16) [] [.ptr [.int .i64 f], .ptr [.int .i64 n]]]) Try.func15 rfl Try.call15 (by kernel_rfl) (by simp [Try.f15]) rfl ?_
  intro A hA
  cbv
  refine splitBool (fun h => ?_) (fun h => ?_)
  · exfalso; subst hA; simp [ar, ints] at h; omega
  cbv
  refine ⟨[.int .i64 x0], by subst hA; rfl, by decide, ?_⟩
  cbv
  refine LoopK.upd (Int × Int) (fun p => [(5, .int .i64 p.1), (6, .int .i64 p.2)]) (fun _ => []) (fun p => ∃ k : Nat, p.2 = k + 1 ∧ k ≤ r.length ∧ p.1 = (r.take k).foldl (better f n) x0) (fun p => (r.length + 1 - p.2).toNat) (x0, 1) ?_ ?_ ?_
  · simp [LeSt, leVs, leP, St.set, setVs, aget, subHp]
  · exact ⟨0, by simp, by simp, by simp⟩
  rintro ⟨m, i⟩ ⟨k, h0, h1, h2⟩
  dsimp only at h0 h1 h2
  cbv
  refine splitBool (fun h3 => ?_) (fun h3 => ?_)
  · skip
    have hlt : k < r.length := by subst hA; simp [ar, ints] at h3; simp only [ncast] at *; omega
    have hx : (ints (x0 :: r))[i.toNat]? = some [.int .i64 r[k]] := ints_get (by simp [show i.toNat = k + 1 by simp only [ncast] at *; omega, hlt])
    have hs : (r.take (k + 1)).foldl (better f n) x0 = better f n m r[k] := by rw [List.take_succ_eq_append_getElem hlt, List.foldl_append, List.foldl_cons, List.foldl_nil, ← h2]
    generalize r[k] = x at hx hs
    cbv
    refine ⟨[.int .i64 x], by subst hA; exact hx, by simp only [ncast] at *; omega, ?_⟩
    cbv
    refine CallV.int _ _ (fc16 _ _ _ _) rfl fun c hc => ?_
    cbv
    refine splitBool (fun h4 => ?_) (fun h4 => ?_)
    · skip
      cbv
      refine ⟨[.int .i64 x], by subst hA; exact hx, by simp only [ncast] at *; omega, ?_⟩
      cbv
      subst hA
      simp only [ar] at h4 ⊢
      simp only [ncast] at *
      refine ⟨by simp only [inI64]; omega, (x, i + 1), ⟨⟨k + 1, by simp only []; omega, by omega, ?_⟩, by simp only []; omega⟩, ?_⟩
      · rw [hs, better, ← hc]; simp at h4; simp [h4]
      · simp [LeSt, leVs, leP, St.set, setVs, aget, subHp]
    · skip
      cbv
      subst hA
      simp only [ar] at h4 ⊢
      simp only [ncast] at *
      refine ⟨by simp only [inI64]; omega, (m, i + 1), ⟨⟨k + 1, by simp only []; omega, by omega, ?_⟩, by simp only []; omega⟩, ?_⟩
      · rw [hs, better, ← hc]; simp at h4; simp [show ¬ 0 < c by omega]
      · simp [LeSt, leVs, leP, St.set, setVs, aget, subHp]
  · skip
    have hge : k = r.length := by subst hA; simp [ar, ints] at h3; simp only [ncast] at *; omega
    cbv
    subst hA
    simp only [ar]
    rw [h2, hge, List.take_length]
theorem fc12 (f n : Int) (xs : List Int) (hl : xs.length ≤ 1000000) : FCs 12 [.int .i64 f, .int .i64 n, .sl 1 (ints xs)] (.int .i64 (chooseI f n xs)) := by
  refine FCs.intro [] [0,1,2,3,4,6] (fun A => [.int .i64 f, .int .i64 n, .sl 1 (A.e fun _ => ints xs)]) Try.func12 rfl Try.call12 (by kernel_rfl) (by simp [Try.f12]) rfl ?_
  intro A hA
  cbv
  refine splitBool (fun h => ?_) (fun h => ?_)
  · skip
    cbv
    subst hA
    simp [ar, ints] at h ⊢
    subst h
    rfl
  · skip
    cases xs with
    | nil => exfalso; subst hA; simp [ar, ints] at h
    | cons x0 r =>
      cbv
      refine CallV.int _ _ (by subst hA; exact fc15 f n x0 r (by simp at hl; omega)) (by subst hA; simp [ar, isImms, isImm]) fun c hc => ?_
      cbv
      subst hA hc
      exact rfl
end Go.Proofs.Ytbliiejdmgnkgaa
