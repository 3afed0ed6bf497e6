/-
  The layer of values: what an evaluator says of a function holds of every run of it. For every program of the model that meets the named conditions.
-/
import Derived.Test.YtbliiejdmgnkgaaFl1b
namespace Go.Proofs.Ytbliiejdmgnkgaa
open Go Go.Proofs.Ytbliiejdmgnkgaa.Pv
set_option linter.unusedSimpArgs false
set_option linter.unusedVariables false
theorem better_eq (f n m x : Int) : better f n m x = if weight f n m < weight f n x ∨ weight f n x = weight f n m ∧ x < m then x else m := by
  unfold better cmpW
  generalize weight f n x = a
  generalize weight f n m = b
  have : (0 < orI [cmpI a b, cmpI m x]) ↔ (b < a ∨ a = b ∧ x < m) := by
    simp only [orI, cmpI]
    repeat' split
    all_goals omega
  simp only [this]
theorem better_self (f n m : Int) : better f n m m = m := by simp [better_eq]
theorem fc13 (f n : Int) (xs : List Int) (hl : xs.length ≤ 1000000) : FCs 13 [.int .i64 f, .int .i64 n, .sl 1 (ints xs)] (.int .i64 (chooseI f n xs)) := by
  refine FCs.intro [] [0,1,2,6,7,8,9,10] (fun A => [.int .i64 f, .int .i64 n, .sl 1 (A.e fun _ => ints xs)]) Try.func13 rfl Try.call13 (by kernel_rfl) (by simp [Try.f13]) rfl ?_
  intro A hA
  cbv
  refine splitBool (fun h => ?_) (fun h => ?_)
  · cbv
    subst hA
    simp [ar, ints] at h ⊢
    subst h
    rfl
  cases xs with
  | nil => exfalso; subst hA; simp [ar, ints] at h
  | cons x0 r =>
  cbv
  refine ⟨[.int .i64 x0], by subst hA; rfl, by decide, ?_⟩
  cbv
  refine LoopK.upd (Int × Int × PV × PV) (fun p => [(7, .int .i64 p.1), (8, .int .i64 p.2.1), (9, p.2.2.1), (10, p.2.2.2)]) (fun _ => []) (fun p => ∃ k : Nat, p.2.1 = k ∧ k ≤ (x0 :: r).length ∧ p.1 = ((x0 :: r).take k).foldl (better f n) x0) (fun p => (r.length + 1 - p.2.1).toNat) (x0, 0, .junk, .junk) ?_ ?_ ?_
  · simp [LeSt, leVs, leP, St.set, setVs, aget, subHp]
  · exact ⟨0, by simp, by simp, by simp⟩
  rintro ⟨m, i, va, vb⟩ ⟨k, h0, h1, h2⟩
  dsimp only at h0 h1 h2
  cbv
  refine splitBool (fun h3 => ?_) (fun h3 => ?_)
  · have hlt : k < (x0 :: r).length := by subst hA; simp [ar, ints] at h3; simp only [ncast] at *; simp; omega
    have hs : ((x0 :: r).take (k + 1)).foldl (better f n) x0 = better f n m (x0 :: r)[k] := by rw [List.take_succ_eq_append_getElem hlt, List.foldl_append, List.foldl_cons, List.foldl_nil, ← h2]
    have hx : (ints (x0 :: r))[i.toNat]? = some [.int .i64 (x0 :: r)[k]] := ints_get (by rw [show i.toNat = k by simp only [ncast] at *; omega]; exact List.getElem?_eq_getElem hlt)
    generalize (x0 :: r)[k] = x at hx hs
    have hi0 : 0 ≤ i := by simp only [ncast] at *; omega
    cbv
    refine ⟨[.int .i64 x], by subst hA; exact hx, hi0, ?_⟩
    cbv
    refine CallV.int _ _ (fc11 _ _ _) rfl fun w1 hw1 => ?_
    cbv
    refine CallV.int _ _ (fc11 _ _ _) rfl fun w2 hw2 => ?_
    cbv
    have fin : ∀ (m' : Int) (v1 v2 : PV), m' = better f n m x → inI64 (i + 1) ∧ ∃ y : Int × Int × PV × PV, ((∃ k : Nat, y.2.1 = k ∧ k ≤ (x0 :: r).length ∧ y.1 = ((x0 :: r).take k).foldl (better f n) x0) ∧ (r.length + 1 - y.2.1).toNat < (r.length + 1 - i).toNat) ∧ y = (m', i + 1, v1, v2) := by
      intro m' v1 v2 he
      simp only [ncast] at *
      simp only [List.length_cons] at *
      refine ⟨by simp only [inI64]; omega, (m', i + 1, v1, v2), ⟨⟨k + 1, by simp only []; omega, by omega, ?_⟩, by simp only []; omega⟩, rfl⟩
      rw [hs, he]
    have fin2 : ∀ (m' : Int) (v1 v2 : PV), m' = better f n m x → ar.p (fun _ => inI64 (i + 1)) ∧ ∃ y : Int × Int × PV × PV, ((∃ k : Nat, y.2.1 = k ∧ k ≤ (x0 :: r).length ∧ y.1 = ((x0 :: r).take k).foldl (better f n) x0) ∧ (r.length + 1 - y.2.1).toNat < (r.length + 1 - i).toNat) ∧ y = (m', i + 1, v1, v2) := fin
    have hb := better_eq f n m x
    rw [← hw1, ← hw2] at hb
    refine splitBool (fun h4 => ?_) (fun h4 => ?_)
    · cbv
      refine ⟨[.int .i64 x], by subst hA; exact hx, hi0, ?_⟩
      cbv
      subst hA
      simp [ar] at h4
      obtain ⟨e1, y, e2, rfl⟩ := fin x (.int .u64 w1) (.int .u64 w2) (by simp [hb, h4])
      exact ⟨e1, _, e2, by simp [LeSt, leVs, leP, St.set, setVs, aget, subHp, ar]⟩
    · cbv
      refine splitBool (fun h5 => ?_) (fun h5 => ?_)
      · cbv
        refine ⟨[.int .i64 x], by subst hA; exact hx, hi0, ?_⟩
        cbv
        refine splitBool (fun h6 => ?_) (fun h6 => ?_)
        · cbv
          refine ⟨[.int .i64 x], by subst hA; exact hx, hi0, ?_⟩
          cbv
          subst hA
          simp [ar] at h4 h5 h6
          obtain ⟨e1, y, e2, rfl⟩ := fin x (.int .u64 w1) (.int .u64 w2) (by simp [hb, h5, h6])
          exact ⟨e1, _, e2, by simp [LeSt, leVs, leP, St.set, setVs, aget, subHp, ar]⟩
        · cbv
          subst hA
          simp [ar] at h4 h5 h6
          obtain ⟨e1, y, e2, rfl⟩ := fin m (.int .u64 w1) (.int .u64 w2) (by rw [hb, if_neg (by omega)])
          exact ⟨e1, _, e2, by simp [LeSt, leVs, leP, St.set, setVs, aget, subHp, ar]⟩
      · cbv
        subst hA
        simp [ar] at h4 h5
        obtain ⟨e1, y, e2, rfl⟩ := fin m (.int .u64 w1) (.int .u64 w2) (by rw [hb, if_neg (by omega)])
        exact ⟨e1, _, e2, by simp [LeSt, leVs, leP, St.set, setVs, aget, subHp, ar]⟩
  · have hge : k = (x0 :: r).length := by subst hA; simp [ar, ints] at h3; simp only [ncast] at *; simp at *; omega
    cbv
    subst hA
    simp only [ar]
    rw [h2, hge, List.take_length, List.foldl_cons, better_self]
    rfl
end Go.Proofs.Ytbliiejdmgnkgaa
