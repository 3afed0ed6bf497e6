/-
  The layer of values: what an evaluator says of a function holds of every run of it. For every program of the model that meets the named conditions.
-/
import Derived.Test.YtbliiejdmgnkgaaFl1d
import Derived.Test.YtbliiejdmgnkgaaFlS
namespace Go.Proofs.Ytbliiejdmgnkgaa
open Go Go.Proofs.Ytbliiejdmgnkgaa.Pv
set_option linter.unusedSimpArgs false
set_option linter.unusedVariables false
theorem ints_append (xs ys : List Int) : ints xs ++ ints ys = ints (xs ++ ys) := by simp [ints]
theorem fc7 (f n m : Int) (xs : List Int) : FCs 7 [.agg [.int .i64 f, .int .i64 n], .sl 1 (ints xs), .int .i64 m] (.bool true) := by
  refine FCs.intro [(25, 25)] [0,1,2,3,6,7] (fun A => [.agg [.int .i64 f, .int .i64 n], .sl 1 (A.e fun _ => ints xs), .int .i64 m]) Try.func7 rfl Try.call7 (by kernel_rfl) (by simp [Try.f7]) rfl ?_
  intro A hA
  cbv
  refine CallV.intro _ fc9 rfl rfl ?_
  cbv
  refine splitFalse (by subst hA; rfl) ?_
  cbv
  refine splitBool (fun h1 => ?_) (fun h1 => ?_)
  · cbv
    refine CallV.intro _ fc9 rfl rfl ?_
    cbv
    subst hA
    exact rfl
  · have hl : xs.length ≤ 60 := by subst hA; simp [ar, ints] at h1; simp only [ncast] at *; omega
    cbv
    refine splitBool (fun h2 => ?_) (fun h2 => ?_)
    · cbv
      refine CallV.intro _ fc9 rfl rfl ?_
      cbv
      subst hA
      exact rfl
    · have hne : xs ≠ [] := by intro e; subst e; subst hA; simp [ar, ints] at h2
      cbv
      refine ⟨⟨by subst hA; simp [ar, ints]; omega, trivial⟩, ⟨by subst hA; simp [ar, ints]; omega, trivial⟩, ?_⟩
      refine CallV.int _ _ (by
        subst hA
        have := fc12 f n (xs ++ [m]) (by simp; omega)
        rw [← ints_append] at this
        exact this) rfl fun c hc => ?_
      cbv
      refine splitBool (fun h3 => ?_) (fun h3 => ?_)
      · cbv
        subst hA
        simp [ar] at h3 ⊢
      · cbv
        refine CallV.int _ _ (by subst hA; exact fc12 f n xs (by omega)) rfl fun d hd => ?_
        cbv
        subst hA
        simp only [ar] at h3 ⊢
        have := choose_added (f := f) (n := n) xs m hne
        rw [← hc, ← hd] at this
        rcases this with h | h
        · simp [h] at h3
        · simp [h]
theorem fc6 (f n k : Int) (xs : List Int) : FCs 6 [.agg [.int .i64 f, .int .i64 n], .sl 1 (ints xs), .int .i64 k] (.bool true) := by
  refine FCs.intro [(42, 42)] [0,1,2,3,6,7] (fun A => [.agg [.int .i64 f, .int .i64 n], .sl 1 (A.e fun _ => ints xs), .int .i64 k]) Try.func6 rfl Try.call6 (by kernel_rfl) (by simp [Try.f6]) rfl ?_
  intro A hA
  cbv
  refine CallV.intro _ fc9 rfl rfl ?_
  cbv
  refine splitFalse (by subst hA; rfl) ?_
  cbv
  refine splitBool (fun h1 => ?_) (fun h1 => ?_)
  · cbv
    refine CallV.intro _ fc9 rfl rfl ?_
    cbv
    subst hA
    exact rfl
  · have hl : xs.length ≤ 60 := by subst hA; simp [ar, ints] at h1; simp only [ncast] at *; omega
    cbv
    refine splitBool (fun h2 => ?_) (fun h2 => ?_)
    · cbv
      refine CallV.intro _ fc9 rfl rfl ?_
      cbv
      subst hA
      exact rfl
    · have hk0 : 0 ≤ k := by subst hA; simp [ar] at h2; exact h2
      cbv
      refine splitBool (fun h3 => ?_) (fun h3 => ?_)
      · cbv
        refine CallV.intro _ fc9 rfl rfl ?_
        cbv
        subst hA
        exact rfl
      · have hk1 : k < xs.length := by subst hA; simp [ar, ints] at h3; exact h3
        cbv
        refine CallV.int _ _ (by subst hA; exact fc12 f n xs (by omega)) rfl fun c hc => ?_
        cbv
        obtain ⟨x, hx, hx'⟩ := ints_at hk0 hk1
        refine ⟨[.int .i64 x], by subst hA; exact hx', hk0, ?_⟩
        cbv
        refine splitBool (fun h4 => ?_) (fun h4 => ?_)
        · cbv
          subst hA
          exact rfl
        · have hxc : x ≠ c := by subst hA; simpa [ar] using h4
          cbv
          have hkn : k.toNat < xs.length := by simp only [ncast] at *; omega
          have e1 : (ints xs).take k.toNat = ints (xs.take k.toNat) := by simp [ints, List.map_take]
          have e2 : (ints xs).drop (k + 1).toNat = ints (xs.drop (k + 1).toNat) := by simp [ints, List.map_drop]
          refine ⟨?_, ⟨?_, trivial⟩, ?_, ?_, ⟨?_, trivial⟩, ?_⟩
          · subst hA; simp only [ar, ints_len]; omega
          · subst hA; simp only [ar, List.length_drop, List.length_take, ints_len, List.length_nil]; omega
          · subst hA; simp only [ar, inI64]; simp only [ncast] at *; omega
          · subst hA; simp only [ar, ints_len]; simp only [ncast] at *; omega
          · subst hA; simp only [ar, List.length_drop, List.length_take, ints_len, List.length_nil, List.length_append]; omega
          · have hd : ∀ y ∈ xs.take k.toNat ++ xs.drop (k.toNat + 1), y ∈ xs := by
              intro y hy
              rcases List.mem_append.1 hy with h | h
              · exact List.mem_of_mem_take h
              · exact List.mem_of_mem_drop h
            have hne : xs ≠ [] := by intro e; subst e; simp at hkn
            have hcm : c ∈ xs.take k.toNat ++ xs.drop (k.toNat + 1) := by
              have h := (choose_best (f := f) (n := n) hne).1
              rw [← hc] at h
              obtain ⟨i, hi, hic⟩ := List.getElem_of_mem h
              have hik : i ≠ k.toNat := by
                intro e; subst e
                rw [List.getElem?_eq_getElem hi] at hx
                exact hxc ((Option.some.inj hx).symm.trans hic)
              rw [List.mem_append]
              rcases Nat.lt_or_gt_of_ne hik with h1 | h1
              · left
                rw [← hic]
                exact List.mem_take_iff_getElem.2 ⟨i, by omega, rfl⟩
              · right
                rw [← hic]
                exact List.mem_drop_iff_getElem.2 ⟨i - (k.toNat + 1), by omega, by congr 1; omega⟩
            refine CallV.int .i64 (chooseI f n (xs.take k.toNat ++ xs.drop (k.toNat + 1))) (by
              subst hA
              have h := fc12 f n (xs.take k.toNat ++ xs.drop (k.toNat + 1)) (by simp; omega)
              rw [← ints_append, ← e1] at h
              have e3 : (k + 1).toNat = k.toNat + 1 := by omega
              rw [e3] at e2
              rw [← e2] at h
              have e4 : (ints xs).take xs.length = ints xs := List.take_of_length_le (by simp [ints])
              simp only [ar, ints_len, Int.toNat_natCast, e3, e4]
              exact h) rfl fun d hdd => ?_
            cbv
            subst hA
            have := choose_removed (f := f) (n := n) xs (xs.take k.toNat ++ xs.drop (k.toNat + 1)) hd (by rw [← hc]; exact hcm)
            rw [← hc, ← hdd] at this
            simp [ar, this]
end Go.Proofs.Ytbliiejdmgnkgaa
