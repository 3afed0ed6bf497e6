/-
  The layer of values: what an evaluator says of a function holds of every run of it. For every program of the model that meets the named conditions.
-/
import Derived.Test.YtbliiejdmgnkgaaFl1c
namespace Go.Proofs.Ytbliiejdmgnkgaa
open Go Go.Proofs.Ytbliiejdmgnkgaa.Pv
/-- c is at least as good as y -/
def geA (f n c y : Int) : Prop := weight f n y < weight f n c ∨ weight f n y = weight f n c ∧ c ≤ y
theorem geA_trans {f n a b c : Int} (h : geA f n a b) (h' : geA f n b c) : geA f n a c := by unfold geA at *; omega
theorem geA_antisymm {f n a b : Int} (h : geA f n a b) (h' : geA f n b a) : a = b := by unfold geA at *; omega
theorem better_ge (f n m x : Int) : geA f n (better f n m x) m ∧ geA f n (better f n m x) x ∧ (better f n m x = m ∨ better f n m x = x) := by
  rw [better_eq]
  unfold geA
  split <;> omega
theorem foldl_ge (f n : Int) : ∀ (r : List Int) (m : Int), (r.foldl (better f n) m = m ∨ r.foldl (better f n) m ∈ r) ∧ geA f n (r.foldl (better f n) m) m ∧ ∀ y ∈ r, geA f n (r.foldl (better f n) m) y
  | [], m => ⟨.inl rfl, by simp [geA], by simp⟩
  | x :: r, m => by
    obtain ⟨h1, h2, h3⟩ := foldl_ge f n r (better f n m x)
    obtain ⟨b1, b2, b3⟩ := better_ge f n m x
    rw [List.foldl_cons]
    refine ⟨?_, geA_trans h2 b1, ?_⟩
    · rcases h1 with h1 | h1
      · rw [h1]
        rcases b3 with b3 | b3
        · exact .inl b3
        · rw [b3]; exact .inr (by simp)
      · exact .inr (by simp [h1])
    · intro y hy
      rcases List.mem_cons.1 hy with rfl | hy
      · exact geA_trans h2 b2
      · exact h3 y hy
theorem choose_best {f n : Int} {xs : List Int} (h : xs ≠ []) : chooseI f n xs ∈ xs ∧ ∀ y ∈ xs, geA f n (chooseI f n xs) y := by
  cases xs with
  | nil => exact absurd rfl h
  | cons x r =>
    obtain ⟨h1, h2, h3⟩ := foldl_ge f n r x
    refine ⟨?_, ?_⟩
    · rcases h1 with h1 | h1
      · simp only [chooseI]; rw [h1]; simp
      · simp only [chooseI]; exact List.mem_cons_of_mem _ h1
    · intro y hy
      rcases List.mem_cons.1 hy with rfl | hy
      · exact h2
      · exact h3 y hy
/-- a member that is as good as all others is the choice -/
theorem choose_eq {f n c : Int} {xs : List Int} (hc : c ∈ xs) (h : ∀ y ∈ xs, geA f n c y) : chooseI f n xs = c := by
  have hne : xs ≠ [] := by intro e; rw [e] at hc; simp at hc
  obtain ⟨h1, h2⟩ := choose_best (f := f) (n := n) hne
  exact geA_antisymm (h2 c hc) (h _ h1)
theorem choose_turned {f n : Int} (xs ys : List Int) (h : ∀ y ∈ ys, y ∈ xs) : chooseI f n (ys ++ xs) = chooseI f n xs := by
  by_cases hx : xs = []
  · subst hx
    cases ys with
    | nil => rfl
    | cons y ys => exact absurd (h y (by simp)) (by simp)
  · obtain ⟨h1, h2⟩ := choose_best (f := f) (n := n) hx
    refine choose_eq (by simp [h1]) fun y hy => ?_
    rcases List.mem_append.1 hy with hy | hy
    · exact h2 y (h y hy)
    · exact h2 y hy
/-- another arc taken away: the choice stays -/
theorem choose_removed {f n : Int} (xs ys : List Int) (h : ∀ y ∈ ys, y ∈ xs) (hc : chooseI f n xs ∈ ys) : chooseI f n ys = chooseI f n xs := by
  have hx : xs ≠ [] := by intro e; subst e; exact absurd (h _ hc) (by simp)
  obtain ⟨h1, h2⟩ := choose_best (f := f) (n := n) hx
  exact choose_eq hc fun y hy => h2 y (h y hy)
/-- an arc more: the choice stays, or is the new arc -/
theorem choose_added {f n : Int} (xs : List Int) (m : Int) (_hx : xs ≠ []) : chooseI f n (xs ++ [m]) = m ∨ chooseI f n (xs ++ [m]) = chooseI f n xs := by
  obtain ⟨h1, h2⟩ := choose_best (f := f) (n := n) (xs := xs ++ [m]) (by simp)
  rcases List.mem_append.1 h1 with h | h
  · right
    exact (choose_eq h fun y hy => h2 y (List.mem_append_left _ hy)).symm
  · left; simpa using h
end Go.Proofs.Ytbliiejdmgnkgaa
