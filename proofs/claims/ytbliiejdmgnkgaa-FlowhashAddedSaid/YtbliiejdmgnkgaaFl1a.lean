/-
  The layer of values: what an evaluator says of a function holds of every run of it. For every program of the model that meets the named conditions.
-/
import Derived.Test.YtbliiejdmgnkgaaBase
namespace Go.Proofs.Ytbliiejdmgnkgaa
open Go Go.Proofs.Ytbliiejdmgnkgaa.Pv
set_option linter.unusedSimpArgs false
set_option linter.unusedVariables false
/-- x ^ x >> s, and times m -/
def xsh (x s : Int) : Int := IntKind.u64.wrap ((BitVec.ofInt IntKind.u64.bits x ^^^ BitVec.ofInt IntKind.u64.bits (x.fdiv (2 ^ min s.toNat IntKind.u64.bits))).toNat : Int)
def mixP (x s m : Int) : Int := IntKind.u64.wrap (xsh x s * m)
def wbase (f n a : Int) : Int := IntKind.u64.wrap (IntKind.u64.wrap (IntKind.u64.wrap (IntKind.u64.wrap f * 11400714819323198485) + IntKind.u64.wrap (IntKind.u64.wrap n * 13787848793156543929)) + IntKind.u64.wrap (IntKind.u64.wrap a * 10723151780598845931))
def weight (f n a : Int) : Int := xsh (mixP (mixP (wbase f n a) 30 13787848793156543929) 27 10723151780598845931) 31
theorem mixP_one (x s : Int) : mixP x s 1 = xsh x s := by
  have : ∀ y : Int, IntKind.u64.wrap (IntKind.u64.wrap y) = IntKind.u64.wrap y := by intro y; simp [IntKind.wrap, IntKind.signed, IntKind.bits]
  simp only [mixP, xsh, Int.mul_one, this]
theorem fc10 (f n a : Int) : FCs 10 [.int .i64 f, .int .i64 n, .int .i64 a] (.int .u64 (weight f n a)) := by
  refine FCs.intro [] [0,1,2,6,7] (fun _ => [.int .i64 f, .int .i64 n, .int .i64 a]) Try.func10 rfl Try.call10 (by kernel_rfl) (by simp [Try.f10]) rfl ?_
  intro A hA
  cbv
  subst hA
  exact ⟨(by decide : (0:Int) ≤ 30), (by decide : (0:Int) ≤ 27), (by decide : (0:Int) ≤ 31), rfl⟩
theorem fc14 (x s m : Int) (hs : 0 ≤ s) : FCs 14 [.int .u64 x, .int .u64 s, .int .u64 m] (.int .u64 (mixP x s m)) := by
  refine FCs.intro [] [0,1,2,6,7] (fun _ => [.int .u64 x, .int .u64 s, .int .u64 m]) Try.func14 rfl Try.call14 (by kernel_rfl) (by simp [Try.f14]) rfl ?_
  intro A hA
  cbv
  subst hA
  exact ⟨hs, rfl⟩
theorem fc11 (f n a : Int) : FCs 11 [.int .i64 f, .int .i64 n, .int .i64 a] (.int .u64 (weight f n a)) := by
  refine FCs.intro [] [0,1,2,6,7] (fun _ => [.int .i64 f, .int .i64 n, .int .i64 a]) Try.func11 rfl Try.call11 (by kernel_rfl) (by simp [Try.f11]) rfl ?_
  intro A hA
  cbv
  refine CallV.int _ _ (fc14 _ _ _ (by decide)) rfl fun m1 h1 => ?_
  cbv
  refine CallV.int _ _ (fc14 _ _ _ (by decide)) rfl fun m2 h2 => ?_
  cbv
  refine CallV.int _ _ (fc14 _ _ _ (by decide)) rfl fun m3 h3 => ?_
  cbv
  subst hA
  subst h1 h2
  rw [mixP_one] at h3
  subst h3
  exact rfl
theorem fc20 (x : Int) : FCs 20 [.int .u64 x] (.bool false) := by
  refine FCs.intro [] [0,2] (fun _ => [.int .u64 x]) Try.func20 rfl Try.call20 (by kernel_rfl) (by simp [Try.f20]) rfl ?_
  intro A hA
  cbv
  subst hA
  simp [ar]
theorem fc21 (x : Int) : FCs 21 [.int .i64 x] (.bool false) := by
  refine FCs.intro [] [0,2] (fun _ => [.int .i64 x]) Try.func21 rfl Try.call21 (by kernel_rfl) (by simp [Try.f21]) rfl ?_
  intro A hA
  cbv
  subst hA
  simp [ar]
def cmpI (x y : Int) : Int := if x < y then -1 else if y < x then 1 else 0
theorem fc18 (x y : Int) : FCs 18 [.int .u64 x, .int .u64 y] (.int .i64 (cmpI x y)) := by
  refine FCs.intro [] [0,1,4,5,6] (fun _ => [.int .u64 x, .int .u64 y]) Try.func18 rfl Try.call18 (by kernel_rfl) (by simp [Try.f18]) rfl ?_
  intro A hA
  cbv
  refine CallV.intro _ (fc20 x) rfl rfl ?_
  cbv
  refine CallV.intro _ (fc20 y) rfl rfl ?_
  cbv
  refine splitBool (fun h1 => ?_) (fun h1 => ?_)
  · skip
    cbv
    subst hA
    simp [ar] at h1 ⊢
    simp [cmpI, h1]
  · skip
    cbv
    refine splitBool (fun h2 => ?_) (fun h2 => ?_)
    · skip
      cbv
      subst hA
      simp [ar] at h1 h2 ⊢
      simp [cmpI, h1, h2]
      try omega
    · skip
      cbv
      subst hA
      simp [ar] at h1 h2 ⊢
      simp [cmpI, h1, h2]
      try omega
theorem fc19 (x y : Int) : FCs 19 [.int .i64 x, .int .i64 y] (.int .i64 (cmpI x y)) := by
  refine FCs.intro [] [0,1,4,5,6] (fun _ => [.int .i64 x, .int .i64 y]) Try.func19 rfl Try.call19 (by kernel_rfl) (by simp [Try.f19]) rfl ?_
  intro A hA
  cbv
  refine CallV.intro _ (fc21 x) rfl rfl ?_
  cbv
  refine CallV.intro _ (fc21 y) rfl rfl ?_
  cbv
  refine splitBool (fun h1 => ?_) (fun h1 => ?_)
  · skip
    cbv
    subst hA
    simp [ar] at h1 ⊢
    simp [cmpI, h1]
  · skip
    cbv
    refine splitBool (fun h2 => ?_) (fun h2 => ?_)
    · skip
      cbv
      subst hA
      simp [ar] at h1 h2 ⊢
      simp [cmpI, h1, h2]
      try omega
    · skip
      cbv
      subst hA
      simp [ar] at h1 h2 ⊢
      simp [cmpI, h1, h2]
      try omega
def orI : List Int → Int
  | [] => 0
  | x :: r => if x ≠ 0 then x else orI r
theorem fc17 (xs : List Int) (hl : xs.length ≤ 1000000) : FCs 17 [.sl 1 (ints xs)] (.int .i64 (orI xs)) := by
  refine FCs.intro [] [0,2,3,5,6,7,8] (fun A => [.sl 1 (A.e fun _ => ints xs)]) Try.func17 rfl Try.call17 (by kernel_rfl) (by simp [Try.f17]) rfl ?_
  intro A hA
  cbv
  refine LoopK.upd (Int × PV) (fun p => [(8, .int .i64 p.1), (5, p.2)]) (fun _ => []) (fun p => 0 ≤ p.1 ∧ p.1 ≤ xs.length ∧ orI xs = orI (xs.drop p.1.toNat)) (fun p => (xs.length - p.1).toNat) (0, .junk) ?_ ?_ ?_
  · simp [LeSt, leVs, leP, St.set, setVs, aget, subHp]
  · simp
  rintro ⟨i, v⟩ ⟨h0, h1, h2⟩
  dsimp only at h0 h1 h2
  cbv
  refine splitBool (fun h3 => ?_) (fun h3 => ?_)
  · skip
    have hlt : i < xs.length := by subst hA; simp only [ncast] at *; simpa [ar, ints_len] using h3
    obtain ⟨x, hx, hx'⟩ := ints_at h0 hlt
    have hdrop : xs.drop i.toNat = x :: xs.drop (i.toNat + 1) := by
      obtain ⟨hl, rfl⟩ := List.getElem?_eq_some_iff.1 hx
      exact List.drop_eq_getElem_cons hl
    cbv
    refine ⟨[.int .i64 x], by subst hA; exact hx', h0, ?_⟩
    cbv
    refine splitBool (fun h4 => ?_) (fun h4 => ?_)
    · skip
      cbv
      subst hA
      simp [ar] at h4 ⊢
      rw [h2, hdrop]
      simp [orI, h4]
    · skip
      cbv
      subst hA
      simp only [ar] at h4 ⊢
      simp only [ncast] at *
      refine ⟨by simp only [inI64]; omega, (i + 1, .int .i64 x), ⟨⟨by simp only []; omega, by simp only []; omega, ?_⟩, by simp only []; omega⟩, ?_⟩
      · have h5 : x = 0 := by simpa using h4
        rw [h2, hdrop]
        simp [orI, h5, show (i + 1).toNat = i.toNat + 1 by omega]
      · simp [LeSt, leVs, leP, St.set, setVs, aget, subHp]
  · skip
    have hge : ¬ i < xs.length := by subst hA; simp only [ncast] at *; simpa [ar, ints_len] using h3
    cbv
    subst hA
    simp only [ar]
    simp only [ncast] at *
    have h4 : xs.drop i.toNat = [] := List.drop_eq_nil_of_le (by omega)
    rw [h2, h4]
    rfl
def cmpW (f n a b : Int) : Int := orI [cmpI (weight f n a) (weight f n b), cmpI b a]
theorem fc16 (f n a b : Int) : FCs 16 [.int .i64 a, .int .i64 b, .ptr [.int .i64 f], .ptr [.int .i64 n]] (.int .i64 (cmpW f n a b)) := by
  refine FCs.intro [] [0,1,2,3,6] (fun _ => [.int .i64 a, .int .i64 b, .ptr [.int .i64 f], .ptr [.int .i64 n]]) Try.func16 rfl Try.call16 (by kernel_rfl) (by simp [Try.f16]) rfl ?_
  intro A hA
  cbv
  refine CallV.int _ _ (fc10 _ _ _) rfl fun m1 h1 => ?_
  cbv
  refine CallV.int _ _ (fc10 _ _ _) rfl fun m2 h2 => ?_
  cbv
  refine CallV.int _ _ (fc18 _ _) rfl fun m3 h3 => ?_
  cbv
  refine CallV.int _ _ (fc19 _ _) rfl fun m4 h4 => ?_
  cbv
  refine CallV.int _ _ (fc17 [m3, m4] (by simp)) rfl fun m5 h5 => ?_
  cbv
  subst hA h1 h2 h3 h4 h5
  exact rfl
/-- the better of two arcs -/
def better (f n : Int) (m x : Int) : Int := if 0 < cmpW f n x m then x else m
def chooseI (f n : Int) : List Int → Int
  | [] => -1
  | x :: r => r.foldl (better f n) x
end Go.Proofs.Ytbliiejdmgnkgaa
