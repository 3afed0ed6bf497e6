/-
  The layer of values: what an evaluator says of a function holds of every run of it. For every program of the model that meets the named conditions.
-/
import Derived.Test.YtbliiejdmgnkgaaFl1a
namespace Go.Proofs.Ytbliiejdmgnkgaa
open Go Go.Proofs.Ytbliiejdmgnkgaa.Pv
theorem wrap_bv (n : Int) : IntKind.u64.wrap n = ((BitVec.ofInt 64 n).toNat : Int) := by
  simp only [IntKind.wrap, IntKind.signed, IntKind.bits, BitVec.toNat_ofInt]
  simp
  omega
def mixB (x : BitVec 64) (s : Nat) : BitVec 64 := x ^^^ (x >>> s)
theorem mixB_inj (s : Nat) (hs : 0 < s) (x y : BitVec 64) (h : mixB x s = mixB y s) : x = y := by
  have key : ∀ k i, 64 ≤ i + k → x.getLsbD i = y.getLsbD i := by
    intro k
    induction k with
    | zero => intro i hi; rw [BitVec.getLsbD_of_ge x i (by omega), BitVec.getLsbD_of_ge y i (by omega)]
    | succ k ih =>
      intro i hi
      have e := congrArg (fun b => b.getLsbD i) h
      simp only [mixB, BitVec.getLsbD_xor, BitVec.getLsbD_ushiftRight] at e
      rw [ih (s + i) (by omega)] at e
      simpa using e
  exact BitVec.eq_of_getLsbD_eq fun i _ => key 64 i (by omega)
theorem mul_inj {m v x y : BitVec 64} (hv : m * v = 1#64) (h : x * m = y * m) : x = y := by
  have := congrArg (· * v) h
  simpa only [BitVec.mul_assoc, hv, BitVec.mul_one] using this
theorem xsh_bv (x : BitVec 64) (s : Nat) (hs : s ≤ 64) : xsh (x.toNat : Int) (s : Int) = ((mixB x s).toNat : Int) := by
  unfold xsh
  rw [wrap_bv]
  simp only [IntKind.bits]
  have h1 : BitVec.ofInt 64 (x.toNat : Int) = x := by simp
  have h2 : BitVec.ofInt 64 ((x.toNat : Int).fdiv (2 ^ min ((s : Int).toNat) 64)) = x >>> s := by
    have : (x.toNat : Int).fdiv (2 ^ min ((s : Int).toNat) 64) = ((x.toNat >>> s : Nat) : Int) := by
      rw [show min ((s : Int).toNat) 64 = s by omega, Int.fdiv_eq_ediv_of_nonneg _ (Int.pow_nonneg (by omega)), Nat.shiftRight_eq_div_pow]
      simp
    rw [this]
    apply BitVec.eq_of_toNat_eq
    have hlt := Nat.lt_of_le_of_lt (Nat.shiftRight_le x.toNat s) x.isLt
    rw [BitVec.toNat_ofInt, BitVec.toNat_ushiftRight]
    generalize x.toNat >>> s = k at hlt
    omega
  rw [h1, h2]
  have h3 : BitVec.ofInt 64 ((mixB x s).toNat : Int) = mixB x s := by simp
  exact congrArg (fun b : BitVec 64 => (b.toNat : Int)) h3
theorem mixP_bv (x : BitVec 64) (s : Nat) (hs : s ≤ 64) (m : BitVec 64) : mixP (x.toNat : Int) (s : Int) (m.toNat : Int) = ((mixB x s * m).toNat : Int) := by
  unfold mixP
  rw [xsh_bv x s hs, wrap_bv, BitVec.ofInt_mul]
  simp
def wB (x : BitVec 64) : BitVec 64 := mixB (mixB (mixB x 30 * 13787848793156543929#64) 27 * 10723151780598845931#64) 31
theorem weight_bv (f n a : Int) : weight f n a = ((wB (BitVec.ofInt 64 f * 11400714819323198485#64 + BitVec.ofInt 64 n * 13787848793156543929#64 + BitVec.ofInt 64 a * 10723151780598845931#64)).toNat : Int) := by
  generalize hx : BitVec.ofInt 64 f * 11400714819323198485#64 + BitVec.ofInt 64 n * 13787848793156543929#64 + BitVec.ofInt 64 a * 10723151780598845931#64 = x
  have hb : wbase f n a = (x.toNat : Int) := by
    rw [← hx]
    unfold wbase
    have k : ∀ (y : BitVec 64), BitVec.ofInt 64 (y.toNat : Int) = y := by intro y; simp
    have k1 : BitVec.ofInt 64 11400714819323198485 = 11400714819323198485#64 := by decide
    have k2 : BitVec.ofInt 64 13787848793156543929 = 13787848793156543929#64 := by decide
    have k3 : BitVec.ofInt 64 10723151780598845931 = 10723151780598845931#64 := by decide
    simp only [wrap_bv, BitVec.ofInt_mul, BitVec.ofInt_add, k, k1, k2, k3]
  unfold weight
  rw [hb]
  have e1 : ((30 : Nat) : Int) = 30 := by decide
  have e2 : ((27 : Nat) : Int) = 27 := by decide
  have e3 : ((31 : Nat) : Int) = 31 := by decide
  have e4 : ((13787848793156543929#64).toNat : Int) = 13787848793156543929 := by decide
  have e5 : ((10723151780598845931#64).toNat : Int) = 10723151780598845931 := by decide
  rw [← e1, ← e4, mixP_bv x 30 (by omega)]
  generalize hy : mixB x 30 * 13787848793156543929#64 = y
  rw [← e2, ← e5, mixP_bv y 27 (by omega)]
  generalize hz : mixB y 27 * 10723151780598845931#64 = z
  rw [← e3, xsh_bv z 31 (by omega)]
  rw [← hz, ← hy, wB]
theorem wB_inj {x y : BitVec 64} (h : wB x = wB y) : x = y := by
  have h := mixB_inj 31 (by omega) _ _ h
  have h := mul_inj (v := 3573116690164977347#64) (by decide) h
  have h := mixB_inj 27 (by omega) _ _ h
  have h := mul_inj (v := 10871156337175269513#64) (by decide) h
  exact mixB_inj 30 (by omega) _ _ h
/-- a number fits an int -/
def isI64 (n : Int) : Prop := -9223372036854775808 ≤ n ∧ n ≤ 9223372036854775807
theorem ofInt_inj {a b : Int} (ha : isI64 a) (hb : isI64 b) (h : BitVec.ofInt 64 a = BitVec.ofInt 64 b) : a = b := by
  have := congrArg BitVec.toInt h
  simp only [BitVec.toInt_ofInt] at this
  obtain ⟨a1, a2⟩ := ha
  obtain ⟨b1, b2⟩ := hb
  rwa [Int.bmod_eq_of_le (by omega) (by omega), Int.bmod_eq_of_le (by omega) (by omega)] at this
theorem weight_arc {f n a b : Int} (ha : isI64 a) (hb : isI64 b) : weight f n a = weight f n b ↔ a = b := by
  refine ⟨fun h => ?_, fun h => by rw [h]⟩
  rw [weight_bv, weight_bv] at h
  have h := wB_inj (BitVec.eq_of_toNat_eq (Int.ofNat_inj.1 h))
  have h := (BitVec.add_right_inj _).1 h
  exact ofInt_inj ha hb (mul_inj (v := 3573116690164977347#64) (by decide) h)
theorem weight_flow {f g n a : Int} (ha : isI64 f) (hb : isI64 g) : weight f n a = weight g n a ↔ f = g := by
  refine ⟨fun h => ?_, fun h => by rw [h]⟩
  rw [weight_bv, weight_bv] at h
  have h := wB_inj (BitVec.eq_of_toNat_eq (Int.ofNat_inj.1 h))
  have h := (BitVec.add_left_inj _).1 ((BitVec.add_left_inj _).1 h)
  exact ofInt_inj ha hb (mul_inj (v := 17428512612931826493#64) (by decide) h)
end Go.Proofs.Ytbliiejdmgnkgaa
