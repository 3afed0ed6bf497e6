/-
  The layer of values: what an evaluator says of a function holds of every run of it. For every program of the model that meets the named conditions.
-/
import Derived.Test.YtbliiejdmgnkgaaPvR
namespace Go.Proofs.Ytbliiejdmgnkgaa.Pv
open Go
theorem splitBool {c : Bool} {P Q : Prop} (h1 : c = true → P) (h0 : c = false → Q) : match (generalizing := false) c with | true => P | false => Q := by
  cases c
  · exact h0 rfl
  · exact h1 rfl
theorem splitTrue {c : Bool} {P Q : Prop} (h : c = true) (h1 : P) : match (generalizing := false) c with | true => P | false => Q := by
  subst h; exact h1
theorem splitFalse {c : Bool} {P Q : Prop} (h : c = false) (h1 : Q) : match (generalizing := false) c with | true => P | false => Q := by
  subst h; exact h1
/-- the evaluator opens the coercion: back again -/
theorem ncast (n : Nat) : @NatCast.natCast Int instNatCastInt n = @Nat.cast Int instNatCastInt n := rfl
/-! calls, told by the kind of their result: the result is named, so that it stays small -/
section
variable {C : Ctr} {f : Nat} {args args' : List PV} {k : PV → Prop}
theorem CallV.int (κ : IntKind) (n : Int) (h : C f args' (.int κ n)) (h1 : isImms args' = true) (h3 : ∀ m, m = n → k (.int κ m)) : CallV C f args args' k :=
  .intro _ h h1 (by simp [scalar]) (h3 n rfl)
theorem CallV.bool (n : Bool) (h : C f args' (.bool n)) (h1 : isImms args' = true) (h3 : ∀ m, m = n → k (.bool m)) : CallV C f args args' k :=
  .intro _ h h1 (by simp [scalar]) (h3 n rfl)
theorem CallV.sl (sz : Nat) (es : List (List PV)) (h : C f args' (.sl sz es)) (h1 : isImms args' = true) (h2 : isImms args = true) (h3 : ∀ m, m = es → k (.sl sz m)) : CallV C f args args' k :=
  .intro _ h h1 (by simp [h2]) (h3 es rfl)
end
/-- a slice of ints -/
def ints (xs : List Int) : List (List PV) := xs.map fun x => [.int .i64 x]
theorem ints_len (xs : List Int) : (ints xs).length = xs.length := by simp [ints]
theorem ints_get {xs : List Int} {i : Nat} {x : Int} (h : xs[i]? = some x) : (ints xs)[i]? = some [.int .i64 x] := by simp [ints, h]
theorem ints_imm (xs : List Int) : isImms (ints xs).flatten = true := by
  induction xs with
  | nil => rfl
  | cons x r ih => simpa [ints, isImms, isImm] using ih
/-- an index that lies within -/
theorem ints_at {xs : List Int} {n : Int} (h0 : 0 ≤ n) (h1 : n < xs.length) : ∃ x, xs[n.toNat]? = some x ∧ (ints xs)[n.toNat]? = some [.int .i64 x] := by
  have h : n.toNat < xs.length := by omega
  exact ⟨xs[n.toNat], by simp [h], ints_get (by simp [h])⟩
end Go.Proofs.Ytbliiejdmgnkgaa.Pv
