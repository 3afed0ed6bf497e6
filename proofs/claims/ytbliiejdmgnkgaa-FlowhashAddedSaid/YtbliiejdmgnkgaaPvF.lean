/-
  The layer of values: what an evaluator says of a function holds of every run of it. For every program of the model that meets the named conditions.
-/
import Derived.Test.YtbliiejdmgnkgaaPvE
import Derived.CallsIn
import Derived.ControlIn
import Derived.OrdersIn
import Derived.TacticsIn
import Derived.Sort.LoopGhostIn
namespace Go.Proofs.Ytbliiejdmgnkgaa.Pv
open Go

section
variable {P : Program} {w : World}

/-- the fence that asks nothing: of a function's own frame (none), or of a round's of a loop over a function -/
abbrev FnR (ρ : Option Nat) : Fence := { Fence.wide with round := ρ }

theorem sem_of_run {ρ : Option Nat} {o : Oper} {a : Act} {x : Next} {w' : World} (hx : ∀ d, x ≠ .defer d) (h : (execOp a.eval o).run P w = .ok x w') : (o.semAt ρ a.eval).run P w = .ok x w' := by
  rw [Oper.semAt_eq]
  · exact h
  · intro c hc
    simp only [execOp, hc, Sem.run_bind] at h
    cases hr : (resolve a.eval c o.type).run P w with
    | ok d w2 =>
      rw [hr] at h
      simp only [Result.andThen_ok, Sem.run_pure, Result.ok.injEq] at h
      exact hx _ h.1.symm
    | halt d w2 =>
      rw [hr] at h
      simp [Result.andThen] at h

theorem wpIn_of_sem {ρ : Option Nat} {o : Oper} {a : Act} {x : Next} {w' : World} {next : Act → World → Prop} {Q : Exit → Act → World → Prop} (hx : ∀ d, x ≠ .defer d)
    (h : (execOp a.eval o).run P w = .ok x w') (hn : o.uponIn (FnR ρ) 0 P a next Q (.ok x w')) : o.wpIn (FnR ρ) 0 P a w next Q := by
  unfold Oper.wpIn
  refine ⟨fun _ _ => trivial, ?_⟩
  have : (o.semAt (FnR ρ).round a.eval).run P w = .ok x w' := sem_of_run hx h
  rw [this]
  exact hn

theorem wp_of_run {ρ : Option Nat} {o : Oper} {a : Act} {v : Value} {w' : World} {next : Act → World → Prop} {Q : Exit → Act → World → Prop}
    (h : (execOp a.eval o).run P w = .ok (.value v) w') (hn : next (a.put o.dst v) w') : o.wpIn (FnR ρ) 0 P a w next Q :=
  wpIn_of_sem (by intro d; simp) h hn

theorem callsIn_of_calls {ρ : Option Nat} {n : Nat} {f : FuncId} {args : Array Value} {R : Ending → World → Prop} (h : Calls P f args w R) : CallsIn (FnR ρ) n P f args w R :=
  (callsIn_wide (n := n)).2 h

theorem foldl_set (off : Nat) : ∀ (vs : List Value) (k : Nat) (cells : Array Value), off + k + vs.length ≤ cells.size →
    (List.foldl (fun (cs : Array Value) (x : Value × Nat) => cs.setIfInBounds (off + x.2) x.1) cells (vs.zipIdx k)).toList =
      cells.toList.take (off + k) ++ vs ++ cells.toList.drop (off + k + vs.length)
  | [], k, cells, h => by simp
  | v :: vs, k, cells, h => by
    simp only [List.length_cons] at h
    rw [List.zipIdx_cons, List.foldl_cons, foldl_set off vs (k + 1) (cells.setIfInBounds (off + k) v) (by simp; omega)]
    simp only [Array.toList_setIfInBounds, List.length_cons]
    have hk : off + k < cells.toList.length := by simp; omega
    have e1 : (cells.toList.set (off + k) v).take (off + (k + 1)) = cells.toList.take (off + k) ++ [v] := by
      rw [← Nat.add_assoc, List.take_succ_eq_append_getElem (by simpa using hk)]
      simp [List.take_set_of_le]
    have e2 : (cells.toList.set (off + k) v).drop (off + (k + 1) + vs.length) = cells.toList.drop (off + k + (vs.length + 1)) := by
      rw [List.drop_set_of_lt (by omega)]
      congr 1
      omega
    rw [e1, e2]
    simp

theorem fill_append {place : Nat → Option (Nat × Nat)} (cells : Array Value) (i : Nat) (v : Value) (r : List (Nat × Value)) (off sz : Nat) (hp : place i = some (off, sz)) (hs : v.cells.size = sz)
    (hl : off + sz ≤ cells.size) : Instr.fill place cells ((i, v) :: r) = Instr.fill place ((cells.toList.take off ++ v.cells.toList ++ cells.toList.drop (off + v.cells.toList.length)).toArray) r := by
  have hf : Array.foldl (fun (cs : Array Value) (x : Value × Nat) => match x with | (c, j) => cs.setIfInBounds (off + j) c) cells v.cells.zipIdx =
      (cells.toList.take off ++ v.cells.toList ++ cells.toList.drop (off + v.cells.toList.length)).toArray := by
    have := foldl_set off v.cells.toList 0 cells (by simp; omega)
    rw [← Array.foldl_toList, Array.toList_zipIdx]
    apply Array.toList_inj.1
    simpa using this
  simp only [Instr.fill, hp]
  rw [if_neg (by simp; omega)]
  exact congrArg (fun c => Instr.fill place c r) hf

theorem binInt_run {op : BinOp} {k : IntKind} {x y : Int} {K : PV → Prop} (h : binInt op k x y K) (xT : TypeId) :
    ∃ p v, K p ∧ (binOp op xT (.int k x) (.int k y)).run P w = .ok v w ∧ ∀ M δ, RepS M δ p v := by
  have wr : ∀ n : Int, inI64 n → IntKind.i64.wrap n = n := by
    intro n hn
    unfold inI64 at hn
    exact IntWalk.i64_in _ (by omega)
  have I : ∀ (k : IntKind) (n : Int) (M : Mem) (δ : Nat → Value), RepS M δ (.int k n) (.int k n) := fun k n M δ => .imm _ _ (.int k n)
  have B : ∀ (b : Bool) (M : Mem) (δ : Nat → Value), RepS M δ (.bool b) (.bool b) := fun b M δ => .imm _ _ (.bool b)
  have beq : ∀ a b : Int, (a == b) = decide (a = b) := fun a b => by by_cases h : a = b <;> simp [h]
  cases op <;> simp only [binInt] at h
  case add =>
    split at h
    · exact ⟨_, .int .i64 (x + y), h.2, by simp [binOp, Op.intArith, wr _ h.1], I _ _⟩
    · exact ⟨_, _, h, by simp [binOp, Op.intArith], I _ _⟩
  case sub =>
    split at h
    · exact ⟨_, .int .i64 (x - y), h.2, by simp [binOp, Op.intArith, wr _ h.1], I _ _⟩
    · exact ⟨_, _, h, by simp [binOp, Op.intArith], I _ _⟩
  case mul =>
    split at h
    · exact ⟨_, .int .i64 (x * y), h.2, by simp [binOp, Op.intArith, wr _ h.1], I _ _⟩
    · exact ⟨_, _, h, by simp [binOp, Op.intArith], I _ _⟩
  case quo =>
    split at h
    · exact ⟨_, .int .i64 (x.tdiv y), h.2, by simp [binOp, Op.intDiv, h.1.1, wr _ h.1.2], I _ _⟩
    · exact ⟨_, _, h.2, by simp [binOp, Op.intDiv, h.1], I _ _⟩
  case rem => exact ⟨_, .int k (x.tmod y), h.2, by simp [binOp, Op.intDiv, h.1], I _ _⟩
  case eql => exact ⟨_, .bool (decide (x = y)), h, by simp [binOp, Op.intCmp, beq], B _⟩
  case neq => exact ⟨_, .bool (!decide (x = y)), h, by simp [binOp, Op.intCmp, bne, beq], B _⟩
  case lss => exact ⟨_, .bool (decide (x < y)), h, by simp [binOp, Op.intCmp], B _⟩
  case leq => exact ⟨_, .bool (decide (x ≤ y)), h, by simp [binOp, Op.intCmp], B _⟩
  case gtr => exact ⟨_, .bool (decide (y < x)), h, by simp [binOp, Op.intCmp], B _⟩
  case geq => exact ⟨_, .bool (decide (y ≤ x)), h, by simp [binOp, Op.intCmp], B _⟩
  case and => exact ⟨_, _, h, by simp [binOp, Op.intBits], I _ _⟩
  case or => exact ⟨_, _, h, by simp [binOp, Op.intBits], I _ _⟩
  case xor => exact ⟨_, _, h, by simp [binOp, Op.intBits], I _ _⟩

end
end Go.Proofs.Ytbliiejdmgnkgaa.Pv
