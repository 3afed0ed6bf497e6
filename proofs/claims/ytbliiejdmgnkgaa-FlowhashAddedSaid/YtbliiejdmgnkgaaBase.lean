/-
  The layer of values: what an evaluator says of a function holds of every run of it. For every program of the model that meets the named conditions.
-/
import Derived.Test.YtbliiejdmgnkgaaPvS
import Derived.Test.YtbliiejdmgnkgaaProg
namespace Go.Proofs.Ytbliiejdmgnkgaa
open Go Go.Proofs.Ytbliiejdmgnkgaa.Pv
/-- what the evaluator knows of the types of this translation -/
def tlist : List (Nat × TD) := [
  (1, .func),
  (2, .int .i64),
  (3, .int .i64),
  (4, .bool),
  (5, .int .u8),
  (6, .int .u8),
  (7, .struct [(0, 1, false), (1, 1, false), (2, 1, false), (3, 1, false)] [.int .i64 0, .int .i64 0, .bool false, .int .u8 0] false),
  (8, .struct [(0, 1, false), (1, 1, false), (2, 1, false), (3, 1, false)] [.int .i64 0, .int .i64 0, .bool false, .int .u8 0] false),
  (9, .str),
  (10, .str),
  (11, .str),
  (12, .int .u64),
  (13, .struct [(0, 1, false), (1, 1, false)] [.str ⟨#[]⟩, .int .u64 0] false),
  (14, .struct [(0, 1, false), (1, 1, false)] [.str ⟨#[]⟩, .int .u64 0] false),
  (15, .ptr),
  (16, .ptr),
  (17, .ptr),
  (18, .struct [(0, 1, false)] [.nilptr] false),
  (19, .struct [(0, 1, false)] [.nilptr] false),
  (21, .int .i32),
  (22, .func),
  (23, .int .u64),
  (24, .func),
  (25, .func),
  (26, .slice 3 1 8 [.int .i64 0]),
  (27, .func),
  (28, .func),
  (29, .struct [(0, 1, false), (1, 1, false)] [.int .i64 0, .int .i64 0] true),
  (30, .struct [(0, 1, false), (1, 1, false)] [.int .i64 0, .int .i64 0] true),
  (31, .func),
  (32, .func),
  (33, .int .u64),
  (34, .func),
  (35, .func),
  (36, .func),
  (37, .func),
  (38, .func),
  (39, .func),
  (40, .func),
  (41, .func),
  (42, .struct [(0, 1, false), (1, 1, false), (2, 1, false), (3, 1, false)] [.nilptr, .nilptr, .nilptr, .str ⟨#[]⟩] false),
  (43, .struct [(0, 1, false), (1, 1, false), (2, 1, false), (3, 1, false)] [.nilptr, .nilptr, .nilptr, .str ⟨#[]⟩] false),
  (44, .arr 0 1 false []),
  (47, .func),
  (48, .int .u32),
  (49, .int .u8),
  (50, .int .u8),
  (51, .func),
  (52, .ptr),
  (53, .int .i32),
  (54, .int .i32),
  (55, .struct [(0, 1, false), (1, 1, false), (2, 1, false), (3, 1, false), (4, 1, false), (5, 1, false), (6, 1, false), (7, 1, false), (8, 1, false), (9, 1, false), (10, 1, false)] [.int .u64 0, .int .u64 0, .int .u32 0, .int .u8 0, .int .u8 0, .int .u8 0, .int .u8 0, .nilfn, .nilptr, .int .i32 0, .int .i32 0] false),
  (56, .struct [(0, 1, false), (1, 1, false), (2, 1, false), (3, 1, false), (4, 1, false), (5, 1, false), (6, 1, false), (7, 1, false), (8, 1, false), (9, 1, false), (10, 1, false)] [.int .u64 0, .int .u64 0, .int .u32 0, .int .u8 0, .int .u8 0, .int .u8 0, .int .u8 0, .nilfn, .nilptr, .int .i32 0, .int .i32 0] false)]
def tenv (T : Nat) : TD := match aget tlist T with | some d => d | none => .other
theorem tlist_ok : (tlist.all fun x => tdCheck Try.prog x.1 x.2) = true := by kernel_rfl
theorem tenv_td : ∀ T, TDok Try.prog T (tenv T) := tenv_ok tlist tlist_ok
theorem mixed : Try.prog.follows .mixedOrders = true := by kernel_rfl
/-- contracts over this translation -/
structure FCs (f : Nat) (args : List PV) (r : PV) : Prop where
  out : FC Try.prog f args r
structure FSs (g : Nat) (caps : List PV) (xs : List (List PV)) : Prop where
  out : FSeq Try.prog g caps xs
structure FHs (f : Nat) (args : List PV) (hp : List (Nat × GObj)) (r : PV) (hp' : List (Nat × GObj)) : Prop where
  out : FH Try.prog f args hp r hp'
theorem FCs.intro (plan : List (Nat × Nat)) (vars : List Nat) (args' : Ar → List PV) {f : Nat} {fn : Func} {body : Code} {r : PV} (hf : Try.prog.funcs[f]? = some fn) (hb : fn.body = some body)
    (henter : ∀ (args : Array Value) (w : World), (callFunc f args).run Try.prog w = .ok (.enter f args) w)
    (hok : codeOk plan fn.ntmps [] body = true) (hargs : (args' ar).length ≤ fn.ntmps) (hrI : isImm r = true)
    (h : ∀ A : Ar, A = ar → wpcA A tenv FCs FHs FSs plan body (retK tenv fn.results.toList fun p s => A.q (frz s.hp p) fun _ => r) ⟨initVs (args' A) vars, [], []⟩) : FCs f (args' ar) r := by
  have h := h ar rfl
  rw [wpcA_eq] at h
  exact ⟨FC.intro tenv_td (fun _ _ _ h => h.out) (fun _ _ _ _ _ h => h.out) (fun _ _ _ h => h.out) mixed plan vars hf hb henter hok hargs hrI h⟩
theorem FHs.intro (plan : List (Nat × Nat)) (vars ro : List Nat) (args' : Ar → List PV) (hp' : Ar → List (Nat × GObj)) {f : Nat} {fn : Func} {body : Code} {hp2 : List (Nat × GObj)} {r : PV} (hf : Try.prog.funcs[f]? = some fn) (hb : fn.body = some body)
    (henter : ∀ (args : Array Value) (w : World), (callFunc f args).run Try.prog w = .ok (.enter f args) w)
    (hok : codeOk plan fn.ntmps ro body = true) (hargs : (args' ar).length ≤ fn.ntmps) (hpin : pinOk (args' ar) ro (hp' ar) = true)
    (h : ∀ A : Ar, A = ar → wpcA A tenv FCs FHs FSs plan body (retK tenv fn.results.toList fun p s => A.q p (fun _ => r) ∧ A.p (fun _ => subHp hp2 s.hp) ∧ A.p (fun _ => pinned (args' A) s ro)) ⟨initVs (args' A) vars, [], hp' A⟩) : FHs f (args' ar) (hp' ar) r hp2 := by
  have h := h ar rfl
  rw [wpcA_eq] at h
  exact ⟨FH.intro tenv_td (fun _ _ _ h => h.out) (fun _ _ _ _ _ h => h.out) (fun _ _ _ h => h.out) mixed plan vars ro hf hb henter hok hargs hpin h⟩
end Go.Proofs.Ytbliiejdmgnkgaa
