/-
  The types of this translation, and what a contract over it is. No condition.
-/
import Derived.Test.YtogehfalhodapaaPv2
import Derived.Test.YtogehfalhodapaaProg
namespace Go.Proofs.Ytogehfalhodapaa
open Go Go.Proofs.Ytogehfalhodapaa.Pv
/-- what the evaluator knows of the types of this translation -/
def tlist : List (Nat × TD) := [
  (1, .func),
  (2, .int .i64),
  (3, .int .i64),
  (4, .bool),
  (5, .int .u8),
  (6, .int .u8),
  (7, .struct [(0, 1, false), (1, 1, false), (2, 1, false), (3, 1, false)] [.int .i64 0, .int .i64 0, .bool false, .int .u8 0] false),
  (8, .struct [(0, 1, false), (1, 1, false), (2, 1, false), (3, 1, false)] [.int .i64 0, .int .i64 0, .bool false, .int .u8 0] false),
  (9, .str),
  (10, .str),
  (11, .str),
  (12, .int .u64),
  (13, .struct [(0, 1, false), (1, 1, false)] [.str ⟨#[]⟩, .int .u64 0] false),
  (14, .struct [(0, 1, false), (1, 1, false)] [.str ⟨#[]⟩, .int .u64 0] false),
  (15, .ptr),
  (16, .ptr),
  (17, .ptr),
  (18, .struct [(0, 1, false)] [.nilptr] false),
  (19, .struct [(0, 1, false)] [.nilptr] false),
  (21, .int .i32),
  (22, .slice 4 1 1 [.bool false]),
  (23, .slice 51 7 56 [.int .i64 0, .int .i64 0, .int .i64 0, .int .i64 0, .int .i64 0, .int .i64 0, .int .i64 0]),
  (24, .struct [(0, 1, false), (1, 1, false), (2, 1, false)] [.int .i64 0, .nilsl, .nilsl] false),
  (25, .struct [(0, 1, false), (1, 1, false), (2, 1, false)] [.int .i64 0, .nilsl, .nilsl] false),
  (26, .slice 3 1 8 [.int .i64 0]),
  (27, .slice 43 2 16 [.int .i64 0, .int .i64 0]),
  (28, .struct [(0, 3, true), (3, 1, false), (4, 1, false), (5, 1, false), (6, 1, false)] [.int .i64 0, .nilsl, .nilsl, .nilsl, .int .i64 0, .nilsl, .nilsl] false),
  (29, .struct [(0, 3, true), (3, 1, false), (4, 1, false), (5, 1, false), (6, 1, false)] [.int .i64 0, .nilsl, .nilsl, .nilsl, .int .i64 0, .nilsl, .nilsl] false),
  (30, .func),
  (31, .func),
  (32, .int .i64),
  (34, .func),
  (35, .func),
  (37, .func),
  (39, .func),
  (40, .func),
  (41, .func),
  (42, .struct [(0, 1, false), (1, 1, false)] [.int .i64 0, .int .i64 0] true),
  (43, .struct [(0, 1, false), (1, 1, false)] [.int .i64 0, .int .i64 0] true),
  (45, .func),
  (46, .func),
  (47, .func),
  (48, .func),
  (49, .arr 2 1 false [.int .i64 0, .int .i64 0]),
  (50, .struct [(0, 1, false), (1, 1, false), (2, 2, true), (4, 1, false), (5, 1, false), (6, 1, false)] [.int .i64 0, .int .i64 0, .int .i64 0, .int .i64 0, .int .i64 0, .int .i64 0, .int .i64 0] false),
  (51, .struct [(0, 1, false), (1, 1, false), (2, 2, true), (4, 1, false), (5, 1, false), (6, 1, false)] [.int .i64 0, .int .i64 0, .int .i64 0, .int .i64 0, .int .i64 0, .int .i64 0, .int .i64 0] false),
  (52, .func),
  (53, .struct [(0, 3, true), (3, 1, false)] [.int .i64 0, .nilsl, .nilsl, .nilsl] false),
  (54, .struct [(0, 3, true), (3, 1, false)] [.int .i64 0, .nilsl, .nilsl, .nilsl] false),
  (55, .func),
  (56, .func),
  (57, .func),
  (58, .func),
  (59, .func),
  (60, .func),
  (61, .func),
  (62, .func),
  (63, .func),
  (64, .func),
  (65, .func),
  (66, .func),
  (67, .func),
  (68, .func),
  (69, .func),
  (70, .func),
  (71, .func),
  (73, .func),
  (74, .func),
  (75, .func),
  (76, .func),
  (77, .func),
  (78, .func),
  (79, .func),
  (80, .arr 5 1 false [.str ⟨#[]⟩, .str ⟨#[]⟩, .str ⟨#[]⟩, .str ⟨#[]⟩, .str ⟨#[]⟩]),
  (81, .func),
  (82, .func),
  (83, .func),
  (84, .func),
  (85, .func),
  (86, .func),
  (87, .struct [(0, 1, false), (1, 1, false)] [.nilfn, .nilfn] false),
  (88, .struct [(0, 1, false), (1, 1, false)] [.nilfn, .nilfn] false),
  (89, .func),
  (90, .struct [(0, 3, true), (3, 1, false), (4, 1, false), (5, 1, false)] [.int .i64 0, .nilsl, .nilsl, .nilsl, .int .i64 0, .nilsl] false),
  (91, .struct [(0, 3, true), (3, 1, false), (4, 1, false), (5, 1, false)] [.int .i64 0, .nilsl, .nilsl, .nilsl, .int .i64 0, .nilsl] false),
  (93, .func),
  (94, .func),
  (95, .func),
  (96, .func),
  (97, .func),
  (98, .func),
  (99, .func),
  (100, .int .u64),
  (101, .ptr),
  (103, .func),
  (104, .func),
  (106, .func),
  (108, .func),
  (109, .func),
  (110, .func),
  (111, .func),
  (112, .slice 5 1 1 [.int .u8 0]),
  (113, .struct [(0, 1, false), (1, 1, false), (2, 1, false)] [.nilsl, .nilsl, .nilsl] false),
  (114, .struct [(0, 1, false), (1, 1, false), (2, 1, false)] [.nilsl, .nilsl, .nilsl] false),
  (115, .func),
  (116, .func),
  (117, .func),
  (118, .func),
  (119, .func),
  (120, .int .u64),
  (121, .func),
  (122, .struct [(0, 1, false), (1, 1, false), (2, 1, false), (3, 1, false)] [.nilptr, .nilptr, .nilptr, .str ⟨#[]⟩] false),
  (123, .struct [(0, 1, false), (1, 1, false), (2, 1, false), (3, 1, false)] [.nilptr, .nilptr, .nilptr, .str ⟨#[]⟩] false),
  (124, .arr 0 1 false []),
  (127, .func),
  (128, .int .u32),
  (129, .int .u8),
  (130, .int .u8),
  (131, .func),
  (132, .ptr),
  (133, .int .i32),
  (134, .int .i32),
  (135, .struct [(0, 1, false), (1, 1, false), (2, 1, false), (3, 1, false), (4, 1, false), (5, 1, false), (6, 1, false), (7, 1, false), (8, 1, false), (9, 1, false), (10, 1, false)] [.int .u64 0, .int .u64 0, .int .u32 0, .int .u8 0, .int .u8 0, .int .u8 0, .int .u8 0, .nilfn, .nilptr, .int .i32 0, .int .i32 0] false),
  (136, .struct [(0, 1, false), (1, 1, false), (2, 1, false), (3, 1, false), (4, 1, false), (5, 1, false), (6, 1, false), (7, 1, false), (8, 1, false), (9, 1, false), (10, 1, false)] [.int .u64 0, .int .u64 0, .int .u32 0, .int .u8 0, .int .u8 0, .int .u8 0, .int .u8 0, .nilfn, .nilptr, .int .i32 0, .int .i32 0] false)]
def tenv (T : Nat) : TD := match aget tlist T with | some d => d | none => .other
theorem tlist_ok : (tlist.all fun x => tdCheck Try.prog x.1 x.2) = true := by kernel_rfl
theorem tenv_td : ∀ T, TDok Try.prog T (tenv T) := tenv_ok tlist tlist_ok
theorem mixed : Try.prog.follows .mixedOrders = true := by kernel_rfl
/-- contracts over this translation -/
structure FCs (f : Nat) (args : List PV) (r : PV) : Prop where
  out : FC Try.prog f args r
structure FSs (g : Nat) (caps : List PV) (xs : List (List PV)) : Prop where
  out : FSeq Try.prog g caps xs
structure FHs (f : Nat) (args : List PV) (hp : List (Nat × GObj)) (r : PV) (hp' : List (Nat × GObj)) : Prop where
  out : FH Try.prog f args hp r hp'
theorem FCs.intro (plan : List (Nat × Nat)) (vars : List Nat) (args' : Ar → List PV) {f : Nat} {fn : Func} {body : Code} {r : PV} (hf : Try.prog.funcs[f]? = some fn) (hb : fn.body = some body)
    (henter : ∀ (args : Array Value) (w : World), (callFunc f args).run Try.prog w = .ok (.enter f args) w)
    (hok : codeOk plan fn.ntmps [] body = true) (hargs : (args' ar).length ≤ fn.ntmps)
    (h : ∀ A : Ar, A = ar → wpcA A tenv FCs FHs FSs plan body (retK tenv fn.results.toList fun p s => A.q (frz s.hp p) fun _ => r) ⟨initVs (args' A) vars, [], []⟩) : FCs f (args' ar) r := by
  have h := h ar rfl
  rw [wpcA_eq] at h
  exact ⟨FC.intro tenv_td (fun _ _ _ h => h.out) (fun _ _ _ _ _ h => h.out) (fun _ _ _ h => h.out) mixed plan vars hf hb henter hok hargs h⟩
theorem FHs.intro (plan : List (Nat × Nat)) (vars ro : List Nat) (args' : Ar → List PV) (hp' : Ar → List (Nat × GObj)) {f : Nat} {fn : Func} {body : Code} {hp2 : List (Nat × GObj)} {r : PV} (hf : Try.prog.funcs[f]? = some fn) (hb : fn.body = some body)
    (henter : ∀ (args : Array Value) (w : World), (callFunc f args).run Try.prog w = .ok (.enter f args) w)
    (hok : codeOk plan fn.ntmps ro body = true) (hargs : (args' ar).length ≤ fn.ntmps) (hpin : pinOk (args' ar) ro (hp' ar) = true)
    (h : ∀ A : Ar, A = ar → wpcA A tenv FCs FHs FSs plan body (retK tenv fn.results.toList fun p s => A.e2 p (fun _ => r) ∧ A.p (fun _ => subHp hp2 s.hp) ∧ A.p (fun _ => pinned (args' A) s ro)) ⟨initVs (args' A) vars, [], hp' A⟩) : FHs f (args' ar) (hp' ar) r hp2 := by
  have h := h ar rfl
  rw [wpcA_eq] at h
  exact ⟨FH.intro tenv_td (fun _ _ _ h => h.out) (fun _ _ _ _ _ h => h.out) (fun _ _ _ h => h.out) mixed plan vars ro hf hb henter hok hargs hpin h⟩
end Go.Proofs.Ytogehfalhodapaa
