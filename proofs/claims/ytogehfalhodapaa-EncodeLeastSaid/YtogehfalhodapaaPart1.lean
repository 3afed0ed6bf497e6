/-
  Contracts of functions that the law reaches, and plain lemmas about what they compute. Conditions stand with each.
-/
import Derived.Test.YtogehfalhodapaaBase
namespace Go.Proofs.Ytogehfalhodapaa
open Go Go.Proofs.Ytogehfalhodapaa.Pv
set_option linter.unusedSimpArgs false
set_option linter.unusedVariables false
/-! plain data -/
structure Link where
  a : Int
  b : Int
  c0 : Int
  c1 : Int
  cap : Int
  delay : Int
  grp : Int
structure Topo where
  nodes : Int
  over : List Bool
  links : List Link
def bools (xs : List Bool) : List (List PV) := xs.map fun x => [.bool x]
def Link.cs (l : Link) : List PV := [.int .i64 l.a, .int .i64 l.b, .int .i64 l.c0, .int .i64 l.c1, .int .i64 l.cap, .int .i64 l.delay, .int .i64 l.grp]
def lks (xs : List Link) : List (List PV) := xs.map Link.cs
def Topo.pv (t : Topo) : PV := .agg [.int .i64 t.nodes, .sl 1 (bools t.over), .sl 7 (lks t.links)]
def Topo.pvA (A : Ar) (t : Topo) : PV := .agg [.int .i64 (A.i fun _ => t.nodes), .sl 1 (A.e fun _ => bools t.over), .sl 7 (A.e fun _ => lks t.links)]
theorem bools_len (xs : List Bool) : (bools xs).length = xs.length := by simp [bools]
theorem bools_get {xs : List Bool} {i : Nat} {x : Bool} (h : xs[i]? = some x) : (bools xs)[i]? = some [.bool x] := by simp [bools, h]
theorem lks_len (xs : List Link) : (lks xs).length = xs.length := by simp [lks]
theorem lks_get {xs : List Link} {i : Nat} {x : Link} (h : xs[i]? = some x) : (lks xs)[i]? = some x.cs := by simp [lks, h]
theorem lks_at {xs : List Link} {k : Nat} (h : k < xs.length) : ∃ l, xs[k]? = some l ∧ (lks xs)[k]? = some [.int .i64 l.a, .int .i64 l.b, .int .i64 l.c0, .int .i64 l.c1, .int .i64 l.cap, .int .i64 l.delay, .int .i64 l.grp] :=
  ⟨xs[k], by simp [h], lks_get (by simp [h])⟩
theorem bools_at {xs : List Bool} {k : Nat} (h : k < xs.length) : ∃ l, xs[k]? = some l ∧ (bools xs)[k]? = some [.bool l] :=
  ⟨xs[k], by simp [h], bools_get (by simp [h])⟩
theorem ints_atN {xs : List Int} {k : Nat} (h : k < xs.length) : ∃ l, xs[k]? = some l ∧ (ints xs)[k]? = some [.int .i64 l] :=
  ⟨xs[k], by simp [h], ints_get (by simp [h])⟩
/-! layer 9 -/
def within (n lo hi : Int) : Bool := decide (lo ≤ n) && decide (n ≤ hi)
def okLink (nodes : Int) (l : Link) : Bool :=
  within l.a 0 (nodes - 1) && within l.b 0 (nodes - 1) && !decide (l.a = l.b) && within l.c0 1 65535 && within l.c1 1 65535 && within l.cap 0 1048576 && within l.delay 1 65536 && within l.grp 0 64
def headOk (t : Topo) : Bool := within t.nodes 1 64 && (decide (t.over.length = 0) || decide ((t.over.length : Int) = t.nodes)) && !decide ((256 : Int) < t.links.length)
def valid (t : Topo) : Bool := headOk t && t.links.all (okLink t.nodes)
theorem c_inside (n lo hi : Int) : FCs 69 [.int .i64 n, .int .i64 lo, .int .i64 hi] (.bool (within n lo hi)) := by
  refine FCs.intro [] [0,1,2,6] (fun A => [.int .i64 n, .int .i64 lo, .int .i64 hi]) Try.func69 rfl Try.call69 (by kernel_rfl) (by simp [Try.f69]) ?_
  intro A hA
  cbv
  refine splitBool (fun h => ?_) (fun h => ?_)
  · cbv; subst hA; simp [ar] at h ⊢; simp [within, h]
  · cbv; subst hA; simp [ar] at h ⊢; simp [within]; omega
set_option maxHeartbeats 4000000 in
theorem c_proper (l : Link) (nodes : Int) (hn : inI64 (nodes - 1)) : FCs 75 [.agg l.cs, .int .i64 nodes] (.bool (okLink nodes l)) := by
  refine FCs.intro [] [0,1,2,4] (fun A => [.agg [.int .i64 l.a, .int .i64 l.b, .int .i64 l.c0, .int .i64 l.c1, .int .i64 l.cap, .int .i64 l.delay, .int .i64 l.grp], .int .i64 nodes]) Try.func75 rfl Try.call75 (by kernel_rfl) (by simp [Try.f75]) ?_
  intro A hA
  cbv
  refine And.intro (by subst hA; exact hn) ?_
  refine CallV.bool _ (c_inside _ _ _) rfl fun m1 h1 => ?_
  cbv
  refine splitBoolF (fun e1 => ?_) (fun e1 => ?_)
  · cbv
    subst hA; simp_all [ar, okLink]
  cbv
  refine And.intro (by subst hA; exact hn) ?_
  refine CallV.bool _ (c_inside _ _ _) rfl fun m2 h2 => ?_
  cbv
  refine splitBoolF (fun e2 => ?_) (fun e2 => ?_)
  · cbv
    subst hA; simp_all [ar, okLink]
  cbv
  refine splitBoolF (fun f1 => ?_) (fun f1 => ?_)
  · cbv
    subst hA; simp_all [ar, okLink]
  cbv
  refine CallV.bool _ (c_inside _ _ _) rfl fun m3 h3 => ?_
  cbv
  refine splitBoolF (fun e3 => ?_) (fun e3 => ?_)
  · cbv
    subst hA; simp_all [ar, okLink]
  cbv
  refine CallV.bool _ (c_inside _ _ _) rfl fun m4 h4 => ?_
  cbv
  refine splitBoolF (fun e4 => ?_) (fun e4 => ?_)
  · cbv
    subst hA; simp_all [ar, okLink]
  cbv
  refine CallV.bool _ (c_inside _ _ _) rfl fun m5 h5 => ?_
  cbv
  refine splitBoolF (fun e5 => ?_) (fun e5 => ?_)
  · cbv
    subst hA; simp_all [ar, okLink]
  cbv
  refine CallV.bool _ (c_inside _ _ _) rfl fun m6 h6 => ?_
  cbv
  refine splitBoolF (fun e6 => ?_) (fun e6 => ?_)
  · cbv
    subst hA; simp_all [ar, okLink]
  cbv
  refine CallV.bool _ (c_inside _ _ _) rfl fun m7 h7 => ?_
  cbv
  subst hA; simp_all [ar, okLink]
theorem all_take {α : Type} {f : α → Bool} {xs : List α} {k : Nat} {x : α} (h : (xs.take k).all f = true) (hx : xs[k]? = some x) (hf : f x = true) : (xs.take (k + 1)).all f = true := by
  rw [List.take_add_one, hx]; simp [h, hf]
theorem all_take_len {α : Type} {f : α → Bool} {xs : List α} (h : (xs.take xs.length).all f = true) : xs.all f = true := by
  rwa [List.take_length] at h
theorem all_not {α : Type} {f : α → Bool} {xs : List α} {k : Nat} {x : α} (hx : xs[k]? = some x) (hf : f x = false) : xs.all f = false := by
  cases h : xs.all f with
  | false => rfl
  | true => rw [List.all_eq_true] at h; rw [h x (List.mem_of_getElem? hx)] at hf; cases hf
theorem headOk_nodes {t : Topo} (h : headOk t = true) : 1 ≤ t.nodes ∧ t.nodes ≤ 64 ∧ t.links.length ≤ 256 := by
  simp [headOk, within] at h; omega
theorem valid_head {t : Topo} (h : valid t = true) : headOk t = true := by simp [valid] at h; exact h.1
theorem c_Valid (t : Topo) : FCs 61 [t.pv] (.bool (valid t)) := by
  refine FCs.intro [(4, 4), (100001, 0)] [0,1,2,4,28,30,31,32] (fun A => [t.pvA A]) Try.func61 rfl Try.call61 (by kernel_rfl) (by simp [Try.f61]) ?_
  intro A hA
  cbv
  refine CutC.upd Bool (fun b => [(28, .bool b)]) (fun _ => []) (fun b => b = !headOk t) ?_ ?_
  · cbv
    refine CallV.bool _ (c_inside _ _ _) rfl fun m1 h1 => ?_
    cbv
    refine splitBoolF (fun e1 => ?_) (fun e1 => ?_)
    · cbv
      refine splitBoolF (fun e2 => ?_) (fun e2 => ?_)
      · cbv
        refine ⟨_, rfl, ?_⟩
        simp [LeSt, leVs, leP, St.set, setVs, aget, subHp]
        subst hA; simp_all [ar, headOk, bools, lks]
      · cbv
        refine splitBoolF (fun e3 => ?_) (fun e3 => ?_)
        · cbv
          refine ⟨_, rfl, ?_⟩
          simp [LeSt, leVs, leP, St.set, setVs, aget, subHp]
          subst hA; simp_all [ar, headOk, bools, lks]
        · cbv
          refine ⟨_, rfl, ?_⟩
          simp [LeSt, leVs, leP, St.set, setVs, aget, subHp]
          subst hA; simp_all [ar, headOk, bools, lks]
    · cbv
      refine ⟨_, rfl, ?_⟩
      simp [LeSt, leVs, leP, St.set, setVs, aget, subHp]
      subst hA; simp_all [ar, headOk]
  · rintro x hx
    cbv
    refine splitBoolF (fun e1 => ?_) (fun e1 => ?_)
    · have hh : headOk t = true := by simpa [e1] using hx
      have hn := headOk_nodes hh
      cbv
      refine LoopK.upd Nat (fun k => [(32, .int .i64 k), (4, .junk)]) (fun _ => []) (fun k => k ≤ t.links.length ∧ (t.links.take k).all (okLink t.nodes) = true) (fun k => t.links.length - k) 0 ?_ ?_ ?_
      · simp [LeSt, leVs, leP, St.set, setVs, aget, subHp]
      · exact ⟨Nat.zero_le _, rfl⟩
      · rintro k ⟨hk, hall⟩
        cbv
        refine splitBool (fun e2 => ?_) (fun e2 => ?_)
        · have hlt : k < t.links.length := by subst hA; simpa [ar, lks] using e2
          cbv
          obtain ⟨l, hl, hl'⟩ := lks_at hlt
          refine ⟨_, by subst hA; exact hl', Int.natCast_nonneg k, ?_⟩
          cbv
          refine CallV.bool _ (by subst hA; exact c_proper l t.nodes (by unfold inI64; omega)) (by subst hA; rfl) fun m2 h2 => ?_
          cbv
          refine splitBoolF (fun e3 => ?_) (fun e3 => ?_)
          · have e4 : okLink t.nodes l = true := by subst hA; simpa [ar, h2] using e3
            cbv
            refine ⟨by subst hA; simp [ar, inI64]; omega, ?_⟩
            refine ⟨k + 1, ⟨⟨hlt, all_take hall hl e4⟩, by omega⟩, ?_⟩
            subst hA
            simp [LeSt, leVs, leP, St.set, setVs, aget, subHp]
            rfl
          · have e4 : okLink t.nodes l = false := by subst hA; simpa [ar, h2] using e3
            have hv : valid t = false := by simp only [valid, all_not hl e4, Bool.and_false]
            cbv
            (subst hA; refine Or.inl ?_; simp only [ar, hv])
        · have hge : k = t.links.length := by subst hA; simp [ar, lks] at e2; omega
          cbv
          have hv : valid t = true := by rw [hge] at hall; simp [valid, hh, all_take_len hall]
          (subst hA; refine Or.inl ?_; simp only [ar, hv])
    · have hh : headOk t = false := by simpa [e1] using hx
      cbv
      subst hA; simp [ar, valid, hh]
end Go.Proofs.Ytogehfalhodapaa
namespace Go.Proofs.Ytogehfalhodapaa
open Go Go.Proofs.Ytogehfalhodapaa.Pv
set_option linter.unusedSimpArgs false
set_option linter.unusedVariables false
def arcsOf (t : Topo) : Int := if valid t then 2 * t.links.length else 0
theorem valid_links {t : Topo} (h : valid t = true) : t.links.length ≤ 256 := (headOk_nodes (valid_head h)).2.2
theorem c_Arcs (t : Topo) : FCs 73 [t.pv] (.int .i64 (arcsOf t)) := by
  refine FCs.intro [] [0,1,2] (fun A => [t.pvA A]) Try.func73 rfl Try.call73 (by kernel_rfl) (by simp [Try.f73]) ?_
  intro A hA
  cbv
  refine CallV.bool _ (by subst hA; exact c_Valid t) (by subst hA; rfl) fun m1 h1 => ?_
  cbv
  refine splitBoolF (fun e1 => ?_) (fun e1 => ?_)
  · have hv : valid t = true := by subst hA; simpa [ar, h1] using e1
    have := valid_links hv
    cbv
    refine ⟨by subst hA; simp only [ar, inI64, lks_len]; ((try simp only [ncast, Int.ofNat_eq_natCast] at *); omega), ?_⟩
    subst hA
    simp [ar, arcsOf, hv, lks]
  · have hv : valid t = false := by subst hA; simpa [ar, h1] using e1
    cbv
    subst hA
    simp [ar, arcsOf, hv]
def isArc (t : Topo) (a : Int) : Bool := decide (0 ≤ a) && decide (a < arcsOf t)
theorem isArc_iff {t : Topo} {a : Int} : isArc t a = true ↔ valid t = true ∧ 0 ≤ a ∧ a < 2 * t.links.length := by
  unfold isArc arcsOf
  cases valid t <;> simp
/-- the link of an arc -/
def linkOf (t : Topo) (a : Int) : Option Link := if isArc t a then t.links[(a / 2).toNat]? else none
theorem linkOf_some {t : Topo} {a : Int} (h : isArc t a = true) : ∃ l, t.links[(a / 2).toNat]? = some l ∧ linkOf t a = some l := by
  obtain ⟨h1, h2, h3⟩ := isArc_iff.1 h
  have : (a / 2).toNat < t.links.length := by omega
  exact ⟨t.links[(a / 2).toNat], by simp [this], by simp [linkOf, h, this]⟩
theorem linkOf_none {t : Topo} {a : Int} (h : isArc t a = false) : linkOf t a = none := by simp [linkOf, h]
def tailOf (t : Topo) (a : Int) : Int := match linkOf t a with | some l => if a % 2 = 0 then l.a else l.b | none => -1
def headOf (t : Topo) (a : Int) : Int := match linkOf t a with | some l => if a % 2 = 0 then l.b else l.a | none => -1
def costOf (t : Topo) (a : Int) : Int := match linkOf t a with | some l => if a % 2 = 0 then l.c0 else l.c1 | none => -1
theorem lks_ati {xs : List Link} {k : Int} {l : Link} (h : xs[k.toNat]? = some l) : (lks xs)[k.toNat]? = some [.int .i64 l.a, .int .i64 l.b, .int .i64 l.c0, .int .i64 l.c1, .int .i64 l.cap, .int .i64 l.delay, .int .i64 l.grp] := lks_get h
theorem tdiv2 {a : Int} (h : 0 ≤ a) : a.tdiv 2 = a / 2 := Int.tdiv_eq_ediv_of_nonneg h
theorem tmod2 {a : Int} (h : 0 ≤ a) : a.tmod 2 = a % 2 := Int.tmod_eq_emod_of_nonneg h
theorem c_ends (t : Topo) (a : Int) : FCs 55 [t.pv, .int .i64 a] (.tup [.int .i64 (tailOf t a), .int .i64 (headOf t a), .int .i64 (costOf t a)]) := by
  refine FCs.intro [(100001, 0)] [0,1,2,4,5,6,7,15] (fun A => [t.pvA A, .int .i64 a]) Try.func55 rfl Try.call55 (by kernel_rfl) (by simp [Try.f55]) ?_
  intro A hA
  cbv
  refine CutC.upd Bool (fun b => [(15, .bool b)]) (fun _ => []) (fun b => b = !isArc t a) ?_ ?_
  · cbv
    refine splitBoolF (fun e1 => ?_) (fun e1 => ?_)
    · cbv
      refine CallV.int _ _ (by subst hA; exact c_Arcs t) (by subst hA; rfl) fun m1 h1 => ?_
      cbv
      refine ⟨_, rfl, ?_⟩
      simp [LeSt, leVs, leP, St.set, setVs, aget, subHp]
      subst hA
      simp [ar] at e1
      simp only [ar, h1, isArc, e1]
      rw [Bool.eq_iff_iff]; simp [e1]
    · cbv
      refine ⟨_, rfl, ?_⟩
      simp [LeSt, leVs, leP, St.set, setVs, aget, subHp]
      subst hA
      simp [ar] at e1
      simp [ar, isArc]; omega
  · rintro x hx
    cbv
    refine splitBoolF (fun e1 => ?_) (fun e1 => ?_)
    · have hh : isArc t a = true := by simpa [e1] using hx
      obtain ⟨l, hl, hl'⟩ := linkOf_some hh
      obtain ⟨hv, h0, h2⟩ := isArc_iff.1 hh
      have hlen := valid_links hv
      cbv
      refine ⟨by subst hA; simp only [ar, inI64, tdiv2 h0]; ((try simp only [ncast, Int.ofNat_eq_natCast] at *); omega), ?_⟩
      refine ⟨_, by subst hA; simp only [ar, tdiv2 h0]; exact lks_ati hl, by subst hA; simp only [ar, tdiv2 h0]; ((try simp only [ncast, Int.ofNat_eq_natCast] at *); omega), ?_⟩
      cbv
      refine ⟨by subst hA; simp [ar], ?_⟩
      refine splitBoolF (fun e2 => ?_) (fun e2 => ?_)
      · cbv
        have e3 : ¬ a % 2 = 0 := by subst hA; simpa only [ar, tmod2 h0, decide_eq_false_iff_not] using e2
        (subst hA; refine Or.inl ?_; simp only [ar, tailOf, headOf, costOf, hl', e3, if_false])
      · cbv
        have e3 : a % 2 = 0 := by subst hA; simpa only [ar, tmod2 h0, decide_eq_true_eq] using e2
        (subst hA; refine Or.inl ?_; simp only [ar, tailOf, headOf, costOf, hl', e3, if_true])
    · have hh : isArc t a = false := by simpa [e1] using hx
      cbv
      subst hA
      simp [ar, tailOf, headOf, costOf, linkOf_none hh]
end Go.Proofs.Ytogehfalhodapaa
namespace Go.Proofs.Ytogehfalhodapaa
open Go Go.Proofs.Ytogehfalhodapaa.Pv
set_option linter.unusedSimpArgs false
set_option linter.unusedVariables false
theorem c_Tail (t : Topo) (a : Int) : FCs 54 [t.pv, .int .i64 a] (.int .i64 (tailOf t a)) := by
  refine FCs.intro [] [0,1,2,4,5,6,7,8] (fun A => [t.pvA A, .int .i64 a]) Try.func54 rfl Try.call54 (by kernel_rfl) (by simp [Try.f54]) ?_
  intro A hA
  cbv
  refine CallV.nm3 (fun x y z => .tup [.int .i64 x, .int .i64 y, .int .i64 z]) _ _ _ (by subst hA; exact c_ends t a) (by subst hA; rfl) (fun _ _ _ => by simp [scalar, scalars]) fun m1 m2 m3 h1 h2 h3 => ?_
  cbv
  (subst hA; refine Or.inl ?_; simp only [ar, h1])
theorem c_Head (t : Topo) (a : Int) : FCs 29 [t.pv, .int .i64 a] (.int .i64 (headOf t a)) := by
  refine FCs.intro [] [0,1,2,4,5,6,7,8] (fun A => [t.pvA A, .int .i64 a]) Try.func29 rfl Try.call29 (by kernel_rfl) (by simp [Try.f29]) ?_
  intro A hA
  cbv
  refine CallV.nm3 (fun x y z => .tup [.int .i64 x, .int .i64 y, .int .i64 z]) _ _ _ (by subst hA; exact c_ends t a) (by subst hA; rfl) (fun _ _ _ => by simp [scalar, scalars]) fun m1 m2 m3 h1 h2 h3 => ?_
  cbv
  (subst hA; refine Or.inl ?_; simp only [ar, h2])
theorem c_Cost (t : Topo) (a : Int) : FCs 67 [t.pv, .int .i64 a] (.int .i64 (costOf t a)) := by
  refine FCs.intro [] [0,1,2,4,5,6,7,8] (fun A => [t.pvA A, .int .i64 a]) Try.func67 rfl Try.call67 (by kernel_rfl) (by simp [Try.f67]) ?_
  intro A hA
  cbv
  refine CallV.nm3 (fun x y z => .tup [.int .i64 x, .int .i64 y, .int .i64 z]) _ _ _ (by subst hA; exact c_ends t a) (by subst hA; rfl) (fun _ _ _ => by simp [scalar, scalars]) fun m1 m2 m3 h1 h2 h3 => ?_
  cbv
  (subst hA; refine Or.inl ?_; simp only [ar, h3])
def overOf (t : Topo) (n : Int) : Bool := decide (0 ≤ n) && decide (n < t.over.length) && (t.over[n.toNat]?.getD false) && valid t
theorem c_Overloaded (t : Topo) (n : Int) : FCs 66 [t.pv, .int .i64 n] (.bool (overOf t n)) := by
  refine FCs.intro [] [0,1,2,4] (fun A => [t.pvA A, .int .i64 n]) Try.func66 rfl Try.call66 (by kernel_rfl) (by simp [Try.f66]) ?_
  intro A hA
  cbv
  refine splitBoolF (fun e1 => ?_) (fun e1 => ?_)
  · have h1 : ¬ 0 ≤ n := by subst hA; simpa [ar] using e1
    cbv
    (subst hA; refine Or.inl ?_; simp [ar, overOf, h1])
  · have h1 : 0 ≤ n := by subst hA; simpa [ar] using e1
    cbv
    refine splitBoolF (fun e2 => ?_) (fun e2 => ?_)
    · have h2 : ¬ n < t.over.length := by subst hA; simpa [ar, bools] using e2
      cbv
      (subst hA; refine Or.inl ?_; simp [ar, overOf, h2])
    · have h2 : n < t.over.length := by subst hA; simpa [ar, bools] using e2
      obtain ⟨b, hb, hb'⟩ := bools_at (k := n.toNat) (xs := t.over) (by ((try simp only [ncast, Int.ofNat_eq_natCast] at *); omega))
      cbv
      refine ⟨_, by subst hA; exact hb', h1, ?_⟩
      cbv
      refine splitBoolF (fun e3 => ?_) (fun e3 => ?_)
      · cbv
        (subst hA; refine Or.inl ?_; simp [ar, overOf, hb, e3])
      · cbv
        refine CallV.bool _ (by subst hA; exact c_Valid t) (by subst hA; rfl) fun m1 g1 => ?_
        cbv
        (subst hA; refine Or.inl ?_; simp [ar, overOf, hb, e3, h1, h2, g1])
        intro _; rw [List.getElem?_eq_some_iff] at hb; obtain ⟨_, hb⟩ := hb; rw [hb, e3]
end Go.Proofs.Ytogehfalhodapaa
namespace Go.Proofs.Ytogehfalhodapaa
open Go Go.Proofs.Ytogehfalhodapaa.Pv
set_option linter.unusedSimpArgs false
set_option linter.unusedVariables false
def touches (n : Int) (l : Link) : Bool := decide (l.a = n) || decide (l.b = n)
def arcStep (n : Int) (out : Bool) (i : Nat) (l : Link) : List Int :=
  if decide (decide (l.a = n) = out) && touches n l then [2 * (i : Int)] else if touches n l then [2 * (i : Int) + 1] else []
def arcsGo (n : Int) (out : Bool) : Nat → List Link → List Int
  | _, [] => []
  | i, l :: r => arcStep n out i l ++ arcsGo n out (i + 1) r
theorem arcsGo_snoc (n : Int) (out : Bool) (l : Link) : ∀ (xs : List Link) (i : Nat), arcsGo n out i (xs ++ [l]) = arcsGo n out i xs ++ arcStep n out (i + xs.length) l
  | [], i => by simp [arcsGo]
  | x :: r, i => by
    simp only [List.cons_append, arcsGo, arcsGo_snoc n out l r, List.length_cons, List.append_assoc]
    rw [show i + 1 + r.length = i + (r.length + 1) by omega]
theorem take_snoc {α : Type} {xs : List α} {k : Nat} {x : α} (h : xs[k]? = some x) : xs.take (k + 1) = xs.take k ++ [x] := by rw [List.take_add_one, h]; rfl
theorem arcsGo_take {n : Int} {out : Bool} {xs : List Link} {k : Nat} {l : Link} (h : xs[k]? = some l) : arcsGo n out 0 (xs.take (k + 1)) = arcsGo n out 0 (xs.take k) ++ arcStep n out k l := by
  have hk : k < xs.length := (List.getElem?_eq_some_iff.1 h).1
  rw [take_snoc h, arcsGo_snoc]; simp [show min k xs.length = k by omega]
theorem arcsGo_len (n : Int) (out : Bool) : ∀ (xs : List Link) (i : Nat), (arcsGo n out i xs).length ≤ xs.length
  | [], _ => by simp [arcsGo]
  | x :: r, i => by
    have := arcsGo_len n out r (i + 1)
    simp only [arcsGo, List.length_append, List.length_cons]
    unfold arcStep
    split
    · simp; omega
    · split <;> simp <;> omega
def outOf (t : Topo) (n : Int) : List Int := if valid t then arcsGo n true 0 t.links else []
def inOf (t : Topo) (n : Int) : List Int := if valid t then arcsGo n false 0 t.links else []
def arcsDir (t : Topo) (n : Int) (out : Bool) : List Int := if valid t then arcsGo n out 0 t.links else []
theorem c_arcs (t : Topo) (n : Int) (out : Bool) : FCs 79 [t.pv, .int .i64 n, .bool out] (.sl 1 (ints (arcsDir t n out))) := by
  refine FCs.intro [(7, 7), (9, 9), (100007, 0), (100009, 0)] [0,1,2,3,6,7,8,9,14,15,16,38,53] (fun A => [t.pvA A, .int .i64 n, .bool out]) Try.func79 rfl Try.call79 (by kernel_rfl) (by simp [Try.f79]) ?_
  intro A hA
  cbv
  refine CallV.bool _ (by subst hA; exact c_Valid t) (by subst hA; rfl) fun m1 h1 => ?_
  cbv
  refine splitBoolF (fun e1 => ?_) (fun e1 => ?_)
  · have hv : valid t = true := by subst hA; simpa [ar, h1] using e1
    have hlen := valid_links hv
    cbv
    refine LoopK.upd Nat (fun k => [(16, .int .i64 k), (7, .os 7), (8, .junk), (9, .junk), (38, .junk), (53, .junk)]) (fun k => [(7, ⟨3, 1, A.e fun _ => ints (arcsGo n out 0 (t.links.take k)), false⟩)]) (fun k => k ≤ t.links.length) (fun k => t.links.length - k) 0 ?_ ?_ ?_
    · subst hA; simp [LeSt, leVs, leP, St.set, setVs, aget, subHp]; simp [ar, arcsGo, ints]
    · exact Nat.zero_le _
    · rintro k hk
      cbv
      refine splitBool (fun e2 => ?_) (fun e2 => ?_)
      · have hlt : k < t.links.length := by subst hA; simpa [ar, lks] using e2
        cbv
        obtain ⟨l, hl, hl'⟩ := lks_at hlt
        refine ⟨_, by subst hA; exact hl', Int.natCast_nonneg k, ?_⟩
        cbv
        refine CutC.upd Bool (fun b => [(38, .bool b)]) (fun _ => [(7, ⟨3, 1, A.e fun _ => ints (arcsGo n out 0 (t.links.take k)), false⟩), (9, ⟨51, 7, [[.int .i64 l.a, .int .i64 l.b, .int .i64 l.c0, .int .i64 l.c1, .int .i64 l.cap, .int .i64 l.delay, .int .i64 l.grp]], true⟩)]) (fun b => b = (decide (decide (l.a = n) = out) && touches n l)) ?_ ?_
        · cbv
          refine splitBoolF (fun e3 => ?_) (fun e3 => ?_)
          · cbv
            refine ⟨_, rfl, ?_⟩
            simp [LeSt, leVs, leP, St.set, setVs, aget, subHp]
            subst hA; by_cases h5 : l.a = n <;> cases out <;> simp_all [ar, touches]
          · cbv
            refine splitBoolF (fun e4 => ?_) (fun e4 => ?_)
            · cbv
              refine ⟨_, rfl, ?_⟩
              simp [LeSt, leVs, leP, St.set, setVs, aget, subHp]
              subst hA; simp_all [ar, touches]
            · cbv
              refine ⟨_, rfl, ?_⟩
              simp [LeSt, leVs, leP, St.set, setVs, aget, subHp]
              subst hA; simp_all [ar, touches]
        · rintro x hx
          cbv
          refine splitBoolF (fun e3 => ?_) (fun e3 => ?_)
          · have hx1 : (decide (decide (l.a = n) = out) && touches n l) = false := by rw [← hx, e3]
            cbv
            refine CutC.upd Bool (fun b => [(53, .bool b)]) (fun _ => [(7, ⟨3, 1, A.e fun _ => ints (arcsGo n out 0 (t.links.take k)), false⟩)]) (fun b => b = touches n l) ?_ ?_
            · cbv
              refine splitBoolF (fun e4 => ?_) (fun e4 => ?_)
              · cbv
                refine ⟨_, rfl, ?_⟩
                simp [LeSt, leVs, leP, St.set, setVs, aget, subHp]
                subst hA; simp_all [ar, touches]
              · cbv
                refine ⟨_, rfl, ?_⟩
                simp [LeSt, leVs, leP, St.set, setVs, aget, subHp]
                subst hA; simp_all [ar, touches]
            · rintro y hy
              cbv
              refine splitBoolF (fun e4 => ?_) (fun e4 => ?_)
              · have hy1 : touches n l = false := by rw [← hy, e4]
                cbv
                refine ⟨by subst hA; simp only [ar, inI64]; ((try simp only [ncast, Int.ofNat_eq_natCast] at *); omega), ?_⟩
                refine ⟨k + 1, ⟨hlt, by omega⟩, ?_⟩
                subst hA
                simp [LeSt, leVs, leP, St.set, setVs, aget, subHp]
                simp [ar, arcsGo_take hl, arcStep, hx1, hy1]
              · have hy1 : touches n l = true := by rw [← hy, e4]
                have := arcsGo_len n out (t.links.take k) 0
                rw [List.length_take] at this
                cbv
                refine ⟨by subst hA; simp only [ar, inI64]; ((try simp only [ncast, Int.ofNat_eq_natCast] at *); omega), by subst hA; simp only [ar, inI64]; ((try simp only [ncast, Int.ofNat_eq_natCast] at *); omega), ⟨by subst hA; simp only [ar, ints_len, List.length_cons, List.length_nil]; ((try simp only [ncast, Int.ofNat_eq_natCast] at *); omega), trivial⟩, by subst hA; simp only [ar, inI64]; ((try simp only [ncast, Int.ofNat_eq_natCast] at *); omega), ?_⟩
                refine ⟨k + 1, ⟨hlt, by omega⟩, ?_⟩
                subst hA
                simp [LeSt, leVs, leP, St.set, setVs, aget, subHp]
                have hx2 : decide (decide (l.a = n) = out) = false := by simpa [hy1] using hx1
                rw [arcsGo_take hl]
                simp only [ar, arcStep, hx2, hy1, ints]
                simp
          · have hx1 : (decide (decide (l.a = n) = out) && touches n l) = true := by rw [← hx, e3]
            have := arcsGo_len n out (t.links.take k) 0
            rw [List.length_take] at this
            cbv
            refine ⟨by subst hA; simp only [ar, inI64]; ((try simp only [ncast, Int.ofNat_eq_natCast] at *); omega), ⟨by subst hA; simp only [ar, ints_len, List.length_cons, List.length_nil]; ((try simp only [ncast, Int.ofNat_eq_natCast] at *); omega), trivial⟩, by subst hA; simp only [ar, inI64]; ((try simp only [ncast, Int.ofNat_eq_natCast] at *); omega), ?_⟩
            refine ⟨k + 1, ⟨hlt, by omega⟩, ?_⟩
            subst hA
            simp [LeSt, leVs, leP, St.set, setVs, aget, subHp]
            simp [ar, arcsGo_take hl, arcStep, hx1, ints]
      · have hge : k = t.links.length := by subst hA; simp [ar, lks] at e2; ((try simp only [ncast, Int.ofNat_eq_natCast] at *); omega)
        cbv
        subst hA; subst hge
        refine Or.inl ?_
        simp [ar, arcsDir, hv]
  · have hv : valid t = false := by subst hA; simpa [ar, h1] using e1
    cbv
    subst hA
    refine Or.inr ?_
    simp [wk, ar, arcsDir, hv, ints]
theorem c_Out (t : Topo) (n : Int) : FCs 64 [t.pv, .int .i64 n] (.sl 1 (ints (outOf t n))) := by
  refine FCs.intro [] [0,1,2,4] (fun A => [t.pvA A, .int .i64 n]) Try.func64 rfl Try.call64 (by kernel_rfl) (by simp [Try.f64]) ?_
  intro A hA
  cbv
  refine CallV.sl _ _ (by subst hA; exact c_arcs t n true) (by subst hA; rfl) (by subst hA; rfl) fun m1 h1 => ?_
  cbv
  (subst hA; refine Or.inl ?_; simp only [ar, h1, outOf, arcsDir])
theorem c_In (t : Topo) (n : Int) : FCs 78 [t.pv, .int .i64 n] (.sl 1 (ints (inOf t n))) := by
  refine FCs.intro [] [0,1,2,4] (fun A => [t.pvA A, .int .i64 n]) Try.func78 rfl Try.call78 (by kernel_rfl) (by simp [Try.f78]) ?_
  intro A hA
  cbv
  refine CallV.sl _ _ (by subst hA; exact c_arcs t n false) (by subst hA; rfl) (by subst hA; rfl) fun m1 h1 => ?_
  cbv
  (subst hA; refine Or.inl ?_; simp only [ar, h1, inOf, arcsDir])
/-- the end and the cost of a path, and the error: 0 OK, 1 ErrArg, 2 ErrRange, 4 ErrForm -/
def pathStep (t : Topo) (i : Nat) (to cost a : Int) : Option Int × Int × Int :=
  if isArc t a = false then (some 2, 0, 0) else if !decide (tailOf t a = to) || (decide (0 < i) && overOf t to) then (some 4, 0, 0) else (none, headOf t a, cost + costOf t a)
def pathGo (t : Topo) : Nat → Int → Int → List Int → Int × Int × Int
  | _, to, cost, [] => (to, cost, 0)
  | i, to, cost, a :: r => match pathStep t i to cost a with
    | (some e, _, _) => (0, 0, e)
    | (none, to', cost') => pathGo t (i + 1) to' cost' r
def pathOf (t : Topo) (from_ : Int) (arcs : List Int) : Int × Int × Int :=
  if valid t = false then (0, 0, 1) else if !within from_ 0 (t.nodes - 1) then (0, 0, 2) else pathGo t 0 from_ 0 arcs
end Go.Proofs.Ytogehfalhodapaa
namespace Go.Proofs.Ytogehfalhodapaa
open Go Go.Proofs.Ytogehfalhodapaa.Pv
set_option linter.unusedSimpArgs false
set_option linter.unusedVariables false
theorem okLink_at {t : Topo} (hv : valid t = true) {k : Nat} {l : Link} (h : t.links[k]? = some l) : okLink t.nodes l = true := by
  simp only [valid, Bool.and_eq_true, List.all_eq_true] at hv
  exact hv.2 l (List.mem_of_getElem? h)
theorem okLink_iff {n : Int} {l : Link} : okLink n l = true ↔ (0 ≤ l.a ∧ l.a ≤ n - 1) ∧ (0 ≤ l.b ∧ l.b ≤ n - 1) ∧ l.a ≠ l.b ∧ (1 ≤ l.c0 ∧ l.c0 ≤ 65535) ∧ (1 ≤ l.c1 ∧ l.c1 ≤ 65535) ∧ (0 ≤ l.cap ∧ l.cap ≤ 1048576) ∧ (1 ≤ l.delay ∧ l.delay ≤ 65536) ∧ (0 ≤ l.grp ∧ l.grp ≤ 64) := by
  simp [okLink, within, and_assoc]
/-- what an arc is -/
theorem arc_ok {t : Topo} {a : Int} (h : isArc t a = true) : 0 ≤ tailOf t a ∧ tailOf t a < t.nodes ∧ 0 ≤ headOf t a ∧ headOf t a < t.nodes ∧ tailOf t a ≠ headOf t a ∧ 1 ≤ costOf t a ∧ costOf t a ≤ 65535 := by
  obtain ⟨l, hl, hl'⟩ := linkOf_some h
  have hk := okLink_iff.1 (okLink_at (isArc_iff.1 h).1 hl)
  simp only [tailOf, headOf, costOf, hl']
  split <;> omega
theorem arc_not {t : Topo} {a : Int} (h : isArc t a = false) : tailOf t a = -1 ∧ headOf t a = -1 ∧ costOf t a = -1 := by
  simp [tailOf, headOf, costOf, linkOf_none h]
theorem isArc_tail {t : Topo} (a : Int) : isArc t a = !decide (tailOf t a < 0) := by
  cases h : isArc t a
  · simp [arc_not h]
  · have := arc_ok h; simp; omega
theorem pathGo_cost {t : Topo} {B : Int} : ∀ (r : List Int) (i : Nat) (to cost : Int), 0 ≤ cost → cost ≤ B → 0 ≤ (pathGo t i to cost r).2.1 ∧ (pathGo t i to cost r).2.1 ≤ B + 65535 * r.length
  | [], i, to, cost, h0, h1 => by simp [pathGo]; omega
  | a :: r, i, to, cost, h0, h1 => by
    simp only [pathGo, pathStep]
    cases ha : isArc t a with
    | false => simp; omega
    | true =>
      have := arc_ok ha
      simp only [Bool.true_eq_false, if_false]
      split
      · rename_i h
        split at h
        · simp; omega
        · cases h
      · rename_i to' cost' h
        split at h
        · cases h
        · simp only [Prod.mk.injEq, true_and] at h
          obtain ⟨-, rfl⟩ := h
          have ih := pathGo_cost (t := t) (B := B + 65535) r (i + 1) to' (cost + costOf t a) (by omega) (by omega)
          simp only [List.length_cons]; omega
theorem c_Path (t : Topo) (f : Int) (xs : List Int) (hl : xs.length ≤ 1000000) : FCs 46 [t.pv, .int .i64 f, .sl 1 (ints xs)] (.tup [.int .i64 (pathOf t f xs).1, .int .i64 (pathOf t f xs).2.1, .int .i64 (pathOf t f xs).2.2]) := by
  refine FCs.intro [] [0,1,2,3,6,7,8,9,10,11,12,13,14,18,26,27,28,33,40,43] (fun A => [t.pvA A, .int .i64 f, .sl 1 (A.e fun _ => ints xs)]) Try.func46 rfl Try.call46 (by kernel_rfl) (by simp [Try.f46]) ?_
  intro A hA
  cbv
  refine CallV.bool _ (by subst hA; exact c_Valid t) (by subst hA; rfl) fun m1 h1 => ?_
  cbv
  refine splitBoolF (fun e1 => ?_) (fun e1 => ?_)
  · have hv : valid t = true := by subst hA; simpa [ar, h1] using e1
    have hn := headOk_nodes (valid_head hv)
    cbv
    refine ⟨by subst hA; simp only [ar, inI64]; ((try simp only [ncast, Int.ofNat_eq_natCast] at *); omega), ?_⟩
    refine CallV.bool _ (c_inside _ _ _) (by subst hA; rfl) fun m2 h2 => ?_
    cbv
    refine splitBoolF (fun e2 => ?_) (fun e2 => ?_)
    · have hw : within f 0 (t.nodes - 1) = true := by subst hA; simpa [ar, h2] using e2
      cbv
      refine LoopK.upd (Nat × Int × Int) (fun p => [(28, .int .i64 p.1), (6, .int .i64 p.2.1), (7, .int .i64 p.2.2), (9, .junk), (10, .junk), (11, .junk), (12, .junk), (13, .junk), (33, .junk), (40, .junk), (43, .junk)]) (fun _ => [])
        (fun p => p.1 ≤ xs.length ∧ 0 ≤ p.2.2 ∧ p.2.2 ≤ 65535 * p.1 ∧ pathOf t f xs = pathGo t p.1 p.2.1 p.2.2 (xs.drop p.1)) (fun p => xs.length - p.1) (0, f, 0) ?_ ?_ ?_
      · simp [LeSt, leVs, leP, St.set, setVs, aget, subHp]
      · simp [pathOf, hv, hw]
      · rintro ⟨k, to, cost⟩ ⟨hk, hc0, hc1, hp⟩
        dsimp only at hk hc0 hc1 hp
        cbv
        refine splitBool (fun e3 => ?_) (fun e3 => ?_)
        · have hlt : k < xs.length := by subst hA; simpa [ar, ints] using e3
          obtain ⟨a, ha, ha'⟩ := ints_atN hlt
          have hd : xs.drop k = a :: xs.drop (k + 1) := by rw [List.drop_eq_getElem_cons hlt]; rw [List.getElem?_eq_getElem hlt] at ha; rw [Option.some.inj ha]
          rw [hd] at hp
          cbv
          refine ⟨_, by subst hA; exact ha', Int.natCast_nonneg k, ?_⟩
          cbv
          refine CallV.nm3 (fun x y z => .tup [.int .i64 x, .int .i64 y, .int .i64 z]) _ _ _ (by subst hA; exact c_ends t a) (by subst hA; rfl) (fun _ _ _ => by simp [scalar, scalars]) fun q1 q2 q3 g1 g2 g3 => ?_
          cbv
          refine splitBoolF (fun e4 => ?_) (fun e4 => ?_)
          · have hA1 : isArc t a = true := by rw [isArc_tail]; subst hA; simpa [ar, g1] using e4
            have hok := arc_ok hA1
            have fin : tailOf t a = to → (decide (0 < k) && overOf t to) = false → pathOf t f xs = pathGo t (k + 1) (headOf t a) (cost + costOf t a) (xs.drop (k + 1)) := by
              intro h1 h2
              rw [hp]
              simp only [pathGo, pathStep, hA1, h1, h2]
              simp
            have bad : tailOf t a ≠ to ∨ (decide (0 < k) && overOf t to) = true → pathOf t f xs = (0, 0, 4) := by
              intro h
              rw [hp]
              simp only [pathGo, pathStep, hA1]
              rw [if_neg (by simp), if_pos (by rcases h with h | h <;> simp [h])]
            have step : tailOf t a = to → (decide (0 < k) && overOf t to) = false → ((k + 1, q2, cost + q3).1 ≤ xs.length ∧ 0 ≤ (k + 1, q2, cost + q3).2.2 ∧ (k + 1, q2, cost + q3).2.2 ≤ 65535 * ((k + 1, q2, cost + q3).1 : Int) ∧
                pathOf t f xs = pathGo t (k + 1, q2, cost + q3).1 (k + 1, q2, cost + q3).2.1 (k + 1, q2, cost + q3).2.2 (xs.drop (k + 1, q2, cost + q3).1)) ∧ xs.length - (k + 1, q2, cost + q3).1 < xs.length - (k, to, cost).1 := by
              intro h1 h2
              have := fin h1 h2
              dsimp only
              rw [g2, g3]
              exact ⟨⟨hlt, by omega, by ((try simp only [ncast, Int.ofNat_eq_natCast] at *); omega), this⟩, by omega⟩
            cbv
            refine splitBoolF (fun e5 => ?_) (fun e5 => ?_)
            · have h5 : tailOf t a = to := by subst hA; simpa [ar, g1] using e5
              cbv
              refine splitBoolF (fun e6 => ?_) (fun e6 => ?_)
              · have h6 : (decide (0 < k) && overOf t to) = false := by
                  have : ¬ 0 < k := by subst hA; simp [ar] at e6; omega
                  simp [this]
                cbv
                refine ⟨by subst hA; simp only [ar, inI64]; ((try simp only [ncast, Int.ofNat_eq_natCast] at *); omega), by subst hA; simp only [ar, inI64]; ((try simp only [ncast, Int.ofNat_eq_natCast] at *); omega), ?_⟩
                refine ⟨_, step h5 h6, ?_⟩
                subst hA
                simp [LeSt, leVs, leP, St.set, setVs, aget, subHp]
                simp [ar]
              · have hk0 : 0 < k := by subst hA; simp [ar] at e6; omega
                cbv
                refine CallV.bool _ (by subst hA; exact c_Overloaded t to) (by subst hA; rfl) fun m3 h3 => ?_
                cbv
                refine splitBoolF (fun e7 => ?_) (fun e7 => ?_)
                · cbv
                  refine ⟨by subst hA; simp only [ar, inI64]; ((try simp only [ncast, Int.ofNat_eq_natCast] at *); omega), by subst hA; simp only [ar, inI64]; ((try simp only [ncast, Int.ofNat_eq_natCast] at *); omega), ?_⟩
                  refine ⟨_, step h5 (by rw [← h3, e7, Bool.and_false]), ?_⟩
                  subst hA
                  simp [LeSt, leVs, leP, St.set, setVs, aget, subHp]
                  simp [ar]
                · cbv
                  (subst hA; refine Or.inl ?_; simp only [ar, bad (.inr (by rw [← h3, e7]; simp [hk0]))])
            · have h5 : tailOf t a ≠ to := by subst hA; simpa [ar, g1] using e5
              cbv
              (subst hA; refine Or.inl ?_; simp only [ar, bad (.inl h5)])
          · have hA1 : isArc t a = false := by rw [isArc_tail]; subst hA; simpa [ar, g1] using e4
            cbv
            (subst hA; refine Or.inl ?_; simp only [ar, hp, pathGo, pathStep, hA1, if_true])
        · have hge : k = xs.length := by subst hA; simp [ar, ints] at e3; ((try simp only [ncast, Int.ofNat_eq_natCast] at *); omega)
          cbv
          subst hge
          rw [List.drop_length] at hp
          (subst hA; refine Or.inl ?_; simp only [ar, hp, pathGo])
    · have hw : within f 0 (t.nodes - 1) = false := by subst hA; simpa [ar, h2] using e2
      cbv
      (subst hA; refine Or.inl ?_; simp [ar, pathOf, hv, hw])
  · have hv : valid t = false := by subst hA; simpa [ar, h1] using e1
    cbv
    (subst hA; refine Or.inl ?_; simp [ar, pathOf, hv])
end Go.Proofs.Ytogehfalhodapaa
namespace Go.Proofs.Ytogehfalhodapaa
open Go Go.Proofs.Ytogehfalhodapaa.Pv
set_option linter.unusedSimpArgs false
set_option linter.unusedVariables false
/-! the references of layer 9 -/
theorem r_within (n lo hi : Int) : FCs 56 [.int .i64 n, .int .i64 lo, .int .i64 hi] (.bool (within n lo hi)) := by
  refine FCs.intro [] [0,1,2,6] (fun A => [.int .i64 n, .int .i64 lo, .int .i64 hi]) Try.func56 rfl Try.call56 (by kernel_rfl) (by simp [Try.f56]) ?_
  intro A hA
  cbv
  refine splitBool (fun h => ?_) (fun h => ?_)
  · cbv; subst hA; simp [ar] at h ⊢; simp [within, h]
  · cbv; subst hA; simp [ar] at h ⊢; simp [within]; omega
theorem r_Valid (t : Topo) : FCs 33 [t.pv] (.bool (valid t)) := by
  refine FCs.intro [(4, 4), (100001, 0), (100007, 0), (100009, 0)] [0,1,2,3,4,28,77,93] (fun A => [t.pvA A]) Try.func33 rfl Try.call33 (by kernel_rfl) (by simp [Try.f33]) ?_
  intro A hA
  cbv
  refine CutC.upd Bool (fun b => [(28, .bool b)]) (fun _ => []) (fun b => b = !headOk t) ?_ ?_
  · cbv
    refine CallV.bool _ (r_within _ _ _) rfl fun m1 h1 => ?_
    cbv
    refine splitBoolF (fun e1 => ?_) (fun e1 => ?_)
    · cbv
      refine splitBoolF (fun e2 => ?_) (fun e2 => ?_)
      · cbv
        refine ⟨_, rfl, ?_⟩
        simp [LeSt, leVs, leP, St.set, setVs, aget, subHp]
        subst hA; simp_all [ar, headOk, bools, lks]
      · cbv
        refine splitBoolF (fun e3 => ?_) (fun e3 => ?_)
        · cbv
          refine ⟨_, rfl, ?_⟩
          simp [LeSt, leVs, leP, St.set, setVs, aget, subHp]
          subst hA; simp_all [ar, headOk, bools, lks]
        · cbv
          refine ⟨_, rfl, ?_⟩
          simp [LeSt, leVs, leP, St.set, setVs, aget, subHp]
          subst hA; simp_all [ar, headOk, bools, lks]
    · cbv
      refine ⟨_, rfl, ?_⟩
      simp [LeSt, leVs, leP, St.set, setVs, aget, subHp]
      subst hA; simp_all [ar, headOk]
  · rintro x hx
    cbv
    refine splitBoolF (fun e1 => ?_) (fun e1 => ?_)
    · have hh : headOk t = true := by simpa [e1] using hx
      have hn := headOk_nodes hh
      cbv
      refine LoopK.upd Nat (fun k => [(3, .int .i64 k), (4, .junk), (77, .junk), (93, .junk)]) (fun _ => []) (fun k => k ≤ t.links.length ∧ (t.links.take k).all (okLink t.nodes) = true) (fun k => t.links.length - k) 0 ?_ ?_ ?_
      · simp [LeSt, leVs, leP, St.set, setVs, aget, subHp]
      · exact ⟨Nat.zero_le _, rfl⟩
      · rintro k ⟨hk, hall⟩
        cbv
        refine splitBool (fun e2 => ?_) (fun e2 => ?_)
        · have hlt : k < t.links.length := by subst hA; simpa [ar, lks] using e2
          cbv
          obtain ⟨l, hl, hl'⟩ := lks_at hlt
          refine ⟨_, by subst hA; exact hl', Int.natCast_nonneg k, ?_⟩
          cbv
          refine CutC.upd Bool (fun b => [(77, .bool b)]) (fun _ => [(4, ⟨51, 7, [[.int .i64 l.a, .int .i64 l.b, .int .i64 l.c0, .int .i64 l.c1, .int .i64 l.cap, .int .i64 l.delay, .int .i64 l.grp]], true⟩)])
            (fun b => b = !(within l.a 0 (t.nodes - 1) && within l.b 0 (t.nodes - 1) && !decide (l.a = l.b) && within l.c0 1 65535 && within l.c1 1 65535)) ?_ ?_
          · cbv
            refine And.intro (by subst hA; simp only [ar, inI64]; ((try simp only [ncast, Int.ofNat_eq_natCast] at *); omega)) ?_
            refine CallV.bool _ (r_within _ _ _) rfl fun m1 h1 => ?_
            cbv
            refine splitBoolF (fun f1 => ?_) (fun f1 => ?_)
            rotate_left
            · cbv
              refine ⟨_, rfl, ?_⟩
              simp [LeSt, leVs, leP, St.set, setVs, aget, subHp]
              subst hA; simp_all [ar]
            cbv
            refine And.intro (by subst hA; simp only [ar, inI64]; ((try simp only [ncast, Int.ofNat_eq_natCast] at *); omega)) ?_
            refine CallV.bool _ (r_within _ _ _) rfl fun m2 h2 => ?_
            cbv
            refine splitBoolF (fun f2 => ?_) (fun f2 => ?_)
            rotate_left
            · cbv
              refine ⟨_, rfl, ?_⟩
              simp [LeSt, leVs, leP, St.set, setVs, aget, subHp]
              subst hA; simp_all [ar]
            cbv
            refine splitBoolF (fun f3 => ?_) (fun f3 => ?_)
            rotate_left
            · cbv
              refine ⟨_, rfl, ?_⟩
              simp [LeSt, leVs, leP, St.set, setVs, aget, subHp]
              subst hA; simp_all [ar]
            cbv
            refine CallV.bool _ (r_within _ _ _) rfl fun m4 h4 => ?_
            cbv
            refine splitBoolF (fun f4 => ?_) (fun f4 => ?_)
            rotate_left
            · cbv
              refine ⟨_, rfl, ?_⟩
              simp [LeSt, leVs, leP, St.set, setVs, aget, subHp]
              subst hA; simp_all [ar]
            cbv
            refine CallV.bool _ (r_within _ _ _) rfl fun m5 h5 => ?_
            cbv
            refine ⟨_, rfl, ?_⟩
            simp [LeSt, leVs, leP, St.set, setVs, aget, subHp]
            subst hA; simp_all [ar]
          · rintro x hx
            cbv
            refine splitBoolF (fun f1 => ?_) (fun f1 => ?_)
            · cbv
              refine CutC.upd Bool (fun b => [(93, .bool b)]) (fun _ => []) (fun b => b = !(within l.cap 0 1048576 && within l.delay 1 65536 && within l.grp 0 64)) ?_ ?_
              · cbv
                refine CallV.bool _ (r_within _ _ _) rfl fun m1 h1 => ?_
                cbv
                refine splitBoolF (fun g1 => ?_) (fun g1 => ?_)
                rotate_left
                · cbv
                  refine ⟨_, rfl, ?_⟩
                  simp [LeSt, leVs, leP, St.set, setVs, aget, subHp]
                  subst hA; simp_all [ar]
                cbv
                refine CallV.bool _ (r_within _ _ _) rfl fun m2 h2 => ?_
                cbv
                refine splitBoolF (fun g2 => ?_) (fun g2 => ?_)
                rotate_left
                · cbv
                  refine ⟨_, rfl, ?_⟩
                  simp [LeSt, leVs, leP, St.set, setVs, aget, subHp]
                  subst hA; simp_all [ar]
                cbv
                refine CallV.bool _ (r_within _ _ _) rfl fun m5 h5 => ?_
                cbv
                refine ⟨_, rfl, ?_⟩
                simp [LeSt, leVs, leP, St.set, setVs, aget, subHp]
                subst hA; simp_all [ar]
              · rintro y hy
                cbv
                refine splitBoolF (fun f2 => ?_) (fun f2 => ?_)
                · have e4 : okLink t.nodes l = true := by rw [f1] at hx; rw [f2] at hy; simp at hx hy; simp [okLink, hx, hy]
                  cbv
                  refine ⟨by subst hA; simp only [ar, inI64]; ((try simp only [ncast, Int.ofNat_eq_natCast] at *); omega), ?_⟩
                  refine ⟨k + 1, ⟨⟨hlt, all_take hall hl e4⟩, by omega⟩, ?_⟩
                  subst hA
                  simp [LeSt, leVs, leP, St.set, setVs, aget, subHp]
                  simp [ar]
                · have e4 : okLink t.nodes l = false := by
                    rw [f2] at hy
                    cases h : okLink t.nodes l with
                    | false => rfl
                    | true => simp [okLink] at h; simp [h] at hy
                  have hv : valid t = false := by simp only [valid, all_not hl e4, Bool.and_false]
                  cbv
                  (subst hA; refine Or.inl ?_; simp only [ar, hv])
            · have e4 : okLink t.nodes l = false := by
                rw [f1] at hx
                cases h : okLink t.nodes l with
                | false => rfl
                | true => simp [okLink] at h; simp [h] at hx
              have hv : valid t = false := by simp only [valid, all_not hl e4, Bool.and_false]
              cbv
              (subst hA; refine Or.inl ?_; simp only [ar, hv])
        · have hge : k = t.links.length := by subst hA; simp [ar, lks] at e2; ((try simp only [ncast, Int.ofNat_eq_natCast] at *); omega)
          cbv
          have hv : valid t = true := by rw [hge] at hall; simp [valid, hh, all_take_len hall]
          (subst hA; refine Or.inl ?_; simp only [ar, hv])
    · have hh : headOk t = false := by simpa [e1] using hx
      cbv
      (subst hA; refine Or.inl ?_; simp [ar, valid, hh])
end Go.Proofs.Ytogehfalhodapaa
namespace Go.Proofs.Ytogehfalhodapaa
open Go Go.Proofs.Ytogehfalhodapaa.Pv
set_option linter.unusedSimpArgs false
set_option linter.unusedVariables false
theorem r_Arcs (t : Topo) : FCs 34 [t.pv] (.int .i64 (arcsOf t)) := by
  refine FCs.intro [] [0,1,2] (fun A => [t.pvA A]) Try.func34 rfl Try.call34 (by kernel_rfl) (by simp [Try.f34]) ?_
  intro A hA
  cbv
  refine CallV.bool _ (by subst hA; exact r_Valid t) (by subst hA; rfl) fun m1 h1 => ?_
  cbv
  refine splitBoolF (fun e1 => ?_) (fun e1 => ?_)
  · have hv : valid t = true := by subst hA; simpa [ar, h1] using e1
    have := valid_links hv
    cbv
    refine ⟨by subst hA; simp only [ar, inI64, lks_len]; ((try simp only [ncast, Int.ofNat_eq_natCast] at *); omega), ?_⟩
    (subst hA; refine Or.inl ?_; simp [ar, arcsOf, hv, lks])
  · have hv : valid t = false := by subst hA; simpa [ar, h1] using e1
    cbv
    (subst hA; refine Or.inl ?_; simp [ar, arcsOf, hv])
theorem r_Tail (t : Topo) (a : Int) : FCs 35 [t.pv, .int .i64 a] (.int .i64 (tailOf t a)) := by
  refine FCs.intro [(100001, 0)] [0,1,2,4,5,14] (fun A => [t.pvA A, .int .i64 a]) Try.func35 rfl Try.call35 (by kernel_rfl) (by simp [Try.f35]) ?_
  intro A hA
  cbv
  refine CutC.upd Bool (fun b => [(5, .bool b)]) (fun _ => []) (fun b => b = !isArc t a) ?_ ?_
  · cbv
    refine splitBoolF (fun e1 => ?_) (fun e1 => ?_)
    · have h0 : 0 ≤ a := by subst hA; simpa [ar] using e1
      cbv
      refine CallV.int _ _ (by subst hA; exact r_Arcs t) (by subst hA; rfl) fun m1 h1 => ?_
      cbv
      refine ⟨_, rfl, ?_⟩
      simp [LeSt, leVs, leP, St.set, setVs, aget, subHp]
      subst hA
      simp only [ar, h1, isArc]
      rw [Bool.eq_iff_iff]; simp [h0]
    · cbv
      refine ⟨_, rfl, ?_⟩
      simp [LeSt, leVs, leP, St.set, setVs, aget, subHp]
      subst hA
      simp [ar] at e1
      simp [ar, isArc]; omega
  · rintro x hx
    cbv
    refine splitBoolF (fun e1 => ?_) (fun e1 => ?_)
    · have hh : isArc t a = true := by simpa [e1] using hx
      obtain ⟨l, hl, hl'⟩ := linkOf_some hh
      obtain ⟨hv, h0, h2⟩ := isArc_iff.1 hh
      have hlen := valid_links hv
      cbv
      refine ⟨by subst hA; simp [ar], ?_⟩
      refine splitBoolF (fun e2 => ?_) (fun e2 => ?_)
      · have e3 : ¬ a % 2 = 0 := by subst hA; simpa only [ar, tmod2 h0, decide_eq_false_iff_not] using e2
        cbv
        refine ⟨by subst hA; simp only [ar, inI64, tdiv2 h0]; ((try simp only [ncast, Int.ofNat_eq_natCast] at *); omega), ?_⟩
        refine ⟨_, by subst hA; simp only [ar, tdiv2 h0]; exact lks_ati hl, by subst hA; simp only [ar, tdiv2 h0]; ((try simp only [ncast, Int.ofNat_eq_natCast] at *); omega), ?_⟩
        cbv
        (subst hA; refine Or.inl ?_; simp only [ar, tailOf, hl', e3, if_false])
      · have e3 : a % 2 = 0 := by subst hA; simpa only [ar, tmod2 h0, decide_eq_true_eq] using e2
        cbv
        refine ⟨by subst hA; simp only [ar, inI64, tdiv2 h0]; ((try simp only [ncast, Int.ofNat_eq_natCast] at *); omega), ?_⟩
        refine ⟨_, by subst hA; simp only [ar, tdiv2 h0]; exact lks_ati hl, by subst hA; simp only [ar, tdiv2 h0]; ((try simp only [ncast, Int.ofNat_eq_natCast] at *); omega), ?_⟩
        cbv
        (subst hA; refine Or.inl ?_; simp only [ar, tailOf, hl', e3, if_true])
    · have hh : isArc t a = false := by simpa [e1] using hx
      cbv
      (subst hA; refine Or.inl ?_; simp only [ar, arc_not hh])
/-- the arc in the other direction -/
theorem tail_back {t : Topo} {a : Int} (h : isArc t a = true) : tailOf t (a / 2 * 2 + 1 - a % 2) = headOf t a := by
  obtain ⟨l, hl, hl'⟩ := linkOf_some h
  obtain ⟨hv, h0, h2⟩ := isArc_iff.1 h
  have hb : isArc t (a / 2 * 2 + 1 - a % 2) = true := isArc_iff.2 ⟨hv, by omega, by omega⟩
  have e : (a / 2 * 2 + 1 - a % 2) / 2 = a / 2 := by omega
  have e2 : linkOf t (a / 2 * 2 + 1 - a % 2) = some l := by simp [linkOf, hb, e, hl]
  simp only [tailOf, headOf, e2, hl']
  by_cases h : a % 2 = 0
  · rw [if_pos h, if_neg (by omega)]
  · rw [if_neg h, if_pos (by omega)]
theorem r_Head (t : Topo) (a : Int) : FCs 32 [t.pv, .int .i64 a] (.int .i64 (headOf t a)) := by
  refine FCs.intro [(100001, 0)] [0,1,2,4,12] (fun A => [t.pvA A, .int .i64 a]) Try.func32 rfl Try.call32 (by kernel_rfl) (by simp [Try.f32]) ?_
  intro A hA
  cbv
  refine CutC.upd Bool (fun b => [(12, .bool b)]) (fun _ => []) (fun b => b = !isArc t a) ?_ ?_
  · cbv
    refine splitBoolF (fun e1 => ?_) (fun e1 => ?_)
    · have h0 : 0 ≤ a := by subst hA; simpa [ar] using e1
      cbv
      refine CallV.int _ _ (by subst hA; exact r_Arcs t) (by subst hA; rfl) fun m1 h1 => ?_
      cbv
      refine ⟨_, rfl, ?_⟩
      simp [LeSt, leVs, leP, St.set, setVs, aget, subHp]
      subst hA
      simp only [ar, h1, isArc]
      rw [Bool.eq_iff_iff]; simp [h0]
    · cbv
      refine ⟨_, rfl, ?_⟩
      simp [LeSt, leVs, leP, St.set, setVs, aget, subHp]
      subst hA
      simp [ar] at e1
      simp [ar, isArc]; omega
  · rintro x hx
    cbv
    refine splitBoolF (fun e1 => ?_) (fun e1 => ?_)
    · have hh : isArc t a = true := by simpa [e1] using hx
      obtain ⟨hv, h0, h2⟩ := isArc_iff.1 hh
      have hlen := valid_links hv
      cbv
      refine ⟨by subst hA; simp only [ar, inI64, tdiv2 h0]; ((try simp only [ncast, Int.ofNat_eq_natCast] at *); omega), by subst hA; simp only [ar, inI64, tdiv2 h0]; ((try simp only [ncast, Int.ofNat_eq_natCast] at *); omega), by subst hA; simp only [ar, inI64, tdiv2 h0]; ((try simp only [ncast, Int.ofNat_eq_natCast] at *); omega), by subst hA; simp [ar], by subst hA; simp only [ar, inI64, tdiv2 h0, tmod2 h0]; ((try simp only [ncast, Int.ofNat_eq_natCast] at *); omega), ?_⟩
      refine CallV.int _ _ (by subst hA; exact r_Tail t _) (by subst hA; rfl) fun m1 h1 => ?_
      cbv
      subst hA
      refine Or.inl ?_
      simp only [ar, tdiv2 h0, tmod2 h0] at h1
      rw [h1, tail_back hh]
    · have hh : isArc t a = false := by simpa [e1] using hx
      cbv
      (subst hA; refine Or.inl ?_; simp only [ar, arc_not hh])
theorem headCells {cs : List PV} {c : PV} {r : List PV} {P : PV → Prop} (h : cs = c :: r) (hk : P c) : match (generalizing := false) cs with | c :: _ => P c | [] => False := by subst h; exact hk
theorem r_Cost (t : Topo) (a : Int) : FCs 37 [t.pv, .int .i64 a] (.int .i64 (costOf t a)) := by
  refine FCs.intro [(100001, 0)] [0,1,2,4,12] (fun A => [t.pvA A, .int .i64 a]) Try.func37 rfl Try.call37 (by kernel_rfl) (by simp [Try.f37]) ?_
  intro A hA
  cbv
  refine CutC.upd Bool (fun b => [(12, .bool b)]) (fun _ => []) (fun b => b = !isArc t a) ?_ ?_
  · cbv
    refine splitBoolF (fun e1 => ?_) (fun e1 => ?_)
    · have h0 : 0 ≤ a := by subst hA; simpa [ar] using e1
      cbv
      refine CallV.int _ _ (by subst hA; exact r_Arcs t) (by subst hA; rfl) fun m1 h1 => ?_
      cbv
      refine ⟨_, rfl, ?_⟩
      simp [LeSt, leVs, leP, St.set, setVs, aget, subHp]
      subst hA
      simp only [ar, h1, isArc]
      rw [Bool.eq_iff_iff]; simp [h0]
    · cbv
      refine ⟨_, rfl, ?_⟩
      simp [LeSt, leVs, leP, St.set, setVs, aget, subHp]
      subst hA
      simp [ar] at e1
      simp [ar, isArc]; omega
  · rintro x hx
    cbv
    refine splitBoolF (fun e1 => ?_) (fun e1 => ?_)
    · have hh : isArc t a = true := by simpa [e1] using hx
      obtain ⟨l, hl, hl'⟩ := linkOf_some hh
      obtain ⟨hv, h0, h2⟩ := isArc_iff.1 hh
      have hlen := valid_links hv
      cbv
      refine ⟨by subst hA; simp only [ar, inI64, tdiv2 h0]; ((try simp only [ncast, Int.ofNat_eq_natCast] at *); omega), by subst hA; simp [ar], ?_⟩
      refine ⟨_, by subst hA; simp only [ar, tdiv2 h0]; exact lks_ati hl, by subst hA; simp only [ar, tdiv2 h0]; ((try simp only [ncast, Int.ofNat_eq_natCast] at *); omega), ?_⟩
      cbv
      refine ⟨by subst hA; simp only [ar, tmod2 h0]; exact ⟨by omega, show a % 2 < (2 : Int) by omega⟩, ?_⟩
      refine headCells (c := .int .i64 (if a % 2 = 0 then l.c0 else l.c1)) (r := if a % 2 = 0 then [.int .i64 l.c1, .int .i64 l.cap, .int .i64 l.delay, .int .i64 l.grp] else [.int .i64 l.cap, .int .i64 l.delay, .int .i64 l.grp]) ?_ ?_
      · subst hA
        simp only [ar, tmod2 h0]
        by_cases h : a % 2 = 0
        · simp [h]
        · have : a % 2 = 1 := by omega
          simp [this]
      · generalize hc : (if a % 2 = 0 then l.c0 else l.c1) = c
        cbv
        (subst hA; refine Or.inl ?_; simp only [ar, costOf, hl', hc])
    · have hh : isArc t a = false := by simpa [e1] using hx
      cbv
      (subst hA; refine Or.inl ?_; simp only [ar, arc_not hh])
theorem r_Overloaded (t : Topo) (n : Int) : FCs 36 [t.pv, .int .i64 n] (.bool (overOf t n)) := by
  refine FCs.intro [] [0,1,2,4] (fun A => [t.pvA A, .int .i64 n]) Try.func36 rfl Try.call36 (by kernel_rfl) (by simp [Try.f36]) ?_
  intro A hA
  cbv
  refine CallV.bool _ (by subst hA; exact r_Valid t) (by subst hA; rfl) fun m1 g1 => ?_
  cbv
  refine splitBoolF (fun e0 => ?_) (fun e0 => ?_)
  · cbv
    have hv : valid t = false := by rw [← g1, e0]
    (subst hA; refine Or.inl ?_; simp [ar, overOf, hv])
  have hv : valid t = true := by rw [← g1, e0]
  cbv
  refine splitBoolF (fun e1 => ?_) (fun e1 => ?_)
  · have h1 : ¬ 0 ≤ n := by subst hA; simpa [ar] using e1
    cbv
    (subst hA; refine Or.inl ?_; simp [ar, overOf, h1])
  · have h1 : 0 ≤ n := by subst hA; simpa [ar] using e1
    cbv
    refine splitBoolF (fun e2 => ?_) (fun e2 => ?_)
    · have h2 : ¬ n < t.over.length := by subst hA; simpa [ar, bools] using e2
      cbv
      (subst hA; refine Or.inl ?_; simp [ar, overOf, h2])
    · have h2 : n < t.over.length := by subst hA; simpa [ar, bools] using e2
      obtain ⟨b, hb, hb'⟩ := bools_at (k := n.toNat) (xs := t.over) (by ((try simp only [ncast, Int.ofNat_eq_natCast] at *); omega))
      have ho : overOf t n = b := by
        have h3 : decide (n < (t.over.length : Int)) = true := decide_eq_true h2
        simp only [overOf, h3, hb, hv, decide_eq_true h1, Option.getD_some, Bool.true_and, Bool.and_true]
      cbv
      refine ⟨_, by subst hA; exact hb', h1, ?_⟩
      cbv
      (subst hA; refine Or.inl ?_; simp only [ar, ho])
end Go.Proofs.Ytogehfalhodapaa
namespace Go.Proofs.Ytogehfalhodapaa
open Go Go.Proofs.Ytogehfalhodapaa.Pv
set_option linter.unusedSimpArgs false
set_option linter.unusedVariables false
theorem ints_drop {xs : List Int} {k : Nat} {a : Int} (h : xs[k]? = some a) : xs.drop k = a :: xs.drop (k + 1) := by
  have hlt : k < xs.length := (List.getElem?_eq_some_iff.1 h).1
  rw [List.drop_eq_getElem_cons hlt]; rw [List.getElem?_eq_getElem hlt] at h; rw [Option.some.inj h]
theorem within_nodes {t : Topo} {f : Int} : within f 0 (t.nodes - 1) = (!(decide (f < 0) || decide (t.nodes ≤ f))) := by
  unfold within; rw [Bool.eq_iff_iff]; simp; omega
theorem r_Path (t : Topo) (f : Int) (xs : List Int) (hl : xs.length ≤ 1000000) : FCs 16 [t.pv, .int .i64 f, .sl 1 (ints xs)] (.tup [.int .i64 (pathOf t f xs).1, .int .i64 (pathOf t f xs).2.1, .int .i64 (pathOf t f xs).2.2]) := by
  refine FCs.intro [(100003, 0), (100009, 0), (100011, 0)] [0,1,2,3,6,7,8,9,10,21,41,58] (fun A => [t.pvA A, .int .i64 f, .sl 1 (A.e fun _ => ints xs)]) Try.func16 rfl Try.call16 (by kernel_rfl) (by simp [Try.f16]) ?_
  intro A hA
  cbv
  refine CallV.bool _ (by subst hA; exact r_Valid t) (by subst hA; rfl) fun m1 h1 => ?_
  cbv
  refine splitBoolF (fun e1 => ?_) (fun e1 => ?_)
  · have hv : valid t = true := by subst hA; simpa [ar, h1] using e1
    cbv
    refine CutC.upd Bool (fun b => [(21, .bool b)]) (fun _ => []) (fun b => b = !within f 0 (t.nodes - 1)) ?_ ?_
    · cbv
      refine splitBoolF (fun e2 => ?_) (fun e2 => ?_)
      · cbv
        refine ⟨_, rfl, ?_⟩
        simp [LeSt, leVs, leP, St.set, setVs, aget, subHp]
        subst hA; simp only [ar] at e2; simp only [ar, within_nodes, e2, Bool.false_or, Bool.not_not]
        try rfl
      · cbv
        refine ⟨_, rfl, ?_⟩
        simp [LeSt, leVs, leP, St.set, setVs, aget, subHp]
        subst hA; simp only [ar] at e2; simp [ar, within_nodes, e2]
    · rintro x hx
      cbv
      refine splitBoolF (fun e2 => ?_) (fun e2 => ?_)
      · have hw : within f 0 (t.nodes - 1) = true := by simpa [e2] using hx
        cbv
        refine LoopK.upd (Nat × Int × Int) (fun p => [(10, .int .i64 p.1), (1, .int .i64 p.2.1), (9, .int .i64 p.2.2), (41, .junk), (58, .junk)]) (fun _ => [])
          (fun p => p.1 ≤ xs.length ∧ 0 ≤ p.2.2 ∧ p.2.2 ≤ 65535 * p.1 ∧ pathOf t f xs = pathGo t p.1 p.2.1 p.2.2 (xs.drop p.1)) (fun p => xs.length - p.1) (0, f, 0) ?_ ?_ ?_
        · simp [LeSt, leVs, leP, St.set, setVs, aget, subHp]
        · simp [pathOf, hv, hw]
        · rintro ⟨k, to, cost⟩ ⟨hk, hc0, hc1, hp⟩
          dsimp only at hk hc0 hc1 hp
          cbv
          refine splitBool (fun e3 => ?_) (fun e3 => ?_)
          · have hlt : k < xs.length := by subst hA; simpa [ar, ints] using e3
            obtain ⟨a, ha, ha'⟩ := ints_atN hlt
            rw [ints_drop ha] at hp
            cbv
            refine CutC.upd Bool (fun b => [(41, .bool b)]) (fun _ => []) (fun b => b = !isArc t a) ?_ ?_
            · cbv
              refine ⟨_, by subst hA; exact ha', Int.natCast_nonneg k, ?_⟩
              cbv
              refine splitBoolF (fun e4 => ?_) (fun e4 => ?_)
              · have h0 : 0 ≤ a := by subst hA; simpa [ar] using e4
                cbv
                refine ⟨_, by subst hA; exact ha', Int.natCast_nonneg k, ?_⟩
                cbv
                refine CallV.int _ _ (by subst hA; exact r_Arcs t) (by subst hA; rfl) fun m2 h2 => ?_
                cbv
                refine ⟨_, rfl, ?_⟩
                simp [LeSt, leVs, leP, St.set, setVs, aget, subHp]
                subst hA
                simp only [ar, h2, isArc]
                rw [Bool.eq_iff_iff]; simp [h0]
              · cbv
                refine ⟨_, rfl, ?_⟩
                simp [LeSt, leVs, leP, St.set, setVs, aget, subHp]
                subst hA
                simp [ar] at e4
                simp [ar, isArc]; omega
            · rintro y hy
              cbv
              refine splitBoolF (fun e4 => ?_) (fun e4 => ?_)
              · have hA1 : isArc t a = true := by simpa [e4] using hy
                have hok := arc_ok hA1
                cbv
                refine CutC.upd Bool (fun b => [(58, .bool b)]) (fun _ => []) (fun b => b = (!decide (tailOf t a = to) || (decide (0 < k) && overOf t to))) ?_ ?_
                · cbv
                  refine ⟨_, by subst hA; exact ha', Int.natCast_nonneg k, ?_⟩
                  cbv
                  refine CallV.int _ _ (by subst hA; exact r_Tail t a) (by subst hA; rfl) fun m2 h2 => ?_
                  cbv
                  refine splitBoolF (fun e5 => ?_) (fun e5 => ?_)
                  · have h5 : tailOf t a = to := by subst hA; simpa [ar, h2] using e5
                    cbv
                    refine splitBoolF (fun e6 => ?_) (fun e6 => ?_)
                    · have h6 : ¬ 0 < k := by subst hA; simp [ar] at e6; omega
                      cbv
                      refine ⟨_, rfl, ?_⟩
                      simp [LeSt, leVs, leP, St.set, setVs, aget, subHp]
                      subst hA
                      simp [ar, h5, h6]
                    · have h6 : 0 < k := by subst hA; simp [ar] at e6; omega
                      cbv
                      refine CallV.bool _ (by subst hA; exact r_Overloaded t to) (by subst hA; rfl) fun m3 h3 => ?_
                      cbv
                      refine ⟨_, rfl, ?_⟩
                      simp [LeSt, leVs, leP, St.set, setVs, aget, subHp]
                      subst hA
                      simp [ar, h5, h6, h3]
                  · have h5 : tailOf t a ≠ to := by subst hA; simpa [ar, h2] using e5
                    cbv
                    refine ⟨_, rfl, ?_⟩
                    simp [LeSt, leVs, leP, St.set, setVs, aget, subHp]
                    subst hA
                    simp [ar, h5]
                · rintro z hz
                  cbv
                  refine splitBoolF (fun e5 => ?_) (fun e5 => ?_)
                  · have fin : pathOf t f xs = pathGo t (k + 1) (headOf t a) (cost + costOf t a) (xs.drop (k + 1)) := by
                      rw [hp]
                      simp only [pathGo, pathStep, hA1, ← hz, e5]
                      simp
                    cbv
                    refine ⟨_, by subst hA; exact ha', Int.natCast_nonneg k, ?_⟩
                    cbv
                    refine CallV.int _ _ (by subst hA; exact r_Cost t a) (by subst hA; rfl) fun m2 h2 => ?_
                    cbv
                    refine ⟨by subst hA; simp only [ar, inI64]; ((try simp only [ncast, Int.ofNat_eq_natCast] at *); omega), ?_⟩
                    refine ⟨_, by subst hA; exact ha', Int.natCast_nonneg k, ?_⟩
                    cbv
                    refine CallV.int _ _ (by subst hA; exact r_Head t a) (by subst hA; rfl) fun m3 h3 => ?_
                    cbv
                    refine ⟨by subst hA; simp only [ar, inI64]; ((try simp only [ncast, Int.ofNat_eq_natCast] at *); omega), ?_⟩
                    refine ⟨(k + 1, m3, cost + m2), ⟨⟨hlt, ?_, ?_, ?_⟩, ?_⟩, ?_⟩
                    · dsimp only; omega
                    · dsimp only; ((try simp only [ncast, Int.ofNat_eq_natCast] at *); omega)
                    · dsimp only; rw [h2, h3]; exact fin
                    · dsimp only; omega
                    · subst hA
                      simp [LeSt, leVs, leP, St.set, setVs, aget, subHp]
                      simp [ar]
                  · have fin : pathOf t f xs = (0, 0, 4) := by
                      rw [hp]
                      simp only [pathGo, pathStep, hA1]
                      rw [if_neg (by simp), if_pos (by rw [← hz, e5])]
                    cbv
                    (subst hA; refine Or.inl ?_; simp only [ar, fin])
              · have hA1 : isArc t a = false := by simpa [e4] using hy
                cbv
                (subst hA; refine Or.inl ?_; simp only [ar, hp, pathGo, pathStep, hA1, if_true])
          · have hge : k = xs.length := by subst hA; simp [ar, ints] at e3; ((try simp only [ncast, Int.ofNat_eq_natCast] at *); omega)
            cbv
            subst hge
            rw [List.drop_length] at hp
            (subst hA; refine Or.inl ?_; simp only [ar, hp, pathGo])
      · have hw : within f 0 (t.nodes - 1) = false := by simpa [e2] using hx
        cbv
        (subst hA; refine Or.inl ?_; simp [ar, pathOf, hv, hw])
  · have hv : valid t = false := by subst hA; simpa [ar, h1] using e1
    cbv
    (subst hA; refine Or.inl ?_; simp [ar, pathOf, hv])
def eqL (a b : List Int) : Bool := decide (a = b)
theorem r_SameInts (a b : List Int) (ha : a.length ≤ 100000000) : FCs 19 [.sl 1 (ints a), .sl 1 (ints b)] (.bool (eqL a b)) := by
  refine FCs.intro [] [0,1,4,5] (fun A => [.sl 1 (A.e fun _ => ints a), .sl 1 (A.e fun _ => ints b)]) Try.func19 rfl Try.call19 (by kernel_rfl) (by simp [Try.f19]) ?_
  intro A hA
  cbv
  refine splitBoolF (fun e1 => ?_) (fun e1 => ?_)
  · have hl : a.length = b.length := by subst hA; simp [ar, ints] at e1; ((try simp only [ncast, Int.ofNat_eq_natCast] at *); omega)
    cbv
    refine LoopK.upd Nat (fun k => [(5, .int .i64 k)]) (fun _ => []) (fun k => k ≤ a.length ∧ a.take k = b.take k) (fun k => a.length - k) 0 ?_ ?_ ?_
    · simp [LeSt, leVs, leP, St.set, setVs, aget, subHp]
    · simp
    · rintro k ⟨hk, he⟩
      cbv
      refine splitBool (fun e2 => ?_) (fun e2 => ?_)
      · have hlt : k < a.length := by subst hA; simpa [ar, ints] using e2
        obtain ⟨x, hx, hx'⟩ := ints_atN hlt
        obtain ⟨y, hy, hy'⟩ := ints_atN (xs := b) (k := k) (by omega)
        cbv
        refine ⟨_, by subst hA; exact hx', Int.natCast_nonneg k, ?_⟩
        cbv
        refine ⟨_, by subst hA; exact hy', Int.natCast_nonneg k, ?_⟩
        cbv
        refine splitBoolF (fun e3 => ?_) (fun e3 => ?_)
        · have h3 : x = y := by subst hA; simpa [ar] using e3
          cbv
          refine ⟨by subst hA; simp only [ar, inI64]; ((try simp only [ncast, Int.ofNat_eq_natCast] at *); omega), ?_⟩
          refine ⟨k + 1, ⟨⟨hlt, ?_⟩, by omega⟩, ?_⟩
          · rw [take_snoc hx, take_snoc hy, he, h3]
          · subst hA
            simp [LeSt, leVs, leP, St.set, setVs, aget, subHp]
            simp [ar]
        · have h3 : x ≠ y := by subst hA; simpa [ar] using e3
          have hne : eqL a b = false := by
            simp only [eqL, decide_eq_false_iff_not]
            intro h; rw [h, hy] at hx; exact h3 (Option.some.inj hx).symm
          cbv
          (subst hA; refine Or.inl ?_; simp only [ar, hne])
      · have hge : k = a.length := by subst hA; simp [ar, ints] at e2; ((try simp only [ncast, Int.ofNat_eq_natCast] at *); omega)
        have heq : eqL a b = true := by
          subst hge
          rw [List.take_length, hl, List.take_length] at he
          simp [eqL, he]
        cbv
        (subst hA; refine Or.inl ?_; simp only [ar, heq])
  · have hl : ¬ a.length = b.length := by subst hA; simp [ar, ints] at e1; ((try simp only [ncast, Int.ofNat_eq_natCast] at *); omega)
    have hne : eqL a b = false := by simp only [eqL, decide_eq_false_iff_not]; intro h; exact hl (by rw [h])
    cbv
    (subst hA; refine Or.inl ?_; simp only [ar, hne])
def hasL (xs : List Int) (n : Int) : Bool := decide (n ∈ xs)
theorem r_Has (xs : List Int) (n : Int) (hl : xs.length ≤ 1000000) : FCs 74 [.sl 1 (ints xs), .int .i64 n] (.bool (hasL xs n)) := by
  refine FCs.intro [] [0,1,4,5] (fun A => [.sl 1 (A.e fun _ => ints xs), .int .i64 n]) Try.func74 rfl Try.call74 (by kernel_rfl) (by simp [Try.f74]) ?_
  intro A hA
  cbv
  refine LoopK.upd Nat (fun k => [(5, .int .i64 k)]) (fun _ => []) (fun k => k ≤ xs.length ∧ n ∉ xs.take k) (fun k => xs.length - k) 0 ?_ ?_ ?_
  · simp [LeSt, leVs, leP, St.set, setVs, aget, subHp]
  · simp
  · rintro k ⟨hk, he⟩
    cbv
    refine splitBool (fun e2 => ?_) (fun e2 => ?_)
    · have hlt : k < xs.length := by subst hA; simpa [ar, ints] using e2
      obtain ⟨x, hx, hx'⟩ := ints_atN hlt
      cbv
      refine ⟨_, by subst hA; exact hx', Int.natCast_nonneg k, ?_⟩
      cbv
      refine splitBoolF (fun e3 => ?_) (fun e3 => ?_)
      · have h3 : x ≠ n := by subst hA; simpa [ar] using e3
        cbv
        refine ⟨by subst hA; simp only [ar, inI64]; ((try simp only [ncast, Int.ofNat_eq_natCast] at *); omega), ?_⟩
        refine ⟨k + 1, ⟨⟨hlt, ?_⟩, by omega⟩, ?_⟩
        · rw [take_snoc hx]
          simp only [List.mem_append, List.mem_singleton, not_or]
          exact ⟨he, Ne.symm h3⟩
        · subst hA
          simp [LeSt, leVs, leP, St.set, setVs, aget, subHp]
          simp [ar]
      · have h3 : x = n := by subst hA; simpa [ar] using e3
        have hne : hasL xs n = true := by simp only [hasL, decide_eq_true_eq]; rw [← h3]; exact List.mem_of_getElem? hx
        cbv
        (subst hA; refine Or.inl ?_; simp only [ar, hne])
    · have hge : k = xs.length := by subst hA; simp [ar, ints] at e2; ((try simp only [ncast, Int.ofNat_eq_natCast] at *); omega)
      have heq : hasL xs n = false := by
        subst hge
        rw [List.take_length] at he
        simp [hasL, he]
      cbv
      (subst hA; refine Or.inl ?_; simp only [ar, heq])
end Go.Proofs.Ytogehfalhodapaa
namespace Go.Proofs.Ytogehfalhodapaa
open Go Go.Proofs.Ytogehfalhodapaa.Pv
set_option linter.unusedSimpArgs false
set_option linter.unusedVariables false
/-! distances, in plain words -/
def fitsOf (t : Topo) (down : List Bool) : Bool := valid t && (decide (down.length = 0) || decide ((down.length : Int) = 2 * t.links.length))
def upOf (down : List Bool) (a : Int) : Bool := decide (down.length = 0) || !(down[a.toNat]?.getD false)
def transOf (t : Topo) (n e : Int) : Bool := decide (n = e) || !overOf t n
/-- the node that is reached over an arc, and the one by way of which it is: towards a node (false), from a node (true) -/
def toX (t : Topo) (dir : Bool) (a : Int) : Int := if dir then headOf t a else tailOf t a
def viaY (t : Topo) (dir : Bool) (a : Int) : Int := if dir then tailOf t a else headOf t a
def at0 (D : List Int) (i : Int) : Int := (D[i.toNat]?).getD (-1)
/-- an arc over which x may be reached by way of y -/
def Open (t : Topo) (down : List Bool) (n : Int) (dir : Bool) (D : List Int) (a : Int) : Prop :=
  isArc t a = true ∧ upOf down a = true ∧ 0 ≤ at0 D (viaY t dir a) ∧ transOf t (viaY t dir a) n = true
structure IsDist (t : Topo) (down : List Bool) (n : Int) (dir : Bool) (D : List Int) : Prop where
  len : (D.length : Int) = t.nodes
  low : ∀ i : Nat, i < D.length → -1 ≤ at0 D i
  zero : at0 D n = 0
  best : ∀ a, Open t down n dir D a → 0 ≤ at0 D (toX t dir a) ∧ at0 D (toX t dir a) ≤ at0 D (viaY t dir a) + costOf t a
  some : ∀ x : Int, 0 ≤ x → x < t.nodes → x ≠ n → 0 ≤ at0 D x → ∃ a, Open t down n dir D a ∧ toX t dir a = x ∧ at0 D x = at0 D (viaY t dir a) + costOf t a
theorem at0_neg {D : List Int} {i : Int} (h : (D.length : Int) ≤ i) : at0 D i = -1 := by
  unfold at0; rw [List.getElem?_eq_none (by omega)]; rfl
theorem via_ok {t : Topo} {dir : Bool} {a : Int} (h : isArc t a = true) : 0 ≤ viaY t dir a ∧ viaY t dir a < t.nodes ∧ 0 ≤ toX t dir a ∧ toX t dir a < t.nodes ∧ 1 ≤ costOf t a ∧ costOf t a ≤ 65535 := by
  have := arc_ok h
  unfold viaY toX
  cases dir <;> simp <;> omega
theorem dist_le {t : Topo} {down : List Bool} {n : Int} {dir : Bool} {D D' : List Int} (h : IsDist t down n dir D) (h' : IsDist t down n dir D') :
    ∀ (k : Nat) (x : Int), 0 ≤ x → x < t.nodes → 0 ≤ at0 D x → (at0 D x).toNat ≤ k → 0 ≤ at0 D' x ∧ at0 D' x ≤ at0 D x := by
  intro k
  induction k using Nat.strongRecOn with
  | ind k ih =>
    intro x hx0 hx1 hD hk
    by_cases hxn : x = n
    · subst hxn; rw [h'.zero]; omega
    · obtain ⟨a, ⟨o1, o2, o3, o4⟩, ha, hc⟩ := h.some x hx0 hx1 hxn hD
      have hv := via_ok (dir := dir) o1
      obtain ⟨i1, i2⟩ := ih (at0 D (viaY t dir a)).toNat (by omega) (viaY t dir a) hv.1 hv.2.1 o3 (Nat.le_refl _)
      obtain ⟨b1, b2⟩ := h'.best a ⟨o1, o2, i1, o4⟩
      rw [ha] at b1 b2
      omega
/-- distances are told by what they are -/
theorem dist_unique {t : Topo} {down : List Bool} {n : Int} {dir : Bool} {D D' : List Int} (h : IsDist t down n dir D) (h' : IsDist t down n dir D') : D = D' := by
  have hl : D.length = D'.length := by have := h.len; have := h'.len; omega
  apply List.ext_getElem hl
  intro i h1 h2
  have e1 : at0 D i = D[i] := by simp [at0, h1]
  have e2 : at0 D' i = D'[i] := by simp [at0, h2]
  rw [← e1, ← e2]
  have hi : (i : Int) < t.nodes := by have := h.len; omega
  have l1 := h.low i h1
  have l2 := h'.low i h2
  have a1 : 0 ≤ at0 D i → 0 ≤ at0 D' i ∧ at0 D' i ≤ at0 D i := fun h0 => dist_le h h' _ i (by omega) hi h0 (Nat.le_refl _)
  have a2 : 0 ≤ at0 D' i → 0 ≤ at0 D i ∧ at0 D i ≤ at0 D' i := fun h0 => dist_le h' h _ i (by omega) hi h0 (Nat.le_refl _)
  by_cases c1 : 0 ≤ at0 D i <;> by_cases c2 : 0 ≤ at0 D' i <;> omega
open Classical in
noncomputable def distOf (t : Topo) (down : List Bool) (n : Int) (dir : Bool) : List Int := if h : ∃ D, IsDist t down n dir D then h.choose else []
theorem distOf_eq {t : Topo} {down : List Bool} {n : Int} {dir : Bool} {D : List Int} (h : IsDist t down n dir D) : distOf t down n dir = D := by
  have hex : ∃ D, IsDist t down n dir D := ⟨D, h⟩
  unfold distOf
  rw [dif_pos hex]
  exact dist_unique hex.choose_spec h
noncomputable def searchOf (t : Topo) (down : List Bool) (n : Int) (dir : Bool) : List Int × Int :=
  if fitsOf t down = false then ([], 1) else if within n 0 (t.nodes - 1) = false then ([], 2) else (distOf t down n dir, 0)
/-! one relaxation after the other -/
theorem at0_set {D : List Int} {x i v : Int} (hx0 : 0 ≤ x) (hi0 : 0 ≤ i) (hx : x < D.length) : at0 (D.set x.toNat v) i = if i = x then v else at0 D i := by
  unfold at0
  rw [List.getElem?_set]
  by_cases h : x.toNat = i.toNat
  · have : i = x := by omega
    subst this
    simp only [if_true]
    rw [if_pos (by omega)]
    rfl
  · rw [if_neg h, if_neg (by omega)]
/-- how many are reached -/
def cnt (D : List Int) : Nat := (D.filter fun x => decide (0 ≤ x)).length
theorem cnt_le (D : List Int) : cnt D ≤ D.length := List.length_filter_le _ _
def wgt (B : Nat) (x : Int) : Nat := if x < 0 then B else x.toNat
def pot (B : Nat) (D : List Int) : Nat := (D.map (wgt B)).sum
theorem pot_set {B : Nat} {v : Int} : ∀ {D : List Int} {k : Nat} (h : k < D.length), pot B (D.set k v) + wgt B D[k] = pot B D + wgt B v
  | [], k, h => by simp at h
  | x :: r, 0, h => by simp [pot]; omega
  | x :: r, k + 1, h => by
    have := pot_set (B := B) (v := v) (D := r) (k := k) (by simpa using h)
    simp only [pot, List.set_cons_succ, List.map_cons, List.sum_cons, List.getElem_cons_succ] at this ⊢
    omega
theorem cnt_set {v : Int} : ∀ {D : List Int} {k : Nat} (h : k < D.length), cnt (D.set k v) + (if 0 ≤ D[k] then 1 else 0) = cnt D + (if 0 ≤ v then 1 else 0)
  | [], k, h => by simp at h
  | x :: r, 0, h => by
    simp only [cnt, List.set_cons_zero, List.filter_cons, List.getElem_cons_zero]
    by_cases h1 : 0 ≤ x <;> by_cases h2 : 0 ≤ v <;> simp [h1, h2]
  | x :: r, k + 1, h => by
    have := cnt_set (v := v) (D := r) (k := k) (by simpa using h)
    simp only [cnt, List.set_cons_succ, List.filter_cons, List.getElem_cons_succ] at this ⊢
    by_cases h1 : 0 ≤ x
    · simp only [h1, decide_true, if_true, List.length_cons]; omega
    · simp only [h1, decide_false, Bool.false_eq_true, if_false]; exact this
theorem at0_getElem {D : List Int} {x : Int} (h0 : 0 ≤ x) (h1 : x < D.length) : ∃ h : x.toNat < D.length, at0 D x = D[x.toNat] := by
  have h : x.toNat < D.length := by omega
  exact ⟨h, by simp [at0, h]⟩
/-- what holds between two relaxations -/
structure Rlx (t : Topo) (down : List Bool) (n : Int) (dir : Bool) (D : List Int) : Prop where
  len : (D.length : Int) = t.nodes
  low : ∀ i : Int, -1 ≤ at0 D i
  zero : at0 D n = 0
  up : ∀ i : Int, at0 D i ≤ 65535 * ((cnt D : Int) - 1)
  some : ∀ x : Int, 0 ≤ x → x < t.nodes → x ≠ n → 0 ≤ at0 D x → ∃ a, Open t down n dir D a ∧ toX t dir a = x ∧ at0 D (viaY t dir a) + costOf t a ≤ at0 D x
def Loose (t : Topo) (down : List Bool) (n : Int) (dir : Bool) (D : List Int) (a : Int) : Prop :=
  Open t down n dir D a ∧ (at0 D (toX t dir a) < 0 ∨ at0 D (viaY t dir a) + costOf t a < at0 D (toX t dir a))
theorem Rlx.step {t : Topo} {down : List Bool} {n : Int} {dir : Bool} {D : List Int} (hv : valid t = true) (hn : 0 ≤ n) (h : Rlx t down n dir D) {a : Int} (ha : Loose t down n dir D a) :
    Rlx t down n dir (D.set (toX t dir a).toNat (at0 D (viaY t dir a) + costOf t a)) ∧ pot 4194304 (D.set (toX t dir a).toNat (at0 D (viaY t dir a) + costOf t a)) < pot 4194304 D := by
  obtain ⟨⟨o1, o2, o3, o4⟩, hl⟩ := ha
  have hok := via_ok (dir := dir) o1
  have hnod := headOk_nodes (valid_head hv)
  have hlen := h.len
  have hcnt := cnt_le D
  have hup := h.up (viaY t dir a)
  obtain ⟨hx, hxe⟩ := at0_getElem (D := D) (x := toX t dir a) hok.2.2.1 (by omega)
  have hlow := h.low (toX t dir a)
  have hupx := h.up (toX t dir a)
  have hne : toX t dir a ≠ n := by
    intro e
    rw [e, h.zero] at hl
    rcases hl with hl | hl <;> omega
  have hc := cnt_set (v := at0 D (viaY t dir a) + costOf t a) hx
  have hp := pot_set (B := 4194304) (v := at0 D (viaY t dir a) + costOf t a) hx
  rw [← hxe] at hc hp
  have hget : ∀ i : Int, 0 ≤ i → at0 (D.set (toX t dir a).toNat (at0 D (viaY t dir a) + costOf t a)) i = if i = toX t dir a then at0 D (viaY t dir a) + costOf t a else at0 D i := fun i hi => at0_set hok.2.2.1 hi (by omega)
  have hneg : ∀ i : Int, i < 0 → at0 (D.set (toX t dir a).toNat (at0 D (viaY t dir a) + costOf t a)) i = at0 (D.set (toX t dir a).toNat (at0 D (viaY t dir a) + costOf t a)) 0 := by
    intro i hi; unfold at0; rw [show i.toNat = (0 : Int).toNat by omega]
  have hnew0 : (0 : Int) ≤ at0 D (viaY t dir a) + costOf t a := by omega
  rw [if_pos hnew0] at hc
  -- the values go down
  have hle : ∀ i : Int, 0 ≤ i → 0 ≤ at0 D i → at0 (D.set (toX t dir a).toNat (at0 D (viaY t dir a) + costOf t a)) i ≤ at0 D i ∧ 0 ≤ at0 (D.set (toX t dir a).toNat (at0 D (viaY t dir a) + costOf t a)) i := by
    intro i hi h0
    rw [hget i hi]
    split
    · rename_i e; subst e; omega
    · omega
  have hcc : (cnt (D.set (toX t dir a).toNat (at0 D (viaY t dir a) + costOf t a)) : Int) = cnt D + (if 0 ≤ at0 D (toX t dir a) then 0 else 1) := by
    by_cases h0 : 0 ≤ at0 D (toX t dir a)
    · rw [if_pos h0] at hc ⊢; omega
    · rw [if_neg h0] at hc ⊢; omega
  have hupn : ∀ i : Int, 0 ≤ i → at0 (D.set (toX t dir a).toNat (at0 D (viaY t dir a) + costOf t a)) i ≤ 65535 * ((cnt (D.set (toX t dir a).toNat (at0 D (viaY t dir a) + costOf t a)) : Int) - 1) := by
    intro i hi
    rw [hget i hi, hcc]
    have := h.up i
    split
    · rename_i e
      by_cases h0 : 0 ≤ at0 D (toX t dir a)
      · rw [if_pos h0]; omega
      · rw [if_neg h0]; omega
    · split <;> omega
  refine ⟨⟨by simpa using h.len, ?_, ?_, ?_, ?_⟩, ?_⟩
  · intro i
    by_cases hi : 0 ≤ i
    · rw [hget i hi]
      split
      · omega
      · exact h.low i
    · rw [hneg i (by omega), hget 0 (by omega)]
      split
      · omega
      · exact h.low 0
  · rw [hget n hn, if_neg (Ne.symm hne)]; exact h.zero
  · intro i
    by_cases hi : 0 ≤ i
    · exact hupn i hi
    · rw [hneg i (by omega)]; exact hupn 0 (by omega)
  · intro x hx0 hx1 hxn h0
    by_cases hxa : x = toX t dir a
    · subst hxa
      have h1 := hle (viaY t dir a) hok.1 o3
      exact ⟨a, ⟨o1, o2, h1.2, o4⟩, rfl, by rw [hget _ hx0, if_pos rfl]; omega⟩
    · rw [hget x hx0, if_neg hxa] at h0
      obtain ⟨b, ⟨p1, p2, p3, p4⟩, hb, hbc⟩ := h.some x hx0 hx1 hxn h0
      have hvb := via_ok (dir := dir) p1
      have h1 := hle (viaY t dir b) hvb.1 p3
      exact ⟨b, ⟨p1, p2, h1.2, p4⟩, hb, by rw [hget x hx0, if_neg hxa]; omega⟩
  · have w1 : wgt 4194304 (at0 D (viaY t dir a) + costOf t a) = (at0 D (viaY t dir a) + costOf t a).toNat := by unfold wgt; rw [if_neg (by omega)]
    rw [w1] at hp
    have w2 : (at0 D (viaY t dir a) + costOf t a).toNat < wgt 4194304 (at0 D (toX t dir a)) := by
      unfold wgt
      split
      · omega
      · omega
    omega
/-- nothing is left to relax -/
theorem Rlx.done {t : Topo} {down : List Bool} {n : Int} {dir : Bool} {D : List Int} (h : Rlx t down n dir D) (hn : ∀ a, ¬ Loose t down n dir D a) : IsDist t down n dir D := by
  have best : ∀ a, Open t down n dir D a → 0 ≤ at0 D (toX t dir a) ∧ at0 D (toX t dir a) ≤ at0 D (viaY t dir a) + costOf t a := by
    intro a ha
    have := hn a
    unfold Loose at this
    simp only [ha, true_and, not_or] at this
    omega
  refine ⟨h.len, fun i _ => h.low i, h.zero, best, ?_⟩
  intro x hx0 hx1 hxn h0
  obtain ⟨a, ha, he, hc⟩ := h.some x hx0 hx1 hxn h0
  have := best a ha
  rw [he] at this
  exact ⟨a, ha, he, by omega⟩
theorem at0_replicate (k : Nat) (i : Int) : at0 (List.replicate k (-1)) i = -1 := by
  unfold at0
  rw [List.getElem?_replicate]
  split <;> rfl
theorem Rlx.start {t : Topo} {down : List Bool} {n : Int} {dir : Bool} (hn0 : 0 ≤ n) (hn1 : n < t.nodes) : Rlx t down n dir ((List.replicate t.nodes.toNat (-1)).set n.toNat 0) := by
  have hl : n < ((List.replicate t.nodes.toNat (-1 : Int)).length : Int) := by simp; omega
  have hget : ∀ i : Int, 0 ≤ i → at0 ((List.replicate t.nodes.toNat (-1)).set n.toNat 0) i = if i = n then 0 else -1 := by
    intro i hi; rw [at0_set hn0 hi hl, at0_replicate]
  have hneg : ∀ i : Int, i < 0 → at0 ((List.replicate t.nodes.toNat (-1)).set n.toNat 0) i = at0 ((List.replicate t.nodes.toNat (-1)).set n.toNat 0) 0 := by
    intro i hi; unfold at0; rw [show i.toNat = (0 : Int).toNat by omega]
  have hc : cnt ((List.replicate t.nodes.toNat (-1 : Int)).set n.toNat 0) = 1 := by
    have h := cnt_set (v := 0) (D := List.replicate t.nodes.toNat (-1 : Int)) (k := n.toNat) (by simp; omega)
    have h0 : cnt (List.replicate t.nodes.toNat (-1 : Int)) = 0 := by simp [cnt]
    rw [h0] at h
    simp at h
    exact h
  refine ⟨by simp; omega, ?_, ?_, ?_, ?_⟩
  · intro i
    by_cases hi : 0 ≤ i
    · rw [hget i hi]; split <;> omega
    · rw [hneg i (by omega), hget 0 (by omega)]; split <;> omega
  · rw [hget n hn0, if_pos rfl]
  · intro i
    rw [hc]
    by_cases hi : 0 ≤ i
    · rw [hget i hi]; split <;> omega
    · rw [hneg i (by omega), hget 0 (by omega)]; split <;> omega
  · intro x hx0 hx1 hxn h0
    rw [hget x hx0, if_neg hxn] at h0
    omega
end Go.Proofs.Ytogehfalhodapaa
namespace Go.Proofs.Ytogehfalhodapaa
open Go Go.Proofs.Ytogehfalhodapaa.Pv
set_option linter.unusedSimpArgs false
set_option linter.unusedVariables false
/-! the references of layer 11 -/
theorem r_Fits (t : Topo) (down : List Bool) : FCs 47 [t.pv, .sl 1 (bools down)] (.bool (fitsOf t down)) := by
  refine FCs.intro [] [0,1,2,4] (fun A => [t.pvA A, .sl 1 (A.e fun _ => bools down)]) Try.func47 rfl Try.call47 (by kernel_rfl) (by simp [Try.f47]) ?_
  intro A hA
  cbv
  refine CallV.bool _ (by subst hA; exact r_Valid t) (by subst hA; rfl) fun m1 g1 => ?_
  cbv
  refine splitBoolF (fun e0 => ?_) (fun e0 => ?_)
  · have hv : valid t = false := by rw [← g1, e0]
    cbv
    (subst hA; refine Or.inl ?_; simp [ar, fitsOf, hv])
  have hv : valid t = true := by rw [← g1, e0]
  have hlen := valid_links hv
  cbv
  refine splitBoolF (fun e1 => ?_) (fun e1 => ?_)
  · have h1 : ¬ down.length = 0 := by subst hA; simpa [ar, bools] using e1
    cbv
    refine ⟨by subst hA; simp only [ar, inI64, lks_len]; ((try simp only [ncast, Int.ofNat_eq_natCast] at *); omega), ?_⟩
    subst hA
    refine Or.inl ?_
    simp only [ar, fitsOf, hv, bools_len, lks_len, decide_eq_false h1, Bool.true_and, Bool.false_or]
    try rfl
  · have h1 : down.length = 0 := by subst hA; simpa [ar, bools] using e1
    cbv
    (subst hA; refine Or.inl ?_; simp [ar, fitsOf, hv, h1])
theorem r_Up (down : List Bool) (a : Int) (h : down.length = 0 ∨ 0 ≤ a ∧ a < down.length) : FCs 49 [.sl 1 (bools down), .int .i64 a] (.bool (upOf down a)) := by
  refine FCs.intro [] [0,1,4] (fun A => [.sl 1 (A.e fun _ => bools down), .int .i64 a]) Try.func49 rfl Try.call49 (by kernel_rfl) (by simp [Try.f49]) ?_
  intro A hA
  cbv
  refine splitBoolF (fun e1 => ?_) (fun e1 => ?_)
  · have h1 : ¬ down.length = 0 := by subst hA; simpa [ar, bools] using e1
    have h2 : 0 ≤ a ∧ a < down.length := h.resolve_left h1
    obtain ⟨b, hb, hb'⟩ := bools_at (k := a.toNat) (xs := down) (by ((try simp only [ncast, Int.ofNat_eq_natCast] at *); omega))
    have hu : upOf down a = !b := by simp only [upOf, hb, decide_eq_false h1, Bool.false_or, Option.getD_some]
    cbv
    refine ⟨_, by subst hA; exact hb', h2.1, ?_⟩
    cbv
    (subst hA; refine Or.inl ?_; simp only [ar, hu])
  · have h1 : down.length = 0 := by subst hA; simpa [ar, bools] using e1
    cbv
    (subst hA; refine Or.inl ?_; simp [ar, upOf, h1])
theorem r_transit (t : Topo) (n e : Int) : FCs 58 [t.pv, .int .i64 n, .int .i64 e] (.bool (transOf t n e)) := by
  refine FCs.intro [] [0,1,2,3,6] (fun A => [t.pvA A, .int .i64 n, .int .i64 e]) Try.func58 rfl Try.call58 (by kernel_rfl) (by simp [Try.f58]) ?_
  intro A hA
  cbv
  refine splitBoolF (fun e1 => ?_) (fun e1 => ?_)
  · have h1 : ¬ n = e := by subst hA; simpa [ar] using e1
    cbv
    refine CallV.bool _ (by subst hA; exact r_Overloaded t n) (by subst hA; rfl) fun m1 g1 => ?_
    cbv
    (subst hA; refine Or.inl ?_; simp [ar, transOf, h1, g1])
  · have h1 : n = e := by subst hA; simpa [ar] using e1
    cbv
    (subst hA; refine Or.inl ?_; simp [ar, transOf, h1])
theorem ints_set (xs : List Int) (i : Nat) (v : Int) : (ints xs).set i [.int .i64 v] = ints (xs.set i v) := by simp [ints, List.map_set]
theorem fits_up {t : Topo} {down : List Bool} (h : fitsOf t down = true) {a : Int} (ha : isArc t a = true) : down.length = 0 ∨ 0 ≤ a ∧ a < down.length := by
  obtain ⟨_, h1, h2⟩ := isArc_iff.1 ha
  simp only [fitsOf, Bool.and_eq_true, Bool.or_eq_true, decide_eq_true_eq] at h
  rcases h.2 with h | h
  · exact .inl h
  · right; omega
theorem fill_set {N k : Nat} (hk : k < N) (a b : Int) : (List.replicate k a ++ List.replicate (N - k) b).set k a = List.replicate (k + 1) a ++ List.replicate (N - (k + 1)) b := by
  rw [List.set_append_right _ _ (by simp)]
  simp only [List.length_replicate, Nat.sub_self]
  obtain ⟨m, hm⟩ : ∃ m, N - k = m + 1 := ⟨N - k - 1, by omega⟩
  rw [hm, List.replicate_succ, List.set_cons_zero, show N - (k + 1) = m by omega, List.replicate_succ', List.append_assoc]
  rfl
theorem r_search (t : Topo) (down : List Bool) (n : Int) (dir : Bool) :
    FCs 57 [t.pv, .sl 1 (bools down), .int .i64 n, .bool dir] (.tup [.sl 1 (ints (searchOf t down n dir).1), .int .i64 (searchOf t down n dir).2]) := by
  refine FCs.intro [(31, 10), (100003, 0), (200019, 0), (100020, 0), (100022, 0)] [0,1,2,3,4,8,9,10,11,12,13,14,15,16,28,79,100] (fun A => [t.pvA A, .sl 1 (A.e fun _ => bools down), .int .i64 n, .bool dir]) Try.func57 rfl Try.call57 (by kernel_rfl) (by simp [Try.f57]) ?_
  intro A hA
  cbv
  refine CallV.bool _ (by subst hA; exact r_Fits t down) (by subst hA; rfl) fun m1 h1 => ?_
  cbv
  refine splitBoolF (fun e1 => ?_) (fun e1 => ?_)
  rotate_left
  · have hf : fitsOf t down = false := by subst hA; simpa [ar, h1] using e1
    cbv
    subst hA
    refine Or.inr ?_
    simp [wk, wks, ar, searchOf, hf, ints]
  have hf : fitsOf t down = true := by subst hA; simpa [ar, h1] using e1
  have hv : valid t = true := by simp [fitsOf] at hf; exact hf.1
  have hnod := headOk_nodes (valid_head hv)
  cbv
  refine CutC.upd Bool (fun b => [(28, .bool b)]) (fun _ => []) (fun b => b = !within n 0 (t.nodes - 1)) ?_ ?_
  · cbv
    refine splitBoolF (fun e2 => ?_) (fun e2 => ?_)
    · cbv
      refine ⟨_, rfl, ?_⟩
      simp [LeSt, leVs, leP, St.set, setVs, aget, subHp]
      subst hA; simp only [ar] at e2; simp only [ar, within_nodes, e2, Bool.false_or, Bool.not_not]
      try rfl
    · cbv
      refine ⟨_, rfl, ?_⟩
      simp [LeSt, leVs, leP, St.set, setVs, aget, subHp]
      subst hA; simp only [ar] at e2; simp [ar, within_nodes, e2]
  rintro x hx
  cbv
  refine splitBoolF (fun e2 => ?_) (fun e2 => ?_)
  rotate_left
  · have hw : within n 0 (t.nodes - 1) = false := by simpa [e2] using hx
    cbv
    subst hA
    refine Or.inr ?_
    simp [wk, wks, ar, searchOf, hf, hw, ints]
  have hw : within n 0 (t.nodes - 1) = true := by simpa [e2] using hx
  have hn : 0 ≤ n ∧ n < t.nodes := by simp [within] at hw; omega
  cbv
  refine ⟨(by subst hA; simp only [ar]; exact ⟨by ((try simp only [ncast, Int.ofNat_eq_natCast] at *); omega), by trivial, by show (8 : Int) * (t.nodes) ≤ 281474976710656; ((try simp only [ncast, Int.ofNat_eq_natCast] at *); omega), by ((try simp only [ncast, Int.ofNat_eq_natCast] at *); omega)⟩), ?_⟩
  refine LoopK.upd Nat (fun k => [(11, .int .i64 k)]) (fun k => [(10, ⟨3, 1, A.e fun _ => ints (List.replicate k (-1) ++ List.replicate (t.nodes.toNat - k) 0), false⟩)]) (fun k => k ≤ t.nodes.toNat) (fun k => t.nodes.toNat - k) 0 ?_ ?_ ?_
  · subst hA; simp [LeSt, leVs, leP, St.set, setVs, aget, subHp]; simp [ar, ints]
  · exact Nat.zero_le _
  rintro k hk
  cbv
  refine splitBool (fun e3 => ?_) (fun e3 => ?_)
  · have hlt : k < t.nodes.toNat := by subst hA; simp [ar, ints] at e3; ((try simp only [ncast, Int.ofNat_eq_natCast] at *); omega)
    cbv
    refine ⟨by subst hA; simp only [ar, ints_len, List.length_append, List.length_replicate]; ((try simp only [ncast, Int.ofNat_eq_natCast] at *); omega), ?_⟩
    obtain ⟨y, hy, hy'⟩ := ints_atN (xs := List.replicate k (-1) ++ List.replicate (t.nodes.toNat - k) 0) (k := k) (by simp; omega)
    refine ⟨_, by subst hA; exact hy', Nat.le_refl _, ?_⟩
    cbv
    refine ⟨by subst hA; simp only [ar, inI64]; ((try simp only [ncast, Int.ofNat_eq_natCast] at *); omega), ?_⟩
    refine ⟨k + 1, ⟨hlt, by omega⟩, ?_⟩
    subst hA
    simp [LeSt, leVs, leP, St.set, setVs, aget, subHp]
    simp only [ar, splice]
    rw [← fill_set hlt]
    simp [ints, List.map_set]
  · have hge : k = t.nodes.toNat := by subst hA; simp [ar, ints] at e3; ((try simp only [ncast, Int.ofNat_eq_natCast] at *); omega)
    cbv
    refine ⟨by subst hA; simp only [ar, ints_len, List.length_append, List.length_replicate]; ((try simp only [ncast, Int.ofNat_eq_natCast] at *); omega), ?_⟩
    obtain ⟨y, hy, hy'⟩ := ints_atN (xs := List.replicate k (-1) ++ List.replicate (t.nodes.toNat - k) 0) (k := n.toNat) (by simp; omega)
    refine ⟨_, by subst hA; exact hy', Nat.le_refl _, ?_⟩
    cbv
    refine LoopK.upd (List Int × Bool) (fun p => [(12, .bool p.2), (13, .junk), (14, .junk), (15, .junk), (16, .junk), (79, .junk), (100, .junk)]) (fun p => [(10, ⟨3, 1, A.e fun _ => ints p.1, false⟩)])
      (fun p => Rlx t down n dir p.1 ∧ (p.2 = false → ∀ a, ¬ Loose t down n dir p.1 a)) (fun p => 2 * pot 4194304 p.1 + (if p.2 then 1 else 0)) ((List.replicate t.nodes.toNat (-1)).set n.toNat 0, true) ?_ ?_ ?_
    · subst hA
      simp [LeSt, leVs, leP, St.set, setVs, aget, subHp]
      simp [ar, splice, ints, List.map_set, hge]
    · exact ⟨Rlx.start hn.1 hn.2, fun h => by simp at h⟩
    rintro ⟨D0, ch⟩ ⟨hD0, hch⟩
    dsimp only at hD0 hch
    cbv
    refine splitBool (fun e4 => ?_) (fun e4 => ?_)
    · cbv
      refine LoopK.upd (List Int × Bool × Nat) (fun p => [(12, .bool p.2.1), (13, .int .i64 p.2.2), (14, .junk), (15, .junk), (16, .junk), (79, .junk), (100, .junk)]) (fun p => [(10, ⟨3, 1, A.e fun _ => ints p.1, false⟩)])
        (fun p => p.2.2 ≤ 2 * t.links.length ∧ Rlx t down n dir p.1 ∧ (p.2.1 = false → p.1 = D0 ∧ ∀ a : Int, a < p.2.2 → ¬ Loose t down n dir D0 a) ∧ (p.2.1 = true → pot 4194304 p.1 < pot 4194304 D0)) (fun p => 2 * t.links.length - p.2.2) (D0, false, 0) ?_ ?_ ?_
      · subst hA
        simp [LeSt, leVs, leP, St.set, setVs, aget, subHp]
      · exact ⟨Nat.zero_le _, hD0, fun _ => ⟨rfl, fun a ha h => by have := (isArc_iff.1 h.1.1).2.1; simp at ha; omega⟩, fun h => by simp at h⟩
      rintro ⟨D, c1, k⟩ ⟨hk, hD, hf0, hf1⟩
      dsimp only at hk hD hf0 hf1
      cbv
      refine ⟨by subst hA; simp only [ar, inI64, lks_len]; ((try simp only [ncast, Int.ofNat_eq_natCast] at *); omega), ?_⟩
      refine splitBool (fun e5 => ?_) (fun e5 => ?_)
      · have hlt : k < 2 * t.links.length := by subst hA; simp [ar, lks] at e5; ((try simp only [ncast, Int.ofNat_eq_natCast] at *); omega)
        have hA1 : isArc t k = true := isArc_iff.2 ⟨hv, by omega, by omega⟩
        have hok := via_ok (dir := dir) hA1
        have hlenD := hD.len
        obtain ⟨vx, hvx, hvx'⟩ := ints_atN (xs := D) (k := (toX t dir k).toNat) (by omega)
        obtain ⟨vy, hvy, hvy'⟩ := ints_atN (xs := D) (k := (viaY t dir k).toNat) (by omega)
        have ex : at0 D (toX t dir k) = vx := by simp only [at0, hvx, Option.getD_some]
        have ey : at0 D (viaY t dir k) = vy := by simp only [at0, hvy, Option.getD_some]
        cbv
        refine CallV.int _ _ (by subst hA; exact r_Tail t k) (by subst hA; rfl) fun q1 g1 => ?_
        cbv
        refine CallV.int _ _ (by subst hA; exact r_Head t k) (by subst hA; rfl) fun q2 g2 => ?_
        cbv
        refine CutC.upd Unit (fun _ => [(14, .int .i64 (A.i fun _ => toX t dir k)), (15, .int .i64 (A.i fun _ => viaY t dir k))]) (fun _ => [(10, ⟨3, 1, A.e fun _ => ints D, false⟩)]) (fun _ => True) ?_ ?_
        · cbv
          refine splitBool (fun e6 => ?_) (fun e6 => ?_)
          · cbv
            refine ⟨(), trivial, ?_⟩
            subst hA
            simp [LeSt, leVs, leP, St.set, setVs, aget, subHp]
            simp [ar, toX, viaY, e6, g1, g2]
          · cbv
            refine ⟨(), trivial, ?_⟩
            subst hA
            simp [LeSt, leVs, leP, St.set, setVs, aget, subHp]
            simp [ar, toX, viaY, e6, g1, g2]
        rintro ⟨⟩ _
        cbv
        refine CutC.upd Bool (fun b => [(79, .bool b)]) (fun _ => [(10, ⟨3, 1, A.e fun _ => ints D, false⟩)]) (fun b => b = false ↔ Open t down n dir D k) ?_ ?_
        · cbv
          refine CallV.bool _ (by subst hA; exact r_Up down k (fits_up hf hA1)) (by subst hA; rfl) fun m2 h2 => ?_
          cbv
          refine splitBoolF (fun e6 => ?_) (fun e6 => ?_)
          · have hu : upOf down k = true := by subst hA; simpa [ar, h2] using e6
            cbv
            refine ⟨by subst hA; simp only [ar, ints_len]; ((try simp only [ncast, Int.ofNat_eq_natCast] at *); omega), ?_⟩
            refine ⟨_, by subst hA; exact hvy', ?_⟩
            cbv
            refine splitBoolF (fun e7 => ?_) (fun e7 => ?_)
            · have h7 : 0 ≤ vy := by subst hA; simpa [ar] using e7
              cbv
              refine CallV.bool _ (by subst hA; exact r_transit t (viaY t dir k) n) (by subst hA; rfl) fun m3 h3 => ?_
              cbv
              refine ⟨_, ?_, by simp [LeSt, leVs, leP, St.set, setVs, aget, subHp]; rfl⟩
              subst hA
              simp only [ar]
              unfold Open
              rw [ey]
              simp [hA1, hu, h7, h3]
            · have h7 : ¬ 0 ≤ vy := by subst hA; simp [ar] at e7; omega
              cbv
              refine ⟨_, ?_, by simp [LeSt, leVs, leP, St.set, setVs, aget, subHp]; rfl⟩
              unfold Open
              rw [ey]
              simp [h7]
          · have hu : upOf down k = false := by subst hA; simpa [ar, h2] using e6
            cbv
            refine ⟨_, ?_, by simp [LeSt, leVs, leP, St.set, setVs, aget, subHp]; rfl⟩
            simp [Open, hu]
        · rintro z hz
          cbv
          refine splitBoolF (fun e6 => ?_) (fun e6 => ?_)
          · have hop := hz.1 e6
            have hy0 : 0 ≤ vy := by rw [← ey]; exact hop.2.2.1
            have hub := hD.up (viaY t dir k)
            have hcn := cnt_le D
            rw [ey] at hub
            cbv
            refine ⟨by subst hA; simp only [ar, ints_len]; ((try simp only [ncast, Int.ofNat_eq_natCast] at *); omega), ?_⟩
            refine ⟨_, by subst hA; exact hvy', ?_⟩
            cbv
            refine CallV.int _ _ (by subst hA; exact r_Cost t k) (by subst hA; rfl) fun m3 h3 => ?_
            cbv
            refine ⟨by subst hA; simp only [ar, inI64]; ((try simp only [ncast, Int.ofNat_eq_natCast] at *); omega), ?_⟩
            refine CutC.upd Bool (fun b => [(100, .bool b)]) (fun _ => [(10, ⟨3, 1, A.e fun _ => ints D, false⟩)]) (fun b => b = true ↔ Loose t down n dir D k) ?_ ?_
            · cbv
              refine ⟨by subst hA; simp only [ar, ints_len]; ((try simp only [ncast, Int.ofNat_eq_natCast] at *); omega), ?_⟩
              refine ⟨_, by subst hA; exact hvx', ?_⟩
              cbv
              refine splitBoolF (fun e7 => ?_) (fun e7 => ?_)
              · have h7 : 0 ≤ vx := by subst hA; simp [ar] at e7; omega
                cbv
                refine ⟨by subst hA; simp only [ar, ints_len]; ((try simp only [ncast, Int.ofNat_eq_natCast] at *); omega), ?_⟩
                refine ⟨_, by subst hA; exact hvx', ?_⟩
                cbv
                refine ⟨_, ?_, by simp [LeSt, leVs, leP, St.set, setVs, aget, subHp]; rfl⟩
                subst hA
                simp only [ar]
                unfold Loose
                rw [ex, ey, ← h3]
                simp only [hop, true_and]
                exact ⟨fun h => .inr (of_decide_eq_true h), fun h => decide_eq_true (by ((try simp only [ncast, Int.ofNat_eq_natCast] at *); omega))⟩
              · have h7 : vx < 0 := by subst hA; simp [ar] at e7; omega
                cbv
                refine ⟨_, ?_, by simp [LeSt, leVs, leP, St.set, setVs, aget, subHp]; rfl⟩
                unfold Loose
                rw [ex]
                simp [hop, h7]
            · rintro u hu
              cbv
              refine splitBoolF (fun e7 => ?_) (fun e7 => ?_)
              · have hnl : ¬ Loose t down n dir D k := fun h => by rw [hu.2 h] at e7; cases e7
                cbv
                refine ⟨by subst hA; simp only [ar, inI64]; ((try simp only [ncast, Int.ofNat_eq_natCast] at *); omega), ?_⟩
                refine ⟨(D, c1, k + 1), ⟨⟨hlt, hD, fun h => ⟨(hf0 h).1, fun a ha => ?_⟩, hf1⟩, by dsimp only; omega⟩, ?_⟩
                · by_cases hak : a = k
                  · subst hak; rw [← (hf0 h).1]; exact hnl
                  · exact (hf0 h).2 a (by push_cast at ha; ((try simp only [ncast, Int.ofNat_eq_natCast] at *); omega))
                · subst hA
                  simp [LeSt, leVs, leP, St.set, setVs, aget, subHp]
                  simp [ar]
              · have hl := hu.1 e7
                obtain ⟨st1, st2⟩ := hD.step hv hn.1 hl
                rw [ey, ← h3] at st1 st2
                cbv
                refine ⟨by subst hA; simp only [ar, ints_len]; ((try simp only [ncast, Int.ofNat_eq_natCast] at *); omega), ?_⟩
                refine ⟨_, by subst hA; exact hvx', Nat.le_refl _, ?_⟩
                cbv
                refine ⟨by subst hA; simp only [ar, inI64]; ((try simp only [ncast, Int.ofNat_eq_natCast] at *); omega), ?_⟩
                refine ⟨(D.set (toX t dir k).toNat (vy + m3), true, k + 1), ⟨⟨hlt, st1, fun h => by simp at h, fun _ => ?_⟩, by dsimp only; omega⟩, ?_⟩
                · cases c1 with
                  | false => rw [← (hf0 rfl).1]; exact st2
                  | true => exact Nat.lt_trans st2 (hf1 rfl)
                · subst hA
                  simp [LeSt, leVs, leP, St.set, setVs, aget, subHp]
                  simp [ar, splice, ints, List.map_set]
          · have hop : ¬ Open t down n dir D k := fun h => by rw [hz.2 h] at e6; cases e6
            cbv
            refine ⟨by subst hA; simp only [ar, inI64]; ((try simp only [ncast, Int.ofNat_eq_natCast] at *); omega), ?_⟩
            refine ⟨(D, c1, k + 1), ⟨⟨hlt, hD, fun h => ⟨(hf0 h).1, fun a ha => ?_⟩, hf1⟩, by dsimp only; omega⟩, ?_⟩
            · by_cases hak : a = k
              · subst hak; rw [← (hf0 h).1]; exact fun hl => hop hl.1
              · exact (hf0 h).2 a (by push_cast at ha; ((try simp only [ncast, Int.ofNat_eq_natCast] at *); omega))
            · subst hA
              simp [LeSt, leVs, leP, St.set, setVs, aget, subHp]
              simp [ar]
      · have hge : k = 2 * t.links.length := by subst hA; simp [ar, lks] at e5; ((try simp only [ncast, Int.ofNat_eq_natCast] at *); omega)
        cbv
        refine ⟨(D, c1), ⟨⟨hD, fun h => ?_⟩, ?_⟩, ?_⟩
        · obtain ⟨h1, h2⟩ := hf0 h
          intro a ha
          dsimp only at ha
          rw [h1] at ha
          refine h2 a ?_ ha
          have := (isArc_iff.1 ha.1.1).2.2
          rw [hge]; push_cast; exact this
        · dsimp only
          rw [if_pos e4]
          cases c1 with
          | false => have := (hf0 rfl).1; subst this; simp
          | true => have := hf1 rfl; simp; omega
        · subst hA
          simp [LeSt, leVs, leP, St.set, setVs, aget, subHp]
    · have hfin := hD0.done (hch e4)
      cbv
      subst hA
      refine Or.inl ?_
      simp [ar, searchOf, hf, hw, distOf_eq hfin]
end Go.Proofs.Ytogehfalhodapaa
namespace Go.Proofs.Ytogehfalhodapaa
open Go Go.Proofs.Ytogehfalhodapaa.Pv
set_option linter.unusedSimpArgs false
set_option linter.unusedVariables false
/-! shortest paths, in plain words -/
theorem relax_all {t : Topo} {down : List Bool} {n : Int} {dir : Bool} (hv : valid t = true) (hn : 0 ≤ n) : ∀ (k : Nat) (D : List Int), pot 4194304 D ≤ k → Rlx t down n dir D → ∃ D', Rlx t down n dir D' ∧ ∀ a, ¬ Loose t down n dir D' a := by
  intro k
  induction k with
  | zero =>
    intro D hk h
    by_cases hex : ∃ a, Loose t down n dir D a
    · obtain ⟨a, ha⟩ := hex
      have := (h.step hv hn ha).2
      omega
    · exact ⟨D, h, fun a ha => hex ⟨a, ha⟩⟩
  | succ k ih =>
    intro D hk h
    by_cases hex : ∃ a, Loose t down n dir D a
    · obtain ⟨a, ha⟩ := hex
      obtain ⟨s1, s2⟩ := h.step hv hn ha
      exact ih _ (by omega) s1
    · exact ⟨D, h, fun a ha => hex ⟨a, ha⟩⟩
/-- the distances are distances, and none is great -/
theorem distOf_is {t : Topo} {down : List Bool} {n : Int} {dir : Bool} (hv : valid t = true) (hn : 0 ≤ n) (hn1 : n < t.nodes) :
    IsDist t down n dir (distOf t down n dir) ∧ ∀ i, at0 (distOf t down n dir) i ≤ 4194304 := by
  obtain ⟨D, h1, h2⟩ := relax_all hv hn _ _ (Nat.le_refl _) (Rlx.start (down := down) (dir := dir) hn hn1)
  have hd := h1.done h2
  rw [distOf_eq hd]
  refine ⟨hd, fun i => ?_⟩
  have := h1.up i
  have := cnt_le D
  have := h1.len
  have := headOk_nodes (valid_head hv)
  omega
theorem IsDist.low' {t : Topo} {down : List Bool} {n : Int} {dir : Bool} {D : List Int} (h : IsDist t down n dir D) (i : Int) : -1 ≤ at0 D i := by
  by_cases hi : i.toNat < D.length
  · have := h.low i.toNat hi
    unfold at0 at this ⊢
    simp only [Int.toNat_natCast] at this
    exact this
  · unfold at0; rw [List.getElem?_eq_none (by omega)]; exact Int.le_refl _
def onOf (t : Topo) (down : List Bool) (D : List Int) (a d : Int) : Bool :=
  upOf down a && decide (tailOf t a ≠ d) && decide (0 ≤ at0 D (headOf t a)) && transOf t (headOf t a) d && decide (at0 D (tailOf t a) = at0 D (headOf t a) + costOf t a)
def allArcs (t : Topo) : List Int := (List.range (2 * t.links.length)).map fun (i : Nat) => (i : Int)
def takeArcs (k : Nat) : List Int := (List.range k).map fun (i : Nat) => (i : Int)
theorem takeArcs_succ (k : Nat) : takeArcs (k + 1) = takeArcs k ++ [(k : Int)] := by simp [takeArcs, List.range_succ]
theorem mem_takeArcs {k : Nat} {a : Int} : a ∈ takeArcs k ↔ 0 ≤ a ∧ a < k := by
  simp only [takeArcs, List.mem_map, List.mem_range]
  constructor
  · rintro ⟨i, hi, rfl⟩; omega
  · intro h; exact ⟨a.toNat, by omega, by omega⟩
/-- an arc with which a shortest path from s to d begins -/
def nxt (t : Topo) (down : List Bool) (D : List Int) (s d : Int) (a : Int) : Bool := decide (tailOf t a = s) && onOf t down D a d
def nextOf (t : Topo) (down : List Bool) (D : List Int) (s d : Int) : List Int := (takeArcs (2 * t.links.length)).filter (nxt t down D s d)
theorem nextOf_len (t : Topo) (down : List Bool) (D : List Int) (s d : Int) (k : Nat) : ((takeArcs k).filter (nxt t down D s d)).length ≤ k := by
  have := List.length_filter_le (nxt t down D s d) (takeArcs k)
  simpa [takeArcs] using this
theorem nextOf_some {t : Topo} {down : List Bool} {D : List Int} {s d : Int} (h : IsDist t down d false D) (hs : 0 ≤ s) (hs1 : s < t.nodes) (hsd : s ≠ d) (h0 : 0 ≤ at0 D s) : ∃ a, a ∈ nextOf t down D s d := by
  obtain ⟨a, ⟨o1, o2, o3, o4⟩, e1, e2⟩ := h.some s hs hs1 hsd h0
  simp only [toX, viaY, if_false, Bool.false_eq_true] at o3 o4 e1 e2
  refine ⟨a, List.mem_filter.2 ⟨mem_takeArcs.2 ?_, ?_⟩⟩
  · have := (isArc_iff.1 o1).2; exact ⟨this.1, by push_cast; exact this.2⟩
  · simp only [nxt, onOf, e1, o2, o4, decide_true, Bool.true_and, Bool.and_true, decide_eq_true_eq, Bool.and_eq_true, ne_eq]
    exact ⟨⟨hsd, o3⟩, e2⟩
structure NextIs (t : Topo) (down : List Bool) (D : List Int) (s d a : Int) : Prop where
  arc : isArc t a = true
  tail : tailOf t a = s
  up : upOf down a = true
  neq : s ≠ d
  pos : 0 ≤ at0 D (headOf t a)
  tr : transOf t (headOf t a) d = true
  eq : at0 D s = at0 D (headOf t a) + costOf t a
theorem next_is {t : Topo} {down : List Bool} {D : List Int} {s d a : Int} (hv : valid t = true) (h : a ∈ nextOf t down D s d) : NextIs t down D s d a := by
  obtain ⟨h1, h2⟩ := List.mem_filter.1 h
  have h3 := mem_takeArcs.1 h1
  simp only [nxt, onOf, Bool.and_eq_true, decide_eq_true_eq, ne_eq] at h2
  obtain ⟨e1, ⟨⟨⟨e2, e3⟩, e4⟩, e5⟩, e6⟩ := h2
  subst e1
  exact ⟨isArc_iff.2 ⟨hv, h3.1, by have := h3.2; push_cast at this; exact this⟩, rfl, e2, e3, e4, e5, e6⟩
def spGo (t : Topo) (down : List Bool) (D : List Int) (d : Int) : Nat → Int → List Int
  | 0, _ => []
  | k + 1, s => if s = d then [] else match nextOf t down D s d with
    | [] => []
    | a :: _ => a :: spGo t down D d k (headOf t a)
def spOf (t : Topo) (down : List Bool) (D : List Int) (d s : Int) : List Int := spGo t down D d (at0 D s).toNat s
theorem spGo_len (t : Topo) (down : List Bool) (D : List Int) (d : Int) : ∀ (k : Nat) (s : Int), (spGo t down D d k s).length ≤ k
  | 0, _ => Nat.le_refl _
  | k + 1, s => by
    unfold spGo
    split
    · simp
    · split
      · simp
      · rename_i a _ _
        have := spGo_len t down D d k (headOf t a)
        simp; omega
theorem spGo_fuel {t : Topo} {down : List Bool} {D : List Int} {d : Int} (hv : valid t = true) (hd : IsDist t down d false D) : ∀ (k : Nat) (s : Int), (at0 D s).toNat ≤ k → 0 ≤ at0 D s → 0 ≤ s → s < t.nodes → spGo t down D d k s = spOf t down D d s := by
  intro k
  induction k using Nat.strongRecOn with
  | ind k ih =>
    intro s hk h0 hs hs1
    unfold spOf
    by_cases hsd : s = d
    · subst hsd
      rw [hd.zero]
      cases k with
      | zero => rfl
      | succ k => simp [spGo]
    · obtain ⟨a0, ha0⟩ := nextOf_some hd hs hs1 hsd h0
      obtain ⟨a, r, har⟩ : ∃ a r, nextOf t down D s d = a :: r := by
        cases hh : nextOf t down D s d with
        | nil => rw [hh] at ha0; cases ha0
        | cons a r => exact ⟨a, r, rfl⟩
      have ha := next_is hv (by rw [har]; exact List.mem_cons_self : a ∈ nextOf t down D s d)
      have hok := arc_ok ha.arc
      have heq := ha.eq
      have hpos := ha.pos
      obtain ⟨m, hm⟩ : ∃ m, (at0 D s).toNat = m + 1 := ⟨(at0 D s).toNat - 1, by omega⟩
      obtain ⟨j, rfl⟩ : ∃ j, k = j + 1 := ⟨k - 1, by omega⟩
      rw [hm]
      simp only [spGo, if_neg hsd, har]
      rw [ih j (by omega) _ (by omega) hpos hok.2.2.1 hok.2.2.2.1]
      by_cases hmj : m = j
      · subst hmj; rw [ih m (by omega) _ (by omega) hpos hok.2.2.1 hok.2.2.2.1]
      · rw [ih m (by omega) _ (by omega) hpos hok.2.2.1 hok.2.2.2.1]
theorem spOf_end {t : Topo} {down : List Bool} {D : List Int} {d : Int} (hd : IsDist t down d false D) : spOf t down D d d = [] := by
  unfold spOf; rw [hd.zero]; rfl
theorem spOf_step {t : Topo} {down : List Bool} {D : List Int} {s d a : Int} {r : List Int} (hv : valid t = true) (hd : IsDist t down d false D) (hsd : s ≠ d) (h : nextOf t down D s d = a :: r) :
    spOf t down D d s = a :: spOf t down D d (headOf t a) := by
  have ha := next_is hv (by rw [h]; exact List.mem_cons_self : a ∈ nextOf t down D s d)
  have hok := arc_ok ha.arc
  have heq := ha.eq
  have hpos := ha.pos
  obtain ⟨m, hm⟩ : ∃ m, (at0 D s).toNat = m + 1 := ⟨(at0 D s).toNat - 1, by omega⟩
  rw [show spOf t down D d s = spGo t down D d (m + 1) s by unfold spOf; rw [hm]]
  simp only [spGo, if_neg hsd, h]
  rw [spGo_fuel hv hd m _ (by omega) hpos hok.2.2.1 hok.2.2.2.1]
/-- the first arc that is one -/
theorem next_first {t : Topo} {down : List Bool} {D : List Int} {s d : Int} {k : Nat} (hk : k < 2 * t.links.length) (hno : ∀ a : Int, 0 ≤ a → a < k → nxt t down D s d a = false) (hy : nxt t down D s d k = true) :
    ∃ r, nextOf t down D s d = (k : Int) :: r := by
  unfold nextOf
  have hsplit : takeArcs (2 * t.links.length) = takeArcs k ++ (takeArcs (2 * t.links.length)).drop k := by
    have : takeArcs k = (takeArcs (2 * t.links.length)).take k := by
      simp only [takeArcs, ← List.map_take, List.take_range]
      rw [Nat.min_eq_left (Nat.le_of_lt hk)]
    rw [this, List.take_append_drop]
  have h1 : (takeArcs k).filter (nxt t down D s d) = [] := by
    rw [List.filter_eq_nil_iff]
    intro a ha
    have := mem_takeArcs.1 ha
    rw [hno a this.1 this.2]; simp
  have h2 : (takeArcs (2 * t.links.length)).drop k = (k : Int) :: (takeArcs (2 * t.links.length)).drop (k + 1) := by
    rw [List.drop_eq_getElem_cons (by simpa [takeArcs] using hk)]
    simp [takeArcs]
  rw [hsplit, List.filter_append, h1, h2, List.filter_cons, if_pos hy]
  exact ⟨_, rfl⟩
/-- Path: the arcs, and the error -/
noncomputable def spathOf (t : Topo) (down : List Bool) (s d : Int) : List Int × Int :=
  if fitsOf t down = false then ([], 1) else if within d 0 (t.nodes - 1) = false then ([], 2) else if within s 0 (t.nodes - 1) = false then ([], 2)
  else if at0 (distOf t down d false) s < 0 then ([], 11) else (spOf t down (distOf t down d false) d s, 0)
theorem fits_valid {t : Topo} {down : List Bool} (h : fitsOf t down = true) : valid t = true := by simp [fitsOf] at h; exact h.1
theorem spath_len (t : Topo) (down : List Bool) (s d : Int) : (spathOf t down s d).1.length ≤ 4194304 := by
  unfold spathOf
  split
  · simp
  · rename_i hf
    split
    · simp
    · rename_i hw
      split
      · simp
      · split
        · simp
        · have hv := fits_valid (by simpa using hf : fitsOf t down = true)
          simp [within] at hw
          have := (distOf_is (down := down) (dir := false) hv hw.1 (by omega)).2 s
          have := spGo_len t down (distOf t down d false) d (at0 (distOf t down d false) s).toNat s
          simp only [spOf]; omega
end Go.Proofs.Ytogehfalhodapaa
namespace Go.Proofs.Ytogehfalhodapaa
open Go Go.Proofs.Ytogehfalhodapaa.Pv
set_option linter.unusedSimpArgs false
set_option linter.unusedVariables false
/-! the order by distance, and the numbers of paths, in plain words -/
def befo (D : List Int) (a b : Int) : Prop := at0 D b < at0 D a ∨ (at0 D a = at0 D b ∧ a < b)
theorem befo_asymm {D : List Int} {a b : Int} (h : befo D a b) (h' : befo D b a) : False := by unfold befo at h h'; omega
theorem befo_trans {D : List Int} {a b c : Int} (h : befo D a b) (h' : befo D b c) : befo D a c := by unfold befo at *; omega
theorem befo_tot {D : List Int} {a b : Int} (h : a ≠ b) : befo D a b ∨ befo D b a := by unfold befo; omega
theorem srt_unique {D : List Int} : ∀ {l l' : List Int}, l.Pairwise (befo D) → l'.Pairwise (befo D) → (∀ n, n ∈ l ↔ n ∈ l') → l = l'
  | [], [], _, _, _ => rfl
  | [], b :: r, _, _, h => absurd ((h b).2 List.mem_cons_self) (by simp)
  | a :: r, [], _, _, h => absurd ((h a).1 List.mem_cons_self) (by simp)
  | a :: r, b :: r', h1, h2, h => by
    have p1 := List.pairwise_cons.1 h1
    have p2 := List.pairwise_cons.1 h2
    have hab : a = b := by
      rcases List.mem_cons.1 ((h a).1 List.mem_cons_self) with e | e
      · exact e
      rcases List.mem_cons.1 ((h b).2 List.mem_cons_self) with e' | e'
      · exact e'.symm
      exact (befo_asymm (p1.1 _ e') (p2.1 _ e)).elim
    subst hab
    rw [srt_unique p1.2 p2.2 fun n => ?_]
    have n1 : ¬ a ∈ r := fun e => befo_asymm (p1.1 _ e) (p1.1 _ e)
    have n2 : ¬ a ∈ r' := fun e => befo_asymm (p2.1 _ e) (p2.1 _ e)
    constructor
    · intro e
      rcases List.mem_cons.1 ((h n).1 (List.mem_cons_of_mem _ e)) with e' | e'
      · subst e'; exact (n1 e).elim
      · exact e'
    · intro e
      rcases List.mem_cons.1 ((h n).2 (List.mem_cons_of_mem _ e)) with e' | e'
      · subst e'; exact (n2 e).elim
      · exact e'
structure IsOrd (t : Topo) (D : List Int) (l : List Int) : Prop where
  mem : ∀ n, n ∈ l ↔ (0 ≤ n ∧ n < t.nodes) ∧ 0 ≤ at0 D n
  srt : l.Pairwise (befo D)
open Classical in
noncomputable def ordOf (t : Topo) (D : List Int) : List Int := if h : ∃ l, IsOrd t D l then h.choose else []
theorem ordOf_eq {t : Topo} {D l : List Int} (h : IsOrd t D l) : ordOf t D = l := by
  have hex : ∃ l, IsOrd t D l := ⟨l, h⟩
  unfold ordOf
  rw [dif_pos hex]
  exact srt_unique hex.choose_spec.srt h.srt fun n => by rw [hex.choose_spec.mem, h.mem]
/-- what is left to be chosen -/
def left (D : List Int) (out : List Int) (n : Int) : Bool := decide (0 ≤ at0 D n) && !hasL out n
theorem filter_lt {α : Type} {p q : α → Bool} : ∀ {xs : List α} (hpq : ∀ x, p x = true → q x = true) {x : α} (hx : x ∈ xs) (h1 : p x = false) (h2 : q x = true), (xs.filter p).length < (xs.filter q).length
  | [], _, _, hx, _, _ => by cases hx
  | y :: r, hpq, x, hx, h1, h2 => by
    have hle : (r.filter p).length ≤ (r.filter q).length := by
      clear hx
      induction r with
      | nil => simp
      | cons z r ih =>
        simp only [List.filter_cons]
        cases hz : p z with
        | true => rw [hpq z hz]; simpa using ih
        | false => cases hz' : q z <;> simp <;> omega
    simp only [List.filter_cons]
    rcases List.mem_cons.1 hx with e | e
    · subst e; rw [h1, h2]; simp; omega
    · have := filter_lt hpq e h1 h2
      cases hy : p y with
      | true => rw [hpq y hy]; simpa using this
      | false => cases hy' : q y <;> simp <;> omega
/-- the greatest of those that are left among the first k nodes, -1 if none -/
structure BestOf (D out : List Int) (k : Int) (b : Int) : Prop where
  ge : -1 ≤ b
  lt : b < k ∨ b = -1
  none : b = -1 → ∀ n, 0 ≤ n → n < k → left D out n = false
  some : 0 ≤ b → left D out b = true ∧ ∀ n, 0 ≤ n → n < k → left D out n = true → n ≠ b → befo D b n
theorem BestOf.start (D out : List Int) : BestOf D out 0 (-1) := ⟨by omega, .inr rfl, fun _ n h0 h1 => by omega, fun h => by omega⟩
theorem BestOf.keep {D out : List Int} {k b : Int} (h : BestOf D out k b) (hk : left D out k = true → 0 ≤ b ∧ at0 D k ≤ at0 D b) : BestOf D out (k + 1) b := by
  refine ⟨h.ge, ?_, ?_, ?_⟩
  · rcases h.lt with h | h
    · left; omega
    · exact .inr h
  · intro hb n h0 h1
    by_cases hnk : n = k
    · subst hnk
      cases hl : left D out n with
      | false => rfl
      | true => have := (hk hl).1; omega
    · exact h.none hb n h0 (by omega)
  · intro hb
    refine ⟨(h.some hb).1, fun n h0 h1 hl hne => ?_⟩
    by_cases hnk : n = k
    · subst hnk
      have h2 := (hk hl).2
      rcases h.lt with h3 | h3
      · unfold befo; omega
      · omega
    · exact (h.some hb).2 n h0 (by omega) hl hne
theorem BestOf.take {D out : List Int} {k b : Int} (h : BestOf D out k b) (hk0 : 0 ≤ k) (hk : left D out k = true) (hb : b < 0 ∨ at0 D b < at0 D k) : BestOf D out (k + 1) k := by
  refine ⟨by omega, .inl (by omega), fun e => by omega, fun _ => ⟨hk, fun n h0 h1 hl hne => ?_⟩⟩
  rcases hb with hb | hb
  · have := h.none (by have := h.ge; omega) n h0 (by omega)
    rw [this] at hl; cases hl
  · by_cases hb0 : b < 0
    · have := h.none (by have := h.ge; omega) n h0 (by omega)
      rw [this] at hl; cases hl
    · by_cases hnb : n = b
      · subst hnb; unfold befo; omega
      · have := (h.some (by omega)).2 n h0 (by omega) hl hnb
        unfold befo at this ⊢; omega
/-- what holds between two choices -/
structure Sel (t : Topo) (D out : List Int) : Prop where
  mem : ∀ n, n ∈ out → (0 ≤ n ∧ n < t.nodes) ∧ 0 ≤ at0 D n
  srt : out.Pairwise (befo D)
  rest : ∀ m, m ∈ out → ∀ n, 0 ≤ n → n < t.nodes → left D out n = true → befo D m n
theorem hasL_iff {xs : List Int} {n : Int} : hasL xs n = true ↔ n ∈ xs := by simp [hasL]
theorem left_iff {D out : List Int} {n : Int} : left D out n = true ↔ 0 ≤ at0 D n ∧ ¬ n ∈ out := by simp [left, hasL]
theorem Sel.nil (t : Topo) (D : List Int) : Sel t D [] := ⟨by simp, List.Pairwise.nil, by simp⟩
theorem Sel.done {t : Topo} {D out : List Int} (h : Sel t D out) (hb : BestOf D out t.nodes (-1)) : IsOrd t D out := by
  refine ⟨fun n => ⟨h.mem n, fun hn => ?_⟩, h.srt⟩
  have h1 := hb.none rfl n hn.1.1 hn.1.2
  apply Classical.byContradiction
  intro hc
  rw [left_iff.2 ⟨hn.2, hc⟩] at h1
  cases h1
theorem Sel.next {t : Topo} {D out : List Int} {b : Int} (h : Sel t D out) (hb : BestOf D out t.nodes b) (hb0 : 0 ≤ b) : Sel t D (out ++ [b]) ∧
    ((takeArcs t.nodes.toNat).filter (left D (out ++ [b]))).length < ((takeArcs t.nodes.toNat).filter (left D out)).length := by
  obtain ⟨h1, h2⟩ := hb.some hb0
  have hlt : b < t.nodes := by rcases hb.lt with h | h <;> omega
  have hl := left_iff.1 h1
  refine ⟨⟨?_, ?_, ?_⟩, ?_⟩
  · intro n hn
    rcases List.mem_append.1 hn with e | e
    · exact h.mem n e
    · rw [List.mem_singleton.1 e]; exact ⟨⟨hb0, hlt⟩, hl.1⟩
  · rw [List.pairwise_append]
    refine ⟨h.srt, by simp, fun m hm n hn => ?_⟩
    rw [List.mem_singleton.1 hn]
    exact h.rest m hm b hb0 hlt h1
  · intro m hm n h0 hn hln
    have hln' := left_iff.1 hln
    have hno : ¬ n ∈ out := fun e => hln'.2 (List.mem_append_left _ e)
    have hnb : n ≠ b := fun e => hln'.2 (by rw [e]; simp)
    have hlo := left_iff.2 ⟨hln'.1, hno⟩
    rcases List.mem_append.1 hm with e | e
    · exact h.rest m e n h0 hn hlo
    · rw [List.mem_singleton.1 e]; exact h2 n h0 hn hlo hnb
  · refine filter_lt (fun x hx => ?_) (x := b) (mem_takeArcs.2 ⟨hb0, by omega⟩) ?_ h1
    · have := left_iff.1 hx
      exact left_iff.2 ⟨this.1, fun e => this.2 (List.mem_append_left _ e)⟩
    · simp [left, hasL]
theorem nodup_len : ∀ (k : Nat) (l : List Int), l.Nodup → (∀ n ∈ l, 0 ≤ n ∧ n < (k : Int)) → l.length ≤ k
  | 0, l, _, h => by
    cases l with
    | nil => simp
    | cons a r => have := h a List.mem_cons_self; omega
  | k + 1, l, hn, h => by
    have h1 : (l.filter fun x => decide (x ≠ (k : Int))).length ≤ k := by
      refine nodup_len k _ (hn.sublist (List.filter_sublist)) fun n hm => ?_
      obtain ⟨m1, m2⟩ := List.mem_filter.1 hm
      have := h n m1
      simp at m2
      push_cast at this
      omega
    have h2 : l.length ≤ (l.filter fun x => decide (x ≠ (k : Int))).length + 1 := by
      clear h h1
      induction l with
      | nil => simp
      | cons a r ih =>
        obtain ⟨n1, n2⟩ := List.nodup_cons.1 hn
        rw [List.filter_cons]
        split
        · have := ih n2; simp at this ⊢; omega
        · rename_i hak
          have hak : a = k := by simpa using hak
          have : r.filter (fun x => decide (x ≠ (k : Int))) = r := by
            rw [List.filter_eq_self]
            intro x hx
            have : x ≠ k := fun e => n1 (by rw [hak, ← e]; exact hx)
            simpa using this
          rw [this]; simp
    omega
theorem srt_nodup {D l : List Int} (h : l.Pairwise (befo D)) : l.Nodup := by
  refine h.imp fun {a b} hab e => ?_
  subst e
  exact befo_asymm hab hab
theorem Sel.len {t : Topo} {D out : List Int} (h : Sel t D out) : out.length ≤ t.nodes.toNat := by
  refine nodup_len _ _ (srt_nodup h.srt) fun n hn => ?_
  have := (h.mem n hn).1
  omega
theorem IsOrd.len {t : Topo} {D out : List Int} (h : IsOrd t D out) : out.length ≤ t.nodes.toNat := by
  refine nodup_len _ _ (srt_nodup h.srt) fun n hn => ?_
  have := ((h.mem n).1 hn).1
  omega
/-- there is an order -/
theorem sel_all {t : Topo} {D : List Int} : ∀ (k : Nat) (out : List Int), ((takeArcs t.nodes.toNat).filter (left D out)).length ≤ k → Sel t D out → ∃ l, IsOrd t D l := by
  intro k
  induction k with
  | zero =>
    intro out hk h
    refine ⟨out, h.done ⟨by omega, .inr rfl, fun _ n h0 h1 => ?_, fun h => by omega⟩⟩
    have h2 : (takeArcs t.nodes.toNat).filter (left D out) = [] := List.eq_nil_of_length_eq_zero (by omega)
    have := List.filter_eq_nil_iff.1 h2 n (mem_takeArcs.2 ⟨h0, by omega⟩)
    simpa using this
  | succ k ih =>
    intro out hk h
    have hbest : ∀ (j : Nat), ∃ b, BestOf D out j b := by
      intro j
      induction j with
      | zero => exact ⟨-1, BestOf.start D out⟩
      | succ j ihj =>
        obtain ⟨b, hb⟩ := ihj
        cases hl : left D out j with
        | false => exact ⟨b, by push_cast; exact hb.keep (fun h => by rw [hl] at h; cases h)⟩
        | true =>
          by_cases hc : b < 0 ∨ at0 D b < at0 D j
          · exact ⟨j, by push_cast; exact hb.take (by omega) hl hc⟩
          · exact ⟨b, by push_cast; exact hb.keep (fun _ => by omega)⟩
    obtain ⟨b, hb⟩ := hbest t.nodes.toNat
    by_cases hb0 : 0 ≤ b
    · have hb' : BestOf D out t.nodes b := by
        have : (t.nodes.toNat : Int) = t.nodes := by
          have := hb.lt; omega
        rwa [this] at hb
      obtain ⟨s1, s2⟩ := h.next hb' hb0
      exact ih _ (by omega) s1
    · have hb1 : b = -1 := by have := hb.ge; omega
      subst hb1
      refine ⟨out, h.done ⟨by omega, .inr rfl, fun _ n h0 h1 => hb.none rfl n h0 (by omega), fun h => by omega⟩⟩
theorem ordOf_is (t : Topo) (D : List Int) : IsOrd t D (ordOf t D) := by
  obtain ⟨l, hl⟩ := sel_all (t := t) (D := D) _ [] (Nat.le_refl _) (Sel.nil t D)
  rw [ordOf_eq hl]; exact hl
noncomputable def orderOf (t : Topo) (down : List Bool) (d : Int) : List Int × Int :=
  if (searchOf t down d false).2 ≠ 0 then ([], (searchOf t down d false).2) else (ordOf t (distOf t down d false), 0)
/-! numbers of paths, at most some number -/
def cntArc (t : Topo) (most x : Int) (C : List Int) (a : Int) : List Int := C.set x.toNat (at0 C x + min (at0 C (headOf t a)) (most - at0 C x))
def cntNode (t : Topo) (down : List Bool) (D : List Int) (d most : Int) (C : List Int) (x : Int) : List Int := (nextOf t down D x d).foldl (cntArc t most x) C
noncomputable def countOf (t : Topo) (down : List Bool) (D : List Int) (d most : Int) : List Int :=
  (ordOf t D).reverse.foldl (cntNode t down D d most) ((List.replicate t.nodes.toNat 0).set d.toNat (min 1 most))
structure CntOk (t : Topo) (most : Int) (C : List Int) : Prop where
  len : (C.length : Int) = t.nodes
  bnd : ∀ i, 0 ≤ i → i < t.nodes → 0 ≤ at0 C i ∧ at0 C i ≤ most
theorem CntOk.arc {t : Topo} {most x a : Int} {C : List Int} (h : CntOk t most C) (hx : 0 ≤ x) (hx1 : x < t.nodes) (ha : isArc t a = true) : CntOk t most (cntArc t most x C a) := by
  have hok := arc_ok ha
  refine ⟨by simp [cntArc, h.len], fun i h0 h1 => ?_⟩
  have hl := h.len
  have b1 := h.bnd x hx hx1
  have b2 := h.bnd (headOf t a) hok.2.2.1 hok.2.2.2.1
  unfold cntArc
  rw [at0_set hx h0 (by omega)]
  split
  · omega
  · exact h.bnd i h0 h1
theorem CntOk.start {t : Topo} {most d : Int} (hm : 0 ≤ most) (hd : 0 ≤ d) (hd1 : d < t.nodes) : CntOk t most ((List.replicate t.nodes.toNat 0).set d.toNat (min 1 most)) := by
  refine ⟨by simp; omega, fun i h0 h1 => ?_⟩
  rw [at0_set hd h0 (by simp; omega)]
  split
  · omega
  · unfold at0; rw [List.getElem?_replicate, if_pos (by omega)]; exact ⟨Int.le_refl _, hm⟩
noncomputable def countR (t : Topo) (down : List Bool) (n d most : Int) : Int × Int :=
  if (searchOf t down d false).2 ≠ 0 then (0, (searchOf t down d false).2) else if within n 0 (t.nodes - 1) = false then (0, 2) else if most < 0 then (0, 1)
  else (at0 (countOf t down (distOf t down d false) d most) n, 0)
noncomputable def uniqOf (t : Topo) (down : List Bool) (n d : Int) : Bool := decide ((countR t down n d 2).2 = 0) && decide ((countR t down n d 2).1 = 1)
end Go.Proofs.Ytogehfalhodapaa
namespace Go.Proofs.Ytogehfalhodapaa
open Go Go.Proofs.Ytogehfalhodapaa.Pv
set_option linter.unusedSimpArgs false
set_option linter.unusedVariables false
/-! the binary heap, in plain words: items I, keys K, places P -/
def bef (K : List Int) (a b : Int) : Bool := decide (at0 K a < at0 K b) || (decide (at0 K a = at0 K b) && decide (a < b))
theorem bef_iff {K : List Int} {a b : Int} : bef K a b = true ↔ at0 K a < at0 K b ∨ (at0 K a = at0 K b ∧ a < b) := by simp [bef]
theorem bef_not {K : List Int} {a b : Int} : bef K a b = false ↔ ¬ (at0 K a < at0 K b ∨ (at0 K a = at0 K b ∧ a < b)) := by rw [← bef_iff]; simp
theorem bef_irr {K : List Int} {a : Int} : bef K a a = false := by rw [bef_not]; omega
theorem bef_asy {K : List Int} {a b : Int} (h : bef K a b = true) : bef K b a = false := by rw [bef_iff] at h; rw [bef_not]; omega
theorem bef_le {K : List Int} {a b c : Int} (h : bef K a b = false) (h' : bef K b c = false) : bef K a c = false := by rw [bef_not] at *; omega
theorem bef_ge {K : List Int} {a b c : Int} (h : bef K a b = false) (h' : bef K c b = true) : bef K a c = false := by rw [bef_not] at *; rw [bef_iff] at h'; omega
/-- items and places belong together -/
structure Wf (N : Nat) (I P : List Int) : Prop where
  lenP : P.length = N
  itm : ∀ j : Nat, j < I.length → (0 ≤ at0 I j ∧ at0 I j < N) ∧ at0 P (at0 I j) = j
  plc : ∀ x : Int, 0 ≤ x → x < N → at0 P x = -1 ∨ ∃ j : Nat, j < I.length ∧ at0 P x = j ∧ at0 I j = x
theorem Wf.inj {N : Nat} {I P : List Int} (h : Wf N I P) {j k : Nat} (hj : j < I.length) (hk : k < I.length) (e : at0 I j = at0 I k) : j = k := by
  have h1 := (h.itm j hj).2
  have h2 := (h.itm k hk).2
  rw [e] at h1; omega
theorem Wf.len {N : Nat} {I P : List Int} (h : Wf N I P) : I.length ≤ N := by
  refine nodup_len N I (List.pairwise_iff_getElem.2 fun i j hi hj hij e => ?_) fun n hn => ?_
  · have h1 : at0 I i = I[i] := by simp [at0, hi]
    have h2 : at0 I j = I[j] := by simp [at0, hj]
    have := h.inj hi hj (by rw [h1, h2, e])
    omega
  · obtain ⟨j, hj, rfl⟩ := List.mem_iff_getElem.1 hn
    have h2 : at0 I j = I[j] := by simp [at0, hj]
    rw [← h2]; exact (h.itm j hj).1
/-- an exchange of two places -/
def swp (I : List Int) (a b : Nat) : List Int := (I.set a (at0 I b)).set b (at0 I a)
theorem at0_setN {D : List Int} {x : Nat} {i v : Int} (hi0 : 0 ≤ i) (hx : x < D.length) : at0 (D.set x v) i = if i = x then v else at0 D i := by
  have := at0_set (D := D) (x := (x : Int)) (i := i) (v := v) (by omega) hi0 (by omega)
  simpa using this
theorem swp_len (I : List Int) (a b : Nat) : (swp I a b).length = I.length := by simp [swp]
theorem at0_swp {I : List Int} {a b : Nat} (ha : a < I.length) (hb : b < I.length) {i : Int} (hi : 0 ≤ i) : at0 (swp I a b) i = if i = b then at0 I a else if i = a then at0 I b else at0 I i := by
  unfold swp
  rw [at0_setN hi (by simpa using hb), at0_setN hi ha]
theorem Wf.swp {N : Nat} {I P : List Int} (h : Wf N I P) {a b : Nat} (ha : a < I.length) (hb : b < I.length) (hab : a ≠ b) :
    Wf N (swp I a b) ((P.set (at0 I b).toNat a).set (at0 I a).toNat b) := by
  have ia := h.itm a ha
  have ib := h.itm b hb
  have hne : at0 I a ≠ at0 I b := fun e => hab (h.inj ha hb e)
  have hget : ∀ x : Int, 0 ≤ x → at0 ((P.set (at0 I b).toNat a).set (at0 I a).toNat b) x = if x = at0 I a then (b : Int) else if x = at0 I b then (a : Int) else at0 P x := by
    intro x hx
    rw [at0_set ia.1.1 hx (by have := h.lenP; simp; omega), at0_set ib.1.1 hx (by have := h.lenP; omega)]
  refine ⟨by simp [h.lenP], ?_, ?_⟩
  · intro j hj
    rw [swp_len] at hj
    rw [at0_swp ha hb (by omega)]
    by_cases e1 : (j : Int) = b
    · rw [if_pos e1]; refine ⟨ia.1, ?_⟩; rw [hget _ ia.1.1, if_pos rfl]; exact e1.symm
    · rw [if_neg e1]
      by_cases e2 : (j : Int) = a
      · rw [if_pos e2]; refine ⟨ib.1, ?_⟩; rw [hget _ ib.1.1, if_neg hne.symm, if_pos rfl]; exact e2.symm
      · rw [if_neg e2]
        have ij := h.itm j hj
        refine ⟨ij.1, ?_⟩
        rw [hget _ ij.1.1, if_neg fun e => e2 (by rw [h.inj hj ha e]), if_neg fun e => e1 (by rw [h.inj hj hb e])]
        exact ij.2
  · intro x hx0 hx
    rw [hget x hx0, swp_len]
    by_cases e1 : x = at0 I a
    · rw [if_pos e1]; refine .inr ⟨b, hb, rfl, ?_⟩; rw [at0_swp ha hb (by omega), if_pos rfl]; exact e1.symm
    · rw [if_neg e1]
      by_cases e2 : x = at0 I b
      · rw [if_pos e2]; refine .inr ⟨a, ha, rfl, ?_⟩; rw [at0_swp ha hb (by omega), if_neg (by omega), if_pos rfl]; exact e2.symm
      · rw [if_neg e2]
        rcases h.plc x hx0 hx with e | ⟨j, hj, e3, e4⟩
        · exact .inl e
        · refine .inr ⟨j, hj, e3, ?_⟩
          rw [at0_swp ha hb (by omega), if_neg, if_neg]
          · exact e4
          · intro e; rw [e] at e4; exact e1 e4.symm
          · intro e; rw [e] at e4; exact e2 e4.symm
theorem swp_held {N : Nat} {I P : List Int} (h : Wf N I P) {a b : Nat} (ha : a < I.length) (hb : b < I.length) {x : Int} (hx : 0 ≤ x) :
    (0 ≤ at0 ((P.set (at0 I b).toNat a).set (at0 I a).toNat b) x ↔ 0 ≤ at0 P x) := by
  have ia := h.itm a ha
  have ib := h.itm b hb
  rw [at0_set ia.1.1 hx (by have := h.lenP; simp; omega), at0_set ib.1.1 hx (by have := h.lenP; omega)]
  by_cases e1 : x = at0 I a
  · rw [if_pos e1, e1]; omega
  · rw [if_neg e1]
    by_cases e2 : x = at0 I b
    · rw [if_pos e2, e2]; omega
    · rw [if_neg e2]
/-! moving upward -/
def ex2 (I P : List Int) (i : Int) (a : Nat) : List Int × List Int := (I.set a i, P.set i.toNat a)
def upGo (K : List Int) (i : Int) (I P : List Int) (a : Nat) : List Int × List Int :=
  if h : 0 < a ∧ bef K i (at0 I ((a - 1) / 2 : Nat)) = true then upGo K i (I.set a (at0 I ((a - 1) / 2 : Nat))) (P.set (at0 I ((a - 1) / 2 : Nat)).toNat a) ((a - 1) / 2) else (I.set a i, P.set i.toNat a)
termination_by a
decreasing_by omega
def dnK (K I : List Int) (a : Nat) : Nat := if 2 * a + 2 < I.length ∧ bef K (at0 I (2 * a + 2 : Nat)) (at0 I (2 * a + 1 : Nat)) = true then 2 * a + 2 else 2 * a + 1
theorem dnK_gt (K I : List Int) (a : Nat) : a < dnK K I a := by unfold dnK; split <;> omega
def dnGo (K : List Int) (i : Int) (I P : List Int) (a : Nat) : List Int × List Int :=
  if h : dnK K I a < I.length ∧ bef K (at0 I (dnK K I a)) i = true then dnGo K i (I.set a (at0 I (dnK K I a))) (P.set (at0 I (dnK K I a)).toNat a) (dnK K I a) else (I.set a i, P.set i.toNat a)
termination_by I.length - a
decreasing_by have := dnK_gt K I a; simp; omega
def Ok1 (K V : List Int) (j : Nat) : Prop := bef K (at0 V j) (at0 V ((j - 1) / 2 : Nat)) = false
structure Ord (K V : List Int) : Prop where
  ok : ∀ j : Nat, 0 < j → j < V.length → Ok1 K V j
structure OrdUp (K V : List Int) (a : Nat) : Prop where
  ok : ∀ j : Nat, 0 < j → j < V.length → j ≠ a → Ok1 K V j
  kid : ∀ j : Nat, 0 < j → j < V.length → (j - 1) / 2 = a → 0 < a → bef K (at0 V j) (at0 V ((a - 1) / 2 : Nat)) = false
structure OrdDn (K V : List Int) (a : Nat) : Prop where
  ok : ∀ j : Nat, 0 < j → j < V.length → (j - 1) / 2 ≠ a → Ok1 K V j
  kid : ∀ j : Nat, 0 < j → j < V.length → (j - 1) / 2 = a → 0 < a → bef K (at0 V j) (at0 V ((a - 1) / 2 : Nat)) = false
theorem OrdUp.step {K V : List Int} {a : Nat} (h : OrdUp K V a) (ha : a < V.length) (h0 : 0 < a) (hb : bef K (at0 V a) (at0 V ((a - 1) / 2 : Nat)) = true) : OrdUp K (swp V a ((a - 1) / 2)) ((a - 1) / 2) := by
  have hp : (a - 1) / 2 < a := by omega
  generalize hpa : (a - 1) / 2 = p at *
  have hpl : p < V.length := by omega
  have g : ∀ j : Nat, at0 (swp V a p) j = if j = p then at0 V a else if j = a then at0 V p else at0 V j := by
    intro j
    rw [at0_swp ha hpl (by omega)]
    by_cases e1 : j = p
    · subst e1; simp
    · by_cases e2 : j = a
      · subst e2; rw [if_neg (by omega), if_pos rfl, if_neg e1, if_pos rfl]
      · rw [if_neg (by omega), if_neg (by omega), if_neg e1, if_neg e2]
  refine ⟨fun j j0 jl jp => ?_, fun j j0 jl jp p0 => ?_⟩
  · rw [swp_len] at jl
    unfold Ok1
    rw [g, g, if_neg jp]
    by_cases e1 : j = a
    · subst e1; rw [if_pos rfl, if_pos hpa]; exact bef_asy hb
    · rw [if_neg e1]
      by_cases e2 : (j - 1) / 2 = p
      · rw [if_pos e2]
        have h1 := h.ok j j0 jl e1
        unfold Ok1 at h1
        rw [e2] at h1
        exact bef_ge h1 hb
      · rw [if_neg e2]
        by_cases e3 : (j - 1) / 2 = a
        · rw [if_pos e3]
          have := h.kid j j0 jl e3 h0
          rwa [hpa] at this
        · rw [if_neg e3]; exact h.ok j j0 jl e1
  · rw [swp_len] at jl
    rw [g, g, if_neg (by omega), if_neg (by omega : ¬ (p - 1) / 2 = p), if_neg (by omega : ¬ (p - 1) / 2 = a)]
    have h2 := h.ok p p0 hpl (by omega)
    unfold Ok1 at h2
    by_cases e1 : j = a
    · subst e1; rw [if_pos rfl]; exact h2
    · rw [if_neg e1]
      have h1 := h.ok j j0 jl e1
      unfold Ok1 at h1
      rw [jp] at h1
      exact bef_le h1 h2
theorem OrdUp.done {K V : List Int} {a : Nat} (h : OrdUp K V a) (hb : ¬ (0 < a ∧ bef K (at0 V a) (at0 V ((a - 1) / 2 : Nat)) = true)) : Ord K V := by
  refine ⟨fun j j0 jl => ?_⟩
  by_cases e : j = a
  · subst e
    unfold Ok1
    cases hh : bef K (at0 V j) (at0 V ((j - 1) / 2 : Nat)) with
    | false => rfl
    | true => exact (hb ⟨j0, hh⟩).elim
  · exact h.ok j j0 jl e
/-- of the two children the one that comes first -/
theorem dnK_first {K V : List Int} {a j : Nat} (hk : dnK K V a < V.length) (j0 : 0 < j) (jl : j < V.length) (hj : (j - 1) / 2 = a) : bef K (at0 V j) (at0 V (dnK K V a)) = false := by
  have h12 : j = 2 * a + 1 ∨ j = 2 * a + 2 := by omega
  unfold dnK at hk ⊢
  split
  · rename_i hc
    rcases h12 with e | e
    · rw [e]; exact bef_asy hc.2
    · rw [e]; exact bef_irr
  · rename_i hc
    rcases h12 with e | e
    · rw [e]; exact bef_irr
    · rw [e]
      cases hh : bef K (at0 V (2 * a + 2 : Nat)) (at0 V (2 * a + 1 : Nat)) with
      | false => rfl
      | true => exact (hc ⟨by omega, hh⟩).elim
theorem dnK_par (K V : List Int) (a : Nat) : (dnK K V a - 1) / 2 = a := by unfold dnK; split <;> omega
theorem dnK_max {K V : List Int} {a j : Nat} (hk : ¬ dnK K V a < V.length) (j0 : 0 < j) (jl : j < V.length) : (j - 1) / 2 ≠ a := by
  intro e
  unfold dnK at hk
  split at hk
  · rename_i hc; exact hk hc.1
  · omega
theorem OrdDn.step {K V : List Int} {a : Nat} (h : OrdDn K V a) (ha : a < V.length) (hk : dnK K V a < V.length) (hb : bef K (at0 V (dnK K V a)) (at0 V a) = true) : OrdDn K (swp V a (dnK K V a)) (dnK K V a) := by
  have hgt := dnK_gt K V a
  have hpar := dnK_par K V a
  have hfirst := fun j j0 jl hj => dnK_first (K := K) (V := V) (a := a) (j := j) hk j0 jl hj
  generalize dnK K V a = k at *
  have g : ∀ j : Nat, at0 (swp V a k) j = if j = k then at0 V a else if j = a then at0 V k else at0 V j := by
    intro j
    rw [at0_swp ha hk (by omega)]
    by_cases e1 : j = k
    · subst e1; simp
    · by_cases e2 : j = a
      · subst e2; rw [if_neg (by omega), if_pos rfl, if_neg e1, if_pos rfl]
      · rw [if_neg (by omega), if_neg (by omega), if_neg e1, if_neg e2]
  refine ⟨fun j j0 jl jp => ?_, fun j j0 jl jp p0 => ?_⟩
  · rw [swp_len] at jl
    unfold Ok1
    rw [g, g, if_neg jp]
    by_cases e1 : j = k
    · subst e1; rw [if_pos rfl, if_pos hpar]; exact bef_asy hb
    · rw [if_neg e1]
      by_cases e2 : (j - 1) / 2 = a
      · rw [if_pos e2, if_neg (by omega)]; exact hfirst j j0 jl e2
      · rw [if_neg e2]
        by_cases e3 : j = a
        · rw [if_pos e3]
          have := h.kid k (by omega) hk hpar (by omega)
          rw [← e3] at this
          exact this
        · rw [if_neg e3]; exact h.ok j j0 jl e2
  · rw [swp_len] at jl
    rw [g, g, if_neg (by omega), if_neg (by omega), hpar, if_neg (by omega), if_pos rfl]
    have h1 := h.ok j j0 jl (by omega)
    unfold Ok1 at h1
    rwa [jp] at h1
theorem OrdDn.done {K V : List Int} {a : Nat} (h : OrdDn K V a) (hb : ¬ (dnK K V a < V.length ∧ bef K (at0 V (dnK K V a)) (at0 V a) = true)) : Ord K V := by
  refine ⟨fun j j0 jl => ?_⟩
  by_cases e : (j - 1) / 2 = a
  · unfold Ok1
    rw [e]
    by_cases hk : dnK K V a < V.length
    · have h1 := dnK_first hk j0 jl e
      cases hh : bef K (at0 V (dnK K V a)) (at0 V a) with
      | false => exact bef_le h1 hh
      | true => exact (hb ⟨hk, hh⟩).elim
    · exact (dnK_max hk j0 jl e).elim
  · exact h.ok j j0 jl e
theorem Ord.toDn {K V : List Int} (h : Ord K V) (a : Nat) : OrdDn K V a := by
  refine ⟨fun j j0 jl _ => h.ok j j0 jl, fun j j0 jl e a0 => ?_⟩
  have h1 := h.ok j j0 jl
  have h2 := h.ok a a0 (by omega)
  unfold Ok1 at h1 h2
  rw [e] at h1
  exact bef_le h1 h2
/-- the first one comes before all others -/
theorem Ord.min {K V : List Int} (h : Ord K V) : ∀ (j : Nat), j < V.length → bef K (at0 V j) (at0 V (0 : Nat)) = false := by
  intro j
  induction j using Nat.strongRecOn with
  | ind j ih =>
    intro jl
    by_cases j0 : j = 0
    · subst j0; exact bef_irr
    · exact bef_le (h.ok j (by omega) jl) (ih ((j - 1) / 2) (by omega) (by omega))
end Go.Proofs.Ytogehfalhodapaa
namespace Go.Proofs.Ytogehfalhodapaa
open Go Go.Proofs.Ytogehfalhodapaa.Pv
set_option linter.unusedSimpArgs false
set_option linter.unusedVariables false
theorem virt_swp {N : Nat} {I P : List Int} {i : Int} {a p : Nat} (h : Wf N (I.set a i) (P.set i.toNat (a : Int))) (ha : a < I.length) (hp : p < I.length) (hpa : p ≠ a) :
    at0 (I.set a i) a = i ∧ at0 (I.set a i) p = at0 I p ∧ (I.set a (at0 I p)).set p i = swp (I.set a i) a p ∧
    (P.set (at0 I p).toNat (a : Int)).set i.toNat (p : Int) = ((P.set i.toNat (a : Int)).set (at0 (I.set a i) p).toNat (a : Int)).set (at0 (I.set a i) a).toNat (p : Int) := by
  have e1 : at0 (I.set a i) a = i := by rw [at0_setN (by omega) ha, if_pos rfl]
  have e2 : at0 (I.set a i) p = at0 I p := by rw [at0_setN (by omega) ha, if_neg (by omega)]
  have hl : (I.set a i).length = I.length := by simp
  refine ⟨e1, e2, ?_, ?_⟩
  · unfold swp; rw [e1, e2, List.set_set]
  · rw [e1, e2]
    have h1 := (h.itm a (by omega)).1
    have h2 := (h.itm p (by omega)).1
    rw [e1] at h1
    rw [e2] at h2
    have hne : i ≠ at0 I p := by
      intro e
      have := h.inj (j := a) (k := p) (by omega) (by omega) (by rw [e1, e2]; exact e)
      omega
    rw [List.set_comm _ _ (by omega : i.toNat ≠ (at0 I p).toNat), List.set_set]
structure Sift (N : Nat) (K I P : List Int) (r : List Int × List Int) : Prop where
  wf : Wf N r.1 r.2
  ord : Ord K r.1
  len : r.1.length = I.length
  held : ∀ x : Int, 0 ≤ x → (0 ≤ at0 r.2 x ↔ 0 ≤ at0 P x)
theorem upGo_law {N : Nat} {K : List Int} {i : Int} : ∀ (a : Nat) (I P : List Int), a < I.length → Wf N (I.set a i) (P.set i.toNat (a : Int)) → OrdUp K (I.set a i) a → Sift N K I (P.set i.toNat (a : Int)) (upGo K i I P a) := by
  intro a
  induction a using Nat.strongRecOn with
  | ind a ih =>
    intro I P ha hw ho
    have hl : (I.set a i).length = I.length := by simp
    rw [upGo]
    split
    · rename_i hc
      have hpl : (a - 1) / 2 < I.length := by omega
      obtain ⟨e1, e2, e3, e4⟩ := virt_swp (p := (a - 1) / 2) hw ha hpl (by omega)
      have hst := ho.step (by omega) hc.1 (by rw [e1, e2]; exact hc.2)
      have hws := hw.swp (a := a) (b := (a - 1) / 2) (by omega) (by omega) (by omega)
      have hhd := fun x => swp_held hw (a := a) (b := (a - 1) / 2) (x := x) (by omega) (by omega)
      rw [← e3] at hst hws
      rw [← e4] at hws hhd
      have := ih ((a - 1) / 2) (by omega) (I.set a (at0 I ((a - 1) / 2 : Nat))) (P.set (at0 I ((a - 1) / 2 : Nat)).toNat a) (by simpa using hpl) hws hst
      exact ⟨this.wf, this.ord, by rw [this.len]; simp, fun x hx => (this.held x hx).trans (hhd x hx)⟩
    · rename_i hc
      refine ⟨hw, ho.done ?_, hl, fun x _ => Iff.rfl⟩
      rintro ⟨h0, h1⟩
      refine hc ⟨h0, ?_⟩
      rw [at0_setN (by omega) ha, if_pos rfl, at0_setN (by omega) ha, if_neg (by omega)] at h1
      exact h1
theorem dnK_virt {K I : List Int} {a : Nat} {i : Int} (ha : a < I.length) : dnK K (I.set a i) a = dnK K I a := by
  unfold dnK
  have e : ∀ j : Nat, j ≠ a → at0 (I.set a i) j = at0 I j := fun j hj => by rw [at0_setN (by omega) ha, if_neg (by omega)]
  rw [e _ (by omega), e _ (by omega), List.length_set]
theorem dnGo_law {N : Nat} {K : List Int} {i : Int} : ∀ (m a : Nat) (I P : List Int), I.length - a ≤ m → a < I.length → Wf N (I.set a i) (P.set i.toNat (a : Int)) → OrdDn K (I.set a i) a → Sift N K I (P.set i.toNat (a : Int)) (dnGo K i I P a) := by
  intro m
  induction m with
  | zero => intro a I P hm ha; omega
  | succ m ih =>
    intro a I P hm ha hw ho
    have hl : (I.set a i).length = I.length := by simp
    have hgt := dnK_gt K I a
    have hkv := dnK_virt (K := K) (i := i) ha
    rw [dnGo]
    split
    · rename_i hc
      obtain ⟨e1, e2, e3, e4⟩ := virt_swp (p := dnK K I a) hw ha hc.1 (by omega)
      have hst := ho.step (by omega) (by rw [hkv]; omega) (by rw [hkv, e1, e2]; exact hc.2)
      have hws := hw.swp (a := a) (b := dnK K I a) (by omega) (by omega) (by omega)
      have hhd := fun x => swp_held hw (a := a) (b := dnK K I a) (x := x) (by omega) (by omega)
      rw [hkv, ← e3] at hst
      rw [← e3] at hws
      rw [← e4] at hws hhd
      have := ih (dnK K I a) (I.set a (at0 I (dnK K I a))) (P.set (at0 I (dnK K I a)).toNat a) (by simp; omega) (by simpa using hc.1) hws hst
      exact ⟨this.wf, this.ord, by rw [this.len]; simp, fun x hx => (this.held x hx).trans (hhd x hx)⟩
    · rename_i hc
      refine ⟨hw, ho.done ?_, hl, fun x _ => Iff.rfl⟩
      rintro ⟨h0, h1⟩
      rw [hkv] at h0 h1
      refine hc ⟨by omega, ?_⟩
      rw [at0_setN (by omega) ha, if_neg (by omega), at0_setN (by omega) ha, if_pos rfl] at h1
      exact h1
/-! the heap as a whole -/
structure HOk (N : Nat) (I K P : List Int) : Prop where
  wf : Wf N I P
  lenK : K.length = N
  ord : Ord K I
def held (P : List Int) (x : Int) : Prop := 0 ≤ at0 P x
theorem HOk.empty (N : Nat) (K : List Int) (hK : K.length = N) : HOk N [] K (List.replicate N (-1)) :=
  ⟨⟨by simp, fun j hj => by simp at hj, fun x _ _ => .inl (at0_replicate _ _)⟩, hK, ⟨fun j _ hj => by simp at hj⟩⟩
theorem set_same {L : List Int} {a : Nat} (ha : a < L.length) : L.set a (at0 L a) = L := by
  apply List.ext_getElem (by simp)
  intro n h1 h2
  rw [List.getElem_set]
  split
  · rename_i e; subst e; simp [at0, ha]
  · rfl
theorem set_sameI {L : List Int} {x : Int} (h0 : 0 ≤ x) (ha : x < L.length) : L.set x.toNat (at0 L x) = L := by
  have := set_same (L := L) (a := x.toNat) (by omega)
  rwa [show ((x.toNat : Nat) : Int) = x by omega] at this
/-- an item gets a key that is not greater, or is new -/
def addI (I P : List Int) (i : Int) : List Int := if at0 P i < 0 then I ++ [i] else I
def addP (I P : List Int) (i : Int) : List Int := if at0 P i < 0 then P.set i.toNat (I.length : Int) else P
def setUp (I K P : List Int) (i key : Int) : List Int × List Int := upGo (K.set i.toNat key) i (addI I P i) (addP I P i) (at0 (addP I P i) i).toNat
def setH (I K P : List Int) (i key : Int) : List Int × List Int :=
  dnGo (K.set i.toNat key) i (setUp I K P i key).1 (setUp I K P i key).2 (at0 (setUp I K P i key).2 i).toNat
theorem add_wf {N : Nat} {I K P : List Int} {i : Int} (h : HOk N I K P) (hi : 0 ≤ i) (hiN : i < N) :
    Wf N (addI I P i) (addP I P i) ∧ (0 ≤ at0 (addP I P i) i ∧ at0 (addP I P i) i < (addI I P i).length ∧ at0 (addI I P i) (at0 (addP I P i) i) = i) ∧ (∀ x : Int, 0 ≤ x → (held (addP I P i) x ↔ held P x ∨ x = i)) := by
  unfold addI addP
  have hw := h.wf
  have hlP := hw.lenP
  by_cases hp : at0 P i < 0
  · simp only [if_pos hp]
    have hg : ∀ x : Int, 0 ≤ x → at0 (P.set i.toNat (I.length : Int)) x = if x = i then (I.length : Int) else at0 P x := fun x hx => at0_set hi hx (by omega)
    have ha : ∀ j : Nat, at0 (I ++ [i]) j = if j = I.length then i else at0 I j := by
      intro j
      unfold at0
      rw [Int.toNat_natCast, List.getElem?_append]
      split
      · rw [if_neg (by omega)]
      · split
        · rename_i e; subst e; simp
        · rw [List.getElem?_eq_none (by simp; omega), List.getElem?_eq_none (by omega)]
    have hno : ∀ j : Nat, j < I.length → at0 I j ≠ i := by
      intro j hj e
      have := (hw.itm j hj).2
      rw [e] at this; omega
    refine ⟨⟨by simpa using hlP, ?_, ?_⟩, ?_, ?_⟩
    · intro j hj
      rw [ha]
      split
      · rename_i e; subst e; exact ⟨⟨hi, hiN⟩, by rw [hg i hi, if_pos rfl]⟩
      · rename_i e
        simp at hj
        have hj' : j < I.length := by omega
        refine ⟨(hw.itm j hj').1, ?_⟩
        rw [hg _ (hw.itm j hj').1.1, if_neg (hno j hj')]
        exact (hw.itm j hj').2
    · intro x hx0 hx
      rw [hg x hx0]
      by_cases e : x = i
      · subst e; rw [if_pos rfl]; exact .inr ⟨I.length, by simp, rfl, by rw [ha, if_pos rfl]⟩
      · rw [if_neg e]
        rcases hw.plc x hx0 hx with e1 | ⟨j, hj, e1, e2⟩
        · exact .inl e1
        · exact .inr ⟨j, by simp; omega, e1, by rw [ha, if_neg (by omega)]; exact e2⟩
    · rw [hg i hi, if_pos rfl]
      refine ⟨by omega, by simp only [List.length_append, List.length_singleton]; omega, ?_⟩
      rw [ha, if_pos rfl]
    · intro x hx
      unfold held
      rw [hg x hx]
      by_cases e : x = i
      · subst e; rw [if_pos rfl]; simp
      · rw [if_neg e]; simp [e]
  · simp only [if_neg hp]
    refine ⟨hw, ?_, ?_⟩
    · rcases hw.plc i hi hiN with e | ⟨j, hj, e1, e2⟩
      · omega
      · rw [e1]; exact ⟨by omega, by omega, e2⟩
    · intro x hx
      unfold held
      constructor
      · exact .inl
      · rintro (e | e)
        · exact e
        · subst e; omega
structure SetIs (N : Nat) (I K P : List Int) (i key : Int) (I' P' : List Int) : Prop where
  ok : HOk N I' (K.set i.toNat key) P'
  held : ∀ x : Int, 0 ≤ x → (held P' x ↔ held P x ∨ x = i)
theorem set_law {N : Nat} {I K P : List Int} {i key : Int} (h : HOk N I K P) (hi : 0 ≤ i) (hiN : i < N) (hk : at0 P i < 0 ∨ key ≤ at0 K i) :
    SetIs N I K P i key (setH I K P i key).1 (setH I K P i key).2 ∧ Wf N (setUp I K P i key).1 (setUp I K P i key).2 ∧ held (setUp I K P i key).2 i ∧ at0 (setUp I K P i key).1 (at0 (setUp I K P i key).2 i) = i ∧ (setUp I K P i key).1.length = (addI I P i).length := by
  obtain ⟨hw, ⟨hp0, hp1, hp2⟩, hhd⟩ := add_wf h hi hiN
  have hK : ∀ x : Int, 0 ≤ x → at0 (K.set i.toNat key) x = if x = i then key else at0 K x := fun x hx => at0_set hi hx (by have := h.lenK; omega)
  have ho : OrdUp (K.set i.toNat key) (addI I P i) (at0 (addP I P i) i).toNat := by
    have haI : ∀ j : Nat, j < I.length → at0 (addI I P i) j = at0 I j := by
      intro j hj
      unfold addI
      split
      · unfold at0; rw [Int.toNat_natCast, List.getElem?_append_left hj]
      · rfl
    have hpos : at0 P i < 0 → (at0 (addP I P i) i).toNat = I.length ∧ (addI I P i).length = I.length + 1 := by
      intro hneg
      unfold addP addI
      rw [if_pos hneg, if_pos hneg, at0_set hi hi (by have := h.wf.lenP; omega), if_pos rfl]
      exact ⟨by omega, by simp⟩
    have hpos2 : ¬ at0 P i < 0 → addI I P i = I ∧ addP I P i = P := by
      intro hneg
      unfold addP addI
      rw [if_neg hneg, if_neg hneg]; exact ⟨rfl, rfl⟩
    have hdist : ∀ j : Nat, j < (addI I P i).length → j ≠ (at0 (addP I P i) i).toNat → at0 (addI I P i) j ≠ i := by
      intro j hj hne e
      have := (hw.itm j hj).2
      rw [e] at this
      omega
    have hbef : ∀ a b : Int, 0 ≤ a → 0 ≤ b → a ≠ i → b ≠ i → bef (K.set i.toNat key) a b = bef K a b := by
      intro a b ha hb h1 h2
      unfold bef
      rw [hK a ha, hK b hb, if_neg h1, if_neg h2]
    by_cases hneg : at0 P i < 0
    · obtain ⟨q1, q2⟩ := hpos hneg
      refine ⟨fun j j0 jl jp => ?_, fun j j0 jl jp p0 => by omega⟩
      have hj : j < I.length := by omega
      have hpj : (j - 1) / 2 < I.length := by omega
      have h1 := h.ord.ok j j0 hj
      unfold Ok1 at h1 ⊢
      rw [haI j hj, haI _ hpj, hbef _ _ (h.wf.itm j hj).1.1 (h.wf.itm _ hpj).1.1]
      · exact h1
      · rw [← haI j hj]; exact hdist j jl jp
      · rw [← haI _ hpj]; exact hdist _ (by omega) (by omega)
    · obtain ⟨q1, q2⟩ := hpos2 hneg
      rw [q1, q2] at hdist hp1 hp2 ⊢
      rw [q2] at hp0
      have hle : key ≤ at0 K i := hk.resolve_left hneg
      generalize hp : (at0 P i).toNat = p at *
      have hpI : at0 I p = i := by rw [show (p : Int) = at0 P i by omega]; exact hp2
      refine ⟨fun j j0 jl jp => ?_, fun j j0 jl jp p0 => ?_⟩
      · have h1 := h.ord.ok j j0 jl
        unfold Ok1 at h1 ⊢
        by_cases e : (j - 1) / 2 = p
        · rw [e] at h1 ⊢
          rw [hpI] at h1 ⊢
          rw [bef_not] at h1 ⊢
          have hjn := hdist j jl jp
          rw [hK _ (h.wf.itm j jl).1.1, hK i hi, if_neg hjn, if_pos rfl]
          omega
        · have hpj : (j - 1) / 2 < I.length := by omega
          rw [hbef _ _ (h.wf.itm j jl).1.1 (h.wf.itm _ hpj).1.1 (hdist j jl jp) (hdist _ hpj e)]
          exact h1
      · have h1 := h.ord.ok j j0 jl
        have h2 := h.ord.ok p p0 (by omega)
        unfold Ok1 at h1 h2
        rw [jp] at h1
        have hjn := hdist j jl (by omega)
        have hpn := hdist ((p - 1) / 2) (by omega) (by omega)
        rw [hbef _ _ (h.wf.itm j jl).1.1 (h.wf.itm _ (by omega)).1.1 hjn hpn]
        exact bef_le h1 h2
  have hset : (addI I P i).set (at0 (addP I P i) i).toNat i = addI I P i := by
    have := set_same (L := addI I P i) (a := (at0 (addP I P i) i).toNat) (by omega)
    rw [show (((at0 (addP I P i) i).toNat : Nat) : Int) = at0 (addP I P i) i by omega, hp2] at this
    exact this
  have hset2 : (addP I P i).set i.toNat ((at0 (addP I P i) i).toNat : Int) = addP I P i := by
    rw [show (((at0 (addP I P i) i).toNat : Nat) : Int) = at0 (addP I P i) i by omega]
    exact set_sameI hi (by have := hw.lenP; omega)
  have hs := upGo_law (i := i) (at0 (addP I P i) i).toNat (addI I P i) (addP I P i) (by omega) (by rw [hset, hset2]; exact hw) (by rw [hset]; exact ho)
  rw [hset2] at hs
  rw [show upGo (K.set i.toNat key) i (addI I P i) (addP I P i) (at0 (addP I P i) i).toNat = setUp I K P i key from rfl] at hs
  have hu : held (setUp I K P i key).2 i := (hs.held i hi).2 hp0
  have hui : at0 (setUp I K P i key).2 i < (setUp I K P i key).1.length ∧ at0 (setUp I K P i key).1 (at0 (setUp I K P i key).2 i) = i := by
    rcases hs.wf.plc i hi hiN with e | ⟨j, hj, e1, e2⟩
    · unfold held at hu; omega
    · rw [e1]; exact ⟨by omega, e2⟩
  have hu0 : 0 ≤ at0 (setUp I K P i key).2 i := hu
  have hset3 : (setUp I K P i key).1.set (at0 (setUp I K P i key).2 i).toNat i = (setUp I K P i key).1 := by
    have := set_same (L := (setUp I K P i key).1) (a := (at0 (setUp I K P i key).2 i).toNat) (by omega)
    rw [show (((at0 (setUp I K P i key).2 i).toNat : Nat) : Int) = at0 (setUp I K P i key).2 i by omega, hui.2] at this
    exact this
  have hset4 : (setUp I K P i key).2.set i.toNat ((at0 (setUp I K P i key).2 i).toNat : Int) = (setUp I K P i key).2 := by
    rw [show (((at0 (setUp I K P i key).2 i).toNat : Nat) : Int) = at0 (setUp I K P i key).2 i by omega]
    exact set_sameI hi (by have := hs.wf.lenP; omega)
  have hd := dnGo_law (K := K.set i.toNat key) (i := i) _ (at0 (setUp I K P i key).2 i).toNat (setUp I K P i key).1 (setUp I K P i key).2 (Nat.le_refl _) (by omega) (by rw [hset3, hset4]; exact hs.wf) (by rw [hset3]; exact hs.ord.toDn _)
  rw [hset4] at hd
  refine ⟨⟨⟨hd.wf, by simp [h.lenK], hd.ord⟩, fun x hx => ?_⟩, hs.wf, hu, hui.2, hs.len⟩
  exact (hd.held x hx).trans ((hs.held x hx).trans (hhd x hx))
end Go.Proofs.Ytogehfalhodapaa
namespace Go.Proofs.Ytogehfalhodapaa
open Go Go.Proofs.Ytogehfalhodapaa.Pv
set_option linter.unusedSimpArgs false
set_option linter.unusedVariables false
/-! the first item is taken -/
def lastI (I : List Int) : Int := at0 I ((I.length - 1 : Nat) : Int)
def popH (I K P : List Int) : List Int × List Int :=
  if at0 I 0 = lastI I then (I.take (I.length - 1), P.set (at0 I 0).toNat (-1))
  else dnGo K (lastI I) ((I.take (I.length - 1)).set 0 (lastI I)) ((P.set (at0 I 0).toNat (-1)).set (lastI I).toNat 0) 0
structure PopIs (N : Nat) (I K P I' P' : List Int) : Prop where
  ok : HOk N I' K P'
  held : ∀ x : Int, 0 ≤ x → (held P' x ↔ held P x ∧ x ≠ at0 I 0)
  min : ∀ x : Int, 0 ≤ x → x < N → Go.Proofs.Ytogehfalhodapaa.held P x → at0 K (at0 I 0) ≤ at0 K x
theorem at0_take {I : List Int} {n : Nat} (hn : n ≤ I.length) {j : Nat} (hj : j < n) : at0 (I.take n) j = at0 I j := by
  unfold at0; rw [Int.toNat_natCast, List.getElem?_take, if_pos hj]
theorem pop_law {N : Nat} {I K P : List Int} (h : HOk N I K P) (hI : 0 < I.length) :
    PopIs N I K P (popH I K P).1 (popH I K P).2 ∧ (0 ≤ at0 I 0 ∧ at0 I 0 < N) ∧ held P (at0 I 0) ∧ (0 ≤ lastI I ∧ lastI I < N) := by
  have hw := h.wf
  have hlP := hw.lenP
  have i0 := hw.itm 0 hI
  simp only [Int.natCast_zero] at i0
  have hln : I.length - 1 < I.length := by omega
  have il := hw.itm (I.length - 1) hln
  rw [show at0 I ((I.length - 1 : Nat) : Int) = lastI I from rfl] at il
  have hmin : ∀ x : Int, 0 ≤ x → x < N → held P x → at0 K (at0 I 0) ≤ at0 K x := by
    intro x h0 h1 hx
    rcases hw.plc x h0 h1 with e | ⟨j, hj, e1, e2⟩
    · unfold held at hx; omega
    · have := h.ord.min j hj
      rw [e2, bef_not] at this
      simp only [Int.natCast_zero] at this
      omega
  have hP1 : ∀ x : Int, 0 ≤ x → at0 (P.set (at0 I 0).toNat (-1)) x = if x = at0 I 0 then -1 else at0 P x := fun x hx => at0_set i0.1.1 hx (by omega)
  refine ⟨?_, i0.1, by unfold held; omega, il.1⟩
  unfold popH
  by_cases e : at0 I 0 = lastI I
  · rw [if_pos e]
    have h1 : I.length = 1 := by
      have := i0.2
      rw [e, il.2] at this
      omega
    have h2 : I.take (I.length - 1) = [] := by rw [h1]; rfl
    rw [h2]
    have hz : ∀ x : Int, 0 ≤ x → x < N → x ≠ at0 I 0 → at0 P x = -1 := by
      intro x h0 hx hne
      rcases hw.plc x h0 hx with e1 | ⟨j, hj, e1, e2⟩
      · exact e1
      · have : j = 0 := by omega
        subst this
        exact (hne e2.symm).elim
    refine ⟨⟨⟨by simpa using hlP, fun j hj => by simp at hj, fun x h0 hx => .inl ?_⟩, h.lenK, ⟨fun j _ hj => by simp at hj⟩⟩, fun x hx => ?_, hmin⟩
    · show at0 (P.set (at0 I 0).toNat (-1)) x = -1
      rw [hP1 x h0]
      split
      · rfl
      · rename_i e1; exact hz x h0 hx e1
    · unfold held
      show 0 ≤ at0 (P.set (at0 I 0).toNat (-1)) x ↔ _
      rw [hP1 x hx]
      by_cases e1 : x = at0 I 0
      · rw [if_pos e1]; simp [e1]
      · rw [if_neg e1]; simp [e1]
  · rw [if_neg e]
    have hn2 : 1 < I.length := by
      by_cases h1 : I.length = 1
      · exact (e (by unfold lastI; rw [h1]; rfl)).elim
      · omega
    have hV : ∀ j : Nat, j < I.length - 1 → at0 ((I.take (I.length - 1)).set 0 (lastI I)) j = if j = 0 then lastI I else at0 I j := by
      intro j hj
      rw [at0_setN (by omega) (by rw [List.length_take]; omega)]
      by_cases e1 : j = 0
      · rw [if_pos (by omega), if_pos e1]
      · rw [if_neg (by omega), if_neg e1, at0_take (by omega) hj]
    have hVl : ((I.take (I.length - 1)).set 0 (lastI I)).length = I.length - 1 := by rw [List.length_set, List.length_take]; omega
    have hP2 : ∀ x : Int, 0 ≤ x → at0 ((P.set (at0 I 0).toNat (-1)).set (lastI I).toNat 0) x = if x = lastI I then 0 else if x = at0 I 0 then -1 else at0 P x := by
      intro x hx
      rw [at0_set il.1.1 hx (by rw [List.length_set]; omega), hP1 x hx]
    have hVw : Wf N ((I.take (I.length - 1)).set 0 (lastI I)) ((P.set (at0 I 0).toNat (-1)).set (lastI I).toNat 0) := by
      refine ⟨by simpa using hlP, fun j hj => ?_, fun x h0 hx => ?_⟩
      · rw [hVl] at hj
        rw [hV j hj]
        by_cases e1 : j = 0
        · rw [if_pos e1]
          refine ⟨il.1, ?_⟩
          rw [hP2 _ il.1.1, if_pos rfl, e1]; rfl
        · rw [if_neg e1]
          have ij := hw.itm j (by omega)
          refine ⟨ij.1, ?_⟩
          rw [hP2 _ ij.1.1, if_neg, if_neg]
          · exact ij.2
          · intro e2; exact e1 (hw.inj (j := j) (k := 0) (by omega) hI (by simpa using e2))
          · intro e2; have := hw.inj (j := j) (k := I.length - 1) (by omega) hln e2; omega
      · rw [hP2 x h0]
        by_cases e1 : x = lastI I
        · rw [if_pos e1]
          exact .inr ⟨0, by omega, rfl, by rw [hV 0 (by omega), if_pos rfl]; exact e1.symm⟩
        · rw [if_neg e1]
          by_cases e2 : x = at0 I 0
          · rw [if_pos e2]; exact .inl rfl
          · rw [if_neg e2]
            rcases hw.plc x h0 hx with e3 | ⟨j, hj, e3, e4⟩
            · exact .inl e3
            · have j0 : j ≠ 0 := fun e5 => e2 (by rw [← e4, e5]; rfl)
              have jl : j ≠ I.length - 1 := fun e5 => e1 (by rw [← e4, e5]; rfl)
              exact .inr ⟨j, by omega, e3, by rw [hV j (by omega), if_neg j0]; exact e4⟩
    have hVo : OrdDn K ((I.take (I.length - 1)).set 0 (lastI I)) 0 := by
      refine ⟨fun j j0 jl jp => ?_, fun j _ _ _ h0 => by omega⟩
      rw [hVl] at jl
      unfold Ok1
      rw [hV j jl, hV _ (by omega), if_neg (by omega), if_neg jp]
      exact h.ord.ok j j0 (by omega)
    have hd := dnGo_law (N := N) (K := K) (i := lastI I) (((I.take (I.length - 1)).set 0 (lastI I)).length - 0) 0 ((I.take (I.length - 1)).set 0 (lastI I)) ((P.set (at0 I 0).toNat (-1)).set (lastI I).toNat 0) (Nat.le_refl _) (by omega)
      (by rw [List.set_set]; rw [show ((0 : Nat) : Int) = 0 from rfl, List.set_set]; exact hVw) (by rw [List.set_set]; exact hVo)
    rw [show ((0 : Nat) : Int) = 0 from rfl, List.set_set] at hd
    refine ⟨⟨hd.wf, h.lenK, hd.ord⟩, fun x hx => (hd.held x hx).trans ?_, hmin⟩
    rw [hP2 x hx]
    unfold held
    by_cases e1 : x = lastI I
    · rw [if_pos e1, e1]
      have := il.2
      constructor
      · intro _; exact ⟨by omega, fun e2 => e e2.symm⟩
      · intro _; omega
    · rw [if_neg e1]
      by_cases e2 : x = at0 I 0
      · rw [if_pos e2]; simp [e2]
      · rw [if_neg e2]; simp [e2]
end Go.Proofs.Ytogehfalhodapaa
namespace Go.Proofs.Ytogehfalhodapaa
open Go Go.Proofs.Ytogehfalhodapaa.Pv
set_option linter.unusedSimpArgs false
set_option linter.unusedVariables false
/-! Dijkstra's search, in plain words: what is settled (D), what the heap holds (K, P), the last distance m, the arcs of the last node that are still to come -/
structure Dij (t : Topo) (down : List Bool) (n : Int) (dir : Bool) (D K P : List Int) (m : Int) (todo : List Int) : Prop where
  len : (D.length : Int) = t.nodes
  lenK : (K.length : Int) = t.nodes
  low : ∀ i : Int, -1 ≤ at0 D i
  apart : ∀ x : Int, 0 ≤ x → x < t.nodes → held P x → at0 D x = -1
  src : at0 D n = 0 ∨ (held P n ∧ at0 K n = 0 ∧ (∀ x : Int, at0 D x = -1) ∧ ∀ x : Int, 0 ≤ x → x < t.nodes → held P x → x = n)
  rel : ∀ a, Open t down n dir D a → ¬ a ∈ todo → (0 ≤ at0 D (toX t dir a) ∧ at0 D (toX t dir a) ≤ at0 D (viaY t dir a) + costOf t a) ∨ (held P (toX t dir a) ∧ at0 K (toX t dir a) ≤ at0 D (viaY t dir a) + costOf t a)
  some : ∀ x : Int, 0 ≤ x → x < t.nodes → x ≠ n → 0 ≤ at0 D x → ∃ a, Open t down n dir D a ∧ toX t dir a = x ∧ at0 D x = at0 D (viaY t dir a) + costOf t a
  hsome : ∀ x : Int, 0 ≤ x → x < t.nodes → x ≠ n → held P x → ∃ a, Open t down n dir D a ∧ toX t dir a = x ∧ at0 K x = at0 D (viaY t dir a) + costOf t a
  hi : ∀ x : Int, at0 D x ≤ m
  lo : ∀ x : Int, 0 ≤ x → x < t.nodes → held P x → m ≤ at0 K x
  up : ∀ x : Int, at0 D x ≤ 65535 * (cnt D : Int)
theorem at0_rep0 (k : Nat) (i : Int) (h0 : 0 ≤ i) (h : i < k) : at0 (List.replicate k 0) i = 0 := by
  unfold at0; rw [List.getElem?_replicate, if_pos (by omega)]; rfl
theorem cnt_rep (k : Nat) : cnt (List.replicate k (-1 : Int)) = 0 := by simp [cnt]
/-- a value at a negative index is that at the index 0 -/
theorem at0_negidx (D : List Int) {i : Int} (h : i ≤ 0) : at0 D i = at0 D 0 := by unfold at0; rw [show i.toNat = (0 : Int).toNat by omega]
/-- one more is settled: the first one that the heap holds -/
theorem Dij.settle {t : Topo} {down : List Bool} {n : Int} {dir : Bool} {D K P P' : List Int} {m y : Int} {L : List Int} (h : Dij t down n dir D K P m []) (hn : 0 ≤ n ∧ n < t.nodes) (hy : 0 ≤ y ∧ y < t.nodes) (hyh : held P y)
    (hmin : ∀ x : Int, 0 ≤ x → x < t.nodes → held P x → at0 K y ≤ at0 K x) (hP : ∀ x : Int, 0 ≤ x → (held P' x ↔ held P x ∧ x ≠ y))
    (hL : ∀ a, isArc t a = true → viaY t dir a = y → transOf t y n = true → a ∈ L) :
    Dij t down n dir (D.set y.toNat (at0 K y)) K P' (at0 K y) L ∧ cnt (D.set y.toNat (at0 K y)) = cnt D + 1 ∧ 0 ≤ at0 K y ∧ at0 K y ≤ 65535 * ((cnt D : Int) + 1) ∧ at0 (D.set y.toNat (at0 K y)) n = 0 := by
  have hlen := h.len
  have hDy := h.apart y hy.1 hy.2 hyh
  have hmle := h.lo y hy.1 hy.2 hyh
  obtain ⟨hyl, hye⟩ := at0_getElem (D := D) hy.1 (by omega)
  have hK0 : 0 ≤ at0 K y ∧ at0 K y ≤ 65535 * ((cnt D : Int) + 1) := by
    by_cases e : y = n
    · rcases h.src with e1 | ⟨_, e1, _⟩
      · rw [e] at hDy; omega
      · rw [e, e1]; omega
    · obtain ⟨a, o, _, e2⟩ := h.hsome y hy.1 hy.2 e hyh
      have := o.2.2.1
      have := via_ok (dir := dir) o.1
      have := h.up (viaY t dir a)
      omega
  have hg : ∀ x : Int, 0 ≤ x → at0 (D.set y.toNat (at0 K y)) x = if x = y then at0 K y else at0 D x := fun x hx => at0_set hy.1 hx (by omega)
  have hc := cnt_set (v := at0 K y) hyl
  rw [← hye, if_pos hK0.1, if_neg (by omega)] at hc
  have hcn : cnt (D.set y.toNat (at0 K y)) = cnt D + 1 := by omega
  -- all indices
  have all : ∀ (Q : Int → Prop), (∀ x : Int, 0 ≤ x → Q (at0 (D.set y.toNat (at0 K y)) x)) → ∀ x : Int, Q (at0 (D.set y.toNat (at0 K y)) x) := by
    intro Q hq x
    by_cases hx : 0 ≤ x
    · exact hq x hx
    · rw [at0_negidx _ (by omega)]; exact hq 0 (by omega)
  have hopen : ∀ a, Open t down n dir D a → Open t down n dir (D.set y.toNat (at0 K y)) a ∧ at0 (D.set y.toNat (at0 K y)) (viaY t dir a) = at0 D (viaY t dir a) := by
    rintro a ⟨o1, o2, o3, o4⟩
    have hv := via_ok (dir := dir) o1
    have hne : viaY t dir a ≠ y := fun e => by rw [e] at o3; omega
    have e1 := hg (viaY t dir a) hv.1
    rw [if_neg hne] at e1
    exact ⟨⟨o1, o2, by rw [e1]; exact o3, o4⟩, e1⟩
  have hn0 : at0 (D.set y.toNat (at0 K y)) n = 0 := by
    rw [hg n hn.1]
    rcases h.src with e1 | ⟨_, e1, _, e2⟩
    · rw [if_neg (fun e => by rw [e] at e1; omega)]; exact e1
    · have := e2 y hy.1 hy.2 hyh
      rw [if_pos this.symm, this]; exact e1
  refine ⟨⟨by simpa using hlen, h.lenK, ?_, ?_, .inl hn0, ?_, ?_, ?_, ?_, ?_, ?_⟩, hcn, hK0.1, hK0.2, hn0⟩
  · refine all _ fun x hx => ?_
    rw [hg x hx]
    split
    · omega
    · exact h.low x
  · intro x h0 h1 hx
    have := (hP x h0).1 hx
    rw [hg x h0, if_neg this.2]
    exact h.apart x h0 h1 this.1
  · rintro a ⟨o1, o2, o3, o4⟩ hna
    have hv := via_ok (dir := dir) o1
    have hne : viaY t dir a ≠ y := fun e => hna (hL a o1 e (by rw [← e]; exact o4))
    rw [hg _ hv.1, if_neg hne] at o3 ⊢
    have hr := h.rel a ⟨o1, o2, o3, o4⟩ (by simp)
    rw [hg _ hv.2.2.1]
    by_cases e : toX t dir a = y
    · rw [if_pos e]
      rcases hr with hr | hr
      · rw [e] at hr; omega
      · rw [e] at hr; exact .inl ⟨hK0.1, hr.2⟩
    · rw [if_neg e]
      rcases hr with hr | hr
      · exact .inl hr
      · exact .inr ⟨(hP _ hv.2.2.1).2 ⟨hr.1, e⟩, hr.2⟩
  · intro x h0 h1 hxn hx
    rw [hg x h0] at hx ⊢
    by_cases e : x = y
    · rw [if_pos e]
      subst e
      obtain ⟨a, o, e1, e2⟩ := h.hsome x h0 h1 hxn hyh
      obtain ⟨o', ev⟩ := hopen a o
      exact ⟨a, o', e1, by rw [ev]; exact e2⟩
    · rw [if_neg e] at hx ⊢
      obtain ⟨a, o, e1, e2⟩ := h.some x h0 h1 hxn hx
      obtain ⟨o', ev⟩ := hopen a o
      exact ⟨a, o', e1, by rw [ev]; exact e2⟩
  · intro x h0 h1 hxn hx
    have := (hP x h0).1 hx
    obtain ⟨a, o, e1, e2⟩ := h.hsome x h0 h1 hxn this.1
    obtain ⟨o', ev⟩ := hopen a o
    exact ⟨a, o', e1, by rw [ev]; exact e2⟩
  · refine all (fun v => v ≤ at0 K y) fun x hx => ?_
    rw [hg x hx]
    split
    · omega
    · have := h.hi x; omega
  · intro x h0 h1 hx
    exact hmin x h0 h1 ((hP x h0).1 hx).1
  · refine all (fun v => v ≤ 65535 * (cnt (D.set y.toNat (at0 K y)) : Int)) fun x hx => ?_
    rw [hg x hx, hcn]
    have := h.up x
    split <;> omega
/-- an arc that leads nowhere -/
theorem Dij.skip {t : Topo} {down : List Bool} {n : Int} {dir : Bool} {D K P : List Int} {m a : Int} {L : List Int} (h : Dij t down n dir D K P m (a :: L))
    (ha : Open t down n dir D a → (0 ≤ at0 D (toX t dir a) ∧ at0 D (toX t dir a) ≤ at0 D (viaY t dir a) + costOf t a) ∨ (held P (toX t dir a) ∧ at0 K (toX t dir a) ≤ at0 D (viaY t dir a) + costOf t a)) : Dij t down n dir D K P m L := by
  refine ⟨h.len, h.lenK, h.low, h.apart, h.src, fun b hb hbl => ?_, h.some, h.hsome, h.hi, h.lo, h.up⟩
  by_cases e : b = a
  · subst e; exact ha hb
  · exact h.rel b hb (by simp [e, hbl])
/-- an arc that leads to a node at less cost than before -/
theorem Dij.take {t : Topo} {down : List Bool} {n : Int} {dir : Bool} {D K P P' : List Int} {m a : Int} {L : List Int} (h : Dij t down n dir D K P m (a :: L)) (hn0 : at0 D n = 0) (hn : 0 ≤ n)
    (ho : Open t down n dir D a) (hm : at0 D (viaY t dir a) = m) (hx : at0 D (toX t dir a) < 0) (hk : at0 P (toX t dir a) < 0 ∨ m + costOf t a < at0 K (toX t dir a))
    (hP : ∀ x : Int, 0 ≤ x → (held P' x ↔ held P x ∨ x = toX t dir a)) : Dij t down n dir D (K.set (toX t dir a).toNat (m + costOf t a)) P' m L := by
  have hv := via_ok (dir := dir) ho.1
  have hlow := h.low (toX t dir a)
  have hg : ∀ x : Int, 0 ≤ x → at0 (K.set (toX t dir a).toNat (m + costOf t a)) x = if x = toX t dir a then m + costOf t a else at0 K x := fun x h0 => at0_set hv.2.2.1 h0 (by have := h.lenK; omega)
  refine ⟨h.len, by simpa using h.lenK, h.low, ?_, .inl hn0, ?_, h.some, ?_, h.hi, ?_, h.up⟩
  · intro x h0 h1 hx'
    rcases (hP x h0).1 hx' with e | e
    · exact h.apart x h0 h1 e
    · rw [e]; omega
  · intro b hb hbl
    have hvb := via_ok (dir := dir) hb.1
    rw [hg _ hvb.2.2.1]
    by_cases e : b = a
    · subst e
      rw [if_pos rfl, hm]
      exact .inr ⟨(hP _ hv.2.2.1).2 (.inr rfl), Int.le_refl _⟩
    · have hr := h.rel b hb (by simp [e, hbl])
      by_cases e2 : toX t dir b = toX t dir a
      · rw [if_pos e2]
        rcases hr with hr | hr
        · rw [e2] at hr; omega
        · refine .inr ⟨(hP _ hvb.2.2.1).2 (.inl hr.1), ?_⟩
          rw [e2] at hr
          have := hr.1
          unfold held at this
          rcases hk with hk | hk <;> omega
      · rw [if_neg e2]
        rcases hr with hr | hr
        · exact .inl hr
        · exact .inr ⟨(hP _ hvb.2.2.1).2 (.inl hr.1), hr.2⟩
  · intro x h0 h1 hxn hx'
    rw [hg x h0]
    by_cases e : x = toX t dir a
    · rw [if_pos e]
      exact ⟨a, ho, e.symm, by rw [hm]⟩
    · rw [if_neg e]
      rcases (hP x h0).1 hx' with e1 | e1
      · exact h.hsome x h0 h1 hxn e1
      · exact (e e1).elim
  · intro x h0 h1 hx'
    rw [hg x h0]
    by_cases e : x = toX t dir a
    · rw [if_pos e]; omega
    · rw [if_neg e]
      rcases (hP x h0).1 hx' with e1 | e1
      · exact h.lo x h0 h1 e1
      · exact (e e1).elim
/-- nothing is held any more -/
theorem Dij.done {t : Topo} {down : List Bool} {n : Int} {dir : Bool} {D K P : List Int} {m : Int} (h : Dij t down n dir D K P m []) (hn : 0 ≤ n ∧ n < t.nodes) (hP : ∀ x : Int, 0 ≤ x → x < t.nodes → ¬ held P x) : IsDist t down n dir D := by
  refine ⟨h.len, fun i _ => h.low i, ?_, fun a ha => ?_, h.some⟩
  · rcases h.src with e | ⟨e, _⟩
    · exact e
    · exact (hP n hn.1 hn.2 e).elim
  · have hv := via_ok (dir := dir) ha.1
    rcases h.rel a ha (by simp) with e | e
    · exact e
    · exact (hP _ hv.2.2.1 hv.2.2.2.1 e.1).elim
/-- the beginning -/
theorem Dij.start {t : Topo} {down : List Bool} {n : Int} {dir : Bool} {K P : List Int} (hn : 0 ≤ n ∧ n < t.nodes) (hK : (K.length : Int) = t.nodes) (hKn : at0 K n = 0) (hP : ∀ x : Int, 0 ≤ x → (held P x ↔ x = n)) :
    Dij t down n dir (List.replicate t.nodes.toNat (-1)) K P 0 [] := by
  have ha : ∀ x : Int, at0 (List.replicate t.nodes.toNat (-1)) x = -1 := at0_replicate _
  refine ⟨by simp; omega, hK, fun i => by rw [ha]; omega, fun x _ _ _ => ha x, .inr ⟨(hP n hn.1).2 rfl, hKn, ha, fun x h0 _ hx => (hP x h0).1 hx⟩, ?_, ?_, ?_, fun x => by rw [ha]; omega, ?_, fun x => by rw [ha, cnt_rep]; omega⟩
  · rintro a ⟨_, _, o, _⟩ _
    rw [ha] at o; omega
  · intro x _ _ _ hx
    rw [ha] at hx; omega
  · intro x h0 _ hxn hx
    exact (hxn ((hP x h0).1 hx)).elim
  · intro x h0 _ hx
    rw [(hP x h0).1 hx, hKn]; omega
end Go.Proofs.Ytogehfalhodapaa
namespace Go.Proofs.Ytogehfalhodapaa
open Go Go.Proofs.Ytogehfalhodapaa.Pv
set_option linter.unusedSimpArgs false
set_option linter.unusedVariables false
/-! the arcs out of and into a node, as those of all arcs that have it as an end -/
theorem linkOf_two {t : Topo} (hv : valid t = true) {k : Nat} {l : Link} (h : t.links[k]? = some l) : linkOf t (2 * (k : Int)) = some l ∧ linkOf t (2 * (k : Int) + 1) = some l := by
  have hk : k < t.links.length := (List.getElem?_eq_some_iff.1 h).1
  have h1 : isArc t (2 * (k : Int)) = true := isArc_iff.2 ⟨hv, by omega, by omega⟩
  have h2 : isArc t (2 * (k : Int) + 1) = true := isArc_iff.2 ⟨hv, by omega, by omega⟩
  unfold linkOf
  rw [if_pos h1, if_pos h2, show (2 * (k : Int) / 2).toNat = k by omega, show ((2 * (k : Int) + 1) / 2).toNat = k by omega]
  exact ⟨h, h⟩
theorem arcStep_eq {t : Topo} (hv : valid t = true) {k : Nat} {l : Link} (h : t.links[k]? = some l) (n : Int) (dir : Bool) :
    arcStep n dir k l = [2 * (k : Int), 2 * (k : Int) + 1].filter fun a => decide (viaY t dir a = n) := by
  obtain ⟨e1, e2⟩ := linkOf_two hv h
  have hab := (okLink_iff.1 (okLink_at hv h)).2.2.1
  have m1 : 2 * (k : Int) % 2 = 0 := by omega
  have m2 : ¬ (2 * (k : Int) + 1) % 2 = 0 := by omega
  cases dir <;> simp only [viaY, tailOf, headOf, e1, e2, List.filter_cons, List.filter_nil, arcStep, touches, if_pos m1, if_neg m2, if_true, if_false, Bool.false_eq_true, decide_eq_true_eq, Bool.and_eq_true, Bool.or_eq_true, decide_eq_false_iff_not]
  · by_cases ha : l.a = n
    · have hb : ¬ l.b = n := by omega
      simp [ha, hb]
    · by_cases hb : l.b = n <;> simp [ha, hb]
  · by_cases ha : l.a = n
    · have hb : ¬ l.b = n := by omega
      simp [ha, hb]
    · by_cases hb : l.b = n <;> simp [ha, hb]
theorem takeArcs_two (k : Nat) : takeArcs (2 * (k + 1)) = takeArcs (2 * k) ++ [2 * (k : Int), 2 * (k : Int) + 1] := by
  rw [show 2 * (k + 1) = 2 * k + 1 + 1 by omega, takeArcs_succ, takeArcs_succ, List.append_assoc]
  rfl
theorem arcsDir_eq {t : Topo} (hv : valid t = true) {n : Int} {dir : Bool} : arcsDir t n dir = (takeArcs (2 * t.links.length)).filter fun a => decide (viaY t dir a = n) := by
  have h : ∀ k : Nat, k ≤ t.links.length → arcsGo n dir 0 (t.links.take k) = (takeArcs (2 * k)).filter fun a => decide (viaY t dir a = n) := by
    intro k
    induction k with
    | zero => intro _; simp [arcsGo, takeArcs]
    | succ k ih =>
      intro hk
      have hl : t.links[k]? = some t.links[k] := List.getElem?_eq_getElem (by omega)
      rw [arcsGo_take hl, ih (by omega), takeArcs_two, List.filter_append, arcStep_eq hv hl]
  have := h t.links.length (Nat.le_refl _)
  rw [List.take_length] at this
  unfold arcsDir
  rw [if_pos hv, this]
theorem arcsDir_mem {t : Topo} (hv : valid t = true) {n : Int} {dir : Bool} {a : Int} : a ∈ arcsDir t n dir ↔ isArc t a = true ∧ viaY t dir a = n := by
  rw [arcsDir_eq hv, List.mem_filter, mem_takeArcs, isArc_iff, decide_eq_true_eq]
  constructor
  · rintro ⟨⟨h1, h2⟩, h3⟩; exact ⟨⟨hv, h1, by push_cast at h2; exact h2⟩, h3⟩
  · rintro ⟨⟨_, h1, h2⟩, h3⟩; exact ⟨⟨h1, by push_cast; exact h2⟩, h3⟩
theorem next_out {t : Topo} (hv : valid t = true) (down : List Bool) (D : List Int) (s d : Int) : nextOf t down D s d = (outOf t s).filter fun a => onOf t down D a d := by
  rw [show outOf t s = arcsDir t s true from rfl, arcsDir_eq hv, List.filter_filter]
  unfold nextOf
  congr 1
  funext a
  simp only [nxt, viaY, if_true]
  exact Bool.and_comm _ _
end Go.Proofs.Ytogehfalhodapaa
namespace Go.Proofs.Ytogehfalhodapaa
open Go Go.Proofs.Ytogehfalhodapaa.Pv
set_option linter.unusedSimpArgs false
set_option linter.unusedVariables false
theorem r_Dist (t : Topo) (down : List Bool) (n : Int) :
    FCs 38 [t.pv, .sl 1 (bools down), .int .i64 n] (.tup [.sl 1 (ints (searchOf t down n false).1), .int .i64 (searchOf t down n false).2]) := by
  refine FCs.intro [] [0,1,2,3,6,7] (fun A => [t.pvA A, .sl 1 (A.e fun _ => bools down), .int .i64 n]) Try.func38 rfl Try.call38 (by kernel_rfl) (by simp [Try.f38]) ?_
  intro A hA
  cbv
  refine CallV.nm2 (fun a b => .tup [.sl 1 a, .int .i64 b]) _ _ (by subst hA; exact r_search t down n false) (by subst hA; rfl) (by subst hA; intros; rfl) fun es x h1 h2 => ?_
  cbv
  (subst hA; refine Or.inl ?_; simp only [ar, h1, h2])
theorem ints_atI {D : List Int} {i : Int} (h0 : 0 ≤ i) (h1 : i < D.length) : ∃ x, x = at0 D i ∧ (ints D)[i.toNat]? = some [.int .i64 x] := by
  obtain ⟨v, hv, hv'⟩ := ints_atN (xs := D) (k := i.toNat) (by omega)
  exact ⟨v, by simp [at0, hv], hv'⟩
theorem r_On (t : Topo) (down : List Bool) (D : List Int) (a d : Int) (hf : fitsOf t down = true) (ha : isArc t a = true) (hl : (D.length : Int) = t.nodes) (hb : ∀ i, at0 D i ≤ 4194304) (hb0 : ∀ i, -1 ≤ at0 D i) :
    FCs 39 [t.pv, .sl 1 (bools down), .sl 1 (ints D), .int .i64 a, .int .i64 d] (.bool (onOf t down D a d)) := by
  have hok := arc_ok ha
  refine FCs.intro [] [0,1,2,3,4,5,10,11,12] (fun A => [t.pvA A, .sl 1 (A.e fun _ => bools down), .sl 1 (A.e fun _ => ints D), .int .i64 a, .int .i64 d]) Try.func39 rfl Try.call39 (by kernel_rfl) (by simp [Try.f39]) ?_
  intro A hA
  cbv
  refine CallV.int _ _ (by subst hA; exact r_Tail t a) (by subst hA; rfl) fun x g1 => ?_
  cbv
  refine CallV.int _ _ (by subst hA; exact r_Head t a) (by subst hA; rfl) fun y g2 => ?_
  cbv
  refine CallV.bool _ (by subst hA; exact r_Up down a (fits_up hf ha)) (by subst hA; rfl) fun b g3 => ?_
  cbv
  refine splitBoolF (fun e1 => ?_) (fun e1 => ?_)
  · have h1 : upOf down a = false := by rw [← g3, e1]
    cbv
    (subst hA; refine Or.inl ?_; simp [ar, onOf, h1])
  have h1 : upOf down a = true := by rw [← g3, e1]
  cbv
  refine splitBoolF (fun e2 => ?_) (fun e2 => ?_)
  · have h2 : tailOf t a = d := by subst hA; simpa [ar, g1] using e2
    cbv
    (subst hA; refine Or.inl ?_; simp [ar, onOf, h1, h2])
  have h2 : tailOf t a ≠ d := by subst hA; simpa [ar, g1] using e2
  obtain ⟨vy, ey, iy⟩ := ints_atI (D := D) (i := headOf t a) hok.2.2.1 (by ((try simp only [ncast, Int.ofNat_eq_natCast] at *); omega))
  obtain ⟨vx, ex, ix⟩ := ints_atI (D := D) (i := tailOf t a) hok.1 (by ((try simp only [ncast, Int.ofNat_eq_natCast] at *); omega))
  have hy0 : 0 ≤ y := by rw [g2]; exact hok.2.2.1
  have hx0 : 0 ≤ x := by rw [g1]; exact hok.1
  rw [← g2] at iy
  rw [← g1] at ix
  cbv
  refine ⟨_, by subst hA; exact iy, hy0, ?_⟩
  cbv
  refine splitBoolF (fun e3 => ?_) (fun e3 => ?_)
  · have h3 : ¬ 0 ≤ at0 D (headOf t a) := by rw [← ey]; subst hA; simpa [ar] using e3
    cbv
    (subst hA; refine Or.inl ?_; simp [ar, onOf, h1, h2, h3])
  have h3 : 0 ≤ at0 D (headOf t a) := by rw [← ey]; subst hA; simpa [ar] using e3
  cbv
  refine CallV.bool _ (by subst hA; exact r_transit t y d) (by subst hA; rfl) fun b4 g4 => ?_
  cbv
  refine splitBoolF (fun e4 => ?_) (fun e4 => ?_)
  · have h4 : transOf t (headOf t a) d = false := by rw [← g2, ← g4, e4]
    cbv
    (subst hA; refine Or.inl ?_; simp [ar, onOf, h1, h2, h3, h4])
  have h4 : transOf t (headOf t a) d = true := by rw [← g2, ← g4, e4]
  cbv
  refine ⟨_, by subst hA; exact ix, hx0, ?_⟩
  cbv
  refine ⟨_, by subst hA; exact iy, hy0, ?_⟩
  cbv
  refine CallV.int _ _ (by subst hA; exact r_Cost t a) (by subst hA; rfl) fun c g5 => ?_
  cbv
  have := hb (headOf t a)
  rw [← ey] at this h3
  refine ⟨by rw [g5]; subst hA; simp only [ar, inI64]; ((try simp only [ncast, Int.ofNat_eq_natCast] at *); omega), ?_⟩
  subst hA
  refine Or.inl ?_
  simp only [ar, onOf, h1, decide_eq_true h2, h4, ← ey, ← ex, decide_eq_true h3, g5, Bool.true_and]
  try rfl
theorem r_Path11 (t : Topo) (down : List Bool) (s d : Int) :
    FCs 17 [t.pv, .sl 1 (bools down), .int .i64 s, .int .i64 d] (.tup [.sl 1 (ints (spathOf t down s d).1), .int .i64 (spathOf t down s d).2]) := by
  refine FCs.intro [(12, 12), (64, 12), (100004, 0), (100013, 0)] [0,1,2,3,4,8,9,10,11,12,13,31,60] (fun A => [t.pvA A, .sl 1 (A.e fun _ => bools down), .int .i64 s, .int .i64 d]) Try.func17 rfl Try.call17 (by kernel_rfl) (by simp [Try.f17]) ?_
  intro A hA
  cbv
  refine CallV.nm2 (fun a b => .tup [.sl 1 a, .int .i64 b]) _ _ (by subst hA; exact r_Dist t down d) (by subst hA; rfl) (by subst hA; intros; rfl) fun D e g1 g2 => ?_
  cbv
  refine splitBoolF (fun e1 => ?_) (fun e1 => ?_)
  rotate_left
  · have h1 : (searchOf t down d false).2 ≠ 0 := by rw [← g2]; subst hA; simpa [ar] using e1
    have h2 : spathOf t down s d = ([], e) := by
      rw [g2]
      unfold spathOf
      unfold searchOf at h1 ⊢
      split
      · rfl
      · split
        · simp_all
        · simp_all
    cbv
    subst hA
    refine Or.inr ?_
    rw [h2]
    simp [wk, wks, ar, ints]
  have h1 : (searchOf t down d false).2 = 0 := by rw [← g2]; subst hA; simpa [ar] using e1
  have hf : fitsOf t down = true := by
    unfold searchOf at h1
    split at h1
    · simp at h1
    · simp_all
  have hwd : within d 0 (t.nodes - 1) = true := by
    unfold searchOf at h1
    rw [if_neg (by simp [hf])] at h1
    split at h1
    · simp at h1
    · simp_all
  have hv := fits_valid hf
  have hnod := headOk_nodes (valid_head hv)
  have hd0 : 0 ≤ d ∧ d < t.nodes := by simp [within] at hwd; omega
  obtain ⟨hD, hDb⟩ := distOf_is (down := down) (dir := false) hv hd0.1 hd0.2
  have hse : searchOf t down d false = (distOf t down d false, 0) := by simp [searchOf, hf, hwd]
  have hsp : spathOf t down s d = if within s 0 (t.nodes - 1) = false then ([], 2) else if at0 (distOf t down d false) s < 0 then ([], 11) else (spOf t down (distOf t down d false) d s, 0) := by simp [spathOf, hf, hwd]
  rw [hse] at g1
  revert g1 hD hDb hsp
  generalize distOf t down d false = L
  intro g1 hD hDb hsp
  have g1 : D = ints L := g1
  have hlen := hD.len
  cbv
  refine CutC.upd Bool (fun b => [(31, .bool b)]) (fun _ => []) (fun b => b = !within s 0 (t.nodes - 1)) ?_ ?_
  · cbv
    refine splitBoolF (fun e2 => ?_) (fun e2 => ?_)
    · cbv
      refine ⟨_, rfl, ?_⟩
      simp [LeSt, leVs, leP, St.set, setVs, aget, subHp]
      subst hA; simp only [ar] at e2; simp only [ar, within_nodes, e2, Bool.false_or, Bool.not_not]
      try rfl
    · cbv
      refine ⟨_, rfl, ?_⟩
      simp [LeSt, leVs, leP, St.set, setVs, aget, subHp]
      subst hA; simp only [ar] at e2; simp [ar, within_nodes, e2]
  rintro x hx
  cbv
  refine splitBoolF (fun e2 => ?_) (fun e2 => ?_)
  rotate_left
  · have hw : within s 0 (t.nodes - 1) = false := by simpa [e2] using hx
    cbv
    subst hA
    refine Or.inr ?_
    rw [hsp]
    simp [wk, wks, ar, hw, ints]
  have hw : within s 0 (t.nodes - 1) = true := by simpa [e2] using hx
  have hs : 0 ≤ s ∧ s < t.nodes := by simp [within] at hw; omega
  obtain ⟨vs, es, is⟩ := ints_atI (D := L) (i := s) hs.1 (by ((try simp only [ncast, Int.ofNat_eq_natCast] at *); omega))
  cbv
  refine ⟨_, by subst hA; rw [g1]; exact is, hs.1, ?_⟩
  cbv
  refine splitBoolF (fun e3 => ?_) (fun e3 => ?_)
  rotate_left
  · have h3 : at0 L s < 0 := by rw [← es]; subst hA; simpa [ar] using e3
    cbv
    subst hA
    refine Or.inr ?_
    rw [hsp]
    simp [wk, wks, ar, hw, h3, ints]
  have h3 : 0 ≤ at0 L s := by rw [← es]; subst hA; simpa [ar] using e3
  cbv
  refine LoopK.upd (List Int × Int) (fun p => [(2, .int .i64 p.2), (13, .junk), (60, .junk)]) (fun p => [(12, ⟨3, 1, A.e fun _ => ints p.1, false⟩)])
    (fun p => 0 ≤ p.2 ∧ p.2 < t.nodes ∧ 0 ≤ at0 L p.2 ∧ p.1 ++ spOf t down L d p.2 = spOf t down L d s) (fun p => (at0 L p.2).toNat) ([], s) ?_ ?_ ?_
  · subst hA
    simp [LeSt, leVs, leP, St.set, setVs, aget, subHp]
    simp [ar, ints]
  · exact ⟨hs.1, hs.2, h3, rfl⟩
  rintro ⟨out, n⟩ ⟨hn0, hn1, hn2, hout⟩
  dsimp only at hn0 hn1 hn2 hout
  cbv
  refine splitBool (fun e4 => ?_) (fun e4 => ?_)
  · have h4 : n ≠ d := by subst hA; simpa [ar] using e4
    cbv
    refine LoopK.upd Nat (fun k => [(13, .int .i64 k), (60, .junk)]) (fun p => [(12, ⟨3, 1, A.e fun _ => ints out, false⟩)])
      (fun k => k ≤ 2 * t.links.length ∧ ∀ a : Int, 0 ≤ a → a < k → nxt t down L n d a = false) (fun k => 2 * t.links.length - k) 0 ?_ ?_ ?_
    · subst hA
      simp [LeSt, leVs, leP, St.set, setVs, aget, subHp]
    · exact ⟨Nat.zero_le _, fun a h1 h2 => by simp at h2; omega⟩
    rintro k ⟨hk, hno⟩
    cbv
    refine ⟨by subst hA; simp only [ar, inI64, lks_len]; ((try simp only [ncast, Int.ofNat_eq_natCast] at *); omega), ?_⟩
    have hlt : k < 2 * t.links.length := by
      rcases Nat.lt_or_ge k (2 * t.links.length) with h | h
      · exact h
      · obtain ⟨a, ha⟩ := nextOf_some hD hn0 hn1 h4 hn2
        obtain ⟨m1, m2⟩ := List.mem_filter.1 ha
        have m3 := mem_takeArcs.1 m1
        rw [hno a m3.1 (by ((try simp only [ncast, Int.ofNat_eq_natCast] at *); omega))] at m2
        cases m2
    have hA1 : isArc t k = true := isArc_iff.2 ⟨hv, by omega, by omega⟩
    refine splitTrue (by subst hA; simp only [ar, lks_len, decide_eq_true_eq]; ((try simp only [ncast, Int.ofNat_eq_natCast] at *); omega)) ?_
    cbv
    refine CutC.upd Bool (fun b => [(60, .bool b)]) (fun _ => [(12, ⟨3, 1, A.e fun _ => ints out, false⟩)]) (fun b => b = nxt t down L n d k) ?_ ?_
    · cbv
      refine CallV.int _ _ (by subst hA; exact r_Tail t k) (by subst hA; rfl) fun q1 g3 => ?_
      cbv
      refine splitBoolF (fun e5 => ?_) (fun e5 => ?_)
      · have h5 : ¬ tailOf t k = n := by subst hA; simpa [ar, g3] using e5
        cbv
        refine ⟨_, rfl, ?_⟩
        simp [LeSt, leVs, leP, St.set, setVs, aget, subHp]
        simp [nxt, h5]
      · have h5 : tailOf t k = n := by subst hA; simpa [ar, g3] using e5
        cbv
        refine CallV.bool _ (by subst hA; rw [g1]; exact r_On t down L k d hf hA1 hlen hDb (fun i => hD.low' i)) (by subst hA; rfl) fun q2 g4 => ?_
        cbv
        refine ⟨_, rfl, ?_⟩
        simp [LeSt, leVs, leP, St.set, setVs, aget, subHp]
        simp [nxt, h5, g4]
    rintro y hy
    cbv
    refine splitBool (fun e5 => ?_) (fun e5 => ?_)
    · rw [e5] at hy
      obtain ⟨r, hr⟩ := next_first hlt hno hy.symm
      have hst := spOf_step hv hD h4 hr
      have hni := next_is hv (by rw [hr]; exact List.mem_cons_self : (k : Int) ∈ nextOf t down L n d)
      have hok := arc_ok hA1
      have heq := hni.eq
      have hpos := hni.pos
      have hol : out.length ≤ 4194304 := by
        have h1 := congrArg List.length hout
        rw [List.length_append] at h1
        have h2 := spGo_len t down L d (at0 L s).toNat s
        have h3 := hDb s
        rw [show spGo t down L d (at0 L s).toNat s = spOf t down L d s from rfl] at h2
        omega
      cbv
      refine ⟨⟨by subst hA; simp only [ar, ints_len, List.length_cons, List.length_nil]; ((try simp only [ncast, Int.ofNat_eq_natCast] at *); omega), trivial⟩, ?_⟩
      refine CallV.int _ _ (by subst hA; exact r_Head t k) (by subst hA; rfl) fun q2 g4 => ?_
      cbv
      refine ⟨(out ++ [(k : Int)], headOf t k), ⟨⟨hok.2.2.1, hok.2.2.2.1, hpos, ?_⟩, ?_⟩, ?_⟩
      · rw [← hout, hst]; simp
      · dsimp only; ((try simp only [ncast, Int.ofNat_eq_natCast] at *); omega)
      · subst hA
        simp [LeSt, leVs, leP, St.set, setVs, aget, subHp]
        simp [ar, ints, g4]
    · have hy1 : nxt t down L n d k = false := by rw [← hy, e5]
      cbv
      refine ⟨by subst hA; simp only [ar, inI64]; ((try simp only [ncast, Int.ofNat_eq_natCast] at *); omega), ?_⟩
      refine ⟨k + 1, ⟨⟨hlt, fun a h0 h1 => ?_⟩, by omega⟩, ?_⟩
      · by_cases hak : a = k
        · subst hak; exact hy1
        · exact hno a h0 (by push_cast at h1; ((try simp only [ncast, Int.ofNat_eq_natCast] at *); omega))
      · subst hA
        simp [LeSt, leVs, leP, St.set, setVs, aget, subHp]
        simp [ar]
  · have h4 : n = d := by subst hA; simpa [ar] using e4
    have hfin : out = spOf t down L d s := by rw [← hout, h4, spOf_end hD, List.append_nil]
    cbv
    subst hA
    refine Or.inl ?_
    rw [hsp]
    simp [ar, hw, hfin, show ¬ at0 L s < 0 by omega]
end Go.Proofs.Ytogehfalhodapaa
namespace Go.Proofs.Ytogehfalhodapaa
open Go Go.Proofs.Ytogehfalhodapaa.Pv
set_option linter.unusedSimpArgs false
set_option linter.unusedVariables false
/-- a heap that is one's own -/
def hpO (I K P : List Int) : List (Nat × GObj) :=
  [(90, ⟨114, 3, [[.os 91, .os 92, .os 93]], true⟩), (91, ⟨3, 1, ints I, false⟩), (92, ⟨3, 1, ints K, false⟩), (93, ⟨3, 1, ints P, false⟩)]
theorem h_has (I K P : List Int) (i : Int) : FHs 95 [.op 90 3 0 0, .int .i64 i] (hpO I K P) (.bool (decide (0 ≤ i) && decide (i < P.length))) (hpO I K P) := by
  refine FHs.intro [] [0,1,4] [0] (fun A => [.op 90 3 0 0, .int .i64 i]) (fun A => [(90, ⟨114, 3, [[.os 91, .os 92, .os 93]], true⟩), (91, ⟨3, 1, A.e fun _ => ints I, false⟩), (92, ⟨3, 1, A.e fun _ => ints K, false⟩), (93, ⟨3, 1, A.e fun _ => ints P, false⟩)]) Try.func95 rfl Try.call95 (by kernel_rfl) (by simp [Try.f95]) rfl ?_
  intro A hA
  cbv
  refine splitBoolF (fun e1 => ?_) (fun e1 => ?_)
  · have h1 : ¬ 0 ≤ i := by subst hA; simpa [ar] using e1
    cbv
    (subst hA; exact ⟨by simp [ar, h1], by simp [ar, subHp, aget, hpO, h1], by simp [ar, pinned, St.get, aget]⟩)
  · have h1 : 0 ≤ i := by subst hA; simpa [ar] using e1
    cbv
    (subst hA; exact ⟨by simp [ar, h1, ints_len], by simp [ar, subHp, aget, hpO, h1, ints_len], by simp [ar, pinned, St.get, aget]⟩)
theorem h_before (I K P : List Int) (i k : Int) (hi : 0 ≤ i ∧ i < K.length) (hk : 0 ≤ k ∧ k < K.length) : FHs 101 [.op 90 3 0 0, .int .i64 i, .int .i64 k] (hpO I K P) (.bool (bef K i k)) (hpO I K P) := by
  obtain ⟨vi, ei, ii⟩ := ints_atI (D := K) hi.1 hi.2
  obtain ⟨vk, ek, ik⟩ := ints_atI (D := K) hk.1 hk.2
  refine FHs.intro [] [0,1,2,6] [0] (fun A => [.op 90 3 0 0, .int .i64 i, .int .i64 k]) (fun A => [(90, ⟨114, 3, [[.os 91, .os 92, .os 93]], true⟩), (91, ⟨3, 1, A.e fun _ => ints I, false⟩), (92, ⟨3, 1, A.e fun _ => ints K, false⟩), (93, ⟨3, 1, A.e fun _ => ints P, false⟩)]) Try.func101 rfl Try.call101 (by kernel_rfl) (by simp [Try.f101]) rfl ?_
  intro A hA
  cbv
  refine ⟨by subst hA; simp only [ar, ints_len]; ((try simp only [ncast, Int.ofNat_eq_natCast] at *); omega), ?_⟩
  refine ⟨_, by subst hA; exact ii, ?_⟩
  cbv
  refine ⟨by subst hA; simp only [ar, ints_len]; ((try simp only [ncast, Int.ofNat_eq_natCast] at *); omega), ?_⟩
  refine ⟨_, by subst hA; exact ik, ?_⟩
  cbv
  refine splitBoolF (fun e1 => ?_) (fun e1 => ?_)
  rotate_left
  · have h1 : vi < vk := by subst hA; simpa [ar] using e1
    cbv
    (subst hA; exact ⟨by simp [ar, bef, ← ei, ← ek, h1], by simp [ar, subHp, aget, hpO, bef, ← ei, ← ek, h1], by simp [ar, pinned, St.get, aget]⟩)
  have h1 : ¬ vi < vk := by subst hA; simpa [ar] using e1
  cbv
  refine ⟨by subst hA; simp only [ar, ints_len]; ((try simp only [ncast, Int.ofNat_eq_natCast] at *); omega), ?_⟩
  refine ⟨_, by subst hA; exact ii, ?_⟩
  cbv
  refine ⟨by subst hA; simp only [ar, ints_len]; ((try simp only [ncast, Int.ofNat_eq_natCast] at *); omega), ?_⟩
  refine ⟨_, by subst hA; exact ik, ?_⟩
  cbv
  refine splitBoolF (fun e2 => ?_) (fun e2 => ?_)
  · have h2 : ¬ vi = vk := by subst hA; simpa [ar] using e2
    cbv
    (subst hA; exact ⟨by simp [ar, bef, ← ei, ← ek, h1, h2], by simp [ar, subHp, aget, hpO, bef, ← ei, ← ek, h1, h2], by simp [ar, pinned, St.get, aget]⟩)
  · have h2 : vi = vk := by subst hA; simpa [ar] using e2
    cbv
    (subst hA; exact ⟨by simp [ar, bef, ← ei, ← ek, h2], by simp [ar, subHp, aget, hpO, bef, ← ei, ← ek, h2], by simp [ar, pinned, St.get, aget]⟩)
theorem h_put (I K P : List Int) (i : Int) (a : Nat) (hi : 0 ≤ i ∧ i < P.length) (ha : a < I.length) : FHs 102 [.op 90 3 0 0, .int .i64 i, .int .i64 a] (hpO I K P) (.tup []) (hpO (I.set a i) K (P.set i.toNat a)) := by
  obtain ⟨vi, ei, ii⟩ := ints_atI (D := P) hi.1 hi.2
  obtain ⟨va, ea, ia⟩ := ints_atN ha
  refine FHs.intro [] [0,1,2] [0] (fun A => [.op 90 3 0 0, .int .i64 i, .int .i64 a]) (fun A => [(90, ⟨114, 3, [[.os 91, .os 92, .os 93]], true⟩), (91, ⟨3, 1, A.e fun _ => ints I, false⟩), (92, ⟨3, 1, A.e fun _ => ints K, false⟩), (93, ⟨3, 1, A.e fun _ => ints P, false⟩)]) Try.func102 rfl Try.call102 (by kernel_rfl) (by simp [Try.f102]) rfl ?_
  intro A hA
  cbv
  refine ⟨by subst hA; simp only [ar, ints_len]; ((try simp only [ncast, Int.ofNat_eq_natCast] at *); omega), ?_⟩
  refine ⟨_, by subst hA; exact ia, Nat.le_refl _, ?_⟩
  cbv
  refine ⟨by subst hA; simp only [ar, ints_len]; ((try simp only [ncast, Int.ofNat_eq_natCast] at *); omega), ?_⟩
  refine ⟨_, by subst hA; exact ii, Nat.le_refl _, ?_⟩
  cbv
  (subst hA; exact ⟨by simp [ar, splice, ints, List.map_set], by simp [ar, subHp, aget, hpO, splice, ints, List.map_set], by simp [ar, pinned, St.get, aget]⟩)
end Go.Proofs.Ytogehfalhodapaa
namespace Go.Proofs.Ytogehfalhodapaa
open Go Go.Proofs.Ytogehfalhodapaa.Pv
set_option linter.unusedSimpArgs false
set_option linter.unusedVariables false
theorem CallH_bool {H : Hnd} {f : Nat} {args : List PV} {s : St} {d : Option Nat} {K : St → Prop} (hpi hp' : List (Nat × GObj)) (x : Bool) (h : H f args hpi (.bool x) hp') (h0 : subHp hpi s.hp) (h1 : freshHp hpi s.hp hp' = true)
    (h3 : ∀ m, m = x → K ((s.handed hpi hp').putO d (.bool m))) : CallH H f args s d K := .intro hpi _ hp' h h0 h1 (h3 x rfl)
theorem CallH_unit {H : Hnd} {f : Nat} {args : List PV} {s : St} {d : Option Nat} {K : St → Prop} (hpi hp' : List (Nat × GObj)) (h : H f args hpi (.tup []) hp') (h0 : subHp hpi s.hp) (h1 : freshHp hpi s.hp hp' = true)
    (h3 : K ((s.handed hpi hp').putO d (.tup []))) : CallH H f args s d K := .intro hpi _ hp' h h0 h1 h3
theorem tdivN {b : Nat} (h : 0 < b) : ((b : Int) - 1).tdiv 2 = (((b - 1) / 2 : Nat) : Int) := by
  rw [Int.tdiv_eq_ediv_of_nonneg (by omega)]; omega
theorem tdivO {b : Nat} (h : 0 < b) : (Int.ofNat b - 1).tdiv 2 = (((b - 1) / 2 : Nat) : Int) := tdivN h
def Rng (N : Nat) (I : List Int) : Prop := ∀ j : Nat, j < I.length → 0 ≤ at0 I j ∧ at0 I j < N
theorem Rng.set {N : Nat} {I : List Int} (h : Rng N I) {a : Nat} {x : Int} (hx : 0 ≤ x ∧ x < N) : Rng N (I.set a x) := by
  intro j hj
  rw [List.length_set] at hj
  by_cases ha : a < I.length
  · rw [at0_setN (by omega) ha]
    split
    · exact hx
    · exact h j hj
  · rw [List.set_eq_of_length_le (by omega)]; exact h j hj
theorem upGo_pos {K I P : List Int} {i : Int} {a : Nat} (h : 0 < a ∧ bef K i (at0 I ((a - 1) / 2 : Nat)) = true) : upGo K i I P a = upGo K i (I.set a (at0 I ((a - 1) / 2 : Nat))) (P.set (at0 I ((a - 1) / 2 : Nat)).toNat a) ((a - 1) / 2) := by
  rw [upGo, dif_pos h]
theorem upGo_neg {K I P : List Int} {i : Int} {a : Nat} (h : ¬ (0 < a ∧ bef K i (at0 I ((a - 1) / 2 : Nat)) = true)) : upGo K i I P a = (I.set a i, P.set i.toNat a) := by
  rw [upGo, dif_neg h]
theorem dnGo_pos {K I P : List Int} {i : Int} {a : Nat} (h : dnK K I a < I.length ∧ bef K (at0 I (dnK K I a)) i = true) : dnGo K i I P a = dnGo K i (I.set a (at0 I (dnK K I a))) (P.set (at0 I (dnK K I a)).toNat a) (dnK K I a) := by
  rw [dnGo, dif_pos h]
theorem dnGo_neg {K I P : List Int} {i : Int} {a : Nat} (h : ¬ (dnK K I a < I.length ∧ bef K (at0 I (dnK K I a)) i = true)) : dnGo K i I P a = (I.set a i, P.set i.toNat a) := by
  rw [dnGo, dif_neg h]
set_option maxHeartbeats 1000000 in
theorem h_up {N : Nat} (I K P : List Int) (a : Nat) (hK : K.length = N) (hP : P.length = N) (hN : N ≤ 65536) (hl : I.length ≤ N) (hI : Rng N I) (ha : a < I.length) :
    FHs 96 [.op 90 3 0 0, .int .i64 a] (hpO I K P) (.tup []) (hpO (upGo K (at0 I a) I P a).1 K (upGo K (at0 I a) I P a).2) := by
  obtain ⟨vi, ei, ii⟩ := ints_atI (D := I) (i := (a : Int)) (by omega) (by omega)
  have iiN : (ints I)[a]? = some [.int .i64 vi] := ii
  have hvi := hI a ha
  rw [← ei] at hvi
  refine FHs.intro [(100001, 0)] [0,1,4,27] [0] (fun A => [.op 90 3 0 0, .int .i64 a]) (fun A => [(90, ⟨114, 3, [[.os 91, .os 92, .os 93]], true⟩), (91, ⟨3, 1, A.e fun _ => ints I, false⟩), (92, ⟨3, 1, A.e fun _ => ints K, false⟩), (93, ⟨3, 1, A.e fun _ => ints P, false⟩)]) Try.func96 rfl Try.call96 (by kernel_rfl) (by simp [Try.f96]) rfl ?_
  intro A hA
  cbv
  refine ⟨by subst hA; simp only [ar, ints_len]; ((try simp only [ncast, Int.ofNat_eq_natCast] at *); omega), ?_⟩
  refine ⟨_, by subst hA; exact iiN, ?_⟩
  cbv
  refine LoopK.upd (List Int × List Int × Nat) (fun p => [(1, .int .i64 p.2.2), (27, .junk)]) (fun p => [(90, ⟨114, 3, [[.os 91, .os 92, .os 93]], true⟩), (91, ⟨3, 1, A.e fun _ => ints p.1, false⟩), (92, ⟨3, 1, A.e fun _ => ints K, false⟩), (93, ⟨3, 1, A.e fun _ => ints p.2.1, false⟩)])
    (fun p => upGo K vi p.1 p.2.1 p.2.2 = upGo K vi I P a ∧ p.2.2 < p.1.length ∧ p.1.length ≤ N ∧ p.2.1.length = N ∧ Rng N p.1) (fun p => p.2.2) (I, P, a) ?_ ?_ ?_
  · subst hA; simp [LeSt, leVs, leP, St.set, setVs, aget, subHp]
  · exact ⟨rfl, ha, hl, hP, hI⟩
  rintro ⟨I1, P1, b⟩ ⟨h1, h2, h3, h4, h5⟩
  have h1 : upGo K vi I1 P1 b = upGo K vi I P a := h1
  dsimp only at h2 h3 h4 h5
  cbv
  refine CutC.upd Bool (fun x => [(27, .bool x)]) (fun _ => [(90, ⟨114, 3, [[.os 91, .os 92, .os 93]], true⟩), (91, ⟨3, 1, A.e fun _ => ints I1, false⟩), (92, ⟨3, 1, A.e fun _ => ints K, false⟩), (93, ⟨3, 1, A.e fun _ => ints P1, false⟩)]) (fun x => x = decide (0 < b ∧ bef K vi (at0 I1 ((b - 1) / 2 : Nat)) = true)) ?_ ?_
  · cbv
    refine splitBoolF (fun e1 => ?_) (fun e1 => ?_)
    · have h0 : ¬ 0 < b := by
        have h : decide ((0 : Int) < Int.ofNat b) = false := by subst hA; exact e1
        have := of_decide_eq_false h
        ((try simp only [ncast, Int.ofNat_eq_natCast] at *); omega)
      cbv
      refine ⟨_, rfl, ?_⟩
      simp [LeSt, leVs, leP, St.set, setVs, aget, subHp]
      simp [h0]
    · have h0 : 0 < b := by
        have h : decide ((0 : Int) < Int.ofNat b) = true := by subst hA; exact e1
        have := of_decide_eq_true h
        ((try simp only [ncast, Int.ofNat_eq_natCast] at *); omega)
      obtain ⟨vp, ep, ip⟩ := ints_atI (D := I1) (i := (((b - 1) / 2 : Nat) : Int)) (by omega) (by omega)
      have hvp := h5 ((b - 1) / 2) (by omega)
      rw [← ep] at hvp
      have hlt : (((b - 1) / 2 : Nat) : Int) < I1.length := by omega
      have hx0 : (0 : Int) ≤ (((b - 1) / 2 : Nat) : Int) := by omega
      cbv
      refine ⟨by subst hA; simp only [ar, inI64]; ((try simp only [ncast, Int.ofNat_eq_natCast] at *); omega), by subst hA; simp only [ar, inI64]; rw [tdivO h0]; ((try simp only [ncast, Int.ofNat_eq_natCast] at *); omega), by subst hA; simp only [ar, ints_len]; rw [tdivO h0]; exact ⟨hx0, hlt⟩, ?_⟩
      refine ⟨_, by subst hA; simp only [ar]; rw [tdivO h0]; exact ip, ?_⟩
      cbv
      refine CallH_bool [(90, ⟨114, 3, [[.os 91, .os 92, .os 93]], true⟩), (91, ⟨3, 1, A.e fun _ => ints I1, false⟩), (92, ⟨3, 1, A.e fun _ => ints K, false⟩), (93, ⟨3, 1, A.e fun _ => ints P1, false⟩)] [(90, ⟨114, 3, [[.os 91, .os 92, .os 93]], true⟩), (91, ⟨3, 1, A.e fun _ => ints I1, false⟩), (92, ⟨3, 1, A.e fun _ => ints K, false⟩), (93, ⟨3, 1, A.e fun _ => ints P1, false⟩)] _ (by subst hA; exact h_before I1 K P1 vi vp (by ((try simp only [ncast, Int.ofNat_eq_natCast] at *); omega)) (by ((try simp only [ncast, Int.ofNat_eq_natCast] at *); omega))) (by simp [subHp, aget]) rfl fun m hm => ?_
      cbv
      refine ⟨_, rfl, ?_⟩
      simp [LeSt, leVs, leP, St.set, setVs, aget, subHp]
      rw [hm, ep]
      simp [h0]
  rintro x hx
  cbv
  refine splitBool (fun e1 => ?_) (fun e1 => ?_)
  · obtain ⟨vp, ep, ip⟩ := ints_atI (D := I1) (i := (((b - 1) / 2 : Nat) : Int)) (by omega) (by omega)
    have hvp := h5 ((b - 1) / 2) (by omega)
    have hlt : (((b - 1) / 2 : Nat) : Int) < I1.length := by omega
    have hx0 : (0 : Int) ≤ (((b - 1) / 2 : Nat) : Int) := by omega
    rw [e1] at hx
    have hc := of_decide_eq_true hx.symm
    rw [upGo_pos hc, ← ep] at h1
    rw [← ep] at hvp
    have h0 := hc.1
    clear hc hx
    cbv
    refine ⟨by subst hA; simp only [ar, inI64]; ((try simp only [ncast, Int.ofNat_eq_natCast] at *); omega), by subst hA; simp only [ar, inI64]; rw [tdivO h0]; ((try simp only [ncast, Int.ofNat_eq_natCast] at *); omega), by subst hA; simp only [ar, ints_len]; rw [tdivO h0]; exact ⟨hx0, hlt⟩, ?_⟩
    refine ⟨_, by subst hA; simp only [ar]; rw [tdivO h0]; exact ip, ?_⟩
    cbv
    refine CallH_unit [(90, ⟨114, 3, [[.os 91, .os 92, .os 93]], true⟩), (91, ⟨3, 1, A.e fun _ => ints I1, false⟩), (92, ⟨3, 1, A.e fun _ => ints K, false⟩), (93, ⟨3, 1, A.e fun _ => ints P1, false⟩)] [(90, ⟨114, 3, [[.os 91, .os 92, .os 93]], true⟩), (91, ⟨3, 1, A.e fun _ => ints (I1.set b vp), false⟩), (92, ⟨3, 1, A.e fun _ => ints K, false⟩), (93, ⟨3, 1, A.e fun _ => ints (P1.set vp.toNat (b : Int)), false⟩)] (by subst hA; exact h_put I1 K P1 vp b (by ((try simp only [ncast, Int.ofNat_eq_natCast] at *); omega)) h2) (by simp [subHp, aget]) rfl ?_
    cbv
    refine ⟨by subst hA; simp only [ar, inI64]; ((try simp only [ncast, Int.ofNat_eq_natCast] at *); omega), by subst hA; simp only [ar, inI64]; rw [tdivO h0]; ((try simp only [ncast, Int.ofNat_eq_natCast] at *); omega), ?_⟩
    refine ⟨(I1.set b vp, P1.set vp.toNat (b : Int), (b - 1) / 2), ⟨⟨h1, by simp; omega, by simpa using h3, by simpa using h4, h5.set hvp⟩, by dsimp only; omega⟩, ?_⟩
    subst hA
    simp [LeSt, leVs, leP, St.set, setVs, aget, subHp]
    simp only [ar]
    have := tdivN h0
    ((try simp only [ncast, Int.ofNat_eq_natCast] at *); omega)
  · rw [e1] at hx
    have hc := of_decide_eq_false hx.symm
    rw [upGo_neg hc] at h1
    cbv
    refine CallH_unit [(90, ⟨114, 3, [[.os 91, .os 92, .os 93]], true⟩), (91, ⟨3, 1, A.e fun _ => ints I1, false⟩), (92, ⟨3, 1, A.e fun _ => ints K, false⟩), (93, ⟨3, 1, A.e fun _ => ints P1, false⟩)] [(90, ⟨114, 3, [[.os 91, .os 92, .os 93]], true⟩), (91, ⟨3, 1, A.e fun _ => ints (I1.set b vi), false⟩), (92, ⟨3, 1, A.e fun _ => ints K, false⟩), (93, ⟨3, 1, A.e fun _ => ints (P1.set vi.toNat (b : Int)), false⟩)] (by subst hA; exact h_put I1 K P1 vi b (by ((try simp only [ncast, Int.ofNat_eq_natCast] at *); omega)) h2) (by simp [subHp, aget]) rfl ?_
    cbv
    rw [← ei, ← h1]
    (subst hA; exact ⟨by simp [ar], by simp [ar, subHp, aget, hpO], by simp [ar, pinned, St.get, aget]⟩)
end Go.Proofs.Ytogehfalhodapaa
namespace Go.Proofs.Ytogehfalhodapaa
open Go Go.Proofs.Ytogehfalhodapaa.Pv
set_option linter.unusedSimpArgs false
set_option linter.unusedVariables false
theorem dnK_hi {K I : List Int} {b : Nat} (h : 2 * b + 2 < I.length ∧ bef K (at0 I (2 * b + 2 : Nat)) (at0 I (2 * b + 1 : Nat)) = true) : dnK K I b = 2 * b + 2 := by unfold dnK; rw [if_pos h]
theorem dnK_lo {K I : List Int} {b : Nat} (h : ¬ (2 * b + 2 < I.length ∧ bef K (at0 I (2 * b + 2 : Nat)) (at0 I (2 * b + 1 : Nat)) = true)) : dnK K I b = 2 * b + 1 := by unfold dnK; rw [if_neg h]
set_option maxHeartbeats 2000000 in
theorem h_down {N : Nat} (I K P : List Int) (a : Nat) (hK : K.length = N) (hP : P.length = N) (hN : N ≤ 65536) (hl : I.length ≤ N) (hI : Rng N I) (ha : a < I.length) :
    FHs 97 [.op 90 3 0 0, .int .i64 a] (hpO I K P) (.tup []) (hpO (dnGo K (at0 I a) I P a).1 K (dnGo K (at0 I a) I P a).2) := by
  obtain ⟨vi, ei, ii⟩ := ints_atI (D := I) (i := (a : Int)) (by omega) (by omega)
  have iiN : (ints I)[a]? = some [.int .i64 vi] := ii
  have hvi := hI a ha
  rw [← ei] at hvi
  refine FHs.intro [(41, 41), (100002, 0), (200003, 0), (100004, 0)] [0,1,4,5,42,64] [0] (fun A => [.op 90 3 0 0, .int .i64 a]) (fun A => [(90, ⟨114, 3, [[.os 91, .os 92, .os 93]], true⟩), (91, ⟨3, 1, A.e fun _ => ints I, false⟩), (92, ⟨3, 1, A.e fun _ => ints K, false⟩), (93, ⟨3, 1, A.e fun _ => ints P, false⟩)]) Try.func97 rfl Try.call97 (by kernel_rfl) (by simp [Try.f97]) rfl ?_
  intro A hA
  cbv
  refine ⟨by subst hA; simp only [ar, ints_len]; ((try simp only [ncast, Int.ofNat_eq_natCast] at *); omega), ?_⟩
  refine ⟨_, by subst hA; exact iiN, ?_⟩
  cbv
  refine LoopK.upd (List Int × List Int × Nat) (fun p => [(1, .int .i64 p.2.2), (5, .junk), (42, .junk), (64, .junk)]) (fun p => [(90, ⟨114, 3, [[.os 91, .os 92, .os 93]], true⟩), (91, ⟨3, 1, A.e fun _ => ints p.1, false⟩), (92, ⟨3, 1, A.e fun _ => ints K, false⟩), (93, ⟨3, 1, A.e fun _ => ints p.2.1, false⟩)])
    (fun p => dnGo K vi p.1 p.2.1 p.2.2 = dnGo K vi I P a ∧ p.2.2 < p.1.length ∧ p.1.length ≤ N ∧ p.2.1.length = N ∧ Rng N p.1) (fun p => p.1.length - p.2.2) (I, P, a) ?_ ?_ ?_
  · subst hA; simp [LeSt, leVs, leP, St.set, setVs, aget, subHp]
  · exact ⟨rfl, ha, hl, hP, hI⟩
  rintro ⟨I1, P1, b⟩ ⟨h1, h2, h3, h4, h5⟩
  have h1 : dnGo K vi I1 P1 b = dnGo K vi I P a := h1
  dsimp only at h2 h3 h4 h5
  cbv
  refine ⟨by subst hA; simp only [ar, inI64]; ((try simp only [ncast, Int.ofNat_eq_natCast] at *); omega), by subst hA; simp only [ar, inI64]; ((try simp only [ncast, Int.ofNat_eq_natCast] at *); omega), ?_⟩
  refine CutC.upd Bool (fun x => [(42, .bool x)]) (fun _ => [(90, ⟨114, 3, [[.os 91, .os 92, .os 93]], true⟩), (91, ⟨3, 1, A.e fun _ => ints I1, false⟩), (92, ⟨3, 1, A.e fun _ => ints K, false⟩), (93, ⟨3, 1, A.e fun _ => ints P1, false⟩)]) (fun x => x = decide (2 * b + 2 < I1.length ∧ bef K (at0 I1 (2 * b + 2 : Nat)) (at0 I1 (2 * b + 1 : Nat)) = true)) ?_ ?_
  · cbv
    refine ⟨by subst hA; simp only [ar, inI64]; ((try simp only [ncast, Int.ofNat_eq_natCast] at *); omega), ?_⟩
    refine splitBoolF (fun e1 => ?_) (fun e1 => ?_)
    · have hlo : ¬ 2 * b + 2 < I1.length := by
        have h : decide ((2 * Int.ofNat b) + 1 + 1 < ((ints I1).length : Int)) = false := by subst hA; exact e1
        have := of_decide_eq_false h
        rw [ints_len] at this
        ((try simp only [ncast, Int.ofNat_eq_natCast] at *); omega)
      cbv
      refine ⟨_, rfl, ?_⟩
      simp [LeSt, leVs, leP, St.set, setVs, aget, subHp]
      simp [hlo]
    · have hhi : 2 * b + 2 < I1.length := by
        have h : decide ((2 * Int.ofNat b) + 1 + 1 < ((ints I1).length : Int)) = true := by subst hA; exact e1
        have := of_decide_eq_true h
        rw [ints_len] at this
        ((try simp only [ncast, Int.ofNat_eq_natCast] at *); omega)
      obtain ⟨v2, e2, i2⟩ := ints_atI (D := I1) (i := ((2 * b + 2 : Nat) : Int)) (by omega) (by omega)
      obtain ⟨v1, e1', i1⟩ := ints_atI (D := I1) (i := ((2 * b + 1 : Nat) : Int)) (by omega) (by omega)
      have hv2 := h5 (2 * b + 2) (by omega)
      have hv1 := h5 (2 * b + 1) (by omega)
      rw [← e2] at hv2
      rw [← e1'] at hv1
      cbv
      refine ⟨by subst hA; simp only [ar, inI64]; ((try simp only [ncast, Int.ofNat_eq_natCast] at *); omega), by subst hA; simp only [ar, ints_len]; ((try simp only [ncast, Int.ofNat_eq_natCast] at *); omega), ?_⟩
      refine ⟨_, by subst hA; exact i2, ?_⟩
      cbv
      refine ⟨by subst hA; simp only [ar, ints_len]; ((try simp only [ncast, Int.ofNat_eq_natCast] at *); omega), ?_⟩
      refine ⟨_, by subst hA; exact i1, ?_⟩
      cbv
      refine CallH_bool [(90, ⟨114, 3, [[.os 91, .os 92, .os 93]], true⟩), (91, ⟨3, 1, A.e fun _ => ints I1, false⟩), (92, ⟨3, 1, A.e fun _ => ints K, false⟩), (93, ⟨3, 1, A.e fun _ => ints P1, false⟩)] [(90, ⟨114, 3, [[.os 91, .os 92, .os 93]], true⟩), (91, ⟨3, 1, A.e fun _ => ints I1, false⟩), (92, ⟨3, 1, A.e fun _ => ints K, false⟩), (93, ⟨3, 1, A.e fun _ => ints P1, false⟩)] _ (by subst hA; exact h_before I1 K P1 v2 v1 (by ((try simp only [ncast, Int.ofNat_eq_natCast] at *); omega)) (by ((try simp only [ncast, Int.ofNat_eq_natCast] at *); omega))) (by simp [subHp, aget]) rfl fun m hm => ?_
      cbv
      refine ⟨_, rfl, ?_⟩
      simp [LeSt, leVs, leP, St.set, setVs, aget, subHp]
      rw [hm, e2, e1']
      simp [hhi]
  rintro x hx
  cbv
  refine CutC.upd Nat (fun k => [(5, .int .i64 k)]) (fun _ => [(90, ⟨114, 3, [[.os 91, .os 92, .os 93]], true⟩), (91, ⟨3, 1, A.e fun _ => ints I1, false⟩), (92, ⟨3, 1, A.e fun _ => ints K, false⟩), (93, ⟨3, 1, A.e fun _ => ints P1, false⟩)]) (fun k => k = dnK K I1 b) ?_ ?_
  · cbv
    refine splitBoolF (fun e2 => ?_) (fun e2 => ?_)
    · rw [e2] at hx
      have hc := dnK_lo (of_decide_eq_false hx.symm)
      clear hx
      cbv
      refine ⟨2 * b + 1, hc.symm, ?_⟩
      subst hA
      simp [LeSt, leVs, leP, St.set, setVs, aget, subHp]
      simp [ar]
    · rw [e2] at hx
      have hc := dnK_hi (of_decide_eq_true hx.symm)
      clear hx
      cbv
      refine ⟨by subst hA; simp only [ar, inI64]; ((try simp only [ncast, Int.ofNat_eq_natCast] at *); omega), ?_⟩
      refine ⟨2 * b + 2, hc.symm, ?_⟩
      subst hA
      simp [LeSt, leVs, leP, St.set, setVs, aget, subHp]
      simp only [ar]
      ((try simp only [ncast, Int.ofNat_eq_natCast] at *); omega)
  clear hx
  rintro k hk
  have hgt := dnK_gt K I1 b
  have hle : dnK K I1 b ≤ 2 * b + 2 := by unfold dnK; split <;> omega
  rw [← hk] at hgt hle
  cbv
  refine CutC.upd Bool (fun x => [(64, .bool x)]) (fun _ => [(90, ⟨114, 3, [[.os 91, .os 92, .os 93]], true⟩), (91, ⟨3, 1, A.e fun _ => ints I1, false⟩), (92, ⟨3, 1, A.e fun _ => ints K, false⟩), (93, ⟨3, 1, A.e fun _ => ints P1, false⟩)]) (fun x => x = !decide (k < I1.length ∧ bef K (at0 I1 k) vi = true)) ?_ ?_
  · cbv
    refine splitBoolF (fun e2 => ?_) (fun e2 => ?_)
    · have hkl : k < I1.length := by
        have h : decide (((ints I1).length : Int) ≤ Int.ofNat k) = false := by subst hA; exact e2
        have := of_decide_eq_false h
        rw [ints_len] at this
        ((try simp only [ncast, Int.ofNat_eq_natCast] at *); omega)
      obtain ⟨vk, ek, ik⟩ := ints_atI (D := I1) (i := (k : Int)) (by omega) (by omega)
      have hvk := h5 k hkl
      rw [← ek] at hvk
      cbv
      refine ⟨by subst hA; simp only [ar, ints_len]; ((try simp only [ncast, Int.ofNat_eq_natCast] at *); omega), ?_⟩
      refine ⟨_, by subst hA; exact ik, ?_⟩
      cbv
      refine CallH_bool [(90, ⟨114, 3, [[.os 91, .os 92, .os 93]], true⟩), (91, ⟨3, 1, A.e fun _ => ints I1, false⟩), (92, ⟨3, 1, A.e fun _ => ints K, false⟩), (93, ⟨3, 1, A.e fun _ => ints P1, false⟩)] [(90, ⟨114, 3, [[.os 91, .os 92, .os 93]], true⟩), (91, ⟨3, 1, A.e fun _ => ints I1, false⟩), (92, ⟨3, 1, A.e fun _ => ints K, false⟩), (93, ⟨3, 1, A.e fun _ => ints P1, false⟩)] _ (by subst hA; exact h_before I1 K P1 vk vi (by ((try simp only [ncast, Int.ofNat_eq_natCast] at *); omega)) (by ((try simp only [ncast, Int.ofNat_eq_natCast] at *); omega))) (by simp [subHp, aget]) rfl fun m hm => ?_
      cbv
      refine ⟨_, rfl, ?_⟩
      simp [LeSt, leVs, leP, St.set, setVs, aget, subHp]
      subst hA
      rw [hm, ek]
      simp [ar, hkl]
    · have hkl : ¬ k < I1.length := by
        have h : decide (((ints I1).length : Int) ≤ Int.ofNat k) = true := by subst hA; exact e2
        have := of_decide_eq_true h
        rw [ints_len] at this
        ((try simp only [ncast, Int.ofNat_eq_natCast] at *); omega)
      cbv
      refine ⟨_, rfl, ?_⟩
      simp [LeSt, leVs, leP, St.set, setVs, aget, subHp]
      exact .inl (by ((try simp only [ncast, Int.ofNat_eq_natCast] at *); omega))
  rintro y hy
  cbv
  refine splitBool (fun e2 => ?_) (fun e2 => ?_)
  · rw [e2] at hy
    have hc : ¬ (dnK K I1 b < I1.length ∧ bef K (at0 I1 (dnK K I1 b)) vi = true) := by
      rw [← hk]
      rintro ⟨q1, q2⟩
      rw [q2, decide_eq_true ⟨q1, rfl⟩] at hy
      cases hy
    rw [dnGo_neg hc] at h1
    clear hc hy
    cbv
    refine CallH_unit [(90, ⟨114, 3, [[.os 91, .os 92, .os 93]], true⟩), (91, ⟨3, 1, A.e fun _ => ints I1, false⟩), (92, ⟨3, 1, A.e fun _ => ints K, false⟩), (93, ⟨3, 1, A.e fun _ => ints P1, false⟩)] [(90, ⟨114, 3, [[.os 91, .os 92, .os 93]], true⟩), (91, ⟨3, 1, A.e fun _ => ints (I1.set b vi), false⟩), (92, ⟨3, 1, A.e fun _ => ints K, false⟩), (93, ⟨3, 1, A.e fun _ => ints (P1.set vi.toNat (b : Int)), false⟩)] (by subst hA; exact h_put I1 K P1 vi b (by ((try simp only [ncast, Int.ofNat_eq_natCast] at *); omega)) h2) (by simp [subHp, aget]) rfl ?_
    cbv
    rw [← ei, ← h1]
    (subst hA; exact ⟨by simp [ar], by simp [ar, subHp, aget, hpO], by simp [ar, pinned, St.get, aget]⟩)
  · rw [e2] at hy
    have hc : dnK K I1 b < I1.length ∧ bef K (at0 I1 (dnK K I1 b)) vi = true := by
      rw [← hk]
      exact of_decide_eq_true (by simpa using hy)
    have hkl := hc.1
    rw [dnGo_pos hc, ← hk] at h1
    rw [← hk] at hkl
    clear hc hy
    obtain ⟨vk, ek, ik⟩ := ints_atI (D := I1) (i := (k : Int)) (by omega) (by omega)
    have hvk := h5 k hkl
    rw [← ek] at hvk h1
    cbv
    refine ⟨by subst hA; simp only [ar, ints_len]; ((try simp only [ncast, Int.ofNat_eq_natCast] at *); omega), ?_⟩
    refine ⟨_, by subst hA; exact ik, ?_⟩
    cbv
    refine CallH_unit [(90, ⟨114, 3, [[.os 91, .os 92, .os 93]], true⟩), (91, ⟨3, 1, A.e fun _ => ints I1, false⟩), (92, ⟨3, 1, A.e fun _ => ints K, false⟩), (93, ⟨3, 1, A.e fun _ => ints P1, false⟩)] [(90, ⟨114, 3, [[.os 91, .os 92, .os 93]], true⟩), (91, ⟨3, 1, A.e fun _ => ints (I1.set b vk), false⟩), (92, ⟨3, 1, A.e fun _ => ints K, false⟩), (93, ⟨3, 1, A.e fun _ => ints (P1.set vk.toNat (b : Int)), false⟩)] (by subst hA; exact h_put I1 K P1 vk b (by ((try simp only [ncast, Int.ofNat_eq_natCast] at *); omega)) h2) (by simp [subHp, aget]) rfl ?_
    cbv
    refine ⟨(I1.set b vk, P1.set vk.toNat (b : Int), k), ⟨⟨h1, by simpa using hkl, by simpa using h3, by simpa using h4, h5.set hvk⟩, by simp; omega⟩, ?_⟩
    subst hA
    simp [LeSt, leVs, leP, St.set, setVs, aget, subHp]
end Go.Proofs.Ytogehfalhodapaa
namespace Go.Proofs.Ytogehfalhodapaa
open Go Go.Proofs.Ytogehfalhodapaa.Pv
set_option linter.unusedSimpArgs false
set_option linter.unusedVariables false
theorem Wf.rng {N : Nat} {I P : List Int} (h : Wf N I P) : Rng N I := fun j hj => (h.itm j hj).1
theorem CallH_nm2 {H : Hnd} {f : Nat} {args : List PV} {s : St} {d : Option Nat} {K : St → Prop} {ι κ : Type} (F : ι → κ → PV) (x : ι) (y : κ) (hpi hp' : List (Nat × GObj)) (h : H f args hpi (F x y) hp') (h0 : subHp hpi s.hp) (h1 : freshHp hpi s.hp hp' = true)
    (h3 : ∀ m n, m = x → n = y → K ((s.handed hpi hp').putO d (killW (fun g => !inSet hpi hp' g) (fun g => !inSet hpi hp' g) (F m n)))) : CallH H f args s d K := .intro hpi _ hp' h h0 h1 (h3 x y rfl rfl)
/-- objects told otherwise -/
theorem CallH_to {f : Nat} {args : List PV} {hp hp1 hp2 : List (Nat × GObj)} {r : PV} (h : FHs f args hp r hp1) (e : hp1 = hp2) : FHs f args hp r hp2 := e ▸ h
theorem h_up0 {N : Nat} (J K Q : List Int) (x : Int) (hK : K.length = N) (hQ : Q.length = N) (hN : N ≤ 65536) (hl : J.length ≤ N) (hJ : Rng N J) (hx : 0 ≤ x ∧ x < N) (h0 : 0 < J.length) :
    FHs 96 [.op 90 3 0 0, .int .i64 0] (hpO (J.set 0 x) K (Q.set x.toNat 0)) (.tup []) (hpO (J.set 0 x) K (Q.set x.toNat 0)) := by
  have h := h_up (N := N) (J.set 0 x) K (Q.set x.toNat 0) 0 hK (by simpa using hQ) hN (by simpa using hl) (hJ.set hx) (by simpa using h0)
  have e : at0 (J.set 0 x) ((0 : Nat) : Int) = x := by rw [at0_setN (by omega) h0, if_pos rfl]
  rw [e, upGo_neg (by omega)] at h
  rw [show ((0 : Nat) : Int) = 0 from rfl] at h
  simp only [List.set_set] at h
  exact h
theorem h_take {N : Nat} (I K P : List Int) (hK : K.length = N) (hP : P.length = N) (hN : N ≤ 65536) (hl : I.length ≤ N) (hI : Rng N I) (h0 : 0 < I.length) :
    FHs 98 [.op 90 3 0 0, .int .i64 0] (hpO I K P) (.tup []) (hpO (popH I K P).1 K (popH I K P).2) := by
  obtain ⟨vi, ei, ii⟩ := ints_atI (D := I) (i := 0) (by omega) (by omega)
  obtain ⟨vl, el, il⟩ := ints_atI (D := I) (i := ((I.length - 1 : Nat) : Int)) (by omega) (by omega)
  have hvi := hI 0 h0
  have hvl := hI (I.length - 1) (by omega)
  rw [← el] at hvl
  rw [show ((0 : Nat) : Int) = 0 from rfl, ← ei] at hvi
  have ii0 : (ints I)[0]? = some [.int .i64 vi] := ii
  have hll : ((I.length - 1 : Nat) : Int) = (I.length : Int) - 1 := by omega
  have hpo : popH I K P = if vi = vl then (I.take (I.length - 1), P.set vi.toNat (-1)) else dnGo K vl ((I.take (I.length - 1)).set 0 vl) ((P.set vi.toNat (-1)).set vl.toNat 0) 0 := by
    unfold popH
    rw [show lastI I = vl by unfold lastI; rw [el], ← ei]
  rw [hll] at il
  refine FHs.intro [(36, 91), (400000, 90)] [0,1,4,5] [0] (fun A => [.op 90 3 0 0, .int .i64 0]) (fun A => [(90, ⟨114, 3, [[.os 91, .os 92, .os 93]], true⟩), (91, ⟨3, 1, A.e fun _ => ints I, false⟩), (92, ⟨3, 1, A.e fun _ => ints K, false⟩), (93, ⟨3, 1, A.e fun _ => ints P, false⟩)]) Try.func98 rfl Try.call98 (by kernel_rfl) (by simp [Try.f98]) rfl ?_
  intro A hA
  cbv
  refine ⟨by subst hA; simp only [ar, ints_len]; ((try simp only [ncast, Int.ofNat_eq_natCast] at *); omega), ?_⟩
  refine ⟨_, by subst hA; exact ii0, ?_⟩
  cbv
  refine ⟨by subst hA; simp only [ar, inI64, ints_len]; ((try simp only [ncast, Int.ofNat_eq_natCast] at *); omega), by subst hA; simp only [ar, ints_len]; ((try simp only [ncast, Int.ofNat_eq_natCast] at *); omega), ?_⟩
  refine ⟨_, by subst hA; simp only [ar, ints_len]; exact il, ?_⟩
  cbv
  refine ⟨by subst hA; simp only [ar, inI64, ints_len]; ((try simp only [ncast, Int.ofNat_eq_natCast] at *); omega), by subst hA; simp [ar, ints_len]; ((try simp only [ncast, Int.ofNat_eq_natCast] at *); omega), ?_⟩
  obtain ⟨wi, ewi, iwi⟩ := ints_atI (D := P) hvi.1 (by ((try simp only [ncast, Int.ofNat_eq_natCast] at *); omega))
  refine ⟨by subst hA; simp only [ar, ints_len]; ((try simp only [ncast, Int.ofNat_eq_natCast] at *); omega), ?_⟩
  refine ⟨_, by subst hA; exact iwi, Nat.le_refl _, ?_⟩
  cbv
  refine splitBoolF (fun e1 => ?_) (fun e1 => ?_)
  rotate_left
  · have h1 : vi = vl := by
      have h : decide (vi = vl) = true := by subst hA; exact e1
      exact of_decide_eq_true h
    cbv
    rw [hpo, if_pos h1]
    (subst hA; exact ⟨by simp [ar, splice, ints, List.map_set, List.map_take], by simp [ar, subHp, aget, hpO, splice, ints, List.map_set, List.map_take], by simp [ar, pinned, St.get, aget]⟩)
  have h1 : ¬ vi = vl := by
    have h : decide (vi = vl) = false := by subst hA; exact e1
    exact of_decide_eq_false h
  have hn2 : 1 < I.length := by
    by_cases h2 : I.length = 1
    · exact (h1 (by rw [ei, el, h2]; rfl)).elim
    · omega
  have hJl : (I.take (I.length - 1)).length = I.length - 1 := by rw [List.length_take]; omega
  have hJ : Rng N (I.take (I.length - 1)) := fun j hj => by
    rw [hJl] at hj
    rw [at0_take (by omega) hj]
    exact hI j (by omega)
  cbv
  refine CallH_unit [(90, ⟨114, 3, [[.os 91, .os 92, .os 93]], true⟩), (91, ⟨3, 1, A.e fun _ => ints (I.take (I.length - 1)), false⟩), (92, ⟨3, 1, A.e fun _ => ints K, false⟩), (93, ⟨3, 1, A.e fun _ => ints (P.set vi.toNat (-1)), false⟩)] [(90, ⟨114, 3, [[.os 91, .os 92, .os 93]], true⟩), (91, ⟨3, 1, A.e fun _ => ints ((I.take (I.length - 1)).set 0 vl), false⟩), (92, ⟨3, 1, A.e fun _ => ints K, false⟩), (93, ⟨3, 1, A.e fun _ => ints ((P.set vi.toNat (-1)).set vl.toNat 0), false⟩)] (by subst hA; exact h_put (I.take (I.length - 1)) K (P.set vi.toNat (-1)) vl 0 (by rw [List.length_set]; ((try simp only [ncast, Int.ofNat_eq_natCast] at *); omega)) (by omega)) (by subst hA; simp [subHp, aget, ar, splice, ints, List.map_set, List.map_take]; try omega) rfl ?_
  cbv
  refine CallH_unit [(90, ⟨114, 3, [[.os 91, .os 92, .os 93]], true⟩), (91, ⟨3, 1, A.e fun _ => ints ((I.take (I.length - 1)).set 0 vl), false⟩), (92, ⟨3, 1, A.e fun _ => ints K, false⟩), (93, ⟨3, 1, A.e fun _ => ints ((P.set vi.toNat (-1)).set vl.toNat 0), false⟩)] [(90, ⟨114, 3, [[.os 91, .os 92, .os 93]], true⟩), (91, ⟨3, 1, A.e fun _ => ints ((I.take (I.length - 1)).set 0 vl), false⟩), (92, ⟨3, 1, A.e fun _ => ints K, false⟩), (93, ⟨3, 1, A.e fun _ => ints ((P.set vi.toNat (-1)).set vl.toNat 0), false⟩)] (by subst hA; exact h_up0 (I.take (I.length - 1)) K (P.set vi.toNat (-1)) vl hK (by simpa using hP) hN (by omega) hJ hvl (by omega)) (by simp [subHp, aget]) rfl ?_
  cbv
  obtain ⟨wl, ewl, iwl⟩ := ints_atI (D := (P.set vi.toNat (-1)).set vl.toNat 0) (i := vl) hvl.1 (by rw [List.length_set, List.length_set]; ((try simp only [ncast, Int.ofNat_eq_natCast] at *); omega))
  have hwl : wl = 0 := by rw [ewl, at0_set hvl.1 hvl.1 (by rw [List.length_set]; ((try simp only [ncast, Int.ofNat_eq_natCast] at *); omega)), if_pos rfl]
  rw [hwl] at iwl
  refine ⟨by subst hA; simp only [ar, ints_len, List.length_set]; ((try simp only [ncast, Int.ofNat_eq_natCast] at *); omega), ?_⟩
  refine ⟨_, by subst hA; exact iwl, ?_⟩
  cbv
  have hd := h_down (N := N) ((I.take (I.length - 1)).set 0 vl) K ((P.set vi.toNat (-1)).set vl.toNat 0) 0 hK (by simpa using hP) hN (by rw [List.length_set]; omega) (hJ.set hvl) (by rw [List.length_set]; omega)
  have e0 : at0 ((I.take (I.length - 1)).set 0 vl) ((0 : Nat) : Int) = vl := by rw [at0_setN (by omega) (by omega), if_pos rfl]
  rw [e0] at hd
  have hpe : dnGo K vl ((I.take (I.length - 1)).set 0 vl) ((P.set vi.toNat (-1)).set vl.toNat 0) 0 = popH I K P := by rw [hpo, if_neg h1]
  rw [hpe] at hd
  generalize popH I K P = R at hd hpo hpe ⊢
  refine CallH_unit [(90, ⟨114, 3, [[.os 91, .os 92, .os 93]], true⟩), (91, ⟨3, 1, A.e fun _ => ints ((I.take (I.length - 1)).set 0 vl), false⟩), (92, ⟨3, 1, A.e fun _ => ints K, false⟩), (93, ⟨3, 1, A.e fun _ => ints ((P.set vi.toNat (-1)).set vl.toNat 0), false⟩)] [(90, ⟨114, 3, [[.os 91, .os 92, .os 93]], true⟩), (91, ⟨3, 1, A.e fun _ => ints R.1, false⟩), (92, ⟨3, 1, A.e fun _ => ints K, false⟩), (93, ⟨3, 1, A.e fun _ => ints R.2, false⟩)] (by subst hA; exact hd) (by simp [subHp, aget]) rfl ?_
  cbv
  (subst hA; exact ⟨by simp [ar], by simp [ar, subHp, aget, hpO], by simp [ar, pinned, St.get, aget]⟩)
theorem h_pop {N : Nat} (I K P : List Int) (hK : K.length = N) (hP : P.length = N) (hN : N ≤ 65536) (hl : I.length ≤ N) (hI : Rng N I) (h0 : 0 < I.length) :
    FHs 89 [.op 90 3 0 0] (hpO I K P) (.tup [.int .i64 (at0 I 0), .int .i64 (at0 K (at0 I 0)), .bool true]) (hpO (popH I K P).1 K (popH I K P).2) := by
  obtain ⟨vi, ei, ii⟩ := ints_atI (D := I) (i := 0) (by omega) (by omega)
  have hvi := hI 0 h0
  rw [show ((0 : Nat) : Int) = 0 from rfl, ← ei] at hvi
  have ii0 : (ints I)[0]? = some [.int .i64 vi] := ii
  obtain ⟨vk, ek, ik⟩ := ints_atI (D := K) (i := vi) hvi.1 (by omega)
  have ht := h_take I K P hK hP hN hl hI h0
  rw [← ei, ← ek]
  generalize popH I K P = R at ht ⊢
  refine FHs.intro [] [0,1,2,3,4] [0] (fun A => [.op 90 3 0 0]) (fun A => [(90, ⟨114, 3, [[.os 91, .os 92, .os 93]], true⟩), (91, ⟨3, 1, A.e fun _ => ints I, false⟩), (92, ⟨3, 1, A.e fun _ => ints K, false⟩), (93, ⟨3, 1, A.e fun _ => ints P, false⟩)]) Try.func89 rfl Try.call89 (by kernel_rfl) (by simp [Try.f89]) rfl ?_
  intro A hA
  cbv
  refine splitBoolF (fun e1 => ?_) (fun e1 => ?_)
  rotate_left
  · exfalso
    have h : decide (((ints I).length : Int) = 0) = true := by subst hA; exact e1
    have := of_decide_eq_true h
    rw [ints_len] at this
    omega
  cbv
  refine ⟨by subst hA; simp only [ar, ints_len]; ((try simp only [ncast, Int.ofNat_eq_natCast] at *); omega), ?_⟩
  refine ⟨_, by subst hA; exact ii0, ?_⟩
  cbv
  refine CallH_unit [(90, ⟨114, 3, [[.os 91, .os 92, .os 93]], true⟩), (91, ⟨3, 1, A.e fun _ => ints I, false⟩), (92, ⟨3, 1, A.e fun _ => ints K, false⟩), (93, ⟨3, 1, A.e fun _ => ints P, false⟩)] [(90, ⟨114, 3, [[.os 91, .os 92, .os 93]], true⟩), (91, ⟨3, 1, A.e fun _ => ints R.1, false⟩), (92, ⟨3, 1, A.e fun _ => ints K, false⟩), (93, ⟨3, 1, A.e fun _ => ints R.2, false⟩)] (by subst hA; exact ht) (by simp [subHp, aget]) rfl ?_
  cbv
  refine ⟨by subst hA; simp only [ar, ints_len]; ((try simp only [ncast, Int.ofNat_eq_natCast] at *); omega), ?_⟩
  refine ⟨_, by subst hA; exact ik, ?_⟩
  cbv
  (subst hA; exact ⟨by simp [ar], by simp [ar, subHp, aget, hpO], by simp [ar, pinned, St.get, aget]⟩)
theorem h_pop0 (K P : List Int) : FHs 89 [.op 90 3 0 0] (hpO [] K P) (.tup [.int .i64 0, .int .i64 0, .bool false]) (hpO [] K P) := by
  refine FHs.intro [] [0,1,2,3,4] [0] (fun A => [.op 90 3 0 0]) (fun A => [(90, ⟨114, 3, [[.os 91, .os 92, .os 93]], true⟩), (91, ⟨3, 1, A.e fun _ => ints [], false⟩), (92, ⟨3, 1, A.e fun _ => ints K, false⟩), (93, ⟨3, 1, A.e fun _ => ints P, false⟩)]) Try.func89 rfl Try.call89 (by kernel_rfl) (by simp [Try.f89]) rfl ?_
  intro A hA
  cbv
  refine splitTrue (by subst hA; simp [ar, ints]) ?_
  cbv
  (subst hA; exact ⟨by simp [ar], by simp [ar, subHp, aget, hpO], by simp [ar, pinned, St.get, aget]⟩)
end Go.Proofs.Ytogehfalhodapaa
namespace Go.Proofs.Ytogehfalhodapaa
open Go Go.Proofs.Ytogehfalhodapaa.Pv
set_option linter.unusedSimpArgs false
set_option linter.unusedVariables false
theorem h_key (I K P : List Int) (i : Int) (hi : 0 ≤ i ∧ i < P.length) (hK : K.length = P.length) :
    FHs 90 [.op 90 3 0 0, .int .i64 i] (hpO I K P) (.tup [.int .i64 (if 0 ≤ at0 P i then at0 K i else 0), .bool (decide (0 ≤ at0 P i))]) (hpO I K P) := by
  obtain ⟨vp, ep, ip⟩ := ints_atI (D := P) (i := i) hi.1 hi.2
  obtain ⟨vk, ek, ik⟩ := ints_atI (D := K) (i := i) hi.1 (by omega)
  rw [← ep, ← ek]
  refine FHs.intro [] [0,1,4,5] [0] (fun A => [.op 90 3 0 0, .int .i64 i]) (fun A => [(90, ⟨114, 3, [[.os 91, .os 92, .os 93]], true⟩), (91, ⟨3, 1, A.e fun _ => ints I, false⟩), (92, ⟨3, 1, A.e fun _ => ints K, false⟩), (93, ⟨3, 1, A.e fun _ => ints P, false⟩)]) Try.func90 rfl Try.call90 (by kernel_rfl) (by simp [Try.f90]) rfl ?_
  intro A hA
  cbv
  refine CallH_bool [(90, ⟨114, 3, [[.os 91, .os 92, .os 93]], true⟩), (91, ⟨3, 1, A.e fun _ => ints I, false⟩), (92, ⟨3, 1, A.e fun _ => ints K, false⟩), (93, ⟨3, 1, A.e fun _ => ints P, false⟩)] [(90, ⟨114, 3, [[.os 91, .os 92, .os 93]], true⟩), (91, ⟨3, 1, A.e fun _ => ints I, false⟩), (92, ⟨3, 1, A.e fun _ => ints K, false⟩), (93, ⟨3, 1, A.e fun _ => ints P, false⟩)] _ (by subst hA; exact h_has I K P i) (by simp [subHp, aget]) rfl fun m hm => ?_
  have hm1 : m = true := by rw [hm]; simp; exact hi
  subst hm1
  clear hm
  cbv
  refine splitFalse (by subst hA; rfl) ?_
  cbv
  refine ⟨by subst hA; simp only [ar, ints_len]; ((try simp only [ncast, Int.ofNat_eq_natCast] at *); omega), ?_⟩
  refine ⟨_, by subst hA; exact ip, ?_⟩
  cbv
  refine splitBoolF (fun e1 => ?_) (fun e1 => ?_)
  · have h1 : 0 ≤ vp := by
      have h : decide (vp < 0) = false := by subst hA; exact e1
      have := of_decide_eq_false h
      omega
    cbv
    refine ⟨by subst hA; simp only [ar, ints_len]; ((try simp only [ncast, Int.ofNat_eq_natCast] at *); omega), ?_⟩
    refine ⟨_, by subst hA; exact ik, ?_⟩
    cbv
    (subst hA; exact ⟨by simp [ar, h1], by simp [ar, subHp, aget, hpO, h1], by simp [ar, pinned, St.get, aget]⟩)
  · have h1 : ¬ 0 ≤ vp := by
      have h : decide (vp < 0) = true := by subst hA; exact e1
      have := of_decide_eq_true h
      omega
    cbv
    (subst hA; exact ⟨by simp [ar, h1], by simp [ar, subHp, aget, hpO, h1], by simp [ar, pinned, St.get, aget]⟩)
theorem h_set {N : Nat} (I K P : List Int) (i key : Int) (h : HOk N I K P) (hN : N ≤ 65536) (hi : 0 ≤ i) (hiN : i < N) (hk : at0 P i < 0 ∨ key ≤ at0 K i) :
    FHs 88 [.op 90 3 0 0, .int .i64 i, .int .i64 key] (hpO I K P) (.int .i64 0) (hpO (setH I K P i key).1 (K.set i.toNat key) (setH I K P i key).2) := by
  obtain ⟨vp, ep, ip⟩ := ints_atI (D := P) (i := i) hi (by have := h.wf.lenP; omega)
  obtain ⟨vk, ek, ik⟩ := ints_atI (D := K) (i := i) hi (by have := h.lenK; omega)
  obtain ⟨hset, hwU, hheld, hatU, hlenU⟩ := set_law h hi hiN hk
  obtain ⟨hwA, ⟨ha0, ha1, ha2⟩, _⟩ := add_wf h hi hiN
  have hlK := h.lenK
  have hlP := h.wf.lenP
  have hlI := h.wf.len
  have hlA := hwA.len
  have hlU := hwU.len
  have hu := h_up (N := N) (addI I P i) (K.set i.toNat key) (addP I P i) (at0 (addP I P i) i).toNat (by simpa using hlK) hwA.lenP hN hlA hwA.rng (by omega)
  rw [show (((at0 (addP I P i) i).toNat : Nat) : Int) = at0 (addP I P i) i by omega, ha2] at hu
  rw [show upGo (K.set i.toNat key) i (addI I P i) (addP I P i) (at0 (addP I P i) i).toNat = setUp I K P i key from rfl] at hu
  have hu0 : 0 ≤ at0 (setUp I K P i key).2 i := hheld
  have hu1 : at0 (setUp I K P i key).2 i < (setUp I K P i key).1.length := by
    rcases hwU.plc i hi hiN with e | ⟨j, hj, e1, e2⟩
    · omega
    · omega
  have hd := h_down (N := N) (setUp I K P i key).1 (K.set i.toNat key) (setUp I K P i key).2 (at0 (setUp I K P i key).2 i).toNat (by simpa using hlK) hwU.lenP hN hlU hwU.rng (by omega)
  rw [show (((at0 (setUp I K P i key).2 i).toNat : Nat) : Int) = at0 (setUp I K P i key).2 i by omega, hatU] at hd
  rw [show dnGo (K.set i.toNat key) i (setUp I K P i key).1 (setUp I K P i key).2 (at0 (setUp I K P i key).2 i).toNat = setH I K P i key from rfl] at hd
  have hwUP := hwU.lenP
  obtain ⟨vu, eu, iu⟩ := ints_atI (D := (setUp I K P i key).2) (i := i) hi (by omega)
  obtain ⟨va, ea, ia⟩ := ints_atI (D := addP I P i) (i := i) hi (by have := hwA.lenP; omega)
  rw [← eu] at hd
  rw [← ea] at hu
  have hva : ((va.toNat : Nat) : Int) = va := by omega
  have hvu : ((vu.toNat : Nat) : Int) = vu := by omega
  have hva2 : 0 ≤ i ∧ i < (addP I P i).length := ⟨hi, by have := hwA.lenP; omega⟩
  have hvu2 : 0 ≤ i ∧ i < (setUp I K P i key).2.length := ⟨hi, by omega⟩
  generalize setH I K P i key = RH at hd ⊢
  generalize setUp I K P i key = RU at hd hu iu hwUP hvu2
  have hwAP := hwA.lenP
  have hadd : addI I P i = (if vp < 0 then I ++ [i] else I) ∧ addP I P i = (if vp < 0 then P.set i.toNat (I.length : Int) else P) := by
    unfold addI addP; rw [← ep]; exact ⟨rfl, rfl⟩
  refine FHs.intro [(37, 91), (200007, 0)] [0,1,2,6] [0] (fun A => [.op 90 3 0 0, .int .i64 i, .int .i64 key]) (fun A => [(90, ⟨114, 3, [[.os 91, .os 92, .os 93]], true⟩), (91, ⟨3, 1, A.e fun _ => ints I, false⟩), (92, ⟨3, 1, A.e fun _ => ints K, false⟩), (93, ⟨3, 1, A.e fun _ => ints P, false⟩)]) Try.func88 rfl Try.call88 (by kernel_rfl) (by simp [Try.f88]) rfl ?_
  intro A hA
  cbv
  refine CallH_bool [(90, ⟨114, 3, [[.os 91, .os 92, .os 93]], true⟩), (91, ⟨3, 1, A.e fun _ => ints I, false⟩), (92, ⟨3, 1, A.e fun _ => ints K, false⟩), (93, ⟨3, 1, A.e fun _ => ints P, false⟩)] [(90, ⟨114, 3, [[.os 91, .os 92, .os 93]], true⟩), (91, ⟨3, 1, A.e fun _ => ints I, false⟩), (92, ⟨3, 1, A.e fun _ => ints K, false⟩), (93, ⟨3, 1, A.e fun _ => ints P, false⟩)] _ (by subst hA; exact h_has I K P i) (by simp [subHp, aget]) rfl fun m hm => ?_
  have hm1 : m = true := by rw [hm]; simp only [Bool.and_eq_true, decide_eq_true_eq]; exact ⟨hi, by ((try simp only [ncast, Int.ofNat_eq_natCast] at *); omega)⟩
  subst hm1
  clear hm
  cbv
  refine splitFalse (by subst hA; rfl) ?_
  cbv
  refine ⟨by subst hA; simp only [ar, ints_len]; ((try simp only [ncast, Int.ofNat_eq_natCast] at *); omega), ?_⟩
  refine ⟨_, by subst hA; exact ik, Nat.le_refl _, ?_⟩
  cbv
  refine ⟨by subst hA; simp only [ar, ints_len]; ((try simp only [ncast, Int.ofNat_eq_natCast] at *); omega), ?_⟩
  refine ⟨_, by subst hA; exact ip, ?_⟩
  cbv
  refine CutC.upd Unit (fun _ => []) (fun _ => [(90, ⟨114, 3, [[.os 91, .os 92, .os 93]], true⟩), (91, ⟨3, 1, A.e fun _ => ints (addI I P i), false⟩), (92, ⟨3, 1, A.e fun _ => ints (K.set i.toNat key), false⟩), (93, ⟨3, 1, A.e fun _ => ints (addP I P i), false⟩)]) (fun _ => True) ?_ ?_
  · cbv
    refine splitBoolF (fun e1 => ?_) (fun e1 => ?_)
    · have h1 : ¬ vp < 0 := by
        have h : decide (vp < 0) = false := by subst hA; exact e1
        exact of_decide_eq_false h
      cbv
      refine ⟨(), trivial, ?_⟩
      rw [hadd.1, hadd.2, if_neg h1, if_neg h1]
      subst hA
      simp [LeSt, leVs, leP, St.set, setVs, aget, subHp]
      simp [ar, splice, ints, List.map_set]
    · have h1 : vp < 0 := by
        have h : decide (vp < 0) = true := by subst hA; exact e1
        exact of_decide_eq_true h
      cbv
      refine ⟨⟨by subst hA; simp only [ar, ints_len, List.length_cons, List.length_nil]; ((try simp only [ncast, Int.ofNat_eq_natCast] at *); omega), trivial⟩, by subst hA; simp only [ar, inI64, ints_len, List.length_append, List.length_cons, List.length_nil]; ((try simp only [ncast, Int.ofNat_eq_natCast] at *); omega), by subst hA; simp only [ar, ints_len]; ((try simp only [ncast, Int.ofNat_eq_natCast] at *); omega), ?_⟩
      refine ⟨_, by subst hA; exact ip, Nat.le_refl _, ?_⟩
      cbv
      refine ⟨(), trivial, ?_⟩
      rw [hadd.1, hadd.2, if_pos h1, if_pos h1]
      subst hA
      simp [LeSt, leVs, leP, St.set, setVs, aget, subHp]
      simp [ar, splice, ints, List.map_set]
  rintro _ _
  generalize addI I P i = I1 at hu hadd ⊢
  generalize addP I P i = P1 at hu hadd ia hva2 hwAP ⊢
  cbv
  refine ⟨by subst hA; simp only [ar, ints_len]; exact hva2, ?_⟩
  refine ⟨_, by subst hA; exact ia, ?_⟩
  cbv
  refine CallH_unit [(90, ⟨114, 3, [[.os 91, .os 92, .os 93]], true⟩), (91, ⟨3, 1, A.e fun _ => ints I1, false⟩), (92, ⟨3, 1, A.e fun _ => ints (K.set i.toNat key), false⟩), (93, ⟨3, 1, A.e fun _ => ints P1, false⟩)] [(90, ⟨114, 3, [[.os 91, .os 92, .os 93]], true⟩), (91, ⟨3, 1, A.e fun _ => ints RU.1, false⟩), (92, ⟨3, 1, A.e fun _ => ints (K.set i.toNat key), false⟩), (93, ⟨3, 1, A.e fun _ => ints RU.2, false⟩)] (by subst hA; exact hu) (by subst hA; simp [subHp, aget]) rfl ?_
  cbv
  refine ⟨by subst hA; simp only [ar, ints_len]; exact hvu2, ?_⟩
  refine ⟨_, by subst hA; exact iu, ?_⟩
  cbv
  refine CallH_unit [(90, ⟨114, 3, [[.os 91, .os 92, .os 93]], true⟩), (91, ⟨3, 1, A.e fun _ => ints RU.1, false⟩), (92, ⟨3, 1, A.e fun _ => ints (K.set i.toNat key), false⟩), (93, ⟨3, 1, A.e fun _ => ints RU.2, false⟩)] [(90, ⟨114, 3, [[.os 91, .os 92, .os 93]], true⟩), (91, ⟨3, 1, A.e fun _ => ints RH.1, false⟩), (92, ⟨3, 1, A.e fun _ => ints (K.set i.toNat key), false⟩), (93, ⟨3, 1, A.e fun _ => ints RH.2, false⟩)] (by subst hA; exact hd) (by subst hA; simp [subHp, aget]) rfl ?_
  cbv
  (subst hA; exact ⟨by simp [ar], by simp [ar, subHp, aget, hpO], by simp [ar, pinned, St.get, aget]⟩)
end Go.Proofs.Ytogehfalhodapaa
