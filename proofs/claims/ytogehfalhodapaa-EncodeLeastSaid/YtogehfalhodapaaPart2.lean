/-
  Contracts of functions that the law reaches, and plain lemmas about what they compute. Conditions stand with each.
-/
import Derived.Test.YtogehfalhodapaaPart1
import Derived.RangeFuncBox
import Derived.Shelf.Abstract
import Derived.OwnWalkIn
import Derived.TacticsInMore
import Derived.LoopNIn
import Derived.LoopIn
import Derived.Test.YtogehfalhodapaaPv3
import Derived.Test.YtogehfalhodapaaRows
namespace Go.Proofs.Ytogehfalhodapaa
open Go Go.Proofs.Ytogehfalhodapaa.Pv
set_option linter.unusedSimpArgs false
set_option linter.unusedVariables false
/-- a new heap: its items are a nil slice -/
def hp0 (K P : List Int) : List (Nat × GObj) :=
  [(90, ⟨114, 3, [[.nilsl, .os 92, .os 93]], true⟩), (92, ⟨3, 1, ints K, false⟩), (93, ⟨3, 1, ints P, false⟩)]
theorem h_has0 (K P : List Int) (i : Int) : FHs 95 [.op 90 3 0 0, .int .i64 i] (hp0 K P) (.bool (decide (0 ≤ i) && decide (i < P.length))) (hp0 K P) := by
  refine FHs.intro [] [0,1,4] [0] (fun A => [.op 90 3 0 0, .int .i64 i]) (fun A => [(90, ⟨114, 3, [[.nilsl, .os 92, .os 93]], true⟩), (92, ⟨3, 1, A.e fun _ => ints K, false⟩), (93, ⟨3, 1, A.e fun _ => ints P, false⟩)]) Try.func95 rfl Try.call95 (by kernel_rfl) (by simp [Try.f95]) rfl ?_
  intro A hA
  cbv
  refine splitBoolF (fun e1 => ?_) (fun e1 => ?_)
  · have h1 : ¬ 0 ≤ i := by subst hA; simpa [ar] using e1
    cbv
    (subst hA; exact ⟨by simp [ar, h1, hp0], by simp [ar, subHp, aget, hpO, h1, hp0], by simp [ar, pinned, St.get, aget]⟩)
  · have h1 : 0 ≤ i := by subst hA; simpa [ar] using e1
    cbv
    (subst hA; exact ⟨by simp [ar, h1, ints_len, hp0], by simp [ar, subHp, aget, hpO, h1, ints_len, hp0], by simp [ar, pinned, St.get, aget]⟩)
theorem h_new (n : Int) (hn : 0 ≤ n ∧ n ≤ 65536) : FHs 87 [.int .i64 n] [] (.tup [.op 90 3 0 0, .int .i64 0]) (hp0 (List.replicate n.toNat 0) (List.replicate n.toNat (-1))) := by
  refine FHs.intro [(13, 92), (15, 93), (17, 90)] [0,2,3,4,5,22,23] [] (fun A => [.int .i64 n]) (fun A => []) Try.func87 rfl Try.call87 (by kernel_rfl) (by simp [Try.f87]) rfl ?_
  intro A hA
  cbv
  refine splitFalse (by subst hA; simp only [ar, decide_eq_false_iff_not]; omega) ?_
  cbv
  refine splitFalse (by subst hA; simp only [ar, decide_eq_false_iff_not]; omega) ?_
  cbv
  refine ⟨(by subst hA; simp only [ar]; exact ⟨by ((try simp only [ncast, Int.ofNat_eq_natCast] at *); omega), by trivial, by show (8 : Int) * (n) ≤ 281474976710656; ((try simp only [ncast, Int.ofNat_eq_natCast] at *); omega), by ((try simp only [ncast, Int.ofNat_eq_natCast] at *); omega)⟩), (by subst hA; simp only [ar]; exact ⟨by ((try simp only [ncast, Int.ofNat_eq_natCast] at *); omega), by trivial, by show (8 : Int) * (n) ≤ 281474976710656; ((try simp only [ncast, Int.ofNat_eq_natCast] at *); omega), by ((try simp only [ncast, Int.ofNat_eq_natCast] at *); omega)⟩), ?_⟩
  refine LoopK.upd Nat (fun k => [(5, .junk), (23, .int .i64 k)]) (fun k => [(90, ⟨114, 3, [[.nilsl, .os 92, .os 93]], true⟩), (92, ⟨3, 1, A.e fun _ => ints (List.replicate n.toNat 0), false⟩), (93, ⟨3, 1, A.e fun _ => ints (List.replicate k (-1) ++ List.replicate (n.toNat - k) 0), false⟩)]) (fun k => k ≤ n.toNat) (fun k => n.toNat - k) 0 ?_ ?_ ?_
  · subst hA
    simp [LeSt, leVs, leP, St.set, setVs, aget, subHp]
    simp [ar, ints]
  · exact Nat.zero_le _
  rintro k hk
  cbv
  refine splitBool (fun e3 => ?_) (fun e3 => ?_)
  · have hlt : k < n.toNat := by
      have h : decide (Int.ofNat k < ((List.replicate n.toNat [PV.int .i64 0]).length : Int)) = true := by subst hA; exact e3
      have := of_decide_eq_true h
      rw [List.length_replicate] at this
      ((try simp only [ncast, Int.ofNat_eq_natCast] at *); omega)
    obtain ⟨y, hy, hy'⟩ := ints_atN (xs := List.replicate k (-1) ++ List.replicate (n.toNat - k) 0) (k := k) (by simp; omega)
    cbv
    refine ⟨by subst hA; simp only [ar, ints_len, List.length_append, List.length_replicate]; ((try simp only [ncast, Int.ofNat_eq_natCast] at *); omega), ?_⟩
    refine ⟨_, by subst hA; exact hy', Nat.le_refl _, ?_⟩
    cbv
    refine ⟨by subst hA; simp only [ar, inI64]; ((try simp only [ncast, Int.ofNat_eq_natCast] at *); omega), ?_⟩
    refine ⟨k + 1, ⟨hlt, by omega⟩, ?_⟩
    subst hA
    simp [LeSt, leVs, leP, St.set, setVs, aget, subHp]
    simp only [ar, splice]
    rw [← fill_set hlt]
    simp [ints, List.map_set]
  · have hge : k = n.toNat := by
      have h : decide (Int.ofNat k < ((List.replicate n.toNat [PV.int .i64 0]).length : Int)) = false := by subst hA; exact e3
      have := of_decide_eq_false h
      rw [List.length_replicate] at this
      ((try simp only [ncast, Int.ofNat_eq_natCast] at *); omega)
    cbv
    subst hge
    (subst hA; exact ⟨by simp [ar, hp0, ints], by simp [ar, subHp, aget, hpO, hp0, ints], by simp [ar, pinned, St.get, aget]⟩)
theorem h_set0 {N : Nat} (K P : List Int) (i key : Int) (h : HOk N [] K P) (hN : N ≤ 65536) (hi : 0 ≤ i) (hiN : i < N) :
    FHs 88 [.op 90 3 0 0, .int .i64 i, .int .i64 key] (hp0 K P) (.int .i64 0) (hpO (setH [] K P i key).1 (K.set i.toNat key) (setH [] K P i key).2) := by
  have hneg : at0 P i < 0 := by
    rcases h.wf.plc i hi hiN with e | ⟨j, hj, _⟩
    · omega
    · simp at hj
  have hk : at0 P i < 0 ∨ key ≤ at0 K i := .inl hneg
  obtain ⟨vp, ep, ip⟩ := ints_atI (D := P) (i := i) hi (by have := h.wf.lenP; omega)
  obtain ⟨vk, ek, ik⟩ := ints_atI (D := K) (i := i) hi (by have := h.lenK; omega)
  obtain ⟨hset, hwU, hheld, hatU, hlenU⟩ := set_law h hi hiN hk
  obtain ⟨hwA, ⟨ha0, ha1, ha2⟩, _⟩ := add_wf h hi hiN
  have hlK := h.lenK
  have hlP := h.wf.lenP
  have hlI := h.wf.len
  have hlA := hwA.len
  have hlU := hwU.len
  have hu := h_up (N := N) (addI [] P i) (K.set i.toNat key) (addP [] P i) (at0 (addP [] P i) i).toNat (by simpa using hlK) hwA.lenP hN hlA hwA.rng (by omega)
  rw [show (((at0 (addP [] P i) i).toNat : Nat) : Int) = at0 (addP [] P i) i by omega, ha2] at hu
  rw [show upGo (K.set i.toNat key) i (addI [] P i) (addP [] P i) (at0 (addP [] P i) i).toNat = setUp [] K P i key from rfl] at hu
  have hu0 : 0 ≤ at0 (setUp [] K P i key).2 i := hheld
  have hu1 : at0 (setUp [] K P i key).2 i < (setUp [] K P i key).1.length := by
    rcases hwU.plc i hi hiN with e | ⟨j, hj, e1, e2⟩
    · omega
    · omega
  have hd := h_down (N := N) (setUp [] K P i key).1 (K.set i.toNat key) (setUp [] K P i key).2 (at0 (setUp [] K P i key).2 i).toNat (by simpa using hlK) hwU.lenP hN hlU hwU.rng (by omega)
  rw [show (((at0 (setUp [] K P i key).2 i).toNat : Nat) : Int) = at0 (setUp [] K P i key).2 i by omega, hatU] at hd
  rw [show dnGo (K.set i.toNat key) i (setUp [] K P i key).1 (setUp [] K P i key).2 (at0 (setUp [] K P i key).2 i).toNat = setH [] K P i key from rfl] at hd
  have hwUP := hwU.lenP
  obtain ⟨vu, eu, iu⟩ := ints_atI (D := (setUp [] K P i key).2) (i := i) hi (by omega)
  obtain ⟨va, ea, ia⟩ := ints_atI (D := addP [] P i) (i := i) hi (by have := hwA.lenP; omega)
  rw [← eu] at hd
  rw [← ea] at hu
  have hva : ((va.toNat : Nat) : Int) = va := by omega
  have hvu : ((vu.toNat : Nat) : Int) = vu := by omega
  have hva2 : 0 ≤ i ∧ i < (addP [] P i).length := ⟨hi, by have := hwA.lenP; omega⟩
  have hvu2 : 0 ≤ i ∧ i < (setUp [] K P i key).2.length := ⟨hi, by omega⟩
  generalize setH [] K P i key = RH at hd ⊢
  generalize setUp [] K P i key = RU at hd hu iu hwUP hvu2
  have hwAP := hwA.lenP
  have hadd : addI [] P i = (if vp < 0 then [i] else []) ∧ addP [] P i = (if vp < 0 then P.set i.toNat 0 else P) := by
    unfold addI addP; rw [← ep]; exact ⟨rfl, rfl⟩
  refine FHs.intro [(37, 91), (200007, 0)] [0,1,2,6] [0] (fun A => [.op 90 3 0 0, .int .i64 i, .int .i64 key]) (fun A => [(90, ⟨114, 3, [[.nilsl, .os 92, .os 93]], true⟩), (92, ⟨3, 1, A.e fun _ => ints K, false⟩), (93, ⟨3, 1, A.e fun _ => ints P, false⟩)]) Try.func88 rfl Try.call88 (by kernel_rfl) (by simp [Try.f88]) rfl ?_
  intro A hA
  cbv
  refine CallH_bool [(90, ⟨114, 3, [[.nilsl, .os 92, .os 93]], true⟩), (92, ⟨3, 1, A.e fun _ => ints K, false⟩), (93, ⟨3, 1, A.e fun _ => ints P, false⟩)] [(90, ⟨114, 3, [[.nilsl, .os 92, .os 93]], true⟩), (92, ⟨3, 1, A.e fun _ => ints K, false⟩), (93, ⟨3, 1, A.e fun _ => ints P, false⟩)] _ (by subst hA; exact h_has0 K P i) (by simp [subHp, aget]) rfl fun m hm => ?_
  have hm1 : m = true := by rw [hm]; simp only [Bool.and_eq_true, decide_eq_true_eq]; exact ⟨hi, by ((try simp only [ncast, Int.ofNat_eq_natCast] at *); omega)⟩
  subst hm1
  clear hm
  cbv
  refine splitFalse (by subst hA; rfl) ?_
  cbv
  refine ⟨by subst hA; simp only [ar, ints_len]; ((try simp only [ncast, Int.ofNat_eq_natCast] at *); omega), ?_⟩
  refine ⟨_, by subst hA; exact ik, Nat.le_refl _, ?_⟩
  cbv
  refine ⟨by subst hA; simp only [ar, ints_len]; ((try simp only [ncast, Int.ofNat_eq_natCast] at *); omega), ?_⟩
  refine ⟨_, by subst hA; exact ip, ?_⟩
  cbv
  refine CutC.upd Unit (fun _ => []) (fun _ => [(90, ⟨114, 3, [[.os 91, .os 92, .os 93]], true⟩), (91, ⟨3, 1, A.e fun _ => ints (addI [] P i), false⟩), (92, ⟨3, 1, A.e fun _ => ints (K.set i.toNat key), false⟩), (93, ⟨3, 1, A.e fun _ => ints (addP [] P i), false⟩)]) (fun _ => True) ?_ ?_
  · cbv
    have h1 : vp < 0 := by rw [ep]; exact hneg
    refine splitTrue (by subst hA; exact decide_eq_true h1) ?_
    cbv
    refine ⟨by subst hA; simp only [ar, List.length_cons, List.length_nil]; omega, by subst hA; show inI64 ((1 : Int) - 1); unfold inI64; omega, by subst hA; simp only [ar, ints_len]; ((try simp only [ncast, Int.ofNat_eq_natCast] at *); omega), ?_⟩
    refine ⟨_, by subst hA; exact ip, Nat.le_refl _, ?_⟩
    cbv
    refine ⟨(), trivial, ?_⟩
    rw [hadd.1, hadd.2, if_pos h1, if_pos h1]
    subst hA
    simp [LeSt, leVs, leP, St.set, setVs, aget, subHp]
    simp [ar, splice, ints, List.map_set]
  rintro _ _
  generalize addI [] P i = I1 at hu hadd ⊢
  generalize addP [] P i = P1 at hu hadd ia hva2 hwAP ⊢
  cbv
  refine ⟨by subst hA; simp only [ar, ints_len]; exact hva2, ?_⟩
  refine ⟨_, by subst hA; exact ia, ?_⟩
  cbv
  refine CallH_unit [(90, ⟨114, 3, [[.os 91, .os 92, .os 93]], true⟩), (91, ⟨3, 1, A.e fun _ => ints I1, false⟩), (92, ⟨3, 1, A.e fun _ => ints (K.set i.toNat key), false⟩), (93, ⟨3, 1, A.e fun _ => ints P1, false⟩)] [(90, ⟨114, 3, [[.os 91, .os 92, .os 93]], true⟩), (91, ⟨3, 1, A.e fun _ => ints RU.1, false⟩), (92, ⟨3, 1, A.e fun _ => ints (K.set i.toNat key), false⟩), (93, ⟨3, 1, A.e fun _ => ints RU.2, false⟩)] (by subst hA; exact hu) (by subst hA; simp [subHp, aget]) rfl ?_
  cbv
  refine ⟨by subst hA; simp only [ar, ints_len]; exact hvu2, ?_⟩
  refine ⟨_, by subst hA; exact iu, ?_⟩
  cbv
  refine CallH_unit [(90, ⟨114, 3, [[.os 91, .os 92, .os 93]], true⟩), (91, ⟨3, 1, A.e fun _ => ints RU.1, false⟩), (92, ⟨3, 1, A.e fun _ => ints (K.set i.toNat key), false⟩), (93, ⟨3, 1, A.e fun _ => ints RU.2, false⟩)] [(90, ⟨114, 3, [[.os 91, .os 92, .os 93]], true⟩), (91, ⟨3, 1, A.e fun _ => ints RH.1, false⟩), (92, ⟨3, 1, A.e fun _ => ints (K.set i.toNat key), false⟩), (93, ⟨3, 1, A.e fun _ => ints RH.2, false⟩)] (by subst hA; exact hd) (by subst hA; simp [subHp, aget]) rfl ?_
  cbv
  (subst hA; exact ⟨by simp [ar], by simp [ar, subHp, aget, hpO], by simp [ar, pinned, St.get, aget]⟩)
end Go.Proofs.Ytogehfalhodapaa
namespace Go.Proofs.Ytogehfalhodapaa
open Go Go.Proofs.Ytogehfalhodapaa.Pv
set_option linter.unusedSimpArgs false
set_option linter.unusedVariables false
theorem c_fits11 (t : Topo) (down : List Bool) : FCs 86 [t.pv, .sl 1 (bools down)] (.bool (fitsOf t down)) := by
  refine FCs.intro [] [0,1,2,4] (fun A => [t.pvA A, .sl 1 (A.e fun _ => bools down)]) Try.func86 rfl Try.call86 (by kernel_rfl) (by simp [Try.f86]) ?_
  intro A hA
  cbv
  refine CallV.bool _ (by subst hA; exact c_Valid t) (by subst hA; rfl) fun m1 g1 => ?_
  cbv
  refine splitBoolF (fun e0 => ?_) (fun e0 => ?_)
  · have hv : valid t = false := by rw [← g1, e0]
    cbv
    (subst hA; refine Or.inl ?_; simp [ar, fitsOf, hv])
  have hv : valid t = true := by rw [← g1, e0]
  have hlen := valid_links hv
  cbv
  refine splitBoolF (fun e1 => ?_) (fun e1 => ?_)
  · have h1 : ¬ down.length = 0 := by subst hA; simpa [ar, bools] using e1
    cbv
    refine ⟨by subst hA; simp only [ar, inI64, lks_len]; ((try simp only [ncast, Int.ofNat_eq_natCast] at *); omega), ?_⟩
    subst hA
    refine Or.inl ?_
    simp only [ar, fitsOf, hv, bools_len, lks_len, decide_eq_false h1, Bool.true_and, Bool.false_or]
    try rfl
  · have h1 : down.length = 0 := by subst hA; simpa [ar, bools] using e1
    cbv
    (subst hA; refine Or.inl ?_; simp [ar, fitsOf, hv, h1])
theorem c_up11 (down : List Bool) (a : Int) (h : down.length = 0 ∨ 0 ≤ a ∧ a < down.length) : FCs 65 [.sl 1 (bools down), .int .i64 a] (.bool (upOf down a)) := by
  refine FCs.intro [] [0,1,4] (fun A => [.sl 1 (A.e fun _ => bools down), .int .i64 a]) Try.func65 rfl Try.call65 (by kernel_rfl) (by simp [Try.f65]) ?_
  intro A hA
  cbv
  refine splitBoolF (fun e1 => ?_) (fun e1 => ?_)
  · have h1 : ¬ down.length = 0 := by subst hA; simpa [ar, bools] using e1
    have h2 : 0 ≤ a ∧ a < down.length := h.resolve_left h1
    obtain ⟨b, hb, hb'⟩ := bools_at (k := a.toNat) (xs := down) (by ((try simp only [ncast, Int.ofNat_eq_natCast] at *); omega))
    have hu : upOf down a = !b := by simp only [upOf, hb, decide_eq_false h1, Bool.false_or, Option.getD_some]
    cbv
    refine ⟨_, by subst hA; exact hb', h2.1, ?_⟩
    cbv
    (subst hA; refine Or.inl ?_; simp only [ar, hu])
  · have h1 : down.length = 0 := by subst hA; simpa [ar, bools] using e1
    cbv
    (subst hA; refine Or.inl ?_; simp [ar, upOf, h1])
def sideIn : PV := .agg [.fn (.func 78) [] [], .fn (.func 54) [] []]
set_option maxHeartbeats 4000000 in
theorem c_search (t : Topo) (down : List Bool) (n : Int) :
    FCs 77 [t.pv, .sl 1 (bools down), .int .i64 n, sideIn] (.tup [.sl 1 (ints (searchOf t down n false).1), .int .i64 (searchOf t down n false).2]) := by
  refine FCs.intro [(37, 10), (50, 50), (100003, 0), (100017, 0), (100022, 0), (100025, 0)] [0,1,2,3,4,5,6,7,8,9,10,11,12,13,14,15,16,17,18,19,20,21,22,34,39,40,47,56,76,81,82,83,102,108,120] (fun A => [t.pvA A, .sl 1 (A.e fun _ => bools down), .int .i64 n, .agg [.fn (.func 78) [] [], .fn (.func 54) [] []]]) Try.func77 rfl Try.call77 (by kernel_rfl) (by simp [Try.f77]) ?_
  intro A hA
  cbv
  refine CallV.bool _ (by subst hA; exact c_fits11 t down) (by subst hA; rfl) fun m1 h1 => ?_
  cbv
  refine splitBoolF (fun e1 => ?_) (fun e1 => ?_)
  rotate_left
  · have hf : fitsOf t down = false := by subst hA; simpa [ar, h1] using e1
    cbv
    subst hA
    refine Or.inr ?_
    simp [wk, wks, ar, searchOf, hf, ints]
  have hf : fitsOf t down = true := by subst hA; simpa [ar, h1] using e1
  have hv : valid t = true := fits_valid hf
  have hnod := headOk_nodes (valid_head hv)
  cbv
  refine CutC.upd Bool (fun b => [(34, .bool b)]) (fun _ => []) (fun b => b = !within n 0 (t.nodes - 1)) ?_ ?_
  · cbv
    refine splitBoolF (fun e2 => ?_) (fun e2 => ?_)
    · cbv
      refine ⟨_, rfl, ?_⟩
      simp [LeSt, leVs, leP, St.set, setVs, aget, subHp]
      subst hA; simp only [ar] at e2; simp only [ar, within_nodes, e2, Bool.false_or, Bool.not_not]
      try rfl
    · cbv
      refine ⟨_, rfl, ?_⟩
      simp [LeSt, leVs, leP, St.set, setVs, aget, subHp]
      subst hA; simp only [ar] at e2; simp [ar, within_nodes, e2]
  rintro x hx
  cbv
  refine splitBoolF (fun e2 => ?_) (fun e2 => ?_)
  rotate_left
  · have hw : within n 0 (t.nodes - 1) = false := by simpa [e2] using hx
    cbv
    subst hA
    refine Or.inr ?_
    simp [wk, wks, ar, searchOf, hf, hw, ints]
  have hw : within n 0 (t.nodes - 1) = true := by simpa [e2] using hx
  have hn : 0 ≤ n ∧ n < t.nodes := by simp [within] at hw; omega
  have hnN : (t.nodes.toNat : Int) = t.nodes := by omega
  cbv
  refine ⟨(by subst hA; simp only [ar]; exact ⟨by ((try simp only [ncast, Int.ofNat_eq_natCast] at *); omega), by trivial, by show (8 : Int) * (t.nodes) ≤ 281474976710656; ((try simp only [ncast, Int.ofNat_eq_natCast] at *); omega), by ((try simp only [ncast, Int.ofNat_eq_natCast] at *); omega)⟩), ?_⟩
  refine LoopK.upd Nat (fun k => [(11, .junk), (40, .int .i64 k)]) (fun k => [(10, ⟨3, 1, A.e fun _ => ints (List.replicate k (-1) ++ List.replicate (t.nodes.toNat - k) 0), false⟩)]) (fun k => k ≤ t.nodes.toNat) (fun k => t.nodes.toNat - k) 0 ?_ ?_ ?_
  · subst hA; simp [LeSt, leVs, leP, St.set, setVs, aget, subHp]; simp [ar, ints]
  · exact Nat.zero_le _
  rintro k hk
  cbv
  refine splitBool (fun e3 => ?_) (fun e3 => ?_)
  · have hlt : k < t.nodes.toNat := by
      have h : decide (Int.ofNat k < ((List.replicate t.nodes.toNat [PV.int .i64 0]).length : Int)) = true := by subst hA; exact e3
      have := of_decide_eq_true h
      rw [List.length_replicate] at this
      ((try simp only [ncast, Int.ofNat_eq_natCast] at *); omega)
    cbv
    refine ⟨by subst hA; simp only [ar, ints_len, List.length_append, List.length_replicate]; ((try simp only [ncast, Int.ofNat_eq_natCast] at *); omega), ?_⟩
    obtain ⟨y, hy, hy'⟩ := ints_atN (xs := List.replicate k (-1) ++ List.replicate (t.nodes.toNat - k) 0) (k := k) (by simp; omega)
    refine ⟨_, by subst hA; exact hy', Nat.le_refl _, ?_⟩
    cbv
    refine ⟨by subst hA; simp only [ar, inI64]; ((try simp only [ncast, Int.ofNat_eq_natCast] at *); omega), ?_⟩
    refine ⟨k + 1, ⟨hlt, by omega⟩, ?_⟩
    subst hA
    simp [LeSt, leVs, leP, St.set, setVs, aget, subHp]
    simp only [ar, splice]
    rw [← fill_set hlt]
    simp [ints, List.map_set]
  have hge : k = t.nodes.toNat := by
    have h : decide (Int.ofNat k < ((List.replicate t.nodes.toNat [PV.int .i64 0]).length : Int)) = false := by subst hA; exact e3
    have := of_decide_eq_false h
    rw [List.length_replicate] at this
    ((try simp only [ncast, Int.ofNat_eq_natCast] at *); omega)
  rw [hge]
  rw [show List.replicate t.nodes.toNat (-1) ++ List.replicate (t.nodes.toNat - t.nodes.toNat) 0 = List.replicate t.nodes.toNat (-1 : Int) by simp]
  have hneg1 := at0_replicate t.nodes.toNat
  have hset := set_law (HOk.empty t.nodes.toNat (List.replicate t.nodes.toNat 0) (by simp)) hn.1 (by omega : n < (t.nodes.toNat : Int)) (key := 0) (.inl (by rw [at0_replicate]; omega))
  have hcall := h_set0 (List.replicate t.nodes.toNat 0) (List.replicate t.nodes.toNat (-1)) n 0 (HOk.empty t.nodes.toNat (List.replicate t.nodes.toNat 0) (by simp)) (by omega) hn.1 (by omega)
  have hK1 : at0 ((List.replicate t.nodes.toNat 0).set n.toNat 0) n = 0 := by rw [at0_set hn.1 hn.1 (by simp; omega), if_pos rfl]
  have hP1 : ∀ x : Int, 0 ≤ x → (held (setH [] (List.replicate t.nodes.toNat 0) (List.replicate t.nodes.toNat (-1)) n 0).2 x ↔ x = n) := fun x hx => by
    rw [hset.1.held x hx]
    unfold held
    rw [at0_replicate]
    simp
  have hO1 := hset.1.ok
  have hD1 := Dij.start (t := t) (down := down) (dir := false) (K := (List.replicate t.nodes.toNat 0).set n.toNat 0) (P := (setH [] (List.replicate t.nodes.toNat 0) (List.replicate t.nodes.toNat (-1)) n 0).2) hn (by simp; omega) hK1 hP1
  clear hset hP1
  generalize setH [] (List.replicate t.nodes.toNat 0) (List.replicate t.nodes.toNat (-1)) n 0 = R1 at hcall hO1 hD1
  generalize hKs : (List.replicate t.nodes.toNat (0 : Int)).set n.toNat 0 = K1 at hcall hO1 hD1
  cbv
  refine CallX.hnd (CallH.intro [] (.tup [.op 90 3 0 0, .int .i64 0]) [(90, ⟨114, 3, [[.nilsl, .os 92, .os 93]], true⟩), (92, ⟨3, 1, A.e fun _ => ints (List.replicate t.nodes.toNat 0), false⟩), (93, ⟨3, 1, A.e fun _ => ints (List.replicate t.nodes.toNat (-1)), false⟩)] (by subst hA; exact h_new t.nodes (by omega)) (by trivial) rfl ?_)
  cbv
  refine CallH.intro [(90, ⟨114, 3, [[.nilsl, .os 92, .os 93]], true⟩), (92, ⟨3, 1, A.e fun _ => ints (List.replicate t.nodes.toNat 0), false⟩), (93, ⟨3, 1, A.e fun _ => ints (List.replicate t.nodes.toNat (-1)), false⟩)] (.int .i64 0) [(90, ⟨114, 3, [[.os 91, .os 92, .os 93]], true⟩), (91, ⟨3, 1, A.e fun _ => ints R1.1, false⟩), (92, ⟨3, 1, A.e fun _ => ints K1, false⟩), (93, ⟨3, 1, A.e fun _ => ints R1.2, false⟩)] (by subst hA; exact hcall) (by subst hA; simp [subHp, aget]) rfl ?_
  cbv
  refine LoopK.upd (List Int × List Int × List Int × List Int × Int) (fun p => [(14, .junk), (15, .junk), (16, .junk), (18, .junk), (19, .junk), (20, .junk), (21, .junk), (22, .junk), (56, .junk), (76, .junk), (81, .junk), (82, .junk), (83, .junk), (102, .junk), (108, .junk), (120, .junk)])
    (fun p => (10, ⟨3, 1, A.e fun _ => ints p.1, false⟩) :: [(90, ⟨114, 3, [[.os 91, .os 92, .os 93]], true⟩), (91, ⟨3, 1, A.e fun _ => ints p.2.1, false⟩), (92, ⟨3, 1, A.e fun _ => ints p.2.2.1, false⟩), (93, ⟨3, 1, A.e fun _ => ints p.2.2.2.1, false⟩)])
    (fun p => HOk t.nodes.toNat p.2.1 p.2.2.1 p.2.2.2.1 ∧ Dij t down n false p.1 p.2.2.1 p.2.2.2.1 p.2.2.2.2 []) (fun p => t.nodes.toNat - cnt p.1) (List.replicate t.nodes.toNat (-1), R1.1, K1, R1.2, 0) ?_ ?_ ?_
  · subst hA
    simp [LeSt, leVs, leP, St.set, setVs, aget, subHp]
  · exact ⟨hO1, hD1⟩
  clear hO1 hD1 hcall hKs
  rintro ⟨D, I, K, P, m⟩ ⟨hO, hD⟩
  dsimp only at hO hD
  cbv
  rcases Nat.eq_zero_or_pos I.length with hI0 | hI0
  · have hI : I = [] := List.eq_nil_of_length_eq_zero hI0
    subst hI
    have hfin := distOf_eq (hD.done hn fun x h0 h1 hx => by
      rcases hO.wf.plc x h0 (by omega) with e | ⟨j, hj, _⟩
      · unfold held at hx; omega
      · simp at hj)
    refine CallH.intro [(90, ⟨114, 3, [[.os 91, .os 92, .os 93]], true⟩), (91, ⟨3, 1, A.e fun _ => ints [], false⟩), (92, ⟨3, 1, A.e fun _ => ints K, false⟩), (93, ⟨3, 1, A.e fun _ => ints P, false⟩)] (.tup [.int .i64 0, .int .i64 0, .bool false]) [(90, ⟨114, 3, [[.os 91, .os 92, .os 93]], true⟩), (91, ⟨3, 1, A.e fun _ => ints [], false⟩), (92, ⟨3, 1, A.e fun _ => ints K, false⟩), (93, ⟨3, 1, A.e fun _ => ints P, false⟩)] (by subst hA; exact h_pop0 K P) (by subst hA; simp [subHp, aget]) rfl ?_
    cbv
    refine splitTrue (by subst hA; rfl) ?_
    cbv
    subst hA
    refine Or.inl ?_
    simp [ar, searchOf, hf, hw, hfin]
  obtain ⟨hpop, hy, hyh, _⟩ := pop_law hO hI0
  have hpc := h_pop I K P hO.lenK hO.wf.lenP (by omega) hO.wf.len hO.wf.rng hI0
  obtain ⟨hD2, hcnt, hk0, hk1, hn0⟩ := hD.settle (P' := (popH I K P).2) (L := if transOf t (at0 I 0) n = true then arcsDir t (at0 I 0) false else []) hn ⟨hy.1, by omega⟩ hyh (fun x h0 h1 hx => hpop.min x h0 (by omega) hx) hpop.held
    (fun a h1 h2 h3 => by rw [if_pos h3]; exact (arcsDir_mem hv).2 ⟨h1, h2⟩)
  have hO2 := hpop.ok
  have hcl := cnt_le (D.set (at0 I 0).toNat (at0 K (at0 I 0)))
  have hDl := hD.len
  rw [List.length_set] at hcl
  have hky : at0 (D.set (at0 I 0).toNat (at0 K (at0 I 0))) (at0 I 0) = at0 K (at0 I 0) := by rw [at0_set hy.1 hy.1 (by omega), if_pos rfl]
  clear hpop
  generalize popH I K P = R at hpc hD2 hO2
  refine CallH_nm2 (fun y k => .tup [.int .i64 y, .int .i64 k, .bool true]) (at0 I 0) (at0 K (at0 I 0)) [(90, ⟨114, 3, [[.os 91, .os 92, .os 93]], true⟩), (91, ⟨3, 1, A.e fun _ => ints I, false⟩), (92, ⟨3, 1, A.e fun _ => ints K, false⟩), (93, ⟨3, 1, A.e fun _ => ints P, false⟩)] [(90, ⟨114, 3, [[.os 91, .os 92, .os 93]], true⟩), (91, ⟨3, 1, A.e fun _ => ints R.1, false⟩), (92, ⟨3, 1, A.e fun _ => ints K, false⟩), (93, ⟨3, 1, A.e fun _ => ints R.2, false⟩)] (by subst hA; exact hpc) (by subst hA; simp [subHp, aget]) rfl fun y ky ey ek => ?_
  cbv
  rw [← ek, ← ey] at hD2 hky
  rw [← ek, ← ey] at hcnt hcl
  rw [← ek, ← ey] at hn0
  rw [← ek] at hk0 hk1
  rw [← ey] at hy
  obtain ⟨wy, ewy, iwy⟩ := ints_atI (D := D) (i := y) hy.1 (by ((try simp only [ncast, Int.ofNat_eq_natCast] at *); omega))
  have hyl : 0 ≤ y ∧ y < (D.length : Int) := ⟨hy.1, by ((try simp only [ncast, Int.ofNat_eq_natCast] at *); omega)⟩
  have hD2l := hD2.len
  generalize hD' : D.set y.toNat ky = D' at hD2 hky hcnt hcl hn0 hD2l
  have hsp : ∀ A : Ar, A = ar → (A.e fun _ => (ints D).set y.toNat [.int .i64 ky]) = A.e fun _ => ints D' := fun A hA => by subst hA; simp [ar, ← hD', ints, List.map_set]
  refine splitFalse (by subst hA; rfl) ?_
  cbv
  refine ⟨by subst hA; simp only [ar, ints_len]; exact hyl, ?_⟩
  refine ⟨_, by subst hA; exact iwy, Nat.le_refl _, ?_⟩
  cbv
  refine CutC.upd Bool (fun b => [(76, .bool b)]) (fun _ => (10, ⟨3, 1, A.e fun _ => ints D', false⟩) :: [(90, ⟨114, 3, [[.os 91, .os 92, .os 93]], true⟩), (91, ⟨3, 1, A.e fun _ => ints R.1, false⟩), (92, ⟨3, 1, A.e fun _ => ints K, false⟩), (93, ⟨3, 1, A.e fun _ => ints R.2, false⟩)]) (fun b => b = !transOf t y n) ?_ ?_
  · cbv
    refine splitBoolF (fun e4 => ?_) (fun e4 => ?_)
    · have h4 : y = n := by
        have h : (!decide (y = n)) = false := by subst hA; exact e4
        simpa using h
      cbv
      refine ⟨_, rfl, ?_⟩
      subst hA
      simp [LeSt, leVs, leP, St.set, setVs, aget, subHp]
      simp [ar, transOf, h4, ← hD', ints, splice, List.map_set]
    · have h4 : ¬ y = n := by
        have h : (!decide (y = n)) = true := by subst hA; exact e4
        simpa using h
      cbv
      refine CallV.bool _ (by subst hA; exact c_Overloaded t y) (by subst hA; rfl) fun q1 g1 => ?_
      cbv
      refine ⟨_, rfl, ?_⟩
      subst hA
      simp [LeSt, leVs, leP, St.set, setVs, aget, subHp]
      simp [ar, transOf, h4, g1, ← hD', ints, splice, List.map_set]
  rintro b hb
  cbv
  refine splitBool (fun e4 => ?_) (fun e4 => ?_)
  · have h4 : transOf t y n = false := by rw [e4] at hb; simpa using hb.symm
    rw [h4, if_neg (by simp)] at hD2
    cbv
    refine ⟨(D', R.1, K, R.2, ky), ⟨⟨hO2, hD2⟩, by dsimp only; ((try simp only [ncast, Int.ofNat_eq_natCast] at *); omega)⟩, ?_⟩
    subst hA
    simp [LeSt, leVs, leP, St.set, setVs, aget, subHp]
  have h4 : transOf t y n = true := by rw [e4] at hb; simpa using hb.symm
  rw [h4, if_pos rfl] at hD2
  cbv
  refine CallV.sl _ _ (by subst hA; exact c_In t y) (by subst hA; rfl) (by subst hA; rfl) fun es g2 => ?_
  rw [show inOf t y = arcsDir t y false from rfl] at g2
  have hLm := fun a (h : a ∈ arcsDir t y false) => (arcsDir_mem hv).1 h
  have hLn : (arcsDir t y false).length ≤ 512 := by
    rw [arcsDir_eq hv]
    have := List.length_filter_le (fun a => decide (viaY t false a = y)) (takeArcs (2 * t.links.length))
    have h2 : (takeArcs (2 * t.links.length)).length = 2 * t.links.length := by simp [takeArcs]
    have := hnod.2.2
    omega
  generalize arcsDir t y false = L at g2 hD2 hLm hLn
  cbv
  have hLl : L.length ≤ 512 := hLn
  refine LoopK.upd (List Int × List Int × List Int × Nat) (fun p => [(18, .junk), (19, .junk), (20, .junk), (21, .junk), (22, .junk), (83, .int .i64 p.2.2.2), (102, .junk), (108, .junk), (120, .junk)])
    (fun p => (10, ⟨3, 1, A.e fun _ => ints D', false⟩) :: [(90, ⟨114, 3, [[.os 91, .os 92, .os 93]], true⟩), (91, ⟨3, 1, A.e fun _ => ints p.1, false⟩), (92, ⟨3, 1, A.e fun _ => ints p.2.1, false⟩), (93, ⟨3, 1, A.e fun _ => ints p.2.2.1, false⟩)])
    (fun p => p.2.2.2 ≤ L.length ∧ HOk t.nodes.toNat p.1 p.2.1 p.2.2.1 ∧ Dij t down n false D' p.2.1 p.2.2.1 ky (L.drop p.2.2.2)) (fun p => L.length - p.2.2.2) (R.1, K, R.2, 0) ?_ ?_ ?_
  · subst hA
    simp [LeSt, leVs, leP, St.set, setVs, aget, subHp]
  · exact ⟨Nat.zero_le _, hO2, hD2⟩
  rintro ⟨I1, K1, P1, j⟩ ⟨hj, hO3, hD3⟩
  dsimp only at hj hO3 hD3
  cbv
  refine splitBool (fun e5 => ?_) (fun e5 => ?_)
  · have hlt : j < L.length := by
      have h : decide (Int.ofNat j < ((ints L).length : Int)) = true := by subst hA; rw [g2] at e5; exact e5
      have := of_decide_eq_true h
      rw [ints_len] at this
      ((try simp only [ncast, Int.ofNat_eq_natCast] at *); omega)
    obtain ⟨a, ha, ha'⟩ := ints_atN (xs := L) (k := j) hlt
    obtain ⟨harc, hvia⟩ := hLm a (List.mem_of_getElem? ha)
    have hok := arc_ok harc
    rw [ints_drop ha] at hD3
    obtain ⟨vx, evx, ivx⟩ := ints_atI (D := D') (i := tailOf t a) hok.1 (by ((try simp only [ncast, Int.ofNat_eq_natCast] at *); omega))
    cbv
    refine ⟨_, by subst hA; rw [g2]; exact ha', Int.natCast_nonneg j, ?_⟩
    cbv
    refine CallV.int _ _ (by subst hA; exact c_Tail t a) (by subst hA; rfl) fun q1 g3 => ?_
    cbv
    refine CutC.upd Bool (fun b => [(102, .bool b)]) (fun _ => (10, ⟨3, 1, A.e fun _ => ints D', false⟩) :: [(90, ⟨114, 3, [[.os 91, .os 92, .os 93]], true⟩), (91, ⟨3, 1, A.e fun _ => ints I1, false⟩), (92, ⟨3, 1, A.e fun _ => ints K1, false⟩), (93, ⟨3, 1, A.e fun _ => ints P1, false⟩)]) (fun b => b = (!upOf down a || decide (0 ≤ vx))) ?_ ?_
    · cbv
      refine CallV.bool _ (by subst hA; exact c_up11 down a (fits_up hf harc)) (by subst hA; rfl) fun q2 g4 => ?_
      cbv
      refine splitBoolF (fun e6 => ?_) (fun e6 => ?_)
      · have h6 : upOf down a = true := by
          have h : (!q2) = false := by subst hA; exact e6
          rw [← g4]; simpa using h
        cbv
        refine ⟨by subst hA; simp only [ar, ints_len]; ((try simp only [ncast, Int.ofNat_eq_natCast] at *); omega), ?_⟩
        refine ⟨_, by subst hA; rw [g3]; exact ivx, ?_⟩
        cbv
        refine ⟨_, rfl, ?_⟩
        subst hA
        simp [LeSt, leVs, leP, St.set, setVs, aget, subHp]
        simp [ar, h6]
      · have h6 : upOf down a = false := by
          have h : (!q2) = true := by subst hA; exact e6
          rw [← g4]; simpa using h
        cbv
        refine ⟨_, rfl, ?_⟩
        subst hA
        simp [LeSt, leVs, leP, St.set, setVs, aget, subHp]
        simp [ar, h6]
    rintro z hz
    cbv
    refine splitBool (fun e6 => ?_) (fun e6 => ?_)
    · rw [e6] at hz
      have hsk : Dij t down n false D' K1 P1 ky (L.drop (j + 1)) := hD3.skip fun ho => by
        have hz' := hz.symm
        rw [ho.2.1] at hz'
        simp only [Bool.not_true, Bool.false_or, decide_eq_true_eq] at hz'
        refine .inl ⟨by rw [show toX t false a = tailOf t a from rfl, ← evx]; exact hz', ?_⟩
        rw [hvia, hky]
        have := hD3.hi (toX t false a)
        omega
      cbv
      refine ⟨by subst hA; simp only [ar, inI64]; ((try simp only [ncast, Int.ofNat_eq_natCast] at *); omega), ?_⟩
      refine ⟨(I1, K1, P1, j + 1), ⟨⟨hlt, hO3, hsk⟩, by dsimp only; omega⟩, ?_⟩
      subst hA
      simp [LeSt, leVs, leP, St.set, setVs, aget, subHp]
      simp [ar]
    rw [e6] at hz
    have h6 : upOf down a = true ∧ vx < 0 := by
      have hz' := hz.symm
      simp only [Bool.or_eq_false_iff, Bool.not_eq_false', decide_eq_false_iff_not] at hz'
      exact ⟨hz'.1, by omega⟩
    have hop : Open t down n false D' a := ⟨harc, h6.1, by rw [hvia, hky]; exact hk0, by rw [hvia]; exact h4⟩
    have hP1l := hO3.wf.lenP
    have hK1l := hO3.lenK
    have hkb : ky ≤ 65535 * 65 := by
      have := cnt_le D
      ((try simp only [ncast, Int.ofNat_eq_natCast] at *); omega)
    cbv
    refine CallV.int _ _ (by subst hA; exact c_Cost t a) (by subst hA; rfl) fun q3 g5 => ?_
    cbv
    refine ⟨by rw [g5]; subst hA; simp only [ar, inI64]; ((try simp only [ncast, Int.ofNat_eq_natCast] at *); omega), ?_⟩
    refine CallH_nm2 (fun o h => .tup [.int .i64 o, .bool h]) (if 0 ≤ at0 P1 (tailOf t a) then at0 K1 (tailOf t a) else 0) (decide (0 ≤ at0 P1 (tailOf t a))) [(90, ⟨114, 3, [[.os 91, .os 92, .os 93]], true⟩), (91, ⟨3, 1, A.e fun _ => ints I1, false⟩), (92, ⟨3, 1, A.e fun _ => ints K1, false⟩), (93, ⟨3, 1, A.e fun _ => ints P1, false⟩)] [(90, ⟨114, 3, [[.os 91, .os 92, .os 93]], true⟩), (91, ⟨3, 1, A.e fun _ => ints I1, false⟩), (92, ⟨3, 1, A.e fun _ => ints K1, false⟩), (93, ⟨3, 1, A.e fun _ => ints P1, false⟩)] (by subst hA; rw [g3]; exact h_key I1 K1 P1 (tailOf t a) ⟨hok.1, by ((try simp only [ncast, Int.ofNat_eq_natCast] at *); omega)⟩ (by omega)) (by subst hA; simp [subHp, aget]) rfl fun old has eo eh => ?_
    cbv
    refine CutC.upd Bool (fun b => [(120, .bool b)]) (fun _ => (10, ⟨3, 1, A.e fun _ => ints D', false⟩) :: [(90, ⟨114, 3, [[.os 91, .os 92, .os 93]], true⟩), (91, ⟨3, 1, A.e fun _ => ints I1, false⟩), (92, ⟨3, 1, A.e fun _ => ints K1, false⟩), (93, ⟨3, 1, A.e fun _ => ints P1, false⟩)]) (fun b => b = (!has || decide (ky + costOf t a < old))) ?_ ?_
    · cbv
      refine splitBoolF (fun e7 => ?_) (fun e7 => ?_)
      · have h7 : has = true := by
          have h : (!has) = false := by subst hA; exact e7
          simpa using h
        cbv
        refine ⟨_, rfl, ?_⟩
        subst hA
        simp [LeSt, leVs, leP, St.set, setVs, aget, subHp]
        simp [ar, h7, g5]
      · have h7 : has = false := by
          have h : (!has) = true := by subst hA; exact e7
          simpa using h
        cbv
        refine ⟨_, rfl, ?_⟩
        simp [LeSt, leVs, leP, St.set, setVs, aget, subHp]
        simp [h7]
    rintro u hu
    cbv
    refine splitBool (fun e7 => ?_) (fun e7 => ?_)
    · rw [e7] at hu
      have hu' := hu.symm
      simp only [Bool.or_eq_true, Bool.not_eq_true', decide_eq_true_eq] at hu'
      have hk : at0 P1 (tailOf t a) < 0 ∨ ky + costOf t a < at0 K1 (tailOf t a) := by
        by_cases hp : 0 ≤ at0 P1 (tailOf t a)
        · rw [if_pos hp] at eo
          rw [decide_eq_true hp] at eh
          rcases hu' with h | h
          · rw [eh] at h; cases h
          · exact .inr (by rw [← eo]; exact h)
        · exact .inl (by omega)
      have hset := set_law (key := ky + costOf t a) hO3 hok.1 (by ((try simp only [ncast, Int.ofNat_eq_natCast] at *); omega)) (hk.imp id fun h => by omega)
      have hcs := h_set I1 K1 P1 (tailOf t a) (ky + costOf t a) hO3 (by omega) hok.1 (by ((try simp only [ncast, Int.ofNat_eq_natCast] at *); omega)) (hk.imp id fun h => by omega)
      have hO4 := hset.1.ok
      have hD4 := hD3.take (P' := (setH I1 K1 P1 (tailOf t a) (ky + costOf t a)).2) hn0 hn.1 hop (by rw [hvia, hky]) (by rw [show toX t false a = tailOf t a from rfl, ← evx]; exact h6.2) hk hset.1.held
      rw [show toX t false a = tailOf t a from rfl] at hD4
      clear hset
      generalize setH I1 K1 P1 (tailOf t a) (ky + costOf t a) = R5 at hcs hO4 hD4
      generalize hK5 : K1.set (tailOf t a).toNat (ky + costOf t a) = K5 at hcs hO4 hD4
      cbv
      refine CallH.intro [(90, ⟨114, 3, [[.os 91, .os 92, .os 93]], true⟩), (91, ⟨3, 1, A.e fun _ => ints I1, false⟩), (92, ⟨3, 1, A.e fun _ => ints K1, false⟩), (93, ⟨3, 1, A.e fun _ => ints P1, false⟩)] (.int .i64 0) [(90, ⟨114, 3, [[.os 91, .os 92, .os 93]], true⟩), (91, ⟨3, 1, A.e fun _ => ints R5.1, false⟩), (92, ⟨3, 1, A.e fun _ => ints K5, false⟩), (93, ⟨3, 1, A.e fun _ => ints R5.2, false⟩)] (by subst hA; rw [g3, g5]; exact hcs) (by subst hA; simp [subHp, aget]) rfl ?_
      cbv
      refine ⟨by subst hA; simp only [ar, inI64]; ((try simp only [ncast, Int.ofNat_eq_natCast] at *); omega), ?_⟩
      refine ⟨(R5.1, K5, R5.2, j + 1), ⟨⟨hlt, hO4, hD4⟩, by dsimp only; omega⟩, ?_⟩
      subst hA
      simp [LeSt, leVs, leP, St.set, setVs, aget, subHp]
      simp [ar]
    · rw [e7] at hu
      have hu' := hu.symm
      simp only [Bool.or_eq_false_iff, Bool.not_eq_false', decide_eq_false_iff_not] at hu'
      have hp : 0 ≤ at0 P1 (tailOf t a) := of_decide_eq_true (by rw [← eh]; exact hu'.1)
      rw [if_pos hp] at eo
      have hsk : Dij t down n false D' K1 P1 ky (L.drop (j + 1)) := hD3.skip fun _ => .inr ⟨hp, by rw [hvia, hky, show toX t false a = tailOf t a from rfl, ← eo]; omega⟩
      cbv
      refine ⟨by subst hA; simp only [ar, inI64]; ((try simp only [ncast, Int.ofNat_eq_natCast] at *); omega), ?_⟩
      refine ⟨(I1, K1, P1, j + 1), ⟨⟨hlt, hO3, hsk⟩, by dsimp only; omega⟩, ?_⟩
      subst hA
      simp [LeSt, leVs, leP, St.set, setVs, aget, subHp]
      simp [ar]
  · have hge : j = L.length := by
      have h : decide (Int.ofNat j < ((ints L).length : Int)) = false := by subst hA; rw [g2] at e5; exact e5
      have := of_decide_eq_false h
      rw [ints_len] at this
      ((try simp only [ncast, Int.ofNat_eq_natCast] at *); omega)
    rw [hge, List.drop_length] at hD3
    cbv
    refine ⟨(D', I1, K1, P1, ky), ⟨⟨hO3, hD3⟩, by dsimp only; ((try simp only [ncast, Int.ofNat_eq_natCast] at *); omega)⟩, ?_⟩
    subst hA
    simp [LeSt, leVs, leP, St.set, setVs, aget, subHp]
end Go.Proofs.Ytogehfalhodapaa
namespace Go.Proofs.Ytogehfalhodapaa
open Go Go.Proofs.Ytogehfalhodapaa.Pv
set_option linter.unusedSimpArgs false
set_option linter.unusedVariables false
theorem c_Dist (t : Topo) (down : List Bool) (n : Int) :
    FCs 63 [t.pv, .sl 1 (bools down), .int .i64 n] (.tup [.sl 1 (ints (searchOf t down n false).1), .int .i64 (searchOf t down n false).2]) := by
  refine FCs.intro [] [0,1,2,3,6,7] (fun A => [t.pvA A, .sl 1 (A.e fun _ => bools down), .int .i64 n]) Try.func63 rfl Try.call63 (by kernel_rfl) (by simp [Try.f63]) ?_
  intro A hA
  cbv
  refine CallV.nm2 (fun a b => .tup [.sl 1 a, .int .i64 b]) _ _ (by subst hA; exact c_search t down n) (by subst hA; rfl) (by subst hA; intros; rfl) fun es x h1 h2 => ?_
  cbv
  (subst hA; refine Or.inl ?_; simp only [ar, h1, h2])
theorem filter_first {α : Type} {p : α → Bool} {l : List α} {k : Nat} {a : α} (ha : l[k]? = some a) (hp : p a = true) (hno : ∀ (i : Nat) (x : α), i < k → l[i]? = some x → p x = false) : ∃ r, l.filter p = a :: r := by
  have hlt : k < l.length := (List.getElem?_eq_some_iff.1 ha).1
  have h1 : (l.take k).filter p = [] := by
    rw [List.filter_eq_nil_iff]
    intro x hx
    obtain ⟨i, hi, e⟩ := List.mem_iff_getElem.1 hx
    rw [List.length_take] at hi
    have : l[i]? = some x := by rw [List.getElem_take] at e; rw [← e]; exact List.getElem?_eq_getElem (by omega)
    rw [hno i x (by omega) this]; simp
  have h2 : l.drop k = a :: l.drop (k + 1) := by
    rw [List.drop_eq_getElem_cons hlt]
    rw [List.getElem?_eq_getElem hlt] at ha
    rw [Option.some.inj ha]
  refine ⟨(l.drop (k + 1)).filter p, ?_⟩
  have h3 : l.filter p = (l.take k ++ l.drop k).filter p := by rw [List.take_append_drop]
  rw [h3, List.filter_append, h1, h2, List.filter_cons, if_pos hp]
  rfl
end Go.Proofs.Ytogehfalhodapaa
namespace Go.Proofs.Ytogehfalhodapaa
open Go Go.Proofs.Ytogehfalhodapaa.Pv
set_option linter.unusedSimpArgs false
set_option linter.unusedVariables false
theorem r_next (t : Topo) (down : List Bool) (D : List Int) (n d : Int) (hf : fitsOf t down = true) (hl : (D.length : Int) = t.nodes) (hb : ∀ i, at0 D i ≤ 4194304) (hb0 : ∀ i, -1 ≤ at0 D i) :
    FCs 60 [t.pv, .sl 1 (bools down), .sl 1 (ints D), .int .i64 n, .int .i64 d] (.sl 1 (ints (nextOf t down D n d))) := by
  have hv := fits_valid hf
  have hnod := headOk_nodes (valid_head hv)
  refine FCs.intro [(11, 11), (37, 11), (100005, 0)] [0,1,2,3,4,5,10,11,12,33] (fun A => [t.pvA A, .sl 1 (A.e fun _ => bools down), .sl 1 (A.e fun _ => ints D), .int .i64 n, .int .i64 d]) Try.func60 rfl Try.call60 (by kernel_rfl) (by simp [Try.f60]) ?_
  intro A hA
  cbv
  refine LoopK.upd Nat (fun k => [(12, .int .i64 k), (33, .junk)]) (fun k => [(11, ⟨3, 1, A.e fun _ => ints ((takeArcs k).filter (nxt t down D n d)), false⟩)])
    (fun k => k ≤ 2 * t.links.length) (fun k => 2 * t.links.length - k) 0 ?_ ?_ ?_
  · subst hA
    simp [LeSt, leVs, leP, St.set, setVs, aget, subHp]
    simp [ar, ints, takeArcs]
  · exact Nat.zero_le _
  rintro k hk
  cbv
  refine ⟨by subst hA; simp only [ar, inI64, lks_len]; ((try simp only [ncast, Int.ofNat_eq_natCast] at *); omega), ?_⟩
  refine splitBool (fun e4 => ?_) (fun e4 => ?_)
  · have hlt : k < 2 * t.links.length := by subst hA; simp [ar, lks] at e4; ((try simp only [ncast, Int.ofNat_eq_natCast] at *); omega)
    have hA1 : isArc t k = true := isArc_iff.2 ⟨hv, by omega, by omega⟩
    cbv
    refine CutC.upd Bool (fun b => [(33, .bool b)]) (fun _ => [(11, ⟨3, 1, A.e fun _ => ints ((takeArcs k).filter (nxt t down D n d)), false⟩)]) (fun b => b = nxt t down D n d k) ?_ ?_
    · cbv
      refine CallV.int _ _ (by subst hA; exact r_Tail t k) (by subst hA; rfl) fun q1 g3 => ?_
      cbv
      refine splitBoolF (fun e5 => ?_) (fun e5 => ?_)
      · have h5 : ¬ tailOf t k = n := by subst hA; simpa [ar, g3] using e5
        cbv
        refine ⟨_, rfl, ?_⟩
        simp [LeSt, leVs, leP, St.set, setVs, aget, subHp]
        simp [nxt, h5]
      · have h5 : tailOf t k = n := by subst hA; simpa [ar, g3] using e5
        cbv
        refine CallV.bool _ (by subst hA; exact r_On t down D k d hf hA1 hl hb hb0) (by subst hA; rfl) fun q2 g4 => ?_
        cbv
        refine ⟨_, rfl, ?_⟩
        simp [LeSt, leVs, leP, St.set, setVs, aget, subHp]
        simp [nxt, h5, g4]
    rintro y hy
    cbv
    refine splitBool (fun e5 => ?_) (fun e5 => ?_)
    · have hy1 : nxt t down D n d k = true := by rw [← hy, e5]
      have := nextOf_len t down D n d k
      cbv
      refine ⟨⟨by subst hA; simp only [ar, ints_len, List.length_cons, List.length_nil]; ((try simp only [ncast, Int.ofNat_eq_natCast] at *); omega), trivial⟩, ?_⟩
      refine ⟨by subst hA; simp only [ar, inI64]; ((try simp only [ncast, Int.ofNat_eq_natCast] at *); omega), ?_⟩
      refine ⟨k + 1, ⟨hlt, by omega⟩, ?_⟩
      subst hA
      simp [LeSt, leVs, leP, St.set, setVs, aget, subHp]
      simp only [ar, takeArcs_succ, List.filter_append, List.filter_cons, List.filter_nil, hy1, if_true]
      simp [ints]
    · have hy1 : nxt t down D n d k = false := by rw [← hy, e5]
      cbv
      refine ⟨by subst hA; simp only [ar, inI64]; ((try simp only [ncast, Int.ofNat_eq_natCast] at *); omega), ?_⟩
      refine ⟨k + 1, ⟨hlt, by omega⟩, ?_⟩
      subst hA
      simp [LeSt, leVs, leP, St.set, setVs, aget, subHp]
      simp [ar, takeArcs_succ, List.filter_append, List.filter_cons, hy1]
  · have hge : k = 2 * t.links.length := by subst hA; simp [ar, lks] at e4; ((try simp only [ncast, Int.ofNat_eq_natCast] at *); omega)
    cbv
    subst hA
    refine Or.inl ?_
    rw [hge]
    simp [ar, nextOf]
theorem search_ok {t : Topo} {down : List Bool} {d : Int} (h1 : (searchOf t down d false).2 = 0) :
    fitsOf t down = true ∧ (0 ≤ d ∧ d < t.nodes) ∧ searchOf t down d false = (distOf t down d false, 0) ∧ IsDist t down d false (distOf t down d false) ∧ (∀ i, at0 (distOf t down d false) i ≤ 4194304) := by
  have hf : fitsOf t down = true := by
    unfold searchOf at h1
    split at h1
    · simp at h1
    · simp_all
  have hwd : within d 0 (t.nodes - 1) = true := by
    unfold searchOf at h1
    rw [if_neg (by simp [hf])] at h1
    split at h1
    · simp at h1
    · simp_all
  have hd0 : 0 ≤ d ∧ d < t.nodes := by simp [within] at hwd; omega
  obtain ⟨hD, hDb⟩ := distOf_is (down := down) (dir := false) (fits_valid hf) hd0.1 hd0.2
  exact ⟨hf, hd0, by simp [searchOf, hf, hwd], hD, hDb⟩
theorem r_Order (t : Topo) (down : List Bool) (d : Int) :
    FCs 59 [t.pv, .sl 1 (bools down), .int .i64 d] (.tup [.sl 1 (ints (orderOf t down d).1), .int .i64 (orderOf t down d).2]) := by
  refine FCs.intro [(10, 10), (62, 10), (100009, 0)] [0,1,2,3,6,7,8,9,10,11,12,54] (fun A => [t.pvA A, .sl 1 (A.e fun _ => bools down), .int .i64 d]) Try.func59 rfl Try.call59 (by kernel_rfl) (by simp [Try.f59]) ?_
  intro A hA
  cbv
  refine CallV.nm2 (fun a b => .tup [.sl 1 a, .int .i64 b]) _ _ (by subst hA; exact r_Dist t down d) (by subst hA; rfl) (by subst hA; intros; rfl) fun D e g1 g2 => ?_
  cbv
  refine splitBoolF (fun e1 => ?_) (fun e1 => ?_)
  rotate_left
  · have h1 : (searchOf t down d false).2 ≠ 0 := by rw [← g2]; subst hA; simpa [ar] using e1
    have h2 : orderOf t down d = ([], e) := by unfold orderOf; rw [if_pos h1, g2]
    cbv
    subst hA
    refine Or.inr ?_
    rw [h2]
    simp [wk, wks, ar, ints]
  have h1 : (searchOf t down d false).2 = 0 := by rw [← g2]; subst hA; simpa [ar] using e1
  obtain ⟨hf, hd0, hse, hD, hDb⟩ := search_ok h1
  have hv := fits_valid hf
  have hnod := headOk_nodes (valid_head hv)
  have hsp : orderOf t down d = (ordOf t (distOf t down d false), 0) := by unfold orderOf; rw [if_neg (by simp [h1])]
  rw [hse] at g1
  revert g1 hD hDb hsp
  generalize distOf t down d false = L
  intro g1 hD hDb hsp
  have g1 : D = ints L := g1
  have hlen := hD.len
  cbv
  refine LoopK.upd (List Int) (fun p => [(11, .junk), (12, .junk), (54, .junk)]) (fun p => [(10, ⟨3, 1, A.e fun _ => ints p, false⟩)])
    (fun p => Sel t L p) (fun p => ((takeArcs t.nodes.toNat).filter (left L p)).length) [] ?_ ?_ ?_
  · subst hA
    simp [LeSt, leVs, leP, St.set, setVs, aget, subHp]
    simp [ar, ints]
  · exact Sel.nil t L
  rintro out hout
  have hol := hout.len
  cbv
  refine LoopK.upd (Nat × Int) (fun p => [(11, .int .i64 p.2), (12, .int .i64 p.1), (54, .junk)]) (fun p => [(10, ⟨3, 1, A.e fun _ => ints out, false⟩)])
    (fun p => p.1 ≤ t.nodes.toNat ∧ BestOf L out p.1 p.2) (fun p => t.nodes.toNat - p.1) (0, -1) ?_ ?_ ?_
  · subst hA
    simp [LeSt, leVs, leP, St.set, setVs, aget, subHp]
  · exact ⟨Nat.zero_le _, BestOf.start L out⟩
  rintro ⟨k, b⟩ ⟨hk, hb0⟩
  have hb : BestOf L out (k : Int) b := hb0
  clear hb0
  dsimp only at hk
  have hbge := hb.ge
  have hblt := hb.lt
  cbv
  refine splitBool (fun e4 => ?_) (fun e4 => ?_)
  · have hlt : k < t.nodes.toNat := by
      have h : decide (Int.ofNat k < t.nodes) = true := by subst hA; exact e4
      have := of_decide_eq_true h
      ((try simp only [ncast, Int.ofNat_eq_natCast] at *); omega)
    obtain ⟨vk, ek, ik⟩ := ints_atI (D := L) (i := k) (by omega) (by ((try simp only [ncast, Int.ofNat_eq_natCast] at *); omega))
    have ikn : (ints L)[k]? = some [.int .i64 vk] := ik
    cbv
    refine CutC.upd Bool (fun b => [(54, .bool b)]) (fun _ => [(10, ⟨3, 1, A.e fun _ => ints out, false⟩)]) (fun x => x = (left L out k && (decide (b < 0) || decide (at0 L b < at0 L k)))) ?_ ?_
    · cbv
      refine ⟨_, by subst hA; rw [g1]; exact ikn, Int.natCast_nonneg k, ?_⟩
      cbv
      refine splitBoolF (fun e5 => ?_) (fun e5 => ?_)
      · have h5 : ¬ 0 ≤ at0 L k := by rw [← ek]; subst hA; simpa [ar] using e5
        cbv
        refine ⟨_, rfl, ?_⟩
        simp [LeSt, leVs, leP, St.set, setVs, aget, subHp]
        simp [left, h5]
      have h5 : 0 ≤ at0 L k := by rw [← ek]; subst hA; simpa [ar] using e5
      cbv
      refine CallV.bool _ (by subst hA; exact r_Has out k (by omega)) (by subst hA; rfl) fun q1 g3 => ?_
      cbv
      refine splitBoolF (fun e6 => ?_) (fun e6 => ?_)
      · have h6 : left L out k = false := by subst hA; simp [ar, g3] at e6; simp [left, e6]
        cbv
        refine ⟨_, rfl, ?_⟩
        simp [LeSt, leVs, leP, St.set, setVs, aget, subHp]
        simp [h6]
      have h6 : left L out k = true := by subst hA; simp [ar, g3] at e6; simp [left, e6, h5]
      cbv
      refine splitBoolF (fun e7 => ?_) (fun e7 => ?_)
      · have h7 : 0 ≤ b := by subst hA; simpa [ar] using e7
        obtain ⟨vb, eb, ib⟩ := ints_atI (D := L) (i := b) h7 (by ((try simp only [ncast, Int.ofNat_eq_natCast] at *); omega))
        cbv
        refine ⟨_, by subst hA; rw [g1]; exact ikn, Int.natCast_nonneg k, ?_⟩
        cbv
        refine ⟨_, by subst hA; rw [g1]; exact ib, h7, ?_⟩
        cbv
        refine ⟨_, rfl, ?_⟩
        simp [LeSt, leVs, leP, St.set, setVs, aget, subHp]
        subst hA
        rw [ek] at *
        simp only [ar, h6, ← eb, show ¬ b < 0 by omega, decide_false, Bool.false_or, Bool.true_and]
        try rfl
      · have h7 : b < 0 := by subst hA; simpa [ar] using e7
        cbv
        refine ⟨_, rfl, ?_⟩
        simp [LeSt, leVs, leP, St.set, setVs, aget, subHp]
        simp [h6, h7]
    rintro y hy
    cbv
    refine splitBool (fun e5 => ?_) (fun e5 => ?_)
    · rw [e5] at hy
      have hy' := hy.symm
      simp only [Bool.and_eq_true, Bool.or_eq_true, decide_eq_true_eq] at hy'
      cbv
      refine ⟨by subst hA; simp only [ar, inI64]; ((try simp only [ncast, Int.ofNat_eq_natCast] at *); omega), ?_⟩
      have hb2 : BestOf L out ((k + 1 : Nat) : Int) k := hb.take (Int.natCast_nonneg k) hy'.1 hy'.2
      refine ⟨(k + 1, (k : Int)), ⟨⟨hlt, hb2⟩, by dsimp only; omega⟩, ?_⟩
      subst hA
      simp [LeSt, leVs, leP, St.set, setVs, aget, subHp]
      simp [ar]
    · rw [e5] at hy
      cbv
      refine ⟨by subst hA; simp only [ar, inI64]; ((try simp only [ncast, Int.ofNat_eq_natCast] at *); omega), ?_⟩
      have hb2 : BestOf L out ((k + 1 : Nat) : Int) b := hb.keep fun hl => by
        have hy' := hy.symm
        rw [hl] at hy'
        simp at hy'
        exact hy'
      refine ⟨(k + 1, b), ⟨⟨hlt, hb2⟩, by dsimp only; omega⟩, ?_⟩
      subst hA
      simp [LeSt, leVs, leP, St.set, setVs, aget, subHp]
      simp [ar]
  · have hge : k = t.nodes.toNat := by
      have h : decide (Int.ofNat k < t.nodes) = false := by subst hA; exact e4
      have := of_decide_eq_false h
      ((try simp only [ncast, Int.ofNat_eq_natCast] at *); omega)
    have hb' : BestOf L out t.nodes b := by
      have h : (k : Int) = t.nodes := by omega
      rw [← h]; exact hb
    cbv
    refine splitBool (fun e5 => ?_) (fun e5 => ?_)
    · have h5 : b = -1 := by subst hA; simp [ar] at e5; omega
      rw [h5] at hb'
      have hfin := ordOf_eq (hout.done hb')
      cbv
      subst hA
      refine Or.inl ?_
      rw [hsp, hfin]
      simp [ar]
    · have h5 : 0 ≤ b := by subst hA; simpa [ar] using e5
      obtain ⟨s1, s2⟩ := hout.next hb' h5
      cbv
      refine ⟨⟨by subst hA; simp only [ar, ints_len, List.length_cons, List.length_nil]; ((try simp only [ncast, Int.ofNat_eq_natCast] at *); omega), trivial⟩, ?_⟩
      refine ⟨out ++ [b], ⟨s1, s2⟩, ?_⟩
      subst hA
      simp [LeSt, leVs, leP, St.set, setVs, aget, subHp]
      simp [ar, ints]
end Go.Proofs.Ytogehfalhodapaa
namespace Go.Proofs.Ytogehfalhodapaa
open Go Go.Proofs.Ytogehfalhodapaa.Pv
set_option linter.unusedSimpArgs false
set_option linter.unusedVariables false
theorem min_if (a b : Int) : (if b < a then b else a) = min a b := by rw [Int.min_def]; split <;> split <;> omega
theorem foldl_take {α β : Type} {f : β → α → β} {a : β} {l : List α} {k : Nat} {x : α} (h : l[k]? = some x) : (l.take (k + 1)).foldl f a = f ((l.take k).foldl f a) x := by
  rw [take_snoc h, List.foldl_append]; rfl
theorem foldl_inv {α β : Type} {f : β → α → β} {P : β → Prop} : ∀ (l : List α) (a : β), P a → (∀ b x, x ∈ l → P b → P (f b x)) → P (l.foldl f a)
  | [], a, h, _ => h
  | x :: r, a, h, hs => foldl_inv r (f a x) (hs a x List.mem_cons_self h) fun b y hy => hs b y (List.mem_cons_of_mem _ hy)
theorem next_arc {t : Topo} {down : List Bool} {D : List Int} {x d a : Int} (hv : valid t = true) (h : a ∈ nextOf t down D x d) : isArc t a = true := (next_is hv h).arc
theorem CntOk.node {t : Topo} {down : List Bool} {D : List Int} {d most x : Int} {C : List Int} (hv : valid t = true) (h : CntOk t most C) (hx : 0 ≤ x) (hx1 : x < t.nodes) (k : Nat) :
    CntOk t most (((nextOf t down D x d).take k).foldl (cntArc t most x) C) :=
  foldl_inv (P := CntOk t most) _ _ h fun b a ha hb => hb.arc hx hx1 (next_arc hv (List.mem_of_mem_take ha))
theorem r_Count (t : Topo) (down : List Bool) (n d most : Int) (hm : most ≤ 1000000) :
    FCs 40 [t.pv, .sl 1 (bools down), .int .i64 n, .int .i64 d, .int .i64 most] (.tup [.int .i64 (countR t down n d most).1, .int .i64 (countR t down n d most).2]) := by
  refine FCs.intro [(43, 14), (100004, 0)] [0,1,2,3,4,5,10,11,12,13,14,15,16,17,18,19,20,38] (fun A => [t.pvA A, .sl 1 (A.e fun _ => bools down), .int .i64 n, .int .i64 d, .int .i64 most]) Try.func40 rfl Try.call40 (by kernel_rfl) (by simp [Try.f40]) ?_
  intro A hA
  cbv
  refine CallV.nm2 (fun a b => .tup [.sl 1 a, .int .i64 b]) _ _ (by subst hA; exact r_Dist t down d) (by subst hA; rfl) (by subst hA; intros; rfl) fun D e g1 g2 => ?_
  cbv
  refine splitBoolF (fun e1 => ?_) (fun e1 => ?_)
  rotate_left
  · have h1 : (searchOf t down d false).2 ≠ 0 := by rw [← g2]; subst hA; simpa [ar] using e1
    have h2 : countR t down n d most = (0, e) := by unfold countR; rw [if_pos h1, g2]
    cbv
    subst hA
    refine Or.inl ?_
    rw [h2]
  have h1 : (searchOf t down d false).2 = 0 := by rw [← g2]; subst hA; simpa [ar] using e1
  obtain ⟨hf, hd0, hse, hD, hDb⟩ := search_ok h1
  have hv := fits_valid hf
  have hnod := headOk_nodes (valid_head hv)
  have hsp : countR t down n d most = if within n 0 (t.nodes - 1) = false then (0, 2) else if most < 0 then (0, 1) else (at0 (countOf t down (distOf t down d false) d most) n, 0) := by unfold countR; rw [if_neg (by simp [h1])]
  have hor : orderOf t down d = (ordOf t (distOf t down d false), 0) := by unfold orderOf; rw [if_neg (by simp [h1])]
  rw [hse] at g1
  revert g1 hD hDb hsp hor
  generalize distOf t down d false = L
  intro g1 hD hDb hsp hor
  have g1 : D = ints L := g1
  have hlen := hD.len
  cbv
  refine CutC.upd Bool (fun b => [(38, .bool b)]) (fun _ => []) (fun b => b = !within n 0 (t.nodes - 1)) ?_ ?_
  · cbv
    refine splitBoolF (fun e2 => ?_) (fun e2 => ?_)
    · cbv
      refine ⟨_, rfl, ?_⟩
      simp [LeSt, leVs, leP, St.set, setVs, aget, subHp]
      subst hA; simp only [ar] at e2; simp only [ar, within_nodes, e2, Bool.false_or, Bool.not_not]
      try rfl
    · cbv
      refine ⟨_, rfl, ?_⟩
      simp [LeSt, leVs, leP, St.set, setVs, aget, subHp]
      subst hA; simp only [ar] at e2; simp [ar, within_nodes, e2]
  rintro x hx
  cbv
  refine splitBoolF (fun e2 => ?_) (fun e2 => ?_)
  rotate_left
  · have hw : within n 0 (t.nodes - 1) = false := by simpa [e2] using hx
    cbv
    subst hA
    refine Or.inl ?_
    rw [hsp]
    simp [hw]
  have hw : within n 0 (t.nodes - 1) = true := by simpa [e2] using hx
  have hs : 0 ≤ n ∧ n < t.nodes := by simp [within] at hw; omega
  cbv
  refine splitBoolF (fun e3 => ?_) (fun e3 => ?_)
  rotate_left
  · have h3 : most < 0 := by subst hA; simpa [ar] using e3
    cbv
    subst hA
    refine Or.inl ?_
    rw [hsp]
    simp [hw, h3]
  have h3 : 0 ≤ most := by subst hA; simpa [ar] using e3
  cbv
  refine ⟨(by subst hA; simp only [ar]; exact ⟨by ((try simp only [ncast, Int.ofNat_eq_natCast] at *); omega), by trivial, by show (8 : Int) * (t.nodes) ≤ 281474976710656; ((try simp only [ncast, Int.ofNat_eq_natCast] at *); omega), by ((try simp only [ncast, Int.ofNat_eq_natCast] at *); omega)⟩), ?_⟩
  refine ⟨by subst hA; simp only [ar, ints_len, List.length_replicate]; ((try simp only [ncast, Int.ofNat_eq_natCast] at *); omega), ?_⟩
  refine ⟨[.int .i64 0], by subst hA; simp only [ar]; rw [List.getElem?_replicate, if_pos (by omega)], Nat.le_refl _, ?_⟩
  cbv
  refine CallV.nm2 (fun a b => .tup [.sl 1 a, .int .i64 b]) _ _ (by subst hA; exact r_Order t down d) (by subst hA; rfl) (by subst hA; intros; rfl) fun O e' g3 g4 => ?_
  rw [hor] at g3
  have g3 : O = ints (ordOf t L) := g3
  have hO := ordOf_is t L
  have hOl := hO.len
  have hcO : countOf t down L d most = (ordOf t L).reverse.foldl (cntNode t down L d most) ((List.replicate t.nodes.toNat 0).set d.toNat (min 1 most)) := rfl
  revert g3 hO hOl hcO
  generalize ordOf t L = ol
  intro g3 hO hOl hcO
  cbv
  refine ⟨by subst hA; rw [g3]; simp only [ar, inI64, ints_len]; ((try simp only [ncast, Int.ofNat_eq_natCast] at *); omega), ?_⟩
  refine LoopK.upd Nat (fun j => [(17, .int .i64 (A.i fun _ => (ol.length : Int) - 1 - j)), (18, .junk), (19, .junk), (20, .junk)]) (fun j => [(14, ⟨3, 1, A.e fun _ => ints ((ol.reverse.take j).foldl (cntNode t down L d most) ((List.replicate t.nodes.toNat 0).set d.toNat (min 1 most))), false⟩)])
    (fun j => j ≤ ol.length ∧ CntOk t most ((ol.reverse.take j).foldl (cntNode t down L d most) ((List.replicate t.nodes.toNat 0).set d.toNat (min 1 most)))) (fun j => ol.length - j) 0 ?_ ?_ ?_
  · subst hA
    simp [LeSt, leVs, leP, St.set, setVs, aget, subHp]
    simp [ar, ints, splice, List.map_set, g3, min_if]
  · exact ⟨Nat.zero_le _, CntOk.start h3 hd0.1 hd0.2⟩
  rintro j ⟨hj, hC⟩
  have hcn : ∀ x, ol.reverse[j]? = some x → (ol.reverse.take (j + 1)).foldl (cntNode t down L d most) ((List.replicate t.nodes.toNat 0).set d.toNat (min 1 most)) = cntNode t down L d most ((ol.reverse.take j).foldl (cntNode t down L d most) ((List.replicate t.nodes.toNat 0).set d.toNat (min 1 most))) x := fun x hx => foldl_take hx
  have hfull : j = ol.length → (ol.reverse.take j).foldl (cntNode t down L d most) ((List.replicate t.nodes.toNat 0).set d.toNat (min 1 most)) = countOf t down L d most := fun h => by
    rw [hcO, h, ← List.length_reverse, List.take_length]
  generalize (ol.reverse.take j).foldl (cntNode t down L d most) ((List.replicate t.nodes.toNat 0).set d.toNat (min 1 most)) = C at hC hcn hfull
  have hCl := hC.len
  cbv
  refine splitBool (fun e4 => ?_) (fun e4 => ?_)
  · have hlt : j < ol.length := by
      have h : decide (0 ≤ (ol.length : Int) - 1 - j) = true := by subst hA; exact e4
      have := of_decide_eq_true h
      ((try simp only [ncast, Int.ofNat_eq_natCast] at *); omega)
    obtain ⟨z, hz, hz'⟩ := ints_atN (xs := ol) (k := ol.length - 1 - j) (by omega)
    have hzm := ((hO.mem z).1 (List.mem_of_getElem? hz)).1
    have hzr : ol.reverse[j]? = some z := by rw [List.getElem?_reverse (by omega)]; exact hz
    have hzi : (ints ol)[((ol.length : Int) - 1 - j).toNat]? = some [.int .i64 z] := by rw [show ((ol.length : Int) - 1 - j).toNat = ol.length - 1 - j by omega]; exact hz'
    have hcn' := hcn z hzr
    cbv
    refine ⟨_, by subst hA; rw [g3]; exact hzi, by subst hA; simp only [ar]; ((try simp only [ncast, Int.ofNat_eq_natCast] at *); omega), ?_⟩
    cbv
    refine CallV.sl _ _ (by subst hA; rw [g1]; exact r_next t down L z d hf hlen hDb hD.low') (by subst hA; rfl) (by subst hA; rfl) fun N g5 => ?_
    have hNl := nextOf_len t down L z d (2 * t.links.length)
    rw [show (takeArcs (2 * t.links.length)).filter (nxt t down L z d) = nextOf t down L z d from rfl] at hNl
    have hnode := fun k => hC.node (down := down) (D := L) (d := d) hv hzm.1 hzm.2 k
    have hna := fun a => next_arc (t := t) (down := down) (D := L) (x := z) (d := d) (a := a) hv
    have hcz : cntNode t down L d most C z = (nextOf t down L z d).foldl (cntArc t most z) C := rfl
    rw [hcz] at hcn'
    generalize nextOf t down L z d = nl at g5 hNl hnode hna hcn'
    cbv
    refine LoopK.upd Nat (fun k => [(19, .int .i64 k), (20, .junk)]) (fun k => [(14, ⟨3, 1, A.e fun _ => ints ((nl.take k).foldl (cntArc t most z) C), false⟩)])
      (fun k => k ≤ nl.length) (fun k => nl.length - k) 0 ?_ ?_ ?_
    · subst hA
      simp [LeSt, leVs, leP, St.set, setVs, aget, subHp]
    · exact Nat.zero_le _
    rintro k hk
    have hCk := hnode k
    have hst : ∀ a, nl[k]? = some a → (nl.take (k + 1)).foldl (cntArc t most z) C = cntArc t most z ((nl.take k).foldl (cntArc t most z) C) a := fun a ha => foldl_take ha
    have hfl : k = nl.length → (nl.take k).foldl (cntArc t most z) C = nl.foldl (cntArc t most z) C := fun h => by rw [h, List.take_length]
    generalize (nl.take k).foldl (cntArc t most z) C = C' at hCk hst hfl
    have hCkl := hCk.len
    cbv
    refine splitBool (fun e5 => ?_) (fun e5 => ?_)
    · have hlt2 : k < nl.length := by
        have h : decide ((k : Int) < (ints nl).length) = true := by subst hA; rw [g5] at e5; exact e5
        have := of_decide_eq_true h
        rw [ints_len] at this
        ((try simp only [ncast, Int.ofNat_eq_natCast] at *); omega)
      obtain ⟨a, ha, ha'⟩ := ints_atN (xs := nl) (k := k) hlt2
      have harc := hna a (List.mem_of_getElem? ha)
      have hok := arc_ok harc
      obtain ⟨vh, eh, ih⟩ := ints_atI (D := C') (i := headOf t a) hok.2.2.1 (by ((try simp only [ncast, Int.ofNat_eq_natCast] at *); omega))
      obtain ⟨vz, ez, iz⟩ := ints_atI (D := C') (i := z) hzm.1 (by ((try simp only [ncast, Int.ofNat_eq_natCast] at *); omega))
      have b1 := hCk.bnd z hzm.1 hzm.2
      have b2 := hCk.bnd (headOf t a) hok.2.2.1 hok.2.2.2.1
      rw [← ez] at b1
      rw [← eh] at b2
      cbv
      refine ⟨_, by subst hA; rw [g5]; exact ha', Int.natCast_nonneg k, ?_⟩
      cbv
      refine CallV.int _ _ (by subst hA; exact r_Head t a) (by subst hA; rfl) fun q2 g6 => ?_
      cbv
      refine ⟨by rw [g6]; subst hA; simp only [ar, ints_len]; ((try simp only [ncast, Int.ofNat_eq_natCast] at *); omega), ?_⟩
      refine ⟨_, by rw [g6]; subst hA; exact ih, ?_⟩
      cbv
      refine ⟨_, by subst hA; rw [g3]; exact hzi, by subst hA; simp only [ar]; ((try simp only [ncast, Int.ofNat_eq_natCast] at *); omega), ?_⟩
      cbv
      refine ⟨by subst hA; simp only [ar, ints_len]; ((try simp only [ncast, Int.ofNat_eq_natCast] at *); omega), ?_⟩
      refine ⟨_, by subst hA; exact iz, ?_⟩
      cbv
      refine ⟨_, by subst hA; rw [g3]; exact hzi, by subst hA; simp only [ar]; ((try simp only [ncast, Int.ofNat_eq_natCast] at *); omega), ?_⟩
      cbv
      refine ⟨by subst hA; simp only [ar, ints_len]; ((try simp only [ncast, Int.ofNat_eq_natCast] at *); omega), ?_⟩
      refine ⟨_, by subst hA; exact iz, ?_⟩
      cbv
      refine ⟨by subst hA; simp only [ar, inI64]; ((try simp only [ncast, Int.ofNat_eq_natCast] at *); omega), ?_⟩
      refine ⟨by subst hA; simp only [ar, inI64, min_if]; ((try simp only [ncast, Int.ofNat_eq_natCast] at *); omega), by subst hA; simp only [ar, ints_len]; ((try simp only [ncast, Int.ofNat_eq_natCast] at *); omega), ?_⟩
      refine ⟨_, by subst hA; exact iz, Nat.le_refl _, ?_⟩
      cbv
      refine ⟨by subst hA; simp only [ar, inI64]; ((try simp only [ncast, Int.ofNat_eq_natCast] at *); omega), ?_⟩
      refine ⟨k + 1, ⟨hlt2, by omega⟩, ?_⟩
      subst hA
      simp [LeSt, leVs, leP, St.set, setVs, aget, subHp]
      rw [hst a ha]
      simp [ar, cntArc, splice, ints, List.map_set, ← ez, ← eh]
      refine congrArg (fun q : Int => (List.map (fun x => [PV.int IntKind.i64 x]) C').set z.toNat [PV.int IntKind.i64 q]) ?_
      show vz + (if most - vz < vh then most - vz else vh) = _
      rw [min_if]
    · have hge : k = nl.length := by
        have h : decide ((k : Int) < (ints nl).length) = false := by subst hA; rw [g5] at e5; exact e5
        have := of_decide_eq_false h
        rw [ints_len] at this
        ((try simp only [ncast, Int.ofNat_eq_natCast] at *); omega)
      cbv
      refine ⟨by subst hA; simp only [ar, inI64]; ((try simp only [ncast, Int.ofNat_eq_natCast] at *); omega), ?_⟩
      refine ⟨j + 1, ⟨⟨hlt, ?_⟩, by omega⟩, ?_⟩
      · rw [hcn', ← hfl hge]; exact hCk
      · subst hA
        simp [LeSt, leVs, leP, St.set, setVs, aget, subHp]
        rw [hcn', ← hfl hge]
        simp only [ar]
        exact ⟨by ((try simp only [ncast, Int.ofNat_eq_natCast] at *); omega), trivial⟩
  · have hge : j = ol.length := by
      have h : decide (0 ≤ (ol.length : Int) - 1 - j) = false := by subst hA; exact e4
      have := of_decide_eq_false h
      ((try simp only [ncast, Int.ofNat_eq_natCast] at *); omega)
    obtain ⟨vn, en, iN⟩ := ints_atI (D := C) (i := n) hs.1 (by ((try simp only [ncast, Int.ofNat_eq_natCast] at *); omega))
    cbv
    refine ⟨by subst hA; simp only [ar, ints_len]; ((try simp only [ncast, Int.ofNat_eq_natCast] at *); omega), ?_⟩
    refine ⟨_, by subst hA; exact iN, ?_⟩
    cbv
    subst hA
    refine Or.inl ?_
    rw [hsp]
    simp [ar, hw, show ¬ most < 0 by omega, en, hfull hge]
theorem r_Unique (t : Topo) (down : List Bool) (n d : Int) :
    FCs 18 [t.pv, .sl 1 (bools down), .int .i64 n, .int .i64 d] (.bool (uniqOf t down n d)) := by
  refine FCs.intro [] [0,1,2,3,4,8,9,10] (fun A => [t.pvA A, .sl 1 (A.e fun _ => bools down), .int .i64 n, .int .i64 d]) Try.func18 rfl Try.call18 (by kernel_rfl) (by simp [Try.f18]) ?_
  intro A hA
  cbv
  refine CallV.nm2 (fun a b => .tup [.int .i64 a, .int .i64 b]) _ _ (by subst hA; exact r_Count t down n d 2 (by omega)) (by subst hA; rfl) (by subst hA; intros; rfl) fun c e g1 g2 => ?_
  cbv
  refine splitBoolF (fun e1 => ?_) (fun e1 => ?_)
  · have h1 : ¬ (countR t down n d 2).2 = 0 := by rw [← g2]; subst hA; simpa [ar] using e1
    cbv
    (subst hA; refine Or.inl ?_; simp [ar, uniqOf, h1])
  · have h1 : (countR t down n d 2).2 = 0 := by rw [← g2]; subst hA; simpa [ar] using e1
    cbv
    (subst hA; refine Or.inl ?_; simp [ar, uniqOf, h1, g1])
end Go.Proofs.Ytogehfalhodapaa
namespace Go.Proofs.Ytogehfalhodapaa
open Go Go.Proofs.Ytogehfalhodapaa.Pv
set_option linter.unusedSimpArgs false
set_option linter.unusedVariables false
set_option maxHeartbeats 4000000 in
theorem c_Path11 (t : Topo) (down : List Bool) (s d : Int) :
    FCs 44 [t.pv, .sl 1 (bools down), .int .i64 s, .int .i64 d] (.tup [.sl 1 (ints (spathOf t down s d).1), .int .i64 (spathOf t down s d).2]) := by
  refine FCs.intro [(12, 12), (97, 12), (100004, 0), (100015, 0)] [0,1,2,3,4,8,9,10,11,12,13,15,16,24,28,37,49,50,51,93] (fun A => [t.pvA A, .sl 1 (A.e fun _ => bools down), .int .i64 s, .int .i64 d]) Try.func44 rfl Try.call44 (by kernel_rfl) (by simp [Try.f44]) ?_
  intro A hA
  cbv
  refine CallV.nm2 (fun a b => .tup [.sl 1 a, .int .i64 b]) _ _ (by subst hA; exact c_Dist t down d) (by subst hA; rfl) (by subst hA; intros; rfl) fun D e g1 g2 => ?_
  cbv
  refine splitBoolF (fun e1 => ?_) (fun e1 => ?_)
  rotate_left
  · have h1 : (searchOf t down d false).2 ≠ 0 := by rw [← g2]; subst hA; simpa [ar] using e1
    have h2 : spathOf t down s d = ([], e) := by
      rw [g2]
      unfold spathOf
      unfold searchOf at h1 ⊢
      split
      · rfl
      · split
        · simp_all
        · simp_all
    cbv
    subst hA
    refine Or.inr ?_
    rw [h2]
    simp [wk, wks, ar, ints]
  have h1 : (searchOf t down d false).2 = 0 := by rw [← g2]; subst hA; simpa [ar] using e1
  obtain ⟨hf, hd0, hse, hD, hDb⟩ := search_ok h1
  have hv := fits_valid hf
  have hnod := headOk_nodes (valid_head hv)
  have hwd : within d 0 (t.nodes - 1) = true := by simp [within]; omega
  have hsp : spathOf t down s d = if within s 0 (t.nodes - 1) = false then ([], 2) else if at0 (distOf t down d false) s < 0 then ([], 11) else (spOf t down (distOf t down d false) d s, 0) := by simp [spathOf, hf, hwd]
  rw [hse] at g1
  generalize distOf t down d false = L at g1 hD hDb hsp
  have g1 : D = ints L := g1
  have hlen := hD.len
  cbv
  refine CutC.upd Bool (fun b => [(28, .bool b)]) (fun _ => []) (fun b => b = !within s 0 (t.nodes - 1)) ?_ ?_
  · cbv
    refine splitBoolF (fun e2 => ?_) (fun e2 => ?_)
    · cbv
      refine ⟨_, rfl, ?_⟩
      simp [LeSt, leVs, leP, St.set, setVs, aget, subHp]
      subst hA; simp only [ar] at e2; simp only [ar, within_nodes, e2, Bool.false_or, Bool.not_not]
      try rfl
    · cbv
      refine ⟨_, rfl, ?_⟩
      simp [LeSt, leVs, leP, St.set, setVs, aget, subHp]
      subst hA; simp only [ar] at e2; simp [ar, within_nodes, e2]
  rintro x hx
  cbv
  refine splitBoolF (fun e2 => ?_) (fun e2 => ?_)
  rotate_left
  · have hw : within s 0 (t.nodes - 1) = false := by simpa [e2] using hx
    cbv
    subst hA
    refine Or.inr ?_
    rw [hsp]
    simp [wk, wks, ar, hw, ints]
  have hw : within s 0 (t.nodes - 1) = true := by simpa [e2] using hx
  have hs : 0 ≤ s ∧ s < t.nodes := by simp [within] at hw; omega
  obtain ⟨vs, es, is⟩ := ints_atI (D := L) (i := s) hs.1 (by ((try simp only [ncast, Int.ofNat_eq_natCast] at *); omega))
  cbv
  refine ⟨_, by subst hA; rw [g1]; exact is, hs.1, ?_⟩
  cbv
  refine splitBoolF (fun e3 => ?_) (fun e3 => ?_)
  rotate_left
  · have h3 : at0 L s < 0 := by rw [← es]; subst hA; simpa [ar] using e3
    cbv
    subst hA
    refine Or.inr ?_
    rw [hsp]
    simp [wk, wks, ar, hw, h3, ints]
  have h3 : 0 ≤ at0 L s := by rw [← es]; subst hA; simpa [ar] using e3
  cbv
  refine LoopK.upd (List Int × Int) (fun p => [(13, .int .i64 p.2), (15, .junk), (16, .junk), (49, .junk), (50, .junk), (51, .junk), (93, .junk)]) (fun p => [(12, ⟨3, 1, A.e fun _ => ints p.1, false⟩)])
    (fun p => 0 ≤ p.2 ∧ p.2 < t.nodes ∧ 0 ≤ at0 L p.2 ∧ p.1 ++ spOf t down L d p.2 = spOf t down L d s ∧ (p.1.length : Int) + at0 L p.2 ≤ 4194304) (fun p => (at0 L p.2).toNat) ([], s) ?_ ?_ ?_
  · subst hA
    simp [LeSt, leVs, leP, St.set, setVs, aget, subHp]
    simp [ar, ints]
  · exact ⟨hs.1, hs.2, h3, rfl, by have := hDb s; simp; omega⟩
  rintro ⟨out, n⟩ ⟨hn0, hn1, hn2, hout, hlo⟩
  dsimp only at hn0 hn1 hn2 hout hlo
  cbv
  refine splitBool (fun e4 => ?_) (fun e4 => ?_)
  · have h4 : n ≠ d := by subst hA; simpa [ar] using e4
    cbv
    refine CallV.sl _ _ (by subst hA; exact c_Out t n) (by subst hA; rfl) (by subst hA; rfl) fun os g3 => ?_
    have hno := next_out hv down L n d
    have hmem := fun a (h : a ∈ outOf t n) => (arcsDir_mem (dir := true) hv).1 (show a ∈ arcsDir t n true from h)
    have hsome := nextOf_some hD hn0 hn1 h4 hn2
    have hLn : (outOf t n).length ≤ 512 := by
      rw [show outOf t n = arcsDir t n true from rfl, arcsDir_eq hv]
      have := List.length_filter_le (fun a => decide (viaY t true a = n)) (takeArcs (2 * t.links.length))
      have h2 : (takeArcs (2 * t.links.length)).length = 2 * t.links.length := by simp [takeArcs]
      have := hnod.2.2
      omega
    rw [hno] at hsome
    generalize outOf t n = ol at g3 hno hmem hLn hsome
    obtain ⟨vn, en, iN⟩ := ints_atI (D := L) (i := n) hn0 (by ((try simp only [ncast, Int.ofNat_eq_natCast] at *); omega))
    cbv
    refine LoopK.upd Nat (fun k => [(51, .int .i64 k), (15, .junk), (16, .junk), (93, .junk)]) (fun p => [(12, ⟨3, 1, A.e fun _ => ints out, false⟩)])
      (fun k => k ≤ ol.length ∧ ∀ (i : Nat) (x : Int), i < k → ol[i]? = some x → onOf t down L x d = false) (fun k => ol.length - k) 0 ?_ ?_ ?_
    · subst hA
      simp [LeSt, leVs, leP, St.set, setVs, aget, subHp]
    · exact ⟨Nat.zero_le _, fun i x h => by omega⟩
    rintro k ⟨hk, hnon⟩
    cbv
    refine splitBool (fun e5 => ?_) (fun e5 => ?_)
    · have hlt : k < ol.length := by
        have h : decide (Int.ofNat k < ((ints ol).length : Int)) = true := by subst hA; rw [g3] at e5; exact e5
        have := of_decide_eq_true h
        rw [ints_len] at this
        ((try simp only [ncast, Int.ofNat_eq_natCast] at *); omega)
      obtain ⟨a, ha, ha'⟩ := ints_atN (xs := ol) (k := k) hlt
      obtain ⟨harc, hvia⟩ := hmem a (List.mem_of_getElem? ha)
      have htl : tailOf t a = n := hvia
      have hok := arc_ok harc
      obtain ⟨vh, eh, ih⟩ := ints_atI (D := L) (i := headOf t a) hok.2.2.1 (by ((try simp only [ncast, Int.ofNat_eq_natCast] at *); omega))
      have hbh := hDb (headOf t a)
      rw [← eh] at hbh
      cbv
      refine ⟨_, by subst hA; rw [g3]; exact ha', Int.natCast_nonneg k, ?_⟩
      cbv
      refine CallV.int _ _ (by subst hA; exact c_Head t a) (by subst hA; rfl) fun q1 g4 => ?_
      rw [← g4] at ih
      have hq0 : 0 ≤ q1 := by rw [g4]; exact hok.2.2.1
      cbv
      refine CutC.upd Bool (fun b => [(93, .bool b)]) (fun _ => [(12, ⟨3, 1, A.e fun _ => ints out, false⟩)]) (fun b => b = onOf t down L a d) ?_ ?_
      · cbv
        refine CallV.bool _ (by subst hA; exact c_up11 down a (fits_up hf harc)) (by subst hA; rfl) fun q2 g5 => ?_
        cbv
        refine splitBoolF (fun e6 => ?_) (fun e6 => ?_)
        · have h6 : upOf down a = false := by rw [← g5, e6]
          cbv
          refine ⟨_, rfl, ?_⟩
          simp [LeSt, leVs, leP, St.set, setVs, aget, subHp]
          simp [onOf, h6]
        have h6 : upOf down a = true := by rw [← g5, e6]
        cbv
        refine ⟨_, by subst hA; rw [g1]; exact ih, hq0, ?_⟩
        cbv
        refine splitBoolF (fun e7 => ?_) (fun e7 => ?_)
        · have h7 : ¬ 0 ≤ at0 L (headOf t a) := by
            have h : decide (0 ≤ vh) = false := by subst hA; exact e7
            rw [← eh]; exact of_decide_eq_false h
          cbv
          refine ⟨_, rfl, ?_⟩
          simp [LeSt, leVs, leP, St.set, setVs, aget, subHp]
          simp [onOf, h6, h7]
        have h7 : 0 ≤ vh := by
          have h : decide (0 ≤ vh) = true := by subst hA; exact e7
          exact of_decide_eq_true h
        cbv
        refine splitBoolF (fun e8 => ?_) (fun e8 => ?_)
        · have h8 : ¬ headOf t a = d := by
            have h : decide (q1 = d) = false := by subst hA; exact e8
            rw [← g4]; exact of_decide_eq_false h
          cbv
          refine CallV.bool _ (by subst hA; exact c_Overloaded t q1) (by subst hA; rfl) fun q3 g6 => ?_
          cbv
          rw [g4] at g6
          refine splitBoolF (fun e9 => ?_) (fun e9 => ?_)
          · have h9 : overOf t (headOf t a) = true := by
              have h : (!q3) = false := by subst hA; exact e9
              rw [← g6]; simpa using h
            cbv
            refine ⟨_, rfl, ?_⟩
            simp [LeSt, leVs, leP, St.set, setVs, aget, subHp]
            simp [onOf, transOf, h8, h9]
          have h9 : overOf t (headOf t a) = false := by
            have h : (!q3) = true := by subst hA; exact e9
            rw [← g6]; simpa using h
          have htr : transOf t (headOf t a) d = true := by simp [transOf, h9]
          cbv
          refine ⟨_, by subst hA; rw [g1]; exact iN, hn0, ?_⟩
          cbv
          refine ⟨_, by subst hA; rw [g1]; exact ih, hq0, ?_⟩
          cbv
          refine CallV.int _ _ (by subst hA; exact c_Cost t a) (by subst hA; rfl) fun q4 g7 => ?_
          cbv
          refine ⟨by subst hA; simp only [ar, inI64]; ((try simp only [ncast, Int.ofNat_eq_natCast] at *); omega), ?_⟩
          refine ⟨_, rfl, ?_⟩
          subst hA
          simp [LeSt, leVs, leP, St.set, setVs, aget, subHp]
          have h7' : 0 ≤ at0 L (headOf t a) := by rw [← eh]; exact h7
          simp only [ar, g7, en, eh, onOf, h6, htr, htl, decide_eq_true h4, decide_eq_true h7', Bool.true_and, Bool.and_true, ne_eq]
          try simp
        have h8 : headOf t a = d := by
          have h : decide (q1 = d) = true := by subst hA; exact e8
          rw [← g4]; exact of_decide_eq_true h
        have htr : transOf t (headOf t a) d = true := by simp [transOf, h8]
        cbv
        refine ⟨_, by subst hA; rw [g1]; exact iN, hn0, ?_⟩
        cbv
        refine ⟨_, by subst hA; rw [g1]; exact ih, hq0, ?_⟩
        cbv
        refine CallV.int _ _ (by subst hA; exact c_Cost t a) (by subst hA; rfl) fun q4 g7 => ?_
        cbv
        refine ⟨by subst hA; simp only [ar, inI64]; ((try simp only [ncast, Int.ofNat_eq_natCast] at *); omega), ?_⟩
        refine ⟨_, rfl, ?_⟩
        subst hA
        simp [LeSt, leVs, leP, St.set, setVs, aget, subHp]
        have h7' : 0 ≤ at0 L (headOf t a) := by rw [← eh]; exact h7
        simp only [ar, g7, en, eh, onOf, h6, htr, htl, decide_eq_true h4, decide_eq_true h7', Bool.true_and, Bool.and_true, ne_eq]
        try simp
      rintro b hb
      cbv
      refine splitBool (fun e7 => ?_) (fun e7 => ?_)
      · rw [e7] at hb
        have hb := hb.symm
        have hnx : ∃ r, nextOf t down L n d = a :: r := by rw [hno]; exact filter_first ha hb hnon
        obtain ⟨r, hr⟩ := hnx
        have hni := next_is hv (by rw [hr]; exact List.mem_cons_self : a ∈ nextOf t down L n d)
        have hst := spOf_step hv hD h4 hr
        have hneq := hni.eq
        have hpos := hni.pos
        cbv
        refine ⟨⟨by subst hA; simp only [ar, ints_len, List.length_cons, List.length_nil]; ((try simp only [ncast, Int.ofNat_eq_natCast] at *); omega), by trivial⟩, ?_⟩
        refine ⟨(out ++ [a], q1), ⟨⟨by rw [g4]; exact hok.2.2.1, by rw [g4]; exact hok.2.2.2.1, by rw [g4]; exact hpos, ?_, ?_⟩, ?_⟩, ?_⟩
        · dsimp only
          rw [g4, ← hout, hst, List.append_assoc]; rfl
        · dsimp only
          rw [g4, List.length_append]; simp; ((try simp only [ncast, Int.ofNat_eq_natCast] at *); omega)
        · dsimp only
          rw [g4]; omega
        · subst hA
          simp [LeSt, leVs, leP, St.set, setVs, aget, subHp]
          simp [ar, ints]
      · rw [e7] at hb
        have hb := hb.symm
        cbv
        refine ⟨by subst hA; simp only [ar, inI64]; ((try simp only [ncast, Int.ofNat_eq_natCast] at *); omega), ?_⟩
        refine ⟨k + 1, ⟨⟨hlt, fun i x hi hx => ?_⟩, by omega⟩, ?_⟩
        · by_cases e : i = k
          · rw [e, ha] at hx; rw [← Option.some.inj hx]; exact hb
          · exact hnon i x (by omega) hx
        · subst hA
          simp [LeSt, leVs, leP, St.set, setVs, aget, subHp]
          simp [ar]
    · exfalso
      have hge : k = ol.length := by
        have h : decide (Int.ofNat k < ((ints ol).length : Int)) = false := by subst hA; rw [g3] at e5; exact e5
        have := of_decide_eq_false h
        rw [ints_len] at this
        ((try simp only [ncast, Int.ofNat_eq_natCast] at *); omega)
      obtain ⟨a, ha⟩ := hsome
      obtain ⟨m1, m2⟩ := List.mem_filter.1 ha
      obtain ⟨i, hi, e⟩ := List.mem_iff_getElem.1 m1
      rw [hnon i a (by omega) (by rw [← e]; exact List.getElem?_eq_getElem hi)] at m2
      cases m2
  · have h4 : n = d := by subst hA; simpa [ar] using e4
    have hfin : out = spOf t down L d s := by rw [← hout, h4, spOf_end hD, List.append_nil]
    cbv
    subst hA
    refine Or.inl ?_
    rw [hsp]
    simp [ar, hw, hfin, show ¬ at0 L s < 0 by omega]
end Go.Proofs.Ytogehfalhodapaa
namespace Go.Proofs.Ytogehfalhodapaa
open Go Go.Proofs.Ytogehfalhodapaa.Pv
set_option linter.unusedSimpArgs false
set_option linter.unusedVariables false
/-! the graph of shortest paths: towards, next -/
noncomputable def towE (t : Topo) (down : List Bool) (n d : Int) : Int :=
  if (searchOf t down d false).2 ≠ 0 then (searchOf t down d false).2 else if within n 0 (t.nodes - 1) = false then 2 else 0
def Topo.cs (t : Topo) : List PV := [.int .i64 t.nodes, .sl 1 (bools t.over), .sl 7 (lks t.links)]
def grph (t : Topo) (down : List Bool) (d : Int) (D : List Int) : PV := .agg [.int .i64 t.nodes, .sl 1 (bools t.over), .sl 7 (lks t.links), .sl 1 (bools down), .int .i64 d, .sl 1 (ints D)]
def grph0 : PV := .agg [.int .i64 0, .nilsl, .nilsl, .nilsl, .int .i64 0, .nilsl]
set_option maxHeartbeats 1000000 in
theorem c_towards_ok (t : Topo) (down : List Bool) (n d : Int) (h : towE t down n d = 0) :
    FCs 80 [t.pv, .sl 1 (bools down), .int .i64 n, .int .i64 d] (.tup [grph t down d (distOf t down d false), .int .i64 0]) := by
  have h1 : (searchOf t down d false).2 = 0 := by
    unfold towE at h
    split at h
    · exact h
    · rename_i q; exact Decidable.of_not_not q
  have hw : within n 0 (t.nodes - 1) = true := by
    unfold towE at h
    rw [if_neg (by simp [h1])] at h
    split at h
    · simp at h
    · simp_all
  obtain ⟨hf, hd0, hse, hD, hDb⟩ := search_ok h1
  refine FCs.intro [(8, 8), (100002, 0)] [0,1,2,3,4,8,9,10,11,30] (fun A => [t.pvA A, .sl 1 (A.e fun _ => bools down), .int .i64 n, .int .i64 d]) Try.func80 rfl Try.call80 (by kernel_rfl) (by simp [Try.f80]) ?_
  intro A hA
  cbv
  refine CallV.nm2 (fun a b => .tup [.sl 1 a, .int .i64 b]) _ _ (by subst hA; exact c_Dist t down d) (by subst hA; rfl) (by subst hA; intros; rfl) fun D e g1 g2 => ?_
  cbv
  refine CutC.upd Bool (fun b => [(30, .bool b)]) (fun _ => [(8, ⟨91, 6, [[.int .i64 0, .nilsl, .nilsl, .nilsl, .int .i64 0, .nilsl]], true⟩)]) (fun b => b = (decide (e = 0) && !within n 0 (t.nodes - 1))) ?_ ?_
  · cbv
    refine splitBoolF (fun e1 => ?_) (fun e1 => ?_)
    · have h1 : decide (e = 0) = false := by subst hA; exact e1
      cbv
      refine ⟨_, rfl, ?_⟩
      simp [LeSt, leVs, leP, St.set, setVs, aget, subHp]
      intro h; exact absurd h (of_decide_eq_false h1)
    have h1 : decide (e = 0) = true := by subst hA; exact e1
    cbv
    refine splitBoolF (fun e2 => ?_) (fun e2 => ?_)
    · cbv
      refine ⟨_, rfl, ?_⟩
      simp [LeSt, leVs, leP, St.set, setVs, aget, subHp]
      have h1 := of_decide_eq_true h1
      subst hA; simp only [ar] at e2; simp [ar, within_nodes, e2, h1]; try rfl
    · cbv
      refine ⟨_, rfl, ?_⟩
      simp [LeSt, leVs, leP, St.set, setVs, aget, subHp]
      have h1 := of_decide_eq_true h1
      subst hA; simp only [ar] at e2; simp [ar, within_nodes, e2, h1]; try rfl
  rintro x hx
  cbv
  rw [g2, h1, hw] at hx
  rw [h1] at g2
  rw [hse] at g1
  refine splitFalse (by simpa using hx) ?_
  cbv
  refine splitFalse (by subst hA; rw [g2]; rfl) ?_
  cbv
  subst hA
  exact Or.inl (by rw [g1]; rfl)
set_option maxHeartbeats 1000000 in
theorem c_towards_err (t : Topo) (down : List Bool) (n d : Int) (h : towE t down n d ≠ 0) :
    FCs 80 [t.pv, .sl 1 (bools down), .int .i64 n, .int .i64 d] (.tup [grph0, .int .i64 (towE t down n d)]) := by
  refine FCs.intro [(8, 8), (100002, 0)] [0,1,2,3,4,8,9,10,11,30] (fun A => [t.pvA A, .sl 1 (A.e fun _ => bools down), .int .i64 n, .int .i64 d]) Try.func80 rfl Try.call80 (by kernel_rfl) (by simp [Try.f80]) ?_
  intro A hA
  cbv
  refine CallV.nm2 (fun a b => .tup [.sl 1 a, .int .i64 b]) _ _ (by subst hA; exact c_Dist t down d) (by subst hA; rfl) (by subst hA; intros; rfl) fun D e g1 g2 => ?_
  cbv
  refine CutC.upd Bool (fun b => [(30, .bool b)]) (fun _ => [(8, ⟨91, 6, [[.int .i64 0, .nilsl, .nilsl, .nilsl, .int .i64 0, .nilsl]], true⟩)]) (fun b => b = (decide (e = 0) && !within n 0 (t.nodes - 1))) ?_ ?_
  · cbv
    refine splitBoolF (fun e1 => ?_) (fun e1 => ?_)
    · have h1 : decide (e = 0) = false := by subst hA; exact e1
      cbv
      refine ⟨_, rfl, ?_⟩
      simp [LeSt, leVs, leP, St.set, setVs, aget, subHp]
      intro h; exact absurd h (of_decide_eq_false h1)
    have h1 : decide (e = 0) = true := by subst hA; exact e1
    cbv
    refine splitBoolF (fun e2 => ?_) (fun e2 => ?_)
    · cbv
      refine ⟨_, rfl, ?_⟩
      simp [LeSt, leVs, leP, St.set, setVs, aget, subHp]
      have h1 := of_decide_eq_true h1
      subst hA; simp only [ar] at e2; simp [ar, within_nodes, e2, h1]; try rfl
    · cbv
      refine ⟨_, rfl, ?_⟩
      simp [LeSt, leVs, leP, St.set, setVs, aget, subHp]
      have h1 := of_decide_eq_true h1
      subst hA; simp only [ar] at e2; simp [ar, within_nodes, e2, h1]; try rfl
  rintro x hx
  cbv
  by_cases h1 : (searchOf t down d false).2 = 0
  · have hw : within n 0 (t.nodes - 1) = false := by
      unfold towE at h
      rw [if_neg (by simp [h1])] at h
      split at h
      · assumption
      · simp at h
    have he : towE t down n d = 2 := by unfold towE; rw [if_neg (by simp [h1]), if_pos hw]
    rw [g2, h1, hw] at hx
    refine splitTrue (by simpa using hx) ?_
    cbv
    refine splitTrue (by subst hA; rfl) ?_
    cbv
    subst hA
    exact Or.inl (by rw [he]; rfl)
  · have he : towE t down n d = e := by unfold towE; rw [if_pos h1, g2]
    rw [← g2] at h1
    rw [decide_eq_false h1] at hx
    refine splitFalse (by simpa using hx) ?_
    cbv
    refine splitTrue (by subst hA; simp [ar, h1]) ?_
    cbv
    subst hA
    exact Or.inl (by rw [he]; rfl)
end Go.Proofs.Ytogehfalhodapaa
namespace Go.Proofs.Ytogehfalhodapaa
open Go Go.Proofs.Ytogehfalhodapaa.Pv
set_option linter.unusedSimpArgs false
set_option linter.unusedVariables false
theorem nextOf_d {t : Topo} {down : List Bool} {D : List Int} {d : Int} : nextOf t down D d d = [] := by
  unfold nextOf
  rw [List.filter_eq_nil_iff]
  intro a _
  simp only [nxt, onOf]
  by_cases h : tailOf t a = d <;> simp [h]
theorem nextOf_neg {t : Topo} {down : List Bool} {D : List Int} {n d : Int} (hv : valid t = true) (h : at0 D n < 0) : nextOf t down D n d = [] := by
  cases e : nextOf t down D n d with
  | nil => rfl
  | cons a r =>
    have := next_is hv (by rw [e]; exact List.mem_cons_self : a ∈ nextOf t down D n d)
    have h1 := this.eq
    have h2 := this.pos
    have := (arc_ok this.arc).2.2.2.2.2.1
    omega
theorem filter_take {α : Type} {p : α → Bool} {l : List α} {k : Nat} {a : α} (h : l[k]? = some a) : (l.take (k + 1)).filter p = (l.take k).filter p ++ (if p a then [a] else []) := by
  rw [take_snoc h, List.filter_append]
  congr 1
  simp [List.filter_cons]
set_option maxHeartbeats 2000000 in
theorem c_next12 (t : Topo) (down : List Bool) (D : List Int) (n d : Int) (hf : fitsOf t down = true) (hl : (D.length : Int) = t.nodes) (hb : ∀ i, at0 D i ≤ 4194304) (hn : 0 ≤ n ∧ n < t.nodes) :
    FCs 83 [grph t down d D, .int .i64 n] (.sl 1 (ints (nextOf t down D n d))) := by
  have hv := fits_valid hf
  have hnod := headOk_nodes (valid_head hv)
  refine FCs.intro [(5, 5), (100001, 0), (100008, 0)] [0,1,2,4,5,7,8,20,24,25,26,64] (fun A => [.agg [.int .i64 (A.i fun _ => t.nodes), .sl 1 (A.e fun _ => bools t.over), .sl 7 (A.e fun _ => lks t.links), .sl 1 (A.e fun _ => bools down), .int .i64 d, .sl 1 (A.e fun _ => ints D)], .int .i64 n]) Try.func83 rfl Try.call83 (by kernel_rfl) (by simp [Try.f83]) ?_
  intro A hA
  cbv
  obtain ⟨vn, en, iN⟩ := ints_atI (D := D) (i := n) hn.1 (by ((try simp only [ncast, Int.ofNat_eq_natCast] at *); omega))
  refine CutC.upd Bool (fun b => [(20, .bool b)]) (fun _ => []) (fun b => b = (decide (n = d) || decide (vn < 0))) ?_ ?_
  · cbv
    refine splitBoolF (fun e1 => ?_) (fun e1 => ?_)
    · cbv
      refine ⟨_, by subst hA; exact iN, hn.1, ?_⟩
      cbv
      refine ⟨_, rfl, ?_⟩
      simp [LeSt, leVs, leP, St.set, setVs, aget, subHp]
      subst hA; simp only [ar] at e1; simp [ar, of_decide_eq_false e1]
    · cbv
      refine ⟨_, rfl, ?_⟩
      simp [LeSt, leVs, leP, St.set, setVs, aget, subHp]
      subst hA; simp only [ar] at e1; simp [ar, of_decide_eq_true e1]
  rintro x hx
  cbv
  refine splitBoolF (fun e1 => ?_) (fun e1 => ?_)
  rotate_left
  · have hnil : nextOf t down D n d = [] := by
      rw [e1] at hx
      have hx := hx.symm
      simp only [Bool.or_eq_true, decide_eq_true_eq] at hx
      rcases hx with h | h
      · rw [h]; exact nextOf_d
      · exact nextOf_neg hv (by rw [← en]; exact h)
    cbv
    subst hA
    refine Or.inr ?_
    rw [hnil]
    simp [wk, ints]
  have hx' : ¬ n = d ∧ ¬ vn < 0 := by
    rw [e1] at hx
    have hx := hx.symm
    simpa using hx
  cbv
  refine CallV.sl _ _ (by subst hA; exact c_Out t n) (by subst hA; rfl) (by subst hA; rfl) fun os g3 => ?_
  cbv
  have hno := next_out hv down D n d
  have hmem := fun a (h : a ∈ outOf t n) => (arcsDir_mem (dir := true) hv).1 (show a ∈ arcsDir t n true from h)
  have hLn : (outOf t n).length ≤ 512 := by
    rw [show outOf t n = arcsDir t n true from rfl, arcsDir_eq hv]
    have := List.length_filter_le (fun a => decide (viaY t true a = n)) (takeArcs (2 * t.links.length))
    have h2 : (takeArcs (2 * t.links.length)).length = 2 * t.links.length := by simp [takeArcs]
    have := hnod.2.2
    omega
  rw [hno]
  generalize outOf t n = ol at g3 hno hmem hLn
  cbv
  refine LoopK.upd Nat (fun k => [(26, .int .i64 k), (7, .junk), (8, .junk), (64, .junk)]) (fun k => [(5, ⟨3, 1, A.e fun _ => ints ((ol.take k).filter fun a => onOf t down D a d), false⟩)])
    (fun k => k ≤ ol.length) (fun k => ol.length - k) 0 ?_ ?_ ?_
  · subst hA
    simp [LeSt, leVs, leP, St.set, setVs, aget, subHp]
    rfl
  · exact Nat.zero_le _
  rintro k hk
  cbv
  refine splitBool (fun e5 => ?_) (fun e5 => ?_)
  · have hlt : k < ol.length := by
      have h : decide (Int.ofNat k < ((ints ol).length : Int)) = true := by subst hA; rw [g3] at e5; exact e5
      have := of_decide_eq_true h
      rw [ints_len] at this
      ((try simp only [ncast, Int.ofNat_eq_natCast] at *); omega)
    obtain ⟨a, ha, ha'⟩ := ints_atN (xs := ol) (k := k) hlt
    obtain ⟨harc, hvia⟩ := hmem a (List.mem_of_getElem? ha)
    have htl : tailOf t a = n := hvia
    have hok := arc_ok harc
    obtain ⟨vh, eh, ih⟩ := ints_atI (D := D) (i := headOf t a) hok.2.2.1 (by ((try simp only [ncast, Int.ofNat_eq_natCast] at *); omega))
    have hbh := hb (headOf t a)
    rw [← eh] at hbh
    have hft := filter_take (p := fun a => onOf t down D a d) ha
    have hfl := List.length_filter_le (fun a => onOf t down D a d) (ol.take k)
    have hft2 : (ol.take k).length ≤ 512 := by rw [List.length_take]; omega
    cbv
    refine ⟨_, by subst hA; rw [g3]; exact ha', Int.natCast_nonneg k, ?_⟩
    cbv
    refine CallV.int _ _ (by subst hA; exact c_Head t a) (by subst hA; rfl) fun q1 g4 => ?_
    cbv
    rw [← g4] at ih
    have hq0 : 0 ≤ q1 := by rw [g4]; exact hok.2.2.1
    generalize hF : (ol.take k).filter (fun a => onOf t down D a d) = F at hft hfl
    cbv
    refine CutC.upd Bool (fun b => [(64, .bool b)]) (fun _ => [(5, ⟨3, 1, A.e fun _ => ints F, false⟩)]) (fun b => b = !(upOf down a && decide (0 ≤ vh) && transOf t q1 d)) ?_ ?_
    · cbv
      refine splitBoolF (fun e6 => ?_) (fun e6 => ?_)
      · have h6 : upOf down a = true := by
          have h : decide ((0 : Int) < ((bools down).length : Int)) = false := by subst hA; exact e6
          have h := of_decide_eq_false h
          rw [bools_len] at h
          have h : down.length = 0 := by ((try simp only [ncast, Int.ofNat_eq_natCast] at *); omega)
          simp [upOf, h]
        cbv
        refine ⟨_, by subst hA; exact ih, hq0, ?_⟩
        cbv
        refine splitBoolF (fun e8 => ?_) (fun e8 => ?_)
        rotate_left
        · have h8 : ¬ 0 ≤ vh := by
            have h : decide (vh < 0) = true := by subst hA; exact e8
            have := of_decide_eq_true h
            omega
          cbv
          refine ⟨_, rfl, ?_⟩
          simp [LeSt, leVs, leP, St.set, setVs, aget, subHp]
          simp [show vh < 0 by omega]
        have h8 : 0 ≤ vh := by
          have h : decide (vh < 0) = false := by subst hA; exact e8
          have := of_decide_eq_false h
          omega
        cbv
        refine splitBoolF (fun e9 => ?_) (fun e9 => ?_)
        · have h9 : q1 = d := by
            have h : (!decide (q1 = d)) = false := by subst hA; exact e9
            simpa using h
          cbv
          refine ⟨_, rfl, ?_⟩
          simp [LeSt, leVs, leP, St.set, setVs, aget, subHp]
          simp [h6, h8, transOf, h9]
        have h9 : ¬ q1 = d := by
          have h : (!decide (q1 = d)) = true := by subst hA; exact e9
          simpa using h
        cbv
        refine CallV.bool _ (by subst hA; exact c_Overloaded t q1) (by subst hA; rfl) fun q2 g5 => ?_
        cbv
        refine ⟨_, rfl, ?_⟩
        simp [LeSt, leVs, leP, St.set, setVs, aget, subHp]
        simp [h6, h8, transOf, h9, g5]
      have h6 : 0 < down.length := by
        have h : decide ((0 : Int) < ((bools down).length : Int)) = true := by subst hA; exact e6
        have h := of_decide_eq_true h
        rw [bools_len] at h
        ((try simp only [ncast, Int.ofNat_eq_natCast] at *); omega)
      have h2 : 0 ≤ a ∧ a < down.length := (fits_up hf harc).resolve_left (by omega)
      obtain ⟨b, hb1, hb2⟩ := bools_at (k := a.toNat) (xs := down) (by ((try simp only [ncast, Int.ofNat_eq_natCast] at *); omega))
      cbv
      refine ⟨_, by subst hA; exact hb2, h2.1, ?_⟩
      cbv
      refine splitBoolF (fun e7 => ?_) (fun e7 => ?_)
      · have h6 : upOf down a = true := by simp [upOf, hb1, e7]
        cbv
        refine ⟨_, by subst hA; exact ih, hq0, ?_⟩
        cbv
        refine splitBoolF (fun e8 => ?_) (fun e8 => ?_)
        rotate_left
        · have h8 : ¬ 0 ≤ vh := by
            have h : decide (vh < 0) = true := by subst hA; exact e8
            have := of_decide_eq_true h
            omega
          cbv
          refine ⟨_, rfl, ?_⟩
          simp [LeSt, leVs, leP, St.set, setVs, aget, subHp]
          simp [show vh < 0 by omega]
        have h8 : 0 ≤ vh := by
          have h : decide (vh < 0) = false := by subst hA; exact e8
          have := of_decide_eq_false h
          omega
        cbv
        refine splitBoolF (fun e9 => ?_) (fun e9 => ?_)
        · have h9 : q1 = d := by
            have h : (!decide (q1 = d)) = false := by subst hA; exact e9
            simpa using h
          cbv
          refine ⟨_, rfl, ?_⟩
          simp [LeSt, leVs, leP, St.set, setVs, aget, subHp]
          simp [h6, h8, transOf, h9]
        have h9 : ¬ q1 = d := by
          have h : (!decide (q1 = d)) = true := by subst hA; exact e9
          simpa using h
        cbv
        refine CallV.bool _ (by subst hA; exact c_Overloaded t q1) (by subst hA; rfl) fun q2 g5 => ?_
        cbv
        refine ⟨_, rfl, ?_⟩
        simp [LeSt, leVs, leP, St.set, setVs, aget, subHp]
        simp [h6, h8, transOf, h9, g5]
      · have h6 : upOf down a = false := by unfold upOf; rw [decide_eq_false (by omega), hb1, e7]; rfl
        cbv
        refine ⟨_, rfl, ?_⟩
        simp [LeSt, leVs, leP, St.set, setVs, aget, subHp]
        simp [h6]
    rintro b hb3
    have hon : onOf t down D a d = (!b && decide (at0 D n = vh + costOf t a)) := by
      rw [hb3]
      unfold onOf
      rw [htl, ← eh, ← g4]
      simp [hx'.1]
    cbv
    refine splitBoolF (fun e6 => ?_) (fun e6 => ?_)
    rotate_left
    · have h6 : onOf t down D a d = false := by rw [hon, e6]; rfl
      rw [h6, if_neg (by simp), List.append_nil, ← hF] at hft
      cbv
      refine ⟨by subst hA; simp only [ar, inI64]; ((try simp only [ncast, Int.ofNat_eq_natCast] at *); omega), ?_⟩
      refine ⟨k + 1, ⟨hlt, by omega⟩, ?_⟩
      subst hA
      simp [LeSt, leVs, leP, St.set, setVs, aget, subHp]
      rw [hft, hF]
      simp [ar]
    cbv
    refine ⟨_, by subst hA; exact iN, hn.1, ?_⟩
    cbv
    have h60 : 0 ≤ vh := by
      rw [e6] at hb3
      have hb3 := hb3.symm
      simp only [Bool.not_eq_false', Bool.and_eq_true, decide_eq_true_eq] at hb3
      exact hb3.1.2
    refine ⟨_, by subst hA; exact ih, hq0, ?_⟩
    cbv
    refine CallV.int _ _ (by subst hA; exact c_Cost t a) (by subst hA; rfl) fun q3 g5 => ?_
    cbv
    refine ⟨by subst hA; rw [g5]; simp only [ar, inI64]; ((try simp only [ncast, Int.ofNat_eq_natCast] at *); omega), ?_⟩
    refine splitBoolF (fun e7 => ?_) (fun e7 => ?_)
    · have h7 : onOf t down D a d = false := by
        have h : decide (vn = vh + q3) = false := by subst hA; exact e7
        rw [hon, ← en, ← g5, h]; simp
      rw [h7, if_neg (by simp), List.append_nil, ← hF] at hft
      cbv
      refine ⟨by subst hA; simp only [ar, inI64]; ((try simp only [ncast, Int.ofNat_eq_natCast] at *); omega), ?_⟩
      refine ⟨k + 1, ⟨hlt, by omega⟩, ?_⟩
      subst hA
      simp [LeSt, leVs, leP, St.set, setVs, aget, subHp]
      rw [hft, hF]
      simp [ar]
    · have h7 : onOf t down D a d = true := by
        have h : decide (vn = vh + q3) = true := by subst hA; exact e7
        rw [hon, ← en, ← g5, h, e6]; simp
      rw [h7, if_pos rfl] at hft
      cbv
      refine ⟨⟨by subst hA; simp only [ar, ints_len, List.length_cons, List.length_nil]; ((try simp only [ncast, Int.ofNat_eq_natCast] at *); omega), by trivial⟩, ?_⟩
      refine ⟨by subst hA; simp only [ar, inI64]; ((try simp only [ncast, Int.ofNat_eq_natCast] at *); omega), ?_⟩
      refine ⟨k + 1, ⟨hlt, by omega⟩, ?_⟩
      subst hA
      simp [LeSt, leVs, leP, St.set, setVs, aget, subHp]
      rw [hft]
      simp [ar, ints]
  · have hge : k = ol.length := by
      have h : decide (Int.ofNat k < ((ints ol).length : Int)) = false := by subst hA; rw [g3] at e5; exact e5
      have := of_decide_eq_false h
      rw [ints_len] at this
      ((try simp only [ncast, Int.ofNat_eq_natCast] at *); omega)
    cbv
    subst hA
    refine Or.inl ?_
    rw [hge, List.take_length]
    rfl
end Go.Proofs.Ytogehfalhodapaa
namespace Go.Proofs.Ytogehfalhodapaa
open Go Go.Proofs.Ytogehfalhodapaa.Pv
set_option linter.unusedSimpArgs false
set_option linter.unusedVariables false
/-! insertion sort, for any comparison -/
def insB (lt : Int → Int → Bool) (x : Int) : List Int → List Int
  | [] => [x]
  | z :: r => if lt x z then z :: insB lt x r else x :: z :: r
def sortB (lt : Int → Int → Bool) (xs : List Int) : List Int := (xs.foldl (fun R x => insB lt x R) []).reverse
theorem insB_len (lt : Int → Int → Bool) (x : Int) : ∀ l : List Int, (insB lt x l).length = l.length + 1
  | [] => rfl
  | z :: r => by
    unfold insB
    split
    · simp [insB_len lt x r]
    · simp
theorem insB_mem (lt : Int → Int → Bool) (x y : Int) : ∀ l : List Int, y ∈ insB lt x l ↔ y = x ∨ y ∈ l
  | [] => by simp [insB]
  | z :: r => by
    unfold insB
    split
    · simp only [List.mem_cons, insB_mem lt x y r]
      constructor
      · rintro (h | h | h) <;> simp [h]
      · rintro (h | h | h) <;> simp [h]
    · simp
theorem insB_split {lt : Int → Int → Bool} {x : Int} : ∀ {suf pre : List Int}, (∀ z ∈ suf, lt x z = true) → (∀ z r, pre = z :: r → lt x z = false) → insB lt x (suf ++ pre) = suf ++ x :: pre
  | [], [], _, _ => rfl
  | [], z :: r, _, h => by
    have := h z r rfl
    simp [insB, this]
  | z :: r, pre, h1, h2 => by
    have := h1 z (by simp)
    rw [List.cons_append, insB, if_pos this, insB_split (fun y hy => h1 y (by simp [hy])) h2]
    rfl
theorem foldB_len (lt : Int → Int → Bool) : ∀ (xs R : List Int), (xs.foldl (fun R x => insB lt x R) R).length = R.length + xs.length
  | [], R => by simp
  | x :: r, R => by rw [List.foldl_cons, foldB_len lt r, insB_len]; simp; omega
theorem foldB_mem (lt : Int → Int → Bool) (y : Int) : ∀ (xs R : List Int), y ∈ xs.foldl (fun R x => insB lt x R) R ↔ y ∈ R ∨ y ∈ xs
  | [], R => by simp
  | x :: r, R => by
    rw [List.foldl_cons, foldB_mem lt y r, insB_mem]
    simp only [List.mem_cons]
    constructor
    · rintro ((h | h) | h) <;> simp [h]
    · rintro (h | h | h) <;> simp [h]
theorem sortB_len (lt : Int → Int → Bool) (xs : List Int) : (sortB lt xs).length = xs.length := by unfold sortB; rw [List.length_reverse, foldB_len]; simp
theorem sortB_mem (lt : Int → Int → Bool) (y : Int) (xs : List Int) : y ∈ sortB lt xs ↔ y ∈ xs := by unfold sortB; rw [List.mem_reverse, foldB_mem]; simp
/-- the comparison is told by a contract -/
def CmpOk (g : Nat) (cs : List PV) (lt : Int → Int → Bool) (Q : Int → Prop) : Prop := ∀ x y : Int, Q x → Q y → ∃ c : Int, FCs g [.int .i64 x, .int .i64 y, .ptr cs] (.int .i64 c) ∧ lt x y = decide (c < 0)
/-- the elements stand at the places of a list in three parts -/
theorem at_mid (pre suf : List Int) (x : Int) : (pre ++ x :: suf)[pre.length]? = some x := by rw [List.getElem?_append_right (Nat.le_refl _), Nat.sub_self]; rfl
theorem set_mid (pre suf : List Int) (x y : Int) : (pre ++ x :: suf).set pre.length y = pre ++ y :: suf := by
  rw [List.set_append_right _ _ (Nat.le_refl _), Nat.sub_self]; rfl
set_option maxHeartbeats 2000000 in
theorem h_insert (g : Nat) (cs : List PV) (lt : Int → Int → Bool) (Q : Int → Prop) (hc : CmpOk g cs lt Q) (xs : List Int) (hx : ∀ x ∈ xs, Q x) (hl : xs.length ≤ 1000000) (b : Int) (hb : b = xs.length) :
    FHs 103 [.os 70, .int .i64 0, .int .i64 b, .fn (.func g) [] [.ptr cs]] [(70, ⟨3, 1, ints xs, false⟩)] (.tup []) [(70, ⟨3, 1, ints (sortB lt xs), false⟩)] := by
  refine FHs.intro [(100004, 0)] [0,1,2,3,8,9,34] [0,1,2,3] (fun A => [.os 70, .int .i64 0, .int .i64 b, .fn (.func g) [] [.ptr cs]]) (fun A => [(70, ⟨3, 1, A.e fun _ => ints xs, false⟩)]) Try.func103 rfl Try.call103 (by kernel_rfl) (by simp [Try.f103]) rfl ?_
  intro A hA
  cbv
  refine ⟨by subst hA; simp only [ar, inI64]; ((try simp only [ncast, Int.ofNat_eq_natCast] at *); omega), ?_⟩
  refine LoopK.upd Nat (fun i => [(8, .int .i64 i), (9, .junk), (34, .junk)]) (fun i => [(70, ⟨3, 1, A.e fun _ => ints (((xs.take i).foldl (fun R x => insB lt x R) []).reverse ++ xs.drop i), false⟩)]) (fun i => 1 ≤ i) (fun i => xs.length - i) 1 ?_ ?_ ?_
  · subst hA
    simp [LeSt, leVs, leP, St.set, setVs, aget, subHp]
    refine ⟨rfl, ?_⟩
    cases xs with
    | nil => rfl
    | cons x r => simp [insB]
  · exact Nat.le_refl _
  rintro i hi
  have hFl := foldB_len lt (xs.take i) []
  cbv
  refine splitBool (fun e1 => ?_) (fun e1 => ?_)
  · have hlt : i < xs.length := by
      have h : decide (Int.ofNat i < b) = true := by subst hA; exact e1
      have := of_decide_eq_true h
      ((try simp only [ncast, Int.ofNat_eq_natCast] at *); omega)
    have hxi : xs[i]? = some xs[i] := List.getElem?_eq_getElem hlt
    have hQx : Q xs[i] := hx _ (List.getElem_mem hlt)
    have hdrop := ints_drop hxi
    have hFs : (xs.take (i + 1)).foldl (fun R x => insB lt x R) [] = insB lt xs[i] ((xs.take i).foldl (fun R x => insB lt x R) []) := by rw [take_snoc hxi, List.foldl_append]; rfl
    have hQF : ∀ z ∈ (xs.take i).foldl (fun R x => insB lt x R) [], Q z := fun z hz => by
      have := (foldB_mem lt z (xs.take i) []).1 hz
      rcases this with h | h
      · cases h
      · exact hx z (List.mem_of_mem_take h)
    rw [List.length_take, Nat.min_eq_left (by omega)] at hFl
    rw [hdrop]
    have hnext : ∀ S : List Int, S = (insB lt xs[i] ((xs.take i).foldl (fun R x => insB lt x R) [])).reverse → S = ((xs.take (i + 1)).foldl (fun R x => insB lt x R) []).reverse := fun S h => by rw [hFs]; exact h
    generalize xs[i] = x at hxi hQx hnext
    generalize (xs.take i).foldl (fun R x => insB lt x R) [] = F at hFl hQF hnext
    generalize hrest : xs.drop (i + 1) = rest
    have hFl : F.length = i := by simpa using hFl
    cbv
    refine LoopK.upd (List Int × List Int × Nat) (fun p => [(9, .int .i64 p.2.2), (34, .junk)]) (fun p => [(70, ⟨3, 1, A.e fun _ => ints (p.1 ++ x :: (p.2.1 ++ rest)), false⟩)])
      (fun p => p.1 ++ p.2.1 = F.reverse ∧ (∀ z ∈ p.2.1, lt x z = true) ∧ p.2.2 = p.1.length) (fun p => p.2.2) (F.reverse, [], i) ?_ ?_ ?_
    · subst hA
      simp [LeSt, leVs, leP, St.set, setVs, aget, subHp]
    · exact ⟨by simp, by simp, by simp [hFl]⟩
    rintro ⟨pre, suf, j⟩ ⟨h1, h2, hj⟩
    dsimp only at h1 h2 hj
    have hpl : pre.length + suf.length = i := by have := congrArg List.length h1; rw [List.length_append, List.length_reverse] at this; omega
    have hmid := at_mid pre (suf ++ rest) x
    rw [← hj] at hmid
    have hmid' : (ints (pre ++ x :: (suf ++ rest)))[j]? = some [.int .i64 x] := ints_get hmid
    have hall : (pre ++ x :: (suf ++ rest)).length = j + 1 + suf.length + rest.length := by simp [hj]; omega
    have hj2 : j ≤ 1000000 := by omega
    have hdone : (∀ z r, pre.reverse = z :: r → lt x z = false) → pre ++ x :: suf = ((xs.take (i + 1)).foldl (fun R x => insB lt x R) []).reverse := by
      intro h
      refine hnext _ ?_
      rw [← List.reverse_reverse F, ← h1, List.reverse_append, insB_split (fun z hz => h2 z (by simpa using hz)) h]
      simp
    rcases List.eq_nil_or_concat pre with hp | ⟨p', z, hp⟩
    · have hp0 : j = 0 := by rw [hj, hp]; rfl
      cbv
      refine CutC.upd Bool (fun b => [(34, .bool b)]) (fun _ => [(70, ⟨3, 1, A.e fun _ => ints (pre ++ x :: (suf ++ rest)), false⟩)]) (fun b => b = false) ?_ ?_
      · cbv
        refine splitFalse (by subst hA; simp only [ar, hp0]; rfl) ?_
        cbv
        refine ⟨_, rfl, ?_⟩
        subst hA
        simp [LeSt, leVs, leP, St.set, setVs, aget, subHp]
      rintro y rfl
      cbv
      refine ⟨by subst hA; simp only [ar, inI64]; ((try simp only [ncast, Int.ofNat_eq_natCast] at *); omega), ?_⟩
      refine ⟨i + 1, by omega, ?_⟩
      subst hA
      simp [LeSt, leVs, leP, St.set, setVs, aget, subHp]
      rw [← hdone (by rw [hp]; simp), hrest]
      simp [ar]
    obtain ⟨k, hk⟩ : ∃ k, j = k + 1 := ⟨p'.length, by rw [hj, hp]; simp⟩
    have hkp : k = p'.length := by have := hj; rw [hp] at this; simp at this; omega
    have hQz : Q z := hQF z (by rw [← List.mem_reverse, ← h1, hp]; simp)
    have hz : (ints (pre ++ x :: (suf ++ rest)))[k]? = some [.int .i64 z] := ints_get (by rw [hp, hkp]; simp)
    obtain ⟨c, hc1, hc2⟩ := hc x z hQx hQz
    have hjm : (Int.ofNat j - 1).toNat = k := by ((try simp only [ncast, Int.ofNat_eq_natCast] at *); omega)
    cbv
    refine CutC.upd Bool (fun b => [(34, .bool b)]) (fun _ => [(70, ⟨3, 1, A.e fun _ => ints (pre ++ x :: (suf ++ rest)), false⟩)]) (fun b => b = lt x z) ?_ ?_
    · cbv
      refine splitTrue (by subst hA; simp only [ar]; exact decide_eq_true (by ((try simp only [ncast, Int.ofNat_eq_natCast] at *); omega))) ?_
      cbv
      refine ⟨by subst hA; simp only [ar, ints_len, hall]; ((try simp only [ncast, Int.ofNat_eq_natCast] at *); omega), _, by subst hA; exact hmid', ?_⟩
      cbv
      refine ⟨by subst hA; simp only [ar, inI64]; ((try simp only [ncast, Int.ofNat_eq_natCast] at *); omega), ?_⟩
      refine ⟨by subst hA; simp only [ar, ints_len, hall]; ((try simp only [ncast, Int.ofNat_eq_natCast] at *); omega), _, by subst hA; simp only [ar, hjm]; exact hz, ?_⟩
      cbv
      refine CallV.int _ _ (by subst hA; exact hc1) (by subst hA; rfl) fun q g1 => ?_
      cbv
      refine ⟨_, rfl, ?_⟩
      subst hA
      simp [LeSt, leVs, leP, St.set, setVs, aget, subHp]
      rw [hc2, g1]
      rfl
    rintro y hy
    cbv
    refine splitBool (fun e2 => ?_) (fun e2 => ?_)
    · have h5 : lt x z = true := by rw [← hy, e2]
      cbv
      refine ⟨by subst hA; simp only [ar, inI64]; ((try simp only [ncast, Int.ofNat_eq_natCast] at *); omega), by subst hA; simp only [ar, inI64]; ((try simp only [ncast, Int.ofNat_eq_natCast] at *); omega), ?_⟩
      refine ⟨by subst hA; simp only [ar, ints_len, hall]; ((try simp only [ncast, Int.ofNat_eq_natCast] at *); omega), _, by subst hA; simp only [ar, hjm]; exact hz, ?_⟩
      cbv
      refine ⟨by subst hA; simp only [ar, ints_len, hall]; ((try simp only [ncast, Int.ofNat_eq_natCast] at *); omega), _, by subst hA; exact hmid', ?_⟩
      cbv
      refine ⟨by subst hA; simp only [ar, ints_len, hall]; ((try simp only [ncast, Int.ofNat_eq_natCast] at *); omega), ?_⟩
      refine ⟨_, by subst hA; exact hmid', Nat.le_refl _, ?_⟩
      cbv
      refine ⟨by subst hA; simp only [ar, ints_len, List.length_set, hall]; ((try simp only [ncast, Int.ofNat_eq_natCast] at *); omega), ?_⟩
      have hz2 : ((ints (pre ++ x :: (suf ++ rest))).set j [.int .i64 z])[k]? = some [.int .i64 z] := by
        rw [List.getElem?_set_ne (by omega)]; exact hz
      refine ⟨_, by subst hA; simp only [ar, hjm]; exact hz2, Nat.le_refl _, ?_⟩
      cbv
      refine ⟨by subst hA; simp only [ar, inI64]; ((try simp only [ncast, Int.ofNat_eq_natCast] at *); omega), ?_⟩
      refine ⟨(p', z :: suf, k), ⟨⟨?_, ?_, hkp⟩, by dsimp only; omega⟩, ?_⟩
      · dsimp only
        rw [← h1, hp]; simp
      · dsimp only
        intro y hy
        rcases List.mem_cons.1 hy with e | e
        · rw [e]; exact h5
        · exact h2 y e
      · have hsw : ((pre ++ x :: (suf ++ rest)).set j z).set k x = p' ++ x :: (z :: suf ++ rest) := by
          rw [hj, set_mid, hkp, hp, List.concat_eq_append, List.append_assoc]
          exact set_mid p' (z :: (suf ++ rest)) z x
        subst hA
        simp [LeSt, leVs, leP, St.set, setVs, aget, subHp]
        have hjk : (j : Int) - 1 = k := by omega
        have hjk2 : ((j : Int) - 1).toNat = k := by omega
        simp only [ar, splice]
        refine ⟨hjk, ?_⟩
        rw [show p' ++ x :: z :: (suf ++ rest) = _ from hsw.symm, hjk2]
        simp [ints, List.map_set]
    · have h5 : lt x z = false := by rw [← hy, e2]
      cbv
      refine ⟨by subst hA; simp only [ar, inI64]; ((try simp only [ncast, Int.ofNat_eq_natCast] at *); omega), ?_⟩
      refine ⟨i + 1, ⟨by omega, by omega⟩, ?_⟩
      subst hA
      simp [LeSt, leVs, leP, St.set, setVs, aget, subHp]
      rw [← hdone (by rw [hp]; simpa using h5), hrest]
      simp [ar]
  · have hge : xs.length ≤ i := by
      have h : decide (Int.ofNat i < b) = false := by subst hA; exact e1
      have := of_decide_eq_false h
      ((try simp only [ncast, Int.ofNat_eq_natCast] at *); omega)
    cbv
    have hfin : ((xs.take i).foldl (fun R x => insB lt x R) []).reverse ++ xs.drop i = sortB lt xs := by
      rw [List.take_of_length_le hge, List.drop_of_length_le hge]; simp [sortB]
    (subst hA; exact ⟨by simp [ar, hfin], by simp [ar, subHp, aget, hpO, hfin], by simp [ar, pinned, St.get, aget]⟩)
theorem h_stable (g : Nat) (cs : List PV) (lt : Int → Int → Bool) (Q : Int → Prop) (hc : CmpOk g cs lt Q) (xs : List Int) (hx : ∀ x ∈ xs, Q x) (hl : xs.length < 20) (n : Int) (hn : n = xs.length) :
    FHs 99 [.os 70, .int .i64 n, .fn (.func g) [] [.ptr cs]] [(70, ⟨3, 1, ints xs, false⟩)] (.tup []) [(70, ⟨3, 1, ints (sortB lt xs), false⟩)] := by
  refine FHs.intro [] [0,1,2,6,7,8,9] [0,1,2] (fun A => [.os 70, .int .i64 n, .fn (.func g) [] [.ptr cs]]) (fun A => [(70, ⟨3, 1, A.e fun _ => ints xs, false⟩)]) Try.func99 rfl Try.call99 (by kernel_rfl) (by simp [Try.f99]) rfl ?_
  intro A hA
  cbv
  refine LoopK.upd Unit (fun _ => []) (fun _ => [(70, ⟨3, 1, A.e fun _ => ints xs, false⟩)]) (fun _ => True) (fun _ => 0) () ?_ trivial ?_
  · subst hA
    simp [LeSt, leVs, leP, St.set, setVs, aget, subHp]
  rintro _ _
  cbv
  refine splitFalse (by subst hA; simp only [ar]; exact decide_eq_false (by ((try simp only [ncast, Int.ofNat_eq_natCast] at *); omega))) ?_
  cbv
  refine CallX.hnd (CallH_unit [(70, ⟨3, 1, A.e fun _ => ints xs, false⟩)] [(70, ⟨3, 1, A.e fun _ => ints (sortB lt xs), false⟩)] (by subst hA; exact h_insert g cs lt Q hc xs hx (by omega) n hn) (by subst hA; simp [subHp, aget]) rfl ?_)
  cbv
  refine LoopK.upd Unit (fun _ => []) (fun _ => [(70, ⟨3, 1, A.e fun _ => ints (sortB lt xs), false⟩)]) (fun _ => True) (fun _ => 0) () ?_ trivial ?_
  · subst hA
    simp [LeSt, leVs, leP, St.set, setVs, aget, subHp]
  rintro _ _
  cbv
  refine splitFalse (by subst hA; simp only [ar]; exact decide_eq_false (by ((try simp only [ncast, Int.ofNat_eq_natCast] at *); omega))) ?_
  cbv
  (subst hA; exact ⟨by simp [ar], by simp [ar, subHp, aget, hpO], by simp [ar, pinned, St.get, aget]⟩)
theorem h_sortStable (g : Nat) (cs : List PV) (lt : Int → Int → Bool) (Q : Int → Prop) (hc : CmpOk g cs lt Q) (xs : List Int) (hx : ∀ x ∈ xs, Q x) (hl : xs.length < 20) :
    FHs 92 [.os 70, .fn (.func g) [] [.ptr cs]] [(70, ⟨3, 1, ints xs, false⟩)] (.tup []) [(70, ⟨3, 1, ints (sortB lt xs), false⟩)] := by
  refine FHs.intro [] [0,1] [0,1] (fun A => [.os 70, .fn (.func g) [] [.ptr cs]]) (fun A => [(70, ⟨3, 1, A.e fun _ => ints xs, false⟩)]) Try.func92 rfl Try.call92 (by kernel_rfl) (by simp [Try.f92]) rfl ?_
  intro A hA
  cbv
  refine CallX.hnd (CallH_unit [(70, ⟨3, 1, A.e fun _ => ints xs, false⟩)] [(70, ⟨3, 1, A.e fun _ => ints (sortB lt xs), false⟩)] (by subst hA; exact h_stable g cs lt Q hc xs hx hl _ (by simp only [ar, ints_len])) (by subst hA; simp [subHp, aget]) rfl ?_)
  cbv
  (subst hA; exact ⟨by simp [ar], by simp [ar, subHp, aget, hpO], by simp [ar, pinned, St.get, aget]⟩)
theorem s_isNaN (x : Int) : FCs 100 [.int .i64 x] (.bool false) := by
  refine FCs.intro [] [0,2] (fun A => [.int .i64 x]) Try.func100 rfl Try.call100 (by kernel_rfl) (by simp [Try.f100]) ?_
  intro A hA
  cbv
  (subst hA; refine Or.inl ?_; simp [ar])
def cmpOf (x y : Int) : Int := if x < y then -1 else if y < x then 1 else 0
theorem s_Compare (x y : Int) : FCs 94 [.int .i64 x, .int .i64 y] (.int .i64 (cmpOf x y)) := by
  refine FCs.intro [] [0,1,4,5,6] (fun A => [.int .i64 x, .int .i64 y]) Try.func94 rfl Try.call94 (by kernel_rfl) (by simp [Try.f94]) ?_
  intro A hA
  cbv
  refine CallV.bool _ (by subst hA; exact s_isNaN x) (by subst hA; rfl) fun b1 g1 => ?_
  cbv
  refine CallV.bool _ (by subst hA; exact s_isNaN y) (by subst hA; rfl) fun b2 g2 => ?_
  cbv
  refine splitFalse g1 ?_
  cbv
  refine splitFalse g2 ?_
  cbv
  refine splitBoolF (fun e1 => ?_) (fun e1 => ?_)
  rotate_left
  · have h1 : x < y := by subst hA; simpa [ar] using e1
    cbv
    (subst hA; refine Or.inl ?_; simp [ar, cmpOf, h1])
  have h1 : ¬ x < y := by subst hA; simpa [ar] using e1
  cbv
  refine splitBoolF (fun e2 => ?_) (fun e2 => ?_)
  · have h2 : ¬ y < x := by subst hA; simpa [ar] using e2
    cbv
    (subst hA; refine Or.inl ?_; simp [ar, cmpOf, h1, h2])
  · have h2 : y < x := by subst hA; simpa [ar] using e2
    cbv
    (subst hA; refine Or.inl ?_; simp [ar, cmpOf, h1, h2])
end Go.Proofs.Ytogehfalhodapaa
namespace Go.Proofs.Ytogehfalhodapaa
open Go Go.Proofs.Ytogehfalhodapaa.Pv
set_option linter.unusedSimpArgs false
set_option linter.unusedVariables false
/-! the order of the nodes by distance -/
def ltD (D : List Int) (x y : Int) : Bool := decide (at0 D y < at0 D x)
theorem insB_srt {D : List Int} {x : Int} : ∀ {R : List Int}, R.Pairwise (fun a b => befo D b a) → (∀ z ∈ R, z < x) → (insB (ltD D) x R).Pairwise (fun a b => befo D b a)
  | [], _, _ => by simp [insB]
  | z :: r, h, hx => by
    obtain ⟨h1, h2⟩ := List.pairwise_cons.1 h
    unfold insB
    split
    · rename_i e
      have e : at0 D z < at0 D x := by simpa [ltD] using e
      refine List.pairwise_cons.2 ⟨fun y hy => ?_, insB_srt h2 fun y hy => hx y (by simp [hy])⟩
      rcases (insB_mem (ltD D) x y r).1 hy with e1 | e1
      · rw [e1]; exact .inl e
      · exact h1 y e1
    · rename_i e
      have e : ¬ at0 D z < at0 D x := by simpa [ltD] using e
      have hz := hx z (by simp)
      have hb : befo D z x := by unfold befo; omega
      refine List.pairwise_cons.2 ⟨fun y hy => ?_, h⟩
      rcases List.mem_cons.1 hy with e1 | e1
      · rw [e1]; exact hb
      · exact befo_trans (h1 y e1) hb
theorem foldB_srt {D : List Int} : ∀ (xs R : List Int), xs.Pairwise (· < ·) → R.Pairwise (fun a b => befo D b a) → (∀ x ∈ xs, ∀ z ∈ R, z < x) → (xs.foldl (fun R x => insB (ltD D) x R) R).Pairwise (fun a b => befo D b a)
  | [], R, _, h, _ => h
  | x :: r, R, h, hR, hx => by
    obtain ⟨h1, h2⟩ := List.pairwise_cons.1 h
    rw [List.foldl_cons]
    refine foldB_srt r _ h2 (insB_srt hR fun z hz => hx x (by simp) z hz) fun y hy z hz => ?_
    rcases (insB_mem (ltD D) x z R).1 hz with e | e
    · rw [e]; exact h1 y hy
    · exact hx y (by simp [hy]) z e
theorem takeArcs_asc (k : Nat) : (takeArcs k).Pairwise (· < ·) := by
  unfold takeArcs
  rw [List.pairwise_map]
  exact List.pairwise_lt_range.imp fun h => by omega
def reach (t : Topo) (D : List Int) : List Int := (takeArcs t.nodes.toNat).filter fun n => decide (0 ≤ at0 D n)
theorem sort_ord {t : Topo} {D : List Int} (hn : 0 ≤ t.nodes) : IsOrd t D (sortB (ltD D) (reach t D)) := by
  refine ⟨fun n => ?_, ?_⟩
  · rw [sortB_mem, reach, List.mem_filter, mem_takeArcs, decide_eq_true_eq]
    constructor
    · rintro ⟨⟨a, b⟩, c⟩; exact ⟨⟨a, by omega⟩, c⟩
    · rintro ⟨⟨a, b⟩, c⟩; exact ⟨⟨a, by omega⟩, c⟩
  · unfold sortB
    rw [List.pairwise_reverse]
    exact foldB_srt _ [] ((takeArcs_asc _).filter _) List.Pairwise.nil fun _ _ _ h => by cases h
theorem c_order1 (t : Topo) (down : List Bool) (D : List Int) (d x y : Int) (hx : 0 ≤ x ∧ x < D.length) (hy : 0 ≤ y ∧ y < D.length) :
    FCs 93 [.int .i64 x, .int .i64 y, .ptr [.int .i64 t.nodes, .sl 1 (bools t.over), .sl 7 (lks t.links), .sl 1 (bools down), .int .i64 d, .sl 1 (ints D)]] (.int .i64 (cmpOf (at0 D y) (at0 D x))) := by
  refine FCs.intro [] [0,1,2,5] (fun A => [.int .i64 x, .int .i64 y, .ptr [.int .i64 (A.i fun _ => t.nodes), .sl 1 (A.e fun _ => bools t.over), .sl 7 (A.e fun _ => lks t.links), .sl 1 (A.e fun _ => bools down), .int .i64 d, .sl 1 (A.e fun _ => ints D)]]) Try.func93 rfl Try.call93 (by kernel_rfl) (by simp [Try.f93]) ?_
  intro A hA
  cbv
  obtain ⟨vx, ex, ix⟩ := ints_atI (D := D) (i := x) hx.1 hx.2
  obtain ⟨vy, ey, iy⟩ := ints_atI (D := D) (i := y) hy.1 hy.2
  refine ⟨_, by subst hA; exact iy, hy.1, ?_⟩
  cbv
  refine ⟨_, by subst hA; exact ix, hx.1, ?_⟩
  cbv
  refine CallV.int _ _ (by subst hA; exact s_Compare vy vx) (by subst hA; rfl) fun c g1 => ?_
  cbv
  (subst hA; refine Or.inl ?_; simp [ar, g1, ← ex, ← ey])
theorem reach_len (t : Topo) (D : List Int) : (reach t D).length ≤ t.nodes.toNat := by
  unfold reach
  have := List.length_filter_le (fun n => decide (0 ≤ at0 D n)) (takeArcs t.nodes.toNat)
  have h2 : (takeArcs t.nodes.toNat).length = t.nodes.toNat := by simp [takeArcs]
  omega
theorem c_order (t : Topo) (down : List Bool) (D : List Int) (d : Int) (hl : (D.length : Int) = t.nodes) (hn : t.nodes < 20) :
    FCs 82 [grph t down d D] (.sl 1 (ints (ordOf t D))) := by
  rw [ordOf_eq (sort_ord (t := t) (D := D) (by omega))]
  have hrl := reach_len t D
  have hsrt := h_sortStable 93 [.int .i64 t.nodes, .sl 1 (bools t.over), .sl 7 (lks t.links), .sl 1 (bools down), .int .i64 d, .sl 1 (ints D)] (ltD D) (fun x => 0 ≤ x ∧ x < D.length)
    (fun x y hx hy => ⟨_, c_order1 t down D d x y hx hy, by
      unfold ltD cmpOf
      split
      · rename_i h; rw [decide_eq_true h]; rfl
      · rename_i h; rw [decide_eq_false h]; split <;> rfl⟩)
    (reach t D) (fun x hx => by
      have := mem_takeArcs.1 (List.mem_filter.1 hx).1
      omega) (by omega)
  refine FCs.intro [(3, 70)] [0,1,2,3,4,5,7,8,9] (fun A => [.agg [.int .i64 (A.i fun _ => t.nodes), .sl 1 (A.e fun _ => bools t.over), .sl 7 (A.e fun _ => lks t.links), .sl 1 (A.e fun _ => bools down), .int .i64 d, .sl 1 (A.e fun _ => ints D)]]) Try.func82 rfl Try.call82 (by kernel_rfl) (by simp [Try.f82]) ?_
  intro A hA
  cbv
  refine LoopK.upd Nat (fun k => [(4, .junk), (5, .junk), (9, .int .i64 k)]) (fun k => [(70, ⟨3, 1, A.e fun _ => ints ((takeArcs k).filter fun n => decide (0 ≤ at0 D n)), false⟩)]) (fun k => k ≤ t.nodes.toNat) (fun k => t.nodes.toNat - k) 0 ?_ ?_ ?_
  · subst hA
    simp [LeSt, leVs, leP, St.set, setVs, aget, subHp]
    rfl
  · exact Nat.zero_le _
  rintro k hk
  have hfl := List.length_filter_le (fun n => decide (0 ≤ at0 D n)) (takeArcs k)
  have hft : (takeArcs k).length = k := by simp [takeArcs]
  have hs1 : (takeArcs (k + 1)).filter (fun n => decide (0 ≤ at0 D n)) = (takeArcs k).filter (fun n => decide (0 ≤ at0 D n)) ++ (if 0 ≤ at0 D (k : Int) then [(k : Int)] else []) := by
    rw [takeArcs_succ, List.filter_append]
    congr 1
    simp [List.filter_cons]
  cbv
  refine splitBool (fun e1 => ?_) (fun e1 => ?_)
  · have hlt : k < t.nodes.toNat := by
      have h : decide (Int.ofNat k < ((ints D).length : Int)) = true := by subst hA; exact e1
      have := of_decide_eq_true h
      rw [ints_len] at this
      ((try simp only [ncast, Int.ofNat_eq_natCast] at *); omega)
    obtain ⟨v, ev, iv⟩ := ints_atI (D := D) (i := (k : Int)) (by omega) (by ((try simp only [ncast, Int.ofNat_eq_natCast] at *); omega))
    have iv : (ints D)[k]? = some [.int .i64 v] := iv
    rw [← ev] at hs1
    generalize hR : (takeArcs k).filter (fun n => decide (0 ≤ at0 D n)) = R at hfl hs1
    cbv
    refine ⟨_, by subst hA; exact iv, Int.natCast_nonneg k, ?_⟩
    cbv
    refine splitBoolF (fun e2 => ?_) (fun e2 => ?_)
    · have h2 : ¬ 0 ≤ v := by
        have h : decide (0 ≤ v) = false := by subst hA; exact e2
        exact of_decide_eq_false h
      rw [if_neg h2, List.append_nil] at hs1
      cbv
      refine ⟨by subst hA; simp only [ar, inI64]; ((try simp only [ncast, Int.ofNat_eq_natCast] at *); omega), ?_⟩
      refine ⟨k + 1, ⟨hlt, by omega⟩, ?_⟩
      subst hA
      simp [LeSt, leVs, leP, St.set, setVs, aget, subHp]
      rw [hs1]
      simp [ar]
    · have h2 : 0 ≤ v := by
        have h : decide (0 ≤ v) = true := by subst hA; exact e2
        exact of_decide_eq_true h
      rw [if_pos h2] at hs1
      cbv
      refine ⟨⟨by subst hA; simp only [ar, ints_len, List.length_cons, List.length_nil]; ((try simp only [ncast, Int.ofNat_eq_natCast] at *); omega), by trivial⟩, ?_⟩
      refine ⟨by subst hA; simp only [ar, inI64]; ((try simp only [ncast, Int.ofNat_eq_natCast] at *); omega), ?_⟩
      refine ⟨k + 1, ⟨hlt, by omega⟩, ?_⟩
      subst hA
      simp [LeSt, leVs, leP, St.set, setVs, aget, subHp]
      rw [hs1]
      simp [ar, ints]
  · have hge : k = t.nodes.toNat := by
      have h : decide (Int.ofNat k < ((ints D).length : Int)) = false := by subst hA; exact e1
      have := of_decide_eq_false h
      rw [ints_len] at this
      ((try simp only [ncast, Int.ofNat_eq_natCast] at *); omega)
    have hR : (takeArcs k).filter (fun n => decide (0 ≤ at0 D n)) = reach t D := by rw [hge]; rfl
    rw [hR]
    cbv
    refine CallX.hnd (CallH_unit [(70, ⟨3, 1, A.e fun _ => ints (reach t D), false⟩)] [(70, ⟨3, 1, A.e fun _ => ints (sortB (ltD D) (reach t D)), false⟩)] (by subst hA; exact hsrt) (by subst hA; simp [subHp, aget]) rfl ?_)
    cbv
    (subst hA; refine Or.inl ?_; simp only [ar])
end Go.Proofs.Ytogehfalhodapaa
namespace Go.Proofs.Ytogehfalhodapaa
open Go Go.Proofs.Ytogehfalhodapaa.Pv Go.RowKit Go.Shelf
attribute [local go_sem] Oper.semAt_some
set_option linter.unusedSimpArgs false
set_option linter.unusedVariables false
/-! slices.Backward: the elements from the last to the first, each with its index -/
def backs (L : List Int) : List (List PV) := (List.range L.length).map fun (j : Nat) => [.int .i64 ((L.length : Int) - 1 - j), .int .i64 (at0 L ((L.length : Int) - 1 - j))]
theorem backs_get {L : List Int} {j : Nat} (h : j < L.length) : (backs L)[j]? = some [.int .i64 ((L.length : Int) - 1 - j), .int .i64 (at0 L ((L.length : Int) - 1 - j))] := by
  simp [backs, h]
theorem s_Backward (L : List Int) : FCs 81 [.sl 1 (ints L)] (.fn (.func 91) [] [.ptr [.sl 1 (ints L)]]) := by
  refine FCs.intro [] [0,1,2] (fun A => [.sl 1 (A.e fun _ => ints L)]) Try.func81 rfl Try.call81 (by kernel_rfl) (by simp [Try.f81]) ?_
  intro A hA
  cbv
  (subst hA; refine Or.inl ?_; simp only [ar])
theorem ints_inv {M : Mem} {L : List Int} {v : Value} (h : RepI M (.sl 1 (ints L)) v) :
    (∃ ao c, v = .slice ao 0 c ∧ L = []) ∨ ∃ b off c cells T fr, v = .slice (some ⟨b, off, none⟩) L.length c ∧ M b = some (.cells cells T fr) ∧ ∀ j, j < L.length → cells[off + j]? = some (.int .i64 (L[j]?.getD 0)) := by
  generalize he : ints L = es at h
  cases h with
  | sl0 sz ao c => exact .inl ⟨ao, c, rfl, by cases L with | nil => rfl | cons x r => simp [ints] at he⟩
  | sl sz es b off c cells T fr vs h1 h2 h3 h4 h5 h6 h7 =>
    subst he
    refine .inr ⟨b, off, c, cells, T, fr, by rw [ints_len], h1, fun j hj => ?_⟩
    have hv : vs = L.map fun x => Value.int .i64 x := by
      clear h1 h2 h4 h6 h7 hj
      have hfl : (ints L).flatten = L.map fun x => PV.int .i64 x := by
        clear h5
        induction L with
        | nil => rfl
        | cons x r ih => simp only [ints, List.map_cons, List.flatten_cons, List.cons_append, List.nil_append] at ih ⊢; rw [ih]
      rw [hfl] at h5
      clear hfl
      induction L generalizing vs with
      | nil => cases h5; rfl
      | cons x r ih =>
        cases h5 with
        | cons p v ps vs' g1 g2 =>
          cases g1
          rw [ih _ g2]; rfl
    exact h7 j _ (by rw [hv]; simp [hj])
set_option maxRecDepth 100000 in
set_option maxHeartbeats 2000000 in
theorem s_back (L : List Int) (hL : L.length ≤ 1000000) : FSs 91 [.ptr [.sl 1 (ints L)]] (backs L) := by
  refine ⟨⟨Try.call91, ?_⟩⟩
  intro lb M l J W hcaps hJM hround hJ0
  obtain ⟨v0, rfl, hv0⟩ : ∃ v0, lb = [v0] ∧ RepI M (.ptr [.sl 1 (ints L)]) v0 := by
    cases hcaps with
    | cons p v ps vs h1 h2 => cases h2; exact ⟨v, rfl, h1⟩
  obtain ⟨b0, o0, cells0, T0, fr0, sv, rfl, hM0, hc0, hsv⟩ : ∃ b0 o0 cells0 T0 fr0 sv, v0 = .pointer (some ⟨b0, o0, none⟩) ∧ M b0 = some (.cells cells0 T0 fr0) ∧ cells0[o0]? = some sv ∧ RepI M (.sl 1 (ints L)) sv := by
    cases hv0 with
    | ptr cs b off cells T fr vs h1 h2 h3 h4 =>
      cases h2 with
      | cons p v ps vs' g1 g2 => exact ⟨b, off, cells, T, fr, v, rfl, h1, by simpa using h4 0 v rfl, g1⟩
  have hcell : ∀ k W', J k W' → W'.cell? ⟨b0, o0, none⟩ = some sv := by
    intro k W' hj
    have := hJM k W' hj b0 _ hM0
    simp [World.cell?, this, hc0]
  refine callsIn_of_wp Try.func91 rfl trivial ?_ rfl
  simp only [Try.ntmps91, List.size_toArray, List.length_cons, List.length_nil, Nat.reduceAdd, Nat.reduceSub, Array.replicate_succ, Array.replicate_zero, List.push_toArray, List.append_toArray, List.nil_append, List.cons_append]
  have hc := hcell 0 W hJ0
  have hlen : ∃ ao c, sv = .slice ao L.length c := by
    rcases ints_inv hsv with ⟨ao, c, e, rfl⟩ | ⟨b, off, c, _, _, _, e, _⟩
    · exact ⟨ao, c, e⟩
    · exact ⟨_, c, e⟩
  obtain ⟨ao, cp, esv⟩ := hlen
  rw [esv] at hc
  gi_wp2
  gi_loopw [3] (fun i wr => ∃ k : Nat, k ≤ L.length ∧ i = .int .i64 ((L.length : Int) - 1 - k) ∧ J k wr)
    (fun i _ => (intOf i + 1).toNat)
  case atStart => exact ⟨0, Nat.zero_le _, by simp, hJ0⟩
  case round =>
    obtain ⟨k, hk, rfl, hJs⟩ := hrel
    have hcr := hcell k wr hJs
    by_cases hlt : k < L.length
    · rcases ints_inv hsv with ⟨ao, c, e, rfl⟩ | ⟨b, off, c, cells, T, fr, e, hMb, hcs⟩
      · simp at hlt
      subst e
      have hci := hcs (L.length - 1 - k) (by omega)
      have hcx : wr.cell? ⟨b, off + (L.length - 1 - k), none⟩ = some (.int .i64 (L[L.length - 1 - k]?.getD 0)) := by
        have := hJM k wr hJs b _ hMb
        simp [World.cell?, this, hci]
      obtain ⟨fn, tmps, assign, body, hy, hR⟩ := hround k _ wr [.int .i64 ((L.length : Int) - 1 - k), .int .i64 (at0 L ((L.length : Int) - 1 - k))] (backs_get hlt) hJs (.cons _ _ _ _ (.int _ _) (.cons _ _ _ _ (.int _ _) .nil))
      have e1 : at0 L ((L.length : Int) - 1 - k) = L[L.length - 1 - k]?.getD 0 := by
        unfold at0
        rw [show ((L.length : Int) - 1 - k).toNat = L.length - 1 - k by omega, List.getElem?_eq_getElem (by omega)]
        rfl
      rw [e1] at hy
      have e2 : ((L.length : Int) - 1 - k).toNat = L.length - 1 - k := by omega
      gi_wp2
      refine ⟨rfl, hR.mono ?_⟩
      rintro e W3 ⟨rfl, hJ3⟩
      gi_wp2
      go_roundw
      case rel => exact ⟨k + 1, by omega, by congr 1; push_cast; omega, hJ3⟩
      case measure => simp [intOf]; omega
    · obtain rfl : k = L.length := by omega
      gi_wp2
      go_end0
      exact ⟨⟨_, rfl⟩, by rw [show (backs L).length = L.length by simp [backs]]; exact hJs⟩
end Go.Proofs.Ytogehfalhodapaa
namespace Go.Proofs.Ytogehfalhodapaa
open Go Go.Proofs.Ytogehfalhodapaa.Pv
set_option linter.unusedSimpArgs false
set_option linter.unusedVariables false
theorem countR_err {t : Topo} {down : List Bool} {n d most : Int} (h : towE t down n d ≠ 0) : countR t down n d most = (0, towE t down n d) := by
  unfold countR towE at *
  split
  · rfl
  · rename_i h1
    rw [if_neg h1] at h
    split
    · rfl
    · rename_i h2
      rw [if_neg h2] at h
      exact (h rfl).elim
theorem countR_ok {t : Topo} {down : List Bool} {n d most : Int} (h : towE t down n d = 0) : countR t down n d most = if most < 0 then (0, 1) else (at0 (countOf t down (distOf t down d false) d most) n, 0) := by
  unfold countR towE at *
  split
  · rename_i h1
    rw [if_pos h1] at h
    exact (h1 h).elim
  · rename_i h1
    rw [if_neg h1] at h
    split
    · rename_i h2
      rw [if_pos h2] at h
      cases h
    · rfl
theorem towE_ok {t : Topo} {down : List Bool} {n d : Int} (h : towE t down n d = 0) : (searchOf t down d false).2 = 0 ∧ 0 ≤ n ∧ n < t.nodes := by
  unfold towE at h
  split at h
  · rename_i h1; exact (h1 h).elim
  · rename_i h1
    split at h
    · cases h
    · rename_i h2
      simp [within] at h1 h2
      exact ⟨h1, by omega, by omega⟩
set_option maxHeartbeats 4000000 in
theorem c_Count (t : Topo) (down : List Bool) (n d most : Int) (hm : most ≤ 1000000) (hn20 : t.nodes < 20) :
    FCs 68 [t.pv, .sl 1 (bools down), .int .i64 n, .int .i64 d, .int .i64 most] (.tup [.int .i64 (countR t down n d most).1, .int .i64 (countR t down n d most).2]) := by
  refine FCs.intro [(12, 12), (14, 14), (34, 34)] [0,1,2,3,4,5,9,10,11,12,13,14,16,18,19,42,43,44,47,48,49] (fun A => [t.pvA A, .sl 1 (A.e fun _ => bools down), .int .i64 n, .int .i64 d, .int .i64 most]) Try.func68 rfl Try.call68 (by kernel_rfl) (by simp [Try.f68]) ?_
  intro A hA
  cbv
  by_cases htow : towE t down n d = 0
  rotate_left
  · have hco := countR_err (most := most) htow
    have hct := c_towards_err t down n d htow
    rw [hco]
    generalize towE t down n d = e at htow hct
    refine CallV.nm1 (fun m => .tup [grph0, .int .i64 m]) _ (by subst hA; exact hct) (by subst hA; rfl) (by intros; rfl) fun m g1 => ?_
    cbv
    refine splitTrue (by subst hA; rw [g1]; simp [ar, htow]) ?_
    cbv
    subst hA
    exact Or.inl (by rw [g1]; try rfl)
  have hco := countR_ok (most := most) htow
  have hct := c_towards_ok t down n d htow
  obtain ⟨h1, hs⟩ := towE_ok htow
  obtain ⟨hf, hd0, hse, hD, hDb⟩ := search_ok h1
  rw [hco]
  have hv := fits_valid hf
  have hnod := headOk_nodes (valid_head hv)
  generalize distOf t down d false = L at hct hD hDb
  have hlen := hD.len
  refine CallV.nm1 (fun m => .tup [.agg [.int .i64 (A.i fun _ => t.nodes), .sl 1 (A.e fun _ => bools t.over), .sl 7 (A.e fun _ => lks t.links), .sl 1 (A.e fun _ => bools down), .int .i64 d, .sl 1 (A.e fun _ => ints L)], .int .i64 m]) 0 (by subst hA; exact hct) (by subst hA; rfl) (by intros; rfl) fun m g1 => ?_
  cbv
  refine splitFalse (by subst hA; rw [g1]; try rfl) ?_
  cbv
  refine splitBoolF (fun e1 => ?_) (fun e1 => ?_)
  rotate_left
  · have h1 : most < 0 := by subst hA; simpa [ar] using e1
    cbv
    subst hA
    exact Or.inl (by rw [if_pos h1]; try rfl)
  have h1 : ¬ most < 0 := by subst hA; simpa [ar] using e1
  rw [if_neg h1]
  cbv
  refine ⟨(by subst hA; simp only [ar]; exact ⟨by ((try simp only [ncast, Int.ofNat_eq_natCast] at *); omega), by trivial, by show (8 : Int) * (t.nodes) ≤ 281474976710656; ((try simp only [ncast, Int.ofNat_eq_natCast] at *); omega), by ((try simp only [ncast, Int.ofNat_eq_natCast] at *); omega)⟩), ?_⟩
  refine ⟨by subst hA; simp only [ar, ints_len, List.length_replicate]; ((try simp only [ncast, Int.ofNat_eq_natCast] at *); omega), ?_⟩
  obtain ⟨y, hy, hy'⟩ := ints_atN (xs := List.replicate t.nodes.toNat 0) (k := d.toNat) (by simp; ((try simp only [ncast, Int.ofNat_eq_natCast] at *); omega))
  refine ⟨_, by subst hA; simp only [ar]; rw [show List.replicate t.nodes.toNat [PV.int .i64 0] = ints (List.replicate t.nodes.toNat 0) by simp [ints]]; exact hy', Nat.le_refl _, ?_⟩
  cbv
  have hO := ordOf_is t L
  have hOl := hO.len
  refine CallV.sl _ _ (by subst hA; exact c_order t down L d hlen hn20) (by subst hA; rfl) (by subst hA; rfl) fun os g3 => ?_
  cbv
  have hcO : countOf t down L d most = (ordOf t L).reverse.foldl (cntNode t down L d most) ((List.replicate t.nodes.toNat 0).set d.toNat (min 1 most)) := rfl
  generalize ordOf t L = ol at hO hOl g3 hcO
  refine CallV.nm1 (fun es => .fn (.func 91) [] [.ptr [.sl 1 es]]) (ints ol) (by rw [g3]; exact s_Backward ol) (by subst hA; rfl) (by intros; rfl) fun es g4 => ?_
  cbv
  have hC0 := CntOk.start (t := t) (most := most) (d := d) (by omega) hd0.1 hd0.2
  generalize hst : (List.replicate t.nodes.toNat 0).set d.toNat (min 1 most) = C0 at hcO hC0
  refine RangeK.intro 91 [.ptr [.sl 1 es]] (backs ol) (List Int) (fun C => [(14, ⟨26, 1, [[.os 34]], true⟩), (34, ⟨3, 1, A.e fun _ => ints C, false⟩), (12, ⟨91, 6, [[.int .i64 (A.i fun _ => t.nodes), .sl 1 (A.e fun _ => bools t.over), .sl 7 (A.e fun _ => lks t.links), .sl 1 (A.e fun _ => bools down), .int .i64 d, .sl 1 (A.e fun _ => ints L)]], true⟩)])
    (fun j C => C = (ol.reverse.take j).foldl (cntNode t down L d most) C0 ∧ CntOk t most C) C0 rfl (by rw [g4]; exact s_back ol (by ((try simp only [ncast, Int.ofNat_eq_natCast] at *); omega))) rfl ?_ rfl ?_ ⟨by simp, hC0⟩ ?_ ?_
  · intro ys hy
    simp only [backs, List.mem_map] at hy
    obtain ⟨j, _, rfl⟩ := hy
    exact ⟨rfl, rfl⟩
  · subst hA
    simp [subHp, aget, ar, splice, ← hst, ints, List.map_set, min_if]
  · rintro j C ys hys ⟨hC1, hC⟩
    have hlt : j < ol.length := by
      have := (List.getElem?_eq_some_iff.1 hys).1
      simpa [backs] using this
    rw [backs_get hlt] at hys
    have hys := (Option.some.inj hys).symm
    have hz : ol.reverse[j]? = some (at0 ol ((ol.length : Int) - 1 - j)) := by
      rw [List.getElem?_reverse (by omega)]
      unfold at0
      rw [show ((ol.length : Int) - 1 - j).toNat = ol.length - 1 - j by omega, List.getElem?_eq_getElem (by omega)]
      rfl
    have hzm := ((hO.mem _).1 (List.mem_reverse.1 (List.mem_of_getElem? hz))).1
    have hcn : (ol.reverse.take (j + 1)).foldl (cntNode t down L d most) C0 = cntNode t down L d most C (at0 ol ((ol.length : Int) - 1 - j)) := by rw [foldl_take hz, ← hC1]
    generalize at0 ol ((ol.length : Int) - 1 - j) = z at hys hzm hcn
    generalize (ol.length : Int) - 1 - j = zi at hys
    subst hys
    have hCl := hC.len
    cbv
    refine CallV.sl _ _ (by subst hA; exact c_next12 t down L z d hf hlen hDb hzm) (by subst hA; rfl) (by subst hA; rfl) fun N g5 => ?_
    cbv
    have hNl := nextOf_len t down L z d (2 * t.links.length)
    rw [show (takeArcs (2 * t.links.length)).filter (nxt t down L z d) = nextOf t down L z d from rfl] at hNl
    have hnode := fun k => hC.node (down := down) (D := L) (d := d) hv hzm.1 hzm.2 k
    have hna := fun a => next_arc (t := t) (down := down) (D := L) (x := z) (d := d) (a := a) hv
    have hcz : cntNode t down L d most C z = (nextOf t down L z d).foldl (cntArc t most z) C := rfl
    rw [hcz] at hcn
    generalize nextOf t down L z d = nl at g5 hNl hnode hna hcn
    cbv
    refine LoopK.upd Nat (fun k => [(18, .junk), (49, .int .i64 k)]) (fun k => [(14, ⟨26, 1, [[.os 34]], true⟩), (34, ⟨3, 1, A.e fun _ => ints ((nl.take k).foldl (cntArc t most z) C), false⟩), (12, ⟨91, 6, [[.int .i64 (A.i fun _ => t.nodes), .sl 1 (A.e fun _ => bools t.over), .sl 7 (A.e fun _ => lks t.links), .sl 1 (A.e fun _ => bools down), .int .i64 d, .sl 1 (A.e fun _ => ints L)]], true⟩)])
      (fun k => k ≤ nl.length) (fun k => nl.length - k) 0 ?_ ?_ ?_
    · subst hA
      simp [LeSt, leVs, leP, St.set, setVs, aget, subHp]
    · exact Nat.zero_le _
    rintro k hk
    have hCk := hnode k
    have hst : ∀ a, nl[k]? = some a → (nl.take (k + 1)).foldl (cntArc t most z) C = cntArc t most z ((nl.take k).foldl (cntArc t most z) C) a := fun a ha => foldl_take ha
    have hfl : k = nl.length → (nl.take k).foldl (cntArc t most z) C = nl.foldl (cntArc t most z) C := fun h => by rw [h, List.take_length]
    generalize (nl.take k).foldl (cntArc t most z) C = C' at hCk hst hfl
    have hCkl := hCk.len
    cbv
    refine splitBool (fun e5 => ?_) (fun e5 => ?_)
    · have hlt2 : k < nl.length := by
        have h : decide ((k : Int) < (ints nl).length) = true := by subst hA; rw [g5] at e5; exact e5
        have := of_decide_eq_true h
        rw [ints_len] at this
        ((try simp only [ncast, Int.ofNat_eq_natCast] at *); omega)
      obtain ⟨a, ha, ha'⟩ := ints_atN (xs := nl) (k := k) hlt2
      have harc := hna a (List.mem_of_getElem? ha)
      have hok := arc_ok harc
      obtain ⟨vh, eh, ih⟩ := ints_atI (D := C') (i := headOf t a) hok.2.2.1 (by ((try simp only [ncast, Int.ofNat_eq_natCast] at *); omega))
      obtain ⟨vz, ez, iz⟩ := ints_atI (D := C') (i := z) hzm.1 (by ((try simp only [ncast, Int.ofNat_eq_natCast] at *); omega))
      have b1 := hCk.bnd z hzm.1 hzm.2
      have b2 := hCk.bnd (headOf t a) hok.2.2.1 hok.2.2.2.1
      rw [← ez] at b1
      rw [← eh] at b2
      cbv
      refine ⟨_, by subst hA; rw [g5]; exact ha', Int.natCast_nonneg k, ?_⟩
      cbv
      refine ⟨by subst hA; simp only [ar, ints_len]; ((try simp only [ncast, Int.ofNat_eq_natCast] at *); omega), ?_⟩
      refine ⟨_, by subst hA; exact iz, ?_⟩
      cbv
      refine CallV.int _ _ (by subst hA; exact c_Head t a) (by subst hA; rfl) fun q2 g6 => ?_
      cbv
      refine ⟨by rw [g6]; subst hA; simp only [ar, ints_len]; ((try simp only [ncast, Int.ofNat_eq_natCast] at *); omega), ?_⟩
      refine ⟨_, by rw [g6]; subst hA; exact ih, ?_⟩
      cbv
      refine ⟨by subst hA; simp only [ar, ints_len]; ((try simp only [ncast, Int.ofNat_eq_natCast] at *); omega), ?_⟩
      refine ⟨_, by subst hA; exact iz, ?_⟩
      cbv
      refine ⟨by subst hA; simp only [ar, inI64]; ((try simp only [ncast, Int.ofNat_eq_natCast] at *); omega), ?_⟩
      refine ⟨by subst hA; simp only [ar, inI64, min_if]; ((try simp only [ncast, Int.ofNat_eq_natCast] at *); omega), by subst hA; simp only [ar, ints_len]; ((try simp only [ncast, Int.ofNat_eq_natCast] at *); omega), ?_⟩
      refine ⟨_, by subst hA; exact iz, Nat.le_refl _, ?_⟩
      cbv
      refine ⟨by subst hA; simp only [ar, inI64]; ((try simp only [ncast, Int.ofNat_eq_natCast] at *); omega), ?_⟩
      refine ⟨k + 1, ⟨hlt2, by omega⟩, ?_⟩
      subst hA
      simp [LeSt, leVs, leP, St.set, setVs, aget, subHp]
      rw [hst a ha]
      simp [ar, cntArc, splice, ints, List.map_set, ← ez, ← eh]
      refine congrArg (fun q : Int => (List.map (fun x => [PV.int IntKind.i64 x]) C').set z.toNat [PV.int IntKind.i64 q]) ?_
      show vz + (if most - vz < vh then most - vz else vh) = _
      rw [min_if]
    · have hge : k = nl.length := by
        have h : decide ((k : Int) < (ints nl).length) = false := by subst hA; rw [g5] at e5; exact e5
        have := of_decide_eq_false h
        rw [ints_len] at this
        ((try simp only [ncast, Int.ofNat_eq_natCast] at *); omega)
      cbv
      refine ⟨C', ⟨by rw [hcn, ← hfl hge], hCk⟩, ?_⟩
      subst hA
      simp [subHp, aget, ar]
  · rintro C ⟨hC1, hC⟩
    have hfull : C = countOf t down L d most := by rw [hC1, hcO]; congr 1; simp only [backs, List.length_map, List.length_range]; rw [← List.length_reverse, List.take_length]
    have hCl := hC.len
    obtain ⟨vn, en, iN⟩ := ints_atI (D := C) (i := n) hs.1 (by ((try simp only [ncast, Int.ofNat_eq_natCast] at *); omega))
    cbv
    refine ⟨by subst hA; simp only [ar, ints_len]; ((try simp only [ncast, Int.ofNat_eq_natCast] at *); omega), ?_⟩
    refine ⟨_, by subst hA; exact iN, ?_⟩
    cbv
    subst hA
    refine Or.inl ?_
    rw [← hfull, ← en]
    try rfl
theorem c_Unique (t : Topo) (down : List Bool) (n d : Int) (hn20 : t.nodes < 20) :
    FCs 45 [t.pv, .sl 1 (bools down), .int .i64 n, .int .i64 d] (.bool (uniqOf t down n d)) := by
  refine FCs.intro [] [0,1,2,3,4,8,9,10] (fun A => [t.pvA A, .sl 1 (A.e fun _ => bools down), .int .i64 n, .int .i64 d]) Try.func45 rfl Try.call45 (by kernel_rfl) (by simp [Try.f45]) ?_
  intro A hA
  cbv
  refine CallV.nm2 (fun a b => .tup [.int .i64 a, .int .i64 b]) _ _ (by subst hA; exact c_Count t down n d 2 (by omega) hn20) (by subst hA; rfl) (by intros; rfl) fun c e g1 g2 => ?_
  cbv
  refine splitBoolF (fun e1 => ?_) (fun e1 => ?_)
  · have h1 : ¬ (countR t down n d 2).2 = 0 := by rw [← g2]; subst hA; simpa [ar] using e1
    cbv
    (subst hA; refine Or.inl ?_; simp [ar, uniqOf, h1])
  · have h1 : (countR t down n d 2).2 = 0 := by rw [← g2]; subst hA; simpa [ar] using e1
    cbv
    (subst hA; refine Or.inl ?_; simp [ar, uniqOf, h1, g1])
end Go.Proofs.Ytogehfalhodapaa
namespace Go.Proofs.Ytogehfalhodapaa
open Go Go.Proofs.Ytogehfalhodapaa.Pv
set_option linter.unusedSimpArgs false
set_option linter.unusedVariables false
/-! segments -/
structure Segm where
  k : Int
  n : Int
deriving DecidableEq
def Segm.cs (s : Segm) : List PV := [.int .i64 s.k, .int .i64 s.n]
def segs (l : List Segm) : List (List PV) := l.map Segm.cs
theorem segs_len (l : List Segm) : (segs l).length = l.length := by simp [segs]
theorem segs_get {xs : List Segm} {i : Nat} {x : Segm} (h : xs[i]? = some x) : (segs xs)[i]? = some [.int .i64 x.k, .int .i64 x.n] := by simp [segs, h, Segm.cs]
theorem segs_atN {xs : List Segm} {k : Nat} (h : k < xs.length) : ∃ l, xs[k]? = some l ∧ (segs xs)[k]? = some [.int .i64 l.k, .int .i64 l.n] := ⟨xs[k], by simp [h], segs_get (by simp [h])⟩
def segOk (t : Topo) (s : Segm) : Bool :=
  valid t && decide (0 ≤ s.n) && (if s.k = 1 then decide (s.n < t.nodes) else if s.k = 2 then decide (s.n < 2 * t.links.length) else if s.k = 3 then decide (1 ≤ s.n) && decide (s.n ≤ 64) else decide (s.k = 4) && decide (s.n ≤ 65535))
def endOf (t : Topo) (s : Segm) (f : Int) : Int × Int :=
  if segOk t s = false then (0, 1) else if within f 0 (t.nodes - 1) = false then (0, 2) else if s.k = 1 then (s.n, 0) else if s.k ≠ 2 then (0, 7) else if tailOf t s.n ≠ f then (0, 4) else (headOf t s.n, 0)
set_option maxHeartbeats 1000000 in
theorem c_segValid (t : Topo) (s : Segm) : FCs 76 [t.pv, .agg s.cs] (.bool (segOk t s)) := by
  refine FCs.intro [] [0,1,2,3,4,14,15,22,31] (fun A => [t.pvA A, .agg [.int .i64 s.k, .int .i64 s.n]]) Try.func76 rfl Try.call76 (by kernel_rfl) (by simp [Try.f76]) ?_
  intro A hA
  cbv
  refine CallV.bool _ (by subst hA; exact c_Valid t) (by subst hA; rfl) fun m1 g1 => ?_
  cbv
  cases hv : valid t
  · refine splitTrue (by subst hA; rw [g1, hv]; rfl) ?_
    cbv
    (subst hA; refine Or.inl ?_; simp [ar, segOk, hv])
  · have hlen := valid_links hv
    repeat' (first
      | (refine splitBoolF (fun e => ?_) (fun e => ?_) <;> cbv)
      | (refine ⟨by subst hA; simp only [ar, inI64, lks_len]; ((try simp only [ncast, Int.ofNat_eq_natCast] at *); omega), ?_⟩; cbv))
    all_goals (subst hA; first | (refine Or.inl ?_; simp_all [ar, ncast, Int.ofNat_eq_natCast, segOk, lks_len]; done) | (refine Or.inr ?_; simp_all [ar, ncast, Int.ofNat_eq_natCast, wk, wks, segOk, lks_len]; done) | (refine Or.inl ?_; simp_all [ar, ncast, Int.ofNat_eq_natCast, segOk, lks_len]; first | rfl | omega | ((repeat' split) <;> (first | rfl | omega | (simp_all; done) | (simp_all; omega)))))
set_option maxHeartbeats 1000000 in
theorem c_segEnd (t : Topo) (s : Segm) (f : Int) : FCs 62 [t.pv, .agg s.cs, .int .i64 f] (.tup [.int .i64 (endOf t s f).1, .int .i64 (endOf t s f).2]) := by
  refine FCs.intro [] [0,1,2,3,4,6,7,8,13,22,28,32] (fun A => [t.pvA A, .agg [.int .i64 s.k, .int .i64 s.n], .int .i64 f]) Try.func62 rfl Try.call62 (by kernel_rfl) (by simp [Try.f62]) ?_
  intro A hA
  cbv
  repeat' (first
    | (refine splitBoolF (fun e => ?_) (fun e => ?_) <;> cbv)
    | (refine CallV.bool _ (by subst hA; exact c_segValid t s) (by subst hA; rfl) fun _ _ => ?_; cbv)
    | (refine CallV.int _ _ (by subst hA; exact c_Tail t s.n) (by subst hA; rfl) fun _ _ => ?_; cbv)
    | (refine CallV.int _ _ (by subst hA; exact c_Head t s.n) (by subst hA; rfl) fun _ _ => ?_; cbv)
    | (refine ⟨by subst hA; simp only [ar, inI64, lks_len]; ((try simp only [ncast, Int.ofNat_eq_natCast] at *); omega), ?_⟩; cbv))
  all_goals (subst hA; first | (refine Or.inl ?_; simp_all [ar, ncast, Int.ofNat_eq_natCast, endOf, within_nodes]; done) | (refine Or.inr ?_; simp_all [ar, ncast, Int.ofNat_eq_natCast, wk, wks, endOf, within_nodes]; done) | (refine Or.inl ?_; simp_all [ar, ncast, Int.ofNat_eq_natCast, endOf, within_nodes]; first | rfl | omega | ((repeat' split) <;> (first | rfl | omega | (simp_all; done) | (simp_all; omega)))))
set_option maxHeartbeats 1000000 in
theorem r_segValid (t : Topo) (s : Segm) : FCs 84 [t.pv, .agg s.cs] (.bool (segOk t s)) := by
  refine FCs.intro [] [0,1,2,3,4,14,15,22,29,39] (fun A => [t.pvA A, .agg [.int .i64 s.k, .int .i64 s.n]]) Try.func84 rfl Try.call84 (by kernel_rfl) (by simp [Try.f84]) ?_
  intro A hA
  cbv
  repeat' (first
    | (refine splitBoolF (fun e => ?_) (fun e => ?_) <;> cbv)
    | (refine CallV.bool _ (by subst hA; exact r_Valid t) (by subst hA; rfl) fun _ _ => ?_; cbv)
    | (refine CallV.int _ _ (by subst hA; exact r_Arcs t) (by subst hA; rfl) fun _ _ => ?_; cbv)
    | (refine ⟨by subst hA; simp only [ar, inI64, lks_len]; ((try simp only [ncast, Int.ofNat_eq_natCast] at *); omega), ?_⟩; cbv))
  all_goals (subst hA; first | (refine Or.inl ?_; simp_all [ar, ncast, Int.ofNat_eq_natCast, segOk, lks_len, arcsOf]; done) | (refine Or.inr ?_; simp_all [ar, ncast, Int.ofNat_eq_natCast, wk, wks, segOk, lks_len, arcsOf]; done) | (refine Or.inl ?_; simp_all [ar, ncast, Int.ofNat_eq_natCast, segOk, lks_len, arcsOf]; first | rfl | omega | ((repeat' split) <;> (first | rfl | omega | (simp_all; done) | (simp_all; omega)))))
set_option maxHeartbeats 1000000 in
theorem r_segEnd (t : Topo) (s : Segm) (f : Int) : FCs 70 [t.pv, .agg s.cs, .int .i64 f] (.tup [.int .i64 (endOf t s f).1, .int .i64 (endOf t s f).2]) := by
  refine FCs.intro [] [0,1,2,3,4,6,7,8,13,22,28,32] (fun A => [t.pvA A, .agg [.int .i64 s.k, .int .i64 s.n], .int .i64 f]) Try.func70 rfl Try.call70 (by kernel_rfl) (by simp [Try.f70]) ?_
  intro A hA
  cbv
  repeat' (first
    | (refine splitBoolF (fun e => ?_) (fun e => ?_) <;> cbv)
    | (refine CallV.bool _ (by subst hA; exact r_segValid t s) (by subst hA; rfl) fun _ _ => ?_; cbv)
    | (refine CallV.int _ _ (by subst hA; exact r_Tail t s.n) (by subst hA; rfl) fun _ _ => ?_; cbv)
    | (refine CallV.int _ _ (by subst hA; exact r_Head t s.n) (by subst hA; rfl) fun _ _ => ?_; cbv)
    | (refine ⟨by subst hA; simp only [ar, inI64, lks_len]; ((try simp only [ncast, Int.ofNat_eq_natCast] at *); omega), ?_⟩; cbv))
  all_goals (subst hA; first | (refine Or.inl ?_; simp_all [ar, ncast, Int.ofNat_eq_natCast, endOf, within_nodes]; done) | (refine Or.inr ?_; simp_all [ar, ncast, Int.ofNat_eq_natCast, wk, wks, endOf, within_nodes]; done) | (refine Or.inl ?_; simp_all [ar, ncast, Int.ofNat_eq_natCast, endOf, within_nodes]; first | rfl | omega | ((repeat' split) <;> (first | rfl | omega | (simp_all; done) | (simp_all; omega)))))
end Go.Proofs.Ytogehfalhodapaa
namespace Go.Proofs.Ytogehfalhodapaa
open Go Go.Proofs.Ytogehfalhodapaa.Pv
set_option linter.unusedSimpArgs false
set_option linter.unusedVariables false
/-! the ends of a list of segments; equality of lists -/
def endsGo (t : Topo) : List Segm → Int → List Int → List Int × Int
  | [], _, out => (out, 0)
  | s :: r, f, out => if (endOf t s f).2 ≠ 0 then ([], (endOf t s f).2) else endsGo t r (endOf t s f).1 (out ++ [(endOf t s f).1])
def endsOf (t : Topo) (l : List Segm) (f : Int) : List Int × Int := if valid t = false then ([], 1) else if within f 0 (t.nodes - 1) = false then ([], 2) else endsGo t l f []
theorem segs_drop {xs : List Segm} {k : Nat} {a : Segm} (h : xs[k]? = some a) : xs.drop k = a :: xs.drop (k + 1) := by
  have hlt := (List.getElem?_eq_some_iff.1 h).1
  rw [List.drop_eq_getElem_cons hlt]
  rw [List.getElem?_eq_getElem hlt] at h
  rw [Option.some.inj h]
set_option maxHeartbeats 1000000 in
theorem c_segEnds (t : Topo) (l : List Segm) (f : Int) (hl : l.length ≤ 1000000) : FCs 42 [t.pv, .sl 2 (segs l), .int .i64 f] (.tup [.sl 1 (ints (endsOf t l f).1), .int .i64 (endsOf t l f).2]) := by
  refine FCs.intro [(8, 8)] [0,1,2,3,6,7,8,10,11,12,13,17,26,27,28] (fun A => [t.pvA A, .sl 2 (A.e fun _ => segs l), .int .i64 f]) Try.func42 rfl Try.call42 (by kernel_rfl) (by simp [Try.f42]) ?_
  intro A hA
  cbv
  refine CallV.bool _ (by subst hA; exact c_Valid t) (by subst hA; rfl) fun m0 g0 => ?_
  cbv
  cases hv : valid t
  · refine splitTrue (by subst hA; rw [g0, hv]; rfl) ?_
    cbv
    subst hA
    exact Or.inr (by simp [wk, wks, ar, endsOf, hv, ints])
  refine splitFalse (by subst hA; rw [g0, hv]; rfl) ?_
  cbv
  have hcase : within f 0 (t.nodes - 1) = false → endsOf t l f = ([], 2) := fun h => by simp [endsOf, hv, h]
  refine splitBoolF (fun e1 => ?_) (fun e1 => ?_)
  rotate_left
  · have q1 : f < 0 := of_decide_eq_true (by subst hA; exact e1)
    have h1 : within f 0 (t.nodes - 1) = false := by simp [within]; omega
    cbv
    subst hA
    exact Or.inr (by rw [hcase h1]; simp [wk, wks, ar, ints])
  cbv
  refine splitBoolF (fun e2 => ?_) (fun e2 => ?_)
  rotate_left
  · have q1 : t.nodes ≤ f := of_decide_eq_true (by subst hA; exact e2)
    have h1 : within f 0 (t.nodes - 1) = false := by simp [within]; omega
    cbv
    subst hA
    exact Or.inr (by rw [hcase h1]; simp [wk, wks, ar, ints])
  have q1 : ¬ (f < 0) := of_decide_eq_false (by subst hA; exact e1)
  have q2 : ¬ (t.nodes ≤ f) := of_decide_eq_false (by subst hA; exact e2)
  have h1 : within f 0 (t.nodes - 1) = true := by simp [within]; omega
  rw [show endsOf t l f = endsGo t l f [] by simp [endsOf, hv, h1]]
  cbv
  refine LoopK.upd (Nat × Int × List Int) (fun p => [(28,.int .i64 p.1),(2,.int .i64 p.2.1),(10,.junk),(11,.junk),(12,.junk)]) (fun p => [(8, ⟨3, 1, A.e fun _ => ints p.2.2, false⟩)]) (fun p => p.1 ≤ l.length ∧ endsGo t (l.drop p.1) p.2.1 p.2.2 = endsGo t l f [] ∧ p.2.2.length = p.1) (fun p => l.length - p.1) (0, f, []) ?_ ?_ ?_
  · subst hA
    simp [LeSt, leVs, leP, St.set, setVs, aget, subHp]
    try rfl
  · exact ⟨Nat.zero_le _, rfl, rfl⟩
  rintro ⟨k, x, out⟩ ⟨hk, hg, ho⟩
  dsimp only at hk hg ho
  cbv
  refine splitBool (fun e3 => ?_) (fun e3 => ?_)
  rotate_left
  · have hge : k = l.length := by
      have h : decide ((k : Int) < (segs l).length) = false := by subst hA; exact e3
      have := of_decide_eq_false h
      rw [segs_len] at this
      ((try simp only [ncast, Int.ofNat_eq_natCast] at *); omega)
    rw [hge, List.drop_length] at hg
    cbv
    subst hA
    refine Or.inl ?_
    rw [← hg]
    rfl
  have hlt : k < l.length := by
    have h : decide ((k : Int) < (segs l).length) = true := by subst hA; exact e3
    have := of_decide_eq_true h
    rw [segs_len] at this
    ((try simp only [ncast, Int.ofNat_eq_natCast] at *); omega)
  obtain ⟨s, hs, hs'⟩ := segs_atN hlt
  rw [segs_drop hs] at hg
  have hg2 : (if (endOf t s x).2 ≠ 0 then (([] : List Int), (endOf t s x).2) else endsGo t (l.drop (k + 1)) (endOf t s x).1 (out ++ [(endOf t s x).1])) = endsGo t l f [] := hg
  cbv
  refine ⟨_, by subst hA; exact hs', Int.natCast_nonneg k, ?_⟩
  cbv
  refine CallV.nm2 (fun a b => .tup [.int .i64 a, .int .i64 b]) _ _ (by subst hA; exact c_segEnd t s x) (by subst hA; rfl) (by intros; rfl) fun y z g1 g2 => ?_
  rw [← g1, ← g2] at hg2
  cbv
  refine splitBoolF (fun e4 => ?_) (fun e4 => ?_)
  rotate_left
  · have h4 : z ≠ 0 := by
      have h : (!decide (z = 0)) = true := by subst hA; exact e4
      simpa using h
    rw [if_pos h4] at hg2
    cbv
    subst hA
    refine Or.inr ?_
    rw [← hg2]
    simp [wk, wks, ar, ints]
  have h4 : z = 0 := by
    have h : (!decide (z = 0)) = false := by subst hA; exact e4
    simpa using h
  rw [if_neg (by simp [h4])] at hg2
  cbv
  refine ⟨⟨by subst hA; simp only [ar, ints_len, List.length_cons, List.length_nil]; ((try simp only [ncast, Int.ofNat_eq_natCast] at *); omega), by trivial⟩, ?_⟩
  refine ⟨by subst hA; simp only [ar, inI64]; ((try simp only [ncast, Int.ofNat_eq_natCast] at *); omega), ?_⟩
  refine ⟨(k + 1, y, out ++ [y]), ⟨⟨hlt, hg2, by simp [ho]⟩, by dsimp only; omega⟩, ?_⟩
  subst hA
  simp [LeSt, leVs, leP, St.set, setVs, aget, subHp]
  simp [ar, ints]
set_option maxHeartbeats 1000000 in
theorem r_segEnds (t : Topo) (l : List Segm) (f : Int) (hl : l.length ≤ 1000000) : FCs 48 [t.pv, .sl 2 (segs l), .int .i64 f] (.tup [.sl 1 (ints (endsOf t l f).1), .int .i64 (endsOf t l f).2]) := by
  refine FCs.intro [(8, 8)] [0,1,2,3,6,7,8,9,10,11] (fun A => [t.pvA A, .sl 2 (A.e fun _ => segs l), .int .i64 f]) Try.func48 rfl Try.call48 (by kernel_rfl) (by simp [Try.f48]) ?_
  intro A hA
  cbv
  refine CallV.bool _ (by subst hA; exact r_Valid t) (by subst hA; rfl) fun m0 g0 => ?_
  cbv
  cases hv : valid t
  · refine splitTrue (by subst hA; rw [g0, hv]; rfl) ?_
    cbv
    subst hA
    exact Or.inr (by simp [wk, wks, ar, endsOf, hv, ints])
  refine splitFalse (by subst hA; rw [g0, hv]; rfl) ?_
  cbv
  have hcase : within f 0 (t.nodes - 1) = false → endsOf t l f = ([], 2) := fun h => by simp [endsOf, hv, h]
  refine splitBoolF (fun e1 => ?_) (fun e1 => ?_)
  rotate_left
  · have q1 : f < 0 := of_decide_eq_true (by subst hA; exact e1)
    have h1 : within f 0 (t.nodes - 1) = false := by simp [within]; omega
    cbv
    subst hA
    exact Or.inr (by rw [hcase h1]; simp [wk, wks, ar, ints])
  cbv
  refine splitBoolF (fun e2 => ?_) (fun e2 => ?_)
  rotate_left
  · have q1 : t.nodes ≤ f := of_decide_eq_true (by subst hA; exact e2)
    have h1 : within f 0 (t.nodes - 1) = false := by simp [within]; omega
    cbv
    subst hA
    exact Or.inr (by rw [hcase h1]; simp [wk, wks, ar, ints])
  have q1 : ¬ (f < 0) := of_decide_eq_false (by subst hA; exact e1)
  have q2 : ¬ (t.nodes ≤ f) := of_decide_eq_false (by subst hA; exact e2)
  have h1 : within f 0 (t.nodes - 1) = true := by simp [within]; omega
  rw [show endsOf t l f = endsGo t l f [] by simp [endsOf, hv, h1]]
  cbv
  refine LoopK.upd (Nat × Int × List Int) (fun p => [(9,.int .i64 p.1),(2,.int .i64 p.2.1),(10,.junk),(11,.junk)]) (fun p => [(8, ⟨3, 1, A.e fun _ => ints p.2.2, false⟩)]) (fun p => p.1 ≤ l.length ∧ endsGo t (l.drop p.1) p.2.1 p.2.2 = endsGo t l f [] ∧ p.2.2.length = p.1) (fun p => l.length - p.1) (0, f, []) ?_ ?_ ?_
  · subst hA
    simp [LeSt, leVs, leP, St.set, setVs, aget, subHp]
    try rfl
  · exact ⟨Nat.zero_le _, rfl, rfl⟩
  rintro ⟨k, x, out⟩ ⟨hk, hg, ho⟩
  dsimp only at hk hg ho
  cbv
  refine splitBool (fun e3 => ?_) (fun e3 => ?_)
  rotate_left
  · have hge : k = l.length := by
      have h : decide ((k : Int) < (segs l).length) = false := by subst hA; exact e3
      have := of_decide_eq_false h
      rw [segs_len] at this
      ((try simp only [ncast, Int.ofNat_eq_natCast] at *); omega)
    rw [hge, List.drop_length] at hg
    cbv
    subst hA
    refine Or.inl ?_
    rw [← hg]
    rfl
  have hlt : k < l.length := by
    have h : decide ((k : Int) < (segs l).length) = true := by subst hA; exact e3
    have := of_decide_eq_true h
    rw [segs_len] at this
    ((try simp only [ncast, Int.ofNat_eq_natCast] at *); omega)
  obtain ⟨s, hs, hs'⟩ := segs_atN hlt
  rw [segs_drop hs] at hg
  have hg2 : (if (endOf t s x).2 ≠ 0 then (([] : List Int), (endOf t s x).2) else endsGo t (l.drop (k + 1)) (endOf t s x).1 (out ++ [(endOf t s x).1])) = endsGo t l f [] := hg
  cbv
  refine ⟨_, by subst hA; exact hs', Int.natCast_nonneg k, ?_⟩
  cbv
  refine CallV.nm2 (fun a b => .tup [.int .i64 a, .int .i64 b]) _ _ (by subst hA; exact r_segEnd t s x) (by subst hA; rfl) (by intros; rfl) fun y z g1 g2 => ?_
  rw [← g1, ← g2] at hg2
  cbv
  refine splitBoolF (fun e4 => ?_) (fun e4 => ?_)
  rotate_left
  · have h4 : z ≠ 0 := by
      have h : (!decide (z = 0)) = true := by subst hA; exact e4
      simpa using h
    rw [if_pos h4] at hg2
    cbv
    subst hA
    refine Or.inr ?_
    rw [← hg2]
    simp [wk, wks, ar, ints]
  have h4 : z = 0 := by
    have h : (!decide (z = 0)) = false := by subst hA; exact e4
    simpa using h
  rw [if_neg (by simp [h4])] at hg2
  cbv
  refine ⟨⟨by subst hA; simp only [ar, ints_len, List.length_cons, List.length_nil]; ((try simp only [ncast, Int.ofNat_eq_natCast] at *); omega), by trivial⟩, ?_⟩
  refine ⟨by subst hA; simp only [ar, inI64]; ((try simp only [ncast, Int.ofNat_eq_natCast] at *); omega), ?_⟩
  refine ⟨(k + 1, y, out ++ [y]), ⟨⟨hlt, hg2, by simp [ho]⟩, by dsimp only; omega⟩, ?_⟩
  subst hA
  simp [LeSt, leVs, leP, St.set, setVs, aget, subHp]
  simp [ar, ints]
def eqS (a b : List Segm) : Bool := decide (a = b)
theorem segm_ext {a b : Segm} (h1 : a.k = b.k) (h2 : a.n = b.n) : a = b := by cases a; cases b; cases h1; cases h2; rfl
set_option maxHeartbeats 1000000 in
theorem r_Same18 (a b : List Segm) (ha : a.length ≤ 1000000) : FCs 15 [.sl 2 (segs a), .sl 2 (segs b)] (.bool (eqS a b)) := by
  refine FCs.intro [] [0,1,4,5] (fun A => [.sl 2 (A.e fun _ => segs a), .sl 2 (A.e fun _ => segs b)]) Try.func15 rfl Try.call15 (by kernel_rfl) (by simp [Try.f15]) ?_
  intro A hA
  cbv
  refine splitBoolF (fun e1 => ?_) (fun e1 => ?_)
  rotate_left
  · have h1 : ¬ a.length = b.length := by
      have h : (!decide (((segs a).length : Int) = (segs b).length)) = true := by subst hA; exact e1
      simp [segs_len] at h; ((try simp only [ncast, Int.ofNat_eq_natCast] at *); omega)
    have : eqS a b = false := by unfold eqS; exact decide_eq_false fun h => h1 (by rw [h])
    cbv
    (subst hA; refine Or.inl ?_; simp only [ar, this])
  have h1 : a.length = b.length := by
    have h : (!decide (((segs a).length : Int) = (segs b).length)) = false := by subst hA; exact e1
    simp [segs_len] at h; ((try simp only [ncast, Int.ofNat_eq_natCast] at *); omega)
  cbv
  refine LoopK.upd Nat (fun k => [(5, .int .i64 k)]) (fun _ => []) (fun k => k ≤ a.length ∧ a.take k = b.take k) (fun k => a.length - k) 0 ?_ ?_ ?_
  · simp [LeSt, leVs, leP, St.set, setVs, aget, subHp]
  · exact ⟨Nat.zero_le _, rfl⟩
  rintro k ⟨hk, heq⟩
  cbv
  refine splitBool (fun e2 => ?_) (fun e2 => ?_)
  rotate_left
  · have hge : k = a.length := by
      have h : decide ((k : Int) < (segs a).length) = false := by subst hA; exact e2
      have := of_decide_eq_false h
      rw [segs_len] at this
      ((try simp only [ncast, Int.ofNat_eq_natCast] at *); omega)
    have : eqS a b = true := by
      unfold eqS
      refine decide_eq_true ?_
      rw [hge, List.take_length, h1, List.take_length] at heq
      exact heq
    cbv
    (subst hA; refine Or.inl ?_; simp only [ar, this])
  have hlt : k < a.length := by
    have h : decide ((k : Int) < (segs a).length) = true := by subst hA; exact e2
    have := of_decide_eq_true h
    rw [segs_len] at this
    ((try simp only [ncast, Int.ofNat_eq_natCast] at *); omega)
  obtain ⟨x, hx, hx'⟩ := segs_atN hlt
  obtain ⟨y, hy, hy'⟩ := segs_atN (xs := b) (k := k) (by omega)
  cbv
  refine ⟨_, by subst hA; exact hx', Int.natCast_nonneg k, ?_⟩
  cbv
  refine ⟨_, by subst hA; exact hy', Int.natCast_nonneg k, ?_⟩
  cbv
  refine splitBoolF (fun e3 => ?_) (fun e3 => ?_)
  · have h3 : x.k = y.k ∧ x.n = y.n := by
      have h : (!(decide (x.k = y.k) && (decide (x.n = y.n) && true))) = false := by subst hA; exact e3
      simpa using h
    have hxy := segm_ext h3.1 h3.2
    cbv
    refine ⟨by subst hA; simp only [ar, inI64]; ((try simp only [ncast, Int.ofNat_eq_natCast] at *); omega), ?_⟩
    refine ⟨k + 1, ⟨⟨hlt, by rw [take_snoc hx, take_snoc hy, heq, hxy]⟩, by omega⟩, ?_⟩
    subst hA
    simp [LeSt, leVs, leP, St.set, setVs, aget, subHp]
    simp [ar]
  · have h3 : ¬ (x.k = y.k ∧ x.n = y.n) := by
      have h : (!(decide (x.k = y.k) && (decide (x.n = y.n) && true))) = true := by subst hA; exact e3
      simp at h; omega
    have : eqS a b = false := by
      unfold eqS
      refine decide_eq_false fun h => h3 ?_
      rw [h, hy] at hx
      rw [Option.some.inj hx]
      exact ⟨rfl, rfl⟩
    cbv
    (subst hA; refine Or.inl ?_; simp only [ar, this])
end Go.Proofs.Ytogehfalhodapaa
namespace Go.Proofs.Ytogehfalhodapaa
open Go Go.Proofs.Ytogehfalhodapaa.Pv
set_option linter.unusedSimpArgs false
set_option linter.unusedVariables false
/-! texts of segments -/
theorem CallV_str {C : Ctr} {f : Nat} {args args' : List PV} {k : PV → Prop} (n : ByteArray) (h : C f args' (.str n)) (h1 : isImms args' = true) (h3 : ∀ m, m = n → k (.str m)) : CallV C f args args' k :=
  .intro _ h h1 (by simp [scalar]) (h3 n rfl)
def digitsS (n : Nat) : ByteArray := if n < 10 then bytesStr [48 + (n : Int)] else digitsS (n / 10) ++ bytesStr [48 + (n : Int) % 10]
theorem digitsS_size (n : Nat) : (digitsS n).size ≤ n + 1 := by
  induction n using Nat.strongRecOn with
  | ind n ih =>
    unfold digitsS
    split
    · simp [bytesStr, ByteArray.size, ByteArray.push]
    · have := ih (n / 10) (by omega)
      rw [ByteArray.size_append]
      have h1 : (bytesStr [48 + (n : Int) % 10]).size = 1 := rfl
      omega
theorem tmod10 {a : Int} (h : 0 ≤ a) : a.tmod 10 = a % 10 := Int.tmod_eq_emod_of_nonneg h
theorem r_digits (n : Nat) (hn : n ≤ 1000000000000) : FCs 85 [.int .u64 n] (.str (digitsS n)) := by
  induction n using Nat.strongRecOn with
  | ind n ih =>
    have e1 : digitsS n = if n < 10 then bytesStr [48 + (n : Int)] else digitsS (n / 10) ++ bytesStr [48 + (n : Int) % 10] := by rw [digitsS]
    refine FCs.intro [] [0,2] (fun A => [.int .u64 (A.i fun _ => (n : Int))]) Try.func85 rfl Try.call85 (by kernel_rfl) (by simp [Try.f85]) ?_
    intro A hA
    cbv
    refine splitBoolF (fun e2 => ?_) (fun e2 => ?_)
    rotate_left
    · have h2 : (n : Int) < 10 := of_decide_eq_true (by subst hA; exact e2)
      cbv
      refine ⟨[48 + (n : Int)], by subst hA; simp only [ar, byteCells, List.map_cons, List.map_nil]; rw [IntWalk.u64_in _ (by ((try simp only [ncast, Int.ofNat_eq_natCast] at *); omega)), IntWalk.u8_in _ (by ((try simp only [ncast, Int.ofNat_eq_natCast] at *); omega))], ?_⟩
      cbv
      subst hA
      refine Or.inl ?_
      rw [e1, if_pos (by ((try simp only [ncast, Int.ofNat_eq_natCast] at *); omega))]
      rfl
    · have h2 : ¬ ((n : Int) < 10) := of_decide_eq_false (by subst hA; exact e2)
      cbv
      refine ⟨by subst hA; simp only [ar]; decide, ?_⟩
      refine CallV_str _ (by subst hA; simp only [ar]; rw [IntWalk.u64_quo _ _ (by ((try simp only [ncast, Int.ofNat_eq_natCast] at *); omega))]; rw [show (n : Int) / 10 = ((n / 10 : Nat) : Int) by omega]; exact ih (n / 10) (by ((try simp only [ncast, Int.ofNat_eq_natCast] at *); omega)) (by omega)) (by subst hA; rfl) fun m g1 => ?_
      have hsz := digitsS_size (n / 10)
      rw [← g1] at hsz
      cbv
      refine ⟨by subst hA; simp only [ar]; decide, ?_⟩
      refine ⟨[48 + (n : Int) % 10], by subst hA; simp only [ar, byteCells, List.map_cons, List.map_nil]; rw [tmod10 (by ((try simp only [ncast, Int.ofNat_eq_natCast] at *); omega)), IntWalk.u64_in _ (by ((try simp only [ncast, Int.ofNat_eq_natCast] at *); omega)), IntWalk.u8_in _ (by ((try simp only [ncast, Int.ofNat_eq_natCast] at *); omega))], ?_⟩
      cbv
      refine ⟨by subst hA; simp only [ar]; rw [show (bytesStr [48 + (n : Int) % 10]).size = 1 from rfl]; omega, ?_⟩
      cbv
      subst hA
      refine Or.inl ?_
      rw [e1, if_neg (by ((try simp only [ncast, Int.ofNat_eq_natCast] at *); omega)), ← g1]
      rfl
def textOf (s : Segm) : ByteArray :=
  if s.k < 1 ∨ 4 < s.k ∨ s.n < 0 ∨ 999999999 < s.n then ⟨#[]⟩ else (if s.k = 1 then ⟨#[110]⟩ else if s.k = 2 then ⟨#[97]⟩ else if s.k = 3 then ⟨#[103]⟩ else ⟨#[98]⟩) ++ digitsS s.n.toNat
theorem r_Number (n : Int) (h0 : 0 ≤ n) (h1 : n ≤ 1000000000000) : FCs 71 [.int .i64 n] (.str (digitsS n.toNat)) := by
  refine FCs.intro [] [0,2] (fun A => [.int .i64 n]) Try.func71 rfl Try.call71 (by kernel_rfl) (by simp [Try.f71]) ?_
  intro A hA
  cbv
  refine splitFalse (by subst hA; exact decide_eq_false (by ((try simp only [ncast, Int.ofNat_eq_natCast] at *); omega))) ?_
  cbv
  refine CallV_str _ (by subst hA; simp only [ar]; rw [IntWalk.u64_in _ (by ((try simp only [ncast, Int.ofNat_eq_natCast] at *); omega))]; rw [show n = ((n.toNat : Nat) : Int) by omega]; exact r_digits n.toNat (by ((try simp only [ncast, Int.ofNat_eq_natCast] at *); omega))) (by subst hA; rfl) fun m g1 => ?_
  cbv
  subst hA
  exact Or.inl (by rw [g1]; try rfl)
theorem headC {cs : List PV} {c : PV} {r : List PV} {P : PV → Prop} (h : cs = c :: r) (hk : P c) : match (generalizing := false) cs with | c :: _ => P c | [] => False := by subst h; exact hk
set_option maxHeartbeats 1000000 in
theorem r_Text18 (s : Segm) : FCs 51 [.agg s.cs] (.str (textOf s)) := by
  obtain ⟨k, n⟩ := s
  have hts : textOf ⟨k, n⟩ = if k < 1 ∨ 4 < k ∨ n < 0 ∨ 999999999 < n then ⟨#[]⟩ else (if k = 1 then ⟨#[110]⟩ else if k = 2 then ⟨#[97]⟩ else if k = 3 then ⟨#[103]⟩ else ⟨#[98]⟩) ++ digitsS n.toNat := rfl
  rw [hts]
  generalize textOf ⟨k, n⟩ = T at hts
  refine FCs.intro [(3, 3)] [0,1,2,3] (fun A => [.agg [.int .i64 k, .int .i64 n]]) Try.func51 rfl Try.call51 (by kernel_rfl) (by simp [Try.f51]) ?_
  intro A hA
  cbv
  have he : k < 1 ∨ 4 < k ∨ n < 0 ∨ 999999999 < n → T = ⟨#[]⟩ := fun h => by rw [hts, if_pos h]
  refine splitBoolF (fun e1 => ?_) (fun e1 => ?_)
  rotate_left
  · have h1 : k < 1 := of_decide_eq_true (by subst hA; exact e1)
    cbv
    subst hA
    exact Or.inl (by rw [if_pos (by omega)])
  have h1 : ¬ (k < 1) := of_decide_eq_false (by subst hA; exact e1)
  cbv
  refine splitBoolF (fun e2 => ?_) (fun e2 => ?_)
  rotate_left
  · have h2 : 4 < k := of_decide_eq_true (by subst hA; exact e2)
    cbv
    subst hA
    exact Or.inl (by rw [if_pos (by omega)])
  have h2 : ¬ (4 < k) := of_decide_eq_false (by subst hA; exact e2)
  cbv
  refine splitBoolF (fun e3 => ?_) (fun e3 => ?_)
  rotate_left
  · have h3 : n < 0 := of_decide_eq_true (by subst hA; exact e3)
    cbv
    subst hA
    exact Or.inl (by rw [if_pos (by omega)])
  have h3 : ¬ (n < 0) := of_decide_eq_false (by subst hA; exact e3)
  cbv
  refine splitBoolF (fun e4 => ?_) (fun e4 => ?_)
  rotate_left
  · have h4 : 999999999 < n := of_decide_eq_true (by subst hA; exact e4)
    cbv
    subst hA
    exact Or.inl (by rw [if_pos (by omega)])
  have h4 : ¬ (999999999 < n) := of_decide_eq_false (by subst hA; exact e4)
  cbv
  refine ⟨by subst hA; simp only [ar]; ((try simp only [ncast, Int.ofNat_eq_natCast] at *); omega), ?_⟩
  have hsz := digitsS_size n.toNat
  have hk : k = 1 ∨ k = 2 ∨ k = 3 ∨ k = 4 := by omega
  have ht : T = (if k = 1 then ⟨#[110]⟩ else if k = 2 then ⟨#[97]⟩ else if k = 3 then ⟨#[103]⟩ else ⟨#[98]⟩) ++ digitsS n.toNat := by
    rw [hts, if_neg (by omega)]
  rcases hk with hk | hk | hk | hk <;> subst hk
  · refine headC (c := .str ⟨#[110]⟩) (r := [.str ⟨#[97]⟩,.str ⟨#[103]⟩,.str ⟨#[98]⟩]) (by subst hA; rfl) ?_
    cbv
    refine CallV_str _ (by subst hA; exact r_Number n (by omega) (by omega)) (by subst hA; rfl) fun m g1 => ?_
    rw [← g1] at hsz
    cbv
    refine ⟨by subst hA; simp only [ar]; rw [show ∀ x : UInt8, (ByteArray.mk ⟨[x]⟩).size = 1 from fun _ => rfl]; omega, ?_⟩
    cbv
    subst hA
    exact Or.inl (by rw [← hts, ht, ← g1]; rfl)
  · refine headC (c := .str ⟨#[97]⟩) (r := [.str ⟨#[103]⟩,.str ⟨#[98]⟩]) (by subst hA; rfl) ?_
    cbv
    refine CallV_str _ (by subst hA; exact r_Number n (by omega) (by omega)) (by subst hA; rfl) fun m g1 => ?_
    rw [← g1] at hsz
    cbv
    refine ⟨by subst hA; simp only [ar]; rw [show ∀ x : UInt8, (ByteArray.mk ⟨[x]⟩).size = 1 from fun _ => rfl]; omega, ?_⟩
    cbv
    subst hA
    exact Or.inl (by rw [← hts, ht, ← g1]; rfl)
  · refine headC (c := .str ⟨#[103]⟩) (r := [.str ⟨#[98]⟩]) (by subst hA; rfl) ?_
    cbv
    refine CallV_str _ (by subst hA; exact r_Number n (by omega) (by omega)) (by subst hA; rfl) fun m g1 => ?_
    rw [← g1] at hsz
    cbv
    refine ⟨by subst hA; simp only [ar]; rw [show ∀ x : UInt8, (ByteArray.mk ⟨[x]⟩).size = 1 from fun _ => rfl]; omega, ?_⟩
    cbv
    subst hA
    exact Or.inl (by rw [← hts, ht, ← g1]; rfl)
  · refine headC (c := .str ⟨#[98]⟩) (r := []) (by subst hA; rfl) ?_
    cbv
    refine CallV_str _ (by subst hA; exact r_Number n (by omega) (by omega)) (by subst hA; rfl) fun m g1 => ?_
    rw [← g1] at hsz
    cbv
    refine ⟨by subst hA; simp only [ar]; rw [show ∀ x : UInt8, (ByteArray.mk ⟨[x]⟩).size = 1 from fun _ => rfl]; omega, ?_⟩
    cbv
    subst hA
    exact Or.inl (by rw [← hts, ht, ← g1]; rfl)
end Go.Proofs.Ytogehfalhodapaa
namespace Go.Proofs.Ytogehfalhodapaa
open Go Go.Proofs.Ytogehfalhodapaa.Pv
set_option linter.unusedSimpArgs false
set_option linter.unusedVariables false
/-! texts of lists; slices.Equal, slices.ContainsFunc -/
theorem lt_of_dec {k n : Nat} {es : List (List PV)} (h : decide ((k : Int) < (es.length : Int)) = true) (hn : es.length = n) : k < n := by
  have := of_decide_eq_true h; omega
theorem ge_of_dec {k n : Nat} {es : List (List PV)} (h : decide ((k : Int) < (es.length : Int)) = false) (hn : es.length = n) : n ≤ k := by
  have := of_decide_eq_false h; omega
theorem take_full {α : Type} {xs : List α} {k : Nat} (h : xs.length ≤ k) : xs.take k = xs := List.take_of_length_le h
def textsGo : List Segm → Nat → ByteArray → ByteArray
  | [], _, s => s
  | x :: r, i, s => if textOf x = ⟨#[]⟩ then ⟨#[]⟩ else textsGo r (i + 1) ((if 0 < i then s ++ ⟨#[32]⟩ else s) ++ textOf x)
def textsOf (l : List Segm) : ByteArray := textsGo l 0 ⟨#[]⟩
theorem textOf_size (s : Segm) : (textOf s).size ≤ 1000000001 := by
  unfold textOf
  split
  · exact Nat.zero_le _
  · have := digitsS_size s.n.toNat
    rw [ByteArray.size_append]
    have h1 : (if s.k = 1 then (⟨#[110]⟩ : ByteArray) else if s.k = 2 then ⟨#[97]⟩ else if s.k = 3 then ⟨#[103]⟩ else ⟨#[98]⟩).size = 1 := by
      split
      · rfl
      · split
        · rfl
        · split <;> rfl
    omega
set_option maxHeartbeats 1000000 in
theorem r_TextList (l : List Segm) (hl : l.length ≤ 1000) : FCs 26 [.sl 2 (segs l)] (.str (textsOf l)) := by
  refine FCs.intro [] [0,2,3,4] (fun A => [.sl 2 (A.e fun _ => segs l)]) Try.func26 rfl Try.call26 (by kernel_rfl) (by simp [Try.f26]) ?_
  intro A hA
  cbv
  refine LoopK.upd (Nat × ByteArray) (fun p => [(3, .str p.2), (4, .int .i64 p.1)]) (fun _ => []) (fun p => p.1 ≤ l.length ∧ textsGo (l.drop p.1) p.1 p.2 = textsOf l ∧ p.2.size ≤ 1000000002 * p.1) (fun p => l.length - p.1) (0, ⟨#[]⟩) ?_ ?_ ?_
  · simp [LeSt, leVs, leP, St.set, setVs, aget, subHp]
  · exact ⟨Nat.zero_le _, rfl, Nat.zero_le _⟩
  rintro ⟨k, S⟩ ⟨hk, hg, hS⟩
  dsimp only at hk hg hS
  cbv
  refine splitBool (fun e1 => ?_) (fun e1 => ?_)
  rotate_left
  · have hge := ge_of_dec (k := k) (es := segs l) (by subst hA; exact e1) (segs_len l)
    rw [List.drop_of_length_le hge] at hg
    cbv
    subst hA
    exact Or.inl (by rw [← hg]; try rfl)
  have hlt := lt_of_dec (k := k) (es := segs l) (by subst hA; exact e1) (segs_len l)
  obtain ⟨x, hx, hx'⟩ := segs_atN hlt
  rw [segs_drop hx] at hg
  have hg2 : (if textOf x = ⟨#[]⟩ then ⟨#[]⟩ else textsGo (l.drop (k + 1)) (k + 1) ((if 0 < k then S ++ ⟨#[32]⟩ else S) ++ textOf x)) = textsOf l := hg
  have hts := textOf_size x
  have hct := r_Text18 x
  generalize textOf x = T at hg2 hts hct
  cbv
  refine ⟨_, by subst hA; exact hx', Int.natCast_nonneg k, ?_⟩
  cbv
  refine CallV_str _ (by subst hA; exact hct) (by subst hA; rfl) fun m g1 => ?_
  cbv
  refine splitBoolF (fun e2 => ?_) (fun e2 => ?_)
  rotate_left
  · have h2 : m = ⟨#[]⟩ := of_decide_eq_true (by subst hA; exact e2)
    rw [if_pos (by rw [← g1, h2])] at hg2
    cbv
    subst hA
    exact Or.inl (by rw [← hg2]; try rfl)
  have h2 : ¬ (m = ⟨#[]⟩) := of_decide_eq_false (by subst hA; exact e2)
  rw [if_neg (by rw [← g1]; exact h2)] at hg2
  cbv
  refine splitBoolF (fun e3 => ?_) (fun e3 => ?_)
  · have h3 : ¬ ((0 : Int) < k) := of_decide_eq_false (by subst hA; exact e3)
    rw [if_neg (by omega)] at hg2
    cbv
    refine ⟨_, by subst hA; exact hx', Int.natCast_nonneg k, ?_⟩
    cbv
    refine CallV_str _ (by subst hA; exact hct) (by subst hA; rfl) fun m2 g2 => ?_
    cbv
    refine ⟨by subst hA; simp only [ar, g2]; ((try simp only [ncast, Int.ofNat_eq_natCast] at *); omega), ?_⟩
    refine ⟨by subst hA; simp only [ar, inI64]; ((try simp only [ncast, Int.ofNat_eq_natCast] at *); omega), ?_⟩
    refine ⟨(k + 1, _), ⟨⟨hlt, hg2, by simp only [ByteArray.size_append] at *; omega⟩, by dsimp only; omega⟩, ?_⟩
    subst hA
    simp [LeSt, leVs, leP, St.set, setVs, aget, subHp]
    simp [ar, g2]
  · have h3 : (0 : Int) < k := of_decide_eq_true (by subst hA; exact e3)
    rw [if_pos (by omega)] at hg2
    have hS2 : (S ++ ⟨#[32]⟩).size ≤ 1000000002 * k + 1 := by rw [ByteArray.size_append, show (ByteArray.mk #[32]).size = 1 from rfl]; omega
    cbv
    refine ⟨by subst hA; simp only [ar]; rw [show (ByteArray.mk ⟨[32]⟩).size = 1 from rfl]; ((try simp only [ncast, Int.ofNat_eq_natCast] at *); omega), ?_⟩
    cbv
    refine ⟨_, by subst hA; exact hx', Int.natCast_nonneg k, ?_⟩
    cbv
    refine CallV_str _ (by subst hA; exact hct) (by subst hA; rfl) fun m2 g2 => ?_
    cbv
    refine ⟨by subst hA; simp only [ar, g2]; ((try simp only [ncast, Int.ofNat_eq_natCast] at *); omega), ?_⟩
    refine ⟨by subst hA; simp only [ar, inI64]; ((try simp only [ncast, Int.ofNat_eq_natCast] at *); omega), ?_⟩
    refine ⟨(k + 1, _), ⟨⟨hlt, hg2, by simp only [ByteArray.size_append] at *; omega⟩, by dsimp only; omega⟩, ?_⟩
    subst hA
    simp [LeSt, leVs, leP, St.set, setVs, aget, subHp]
    simp [ar, g2]
theorem s_Equal (a b : List Int) (ha : a.length ≤ 100000000) : FCs 50 [.sl 1 (ints a), .sl 1 (ints b)] (.bool (eqL a b)) := by
  refine FCs.intro [] [0,1,4,5,12,13] (fun A => [.sl 1 (A.e fun _ => ints a), .sl 1 (A.e fun _ => ints b)]) Try.func50 rfl Try.call50 (by kernel_rfl) (by simp [Try.f50]) ?_
  intro A hA
  cbv
  refine splitBoolF (fun e1 => ?_) (fun e1 => ?_)
  rotate_left
  · have h : (!decide (((ints a).length : Int) = (ints b).length)) = true := by subst hA; exact e1
    have hne : eqL a b = false := by unfold eqL; refine decide_eq_false fun h2 => ?_; rw [h2] at h; simp at h
    cbv
    (subst hA; refine Or.inl ?_; simp only [ar, hne])
  have h : (!decide (((ints a).length : Int) = (ints b).length)) = false := by subst hA; exact e1
  have hl : a.length = b.length := by simp [ints_len] at h; ((try simp only [ncast, Int.ofNat_eq_natCast] at *); omega)
  cbv
  refine LoopK.upd Nat (fun k => [(5, .junk), (13, .int .i64 k)]) (fun _ => []) (fun k => k ≤ a.length ∧ a.take k = b.take k) (fun k => a.length - k) 0 ?_ ?_ ?_
  · simp [LeSt, leVs, leP, St.set, setVs, aget, subHp]
  · simp
  rintro k ⟨hk, he⟩
  cbv
  refine splitBool (fun e2 => ?_) (fun e2 => ?_)
  · have hlt := lt_of_dec (k := k) (es := ints a) (by subst hA; exact e2) (ints_len a)
    obtain ⟨x, hx, hx'⟩ := ints_atN hlt
    obtain ⟨y, hy, hy'⟩ := ints_atN (xs := b) (k := k) (by omega)
    cbv
    refine ⟨_, by subst hA; exact hx', Int.natCast_nonneg k, ?_⟩
    cbv
    refine ⟨_, by subst hA; exact hy', Int.natCast_nonneg k, ?_⟩
    cbv
    refine splitBoolF (fun e3 => ?_) (fun e3 => ?_)
    · have h3 : x = y := by subst hA; simpa [ar] using e3
      cbv
      refine ⟨by subst hA; simp only [ar, inI64]; ((try simp only [ncast, Int.ofNat_eq_natCast] at *); omega), ?_⟩
      refine ⟨k + 1, ⟨⟨hlt, ?_⟩, by omega⟩, ?_⟩
      · rw [take_snoc hx, take_snoc hy, he, h3]
      · subst hA
        simp [LeSt, leVs, leP, St.set, setVs, aget, subHp]
        simp [ar]
    · have h3 : x ≠ y := by subst hA; simpa [ar] using e3
      have hne : eqL a b = false := by
        simp only [eqL, decide_eq_false_iff_not]
        intro h; rw [h, hy] at hx; exact h3 (Option.some.inj hx).symm
      cbv
      (subst hA; refine Or.inl ?_; simp only [ar, hne])
  · have hge := ge_of_dec (k := k) (es := ints a) (by subst hA; exact e2) (ints_len a)
    have heq : eqL a b = true := by
      rw [take_full hge, take_full (by omega)] at he
      simp [eqL, he]
    cbv
    (subst hA; refine Or.inl ?_; simp only [ar, heq])
/-- a condition, told by a contract -/
def PredOk (g : Nat) (cs : List PV) (p : Int → Bool) (xs : List Int) : Prop := ∀ x ∈ xs, FCs g [.int .i64 x, .ptr cs] (.bool (p x))
def idxOf (p : Int → Bool) (xs : List Int) : Int := if xs.any p then 0 else -1
theorem any_take {α : Type} {f : α → Bool} {xs : List α} {k : Nat} {x : α} (h : (xs.take k).any f = false) (hx : xs[k]? = some x) (hf : f x = false) : (xs.take (k + 1)).any f = false := by
  rw [take_snoc hx, List.any_append, h]; simp [hf]
theorem s_IndexFunc (g : Nat) (cs : List PV) (p : Int → Bool) (xs : List Int) (hl : xs.length ≤ 1000000) (hp : PredOk g cs p xs) :
    ∃ i : Int, FCs 72 [.sl 1 (ints xs), .fn (.func g) [] [.ptr cs]] (.int .i64 i) ∧ decide (0 ≤ i) = xs.any p := by
  suffices h : ∀ i : Int, ((∃ k : Nat, i = k ∧ k < xs.length ∧ (xs.take k).any p = false ∧ ∃ x, xs[k]? = some x ∧ p x = true) ∨ (i = -1 ∧ xs.any p = false)) → FCs 72 [.sl 1 (ints xs), .fn (.func g) [] [.ptr cs]] (.int .i64 i) by
    cases ha : xs.any p
    · exact ⟨-1, h _ (.inr ⟨rfl, ha⟩), rfl⟩
    · have hf : ∀ n : Nat, ∀ ys : List Int, ys.any p = true → ∃ k : Nat, k < ys.length ∧ (ys.take k).any p = false ∧ ∃ x, ys[k]? = some x ∧ p x = true := by
        intro _ ys
        induction ys with
        | nil => intro h; simp at h
        | cons y r ih =>
          intro h
          cases hy : p y
          · rw [List.any_cons, hy, Bool.false_or] at h
            obtain ⟨k, k1, k2, x, k3, k4⟩ := ih h
            exact ⟨k + 1, by simpa using k1, by simp [hy, k2], x, by simpa using k3, k4⟩
          · exact ⟨0, by simp, by simp, y, by simp, hy⟩
      obtain ⟨k, k1, k2, x, k3, k4⟩ := hf 0 xs ha
      exact ⟨k, h _ (.inl ⟨k, rfl, k1, k2, x, k3, k4⟩), by simp⟩
  intro i hi
  refine FCs.intro [] [0,1,4,5,7,8] (fun A => [.sl 1 (A.e fun _ => ints xs), .fn (.func g) [] [.ptr cs]]) Try.func72 rfl Try.call72 (by kernel_rfl) (by simp [Try.f72]) ?_
  intro A hA
  cbv
  refine LoopK.upd Nat (fun k => [(5, .junk), (8, .int .i64 k)]) (fun _ => []) (fun k => k ≤ xs.length ∧ (xs.take k).any p = false) (fun k => xs.length - k) 0 ?_ ?_ ?_
  · simp [LeSt, leVs, leP, St.set, setVs, aget, subHp]
  · simp
  rintro k ⟨hk, he⟩
  cbv
  refine splitBool (fun e2 => ?_) (fun e2 => ?_)
  · have hlt := lt_of_dec (k := k) (es := ints xs) (by subst hA; exact e2) (ints_len xs)
    obtain ⟨x, hx, hx'⟩ := ints_atN hlt
    have hpx := hp x (List.mem_of_getElem? hx)
    cbv
    refine ⟨_, by subst hA; exact hx', Int.natCast_nonneg k, ?_⟩
    cbv
    refine CallV.bool _ (by subst hA; exact hpx) (by subst hA; rfl) fun q g1 => ?_
    cbv
    refine splitBoolF (fun e3 => ?_) (fun e3 => ?_)
    · have hpf : p x = false := by rw [← g1, e3]
      cbv
      refine ⟨by subst hA; simp only [ar, inI64]; ((try simp only [ncast, Int.ofNat_eq_natCast] at *); omega), ?_⟩
      refine ⟨k + 1, ⟨⟨hlt, any_take he hx hpf⟩, by omega⟩, ?_⟩
      subst hA
      simp [LeSt, leVs, leP, St.set, setVs, aget, subHp]
      simp [ar]
    · have hpt : p x = true := by rw [← g1, e3]
      have hik : i = k := by
        rcases hi with ⟨j, rfl, j1, j2, y, j3, j4⟩ | ⟨_, j1⟩
        · by_cases h : j < k
          · have : (xs.take k).any p = true := by
              rw [List.any_eq_true]
              refine ⟨y, ?_, j4⟩
              have : (xs.take k)[j]? = some y := by rw [List.getElem?_take_of_lt h]; exact j3
              exact List.mem_of_getElem? this
            rw [this] at he; cases he
          · by_cases h2 : k < j
            · have : (xs.take j).any p = true := by
                rw [List.any_eq_true]
                refine ⟨x, ?_, hpt⟩
                have : (xs.take j)[k]? = some x := by rw [List.getElem?_take_of_lt h2]; exact hx
                exact List.mem_of_getElem? this
              rw [this] at j2; cases j2
            · exact congrArg Nat.cast (show j = k by omega)
        · have : xs.any p = true := by rw [List.any_eq_true]; exact ⟨x, List.mem_of_getElem? hx, hpt⟩
          rw [this] at j1; cases j1
      cbv
      subst hA
      exact Or.inl (by rw [hik]; rfl)
  · have hge := ge_of_dec (k := k) (es := ints xs) (by subst hA; exact e2) (ints_len xs)
    rw [take_full hge] at he
    have hik : i = -1 := by
      rcases hi with ⟨j, rfl, j1, j2, y, j3, j4⟩ | ⟨j1, _⟩
      · have : xs.any p = true := by rw [List.any_eq_true]; exact ⟨y, List.mem_of_getElem? j3, j4⟩
        rw [this] at he; cases he
      · exact j1
    cbv
    subst hA
    exact Or.inl (by rw [hik])
theorem s_ContainsFunc (g : Nat) (cs : List PV) (p : Int → Bool) (xs : List Int) (hl : xs.length ≤ 1000000) (hp : PredOk g cs p xs) :
    FCs 52 [.sl 1 (ints xs), .fn (.func g) [] [.ptr cs]] (.bool (xs.any p)) := by
  obtain ⟨i, h1, h2⟩ := s_IndexFunc g cs p xs hl hp
  rw [← h2]
  refine FCs.intro [] [0,1,4] (fun A => [.sl 1 (A.e fun _ => ints xs), .fn (.func g) [] [.ptr cs]]) Try.func52 rfl Try.call52 (by kernel_rfl) (by simp [Try.f52]) ?_
  intro A hA
  cbv
  refine CallV.int _ _ (by subst hA; exact h1) (by subst hA; rfl) fun j g1 => ?_
  cbv
  (subst hA; refine Or.inl ?_; simp only [ar, g1])
end Go.Proofs.Ytogehfalhodapaa
namespace Go.Proofs.Ytogehfalhodapaa
open Go Go.Proofs.Ytogehfalhodapaa.Pv
set_option linter.unusedSimpArgs false
set_option linter.unusedVariables false
/-! paths as lists of segments, in plain words -/
noncomputable def coversOf (t : Topo) (down : List Bool) (p : List Int) : Bool :=
  uniqOf t down (tailOf t (at0 p 0)) (headOf t (at0 p ((p.length : Int) - 1))) && (decide ((spathOf t down (tailOf t (at0 p 0)) (headOf t (at0 p ((p.length : Int) - 1)))).2 = 0) && eqL (spathOf t down (tailOf t (at0 p 0)) (headOf t (at0 p ((p.length : Int) - 1)))).1 p)
def checkOf (t : Topo) (down : List Bool) (p : List Int) (f : Int) : Int :=
  if fitsOf t down = false then 1 else if (pathOf t f p).2.2 ≠ 0 then (pathOf t f p).2.2 else if p.any (fun a => !upOf down a) then 7 else 0
def bestK (C : List Int → Bool) (p : List Int) : Nat → Nat
  | 0 => 0
  | k + 1 => if C (p.take (k + 1)) then k + 1 else bestK C p k
theorem bestK_le (C : List Int → Bool) (p : List Int) : ∀ k, bestK C p k ≤ k
  | 0 => Nat.le_refl _
  | k + 1 => by
    unfold bestK
    split
    · exact Nat.le_refl _
    · have := bestK_le C p k; omega
def segAt (t : Topo) (C : List Int → Bool) (p : List Int) (k : Nat) : Segm := if bestK C p k = 0 then ⟨2, at0 p 0⟩ else ⟨1, headOf t (at0 p ((bestK C p k : Int) - 1))⟩
def stepAt (C : List Int → Bool) (p : List Int) (k : Nat) : Nat := if bestK C p k = 0 then 1 else bestK C p k
theorem stepAt_pos (C : List Int → Bool) (p : List Int) (k : Nat) : 1 ≤ stepAt C p k := by unfold stepAt; split <;> omega
theorem stepAt_le (C : List Int → Bool) (p : List Int) (h : p ≠ []) : stepAt C p p.length ≤ p.length := by
  have := bestK_le C p p.length
  have : 0 < p.length := List.length_pos_iff.2 h
  unfold stepAt; split <;> omega
def listGo (t : Topo) (C : List Int → Bool) (p : List Int) : List Segm :=
  if h : p = [] then [] else segAt t C p p.length :: listGo t C (p.drop (stepAt C p p.length))
termination_by p.length
decreasing_by
  have := stepAt_pos C p p.length
  have : 0 < p.length := List.length_pos_iff.2 h
  rw [List.length_drop]; omega
theorem listGo_nil (t : Topo) (C : List Int → Bool) : listGo t C [] = [] := by rw [listGo]; simp
theorem listGo_cons {t : Topo} {C : List Int → Bool} {p : List Int} (h : p ≠ []) : listGo t C p = segAt t C p p.length :: listGo t C (p.drop (stepAt C p p.length)) := by rw [listGo, dif_neg h]
noncomputable def listOf (t : Topo) (down : List Bool) (p : List Int) (f : Int) : List Segm × Int := if checkOf t down p f ≠ 0 then ([], checkOf t down p f) else (listGo t (coversOf t down) p, 0)
theorem listGo_len (t : Topo) (C : List Int → Bool) : ∀ (n : Nat) (p : List Int), p.length ≤ n → (listGo t C p).length ≤ p.length := by
  intro n
  induction n with
  | zero => intro p hp; obtain rfl : p = [] := List.eq_nil_of_length_eq_zero (by omega); rw [listGo_nil]; exact Nat.le_refl _
  | succ n ih =>
    intro p hp
    by_cases h : p = []
    · rw [h, listGo_nil]; exact Nat.le_refl _
    · rw [listGo_cons h]
      have h0 : 0 < p.length := List.length_pos_iff.2 h
      have h1 := stepAt_pos C p p.length
      have := ih (p.drop (stepAt C p p.length)) (by rw [List.length_drop]; omega)
      rw [List.length_drop] at this
      rw [List.length_cons]; omega
end Go.Proofs.Ytogehfalhodapaa
namespace Go.Proofs.Ytogehfalhodapaa
open Go Go.Proofs.Ytogehfalhodapaa.Pv
set_option linter.unusedSimpArgs false
set_option linter.unusedVariables false
theorem pathGo_arcs {t : Topo} : ∀ (p : List Int) (i : Nat) (to cost : Int), (pathGo t i to cost p).2.2 = 0 → ∀ a ∈ p, isArc t a = true
  | [], _, _, _, _, a, ha => by cases ha
  | b :: r, i, to, cost, h, a, ha => by
    unfold pathGo at h
    unfold pathStep at h
    cases hb : isArc t b with
    | false => rw [hb] at h; simp at h
    | true =>
      rw [hb, if_neg (by simp)] at h
      split at h
      · rename_i e
        split at e
        · simp at e
          simp at h
          omega
        · simp at e
      · rename_i e
        rcases List.mem_cons.1 ha with h1 | h1
        · rw [h1]; exact hb
        · exact pathGo_arcs r _ _ _ h a h1
theorem pathOf_arcs {t : Topo} {f : Int} {p : List Int} (h : (pathOf t f p).2.2 = 0) : ∀ a ∈ p, isArc t a = true := by
  unfold pathOf at h
  split at h
  · cases h
  · split at h
    · cases h
    · exact pathGo_arcs p _ _ _ h
def netA (A : Ar) (t : Topo) (down : List Bool) : PV := .agg [.int .i64 (A.i fun _ => t.nodes), .sl 1 (A.e fun _ => bools t.over), .sl 7 (A.e fun _ => lks t.links), .sl 1 (A.e fun _ => bools down)]
def net (t : Topo) (down : List Bool) : PV := .agg [.int .i64 t.nodes, .sl 1 (bools t.over), .sl 7 (lks t.links), .sl 1 (bools down)]
theorem c_efits (t : Topo) (down : List Bool) : FCs 41 [net t down] (.bool (fitsOf t down)) := by
  refine FCs.intro [] [0,1,2] (fun A => [netA A t down]) Try.func41 rfl Try.call41 (by kernel_rfl) (by simp [Try.f41]) ?_
  intro A hA
  cbv
  refine CallV.bool _ (by subst hA; exact c_Valid t) (by subst hA; rfl) fun m1 g1 => ?_
  cbv
  cases hv : valid t
  · refine splitFalse (by rw [g1, hv]) ?_
    cbv
    (subst hA; refine Or.inl ?_; simp [ar, fitsOf, hv])
  · have hlen := valid_links hv
    refine splitTrue (by rw [g1, hv]) ?_
    cbv
    refine splitBoolF (fun e1 => ?_) (fun e1 => ?_)
    · have h1 : ¬ (((bools down).length : Int) = 0) := of_decide_eq_false (by subst hA; exact e1)
      cbv
      refine ⟨by subst hA; simp only [ar, inI64, lks_len]; ((try simp only [ncast, Int.ofNat_eq_natCast] at *); omega), ?_⟩
      subst hA
      refine Or.inl ?_
      rw [bools_len] at h1
      simp only [ar, fitsOf, hv, bools_len, lks_len, Bool.true_and]
      rw [decide_eq_false (show ¬ down.length = 0 by ((try simp only [ncast, Int.ofNat_eq_natCast] at *); omega)), Bool.false_or]
      try rfl
    · have h1 : ((bools down).length : Int) = 0 := of_decide_eq_true (by subst hA; exact e1)
      rw [bools_len] at h1
      have hd : down = [] := List.eq_nil_of_length_eq_zero (by ((try simp only [ncast, Int.ofNat_eq_natCast] at *); omega))
      cbv
      (subst hA; refine Or.inl ?_; simp [ar, fitsOf, hv, hd])
theorem c_eup (t : Topo) (down : List Bool) (a : Int) (h : down.length = 0 ∨ 0 ≤ a ∧ a < down.length) : FCs 43 [net t down, .int .i64 a] (.bool (upOf down a)) := by
  refine FCs.intro [] [0,1,2,4] (fun A => [netA A t down, .int .i64 a]) Try.func43 rfl Try.call43 (by kernel_rfl) (by simp [Try.f43]) ?_
  intro A hA
  cbv
  refine splitBoolF (fun e1 => ?_) (fun e1 => ?_)
  · have h1 : ¬ (((bools down).length : Int) = 0) := of_decide_eq_false (by subst hA; exact e1)
    rw [bools_len] at h1
    have h2 : 0 ≤ a ∧ a < down.length := h.resolve_left (by ((try simp only [ncast, Int.ofNat_eq_natCast] at *); omega))
    obtain ⟨b, hb, hb'⟩ := bools_at (k := a.toNat) (xs := down) (by ((try simp only [ncast, Int.ofNat_eq_natCast] at *); omega))
    have hu : upOf down a = !b := by simp only [upOf, hb, decide_eq_false (show ¬ down.length = 0 by ((try simp only [ncast, Int.ofNat_eq_natCast] at *); omega)), Bool.false_or, Option.getD_some]
    cbv
    refine ⟨_, by subst hA; exact hb', h2.1, ?_⟩
    cbv
    (subst hA; refine Or.inl ?_; simp only [ar, hu])
  · have h1 : ((bools down).length : Int) = 0 := of_decide_eq_true (by subst hA; exact e1)
    rw [bools_len] at h1
    have hd : down = [] := List.eq_nil_of_length_eq_zero (by ((try simp only [ncast, Int.ofNat_eq_natCast] at *); omega))
    cbv
    (subst hA; refine Or.inl ?_; simp [ar, upOf, hd])
theorem c_check1 (t : Topo) (down : List Bool) (a : Int) (h : down.length = 0 ∨ 0 ≤ a ∧ a < down.length) :
    FCs 53 [.int .i64 a, .ptr [.int .i64 t.nodes, .sl 1 (bools t.over), .sl 7 (lks t.links), .sl 1 (bools down)]] (.bool (!upOf down a)) := by
  refine FCs.intro [] [0,1,3] (fun A => [.int .i64 a, .ptr [.int .i64 (A.i fun _ => t.nodes), .sl 1 (A.e fun _ => bools t.over), .sl 7 (A.e fun _ => lks t.links), .sl 1 (A.e fun _ => bools down)]]) Try.func53 rfl Try.call53 (by kernel_rfl) (by simp [Try.f53]) ?_
  intro A hA
  cbv
  refine CallV.bool _ (by subst hA; exact c_eup t down a h) (by subst hA; rfl) fun m g1 => ?_
  cbv
  (subst hA; refine Or.inl ?_; simp only [ar, g1])
set_option maxHeartbeats 1000000 in
theorem c_echeck (t : Topo) (down : List Bool) (p : List Int) (f : Int) (hl : p.length ≤ 1000000) :
    FCs 27 [net t down, .sl 1 (ints p), .int .i64 f] (.int .i64 (checkOf t down p f)) := by
  refine FCs.intro [] [0,1,2,3,6,7,8,9] (fun A => [netA A t down, .sl 1 (A.e fun _ => ints p), .int .i64 f]) Try.func27 rfl Try.call27 (by kernel_rfl) (by simp [Try.f27]) ?_
  intro A hA
  cbv
  refine CallV.bool _ (by subst hA; exact c_efits t down) (by subst hA; rfl) fun m1 g1 => ?_
  cbv
  cases hf : fitsOf t down
  · refine splitTrue (by subst hA; rw [g1, hf]; rfl) ?_
    cbv
    (subst hA; refine Or.inl ?_; simp [ar, checkOf, hf])
  refine splitFalse (by subst hA; rw [g1, hf]; rfl) ?_
  cbv
  refine CallV.nm3 (fun a b c => .tup [.int .i64 a, .int .i64 b, .int .i64 c]) _ _ _ (by subst hA; exact c_Path t f p hl) (by subst hA; rfl) (by intros; rfl) fun x y z g2 g3 g4 => ?_
  cbv
  refine splitBoolF (fun e1 => ?_) (fun e1 => ?_)
  rotate_left
  · have h1 : z ≠ 0 := by
      have h : (!decide (z = 0)) = true := by subst hA; exact e1
      simpa using h
    rw [g4] at h1
    cbv
    subst hA
    refine Or.inl ?_
    unfold checkOf
    rw [if_neg (by simp [hf]), if_pos h1, g4]
  have h1 : z = 0 := by
    have h : (!decide (z = 0)) = false := by subst hA; exact e1
    simpa using h
  rw [g4] at h1
  have har := pathOf_arcs h1
  have hck : checkOf t down p f = if p.any (fun a => !upOf down a) then 7 else 0 := by unfold checkOf; rw [if_neg (by simp [hf]), if_neg (by simp [h1])]
  cbv
  refine CallV.bool _ (by subst hA; exact s_ContainsFunc 53 [.int .i64 t.nodes, .sl 1 (bools t.over), .sl 7 (lks t.links), .sl 1 (bools down)] (fun a => !upOf down a) p hl (fun a ha => c_check1 t down a (fits_up hf (har a ha)))) (by subst hA; rfl) fun m5 g5 => ?_
  cbv
  refine splitBoolF (fun e2 => ?_) (fun e2 => ?_)
  · cbv
    subst hA
    exact Or.inl (by rw [hck, ← g5, e2]; rfl)
  · cbv
    subst hA
    exact Or.inl (by rw [hck, ← g5, e2]; rfl)
set_option maxHeartbeats 1000000 in
theorem c_covers (t : Topo) (down : List Bool) (p : List Int) (h0 : 0 < p.length) (hl : p.length ≤ 1000000) (hn20 : t.nodes < 20) :
    FCs 28 [net t down, .sl 1 (ints p)] (.bool (coversOf t down p)) := by
  obtain ⟨v0, ev0, iv0⟩ := ints_atI (D := p) (i := 0) (by omega) (by omega)
  obtain ⟨v1, ev1, iv1⟩ := ints_atI (D := p) (i := (p.length : Int) - 1) (by omega) (by omega)
  unfold coversOf
  rw [← ev0, ← ev1]
  refine FCs.intro [] [0,1,2,4,5,6,7,8] (fun A => [netA A t down, .sl 1 (A.e fun _ => ints p)]) Try.func28 rfl Try.call28 (by kernel_rfl) (by simp [Try.f28]) ?_
  intro A hA
  cbv
  refine ⟨_, by subst hA; exact iv0, ?_⟩
  cbv
  refine CallV.int _ _ (by subst hA; exact c_Tail t v0) (by subst hA; rfl) fun x g1 => ?_
  cbv
  refine ⟨by subst hA; simp only [ar, inI64, ints_len]; ((try simp only [ncast, Int.ofNat_eq_natCast] at *); omega), ?_⟩
  refine ⟨_, by subst hA; simp only [ar, ints_len]; exact iv1, by subst hA; simp only [ar, ints_len]; ((try simp only [ncast, Int.ofNat_eq_natCast] at *); omega), ?_⟩
  cbv
  refine CallV.int _ _ (by subst hA; exact c_Head t v1) (by subst hA; rfl) fun y g2 => ?_
  cbv
  refine CallV.bool _ (by subst hA; exact c_Unique t down x y hn20) (by subst hA; rfl) fun u g3 => ?_
  cbv
  rw [← g1, ← g2]
  refine splitBoolF (fun e1 => ?_) (fun e1 => ?_)
  rotate_left
  · have h1 : u = false := by
      have h : (!u) = true := by subst hA; exact e1
      simpa using h
    rw [g3] at h1
    cbv
    (subst hA; refine Or.inl ?_; simp [ar, h1])
  have h1 : u = true := by
    have h : (!u) = false := by subst hA; exact e1
    simpa using h
  rw [g3] at h1
  cbv
  have hsl := spath_len t down x y
  refine CallV.nm2 (fun a b => .tup [.sl 1 a, .int .i64 b]) _ _ (by subst hA; exact c_Path11 t down x y) (by subst hA; rfl) (by subst hA; intros; rfl) fun D e g4 g5 => ?_
  cbv
  rw [h1, ← g5]
  generalize (spathOf t down x y).1 = q at g4 hsl
  refine splitBoolF (fun e2 => ?_) (fun e2 => ?_)
  · have h2 : ¬ (e = 0) := of_decide_eq_false (by subst hA; exact e2)
    cbv
    (subst hA; refine Or.inl ?_; simp [ar, h2])
  · have h2 : e = 0 := of_decide_eq_true (by subst hA; exact e2)
    cbv
    refine CallV.bool _ (by subst hA; rw [g4]; exact s_Equal q p (by ((try simp only [ncast, Int.ofNat_eq_natCast] at *); omega))) (by subst hA; rfl) fun m g6 => ?_
    cbv
    (subst hA; refine Or.inl ?_; simp [ar, h2, g6])
end Go.Proofs.Ytogehfalhodapaa
namespace Go.Proofs.Ytogehfalhodapaa
open Go Go.Proofs.Ytogehfalhodapaa.Pv
set_option linter.unusedSimpArgs false
set_option linter.unusedVariables false
/-! encode.List -/
theorem ints_take (p : List Int) (k : Nat) : (ints p).take k = ints (p.take k) := by simp [ints, List.map_take]
theorem ints_dropE (p : List Int) (k : Nat) : (ints p).drop k = ints (p.drop k) := by simp [ints, List.map_drop]
theorem bestK_step {C : List Int → Bool} {p : List Int} {k : Nat} : bestK C p (k + 1) = if C (p.take (k + 1)) then k + 1 else bestK C p k := rfl
set_option maxHeartbeats 2000000 in
theorem c_List20 (t : Topo) (down : List Bool) (p : List Int) (f : Int) (hl : p.length ≤ 1000000) (hn20 : t.nodes < 20) :
    FCs 13 [t.pv, .sl 1 (bools down), .sl 1 (ints p), .int .i64 f] (.tup [.sl 2 (segs (listOf t down p f).1), .int .i64 (listOf t down p f).2]) := by
  refine FCs.intro [(12, 12)] [0,1,2,3,4,8,9,10,11,12,13,37] (fun A => [t.pvA A, .sl 1 (A.e fun _ => bools down), .sl 1 (A.e fun _ => ints p), .int .i64 f]) Try.func13 rfl Try.call13 (by kernel_rfl) (by simp [Try.f13]) ?_
  intro A hA
  cbv
  refine CallV.int _ _ (by subst hA; exact c_echeck t down p f hl) (by subst hA; rfl) fun e g1 => ?_
  cbv
  refine splitBoolF (fun e1 => ?_) (fun e1 => ?_)
  rotate_left
  · have h1 : e ≠ 0 := by
      have h : (!decide (e = 0)) = true := by subst hA; exact e1
      simpa using h
    have : listOf t down p f = ([], e) := by unfold listOf; rw [← g1, if_pos h1]
    rw [this]
    cbv
    subst hA
    exact Or.inr (by simp [wk, wks, ar, segs])
  have h1 : e = 0 := by
    have h : (!decide (e = 0)) = false := by subst hA; exact e1
    simpa using h
  have hlo : listOf t down p f = (listGo t (coversOf t down) p, 0) := by unfold listOf; rw [← g1, if_neg (by simp [h1])]
  rw [hlo]
  cbv
  refine LoopK.upd (List Int × List Segm) (fun q => [(2, .sl 1 (A.e fun _ => ints q.1)), (13, .junk), (37, .junk)]) (fun q => [(12, ⟨43, 2, A.e fun _ => segs q.2, false⟩), (10, ⟨54, 4, [[.int .i64 (A.i fun _ => t.nodes), .sl 1 (A.e fun _ => bools t.over), .sl 7 (A.e fun _ => lks t.links), .sl 1 (A.e fun _ => bools down)]], true⟩)])
    (fun q => q.2 ++ listGo t (coversOf t down) q.1 = listGo t (coversOf t down) p ∧ q.2.length + q.1.length ≤ p.length) (fun q => q.1.length) (p, []) ?_ ?_ ?_
  · subst hA
    simp [LeSt, leVs, leP, St.set, setVs, aget, subHp]
    rfl
  · exact ⟨rfl, by simp⟩
  rintro ⟨q, out⟩ ⟨hq, hlen⟩
  dsimp only at hq hlen
  cbv
  refine splitBool (fun e2 => ?_) (fun e2 => ?_)
  rotate_left
  · have h2 : ¬ ((0 : Int) < ((ints q).length : Int)) := of_decide_eq_false (by subst hA; exact e2)
    rw [ints_len] at h2
    have hq0 : q = [] := List.eq_nil_of_length_eq_zero (by omega)
    rw [hq0, listGo_nil, List.append_nil] at hq
    cbv
    subst hA
    exact Or.inl (by rw [← hq]; rfl)
  have h2 : (0 : Int) < ((ints q).length : Int) := of_decide_eq_true (by subst hA; exact e2)
  rw [ints_len] at h2
  have hq0 : q ≠ [] := fun h => by rw [h] at h2; simp at h2
  have hql : 0 < q.length := by omega
  rw [listGo_cons hq0] at hq
  have hB1 := bestK_le (coversOf t down) q q.length
  have hex : ∀ x, (segAt t (coversOf t down) q q.length = x) → ∀ m, stepAt (coversOf t down) q q.length = m → (out ++ [x]) ++ listGo t (coversOf t down) (q.drop m) = listGo t (coversOf t down) p := fun x hx m hm => by
    rw [← hx, ← hm, ← hq]; simp
  cbv
  refine LoopK.upd Nat (fun j => [(13, .int .i64 j), (37, .junk)]) (fun _ => [(12, ⟨43, 2, A.e fun _ => segs out, false⟩), (10, ⟨54, 4, [[.int .i64 (A.i fun _ => t.nodes), .sl 1 (A.e fun _ => bools t.over), .sl 7 (A.e fun _ => lks t.links), .sl 1 (A.e fun _ => bools down)]], true⟩)])
    (fun j => j ≤ q.length ∧ bestK (coversOf t down) q q.length = bestK (coversOf t down) q j) (fun j => j) q.length ?_ ?_ ?_
  · subst hA
    simp [LeSt, leVs, leP, St.set, setVs, aget, subHp]
    simp [ar, ints_len]
  · exact ⟨Nat.le_refl _, rfl⟩
  rintro j ⟨hj, hB⟩
  cbv
  refine splitBool (fun e3 => ?_) (fun e3 => ?_)
  · have h3 : (0 : Int) < (j : Int) := of_decide_eq_true (by subst hA; exact e3)
    obtain ⟨i, hji⟩ : ∃ i, j = i + 1 := ⟨j - 1, by ((try simp only [ncast, Int.ofNat_eq_natCast] at *); omega)⟩
    rw [hji, bestK_step, ← hji] at hB
    have htk : ((ints q).take (j : Int).toNat).drop (0 : Int).toNat = ints (q.take j) := by rw [Int.toNat_natCast, ints_take]; rfl
    have hj1 : ((j : Int) - 1).toNat = i ∧ (j : Int) - 1 = i := by omega
    cbv
    refine ⟨by subst hA; simp only [ar, ints_len]; ((try simp only [ncast, Int.ofNat_eq_natCast] at *); omega), ?_⟩
    refine CallV.bool (coversOf t down (q.take j)) (by subst hA; have := c_covers t down (q.take j) (by rw [List.length_take]; omega) (by rw [List.length_take]; omega) hn20; rw [← htk] at this; exact this) (by subst hA; rfl) fun m g2 => ?_
    cbv
    rw [← g2] at hB
    refine splitBoolF (fun e4 => ?_) (fun e4 => ?_)
    · rw [e4, if_neg (by simp)] at hB
      cbv
      refine ⟨by subst hA; simp only [ar, inI64]; ((try simp only [ncast, Int.ofNat_eq_natCast] at *); omega), ?_⟩
      refine ⟨i, ⟨⟨by omega, hB⟩, by omega⟩, ?_⟩
      subst hA
      simp [LeSt, leVs, leP, St.set, setVs, aget, subHp]
      simp [ar, hj1.2]
    · rw [e4, if_pos rfl] at hB
      obtain ⟨v, hv, hv'⟩ := ints_atN (xs := q) (k := i) (by omega)
      have hseg : segAt t (coversOf t down) q q.length = ⟨1, headOf t v⟩ := by
        unfold segAt
        rw [hB, if_neg (by omega)]
        congr 2
        unfold at0
        rw [hj1.1, hv]
        rfl
      have hstp : stepAt (coversOf t down) q q.length = j := by unfold stepAt; rw [hB, if_neg (by omega)]
      have hnext := hex _ hseg _ hstp
      cbv
      refine ⟨by subst hA; simp only [ar, inI64]; ((try simp only [ncast, Int.ofNat_eq_natCast] at *); omega), ?_⟩
      refine ⟨_, by subst hA; simp only [ar]; rw [show ((Int.ofNat j) - 1).toNat = i from hj1.1]; exact hv', by subst hA; simp only [ar]; ((try simp only [ncast, Int.ofNat_eq_natCast] at *); omega), ?_⟩
      cbv
      refine CallV.int _ _ (by subst hA; exact c_Head t v) (by subst hA; rfl) fun h g3 => ?_
      cbv
      rw [← g3] at hnext
      refine ⟨⟨by subst hA; simp only [ar, segs_len, List.length_cons, List.length_nil]; ((try simp only [ncast, Int.ofNat_eq_natCast] at *); omega), by trivial⟩, ?_⟩
      refine ⟨by subst hA; simp only [ar, ints_len]; ((try simp only [ncast, Int.ofNat_eq_natCast] at *); omega), ?_⟩
      refine ⟨(q.drop j, out ++ [⟨1, h⟩]), ⟨⟨hnext, by simp; omega⟩, by simp; omega⟩, ?_⟩
      subst hA
      simp [LeSt, leVs, leP, St.set, setVs, aget, subHp]
      simp [ar, segs, Segm.cs, ints, List.map_drop]
      rw [List.take_of_length_le (by simp)]
  · have h3 : ¬ ((0 : Int) < (j : Int)) := of_decide_eq_false (by subst hA; exact e3)
    have hj0 : j = 0 := by ((try simp only [ncast, Int.ofNat_eq_natCast] at *); omega)
    rw [hj0] at hB
    have hB : bestK (coversOf t down) q q.length = 0 := hB
    obtain ⟨v, hv, hv'⟩ := ints_atN (xs := q) (k := 0) hql
    have hseg : segAt t (coversOf t down) q q.length = ⟨2, v⟩ := by
      unfold segAt
      rw [if_pos hB]
      congr 1
      unfold at0
      rw [show (0 : Int).toNat = 0 from rfl, hv]
      rfl
    have hstp : stepAt (coversOf t down) q q.length = 1 := by unfold stepAt; rw [if_pos hB]
    have hnext := hex _ hseg _ hstp
    cbv
    refine ⟨_, by subst hA; exact hv', Int.le_refl _, ?_⟩
    cbv
    refine ⟨⟨by subst hA; simp only [ar, segs_len, List.length_cons, List.length_nil]; ((try simp only [ncast, Int.ofNat_eq_natCast] at *); omega), by trivial⟩, ?_⟩
    refine ⟨by subst hA; simp only [ar, ints_len]; ((try simp only [ncast, Int.ofNat_eq_natCast] at *); omega), ?_⟩
    refine ⟨(q.drop 1, out ++ [⟨2, v⟩]), ⟨⟨hnext, by simp; omega⟩, by simp; omega⟩, ?_⟩
    subst hA
    simp [LeSt, leVs, leP, St.set, setVs, aget, subHp]
    simp [ar, segs, Segm.cs, ints, List.map_drop]
    rw [List.take_of_length_le (by simp)]
end Go.Proofs.Ytogehfalhodapaa
namespace Go.Proofs.Ytogehfalhodapaa
open Go Go.Proofs.Ytogehfalhodapaa.Pv
set_option linter.unusedSimpArgs false
set_option linter.unusedVariables false
/-! the reference of layer 20: Check, Covers, List -/
set_option maxHeartbeats 1000000 in
theorem r_Check20 (t : Topo) (down : List Bool) (p : List Int) (f : Int) (hl : p.length ≤ 1000000) :
    FCs 30 [t.pv, .sl 1 (bools down), .sl 1 (ints p), .int .i64 f] (.int .i64 (checkOf t down p f)) := by
  refine FCs.intro [] [0,1,2,3,4,8,9,10,11,12] (fun A => [t.pvA A, .sl 1 (A.e fun _ => bools down), .sl 1 (A.e fun _ => ints p), .int .i64 f]) Try.func30 rfl Try.call30 (by kernel_rfl) (by simp [Try.f30]) ?_
  intro A hA
  cbv
  refine CallV.bool _ (by subst hA; exact r_Fits t down) (by subst hA; rfl) fun m1 g1 => ?_
  cbv
  cases hf : fitsOf t down
  · refine splitTrue (by subst hA; rw [g1, hf]; rfl) ?_
    cbv
    (subst hA; refine Or.inl ?_; simp [ar, checkOf, hf])
  refine splitFalse (by subst hA; rw [g1, hf]; rfl) ?_
  cbv
  refine CallV.nm3 (fun a b c => .tup [.int .i64 a, .int .i64 b, .int .i64 c]) _ _ _ (by subst hA; exact r_Path t f p hl) (by subst hA; rfl) (by intros; rfl) fun x y z g2 g3 g4 => ?_
  cbv
  refine splitBoolF (fun e1 => ?_) (fun e1 => ?_)
  rotate_left
  · have h1 : z ≠ 0 := by
      have h : (!decide (z = 0)) = true := by subst hA; exact e1
      simpa using h
    rw [g4] at h1
    cbv
    subst hA
    refine Or.inl ?_
    unfold checkOf
    rw [if_neg (by simp [hf]), if_pos h1, g4]
  have h1 : z = 0 := by
    have h : (!decide (z = 0)) = false := by subst hA; exact e1
    simpa using h
  rw [g4] at h1
  have har := pathOf_arcs h1
  have hck : checkOf t down p f = if p.any (fun a => !upOf down a) then 7 else 0 := by unfold checkOf; rw [if_neg (by simp [hf]), if_neg (by simp [h1])]
  cbv
  refine LoopK.upd Nat (fun k => [(12, .int .i64 k)]) (fun _ => []) (fun k => k ≤ p.length ∧ (p.take k).any (fun a => !upOf down a) = false) (fun k => p.length - k) 0 ?_ ?_ ?_
  · simp [LeSt, leVs, leP, St.set, setVs, aget, subHp]
  · simp
  rintro k ⟨hk, he⟩
  cbv
  refine splitBool (fun e2 => ?_) (fun e2 => ?_)
  · have hlt := lt_of_dec (k := k) (es := ints p) (by subst hA; exact e2) (ints_len p)
    obtain ⟨x, hx, hx'⟩ := ints_atN hlt
    have hmem := List.mem_of_getElem? hx
    cbv
    refine ⟨_, by subst hA; exact hx', Int.natCast_nonneg k, ?_⟩
    cbv
    refine CallV.bool _ (by subst hA; exact r_Up down x (fits_up hf (har x hmem))) (by subst hA; rfl) fun m g5 => ?_
    cbv
    refine splitBoolF (fun e3 => ?_) (fun e3 => ?_)
    · have h3 : m = true := by
        have h : (!m) = false := by subst hA; exact e3
        simpa using h
      cbv
      refine ⟨by subst hA; simp only [ar, inI64]; ((try simp only [ncast, Int.ofNat_eq_natCast] at *); omega), ?_⟩
      refine ⟨k + 1, ⟨⟨hlt, any_take he hx (by rw [← g5, h3]; rfl)⟩, by omega⟩, ?_⟩
      subst hA
      simp [LeSt, leVs, leP, St.set, setVs, aget, subHp]
      simp [ar]
    · have h3 : m = false := by
        have h : (!m) = true := by subst hA; exact e3
        simpa using h
      have hany : p.any (fun a => !upOf down a) = true := by rw [List.any_eq_true]; exact ⟨x, hmem, by rw [← g5, h3]; rfl⟩
      cbv
      subst hA
      exact Or.inl (by rw [hck, hany]; rfl)
  · have hge := ge_of_dec (k := k) (es := ints p) (by subst hA; exact e2) (ints_len p)
    rw [take_full hge] at he
    cbv
    subst hA
    exact Or.inl (by rw [hck, he]; rfl)
set_option maxHeartbeats 1000000 in
theorem r_Covers (t : Topo) (down : List Bool) (p : List Int) (h0 : 0 < p.length) (hl : p.length ≤ 1000000) :
    FCs 31 [t.pv, .sl 1 (bools down), .sl 1 (ints p)] (.bool (coversOf t down p)) := by
  obtain ⟨v0, ev0, iv0⟩ := ints_atI (D := p) (i := 0) (by omega) (by omega)
  obtain ⟨v1, ev1, iv1⟩ := ints_atI (D := p) (i := (p.length : Int) - 1) (by omega) (by omega)
  unfold coversOf
  rw [← ev0, ← ev1]
  refine FCs.intro [] [0,1,2,3,6,7,8,9,10] (fun A => [t.pvA A, .sl 1 (A.e fun _ => bools down), .sl 1 (A.e fun _ => ints p)]) Try.func31 rfl Try.call31 (by kernel_rfl) (by simp [Try.f31]) ?_
  intro A hA
  cbv
  refine ⟨_, by subst hA; exact iv0, ?_⟩
  cbv
  refine CallV.int _ _ (by subst hA; exact r_Tail t v0) (by subst hA; rfl) fun x g1 => ?_
  cbv
  refine ⟨by subst hA; simp only [ar, inI64, ints_len]; ((try simp only [ncast, Int.ofNat_eq_natCast] at *); omega), ?_⟩
  refine ⟨_, by subst hA; simp only [ar, ints_len]; exact iv1, by subst hA; simp only [ar, ints_len]; ((try simp only [ncast, Int.ofNat_eq_natCast] at *); omega), ?_⟩
  cbv
  refine CallV.int _ _ (by subst hA; exact r_Head t v1) (by subst hA; rfl) fun y g2 => ?_
  cbv
  rw [← g1, ← g2]
  have hsl := spath_len t down x y
  refine CallV.nm2 (fun a b => .tup [.sl 1 a, .int .i64 b]) _ _ (by subst hA; exact r_Path11 t down x y) (by subst hA; rfl) (by subst hA; intros; rfl) fun D e g4 g5 => ?_
  rw [← g5]
  generalize (spathOf t down x y).1 = q at g4 hsl
  cbv
  refine splitBoolF (fun e2 => ?_) (fun e2 => ?_)
  · have h2 : ¬ (e = 0) := of_decide_eq_false (by subst hA; exact e2)
    cbv
    (subst hA; refine Or.inl ?_; simp [ar, h2])
  · have h2 : e = 0 := of_decide_eq_true (by subst hA; exact e2)
    cbv
    refine CallV.bool _ (by subst hA; exact r_Unique t down x y) (by subst hA; rfl) fun u g3 => ?_
    cbv
    rw [← g3]
    refine splitBoolF (fun e1 => ?_) (fun e1 => ?_)
    · cbv
      (subst hA; refine Or.inl ?_; simp [ar, e1])
    · cbv
      refine CallV.bool _ (by subst hA; rw [g4]; exact r_SameInts q p (by ((try simp only [ncast, Int.ofNat_eq_natCast] at *); omega))) (by subst hA; rfl) fun m g6 => ?_
      cbv
      (subst hA; refine Or.inl ?_; simp [ar, h2, g6, e1])
theorem segAt_step {t : Topo} {C : List Int → Bool} {q : List Int} {m : Nat} : segAt t C q (m + 1) = if C (q.take (m + 1)) then ⟨1, headOf t (at0 q (m : Int))⟩ else segAt t C q m := by
  unfold segAt
  rw [bestK_step]
  split
  · rw [if_neg (by omega)]
    congr 3
    omega
  · rfl
theorem stepAt_step {C : List Int → Bool} {q : List Int} {m : Nat} : stepAt C q (m + 1) = if C (q.take (m + 1)) then m + 1 else stepAt C q m := by
  unfold stepAt
  rw [bestK_step]
  split
  · rw [if_neg (by omega)]
  · rfl
set_option maxHeartbeats 2000000 in
theorem r_List20 (t : Topo) (down : List Bool) (p : List Int) (f : Int) (hl : p.length ≤ 1000000) :
    FCs 14 [t.pv, .sl 1 (bools down), .sl 1 (ints p), .int .i64 f] (.tup [.sl 2 (segs (listOf t down p f).1), .int .i64 (listOf t down p f).2]) := by
  refine FCs.intro [(11, 11), (13, 13)] [0,1,2,3,4,8,9,10,11,12,13,14,15] (fun A => [t.pvA A, .sl 1 (A.e fun _ => bools down), .sl 1 (A.e fun _ => ints p), .int .i64 f]) Try.func14 rfl Try.call14 (by kernel_rfl) (by simp [Try.f14]) ?_
  intro A hA
  cbv
  refine CallV.int _ _ (by subst hA; exact r_Check20 t down p f hl) (by subst hA; rfl) fun e g1 => ?_
  cbv
  refine splitBoolF (fun e1 => ?_) (fun e1 => ?_)
  rotate_left
  · have h1 : e ≠ 0 := by
      have h : (!decide (e = 0)) = true := by subst hA; exact e1
      simpa using h
    have : listOf t down p f = ([], e) := by unfold listOf; rw [← g1, if_pos h1]
    rw [this]
    cbv
    subst hA
    exact Or.inr (by simp [wk, wks, ar, segs])
  have h1 : e = 0 := by
    have h : (!decide (e = 0)) = false := by subst hA; exact e1
    simpa using h
  have hlo : listOf t down p f = (listGo t (coversOf t down) p, 0) := by unfold listOf; rw [← g1, if_neg (by simp [h1])]
  rw [hlo]
  cbv
  refine LoopK.upd (Nat × List Segm) (fun q => [(12, .int .i64 q.1), (13, .junk), (14, .junk), (15, .junk)]) (fun q => [(11, ⟨43, 2, A.e fun _ => segs q.2, false⟩)])
    (fun q => q.1 ≤ p.length ∧ q.2 ++ listGo t (coversOf t down) (p.drop q.1) = listGo t (coversOf t down) p ∧ q.2.length ≤ q.1) (fun q => p.length - q.1) (0, []) ?_ ?_ ?_
  · subst hA
    simp [LeSt, leVs, leP, St.set, setVs, aget, subHp]
    rfl
  · exact ⟨Nat.zero_le _, rfl, Nat.le_refl _⟩
  rintro ⟨i, out⟩ ⟨hi, hq, hlen⟩
  dsimp only at hi hq hlen
  cbv
  refine splitBool (fun e2 => ?_) (fun e2 => ?_)
  rotate_left
  · have hge := ge_of_dec (k := i) (es := ints p) (by subst hA; exact e2) (ints_len p)
    rw [List.drop_of_length_le hge, listGo_nil, List.append_nil] at hq
    cbv
    subst hA
    exact Or.inl (by rw [← hq]; rfl)
  have hlt := lt_of_dec (k := i) (es := ints p) (by subst hA; exact e2) (ints_len p)
  obtain ⟨v, hv, hv'⟩ := ints_atN hlt
  have hql : (p.drop i).length = p.length - i := List.length_drop
  have hq0 : p.drop i ≠ [] := fun h => by rw [h] at hql; simp at hql; omega
  rw [listGo_cons hq0, hql, List.drop_drop] at hq
  have hv0 : at0 (p.drop i) 0 = v := by unfold at0; rw [show (0 : Int).toNat = 0 from rfl, List.getElem?_drop, Nat.add_zero, hv]; rfl
  have hatq : ∀ (m : Nat) (x : Int), p[i + m]? = some x → at0 (p.drop i) (m : Int) = x := fun m x hx => by unfold at0; rw [Int.toNat_natCast, List.getElem?_drop, hx]; rfl
  have htk : ∀ m : Nat, ((ints p).take (i + m)).drop i = ints ((p.drop i).take m) := fun m => by rw [ints_take, ints_dropE, List.drop_take, Nat.add_sub_cancel_left]
  generalize p.drop i = q at hq hql hq0 hv0 hatq htk
  cbv
  refine ⟨_, by subst hA; exact hv', Int.natCast_nonneg i, ?_⟩
  cbv
  refine ⟨by subst hA; simp only [ar, inI64]; ((try simp only [ncast, Int.ofNat_eq_natCast] at *); omega), ?_⟩
  refine ⟨by subst hA; simp only [ar, inI64]; ((try simp only [ncast, Int.ofNat_eq_natCast] at *); omega), ?_⟩
  refine LoopK.upd (Nat × Int × Int × Int × Int) (fun s => [(14, .int .i64 s.2.2.2.1), (15, .int .i64 s.2.2.2.2)]) (fun s => [(13, ⟨43, 2, [[.int .i64 s.2.1, .int .i64 s.2.2.1]], true⟩), (11, ⟨43, 2, A.e fun _ => segs out, false⟩)])
    (fun s => s.1 ≤ q.length ∧ segAt t (coversOf t down) q s.1 = ⟨s.2.1, s.2.2.1⟩ ∧ s.2.2.2.1 = i + stepAt (coversOf t down) q s.1 ∧ s.2.2.2.2 = i + s.1 + 1) (fun s => q.length - s.1) (0, 2, v, (i : Int) + 1, (i : Int) + 1) ?_ ?_ ?_
  · subst hA
    simp [LeSt, leVs, leP, St.set, setVs, aget, subHp]
    simp [ar]
  · refine ⟨Nat.zero_le _, ?_, ?_, by simp⟩
    · unfold segAt bestK; rw [if_pos rfl, hv0]
    · unfold stepAt bestK; rw [if_pos rfl]; simp
  rintro ⟨m, sk, sn, nx, kk⟩ ⟨hm, hS, hN, hK⟩
  dsimp only at hm hS hN hK
  cbv
  refine splitBool (fun e3 => ?_) (fun e3 => ?_)
  · have h3 : kk ≤ ((ints p).length : Int) := of_decide_eq_true (by subst hA; exact e3)
    rw [ints_len] at h3
    have hm1 : m + 1 ≤ q.length := by ((try simp only [ncast, Int.ofNat_eq_natCast] at *); omega)
    have hcov := fun C => segAt_step (t := t) (C := C) (q := q) (m := m)
    have hstp := fun C => stepAt_step (C := C) (q := q) (m := m)
    have hkkN : kk.toNat = i + (m + 1) := by ((try simp only [ncast, Int.ofNat_eq_natCast] at *); omega)
    have hsl : ((ints p).take kk.toNat).drop (i : Int).toNat = ints (q.take (m + 1)) := by rw [hkkN, Int.toNat_natCast]; exact htk (m + 1)
    obtain ⟨x, hx, hx'⟩ := ints_atN (xs := p) (k := i + m) (by omega)
    have hx2 := hatq m x hx
    cbv
    refine ⟨by subst hA; simp only [ar, ints_len]; ((try simp only [ncast, Int.ofNat_eq_natCast] at *); omega), ?_⟩
    refine CallV.bool (coversOf t down (q.take (m + 1))) (by subst hA; have := r_Covers t down (q.take (m + 1)) (by rw [List.length_take]; omega) (by rw [List.length_take]; omega); rw [← hsl] at this; exact this) (by subst hA; rfl) fun b g2 => ?_
    have hS1 := hcov (coversOf t down)
    have hN1 := hstp (coversOf t down)
    rw [← g2] at hS1 hN1
    cbv
    refine splitBoolF (fun e4 => ?_) (fun e4 => ?_)
    · rw [e4, if_neg (by simp)] at hS1 hN1
      cbv
      refine ⟨by subst hA; simp only [ar, inI64]; ((try simp only [ncast, Int.ofNat_eq_natCast] at *); omega), ?_⟩
      refine ⟨(m + 1, sk, sn, nx, kk + 1), ⟨⟨hm1, by rw [hS1]; exact hS, by rw [hN1]; exact hN, by dsimp only; ((try simp only [ncast, Int.ofNat_eq_natCast] at *); omega)⟩, by dsimp only; omega⟩, ?_⟩
      subst hA
      simp [LeSt, leVs, leP, St.set, setVs, aget, subHp]
      simp [ar]
    · rw [e4, if_pos rfl] at hS1 hN1
      rw [hx2] at hS1
      cbv
      refine ⟨by subst hA; simp only [ar, inI64]; ((try simp only [ncast, Int.ofNat_eq_natCast] at *); omega), ?_⟩
      refine ⟨_, by subst hA; simp only [ar]; rw [show (kk - 1).toNat = i + m by ((try simp only [ncast, Int.ofNat_eq_natCast] at *); omega)]; exact hx', by subst hA; simp only [ar]; ((try simp only [ncast, Int.ofNat_eq_natCast] at *); omega), ?_⟩
      cbv
      refine CallV.int _ _ (by subst hA; exact r_Head t x) (by subst hA; rfl) fun h g3 => ?_
      cbv
      refine ⟨by subst hA; simp only [ar, inI64]; ((try simp only [ncast, Int.ofNat_eq_natCast] at *); omega), ?_⟩
      refine ⟨(m + 1, 1, h, kk, kk + 1), ⟨⟨hm1, by rw [hS1, g3], by rw [hN1]; dsimp only; ((try simp only [ncast, Int.ofNat_eq_natCast] at *); omega), by dsimp only; ((try simp only [ncast, Int.ofNat_eq_natCast] at *); omega)⟩, by dsimp only; omega⟩, ?_⟩
      subst hA
      simp [LeSt, leVs, leP, St.set, setVs, aget, subHp]
      simp [ar]
  · have h3 : ¬ (kk ≤ ((ints p).length : Int)) := of_decide_eq_false (by subst hA; exact e3)
    rw [ints_len] at h3
    have hm1 : m = q.length := by ((try simp only [ncast, Int.ofNat_eq_natCast] at *); omega)
    rw [hm1] at hS hN
    rw [hql] at hS hN
    rw [hS] at hq
    have hpos := stepAt_pos (coversOf t down) q (p.length - i)
    have hsle := stepAt_le (coversOf t down) q hq0
    rw [hql] at hsle
    generalize stepAt (coversOf t down) q (p.length - i) = st at hN hq hpos hsle
    cbv
    refine ⟨⟨by subst hA; simp only [ar, segs_len, List.length_cons, List.length_nil]; ((try simp only [ncast, Int.ofNat_eq_natCast] at *); omega), by trivial⟩, ?_⟩
    refine ⟨(i + st, out ++ [⟨sk, sn⟩]), ⟨⟨by dsimp only; omega, by rw [← hq]; simp, by simp; omega⟩, by dsimp only; omega⟩, ?_⟩
    subst hA
    simp [LeSt, leVs, leP, St.set, setVs, aget, subHp]
    simp [ar, segs, Segm.cs, hN]
end Go.Proofs.Ytogehfalhodapaa
namespace Go.Proofs.Ytogehfalhodapaa
open Go Go.Proofs.Ytogehfalhodapaa.Pv
set_option linter.unusedSimpArgs false
set_option linter.unusedVariables false
/-! what the plain words come to on a given network: all that is not computed is the distance, which is checked -/
def openB (t : Topo) (down : List Bool) (n : Int) (D : List Int) (a : Int) : Bool := isArc t a && upOf down a && decide (0 ≤ at0 D (headOf t a)) && transOf t (headOf t a) n
def distChk (t : Topo) (down : List Bool) (n : Int) (D : List Int) : Bool :=
  decide ((D.length : Int) = t.nodes) && D.all (fun x => decide (-1 ≤ x)) && decide (at0 D n = 0) &&
  (takeArcs (2 * t.links.length)).all (fun a => !openB t down n D a || (decide (0 ≤ at0 D (tailOf t a)) && decide (at0 D (tailOf t a) ≤ at0 D (headOf t a) + costOf t a))) &&
  (takeArcs t.nodes.toNat).all (fun x => decide (x = n) || decide (at0 D x < 0) || (takeArcs (2 * t.links.length)).any (fun a => openB t down n D a && decide (tailOf t a = x) && decide (at0 D x = at0 D (headOf t a) + costOf t a)))
theorem openB_iff {t : Topo} {down : List Bool} {n : Int} {D : List Int} {a : Int} : openB t down n D a = true ↔ Open t down n false D a := by
  unfold openB Open
  simp [viaY, and_assoc]
theorem distChk_is {t : Topo} {down : List Bool} {n : Int} {D : List Int} (h : distChk t down n D = true) : IsDist t down n false D := by
  simp only [distChk, Bool.and_eq_true, decide_eq_true_eq, List.all_eq_true, Bool.or_eq_true, Bool.not_eq_true', List.any_eq_true] at h
  obtain ⟨⟨⟨⟨h1, h2⟩, h3⟩, h4⟩, h5⟩ := h
  refine ⟨h1, fun i hi => ?_, h3, fun a ha => ?_, fun x h0 hx hn hD => ?_⟩
  · have := h2 D[i] (List.getElem_mem hi)
    unfold at0; simp only [Int.toNat_natCast]; rw [List.getElem?_eq_getElem hi]; exact this
  · have hb := openB_iff.2 ha
    have hi := isArc_iff.1 ha.1
    rcases h4 a (mem_takeArcs.2 ⟨hi.2.1, by push_cast; exact hi.2.2⟩) with e | e
    · rw [hb] at e; cases e
    · exact e
  · rcases h5 x (mem_takeArcs.2 ⟨h0, by omega⟩) with (e | e) | ⟨a, _, e⟩
    · exact (hn e).elim
    · omega
    · exact ⟨a, openB_iff.1 e.1.1, e.1.2, e.2⟩
def relax1 (t : Topo) (down : List Bool) (n : Int) (D : List Int) : List Int :=
  (takeArcs (2 * t.links.length)).foldl (fun D a => if openB t down n D a && (decide (at0 D (tailOf t a) < 0) || decide (at0 D (headOf t a) + costOf t a < at0 D (tailOf t a))) then D.set (tailOf t a).toNat (at0 D (headOf t a) + costOf t a) else D) D
def distC (t : Topo) (down : List Bool) (n : Int) : List Int := (List.range t.nodes.toNat).foldl (fun D _ => relax1 t down n D) ((List.replicate t.nodes.toNat (-1)).set n.toNat 0)
/-- the network is small enough to be gone through -/
def allChk (t : Topo) (down : List Bool) : Bool := (takeArcs t.nodes.toNat).all fun n => distChk t down n (distC t down n)
theorem allChk_is {t : Topo} {down : List Bool} (h : allChk t down = true) {n : Int} (h0 : 0 ≤ n) (h1 : n < t.nodes) : distOf t down n false = distC t down n := by
  simp only [allChk, List.all_eq_true] at h
  exact distOf_eq (distChk_is (h n (mem_takeArcs.2 ⟨h0, by omega⟩)))
def searchC (t : Topo) (down : List Bool) (n : Int) : List Int × Int := if fitsOf t down = false then ([], 1) else if within n 0 (t.nodes - 1) = false then ([], 2) else (distC t down n, 0)
theorem within_iff {n : Int} {t : Topo} : within n 0 (t.nodes - 1) = true ↔ 0 ≤ n ∧ n < t.nodes := by simp [within]; omega
theorem searchC_is {t : Topo} {down : List Bool} (h : allChk t down = true) (n : Int) : searchOf t down n false = searchC t down n := by
  unfold searchOf searchC
  split
  · rfl
  · split
    · rfl
    · rename_i hw
      have := within_iff.1 (by simpa using hw : within n 0 (t.nodes - 1) = true)
      rw [allChk_is h this.1 this.2]
def spathC (t : Topo) (down : List Bool) (s d : Int) : List Int × Int :=
  if fitsOf t down = false then ([], 1) else if within d 0 (t.nodes - 1) = false then ([], 2) else if within s 0 (t.nodes - 1) = false then ([], 2)
  else if at0 (distC t down d) s < 0 then ([], 11) else (spOf t down (distC t down d) d s, 0)
theorem spathC_is {t : Topo} {down : List Bool} (h : allChk t down = true) (s d : Int) : spathOf t down s d = spathC t down s d := by
  unfold spathOf spathC
  split
  · rfl
  · split
    · rfl
    · rename_i hw
      have := within_iff.1 (by simpa using hw : within d 0 (t.nodes - 1) = true)
      rw [allChk_is h this.1 this.2]
def countC (t : Topo) (down : List Bool) (D : List Int) (d most : Int) : List Int := (sortB (ltD D) (reach t D)).reverse.foldl (cntNode t down D d most) ((List.replicate t.nodes.toNat 0).set d.toNat (min 1 most))
theorem countC_is (t : Topo) (hn : 0 ≤ t.nodes) (down : List Bool) (D : List Int) (d most : Int) : countOf t down D d most = countC t down D d most := by
  unfold countOf countC
  rw [ordOf_eq (sort_ord (t := t) (D := D) hn)]
def countRC (t : Topo) (down : List Bool) (n d most : Int) : Int × Int :=
  if (searchC t down d).2 ≠ 0 then (0, (searchC t down d).2) else if within n 0 (t.nodes - 1) = false then (0, 2) else if most < 0 then (0, 1)
  else (at0 (countC t down (distC t down d) d most) n, 0)
theorem countRC_is {t : Topo} {down : List Bool} (h : allChk t down = true) (n d most : Int) : countR t down n d most = countRC t down n d most := by
  unfold countR countRC
  rw [searchC_is h]
  split
  · rfl
  · rename_i h1
    have hd : 0 ≤ d ∧ d < t.nodes := by
      have h1 : (searchC t down d).2 = 0 := Decidable.of_not_not h1
      unfold searchC at h1
      split at h1
      · cases h1
      · split at h1
        · cases h1
        · rename_i hw; exact within_iff.1 (by simpa using hw)
    rw [allChk_is h hd.1 hd.2, countC_is t (by omega)]
def uniqC (t : Topo) (down : List Bool) (n d : Int) : Bool := decide ((countRC t down n d 2).2 = 0) && decide ((countRC t down n d 2).1 = 1)
theorem uniqC_is {t : Topo} {down : List Bool} (h : allChk t down = true) (n d : Int) : uniqOf t down n d = uniqC t down n d := by
  unfold uniqOf uniqC; rw [countRC_is h]
def coversC (t : Topo) (down : List Bool) (p : List Int) : Bool :=
  uniqC t down (tailOf t (at0 p 0)) (headOf t (at0 p ((p.length : Int) - 1))) && (decide ((spathC t down (tailOf t (at0 p 0)) (headOf t (at0 p ((p.length : Int) - 1)))).2 = 0) && eqL (spathC t down (tailOf t (at0 p 0)) (headOf t (at0 p ((p.length : Int) - 1)))).1 p)
theorem coversC_is {t : Topo} {down : List Bool} (h : allChk t down = true) : coversOf t down = coversC t down := by
  funext p
  unfold coversOf coversC
  rw [uniqC_is h, spathC_is h]
def listF (t : Topo) (C : List Int → Bool) : Nat → List Int → List Segm
  | 0, _ => []
  | n + 1, p => match p with | [] => [] | a :: r => segAt t C (a :: r) (r.length + 1) :: listF t C n ((a :: r).drop (stepAt C (a :: r) (r.length + 1)))
theorem listF_is (t : Topo) (C : List Int → Bool) : ∀ (n : Nat) (p : List Int), p.length ≤ n → listGo t C p = listF t C n p := by
  intro n
  induction n with
  | zero => intro p hp; obtain rfl : p = [] := List.eq_nil_of_length_eq_zero (by omega); rw [listGo_nil]; rfl
  | succ n ih =>
    intro p hp
    cases p with
    | nil => rw [listGo_nil]; rfl
    | cons a r =>
      rw [listGo_cons (by simp)]
      have h1 : 1 ≤ stepAt C (a :: r) (r.length + 1) := stepAt_pos C (a :: r) (r.length + 1)
      rw [List.length_cons, ih _ (by rw [List.length_drop]; simp at hp ⊢; omega)]
      rfl
def squareT : Topo := ⟨4, [], [⟨0, 1, 1, 1, 0, 1, 0⟩, ⟨1, 2, 1, 1, 0, 1, 0⟩, ⟨2, 3, 1, 1, 0, 1, 0⟩, ⟨3, 0, 1, 1, 0, 1, 0⟩]⟩
theorem square_chk : allChk squareT [] = true := by decide +kernel
theorem digitsS_lt {n : Nat} (h : n < 10) : digitsS n = bytesStr [48 + (n : Int)] := by rw [digitsS, if_pos h]
theorem awake_list1 : listOf squareT [] [0, 2] 0 = ([⟨1, 1⟩, ⟨1, 2⟩], 0) := by
  have h1 : checkOf squareT [] [0, 2] 0 = 0 := by decide +kernel
  unfold listOf
  rw [if_neg (by simp [h1]), coversC_is square_chk, listF_is _ _ 2 _ (by simp)]
  decide +kernel
theorem awake_list2 : listOf squareT [] [0, 2, 4] 0 = ([⟨1, 1⟩, ⟨1, 2⟩, ⟨1, 3⟩], 0) := by
  have h1 : checkOf squareT [] [0, 2, 4] 0 = 0 := by decide +kernel
  unfold listOf
  rw [if_neg (by simp [h1]), coversC_is square_chk, listF_is _ _ 3 _ (by simp)]
  decide +kernel
theorem awake_text1 : textsOf [⟨1, 1⟩, ⟨1, 2⟩] = ⟨#[110, 49, 32, 110, 50]⟩ := by
  simp only [textsOf, textsGo, textOf]
  rw [digitsS_lt (by decide), digitsS_lt (by decide)]
  decide +kernel
theorem awake_text2 : textsOf [⟨1, 1⟩, ⟨1, 2⟩, ⟨1, 3⟩] = ⟨#[110, 49, 32, 110, 50, 32, 110, 51]⟩ := by
  simp only [textsOf, textsGo, textOf]
  rw [digitsS_lt (by decide), digitsS_lt (by decide), digitsS_lt (by decide)]
  decide +kernel
end Go.Proofs.Ytogehfalhodapaa
namespace Go.Proofs.Ytogehfalhodapaa
open Go Go.Proofs.Ytogehfalhodapaa.Pv
set_option linter.unusedSimpArgs false
set_option linter.unusedVariables false
/-! the law's own functions: awake, large -/
theorem FCs_wk {f : Nat} {xs xs' : List PV} {r : PV} (h : FCs f xs r) (hw : wks xs' xs) : FCs f xs' r :=
  ⟨⟨h.out.enter, fun vs w M F hi hrep => h.out.calls vs w M F hi (hrep.wks hw)⟩⟩
theorem CallV_st {C : Ctr} {f : Nat} {args args' : List PV} {k : PV → Prop} (n : ByteArray) (h : C f args' (.str n)) (h1 : isImms args' = true) (h3 : ∀ m, m = n → k (.str m)) : CallV C f args args' k :=
  .intro _ h h1 (by simp [scalar]) (h3 n rfl)
theorem splitDec {A : Ar} (hA : A = ar) {p : Prop} [Decidable p] {P Q : Prop} (h0 : ¬ p → Q) (h1 : p → P) : match (generalizing := false) (A.b fun _ => decide p) with | true => P | false => Q := by
  subst hA
  exact splitBool (fun h => h1 (of_decide_eq_true h)) (fun h => h0 (of_decide_eq_false h))
theorem splitNot {A : Ar} (hA : A = ar) {p : Prop} [Decidable p] {P Q : Prop} (h0 : p → Q) (h1 : ¬ p → P) : match (generalizing := false) (A.b fun _ => !decide p) with | true => P | false => Q := by
  subst hA
  refine splitBool (fun h => h1 ?_) (fun h => h0 ?_)
  · have h : (!decide p) = true := h
    simpa using h
  · have h : (!decide p) = false := h
    simpa using h
set_option maxHeartbeats 1000000 in
theorem l_awake20 : FCs 11 [] (.bool true) := by
  have c1 := c_List20 squareT [] [0, 2] 0 (by simp) (by decide)
  have c2 := c_List20 squareT [] [0, 2, 4] 0 (by simp) (by decide)
  rw [awake_list1] at c1
  rw [awake_list2] at c2
  have t1 := r_TextList [⟨1, 1⟩, ⟨1, 2⟩] (by simp)
  have t2 := r_TextList [⟨1, 1⟩, ⟨1, 2⟩, ⟨1, 3⟩] (by simp)
  rw [awake_text1] at t1
  rw [awake_text2] at t2
  refine FCs.intro [(1, 1), (700007, 1)] [0,1,2,3,4,5,6,7,8] (fun A => []) Try.func11 rfl Try.call11 (by kernel_rfl) (by simp [Try.f11]) ?_
  intro A hA
  cbv
  refine LoopK.upd Nat (fun k => [(2, .junk), (8, .int .i64 k)]) (fun k => [(1, ⟨51, 7, A.e fun _ => lks (squareT.links.take k), false⟩)]) (fun k => k ≤ 4) (fun k => 4 - k) 0 ?_ ?_ ?_
  · subst hA
    simp [LeSt, leVs, leP, St.set, setVs, aget, subHp]
    rfl
  · exact Nat.zero_le _
  rintro k hk
  have hlen : (lks (squareT.links.take k)).length ≤ 4 := by rw [lks_len, List.length_take]; omega
  cbv
  refine splitBool (fun e1 => ?_) (fun e1 => ?_)
  · have h1 : (k : Int) < 4 := of_decide_eq_true (by subst hA; exact e1)
    have hk4 : k < 4 := by ((try simp only [ncast, Int.ofNat_eq_natCast] at *); omega)
    have hst : lks (squareT.links.take (k + 1)) = lks (squareT.links.take k) ++ [[.int .i64 k, .int .i64 (((k : Int) + 1).tmod 4), .int .i64 1, .int .i64 1, .int .i64 0, .int .i64 1, .int .i64 0]] := by
      match k, hk4 with
      | 0, _ => rfl
      | 1, _ => rfl
      | 2, _ => rfl
      | 3, _ => rfl
    generalize lks (squareT.links.take k) = L at hlen hst
    cbv
    refine ⟨by subst hA; simp only [ar, inI64]; ((try simp only [ncast, Int.ofNat_eq_natCast] at *); omega), by subst hA; simp only [ar]; decide, ?_⟩
    refine ⟨⟨by subst hA; simp only [ar, List.length_cons, List.length_nil]; ((try simp only [ncast, Int.ofNat_eq_natCast] at *); omega), by trivial⟩, ?_⟩
    refine ⟨by subst hA; simp only [ar, inI64]; ((try simp only [ncast, Int.ofNat_eq_natCast] at *); omega), ?_⟩
    refine ⟨k + 1, ⟨hk4, by omega⟩, ?_⟩
    subst hA
    simp [LeSt, leVs, leP, St.set, setVs, aget, subHp]
    rw [hst]
    simp [ar]
  · have h1 : ¬ ((k : Int) < 4) := of_decide_eq_false (by subst hA; exact e1)
    have hge : k = 4 := by ((try simp only [ncast, Int.ofNat_eq_natCast] at *); omega)
    have hst : lks (squareT.links.take k) = lks squareT.links := by rw [hge]; rfl
    rw [hst]
    cbv
    refine CallV.nm2 (fun a b => .tup [.sl 2 a, .int .i64 b]) _ _ (by subst hA; exact FCs_wk c1 (by simp [wks, wk, Topo.pv, ar, bools, ints, squareT])) (by subst hA; rfl) (by subst hA; intros; rfl) fun a e g1 g2 => ?_
    cbv
    refine CallV.nm2 (fun a b => .tup [.sl 2 a, .int .i64 b]) _ _ (by subst hA; exact FCs_wk c2 (by simp [wks, wk, Topo.pv, ar, bools, ints, squareT])) (by subst hA; rfl) (by subst hA; intros; rfl) fun b f g3 g4 => ?_
    cbv
    refine splitTrue (by subst hA; exact decide_eq_true g2) ?_
    cbv
    refine splitTrue (by subst hA; exact decide_eq_true g4) ?_
    cbv
    refine CallV_st _ (by subst hA; rw [g1]; exact t1) (by subst hA; rfl) fun m g5 => ?_
    cbv
    refine splitTrue (by subst hA; exact decide_eq_true g5) ?_
    cbv
    refine CallV_st _ (by subst hA; rw [g3]; exact t2) (by subst hA; rfl) fun m2 g6 => ?_
    cbv
    subst hA
    refine Or.inl ?_
    have : decide (m2 = ⟨⟨[110, 49, 32, 110, 50, 32, 110, 51]⟩⟩) = true := decide_eq_true g6
    simp only [ar]
    rw [this]
def caseA (A : Ar) (t : Topo) (down : List Bool) (f : Int) (p : List Int) (l : List Segm) : PV :=
  .agg [.int .i64 (A.i fun _ => t.nodes), .sl 1 (A.e fun _ => bools t.over), .sl 7 (A.e fun _ => lks t.links), .sl 1 (A.e fun _ => bools down), .int .i64 f, .sl 1 (A.e fun _ => ints p), .sl 2 (A.e fun _ => segs l)]
def casePV (t : Topo) (down : List Bool) (f : Int) (p : List Int) (l : List Segm) : PV :=
  .agg [.int .i64 t.nodes, .sl 1 (bools t.over), .sl 7 (lks t.links), .sl 1 (bools down), .int .i64 f, .sl 1 (ints p), .sl 2 (segs l)]
def largeOf (t : Topo) (down : List Bool) (p : List Int) (l : List Segm) : Bool :=
  decide ((100 : Int) < t.over.length) || decide ((20 : Int) < t.links.length) || decide ((100 : Int) < down.length) || decide (12 < t.nodes) || decide ((10 : Int) < p.length) || decide ((12 : Int) < l.length)
theorem l_large20 (t : Topo) (down : List Bool) (f : Int) (p : List Int) (l : List Segm) : FCs 12 [casePV t down f p l] (.bool (largeOf t down p l)) := by
  obtain ⟨nd, ov, lk⟩ := t
  refine FCs.intro [] [0,1,2] (fun A => [caseA A ⟨nd, ov, lk⟩ down f p l]) Try.func12 rfl Try.call12 (by kernel_rfl) (by simp [Try.f12]) ?_
  intro A hA
  cbv
  repeat' (first
    | (refine splitDec hA (fun e => ?_) (fun e => ?_) <;> cbv)
    | (refine splitNot hA (fun e => ?_) (fun e => ?_) <;> cbv)
    | (refine splitBoolF (fun e => ?_) (fun e => ?_) <;> cbv)
    | (refine ⟨by subst hA; simp only [ar, inI64, lks_len]; ((try simp only [ncast, Int.ofNat_eq_natCast] at *); omega), ?_⟩; cbv))
  all_goals (subst hA; first | (refine Or.inl ?_; simp_all [ar, ncast, Int.ofNat_eq_natCast, largeOf, bools_len, lks_len, ints_len, segs_len]; done) | (refine Or.inr ?_; simp_all [ar, ncast, Int.ofNat_eq_natCast, wk, wks, largeOf, bools_len, lks_len, ints_len, segs_len]; done) | (refine Or.inl ?_; simp_all [ar, ncast, Int.ofNat_eq_natCast, largeOf, bools_len, lks_len, ints_len, segs_len]; first | rfl | omega | ((repeat' split) <;> (first | rfl | omega | (simp_all; done) | (simp_all; omega)))))
theorem large_no {t : Topo} {down : List Bool} {p : List Int} {l : List Segm} (h : largeOf t down p l = false) : t.nodes ≤ 12 ∧ p.length ≤ 10 ∧ l.length ≤ 12 := by
  simp [largeOf] at h; omega
end Go.Proofs.Ytogehfalhodapaa
namespace Go.Proofs.Ytogehfalhodapaa
open Go Go.Proofs.Ytogehfalhodapaa.Pv
set_option linter.unusedSimpArgs false
set_option linter.unusedVariables false
/-! the law EncodeList, and the decoding of its argument -/
set_option maxHeartbeats 1000000 in
theorem l_EncodeList (t : Topo) (down : List Bool) (f : Int) (p : List Int) (l : List Segm) : FCs 3 [casePV t down f p l] (.bool true) := by
  refine FCs.intro [] [0,1,2,3,4,5,6] (fun A => [caseA A t down f p l]) Try.func3 rfl Try.call3 (by kernel_rfl) (by simp [Try.f3]) ?_
  intro A hA
  cbv
  refine CallV.bool _ (by subst hA; exact l_awake20) (by subst hA; rfl) fun m1 g1 => ?_
  cbv
  refine splitFalse (by subst hA; rw [g1]; rfl) ?_
  cbv
  refine CallV.bool _ (by subst hA; exact l_large20 t down f p l) (by subst hA; rfl) fun m2 g2 => ?_
  cbv
  refine splitBoolF (fun e1 => ?_) (fun e1 => ?_)
  rotate_left
  · cbv
    (subst hA; refine Or.inl ?_; simp only [ar])
  have hlg : largeOf t down p l = false := by rw [← g2, e1]
  obtain ⟨hn, hp, hl⟩ := large_no hlg
  have hll : (listOf t down p f).1.length ≤ p.length := by
    unfold listOf
    split
    · exact Nat.zero_le _
    · exact listGo_len t (coversOf t down) p.length p (Nat.le_refl _)
  have c1 := c_List20 t down p f (by omega) (by omega)
  have c2 := r_List20 t down p f (by omega)
  generalize (listOf t down p f).1 = L at hll c1 c2
  generalize (listOf t down p f).2 = E at c1 c2
  cbv
  refine CallV.nm2 (fun a b => .tup [.sl 2 a, .int .i64 b]) _ _ (by subst hA; exact c1) (by subst hA; rfl) (by subst hA; intros; rfl) fun a e g3 g4 => ?_
  cbv
  refine CallV.nm2 (fun a b => .tup [.sl 2 a, .int .i64 b]) _ _ (by subst hA; exact c2) (by subst hA; rfl) (by subst hA; intros; rfl) fun b e' g5 g6 => ?_
  cbv
  refine splitTrue (by subst hA; exact decide_eq_true (by rw [g4, g6])) ?_
  cbv
  refine CallV.bool _ (by subst hA; rw [g3, g5]; exact r_Same18 L L (by omega)) (by subst hA; rfl) fun m g7 => ?_
  cbv
  subst hA
  refine Or.inl ?_
  rw [g7]
  simp [eqS]
/-! arguments -/
theorem fitsL_one {s : Sh} {r : List Sh} {cs : List PV} (h : FitsL (s :: r) cs) : ∃ c d, cs = c ++ d ∧ Fits s c ∧ FitsL r d := by simpa only [FitsL] using h
theorem fitsL_int {r : List Sh} {cs : List PV} (h : FitsL (.int .i64 :: r) cs) : ∃ n d, cs = .int .i64 n :: d ∧ FitsL r d := by
  obtain ⟨c, d, e, h1, h2⟩ := fitsL_one h
  simp only [Fits] at h1
  obtain ⟨n, rfl, _⟩ := h1
  exact ⟨n, d, e, h2⟩
theorem fitsL_bool {r : List Sh} {cs : List PV} (h : FitsL (.bool :: r) cs) : ∃ b d, cs = .bool b :: d ∧ FitsL r d := by
  obtain ⟨c, d, e, h1, h2⟩ := fitsL_one h
  simp only [Fits] at h1
  obtain ⟨n, rfl⟩ := h1
  exact ⟨n, d, e, h2⟩
theorem fitsL_nil {cs : List PV} (h : FitsL [] cs) : cs = [] := by simpa only [FitsL] using h
/-- a slice whose elements are told by a list of plain values -/
theorem elems_of {α : Type} {s : Sh} (g : α → List PV) (hg : ∀ c, Fits s c → ∃ x, c = g x) : ∀ {es : List (List PV)}, (∀ c ∈ es, Fits s c) → ∃ xs : List α, es = xs.map g
  | [], _ => ⟨[], rfl⟩
  | c :: es, h => by
    obtain ⟨xs, e⟩ := elems_of g hg (es := es) fun c hc => h c (by simp [hc])
    obtain ⟨x, e2⟩ := hg c (h c (by simp))
    exact ⟨x :: xs, by rw [e, e2]; rfl⟩
theorem fitsL_sl {α : Type} {s : Sh} (g : α → List PV) (hg : ∀ c, Fits s c → ∃ x, c = g x) {r : List Sh} {cs : List PV} (h : FitsL (.slice s :: r) cs) : ∃ (xs : List α) (d : List PV), cs = .sl (Sh.size s) (xs.map g) :: d ∧ FitsL r d := by
  obtain ⟨c, d, e, h1, h2⟩ := fitsL_one h
  simp only [Fits] at h1
  obtain ⟨es, rfl, _, hf⟩ := h1
  obtain ⟨xs, rfl⟩ := elems_of g hg hf
  exact ⟨xs, d, e, h2⟩
theorem fitsL_struct {fs r : List Sh} {cs : List PV} (h : FitsL (.struct fs :: r) cs) : ∃ c d, cs = c ++ d ∧ FitsL fs c ∧ FitsL r d := by
  obtain ⟨c, d, e, h1, h2⟩ := fitsL_one h
  exact ⟨c, d, e, by simpa only [Fits] using h1, h2⟩
def linkSh : Sh := .struct [.int .i64, .int .i64, .arr 2 (.int .i64), .int .i64, .int .i64, .int .i64]
def segSh : Sh := .struct [.int .i64, .int .i64]
def topoSh : Sh := .struct [.int .i64, .slice .bool, .slice linkSh]
theorem fits_boolE {c : List PV} (h : Fits .bool c) : ∃ x : Bool, c = [.bool x] := by simp only [Fits] at h; exact h
theorem fits_intE {c : List PV} (h : Fits (.int .i64) c) : ∃ x : Int, c = [.int .i64 x] := by simp only [Fits] at h; obtain ⟨n, e, _⟩ := h; exact ⟨n, e⟩
theorem fits_link {c : List PV} (h : Fits linkSh c) : ∃ l : Link, c = l.cs := by
  simp only [linkSh, Fits] at h
  obtain ⟨a, d1, rfl, q0⟩ := fitsL_int h
  obtain ⟨b, d2, rfl, q1⟩ := fitsL_int q0
  obtain ⟨ar2, d3, rfl, h0, q2⟩ := fitsL_one q1
  obtain ⟨cap, d4, rfl, q3⟩ := fitsL_int q2
  obtain ⟨del, d5, rfl, q4⟩ := fitsL_int q3
  obtain ⟨grp, d6, rfl, q5⟩ := fitsL_int q4
  obtain rfl := fitsL_nil q5
  simp only [Fits] at h0
  obtain ⟨es, rfl, hl, hf⟩ := h0
  match es, hl, hf with
  | [x, y], _, hf =>
    obtain ⟨c0, e0, _⟩ := hf x (by simp)
    obtain ⟨c1, e1, _⟩ := hf y (by simp)
    exact ⟨⟨a, b, c0, c1, cap, del, grp⟩, by simp [e0, e1, Link.cs]⟩
theorem fits_seg {c : List PV} (h : Fits segSh c) : ∃ s : Segm, c = s.cs := by
  simp only [segSh, Fits] at h
  obtain ⟨a, d1, rfl, q0⟩ := fitsL_int h
  obtain ⟨b, d2, rfl, q1⟩ := fitsL_int q0
  obtain rfl := fitsL_nil q1
  exact ⟨⟨a, b⟩, rfl⟩
theorem fitsL_topo {fs : List Sh} {cs : List PV} (h : FitsL (topoSh :: fs) cs) : ∃ (t : Topo) (d : List PV), cs = t.cs ++ d ∧ FitsL fs d := by
  obtain ⟨c, d, e, h1, h2⟩ := fitsL_struct h
  obtain ⟨n, d1, rfl, q0⟩ := fitsL_int h1
  obtain ⟨ov, d2, rfl, q1⟩ := fitsL_sl (fun x : Bool => [.bool x]) (fun c hc => fits_boolE hc) q0
  obtain ⟨lk, d3, rfl, q2⟩ := fitsL_sl Link.cs (fun c hc => fits_link hc) q1
  obtain rfl := fitsL_nil q2
  exact ⟨⟨n, ov, lk⟩, d, by rw [e]; rfl, h2⟩
def caseSh : Sh := .struct [topoSh, .slice .bool, .int .i64, .slice (.int .i64), .slice segSh]
theorem fits_case {cs : List PV} (h : Fits caseSh cs) : ∃ t down f p l, .agg cs = casePV t down f p l := by
  simp only [caseSh, Fits] at h
  obtain ⟨t, d1, rfl, q0⟩ := fitsL_topo h
  obtain ⟨dn, d2, rfl, q1⟩ := fitsL_sl (fun x : Bool => [.bool x]) (fun c hc => fits_boolE hc) q0
  obtain ⟨f, d3, rfl, q2⟩ := fitsL_int q1
  obtain ⟨p, d4, rfl, q3⟩ := fitsL_sl (fun x : Int => [.int .i64 x]) (fun c hc => fits_intE hc) q2
  obtain ⟨l, d5, rfl, q4⟩ := fitsL_sl Segm.cs (fun c hc => fits_seg hc) q3
  obtain rfl := fitsL_nil q4
  exact ⟨t, dn, f, p, l, rfl⟩
end Go.Proofs.Ytogehfalhodapaa
namespace Go.Proofs.Ytogehfalhodapaa
open Go Go.Proofs.Ytogehfalhodapaa.Pv Go.ChangeShapes Go.WideShapes Go.ChangeAt Go.RowKit
theorem Try.own : ownKnob Try.prog.godebug = none := by kernel_rfl
theorem Try.laidOut : laidOutB Try.prog = true := by kernel_rfl
theorem Try.mapsRow : mapsRowed Try.prog = true := by kernel_rfl
theorem Try.kids : Kids Try.prog (· < Try.prog.types.size) := kids_rows Try.laidOut Try.mapsRow
theorem Try.sliceSize : ∀ {t e : TypeId}, t < Try.prog.types.size → Try.prog.underlying t = some (.slice e) → 0 < Try.prog.cellsOf e := sliceOk_ok (by kernel_rfl)
end Go.Proofs.Ytogehfalhodapaa
