/-
  No cell of these rows narrows 'for every input' (looked for: loops, veiled, ifaces, maps, wideKeys, modest, calm, conditions, laid).
  DERIVED. THE GIVEN ROWS OF THIS SEAT. 6 by the template 'for every input the law returns true; each argument reads behind the call as it read before'; 0 by the template 'total and deterministic' (their statements: YtbliiejdmgnkgaaTotals.lean).
  GIVEN WITH THE SEED: the statements are not yours to turn. If you find one false, say at which input.
  Laid BY PROGRAM, IN A SANDBOX (cutbox-rows.mjs): the forced cells as the released guide's own fill.sh prints them over the translation a5e1a42d1127e606… (all of the seat's roots in one cut). By AI agents, Wed Nov 11 2026. No macro, syntax, notation, axiom, sorry.
-/
import Derived.Test.YtbliiejdmgnkgaaChecked
import GoSem.Claim
import GoSem.ClaimJoined
import GoSem.ClaimMapViews
import Derived.JoinedTies
import Derived.KernelRfl
namespace Go.Proofs.Ytbliiejdmgnkgaa
/- THE CELL 'sum', in the pinned program and in every row, IS THE sha256 OF THE DUMP (.gsa) THAT YtbliiejdmgnkgaaProg.lean LOADS. Nothing in Lean hashes anything: it is a label: what it is worth is what the hold of that sum in a sandbox is worth. -/
noncomputable def Try.pinned : Pinned := { name := "ytbliiejdmgnkgaa", sum := "a5e1a42d1127e6067180ee584e0d2e5b4fd4a5dd975f0be28ccdf59d4746d7ff", checked := Try.checked }
namespace Rows
def none {H : Type} : Left H := { results := [], args := [] }

/-- 'waypointlaw25.FlowhashWeight': WHATEVER THE INPUT: true; the input reads as it did. -/
def flowhashWeightSpec : ChangeSpec := { name := "flowhashWeight", fn := fun _ => fun
  | [d1, d2, d3] => { results := [.lit (.bool true)], args := [d1, d2, d3] }
  | _ => none }
def flowhashWeightRow : OpenClaim := { program := "ytbliiejdmgnkgaa", sum := "a5e1a42d1127e6067180ee584e0d2e5b4fd4a5dd975f0be28ccdf59d4746d7ff", func := "waypoint/waypointlaw25.FlowhashWeight", spec := "flowhashWeight", unfollowed := true, recurses := true, apart := false }
def FlowhashWeightSaid : Prop := flowhashWeightRow.holds Try.pinned (OpenSpec.ofChange flowhashWeightSpec)

/-- ITS FALSE NEIGHBOUR: 'it returns false'. Refute it at one input. -/
def flowhashWeightWrong : ChangeSpec := { name := "flowhashWeight", fn := fun _ => fun
  | [d1, d2, d3] => { results := [.lit (.bool false)], args := [d1, d2, d3] }
  | _ => none }
def FlowhashWeightWrongFalsely : Prop := flowhashWeightRow.holds Try.pinned (OpenSpec.ofChange flowhashWeightWrong)

/-- 'waypointlaw25.FlowhashChoose': WHATEVER THE INPUT: true; the input reads as it did. -/
def flowhashChooseSpec : ChangeSpec := { name := "flowhashChoose", fn := fun _ => fun
  | [d1, d2, d3] => { results := [.lit (.bool true)], args := [d1, d2, d3] }
  | _ => none }
def flowhashChooseRow : OpenClaim := { program := "ytbliiejdmgnkgaa", sum := "a5e1a42d1127e6067180ee584e0d2e5b4fd4a5dd975f0be28ccdf59d4746d7ff", func := "waypoint/waypointlaw25.FlowhashChoose", spec := "flowhashChoose", unfollowed := true, recurses := true, apart := false }
def FlowhashChooseSaid : Prop := flowhashChooseRow.holds Try.pinned (OpenSpec.ofChange flowhashChooseSpec)

/-- ITS FALSE NEIGHBOUR: 'it returns false'. Refute it at one input. -/
def flowhashChooseWrong : ChangeSpec := { name := "flowhashChoose", fn := fun _ => fun
  | [d1, d2, d3] => { results := [.lit (.bool false)], args := [d1, d2, d3] }
  | _ => none }
def FlowhashChooseWrongFalsely : Prop := flowhashChooseRow.holds Try.pinned (OpenSpec.ofChange flowhashChooseWrong)

/-- 'waypointlaw25.FlowhashOrder': WHATEVER THE INPUT: true; the input reads as it did. -/
def flowhashOrderSpec : ChangeSpec := { name := "flowhashOrder", fn := fun _ => fun
  | [d1, d2, d3] => { results := [.lit (.bool true)], args := [d1, d2, d3] }
  | _ => none }
def flowhashOrderRow : OpenClaim := { program := "ytbliiejdmgnkgaa", sum := "a5e1a42d1127e6067180ee584e0d2e5b4fd4a5dd975f0be28ccdf59d4746d7ff", func := "waypoint/waypointlaw25.FlowhashOrder", spec := "flowhashOrder", unfollowed := true, recurses := true, apart := false }
def FlowhashOrderSaid : Prop := flowhashOrderRow.holds Try.pinned (OpenSpec.ofChange flowhashOrderSpec)

/-- ITS FALSE NEIGHBOUR: 'it returns false'. Refute it at one input. -/
def flowhashOrderWrong : ChangeSpec := { name := "flowhashOrder", fn := fun _ => fun
  | [d1, d2, d3] => { results := [.lit (.bool false)], args := [d1, d2, d3] }
  | _ => none }
def FlowhashOrderWrongFalsely : Prop := flowhashOrderRow.holds Try.pinned (OpenSpec.ofChange flowhashOrderWrong)

/-- 'waypointlaw25.FlowhashRemoved': WHATEVER THE INPUT: true; the input reads as it did. -/
def flowhashRemovedSpec : ChangeSpec := { name := "flowhashRemoved", fn := fun _ => fun
  | [d1, d2, d3] => { results := [.lit (.bool true)], args := [d1, d2, d3] }
  | _ => none }
def flowhashRemovedRow : OpenClaim := { program := "ytbliiejdmgnkgaa", sum := "a5e1a42d1127e6067180ee584e0d2e5b4fd4a5dd975f0be28ccdf59d4746d7ff", func := "waypoint/waypointlaw25.FlowhashRemoved", spec := "flowhashRemoved", unfollowed := true, recurses := true, apart := false }
def FlowhashRemovedSaid : Prop := flowhashRemovedRow.holds Try.pinned (OpenSpec.ofChange flowhashRemovedSpec)

/-- ITS FALSE NEIGHBOUR: 'it returns false'. Refute it at one input. -/
def flowhashRemovedWrong : ChangeSpec := { name := "flowhashRemoved", fn := fun _ => fun
  | [d1, d2, d3] => { results := [.lit (.bool false)], args := [d1, d2, d3] }
  | _ => none }
def FlowhashRemovedWrongFalsely : Prop := flowhashRemovedRow.holds Try.pinned (OpenSpec.ofChange flowhashRemovedWrong)

/-- 'waypointlaw25.FlowhashAdded': WHATEVER THE INPUT: true; the input reads as it did. -/
def flowhashAddedSpec : ChangeSpec := { name := "flowhashAdded", fn := fun _ => fun
  | [d1, d2, d3] => { results := [.lit (.bool true)], args := [d1, d2, d3] }
  | _ => none }
def flowhashAddedRow : OpenClaim := { program := "ytbliiejdmgnkgaa", sum := "a5e1a42d1127e6067180ee584e0d2e5b4fd4a5dd975f0be28ccdf59d4746d7ff", func := "waypoint/waypointlaw25.FlowhashAdded", spec := "flowhashAdded", unfollowed := true, recurses := true, apart := false }
def FlowhashAddedSaid : Prop := flowhashAddedRow.holds Try.pinned (OpenSpec.ofChange flowhashAddedSpec)

/-- ITS FALSE NEIGHBOUR: 'it returns false'. Refute it at one input. -/
def flowhashAddedWrong : ChangeSpec := { name := "flowhashAdded", fn := fun _ => fun
  | [d1, d2, d3] => { results := [.lit (.bool false)], args := [d1, d2, d3] }
  | _ => none }
def FlowhashAddedWrongFalsely : Prop := flowhashAddedRow.holds Try.pinned (OpenSpec.ofChange flowhashAddedWrong)

/-- 'waypointlaw25.FlowhashDistinct': WHATEVER THE INPUT: true; the input reads as it did. -/
def flowhashDistinctSpec : ChangeSpec := { name := "flowhashDistinct", fn := fun _ => fun
  | [d1, d2, d3] => { results := [.lit (.bool true)], args := [d1, d2, d3] }
  | _ => none }
def flowhashDistinctRow : OpenClaim := { program := "ytbliiejdmgnkgaa", sum := "a5e1a42d1127e6067180ee584e0d2e5b4fd4a5dd975f0be28ccdf59d4746d7ff", func := "waypoint/waypointlaw25.FlowhashDistinct", spec := "flowhashDistinct", unfollowed := true, recurses := true, apart := false }
def FlowhashDistinctSaid : Prop := flowhashDistinctRow.holds Try.pinned (OpenSpec.ofChange flowhashDistinctSpec)

/-- ITS FALSE NEIGHBOUR: 'it returns false'. Refute it at one input. -/
def flowhashDistinctWrong : ChangeSpec := { name := "flowhashDistinct", fn := fun _ => fun
  | [d1, d2, d3] => { results := [.lit (.bool false)], args := [d1, d2, d3] }
  | _ => none }
def FlowhashDistinctWrongFalsely : Prop := flowhashDistinctRow.holds Try.pinned (OpenSpec.ofChange flowhashDistinctWrong)

/- THE SECOND FORM. 'bulk': how many values and letters a reading holds, each counted each time it is reached (what is shared counts as often as it is met; a slice's spare places count too). A statement '..UptoSaid' is the law's where the arguments, and the package variables that the reading takes, are together of bulk at most 1048576: NARROWER than '..Said'. Prove '..Said' where nothing that the law and all that it calls make is longer than what came in: it says more and counts as full. Else prove '..UptoSaid'. A law counts once. -/
mutual
def uptoBulk {H : Type} : DataW H → Nat
  | .lit (.string bytes) => bytes.length + 1
  | .lit _ => 1
  | .nil => 1
  | .ptr d => uptoBulk d + 1
  | .slice elems spare => uptoBulkAll elems + uptoBulkAll spare + 1
  | .agg parts => uptoBulkAll parts + 1
  | .iface _ d => uptoBulk d + 1
  | .map entries => uptoBulkEntries entries + 1
  | .held _ => 1
def uptoBulkAll {H : Type} : List (DataW H) → Nat
  | [] => 0
  | d :: r => uptoBulk d + uptoBulkAll r
def uptoBulkEntries {H : Type} : List (Lit × DataW H) → Nat
  | [] => 0
  | x :: r => uptoBulkEntry x + uptoBulkEntries r
def uptoBulkEntry {H : Type} : Lit × DataW H → Nat
  | (.string bytes, d) => bytes.length + uptoBulk d + 1
  | (_, d) => uptoBulk d + 1
 end
def uptoSmall : (H : Type) → List (DataW H) → Bool := fun _ ds => decide (uptoBulkAll ds ≤ 1048576)
def OpenSpec.upto (s : _root_.Go.ChangeSpec) : _root_.Go.OpenSpec := { _root_.Go.OpenSpec.ofChange s with cond := some uptoSmall }

/-- 'waypointlaw25.FlowhashWeight', WHERE WHAT IT READS IS OF BULK AT MOST 1048576: true; the input reads as it did. -/
def flowhashWeightUptoRow : OpenClaim := { program := "ytbliiejdmgnkgaa", sum := "a5e1a42d1127e6067180ee584e0d2e5b4fd4a5dd975f0be28ccdf59d4746d7ff", func := "waypoint/waypointlaw25.FlowhashWeight", spec := "flowhashWeight", unfollowed := true, recurses := true, apart := false, narrowed := true }
def FlowhashWeightUptoSaid : Prop := flowhashWeightUptoRow.holds Try.pinned (OpenSpec.upto flowhashWeightSpec)

/-- 'waypointlaw25.FlowhashChoose', WHERE WHAT IT READS IS OF BULK AT MOST 1048576: true; the input reads as it did. -/
def flowhashChooseUptoRow : OpenClaim := { program := "ytbliiejdmgnkgaa", sum := "a5e1a42d1127e6067180ee584e0d2e5b4fd4a5dd975f0be28ccdf59d4746d7ff", func := "waypoint/waypointlaw25.FlowhashChoose", spec := "flowhashChoose", unfollowed := true, recurses := true, apart := false, narrowed := true }
def FlowhashChooseUptoSaid : Prop := flowhashChooseUptoRow.holds Try.pinned (OpenSpec.upto flowhashChooseSpec)

/-- 'waypointlaw25.FlowhashOrder', WHERE WHAT IT READS IS OF BULK AT MOST 1048576: true; the input reads as it did. -/
def flowhashOrderUptoRow : OpenClaim := { program := "ytbliiejdmgnkgaa", sum := "a5e1a42d1127e6067180ee584e0d2e5b4fd4a5dd975f0be28ccdf59d4746d7ff", func := "waypoint/waypointlaw25.FlowhashOrder", spec := "flowhashOrder", unfollowed := true, recurses := true, apart := false, narrowed := true }
def FlowhashOrderUptoSaid : Prop := flowhashOrderUptoRow.holds Try.pinned (OpenSpec.upto flowhashOrderSpec)

/-- 'waypointlaw25.FlowhashRemoved', WHERE WHAT IT READS IS OF BULK AT MOST 1048576: true; the input reads as it did. -/
def flowhashRemovedUptoRow : OpenClaim := { program := "ytbliiejdmgnkgaa", sum := "a5e1a42d1127e6067180ee584e0d2e5b4fd4a5dd975f0be28ccdf59d4746d7ff", func := "waypoint/waypointlaw25.FlowhashRemoved", spec := "flowhashRemoved", unfollowed := true, recurses := true, apart := false, narrowed := true }
def FlowhashRemovedUptoSaid : Prop := flowhashRemovedUptoRow.holds Try.pinned (OpenSpec.upto flowhashRemovedSpec)

/-- 'waypointlaw25.FlowhashAdded', WHERE WHAT IT READS IS OF BULK AT MOST 1048576: true; the input reads as it did. -/
def flowhashAddedUptoRow : OpenClaim := { program := "ytbliiejdmgnkgaa", sum := "a5e1a42d1127e6067180ee584e0d2e5b4fd4a5dd975f0be28ccdf59d4746d7ff", func := "waypoint/waypointlaw25.FlowhashAdded", spec := "flowhashAdded", unfollowed := true, recurses := true, apart := false, narrowed := true }
def FlowhashAddedUptoSaid : Prop := flowhashAddedUptoRow.holds Try.pinned (OpenSpec.upto flowhashAddedSpec)

/-- 'waypointlaw25.FlowhashDistinct', WHERE WHAT IT READS IS OF BULK AT MOST 1048576: true; the input reads as it did. -/
def flowhashDistinctUptoRow : OpenClaim := { program := "ytbliiejdmgnkgaa", sum := "a5e1a42d1127e6067180ee584e0d2e5b4fd4a5dd975f0be28ccdf59d4746d7ff", func := "waypoint/waypointlaw25.FlowhashDistinct", spec := "flowhashDistinct", unfollowed := true, recurses := true, apart := false, narrowed := true }
def FlowhashDistinctUptoSaid : Prop := flowhashDistinctUptoRow.holds Try.pinned (OpenSpec.upto flowhashDistinctSpec)

end Rows
end Go.Proofs.Ytbliiejdmgnkgaa
