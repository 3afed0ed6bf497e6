/-
  No cell of these rows narrows 'for every input' (looked for: loops, veiled, ifaces, maps, wideKeys, modest, calm, conditions, laid).
  DERIVED. THE GIVEN ROWS OF THIS SEAT. 8 by the template 'for every input the law returns true; each argument reads behind the call as it read before'; 0 by the template 'total and deterministic' (their statements: YtogehfalhodapaaTotals.lean).
  GIVEN WITH THE SEED: the statements are not yours to turn. If you find one false, say at which input.
  Laid BY PROGRAM, IN A SANDBOX (cutbox-rows.mjs): the forced cells as the released guide's own fill.sh prints them over the translation eac8346f84866dcf… (all of the seat's roots in one cut). By AI agents, Wed Nov 11 2026. No macro, syntax, notation, axiom, sorry.
-/
import Derived.Test.YtogehfalhodapaaChecked
import GoSem.Claim
import GoSem.ClaimJoined
import GoSem.ClaimMapViews
import Derived.JoinedTies
import Derived.KernelRfl
namespace Go.Proofs.Ytogehfalhodapaa
/- THE CELL 'sum', in the pinned program and in every row, IS THE sha256 OF THE DUMP (.gsa) THAT YtogehfalhodapaaProg.lean LOADS. Nothing in Lean hashes anything: it is a label: what it is worth is what the hold of that sum in a sandbox is worth. -/
noncomputable def Try.pinned : Pinned := { name := "ytogehfalhodapaa", sum := "eac8346f84866dcf9581fce69757c5a67ae43382b41699abca9f8a96045f2488", checked := Try.checked }
namespace Rows
def none {H : Type} : Left H := { results := [], args := [] }

/-- 'waypointlaw20.EncodeList': WHATEVER THE INPUT: true; the input reads as it did. -/
def encodeListSpec : ChangeSpec := { name := "encodeList", fn := fun _ => fun
  | [d] => { results := [.lit (.bool true)], args := [d] }
  | _ => none }
def encodeListRow : OpenClaim := { program := "ytogehfalhodapaa", sum := "eac8346f84866dcf9581fce69757c5a67ae43382b41699abca9f8a96045f2488", func := "waypoint/waypointlaw20.EncodeList", spec := "encodeList", unfollowed := true, recurses := true, apart := false }
def EncodeListSaid : Prop := encodeListRow.holds Try.pinned (OpenSpec.ofChange encodeListSpec)

/-- ITS FALSE NEIGHBOUR: 'it returns false'. Refute it at one input. -/
def encodeListWrong : ChangeSpec := { name := "encodeList", fn := fun _ => fun
  | [d] => { results := [.lit (.bool false)], args := [d] }
  | _ => none }
def EncodeListWrongFalsely : Prop := encodeListRow.holds Try.pinned (OpenSpec.ofChange encodeListWrong)

/-- 'waypointlaw20.EncodeUnique': WHATEVER THE INPUT: true; the input reads as it did. -/
def encodeUniqueSpec : ChangeSpec := { name := "encodeUnique", fn := fun _ => fun
  | [d] => { results := [.lit (.bool true)], args := [d] }
  | _ => none }
def encodeUniqueRow : OpenClaim := { program := "ytogehfalhodapaa", sum := "eac8346f84866dcf9581fce69757c5a67ae43382b41699abca9f8a96045f2488", func := "waypoint/waypointlaw20.EncodeUnique", spec := "encodeUnique", unfollowed := true, recurses := true, apart := false }
def EncodeUniqueSaid : Prop := encodeUniqueRow.holds Try.pinned (OpenSpec.ofChange encodeUniqueSpec)

/-- ITS FALSE NEIGHBOUR: 'it returns false'. Refute it at one input. -/
def encodeUniqueWrong : ChangeSpec := { name := "encodeUnique", fn := fun _ => fun
  | [d] => { results := [.lit (.bool false)], args := [d] }
  | _ => none }
def EncodeUniqueWrongFalsely : Prop := encodeUniqueRow.holds Try.pinned (OpenSpec.ofChange encodeUniqueWrong)

/-- 'waypointlaw20.EncodeLeast': WHATEVER THE INPUT: true; the input reads as it did. -/
def encodeLeastSpec : ChangeSpec := { name := "encodeLeast", fn := fun _ => fun
  | [d] => { results := [.lit (.bool true)], args := [d] }
  | _ => none }
def encodeLeastRow : OpenClaim := { program := "ytogehfalhodapaa", sum := "eac8346f84866dcf9581fce69757c5a67ae43382b41699abca9f8a96045f2488", func := "waypoint/waypointlaw20.EncodeLeast", spec := "encodeLeast", unfollowed := true, recurses := true, apart := false }
def EncodeLeastSaid : Prop := encodeLeastRow.holds Try.pinned (OpenSpec.ofChange encodeLeastSpec)

/-- ITS FALSE NEIGHBOUR: 'it returns false'. Refute it at one input. -/
def encodeLeastWrong : ChangeSpec := { name := "encodeLeast", fn := fun _ => fun
  | [d] => { results := [.lit (.bool false)], args := [d] }
  | _ => none }
def EncodeLeastWrongFalsely : Prop := encodeLeastRow.holds Try.pinned (OpenSpec.ofChange encodeLeastWrong)

/-- 'waypointlaw20.EncodeExpand': WHATEVER THE INPUT: true; the input reads as it did. -/
def encodeExpandSpec : ChangeSpec := { name := "encodeExpand", fn := fun _ => fun
  | [d] => { results := [.lit (.bool true)], args := [d] }
  | _ => none }
def encodeExpandRow : OpenClaim := { program := "ytogehfalhodapaa", sum := "eac8346f84866dcf9581fce69757c5a67ae43382b41699abca9f8a96045f2488", func := "waypoint/waypointlaw20.EncodeExpand", spec := "encodeExpand", unfollowed := true, recurses := true, apart := false }
def EncodeExpandSaid : Prop := encodeExpandRow.holds Try.pinned (OpenSpec.ofChange encodeExpandSpec)

/-- ITS FALSE NEIGHBOUR: 'it returns false'. Refute it at one input. -/
def encodeExpandWrong : ChangeSpec := { name := "encodeExpand", fn := fun _ => fun
  | [d] => { results := [.lit (.bool false)], args := [d] }
  | _ => none }
def EncodeExpandWrongFalsely : Prop := encodeExpandRow.holds Try.pinned (OpenSpec.ofChange encodeExpandWrong)

/-- 'waypointlaw20.EncodeExact': WHATEVER THE INPUT: true; the input reads as it did. -/
def encodeExactSpec : ChangeSpec := { name := "encodeExact", fn := fun _ => fun
  | [d] => { results := [.lit (.bool true)], args := [d] }
  | _ => none }
def encodeExactRow : OpenClaim := { program := "ytogehfalhodapaa", sum := "eac8346f84866dcf9581fce69757c5a67ae43382b41699abca9f8a96045f2488", func := "waypoint/waypointlaw20.EncodeExact", spec := "encodeExact", unfollowed := true, recurses := true, apart := false }
def EncodeExactSaid : Prop := encodeExactRow.holds Try.pinned (OpenSpec.ofChange encodeExactSpec)

/-- ITS FALSE NEIGHBOUR: 'it returns false'. Refute it at one input. -/
def encodeExactWrong : ChangeSpec := { name := "encodeExact", fn := fun _ => fun
  | [d] => { results := [.lit (.bool false)], args := [d] }
  | _ => none }
def EncodeExactWrongFalsely : Prop := encodeExactRow.holds Try.pinned (OpenSpec.ofChange encodeExactWrong)

/-- 'waypointlaw20.EncodeOwn': WHATEVER THE INPUT: true; the input reads as it did. -/
def encodeOwnSpec : ChangeSpec := { name := "encodeOwn", fn := fun _ => fun
  | [d] => { results := [.lit (.bool true)], args := [d] }
  | _ => none }
def encodeOwnRow : OpenClaim := { program := "ytogehfalhodapaa", sum := "eac8346f84866dcf9581fce69757c5a67ae43382b41699abca9f8a96045f2488", func := "waypoint/waypointlaw20.EncodeOwn", spec := "encodeOwn", unfollowed := true, recurses := true, apart := false }
def EncodeOwnSaid : Prop := encodeOwnRow.holds Try.pinned (OpenSpec.ofChange encodeOwnSpec)

/-- ITS FALSE NEIGHBOUR: 'it returns false'. Refute it at one input. -/
def encodeOwnWrong : ChangeSpec := { name := "encodeOwn", fn := fun _ => fun
  | [d] => { results := [.lit (.bool false)], args := [d] }
  | _ => none }
def EncodeOwnWrongFalsely : Prop := encodeOwnRow.holds Try.pinned (OpenSpec.ofChange encodeOwnWrong)

/-- 'waypointlaw20.EncodeShorter': WHATEVER THE INPUT: true; the input reads as it did. -/
def encodeShorterSpec : ChangeSpec := { name := "encodeShorter", fn := fun _ => fun
  | [d] => { results := [.lit (.bool true)], args := [d] }
  | _ => none }
def encodeShorterRow : OpenClaim := { program := "ytogehfalhodapaa", sum := "eac8346f84866dcf9581fce69757c5a67ae43382b41699abca9f8a96045f2488", func := "waypoint/waypointlaw20.EncodeShorter", spec := "encodeShorter", unfollowed := true, recurses := true, apart := false }
def EncodeShorterSaid : Prop := encodeShorterRow.holds Try.pinned (OpenSpec.ofChange encodeShorterSpec)

/-- ITS FALSE NEIGHBOUR: 'it returns false'. Refute it at one input. -/
def encodeShorterWrong : ChangeSpec := { name := "encodeShorter", fn := fun _ => fun
  | [d] => { results := [.lit (.bool false)], args := [d] }
  | _ => none }
def EncodeShorterWrongFalsely : Prop := encodeShorterRow.holds Try.pinned (OpenSpec.ofChange encodeShorterWrong)

/-- 'waypointlaw20.EncodeJoined': WHATEVER THE INPUT: true; the input reads as it did. -/
def encodeJoinedSpec : ChangeSpec := { name := "encodeJoined", fn := fun _ => fun
  | [d1, d2] => { results := [.lit (.bool true)], args := [d1, d2] }
  | _ => none }
def encodeJoinedRow : OpenClaim := { program := "ytogehfalhodapaa", sum := "eac8346f84866dcf9581fce69757c5a67ae43382b41699abca9f8a96045f2488", func := "waypoint/waypointlaw20.EncodeJoined", spec := "encodeJoined", unfollowed := true, recurses := true, apart := false }
def EncodeJoinedSaid : Prop := encodeJoinedRow.holds Try.pinned (OpenSpec.ofChange encodeJoinedSpec)

/-- ITS FALSE NEIGHBOUR: 'it returns false'. Refute it at one input. -/
def encodeJoinedWrong : ChangeSpec := { name := "encodeJoined", fn := fun _ => fun
  | [d1, d2] => { results := [.lit (.bool false)], args := [d1, d2] }
  | _ => none }
def EncodeJoinedWrongFalsely : Prop := encodeJoinedRow.holds Try.pinned (OpenSpec.ofChange encodeJoinedWrong)

/- THE SECOND FORM. 'bulk': how many values and letters a reading holds, each counted each time it is reached (what is shared counts as often as it is met; a slice's spare places count too). A statement '..UptoSaid' is the law's where the arguments, and the package variables that the reading takes, are together of bulk at most 1048576: NARROWER than '..Said'. Prove '..Said' where nothing that the law and all that it calls make is longer than what came in: it says more and counts as full. Else prove '..UptoSaid'. A law counts once. -/
mutual
def uptoBulk {H : Type} : DataW H → Nat
  | .lit (.string bytes) => bytes.length + 1
  | .lit _ => 1
  | .nil => 1
  | .ptr d => uptoBulk d + 1
  | .slice elems spare => uptoBulkAll elems + uptoBulkAll spare + 1
  | .agg parts => uptoBulkAll parts + 1
  | .iface _ d => uptoBulk d + 1
  | .map entries => uptoBulkEntries entries + 1
  | .held _ => 1
def uptoBulkAll {H : Type} : List (DataW H) → Nat
  | [] => 0
  | d :: r => uptoBulk d + uptoBulkAll r
def uptoBulkEntries {H : Type} : List (Lit × DataW H) → Nat
  | [] => 0
  | x :: r => uptoBulkEntry x + uptoBulkEntries r
def uptoBulkEntry {H : Type} : Lit × DataW H → Nat
  | (.string bytes, d) => bytes.length + uptoBulk d + 1
  | (_, d) => uptoBulk d + 1
 end
def uptoSmall : (H : Type) → List (DataW H) → Bool := fun _ ds => decide (uptoBulkAll ds ≤ 1048576)
def OpenSpec.upto (s : _root_.Go.ChangeSpec) : _root_.Go.OpenSpec := { _root_.Go.OpenSpec.ofChange s with cond := some uptoSmall }

/-- 'waypointlaw20.EncodeList', WHERE WHAT IT READS IS OF BULK AT MOST 1048576: true; the input reads as it did. -/
def encodeListUptoRow : OpenClaim := { program := "ytogehfalhodapaa", sum := "eac8346f84866dcf9581fce69757c5a67ae43382b41699abca9f8a96045f2488", func := "waypoint/waypointlaw20.EncodeList", spec := "encodeList", unfollowed := true, recurses := true, apart := false, narrowed := true }
def EncodeListUptoSaid : Prop := encodeListUptoRow.holds Try.pinned (OpenSpec.upto encodeListSpec)

/-- 'waypointlaw20.EncodeUnique', WHERE WHAT IT READS IS OF BULK AT MOST 1048576: true; the input reads as it did. -/
def encodeUniqueUptoRow : OpenClaim := { program := "ytogehfalhodapaa", sum := "eac8346f84866dcf9581fce69757c5a67ae43382b41699abca9f8a96045f2488", func := "waypoint/waypointlaw20.EncodeUnique", spec := "encodeUnique", unfollowed := true, recurses := true, apart := false, narrowed := true }
def EncodeUniqueUptoSaid : Prop := encodeUniqueUptoRow.holds Try.pinned (OpenSpec.upto encodeUniqueSpec)

/-- 'waypointlaw20.EncodeLeast', WHERE WHAT IT READS IS OF BULK AT MOST 1048576: true; the input reads as it did. -/
def encodeLeastUptoRow : OpenClaim := { program := "ytogehfalhodapaa", sum := "eac8346f84866dcf9581fce69757c5a67ae43382b41699abca9f8a96045f2488", func := "waypoint/waypointlaw20.EncodeLeast", spec := "encodeLeast", unfollowed := true, recurses := true, apart := false, narrowed := true }
def EncodeLeastUptoSaid : Prop := encodeLeastUptoRow.holds Try.pinned (OpenSpec.upto encodeLeastSpec)

/-- 'waypointlaw20.EncodeExpand', WHERE WHAT IT READS IS OF BULK AT MOST 1048576: true; the input reads as it did. -/
def encodeExpandUptoRow : OpenClaim := { program := "ytogehfalhodapaa", sum := "eac8346f84866dcf9581fce69757c5a67ae43382b41699abca9f8a96045f2488", func := "waypoint/waypointlaw20.EncodeExpand", spec := "encodeExpand", unfollowed := true, recurses := true, apart := false, narrowed := true }
def EncodeExpandUptoSaid : Prop := encodeExpandUptoRow.holds Try.pinned (OpenSpec.upto encodeExpandSpec)

/-- 'waypointlaw20.EncodeExact', WHERE WHAT IT READS IS OF BULK AT MOST 1048576: true; the input reads as it did. -/
def encodeExactUptoRow : OpenClaim := { program := "ytogehfalhodapaa", sum := "eac8346f84866dcf9581fce69757c5a67ae43382b41699abca9f8a96045f2488", func := "waypoint/waypointlaw20.EncodeExact", spec := "encodeExact", unfollowed := true, recurses := true, apart := false, narrowed := true }
def EncodeExactUptoSaid : Prop := encodeExactUptoRow.holds Try.pinned (OpenSpec.upto encodeExactSpec)

/-- 'waypointlaw20.EncodeOwn', WHERE WHAT IT READS IS OF BULK AT MOST 1048576: true; the input reads as it did. -/
def encodeOwnUptoRow : OpenClaim := { program := "ytogehfalhodapaa", sum := "eac8346f84866dcf9581fce69757c5a67ae43382b41699abca9f8a96045f2488", func := "waypoint/waypointlaw20.EncodeOwn", spec := "encodeOwn", unfollowed := true, recurses := true, apart := false, narrowed := true }
def EncodeOwnUptoSaid : Prop := encodeOwnUptoRow.holds Try.pinned (OpenSpec.upto encodeOwnSpec)

/-- 'waypointlaw20.EncodeShorter', WHERE WHAT IT READS IS OF BULK AT MOST 1048576: true; the input reads as it did. -/
def encodeShorterUptoRow : OpenClaim := { program := "ytogehfalhodapaa", sum := "eac8346f84866dcf9581fce69757c5a67ae43382b41699abca9f8a96045f2488", func := "waypoint/waypointlaw20.EncodeShorter", spec := "encodeShorter", unfollowed := true, recurses := true, apart := false, narrowed := true }
def EncodeShorterUptoSaid : Prop := encodeShorterUptoRow.holds Try.pinned (OpenSpec.upto encodeShorterSpec)

/-- 'waypointlaw20.EncodeJoined', WHERE WHAT IT READS IS OF BULK AT MOST 1048576: true; the input reads as it did. -/
def encodeJoinedUptoRow : OpenClaim := { program := "ytogehfalhodapaa", sum := "eac8346f84866dcf9581fce69757c5a67ae43382b41699abca9f8a96045f2488", func := "waypoint/waypointlaw20.EncodeJoined", spec := "encodeJoined", unfollowed := true, recurses := true, apart := false, narrowed := true }
def EncodeJoinedUptoSaid : Prop := encodeJoinedUptoRow.holds Try.pinned (OpenSpec.upto encodeJoinedSpec)

end Rows
end Go.Proofs.Ytogehfalhodapaa
