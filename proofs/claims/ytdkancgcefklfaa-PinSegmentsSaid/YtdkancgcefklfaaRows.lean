/-
  No cell of these rows narrows 'for every input' (looked for: loops, veiled, ifaces, maps, wideKeys, modest, calm, conditions, laid).
  DERIVED. THE GIVEN ROWS OF THIS SEAT. 6 by the template 'for every input the law returns true; each argument reads behind the call as it read before'; 0 by the template 'total and deterministic' (their statements: YtdkancgcefklfaaTotals.lean).
  GIVEN WITH THE SEED: the statements are not yours to turn. If you find one false, say at which input.
  Laid BY PROGRAM, IN A SANDBOX (cutbox-rows.mjs): the forced cells as the released guide's own fill.sh prints them over the translation eca7c3ec5f73de6f… (all of the seat's roots in one cut). By AI agents, Wed Nov 11 2026. No macro, syntax, notation, axiom, sorry.
-/
import Derived.Test.YtdkancgcefklfaaChecked
import GoSem.Claim
import GoSem.ClaimJoined
import GoSem.ClaimMapViews
import Derived.JoinedTies
import Derived.KernelRfl
namespace Go.Proofs.Ytdkancgcefklfaa
/- THE CELL 'sum', in the pinned program and in every row, IS THE sha256 OF THE DUMP (.gsa) THAT YtdkancgcefklfaaProg.lean LOADS. Nothing in Lean hashes anything: it is a label: what it is worth is what the hold of that sum in a sandbox is worth. -/
noncomputable def Try.pinned : Pinned := { name := "ytdkancgcefklfaa", sum := "eca7c3ec5f73de6f6823fe4f531c9fa35d75be542016d83833d3c3cf52634306", checked := Try.checked }
namespace Rows
def none {H : Type} : Left H := { results := [], args := [] }

/-- 'syllabarylaw18.PinMatchesReference': WHATEVER THE INPUT: true; the input reads as it did. -/
def pinMatchesReferenceSpec : ChangeSpec := { name := "pinMatchesReference", fn := fun _ => fun
  | [d1, d2, d3] => { results := [.lit (.bool true)], args := [d1, d2, d3] }
  | _ => none }
def pinMatchesReferenceRow : OpenClaim := { program := "ytdkancgcefklfaa", sum := "eca7c3ec5f73de6f6823fe4f531c9fa35d75be542016d83833d3c3cf52634306", func := "syllabary/syllabarylaw18.PinMatchesReference", spec := "pinMatchesReference", inPlace := ["slices.overlaps[syllabary/api.Pin]"], unfollowed := true, recurses := true, apart := false }
def PinMatchesReferenceSaid : Prop := pinMatchesReferenceRow.holds Try.pinned (OpenSpec.ofChange pinMatchesReferenceSpec)

/-- ITS FALSE NEIGHBOUR: 'it returns false'. Refute it at one input. -/
def pinMatchesReferenceWrong : ChangeSpec := { name := "pinMatchesReference", fn := fun _ => fun
  | [d1, d2, d3] => { results := [.lit (.bool false)], args := [d1, d2, d3] }
  | _ => none }
def PinMatchesReferenceWrongFalsely : Prop := pinMatchesReferenceRow.holds Try.pinned (OpenSpec.ofChange pinMatchesReferenceWrong)

/-- 'syllabarylaw18.PinPuts': WHATEVER THE INPUT: true; the input reads as it did. -/
def pinPutsSpec : ChangeSpec := { name := "pinPuts", fn := fun _ => fun
  | [d1, d2, d3] => { results := [.lit (.bool true)], args := [d1, d2, d3] }
  | _ => none }
def pinPutsRow : OpenClaim := { program := "ytdkancgcefklfaa", sum := "eca7c3ec5f73de6f6823fe4f531c9fa35d75be542016d83833d3c3cf52634306", func := "syllabary/syllabarylaw18.PinPuts", spec := "pinPuts", inPlace := ["slices.overlaps[syllabary/api.Pin]"], unfollowed := true, recurses := true, apart := false }
def PinPutsSaid : Prop := pinPutsRow.holds Try.pinned (OpenSpec.ofChange pinPutsSpec)

/-- ITS FALSE NEIGHBOUR: 'it returns false'. Refute it at one input. -/
def pinPutsWrong : ChangeSpec := { name := "pinPuts", fn := fun _ => fun
  | [d1, d2, d3] => { results := [.lit (.bool false)], args := [d1, d2, d3] }
  | _ => none }
def PinPutsWrongFalsely : Prop := pinPutsRow.holds Try.pinned (OpenSpec.ofChange pinPutsWrong)

/-- 'syllabarylaw18.PinWays': WHATEVER THE INPUT: true; the input reads as it did. -/
def pinWaysSpec : ChangeSpec := { name := "pinWays", fn := fun _ => fun
  | [d1, d2, d3] => { results := [.lit (.bool true)], args := [d1, d2, d3] }
  | _ => none }
def pinWaysRow : OpenClaim := { program := "ytdkancgcefklfaa", sum := "eca7c3ec5f73de6f6823fe4f531c9fa35d75be542016d83833d3c3cf52634306", func := "syllabary/syllabarylaw18.PinWays", spec := "pinWays", inPlace := ["slices.overlaps[syllabary/api.Pin]"], unfollowed := true, recurses := true, apart := false }
def PinWaysSaid : Prop := pinWaysRow.holds Try.pinned (OpenSpec.ofChange pinWaysSpec)

/-- ITS FALSE NEIGHBOUR: 'it returns false'. Refute it at one input. -/
def pinWaysWrong : ChangeSpec := { name := "pinWays", fn := fun _ => fun
  | [d1, d2, d3] => { results := [.lit (.bool false)], args := [d1, d2, d3] }
  | _ => none }
def PinWaysWrongFalsely : Prop := pinWaysRow.holds Try.pinned (OpenSpec.ofChange pinWaysWrong)

/-- 'syllabarylaw18.PinRestricts': WHATEVER THE INPUT: true; the input reads as it did. -/
def pinRestrictsSpec : ChangeSpec := { name := "pinRestricts", fn := fun _ => fun
  | [d1, d2, d3] => { results := [.lit (.bool true)], args := [d1, d2, d3] }
  | _ => none }
def pinRestrictsRow : OpenClaim := { program := "ytdkancgcefklfaa", sum := "eca7c3ec5f73de6f6823fe4f531c9fa35d75be542016d83833d3c3cf52634306", func := "syllabary/syllabarylaw18.PinRestricts", spec := "pinRestricts", inPlace := ["slices.overlaps[syllabary/api.Pin]"], unfollowed := true, recurses := true, apart := false }
def PinRestrictsSaid : Prop := pinRestrictsRow.holds Try.pinned (OpenSpec.ofChange pinRestrictsSpec)

/-- ITS FALSE NEIGHBOUR: 'it returns false'. Refute it at one input. -/
def pinRestrictsWrong : ChangeSpec := { name := "pinRestricts", fn := fun _ => fun
  | [d1, d2, d3] => { results := [.lit (.bool false)], args := [d1, d2, d3] }
  | _ => none }
def PinRestrictsWrongFalsely : Prop := pinRestrictsRow.holds Try.pinned (OpenSpec.ofChange pinRestrictsWrong)

/-- 'syllabarylaw18.PinSlots': WHATEVER THE INPUT: true; the input reads as it did. -/
def pinSlotsSpec : ChangeSpec := { name := "pinSlots", fn := fun _ => fun
  | [d1, d2] => { results := [.lit (.bool true)], args := [d1, d2] }
  | _ => none }
def pinSlotsRow : OpenClaim := { program := "ytdkancgcefklfaa", sum := "eca7c3ec5f73de6f6823fe4f531c9fa35d75be542016d83833d3c3cf52634306", func := "syllabary/syllabarylaw18.PinSlots", spec := "pinSlots", inPlace := ["slices.overlaps[syllabary/api.Pin]"], unfollowed := true, recurses := true, apart := false }
def PinSlotsSaid : Prop := pinSlotsRow.holds Try.pinned (OpenSpec.ofChange pinSlotsSpec)

/-- ITS FALSE NEIGHBOUR: 'it returns false'. Refute it at one input. -/
def pinSlotsWrong : ChangeSpec := { name := "pinSlots", fn := fun _ => fun
  | [d1, d2] => { results := [.lit (.bool false)], args := [d1, d2] }
  | _ => none }
def PinSlotsWrongFalsely : Prop := pinSlotsRow.holds Try.pinned (OpenSpec.ofChange pinSlotsWrong)

/-- 'syllabarylaw18.PinSegments': WHATEVER THE INPUT: true; the input reads as it did. -/
def pinSegmentsSpec : ChangeSpec := { name := "pinSegments", fn := fun _ => fun
  | [d1, d2] => { results := [.lit (.bool true)], args := [d1, d2] }
  | _ => none }
def pinSegmentsRow : OpenClaim := { program := "ytdkancgcefklfaa", sum := "eca7c3ec5f73de6f6823fe4f531c9fa35d75be542016d83833d3c3cf52634306", func := "syllabary/syllabarylaw18.PinSegments", spec := "pinSegments", inPlace := ["slices.overlaps[syllabary/api.Pin]"], unfollowed := true, recurses := true, apart := false }
def PinSegmentsSaid : Prop := pinSegmentsRow.holds Try.pinned (OpenSpec.ofChange pinSegmentsSpec)

/-- ITS FALSE NEIGHBOUR: 'it returns false'. Refute it at one input. -/
def pinSegmentsWrong : ChangeSpec := { name := "pinSegments", fn := fun _ => fun
  | [d1, d2] => { results := [.lit (.bool false)], args := [d1, d2] }
  | _ => none }
def PinSegmentsWrongFalsely : Prop := pinSegmentsRow.holds Try.pinned (OpenSpec.ofChange pinSegmentsWrong)

/- THE SECOND FORM. 'bulk': how many values and letters a reading holds, each counted each time it is reached (what is shared counts as often as it is met; a slice's spare places count too). A statement '..UptoSaid' is the law's where the arguments, and the package variables that the reading takes, are together of bulk at most 1048576: NARROWER than '..Said'. Prove '..Said' where nothing that the law and all that it calls make is longer than what came in: it says more and counts as full. Else prove '..UptoSaid'. A law counts once. -/
mutual
def uptoBulk {H : Type} : DataW H → Nat
  | .lit (.string bytes) => bytes.length + 1
  | .lit _ => 1
  | .nil => 1
  | .ptr d => uptoBulk d + 1
  | .slice elems spare => uptoBulkAll elems + uptoBulkAll spare + 1
  | .agg parts => uptoBulkAll parts + 1
  | .iface _ d => uptoBulk d + 1
  | .map entries => uptoBulkEntries entries + 1
  | .held _ => 1
def uptoBulkAll {H : Type} : List (DataW H) → Nat
  | [] => 0
  | d :: r => uptoBulk d + uptoBulkAll r
def uptoBulkEntries {H : Type} : List (Lit × DataW H) → Nat
  | [] => 0
  | x :: r => uptoBulkEntry x + uptoBulkEntries r
def uptoBulkEntry {H : Type} : Lit × DataW H → Nat
  | (.string bytes, d) => bytes.length + uptoBulk d + 1
  | (_, d) => uptoBulk d + 1
 end
def uptoSmall : (H : Type) → List (DataW H) → Bool := fun _ ds => decide (uptoBulkAll ds ≤ 1048576)
def OpenSpec.upto (s : _root_.Go.ChangeSpec) : _root_.Go.OpenSpec := { _root_.Go.OpenSpec.ofChange s with cond := some uptoSmall }

/-- 'syllabarylaw18.PinMatchesReference', WHERE WHAT IT READS IS OF BULK AT MOST 1048576: true; the input reads as it did. -/
def pinMatchesReferenceUptoRow : OpenClaim := { program := "ytdkancgcefklfaa", sum := "eca7c3ec5f73de6f6823fe4f531c9fa35d75be542016d83833d3c3cf52634306", func := "syllabary/syllabarylaw18.PinMatchesReference", spec := "pinMatchesReference", inPlace := ["slices.overlaps[syllabary/api.Pin]"], unfollowed := true, recurses := true, apart := false, narrowed := true }
def PinMatchesReferenceUptoSaid : Prop := pinMatchesReferenceUptoRow.holds Try.pinned (OpenSpec.upto pinMatchesReferenceSpec)

/-- 'syllabarylaw18.PinPuts', WHERE WHAT IT READS IS OF BULK AT MOST 1048576: true; the input reads as it did. -/
def pinPutsUptoRow : OpenClaim := { program := "ytdkancgcefklfaa", sum := "eca7c3ec5f73de6f6823fe4f531c9fa35d75be542016d83833d3c3cf52634306", func := "syllabary/syllabarylaw18.PinPuts", spec := "pinPuts", inPlace := ["slices.overlaps[syllabary/api.Pin]"], unfollowed := true, recurses := true, apart := false, narrowed := true }
def PinPutsUptoSaid : Prop := pinPutsUptoRow.holds Try.pinned (OpenSpec.upto pinPutsSpec)

/-- 'syllabarylaw18.PinWays', WHERE WHAT IT READS IS OF BULK AT MOST 1048576: true; the input reads as it did. -/
def pinWaysUptoRow : OpenClaim := { program := "ytdkancgcefklfaa", sum := "eca7c3ec5f73de6f6823fe4f531c9fa35d75be542016d83833d3c3cf52634306", func := "syllabary/syllabarylaw18.PinWays", spec := "pinWays", inPlace := ["slices.overlaps[syllabary/api.Pin]"], unfollowed := true, recurses := true, apart := false, narrowed := true }
def PinWaysUptoSaid : Prop := pinWaysUptoRow.holds Try.pinned (OpenSpec.upto pinWaysSpec)

/-- 'syllabarylaw18.PinRestricts', WHERE WHAT IT READS IS OF BULK AT MOST 1048576: true; the input reads as it did. -/
def pinRestrictsUptoRow : OpenClaim := { program := "ytdkancgcefklfaa", sum := "eca7c3ec5f73de6f6823fe4f531c9fa35d75be542016d83833d3c3cf52634306", func := "syllabary/syllabarylaw18.PinRestricts", spec := "pinRestricts", inPlace := ["slices.overlaps[syllabary/api.Pin]"], unfollowed := true, recurses := true, apart := false, narrowed := true }
def PinRestrictsUptoSaid : Prop := pinRestrictsUptoRow.holds Try.pinned (OpenSpec.upto pinRestrictsSpec)

/-- 'syllabarylaw18.PinSlots', WHERE WHAT IT READS IS OF BULK AT MOST 1048576: true; the input reads as it did. -/
def pinSlotsUptoRow : OpenClaim := { program := "ytdkancgcefklfaa", sum := "eca7c3ec5f73de6f6823fe4f531c9fa35d75be542016d83833d3c3cf52634306", func := "syllabary/syllabarylaw18.PinSlots", spec := "pinSlots", inPlace := ["slices.overlaps[syllabary/api.Pin]"], unfollowed := true, recurses := true, apart := false, narrowed := true }
def PinSlotsUptoSaid : Prop := pinSlotsUptoRow.holds Try.pinned (OpenSpec.upto pinSlotsSpec)

/-- 'syllabarylaw18.PinSegments', WHERE WHAT IT READS IS OF BULK AT MOST 1048576: true; the input reads as it did. -/
def pinSegmentsUptoRow : OpenClaim := { program := "ytdkancgcefklfaa", sum := "eca7c3ec5f73de6f6823fe4f531c9fa35d75be542016d83833d3c3cf52634306", func := "syllabary/syllabarylaw18.PinSegments", spec := "pinSegments", inPlace := ["slices.overlaps[syllabary/api.Pin]"], unfollowed := true, recurses := true, apart := false, narrowed := true }
def PinSegmentsUptoSaid : Prop := pinSegmentsUptoRow.holds Try.pinned (OpenSpec.upto pinSegmentsSpec)

end Rows
end Go.Proofs.Ytdkancgcefklfaa
