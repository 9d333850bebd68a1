/-
  No cell of these rows narrows 'for every input' (looked for: loops, veiled, ifaces, maps, wideKeys, modest, calm, conditions, laid).
  DERIVED. THE GIVEN ROWS OF THIS SEAT. 9 by the template 'for every input the law returns true; each argument reads behind the call as it read before'; 0 by the template 'total and deterministic' (their statements: YtmmcdncaiedmgaaTotals.lean).
  GIVEN WITH THE SEED: the statements are not yours to turn. If you find one false, say at which input.
  Laid BY PROGRAM, IN A SANDBOX (cutbox-rows.mjs): the forced cells as the released guide's own fill.sh prints them over the translation 29cce69e5b76a309… (all of the seat's roots in one cut). By AI agents, Wed Nov 11 2026. No macro, syntax, notation, axiom, sorry.
-/
import Derived.Test.YtmmcdncaiedmgaaChecked
import GoSem.Claim
import GoSem.ClaimJoined
import GoSem.ClaimMapViews
import Derived.JoinedTies
import Derived.KernelRfl
namespace Go.Proofs.Ytmmcdncaiedmgaa
/- THE CELL 'sum', in the pinned program and in every row, IS THE sha256 OF THE DUMP (.gsa) THAT YtmmcdncaiedmgaaProg.lean LOADS. Nothing in Lean hashes anything: it is a label: what it is worth is what the hold of that sum in a sandbox is worth. -/
noncomputable def Try.pinned : Pinned := { name := "ytmmcdncaiedmgaa", sum := "29cce69e5b76a30947010089bc0de2ddd71853c354048d1b5f70a54d28f8bdc9", checked := Try.checked }
namespace Rows
def none {H : Type} : Left H := { results := [], args := [] }

/-- 'apographlaw03.EditdistanceMetric': WHATEVER THE INPUT: true; the input reads as it did. -/
def editdistanceMetricSpec : ChangeSpec := { name := "editdistanceMetric", fn := fun _ => fun
  | [d1, d2, d3] => { results := [.lit (.bool true)], args := [d1, d2, d3] }
  | _ => none }
def editdistanceMetricRow : OpenClaim := { program := "ytmmcdncaiedmgaa", sum := "29cce69e5b76a30947010089bc0de2ddd71853c354048d1b5f70a54d28f8bdc9", func := "apograph/apographlaw03.EditdistanceMetric", spec := "editdistanceMetric", unfollowed := true, recurses := true, apart := false }
def EditdistanceMetricSaid : Prop := editdistanceMetricRow.holds Try.pinned (OpenSpec.ofChange editdistanceMetricSpec)

/-- ITS FALSE NEIGHBOUR: 'it returns false'. Refute it at one input. -/
def editdistanceMetricWrong : ChangeSpec := { name := "editdistanceMetric", fn := fun _ => fun
  | [d1, d2, d3] => { results := [.lit (.bool false)], args := [d1, d2, d3] }
  | _ => none }
def EditdistanceMetricWrongFalsely : Prop := editdistanceMetricRow.holds Try.pinned (OpenSpec.ofChange editdistanceMetricWrong)

/-- 'apographlaw03.EditdistanceBytes': WHATEVER THE INPUT: true; the input reads as it did. -/
def editdistanceBytesSpec : ChangeSpec := { name := "editdistanceBytes", fn := fun _ => fun
  | [d1, d2] => { results := [.lit (.bool true)], args := [d1, d2] }
  | _ => none }
def editdistanceBytesRow : OpenClaim := { program := "ytmmcdncaiedmgaa", sum := "29cce69e5b76a30947010089bc0de2ddd71853c354048d1b5f70a54d28f8bdc9", func := "apograph/apographlaw03.EditdistanceBytes", spec := "editdistanceBytes", unfollowed := true, recurses := true, apart := false }
def EditdistanceBytesSaid : Prop := editdistanceBytesRow.holds Try.pinned (OpenSpec.ofChange editdistanceBytesSpec)

/-- ITS FALSE NEIGHBOUR: 'it returns false'. Refute it at one input. -/
def editdistanceBytesWrong : ChangeSpec := { name := "editdistanceBytes", fn := fun _ => fun
  | [d1, d2] => { results := [.lit (.bool false)], args := [d1, d2] }
  | _ => none }
def EditdistanceBytesWrongFalsely : Prop := editdistanceBytesRow.holds Try.pinned (OpenSpec.ofChange editdistanceBytesWrong)

/-- 'apographlaw03.EditdistanceStrings': WHATEVER THE INPUT: true; the input reads as it did. -/
def editdistanceStringsSpec : ChangeSpec := { name := "editdistanceStrings", fn := fun _ => fun
  | [d1, d2, d3] => { results := [.lit (.bool true)], args := [d1, d2, d3] }
  | _ => none }
def editdistanceStringsRow : OpenClaim := { program := "ytmmcdncaiedmgaa", sum := "29cce69e5b76a30947010089bc0de2ddd71853c354048d1b5f70a54d28f8bdc9", func := "apograph/apographlaw03.EditdistanceStrings", spec := "editdistanceStrings", unfollowed := true, recurses := true, apart := false }
def EditdistanceStringsSaid : Prop := editdistanceStringsRow.holds Try.pinned (OpenSpec.ofChange editdistanceStringsSpec)

/-- ITS FALSE NEIGHBOUR: 'it returns false'. Refute it at one input. -/
def editdistanceStringsWrong : ChangeSpec := { name := "editdistanceStrings", fn := fun _ => fun
  | [d1, d2, d3] => { results := [.lit (.bool false)], args := [d1, d2, d3] }
  | _ => none }
def EditdistanceStringsWrongFalsely : Prop := editdistanceStringsRow.holds Try.pinned (OpenSpec.ofChange editdistanceStringsWrong)

/-- 'apographlaw03.EditdistanceBounds': WHATEVER THE INPUT: true; the input reads as it did. -/
def editdistanceBoundsSpec : ChangeSpec := { name := "editdistanceBounds", fn := fun _ => fun
  | [d1, d2, d3] => { results := [.lit (.bool true)], args := [d1, d2, d3] }
  | _ => none }
def editdistanceBoundsRow : OpenClaim := { program := "ytmmcdncaiedmgaa", sum := "29cce69e5b76a30947010089bc0de2ddd71853c354048d1b5f70a54d28f8bdc9", func := "apograph/apographlaw03.EditdistanceBounds", spec := "editdistanceBounds", unfollowed := true, recurses := true, apart := false }
def EditdistanceBoundsSaid : Prop := editdistanceBoundsRow.holds Try.pinned (OpenSpec.ofChange editdistanceBoundsSpec)

/-- ITS FALSE NEIGHBOUR: 'it returns false'. Refute it at one input. -/
def editdistanceBoundsWrong : ChangeSpec := { name := "editdistanceBounds", fn := fun _ => fun
  | [d1, d2, d3] => { results := [.lit (.bool false)], args := [d1, d2, d3] }
  | _ => none }
def EditdistanceBoundsWrongFalsely : Prop := editdistanceBoundsRow.holds Try.pinned (OpenSpec.ofChange editdistanceBoundsWrong)

/-- 'apographlaw03.EditdistanceScripts': WHATEVER THE INPUT: true; the input reads as it did. -/
def editdistanceScriptsSpec : ChangeSpec := { name := "editdistanceScripts", fn := fun _ => fun
  | [d1, d2] => { results := [.lit (.bool true)], args := [d1, d2] }
  | _ => none }
def editdistanceScriptsRow : OpenClaim := { program := "ytmmcdncaiedmgaa", sum := "29cce69e5b76a30947010089bc0de2ddd71853c354048d1b5f70a54d28f8bdc9", func := "apograph/apographlaw03.EditdistanceScripts", spec := "editdistanceScripts", unfollowed := true, recurses := true, apart := false }
def EditdistanceScriptsSaid : Prop := editdistanceScriptsRow.holds Try.pinned (OpenSpec.ofChange editdistanceScriptsSpec)

/-- ITS FALSE NEIGHBOUR: 'it returns false'. Refute it at one input. -/
def editdistanceScriptsWrong : ChangeSpec := { name := "editdistanceScripts", fn := fun _ => fun
  | [d1, d2] => { results := [.lit (.bool false)], args := [d1, d2] }
  | _ => none }
def EditdistanceScriptsWrongFalsely : Prop := editdistanceScriptsRow.holds Try.pinned (OpenSpec.ofChange editdistanceScriptsWrong)

/-- 'apographlaw03.EditdistanceApplied': WHATEVER THE INPUT: true; the input reads as it did. -/
def editdistanceAppliedSpec : ChangeSpec := { name := "editdistanceApplied", fn := fun _ => fun
  | [d1, d2] => { results := [.lit (.bool true)], args := [d1, d2] }
  | _ => none }
def editdistanceAppliedRow : OpenClaim := { program := "ytmmcdncaiedmgaa", sum := "29cce69e5b76a30947010089bc0de2ddd71853c354048d1b5f70a54d28f8bdc9", func := "apograph/apographlaw03.EditdistanceApplied", spec := "editdistanceApplied", unfollowed := true, recurses := true, apart := false }
def EditdistanceAppliedSaid : Prop := editdistanceAppliedRow.holds Try.pinned (OpenSpec.ofChange editdistanceAppliedSpec)

/-- ITS FALSE NEIGHBOUR: 'it returns false'. Refute it at one input. -/
def editdistanceAppliedWrong : ChangeSpec := { name := "editdistanceApplied", fn := fun _ => fun
  | [d1, d2] => { results := [.lit (.bool false)], args := [d1, d2] }
  | _ => none }
def EditdistanceAppliedWrongFalsely : Prop := editdistanceAppliedRow.holds Try.pinned (OpenSpec.ofChange editdistanceAppliedWrong)

/-- 'apographlaw03.EditdistanceLists': WHATEVER THE INPUT: true; the input reads as it did. -/
def editdistanceListsSpec : ChangeSpec := { name := "editdistanceLists", fn := fun _ => fun
  | [d1, d2, d3, d4] => { results := [.lit (.bool true)], args := [d1, d2, d3, d4] }
  | _ => none }
def editdistanceListsRow : OpenClaim := { program := "ytmmcdncaiedmgaa", sum := "29cce69e5b76a30947010089bc0de2ddd71853c354048d1b5f70a54d28f8bdc9", func := "apograph/apographlaw03.EditdistanceLists", spec := "editdistanceLists", unfollowed := true, recurses := true, apart := false }
def EditdistanceListsSaid : Prop := editdistanceListsRow.holds Try.pinned (OpenSpec.ofChange editdistanceListsSpec)

/-- ITS FALSE NEIGHBOUR: 'it returns false'. Refute it at one input. -/
def editdistanceListsWrong : ChangeSpec := { name := "editdistanceLists", fn := fun _ => fun
  | [d1, d2, d3, d4] => { results := [.lit (.bool false)], args := [d1, d2, d3, d4] }
  | _ => none }
def EditdistanceListsWrongFalsely : Prop := editdistanceListsRow.holds Try.pinned (OpenSpec.ofChange editdistanceListsWrong)

/-- 'apographlaw03.EditdistanceCommon': WHATEVER THE INPUT: true; the input reads as it did. -/
def editdistanceCommonSpec : ChangeSpec := { name := "editdistanceCommon", fn := fun _ => fun
  | [d1, d2, d3] => { results := [.lit (.bool true)], args := [d1, d2, d3] }
  | _ => none }
def editdistanceCommonRow : OpenClaim := { program := "ytmmcdncaiedmgaa", sum := "29cce69e5b76a30947010089bc0de2ddd71853c354048d1b5f70a54d28f8bdc9", func := "apograph/apographlaw03.EditdistanceCommon", spec := "editdistanceCommon", unfollowed := true, recurses := true, apart := false }
def EditdistanceCommonSaid : Prop := editdistanceCommonRow.holds Try.pinned (OpenSpec.ofChange editdistanceCommonSpec)

/-- ITS FALSE NEIGHBOUR: 'it returns false'. Refute it at one input. -/
def editdistanceCommonWrong : ChangeSpec := { name := "editdistanceCommon", fn := fun _ => fun
  | [d1, d2, d3] => { results := [.lit (.bool false)], args := [d1, d2, d3] }
  | _ => none }
def EditdistanceCommonWrongFalsely : Prop := editdistanceCommonRow.holds Try.pinned (OpenSpec.ofChange editdistanceCommonWrong)

/-- 'apographlaw03.EditdistanceParts': WHATEVER THE INPUT: true; the input reads as it did. -/
def editdistancePartsSpec : ChangeSpec := { name := "editdistanceParts", fn := fun _ => fun
  | [d1, d2, d3, d4] => { results := [.lit (.bool true)], args := [d1, d2, d3, d4] }
  | _ => none }
def editdistancePartsRow : OpenClaim := { program := "ytmmcdncaiedmgaa", sum := "29cce69e5b76a30947010089bc0de2ddd71853c354048d1b5f70a54d28f8bdc9", func := "apograph/apographlaw03.EditdistanceParts", spec := "editdistanceParts", inPlace := ["internal/bytealg.IndexByteString", "internal/bytealg.IndexString"], unfollowed := true, recurses := true, named := ["internal/bytealg.MaxLen"], apart := false }
def EditdistancePartsSaid : Prop := editdistancePartsRow.holds Try.pinned (OpenSpec.ofChange editdistancePartsSpec)

/-- ITS FALSE NEIGHBOUR: 'it returns false'. Refute it at one input. -/
def editdistancePartsWrong : ChangeSpec := { name := "editdistanceParts", fn := fun _ => fun
  | [d1, d2, d3, d4] => { results := [.lit (.bool false)], args := [d1, d2, d3, d4] }
  | _ => none }
def EditdistancePartsWrongFalsely : Prop := editdistancePartsRow.holds Try.pinned (OpenSpec.ofChange editdistancePartsWrong)

/- THE SECOND FORM. 'bulk': how many values and letters a reading holds, each counted each time it is reached (what is shared counts as often as it is met; a slice's spare places count too). A statement '..UptoSaid' is the law's where the arguments, and the package variables that the reading takes, are together of bulk at most 1048576: NARROWER than '..Said'. Prove '..Said' where nothing that the law and all that it calls make is longer than what came in: it says more and counts as full. Else prove '..UptoSaid'. A law counts once. -/
mutual
def uptoBulk {H : Type} : DataW H → Nat
  | .lit (.string bytes) => bytes.length + 1
  | .lit _ => 1
  | .nil => 1
  | .ptr d => uptoBulk d + 1
  | .slice elems spare => uptoBulkAll elems + uptoBulkAll spare + 1
  | .agg parts => uptoBulkAll parts + 1
  | .iface _ d => uptoBulk d + 1
  | .map entries => uptoBulkEntries entries + 1
  | .held _ => 1
def uptoBulkAll {H : Type} : List (DataW H) → Nat
  | [] => 0
  | d :: r => uptoBulk d + uptoBulkAll r
def uptoBulkEntries {H : Type} : List (Lit × DataW H) → Nat
  | [] => 0
  | x :: r => uptoBulkEntry x + uptoBulkEntries r
def uptoBulkEntry {H : Type} : Lit × DataW H → Nat
  | (.string bytes, d) => bytes.length + uptoBulk d + 1
  | (_, d) => uptoBulk d + 1
 end
def uptoSmall : (H : Type) → List (DataW H) → Bool := fun _ ds => decide (uptoBulkAll ds ≤ 1048576)
def OpenSpec.upto (s : _root_.Go.ChangeSpec) : _root_.Go.OpenSpec := { _root_.Go.OpenSpec.ofChange s with cond := some uptoSmall }

/-- 'apographlaw03.EditdistanceMetric', WHERE WHAT IT READS IS OF BULK AT MOST 1048576: true; the input reads as it did. -/
def editdistanceMetricUptoRow : OpenClaim := { program := "ytmmcdncaiedmgaa", sum := "29cce69e5b76a30947010089bc0de2ddd71853c354048d1b5f70a54d28f8bdc9", func := "apograph/apographlaw03.EditdistanceMetric", spec := "editdistanceMetric", unfollowed := true, recurses := true, apart := false, narrowed := true }
def EditdistanceMetricUptoSaid : Prop := editdistanceMetricUptoRow.holds Try.pinned (OpenSpec.upto editdistanceMetricSpec)

/-- 'apographlaw03.EditdistanceBytes', WHERE WHAT IT READS IS OF BULK AT MOST 1048576: true; the input reads as it did. -/
def editdistanceBytesUptoRow : OpenClaim := { program := "ytmmcdncaiedmgaa", sum := "29cce69e5b76a30947010089bc0de2ddd71853c354048d1b5f70a54d28f8bdc9", func := "apograph/apographlaw03.EditdistanceBytes", spec := "editdistanceBytes", unfollowed := true, recurses := true, apart := false, narrowed := true }
def EditdistanceBytesUptoSaid : Prop := editdistanceBytesUptoRow.holds Try.pinned (OpenSpec.upto editdistanceBytesSpec)

/-- 'apographlaw03.EditdistanceStrings', WHERE WHAT IT READS IS OF BULK AT MOST 1048576: true; the input reads as it did. -/
def editdistanceStringsUptoRow : OpenClaim := { program := "ytmmcdncaiedmgaa", sum := "29cce69e5b76a30947010089bc0de2ddd71853c354048d1b5f70a54d28f8bdc9", func := "apograph/apographlaw03.EditdistanceStrings", spec := "editdistanceStrings", unfollowed := true, recurses := true, apart := false, narrowed := true }
def EditdistanceStringsUptoSaid : Prop := editdistanceStringsUptoRow.holds Try.pinned (OpenSpec.upto editdistanceStringsSpec)

/-- 'apographlaw03.EditdistanceBounds', WHERE WHAT IT READS IS OF BULK AT MOST 1048576: true; the input reads as it did. -/
def editdistanceBoundsUptoRow : OpenClaim := { program := "ytmmcdncaiedmgaa", sum := "29cce69e5b76a30947010089bc0de2ddd71853c354048d1b5f70a54d28f8bdc9", func := "apograph/apographlaw03.EditdistanceBounds", spec := "editdistanceBounds", unfollowed := true, recurses := true, apart := false, narrowed := true }
def EditdistanceBoundsUptoSaid : Prop := editdistanceBoundsUptoRow.holds Try.pinned (OpenSpec.upto editdistanceBoundsSpec)

/-- 'apographlaw03.EditdistanceScripts', WHERE WHAT IT READS IS OF BULK AT MOST 1048576: true; the input reads as it did. -/
def editdistanceScriptsUptoRow : OpenClaim := { program := "ytmmcdncaiedmgaa", sum := "29cce69e5b76a30947010089bc0de2ddd71853c354048d1b5f70a54d28f8bdc9", func := "apograph/apographlaw03.EditdistanceScripts", spec := "editdistanceScripts", unfollowed := true, recurses := true, apart := false, narrowed := true }
def EditdistanceScriptsUptoSaid : Prop := editdistanceScriptsUptoRow.holds Try.pinned (OpenSpec.upto editdistanceScriptsSpec)

/-- 'apographlaw03.EditdistanceApplied', WHERE WHAT IT READS IS OF BULK AT MOST 1048576: true; the input reads as it did. -/
def editdistanceAppliedUptoRow : OpenClaim := { program := "ytmmcdncaiedmgaa", sum := "29cce69e5b76a30947010089bc0de2ddd71853c354048d1b5f70a54d28f8bdc9", func := "apograph/apographlaw03.EditdistanceApplied", spec := "editdistanceApplied", unfollowed := true, recurses := true, apart := false, narrowed := true }
def EditdistanceAppliedUptoSaid : Prop := editdistanceAppliedUptoRow.holds Try.pinned (OpenSpec.upto editdistanceAppliedSpec)

/-- 'apographlaw03.EditdistanceLists', WHERE WHAT IT READS IS OF BULK AT MOST 1048576: true; the input reads as it did. -/
def editdistanceListsUptoRow : OpenClaim := { program := "ytmmcdncaiedmgaa", sum := "29cce69e5b76a30947010089bc0de2ddd71853c354048d1b5f70a54d28f8bdc9", func := "apograph/apographlaw03.EditdistanceLists", spec := "editdistanceLists", unfollowed := true, recurses := true, apart := false, narrowed := true }
def EditdistanceListsUptoSaid : Prop := editdistanceListsUptoRow.holds Try.pinned (OpenSpec.upto editdistanceListsSpec)

/-- 'apographlaw03.EditdistanceCommon', WHERE WHAT IT READS IS OF BULK AT MOST 1048576: true; the input reads as it did. -/
def editdistanceCommonUptoRow : OpenClaim := { program := "ytmmcdncaiedmgaa", sum := "29cce69e5b76a30947010089bc0de2ddd71853c354048d1b5f70a54d28f8bdc9", func := "apograph/apographlaw03.EditdistanceCommon", spec := "editdistanceCommon", unfollowed := true, recurses := true, apart := false, narrowed := true }
def EditdistanceCommonUptoSaid : Prop := editdistanceCommonUptoRow.holds Try.pinned (OpenSpec.upto editdistanceCommonSpec)

/-- 'apographlaw03.EditdistanceParts', WHERE WHAT IT READS IS OF BULK AT MOST 1048576: true; the input reads as it did. -/
def editdistancePartsUptoRow : OpenClaim := { program := "ytmmcdncaiedmgaa", sum := "29cce69e5b76a30947010089bc0de2ddd71853c354048d1b5f70a54d28f8bdc9", func := "apograph/apographlaw03.EditdistanceParts", spec := "editdistanceParts", inPlace := ["internal/bytealg.IndexByteString", "internal/bytealg.IndexString"], unfollowed := true, recurses := true, named := ["internal/bytealg.MaxLen"], apart := false, narrowed := true }
def EditdistancePartsUptoSaid : Prop := editdistancePartsUptoRow.holds Try.pinned (OpenSpec.upto editdistancePartsSpec)

end Rows
end Go.Proofs.Ytmmcdncaiedmgaa
