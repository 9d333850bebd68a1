/-
  No cell of these rows narrows 'for every input' (looked for: loops, veiled, ifaces, maps, wideKeys, modest, calm, conditions, laid).
  DERIVED. THE GIVEN ROWS OF THIS SEAT. 7 by the template 'for every input the law returns true; each argument reads behind the call as it read before'; 0 by the template 'total and deterministic' (their statements: YtnlenhhmajecjaaTotals.lean).
  GIVEN WITH THE SEED: the statements are not yours to turn. If you find one false, say at which input.
  Laid BY PROGRAM, IN A SANDBOX (cutbox-rows.mjs): the forced cells as the released guide's own fill.sh prints them over the translation 64e713b44353557f… (all of the seat's roots in one cut). By AI agents, Wed Nov 11 2026. No macro, syntax, notation, axiom, sorry.
-/
import Derived.Test.YtnlenhhmajecjaaChecked
import GoSem.Claim
import GoSem.ClaimJoined
import GoSem.ClaimMapViews
import Derived.JoinedTies
import Derived.KernelRfl
namespace Go.Proofs.Ytnlenhhmajecjaa
/- THE CELL 'sum', in the pinned program and in every row, IS THE sha256 OF THE DUMP (.gsa) THAT YtnlenhhmajecjaaProg.lean LOADS. Nothing in Lean hashes anything: it is a label: what it is worth is what the hold of that sum in a sandbox is worth. -/
noncomputable def Try.pinned : Pinned := { name := "ytnlenhhmajecjaa", sum := "64e713b44353557fea191e35ff488155e517ebdc260166cf0b7a0a054fe59fff", checked := Try.checked }
namespace Rows
def none {H : Type} : Left H := { results := [], args := [] }

/-- 'apographlaw01.CharsetKinds': WHATEVER THE INPUT: true; the input reads as it did. -/
def charsetKindsSpec : ChangeSpec := { name := "charsetKinds", fn := fun _ => fun
  | [d1, d2] => { results := [.lit (.bool true)], args := [d1, d2] }
  | _ => none }
def charsetKindsRow : OpenClaim := { program := "ytnlenhhmajecjaa", sum := "64e713b44353557fea191e35ff488155e517ebdc260166cf0b7a0a054fe59fff", func := "apograph/apographlaw01.CharsetKinds", spec := "charsetKinds", inPlace := ["internal/bytealg.IndexByteString"], unfollowed := true, recurses := true, apart := false }
def CharsetKindsSaid : Prop := charsetKindsRow.holds Try.pinned (OpenSpec.ofChange charsetKindsSpec)

/-- ITS FALSE NEIGHBOUR: 'it returns false'. Refute it at one input. -/
def charsetKindsWrong : ChangeSpec := { name := "charsetKinds", fn := fun _ => fun
  | [d1, d2] => { results := [.lit (.bool false)], args := [d1, d2] }
  | _ => none }
def CharsetKindsWrongFalsely : Prop := charsetKindsRow.holds Try.pinned (OpenSpec.ofChange charsetKindsWrong)

/-- 'apographlaw01.CharsetForms': WHATEVER THE INPUT: true; the input reads as it did. -/
def charsetFormsSpec : ChangeSpec := { name := "charsetForms", fn := fun _ => fun
  | [d1, d2] => { results := [.lit (.bool true)], args := [d1, d2] }
  | _ => none }
def charsetFormsRow : OpenClaim := { program := "ytnlenhhmajecjaa", sum := "64e713b44353557fea191e35ff488155e517ebdc260166cf0b7a0a054fe59fff", func := "apograph/apographlaw01.CharsetForms", spec := "charsetForms", inPlace := ["internal/bytealg.IndexByteString"], unfollowed := true, recurses := true, apart := false }
def CharsetFormsSaid : Prop := charsetFormsRow.holds Try.pinned (OpenSpec.ofChange charsetFormsSpec)

/-- ITS FALSE NEIGHBOUR: 'it returns false'. Refute it at one input. -/
def charsetFormsWrong : ChangeSpec := { name := "charsetForms", fn := fun _ => fun
  | [d1, d2] => { results := [.lit (.bool false)], args := [d1, d2] }
  | _ => none }
def CharsetFormsWrongFalsely : Prop := charsetFormsRow.holds Try.pinned (OpenSpec.ofChange charsetFormsWrong)

/-- 'apographlaw01.CharsetAccepts': WHATEVER THE INPUT: true; the input reads as it did. -/
def charsetAcceptsSpec : ChangeSpec := { name := "charsetAccepts", fn := fun _ => fun
  | [d] => { results := [.lit (.bool true)], args := [d] }
  | _ => none }
def charsetAcceptsRow : OpenClaim := { program := "ytnlenhhmajecjaa", sum := "64e713b44353557fea191e35ff488155e517ebdc260166cf0b7a0a054fe59fff", func := "apograph/apographlaw01.CharsetAccepts", spec := "charsetAccepts", inPlace := ["internal/bytealg.IndexByteString"], unfollowed := true, recurses := true, apart := false }
def CharsetAcceptsSaid : Prop := charsetAcceptsRow.holds Try.pinned (OpenSpec.ofChange charsetAcceptsSpec)

/-- ITS FALSE NEIGHBOUR: 'it returns false'. Refute it at one input. -/
def charsetAcceptsWrong : ChangeSpec := { name := "charsetAccepts", fn := fun _ => fun
  | [d] => { results := [.lit (.bool false)], args := [d] }
  | _ => none }
def CharsetAcceptsWrongFalsely : Prop := charsetAcceptsRow.holds Try.pinned (OpenSpec.ofChange charsetAcceptsWrong)

/-- 'apographlaw01.CharsetShapes': WHATEVER THE INPUT: true; the input reads as it did. -/
def charsetShapesSpec : ChangeSpec := { name := "charsetShapes", fn := fun _ => fun
  | [d] => { results := [.lit (.bool true)], args := [d] }
  | _ => none }
def charsetShapesRow : OpenClaim := { program := "ytnlenhhmajecjaa", sum := "64e713b44353557fea191e35ff488155e517ebdc260166cf0b7a0a054fe59fff", func := "apograph/apographlaw01.CharsetShapes", spec := "charsetShapes", inPlace := ["internal/bytealg.IndexByteString"], unfollowed := true, recurses := true, apart := false }
def CharsetShapesSaid : Prop := charsetShapesRow.holds Try.pinned (OpenSpec.ofChange charsetShapesSpec)

/-- ITS FALSE NEIGHBOUR: 'it returns false'. Refute it at one input. -/
def charsetShapesWrong : ChangeSpec := { name := "charsetShapes", fn := fun _ => fun
  | [d] => { results := [.lit (.bool false)], args := [d] }
  | _ => none }
def CharsetShapesWrongFalsely : Prop := charsetShapesRow.holds Try.pinned (OpenSpec.ofChange charsetShapesWrong)

/-- 'apographlaw01.CharsetWords': WHATEVER THE INPUT: true; the input reads as it did. -/
def charsetWordsSpec : ChangeSpec := { name := "charsetWords", fn := fun _ => fun
  | [d1, d2] => { results := [.lit (.bool true)], args := [d1, d2] }
  | _ => none }
def charsetWordsRow : OpenClaim := { program := "ytnlenhhmajecjaa", sum := "64e713b44353557fea191e35ff488155e517ebdc260166cf0b7a0a054fe59fff", func := "apograph/apographlaw01.CharsetWords", spec := "charsetWords", inPlace := ["internal/bytealg.IndexByteString"], unfollowed := true, recurses := true, apart := false }
def CharsetWordsSaid : Prop := charsetWordsRow.holds Try.pinned (OpenSpec.ofChange charsetWordsSpec)

/-- ITS FALSE NEIGHBOUR: 'it returns false'. Refute it at one input. -/
def charsetWordsWrong : ChangeSpec := { name := "charsetWords", fn := fun _ => fun
  | [d1, d2] => { results := [.lit (.bool false)], args := [d1, d2] }
  | _ => none }
def CharsetWordsWrongFalsely : Prop := charsetWordsRow.holds Try.pinned (OpenSpec.ofChange charsetWordsWrong)

/-- 'apographlaw01.CharsetOrder': WHATEVER THE INPUT: true; the input reads as it did. -/
def charsetOrderSpec : ChangeSpec := { name := "charsetOrder", fn := fun _ => fun
  | [d1, d2, d3] => { results := [.lit (.bool true)], args := [d1, d2, d3] }
  | _ => none }
def charsetOrderRow : OpenClaim := { program := "ytnlenhhmajecjaa", sum := "64e713b44353557fea191e35ff488155e517ebdc260166cf0b7a0a054fe59fff", func := "apograph/apographlaw01.CharsetOrder", spec := "charsetOrder", inPlace := ["internal/bytealg.IndexByteString", "internal/bytealg.abigen_runtime_cmpstring"], unfollowed := true, recurses := true, apart := false }
def CharsetOrderSaid : Prop := charsetOrderRow.holds Try.pinned (OpenSpec.ofChange charsetOrderSpec)

/-- ITS FALSE NEIGHBOUR: 'it returns false'. Refute it at one input. -/
def charsetOrderWrong : ChangeSpec := { name := "charsetOrder", fn := fun _ => fun
  | [d1, d2, d3] => { results := [.lit (.bool false)], args := [d1, d2, d3] }
  | _ => none }
def CharsetOrderWrongFalsely : Prop := charsetOrderRow.holds Try.pinned (OpenSpec.ofChange charsetOrderWrong)

/-- 'apographlaw01.CharsetClusters': WHATEVER THE INPUT: true; the input reads as it did. -/
def charsetClustersSpec : ChangeSpec := { name := "charsetClusters", fn := fun _ => fun
  | [d] => { results := [.lit (.bool true)], args := [d] }
  | _ => none }
def charsetClustersRow : OpenClaim := { program := "ytnlenhhmajecjaa", sum := "64e713b44353557fea191e35ff488155e517ebdc260166cf0b7a0a054fe59fff", func := "apograph/apographlaw01.CharsetClusters", spec := "charsetClusters", inPlace := ["internal/bytealg.IndexByteString", "internal/abi.NoEscape", "internal/bytealg.MakeNoZero"], unfollowed := true, recurses := true, apart := false }
def CharsetClustersSaid : Prop := charsetClustersRow.holds Try.pinned (OpenSpec.ofChange charsetClustersSpec)

/-- ITS FALSE NEIGHBOUR: 'it returns false'. Refute it at one input. -/
def charsetClustersWrong : ChangeSpec := { name := "charsetClusters", fn := fun _ => fun
  | [d] => { results := [.lit (.bool false)], args := [d] }
  | _ => none }
def CharsetClustersWrongFalsely : Prop := charsetClustersRow.holds Try.pinned (OpenSpec.ofChange charsetClustersWrong)

/- THE SECOND FORM. 'bulk': how many values and letters a reading holds, each counted each time it is reached (what is shared counts as often as it is met; a slice's spare places count too). A statement '..UptoSaid' is the law's where the arguments, and the package variables that the reading takes, are together of bulk at most 1048576: NARROWER than '..Said'. Prove '..Said' where nothing that the law and all that it calls make is longer than what came in: it says more and counts as full. Else prove '..UptoSaid'. A law counts once. -/
mutual
def uptoBulk {H : Type} : DataW H → Nat
  | .lit (.string bytes) => bytes.length + 1
  | .lit _ => 1
  | .nil => 1
  | .ptr d => uptoBulk d + 1
  | .slice elems spare => uptoBulkAll elems + uptoBulkAll spare + 1
  | .agg parts => uptoBulkAll parts + 1
  | .iface _ d => uptoBulk d + 1
  | .map entries => uptoBulkEntries entries + 1
  | .held _ => 1
def uptoBulkAll {H : Type} : List (DataW H) → Nat
  | [] => 0
  | d :: r => uptoBulk d + uptoBulkAll r
def uptoBulkEntries {H : Type} : List (Lit × DataW H) → Nat
  | [] => 0
  | x :: r => uptoBulkEntry x + uptoBulkEntries r
def uptoBulkEntry {H : Type} : Lit × DataW H → Nat
  | (.string bytes, d) => bytes.length + uptoBulk d + 1
  | (_, d) => uptoBulk d + 1
 end
def uptoSmall : (H : Type) → List (DataW H) → Bool := fun _ ds => decide (uptoBulkAll ds ≤ 1048576)
def OpenSpec.upto (s : _root_.Go.ChangeSpec) : _root_.Go.OpenSpec := { _root_.Go.OpenSpec.ofChange s with cond := some uptoSmall }

/-- 'apographlaw01.CharsetKinds', WHERE WHAT IT READS IS OF BULK AT MOST 1048576: true; the input reads as it did. -/
def charsetKindsUptoRow : OpenClaim := { program := "ytnlenhhmajecjaa", sum := "64e713b44353557fea191e35ff488155e517ebdc260166cf0b7a0a054fe59fff", func := "apograph/apographlaw01.CharsetKinds", spec := "charsetKinds", inPlace := ["internal/bytealg.IndexByteString"], unfollowed := true, recurses := true, apart := false, narrowed := true }
def CharsetKindsUptoSaid : Prop := charsetKindsUptoRow.holds Try.pinned (OpenSpec.upto charsetKindsSpec)

/-- 'apographlaw01.CharsetForms', WHERE WHAT IT READS IS OF BULK AT MOST 1048576: true; the input reads as it did. -/
def charsetFormsUptoRow : OpenClaim := { program := "ytnlenhhmajecjaa", sum := "64e713b44353557fea191e35ff488155e517ebdc260166cf0b7a0a054fe59fff", func := "apograph/apographlaw01.CharsetForms", spec := "charsetForms", inPlace := ["internal/bytealg.IndexByteString"], unfollowed := true, recurses := true, apart := false, narrowed := true }
def CharsetFormsUptoSaid : Prop := charsetFormsUptoRow.holds Try.pinned (OpenSpec.upto charsetFormsSpec)

/-- 'apographlaw01.CharsetAccepts', WHERE WHAT IT READS IS OF BULK AT MOST 1048576: true; the input reads as it did. -/
def charsetAcceptsUptoRow : OpenClaim := { program := "ytnlenhhmajecjaa", sum := "64e713b44353557fea191e35ff488155e517ebdc260166cf0b7a0a054fe59fff", func := "apograph/apographlaw01.CharsetAccepts", spec := "charsetAccepts", inPlace := ["internal/bytealg.IndexByteString"], unfollowed := true, recurses := true, apart := false, narrowed := true }
def CharsetAcceptsUptoSaid : Prop := charsetAcceptsUptoRow.holds Try.pinned (OpenSpec.upto charsetAcceptsSpec)

/-- 'apographlaw01.CharsetShapes', WHERE WHAT IT READS IS OF BULK AT MOST 1048576: true; the input reads as it did. -/
def charsetShapesUptoRow : OpenClaim := { program := "ytnlenhhmajecjaa", sum := "64e713b44353557fea191e35ff488155e517ebdc260166cf0b7a0a054fe59fff", func := "apograph/apographlaw01.CharsetShapes", spec := "charsetShapes", inPlace := ["internal/bytealg.IndexByteString"], unfollowed := true, recurses := true, apart := false, narrowed := true }
def CharsetShapesUptoSaid : Prop := charsetShapesUptoRow.holds Try.pinned (OpenSpec.upto charsetShapesSpec)

/-- 'apographlaw01.CharsetWords', WHERE WHAT IT READS IS OF BULK AT MOST 1048576: true; the input reads as it did. -/
def charsetWordsUptoRow : OpenClaim := { program := "ytnlenhhmajecjaa", sum := "64e713b44353557fea191e35ff488155e517ebdc260166cf0b7a0a054fe59fff", func := "apograph/apographlaw01.CharsetWords", spec := "charsetWords", inPlace := ["internal/bytealg.IndexByteString"], unfollowed := true, recurses := true, apart := false, narrowed := true }
def CharsetWordsUptoSaid : Prop := charsetWordsUptoRow.holds Try.pinned (OpenSpec.upto charsetWordsSpec)

/-- 'apographlaw01.CharsetOrder', WHERE WHAT IT READS IS OF BULK AT MOST 1048576: true; the input reads as it did. -/
def charsetOrderUptoRow : OpenClaim := { program := "ytnlenhhmajecjaa", sum := "64e713b44353557fea191e35ff488155e517ebdc260166cf0b7a0a054fe59fff", func := "apograph/apographlaw01.CharsetOrder", spec := "charsetOrder", inPlace := ["internal/bytealg.IndexByteString", "internal/bytealg.abigen_runtime_cmpstring"], unfollowed := true, recurses := true, apart := false, narrowed := true }
def CharsetOrderUptoSaid : Prop := charsetOrderUptoRow.holds Try.pinned (OpenSpec.upto charsetOrderSpec)

/-- 'apographlaw01.CharsetClusters', WHERE WHAT IT READS IS OF BULK AT MOST 1048576: true; the input reads as it did. -/
def charsetClustersUptoRow : OpenClaim := { program := "ytnlenhhmajecjaa", sum := "64e713b44353557fea191e35ff488155e517ebdc260166cf0b7a0a054fe59fff", func := "apograph/apographlaw01.CharsetClusters", spec := "charsetClusters", inPlace := ["internal/bytealg.IndexByteString", "internal/abi.NoEscape", "internal/bytealg.MakeNoZero"], unfollowed := true, recurses := true, apart := false, narrowed := true }
def CharsetClustersUptoSaid : Prop := charsetClustersUptoRow.holds Try.pinned (OpenSpec.upto charsetClustersSpec)

end Rows
end Go.Proofs.Ytnlenhhmajecjaa
