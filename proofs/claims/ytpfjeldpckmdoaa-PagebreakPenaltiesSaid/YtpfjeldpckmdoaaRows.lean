/-
  No cell of these rows narrows 'for every input' (looked for: loops, veiled, ifaces, maps, wideKeys, modest, calm, conditions, laid).
  DERIVED. THE GIVEN ROWS OF THIS SEAT. 4 by the template 'for every input the law returns true; each argument reads behind the call as it read before'; 0 by the template 'total and deterministic' (their statements: YtpfjeldpckmdoaaTotals.lean).
  GIVEN WITH THE SEED: the statements are not yours to turn. If you find one false, say at which input.
  Laid BY PROGRAM, IN A SANDBOX (cutbox-rows.mjs): the forced cells as the released guide's own fill.sh prints them over the translation 4186a267d0b04fcd… (all of the seat's roots in one cut). By AI agents, Wed Nov 11 2026. No macro, syntax, notation, axiom, sorry.
-/
import Derived.Test.YtpfjeldpckmdoaaChecked
import GoSem.Claim
import GoSem.ClaimJoined
import GoSem.ClaimMapViews
import Derived.JoinedTies
import Derived.KernelRfl
namespace Go.Proofs.Ytpfjeldpckmdoaa
/- THE CELL 'sum', in the pinned program and in every row, IS THE sha256 OF THE DUMP (.gsa) THAT YtpfjeldpckmdoaaProg.lean LOADS. Nothing in Lean hashes anything: it is a label: what it is worth is what the hold of that sum in a sandbox is worth. -/
noncomputable def Try.pinned : Pinned := { name := "ytpfjeldpckmdoaa", sum := "4186a267d0b04fcdd5df4c877bd06951e7c2c35babef96232d74cab57f5f8816", checked := Try.checked }
namespace Rows
def none {H : Type} : Left H := { results := [], args := [] }

/-- 'apographlaw51.PagebreakHeights': WHATEVER THE INPUT: true; the input reads as it did. -/
def pagebreakHeightsSpec : ChangeSpec := { name := "pagebreakHeights", fn := fun _ => fun
  | [d1, d2, d3] => { results := [.lit (.bool true)], args := [d1, d2, d3] }
  | _ => none }
def pagebreakHeightsRow : OpenClaim := { program := "ytpfjeldpckmdoaa", sum := "4186a267d0b04fcdd5df4c877bd06951e7c2c35babef96232d74cab57f5f8816", func := "apograph/apographlaw51.PagebreakHeights", spec := "pagebreakHeights", unfollowed := true, recurses := true, apart := false }
def PagebreakHeightsSaid : Prop := pagebreakHeightsRow.holds Try.pinned (OpenSpec.ofChange pagebreakHeightsSpec)

/-- ITS FALSE NEIGHBOUR: 'it returns false'. Refute it at one input. -/
def pagebreakHeightsWrong : ChangeSpec := { name := "pagebreakHeights", fn := fun _ => fun
  | [d1, d2, d3] => { results := [.lit (.bool false)], args := [d1, d2, d3] }
  | _ => none }
def PagebreakHeightsWrongFalsely : Prop := pagebreakHeightsRow.holds Try.pinned (OpenSpec.ofChange pagebreakHeightsWrong)

/-- 'apographlaw51.PagebreakPages': WHATEVER THE INPUT: true; the input reads as it did. -/
def pagebreakPagesSpec : ChangeSpec := { name := "pagebreakPages", fn := fun _ => fun
  | [d] => { results := [.lit (.bool true)], args := [d] }
  | _ => none }
def pagebreakPagesRow : OpenClaim := { program := "ytpfjeldpckmdoaa", sum := "4186a267d0b04fcdd5df4c877bd06951e7c2c35babef96232d74cab57f5f8816", func := "apograph/apographlaw51.PagebreakPages", spec := "pagebreakPages", unfollowed := true, recurses := true, apart := false }
def PagebreakPagesSaid : Prop := pagebreakPagesRow.holds Try.pinned (OpenSpec.ofChange pagebreakPagesSpec)

/-- ITS FALSE NEIGHBOUR: 'it returns false'. Refute it at one input. -/
def pagebreakPagesWrong : ChangeSpec := { name := "pagebreakPages", fn := fun _ => fun
  | [d] => { results := [.lit (.bool false)], args := [d] }
  | _ => none }
def PagebreakPagesWrongFalsely : Prop := pagebreakPagesRow.holds Try.pinned (OpenSpec.ofChange pagebreakPagesWrong)

/-- 'apographlaw51.PagebreakPenalties': WHATEVER THE INPUT: true; the input reads as it did. -/
def pagebreakPenaltiesSpec : ChangeSpec := { name := "pagebreakPenalties", fn := fun _ => fun
  | [d1, d2, d3, d4] => { results := [.lit (.bool true)], args := [d1, d2, d3, d4] }
  | _ => none }
def pagebreakPenaltiesRow : OpenClaim := { program := "ytpfjeldpckmdoaa", sum := "4186a267d0b04fcdd5df4c877bd06951e7c2c35babef96232d74cab57f5f8816", func := "apograph/apographlaw51.PagebreakPenalties", spec := "pagebreakPenalties", unfollowed := true, recurses := true, apart := false }
def PagebreakPenaltiesSaid : Prop := pagebreakPenaltiesRow.holds Try.pinned (OpenSpec.ofChange pagebreakPenaltiesSpec)

/-- ITS FALSE NEIGHBOUR: 'it returns false'. Refute it at one input. -/
def pagebreakPenaltiesWrong : ChangeSpec := { name := "pagebreakPenalties", fn := fun _ => fun
  | [d1, d2, d3, d4] => { results := [.lit (.bool false)], args := [d1, d2, d3, d4] }
  | _ => none }
def PagebreakPenaltiesWrongFalsely : Prop := pagebreakPenaltiesRow.holds Try.pinned (OpenSpec.ofChange pagebreakPenaltiesWrong)

/-- 'apographlaw51.PagebreakNone': WHATEVER THE INPUT: true; the input reads as it did. -/
def pagebreakNoneSpec : ChangeSpec := { name := "pagebreakNone", fn := fun _ => fun
  | [d1, d2] => { results := [.lit (.bool true)], args := [d1, d2] }
  | _ => none }
def pagebreakNoneRow : OpenClaim := { program := "ytpfjeldpckmdoaa", sum := "4186a267d0b04fcdd5df4c877bd06951e7c2c35babef96232d74cab57f5f8816", func := "apograph/apographlaw51.PagebreakNone", spec := "pagebreakNone", unfollowed := true, recurses := true, apart := false }
def PagebreakNoneSaid : Prop := pagebreakNoneRow.holds Try.pinned (OpenSpec.ofChange pagebreakNoneSpec)

/-- ITS FALSE NEIGHBOUR: 'it returns false'. Refute it at one input. -/
def pagebreakNoneWrong : ChangeSpec := { name := "pagebreakNone", fn := fun _ => fun
  | [d1, d2] => { results := [.lit (.bool false)], args := [d1, d2] }
  | _ => none }
def PagebreakNoneWrongFalsely : Prop := pagebreakNoneRow.holds Try.pinned (OpenSpec.ofChange pagebreakNoneWrong)

/- THE SECOND FORM. 'bulk': how many values and letters a reading holds, each counted each time it is reached (what is shared counts as often as it is met; a slice's spare places count too). A statement '..UptoSaid' is the law's where the arguments, and the package variables that the reading takes, are together of bulk at most 1048576: NARROWER than '..Said'. Prove '..Said' where nothing that the law and all that it calls make is longer than what came in: it says more and counts as full. Else prove '..UptoSaid'. A law counts once. -/
mutual
def uptoBulk {H : Type} : DataW H → Nat
  | .lit (.string bytes) => bytes.length + 1
  | .lit _ => 1
  | .nil => 1
  | .ptr d => uptoBulk d + 1
  | .slice elems spare => uptoBulkAll elems + uptoBulkAll spare + 1
  | .agg parts => uptoBulkAll parts + 1
  | .iface _ d => uptoBulk d + 1
  | .map entries => uptoBulkEntries entries + 1
  | .held _ => 1
def uptoBulkAll {H : Type} : List (DataW H) → Nat
  | [] => 0
  | d :: r => uptoBulk d + uptoBulkAll r
def uptoBulkEntries {H : Type} : List (Lit × DataW H) → Nat
  | [] => 0
  | x :: r => uptoBulkEntry x + uptoBulkEntries r
def uptoBulkEntry {H : Type} : Lit × DataW H → Nat
  | (.string bytes, d) => bytes.length + uptoBulk d + 1
  | (_, d) => uptoBulk d + 1
 end
def uptoSmall : (H : Type) → List (DataW H) → Bool := fun _ ds => decide (uptoBulkAll ds ≤ 1048576)
def OpenSpec.upto (s : _root_.Go.ChangeSpec) : _root_.Go.OpenSpec := { _root_.Go.OpenSpec.ofChange s with cond := some uptoSmall }

/-- 'apographlaw51.PagebreakHeights', WHERE WHAT IT READS IS OF BULK AT MOST 1048576: true; the input reads as it did. -/
def pagebreakHeightsUptoRow : OpenClaim := { program := "ytpfjeldpckmdoaa", sum := "4186a267d0b04fcdd5df4c877bd06951e7c2c35babef96232d74cab57f5f8816", func := "apograph/apographlaw51.PagebreakHeights", spec := "pagebreakHeights", unfollowed := true, recurses := true, apart := false, narrowed := true }
def PagebreakHeightsUptoSaid : Prop := pagebreakHeightsUptoRow.holds Try.pinned (OpenSpec.upto pagebreakHeightsSpec)

/-- 'apographlaw51.PagebreakPages', WHERE WHAT IT READS IS OF BULK AT MOST 1048576: true; the input reads as it did. -/
def pagebreakPagesUptoRow : OpenClaim := { program := "ytpfjeldpckmdoaa", sum := "4186a267d0b04fcdd5df4c877bd06951e7c2c35babef96232d74cab57f5f8816", func := "apograph/apographlaw51.PagebreakPages", spec := "pagebreakPages", unfollowed := true, recurses := true, apart := false, narrowed := true }
def PagebreakPagesUptoSaid : Prop := pagebreakPagesUptoRow.holds Try.pinned (OpenSpec.upto pagebreakPagesSpec)

/-- 'apographlaw51.PagebreakPenalties', WHERE WHAT IT READS IS OF BULK AT MOST 1048576: true; the input reads as it did. -/
def pagebreakPenaltiesUptoRow : OpenClaim := { program := "ytpfjeldpckmdoaa", sum := "4186a267d0b04fcdd5df4c877bd06951e7c2c35babef96232d74cab57f5f8816", func := "apograph/apographlaw51.PagebreakPenalties", spec := "pagebreakPenalties", unfollowed := true, recurses := true, apart := false, narrowed := true }
def PagebreakPenaltiesUptoSaid : Prop := pagebreakPenaltiesUptoRow.holds Try.pinned (OpenSpec.upto pagebreakPenaltiesSpec)

/-- 'apographlaw51.PagebreakNone', WHERE WHAT IT READS IS OF BULK AT MOST 1048576: true; the input reads as it did. -/
def pagebreakNoneUptoRow : OpenClaim := { program := "ytpfjeldpckmdoaa", sum := "4186a267d0b04fcdd5df4c877bd06951e7c2c35babef96232d74cab57f5f8816", func := "apograph/apographlaw51.PagebreakNone", spec := "pagebreakNone", unfollowed := true, recurses := true, apart := false, narrowed := true }
def PagebreakNoneUptoSaid : Prop := pagebreakNoneUptoRow.holds Try.pinned (OpenSpec.upto pagebreakNoneSpec)

end Rows
end Go.Proofs.Ytpfjeldpckmdoaa
