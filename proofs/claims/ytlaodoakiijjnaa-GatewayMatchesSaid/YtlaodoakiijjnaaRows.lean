/-
  No cell of these rows narrows 'for every input' (looked for: loops, veiled, ifaces, maps, wideKeys, modest, calm, conditions, laid).
  DERIVED. THE GIVEN ROWS OF THIS SEAT. 7 by the template 'for every input the law returns true; each argument reads behind the call as it read before'; 0 by the template 'total and deterministic' (their statements: YtlaodoakiijjnaaTotals.lean).
  GIVEN WITH THE SEED: the statements are not yours to turn. If you find one false, say at which input.
  Laid BY PROGRAM, IN A SANDBOX (cutbox-rows.mjs): the forced cells as the released guide's own fill.sh prints them over the translation 430a2a50efe81e8c… (all of the seat's roots in one cut). By AI agents, Wed Nov 11 2026. No macro, syntax, notation, axiom, sorry.
-/
import Derived.Test.YtlaodoakiijjnaaChecked
import GoSem.Claim
import GoSem.ClaimJoined
import GoSem.ClaimMapViews
import Derived.JoinedTies
import Derived.KernelRfl
namespace Go.Proofs.Ytlaodoakiijjnaa
/- THE CELL 'sum', in the pinned program and in every row, IS THE sha256 OF THE DUMP (.gsa) THAT YtlaodoakiijjnaaProg.lean LOADS. Nothing in Lean hashes anything: it is a label: what it is worth is what the hold of that sum in a sandbox is worth. -/
noncomputable def Try.pinned : Pinned := { name := "ytlaodoakiijjnaa", sum := "430a2a50efe81e8c2a923615ea9d6ec69a7af85779b517a72057ca8b1280b2da", checked := Try.checked }
namespace Rows
def none {H : Type} : Left H := { results := [], args := [] }

/-- 'tricklelaw46.GatewayInOrder': WHATEVER THE INPUT: true; the input reads as it did. -/
def gatewayInOrderSpec : ChangeSpec := { name := "gatewayInOrder", fn := fun _ => fun
  | [d1, d2] => { results := [.lit (.bool true)], args := [d1, d2] }
  | _ => none }
def gatewayInOrderRow : OpenClaim := { program := "ytlaodoakiijjnaa", sum := "430a2a50efe81e8c2a923615ea9d6ec69a7af85779b517a72057ca8b1280b2da", func := "trickle/tricklelaw46.GatewayInOrder", spec := "gatewayInOrder", unfollowed := true, recurses := true, apart := false }
def GatewayInOrderSaid : Prop := gatewayInOrderRow.holds Try.pinned (OpenSpec.ofChange gatewayInOrderSpec)

/-- ITS FALSE NEIGHBOUR: 'it returns false'. Refute it at one input. -/
def gatewayInOrderWrong : ChangeSpec := { name := "gatewayInOrder", fn := fun _ => fun
  | [d1, d2] => { results := [.lit (.bool false)], args := [d1, d2] }
  | _ => none }
def GatewayInOrderWrongFalsely : Prop := gatewayInOrderRow.holds Try.pinned (OpenSpec.ofChange gatewayInOrderWrong)

/-- 'tricklelaw46.GatewayEventually': WHATEVER THE INPUT: true; the input reads as it did. -/
def gatewayEventuallySpec : ChangeSpec := { name := "gatewayEventually", fn := fun _ => fun
  | [d1, d2] => { results := [.lit (.bool true)], args := [d1, d2] }
  | _ => none }
def gatewayEventuallyRow : OpenClaim := { program := "ytlaodoakiijjnaa", sum := "430a2a50efe81e8c2a923615ea9d6ec69a7af85779b517a72057ca8b1280b2da", func := "trickle/tricklelaw46.GatewayEventually", spec := "gatewayEventually", unfollowed := true, recurses := true, apart := false }
def GatewayEventuallySaid : Prop := gatewayEventuallyRow.holds Try.pinned (OpenSpec.ofChange gatewayEventuallySpec)

/-- ITS FALSE NEIGHBOUR: 'it returns false'. Refute it at one input. -/
def gatewayEventuallyWrong : ChangeSpec := { name := "gatewayEventually", fn := fun _ => fun
  | [d1, d2] => { results := [.lit (.bool false)], args := [d1, d2] }
  | _ => none }
def GatewayEventuallyWrongFalsely : Prop := gatewayEventuallyRow.holds Try.pinned (OpenSpec.ofChange gatewayEventuallyWrong)

/-- 'tricklelaw46.GatewayChunks': WHATEVER THE INPUT: true; the input reads as it did. -/
def gatewayChunksSpec : ChangeSpec := { name := "gatewayChunks", fn := fun _ => fun
  | [d1, d2, d3] => { results := [.lit (.bool true)], args := [d1, d2, d3] }
  | _ => none }
def gatewayChunksRow : OpenClaim := { program := "ytlaodoakiijjnaa", sum := "430a2a50efe81e8c2a923615ea9d6ec69a7af85779b517a72057ca8b1280b2da", func := "trickle/tricklelaw46.GatewayChunks", spec := "gatewayChunks", unfollowed := true, recurses := true, apart := false }
def GatewayChunksSaid : Prop := gatewayChunksRow.holds Try.pinned (OpenSpec.ofChange gatewayChunksSpec)

/-- ITS FALSE NEIGHBOUR: 'it returns false'. Refute it at one input. -/
def gatewayChunksWrong : ChangeSpec := { name := "gatewayChunks", fn := fun _ => fun
  | [d1, d2, d3] => { results := [.lit (.bool false)], args := [d1, d2, d3] }
  | _ => none }
def GatewayChunksWrongFalsely : Prop := gatewayChunksRow.holds Try.pinned (OpenSpec.ofChange gatewayChunksWrong)

/-- 'tricklelaw46.GatewayMatches': WHATEVER THE INPUT: true; the input reads as it did. -/
def gatewayMatchesSpec : ChangeSpec := { name := "gatewayMatches", fn := fun _ => fun
  | [d1, d2] => { results := [.lit (.bool true)], args := [d1, d2] }
  | _ => none }
def gatewayMatchesRow : OpenClaim := { program := "ytlaodoakiijjnaa", sum := "430a2a50efe81e8c2a923615ea9d6ec69a7af85779b517a72057ca8b1280b2da", func := "trickle/tricklelaw46.GatewayMatches", spec := "gatewayMatches", unfollowed := true, recurses := true, apart := false }
def GatewayMatchesSaid : Prop := gatewayMatchesRow.holds Try.pinned (OpenSpec.ofChange gatewayMatchesSpec)

/-- ITS FALSE NEIGHBOUR: 'it returns false'. Refute it at one input. -/
def gatewayMatchesWrong : ChangeSpec := { name := "gatewayMatches", fn := fun _ => fun
  | [d1, d2] => { results := [.lit (.bool false)], args := [d1, d2] }
  | _ => none }
def GatewayMatchesWrongFalsely : Prop := gatewayMatchesRow.holds Try.pinned (OpenSpec.ofChange gatewayMatchesWrong)

/-- 'tricklelaw46.GatewayVersions': WHATEVER THE INPUT: true; the input reads as it did. -/
def gatewayVersionsSpec : ChangeSpec := { name := "gatewayVersions", fn := fun _ => fun
  | [d1, d2] => { results := [.lit (.bool true)], args := [d1, d2] }
  | _ => none }
def gatewayVersionsRow : OpenClaim := { program := "ytlaodoakiijjnaa", sum := "430a2a50efe81e8c2a923615ea9d6ec69a7af85779b517a72057ca8b1280b2da", func := "trickle/tricklelaw46.GatewayVersions", spec := "gatewayVersions", unfollowed := true, recurses := true, apart := false }
def GatewayVersionsSaid : Prop := gatewayVersionsRow.holds Try.pinned (OpenSpec.ofChange gatewayVersionsSpec)

/-- ITS FALSE NEIGHBOUR: 'it returns false'. Refute it at one input. -/
def gatewayVersionsWrong : ChangeSpec := { name := "gatewayVersions", fn := fun _ => fun
  | [d1, d2] => { results := [.lit (.bool false)], args := [d1, d2] }
  | _ => none }
def GatewayVersionsWrongFalsely : Prop := gatewayVersionsRow.holds Try.pinned (OpenSpec.ofChange gatewayVersionsWrong)

/-- 'tricklelaw46.GatewayServes': WHATEVER THE INPUT: true; the input reads as it did. -/
def gatewayServesSpec : ChangeSpec := { name := "gatewayServes", fn := fun _ => fun
  | [d1, d2, d3] => { results := [.lit (.bool true)], args := [d1, d2, d3] }
  | _ => none }
def gatewayServesRow : OpenClaim := { program := "ytlaodoakiijjnaa", sum := "430a2a50efe81e8c2a923615ea9d6ec69a7af85779b517a72057ca8b1280b2da", func := "trickle/tricklelaw46.GatewayServes", spec := "gatewayServes", unfollowed := true, recurses := true, apart := false }
def GatewayServesSaid : Prop := gatewayServesRow.holds Try.pinned (OpenSpec.ofChange gatewayServesSpec)

/-- ITS FALSE NEIGHBOUR: 'it returns false'. Refute it at one input. -/
def gatewayServesWrong : ChangeSpec := { name := "gatewayServes", fn := fun _ => fun
  | [d1, d2, d3] => { results := [.lit (.bool false)], args := [d1, d2, d3] }
  | _ => none }
def GatewayServesWrongFalsely : Prop := gatewayServesRow.holds Try.pinned (OpenSpec.ofChange gatewayServesWrong)

/-- 'tricklelaw46.GatewayCopies': WHATEVER THE INPUT: true; the input reads as it did. -/
def gatewayCopiesSpec : ChangeSpec := { name := "gatewayCopies", fn := fun _ => fun
  | [d1, d2] => { results := [.lit (.bool true)], args := [d1, d2] }
  | _ => none }
def gatewayCopiesRow : OpenClaim := { program := "ytlaodoakiijjnaa", sum := "430a2a50efe81e8c2a923615ea9d6ec69a7af85779b517a72057ca8b1280b2da", func := "trickle/tricklelaw46.GatewayCopies", spec := "gatewayCopies", unfollowed := true, recurses := true, apart := false }
def GatewayCopiesSaid : Prop := gatewayCopiesRow.holds Try.pinned (OpenSpec.ofChange gatewayCopiesSpec)

/-- ITS FALSE NEIGHBOUR: 'it returns false'. Refute it at one input. -/
def gatewayCopiesWrong : ChangeSpec := { name := "gatewayCopies", fn := fun _ => fun
  | [d1, d2] => { results := [.lit (.bool false)], args := [d1, d2] }
  | _ => none }
def GatewayCopiesWrongFalsely : Prop := gatewayCopiesRow.holds Try.pinned (OpenSpec.ofChange gatewayCopiesWrong)

/- THE SECOND FORM. 'bulk': how many values and letters a reading holds, each counted each time it is reached (what is shared counts as often as it is met; a slice's spare places count too). A statement '..UptoSaid' is the law's where the arguments, and the package variables that the reading takes, are together of bulk at most 1048576: NARROWER than '..Said'. Prove '..Said' where nothing that the law and all that it calls make is longer than what came in: it says more and counts as full. Else prove '..UptoSaid'. A law counts once. -/
mutual
def uptoBulk {H : Type} : DataW H → Nat
  | .lit (.string bytes) => bytes.length + 1
  | .lit _ => 1
  | .nil => 1
  | .ptr d => uptoBulk d + 1
  | .slice elems spare => uptoBulkAll elems + uptoBulkAll spare + 1
  | .agg parts => uptoBulkAll parts + 1
  | .iface _ d => uptoBulk d + 1
  | .map entries => uptoBulkEntries entries + 1
  | .held _ => 1
def uptoBulkAll {H : Type} : List (DataW H) → Nat
  | [] => 0
  | d :: r => uptoBulk d + uptoBulkAll r
def uptoBulkEntries {H : Type} : List (Lit × DataW H) → Nat
  | [] => 0
  | x :: r => uptoBulkEntry x + uptoBulkEntries r
def uptoBulkEntry {H : Type} : Lit × DataW H → Nat
  | (.string bytes, d) => bytes.length + uptoBulk d + 1
  | (_, d) => uptoBulk d + 1
 end
def uptoSmall : (H : Type) → List (DataW H) → Bool := fun _ ds => decide (uptoBulkAll ds ≤ 1048576)
def OpenSpec.upto (s : _root_.Go.ChangeSpec) : _root_.Go.OpenSpec := { _root_.Go.OpenSpec.ofChange s with cond := some uptoSmall }

/-- 'tricklelaw46.GatewayInOrder', WHERE WHAT IT READS IS OF BULK AT MOST 1048576: true; the input reads as it did. -/
def gatewayInOrderUptoRow : OpenClaim := { program := "ytlaodoakiijjnaa", sum := "430a2a50efe81e8c2a923615ea9d6ec69a7af85779b517a72057ca8b1280b2da", func := "trickle/tricklelaw46.GatewayInOrder", spec := "gatewayInOrder", unfollowed := true, recurses := true, apart := false, narrowed := true }
def GatewayInOrderUptoSaid : Prop := gatewayInOrderUptoRow.holds Try.pinned (OpenSpec.upto gatewayInOrderSpec)

/-- 'tricklelaw46.GatewayEventually', WHERE WHAT IT READS IS OF BULK AT MOST 1048576: true; the input reads as it did. -/
def gatewayEventuallyUptoRow : OpenClaim := { program := "ytlaodoakiijjnaa", sum := "430a2a50efe81e8c2a923615ea9d6ec69a7af85779b517a72057ca8b1280b2da", func := "trickle/tricklelaw46.GatewayEventually", spec := "gatewayEventually", unfollowed := true, recurses := true, apart := false, narrowed := true }
def GatewayEventuallyUptoSaid : Prop := gatewayEventuallyUptoRow.holds Try.pinned (OpenSpec.upto gatewayEventuallySpec)

/-- 'tricklelaw46.GatewayChunks', WHERE WHAT IT READS IS OF BULK AT MOST 1048576: true; the input reads as it did. -/
def gatewayChunksUptoRow : OpenClaim := { program := "ytlaodoakiijjnaa", sum := "430a2a50efe81e8c2a923615ea9d6ec69a7af85779b517a72057ca8b1280b2da", func := "trickle/tricklelaw46.GatewayChunks", spec := "gatewayChunks", unfollowed := true, recurses := true, apart := false, narrowed := true }
def GatewayChunksUptoSaid : Prop := gatewayChunksUptoRow.holds Try.pinned (OpenSpec.upto gatewayChunksSpec)

/-- 'tricklelaw46.GatewayMatches', WHERE WHAT IT READS IS OF BULK AT MOST 1048576: true; the input reads as it did. -/
def gatewayMatchesUptoRow : OpenClaim := { program := "ytlaodoakiijjnaa", sum := "430a2a50efe81e8c2a923615ea9d6ec69a7af85779b517a72057ca8b1280b2da", func := "trickle/tricklelaw46.GatewayMatches", spec := "gatewayMatches", unfollowed := true, recurses := true, apart := false, narrowed := true }
def GatewayMatchesUptoSaid : Prop := gatewayMatchesUptoRow.holds Try.pinned (OpenSpec.upto gatewayMatchesSpec)

/-- 'tricklelaw46.GatewayVersions', WHERE WHAT IT READS IS OF BULK AT MOST 1048576: true; the input reads as it did. -/
def gatewayVersionsUptoRow : OpenClaim := { program := "ytlaodoakiijjnaa", sum := "430a2a50efe81e8c2a923615ea9d6ec69a7af85779b517a72057ca8b1280b2da", func := "trickle/tricklelaw46.GatewayVersions", spec := "gatewayVersions", unfollowed := true, recurses := true, apart := false, narrowed := true }
def GatewayVersionsUptoSaid : Prop := gatewayVersionsUptoRow.holds Try.pinned (OpenSpec.upto gatewayVersionsSpec)

/-- 'tricklelaw46.GatewayServes', WHERE WHAT IT READS IS OF BULK AT MOST 1048576: true; the input reads as it did. -/
def gatewayServesUptoRow : OpenClaim := { program := "ytlaodoakiijjnaa", sum := "430a2a50efe81e8c2a923615ea9d6ec69a7af85779b517a72057ca8b1280b2da", func := "trickle/tricklelaw46.GatewayServes", spec := "gatewayServes", unfollowed := true, recurses := true, apart := false, narrowed := true }
def GatewayServesUptoSaid : Prop := gatewayServesUptoRow.holds Try.pinned (OpenSpec.upto gatewayServesSpec)

/-- 'tricklelaw46.GatewayCopies', WHERE WHAT IT READS IS OF BULK AT MOST 1048576: true; the input reads as it did. -/
def gatewayCopiesUptoRow : OpenClaim := { program := "ytlaodoakiijjnaa", sum := "430a2a50efe81e8c2a923615ea9d6ec69a7af85779b517a72057ca8b1280b2da", func := "trickle/tricklelaw46.GatewayCopies", spec := "gatewayCopies", unfollowed := true, recurses := true, apart := false, narrowed := true }
def GatewayCopiesUptoSaid : Prop := gatewayCopiesUptoRow.holds Try.pinned (OpenSpec.upto gatewayCopiesSpec)

end Rows
end Go.Proofs.Ytlaodoakiijjnaa
