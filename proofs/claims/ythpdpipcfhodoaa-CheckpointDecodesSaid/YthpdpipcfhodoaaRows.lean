/-
  No cell of these rows narrows 'for every input' (looked for: loops, veiled, ifaces, maps, wideKeys, modest, calm, conditions, laid).
  DERIVED. THE GIVEN ROWS OF THIS SEAT. 5 by the template 'for every input the law returns true; each argument reads behind the call as it read before'; 0 by the template 'total and deterministic' (their statements: YthpdpipcfhodoaaTotals.lean).
  GIVEN WITH THE SEED: the statements are not yours to turn. If you find one false, say at which input.
  Laid BY PROGRAM, IN A SANDBOX (cutbox-rows.mjs): the forced cells as the released guide's own fill.sh prints them over the translation 663b58b7713bd91b… (all of the seat's roots in one cut). By AI agents, Wed Nov 11 2026. No macro, syntax, notation, axiom, sorry.
-/
import Derived.Test.YthpdpipcfhodoaaChecked
import GoSem.Claim
import GoSem.ClaimJoined
import GoSem.ClaimMapViews
import Derived.JoinedTies
import Derived.KernelRfl
namespace Go.Proofs.Ythpdpipcfhodoaa
/- THE CELL 'sum', in the pinned program and in every row, IS THE sha256 OF THE DUMP (.gsa) THAT YthpdpipcfhodoaaProg.lean LOADS. Nothing in Lean hashes anything: it is a label: what it is worth is what the hold of that sum in a sandbox is worth. -/
noncomputable def Try.pinned : Pinned := { name := "ythpdpipcfhodoaa", sum := "663b58b7713bd91b74b0b575a71ea149d205c1993ac1c27b077fa5b8eff3d20d", checked := Try.checked }
namespace Rows
def none {H : Type} : Left H := { results := [], args := [] }

/-- 'tricklelaw36.CheckpointEncodes': WHATEVER THE INPUT: true; the input reads as it did. -/
def checkpointEncodesSpec : ChangeSpec := { name := "checkpointEncodes", fn := fun _ => fun
  | [d] => { results := [.lit (.bool true)], args := [d] }
  | _ => none }
def checkpointEncodesRow : OpenClaim := { program := "ythpdpipcfhodoaa", sum := "663b58b7713bd91b74b0b575a71ea149d205c1993ac1c27b077fa5b8eff3d20d", func := "trickle/tricklelaw36.CheckpointEncodes", spec := "checkpointEncodes", unfollowed := true, recurses := true, apart := false }
def CheckpointEncodesSaid : Prop := checkpointEncodesRow.holds Try.pinned (OpenSpec.ofChange checkpointEncodesSpec)

/-- ITS FALSE NEIGHBOUR: 'it returns false'. Refute it at one input. -/
def checkpointEncodesWrong : ChangeSpec := { name := "checkpointEncodes", fn := fun _ => fun
  | [d] => { results := [.lit (.bool false)], args := [d] }
  | _ => none }
def CheckpointEncodesWrongFalsely : Prop := checkpointEncodesRow.holds Try.pinned (OpenSpec.ofChange checkpointEncodesWrong)

/-- 'tricklelaw36.CheckpointDecodes': WHATEVER THE INPUT: true; the input reads as it did. -/
def checkpointDecodesSpec : ChangeSpec := { name := "checkpointDecodes", fn := fun _ => fun
  | [d] => { results := [.lit (.bool true)], args := [d] }
  | _ => none }
def checkpointDecodesRow : OpenClaim := { program := "ythpdpipcfhodoaa", sum := "663b58b7713bd91b74b0b575a71ea149d205c1993ac1c27b077fa5b8eff3d20d", func := "trickle/tricklelaw36.CheckpointDecodes", spec := "checkpointDecodes", unfollowed := true, recurses := true, apart := false }
def CheckpointDecodesSaid : Prop := checkpointDecodesRow.holds Try.pinned (OpenSpec.ofChange checkpointDecodesSpec)

/-- ITS FALSE NEIGHBOUR: 'it returns false'. Refute it at one input. -/
def checkpointDecodesWrong : ChangeSpec := { name := "checkpointDecodes", fn := fun _ => fun
  | [d] => { results := [.lit (.bool false)], args := [d] }
  | _ => none }
def CheckpointDecodesWrongFalsely : Prop := checkpointDecodesRow.holds Try.pinned (OpenSpec.ofChange checkpointDecodesWrong)

/-- 'tricklelaw36.CheckpointIsAtomic': WHATEVER THE INPUT: true; the input reads as it did. -/
def checkpointIsAtomicSpec : ChangeSpec := { name := "checkpointIsAtomic", fn := fun _ => fun
  | [d1, d2, d3] => { results := [.lit (.bool true)], args := [d1, d2, d3] }
  | _ => none }
def checkpointIsAtomicRow : OpenClaim := { program := "ythpdpipcfhodoaa", sum := "663b58b7713bd91b74b0b575a71ea149d205c1993ac1c27b077fa5b8eff3d20d", func := "trickle/tricklelaw36.CheckpointIsAtomic", spec := "checkpointIsAtomic", unfollowed := true, recurses := true, apart := false }
def CheckpointIsAtomicSaid : Prop := checkpointIsAtomicRow.holds Try.pinned (OpenSpec.ofChange checkpointIsAtomicSpec)

/-- ITS FALSE NEIGHBOUR: 'it returns false'. Refute it at one input. -/
def checkpointIsAtomicWrong : ChangeSpec := { name := "checkpointIsAtomic", fn := fun _ => fun
  | [d1, d2, d3] => { results := [.lit (.bool false)], args := [d1, d2, d3] }
  | _ => none }
def CheckpointIsAtomicWrongFalsely : Prop := checkpointIsAtomicRow.holds Try.pinned (OpenSpec.ofChange checkpointIsAtomicWrong)

/-- 'tricklelaw36.CheckpointEquality': WHATEVER THE INPUT: true; the input reads as it did. -/
def checkpointEqualitySpec : ChangeSpec := { name := "checkpointEquality", fn := fun _ => fun
  | [d1, d2] => { results := [.lit (.bool true)], args := [d1, d2] }
  | _ => none }
def checkpointEqualityRow : OpenClaim := { program := "ythpdpipcfhodoaa", sum := "663b58b7713bd91b74b0b575a71ea149d205c1993ac1c27b077fa5b8eff3d20d", func := "trickle/tricklelaw36.CheckpointEquality", spec := "checkpointEquality", unfollowed := true, recurses := true, apart := false }
def CheckpointEqualitySaid : Prop := checkpointEqualityRow.holds Try.pinned (OpenSpec.ofChange checkpointEqualitySpec)

/-- ITS FALSE NEIGHBOUR: 'it returns false'. Refute it at one input. -/
def checkpointEqualityWrong : ChangeSpec := { name := "checkpointEquality", fn := fun _ => fun
  | [d1, d2] => { results := [.lit (.bool false)], args := [d1, d2] }
  | _ => none }
def CheckpointEqualityWrongFalsely : Prop := checkpointEqualityRow.holds Try.pinned (OpenSpec.ofChange checkpointEqualityWrong)

/-- 'tricklelaw36.CheckpointOpenErrors': WHATEVER THE INPUT: true; the input reads as it did. -/
def checkpointOpenErrorsSpec : ChangeSpec := { name := "checkpointOpenErrors", fn := fun _ => fun
  | [d1, d2, d3] => { results := [.lit (.bool true)], args := [d1, d2, d3] }
  | _ => none }
def checkpointOpenErrorsRow : OpenClaim := { program := "ythpdpipcfhodoaa", sum := "663b58b7713bd91b74b0b575a71ea149d205c1993ac1c27b077fa5b8eff3d20d", func := "trickle/tricklelaw36.CheckpointOpenErrors", spec := "checkpointOpenErrors", unfollowed := true, recurses := true, apart := false }
def CheckpointOpenErrorsSaid : Prop := checkpointOpenErrorsRow.holds Try.pinned (OpenSpec.ofChange checkpointOpenErrorsSpec)

/-- ITS FALSE NEIGHBOUR: 'it returns false'. Refute it at one input. -/
def checkpointOpenErrorsWrong : ChangeSpec := { name := "checkpointOpenErrors", fn := fun _ => fun
  | [d1, d2, d3] => { results := [.lit (.bool false)], args := [d1, d2, d3] }
  | _ => none }
def CheckpointOpenErrorsWrongFalsely : Prop := checkpointOpenErrorsRow.holds Try.pinned (OpenSpec.ofChange checkpointOpenErrorsWrong)

/- THE SECOND FORM. 'bulk': how many values and letters a reading holds, each counted each time it is reached (what is shared counts as often as it is met; a slice's spare places count too). A statement '..UptoSaid' is the law's where the arguments, and the package variables that the reading takes, are together of bulk at most 1048576: NARROWER than '..Said'. Prove '..Said' where nothing that the law and all that it calls make is longer than what came in: it says more and counts as full. Else prove '..UptoSaid'. A law counts once. -/
mutual
def uptoBulk {H : Type} : DataW H → Nat
  | .lit (.string bytes) => bytes.length + 1
  | .lit _ => 1
  | .nil => 1
  | .ptr d => uptoBulk d + 1
  | .slice elems spare => uptoBulkAll elems + uptoBulkAll spare + 1
  | .agg parts => uptoBulkAll parts + 1
  | .iface _ d => uptoBulk d + 1
  | .map entries => uptoBulkEntries entries + 1
  | .held _ => 1
def uptoBulkAll {H : Type} : List (DataW H) → Nat
  | [] => 0
  | d :: r => uptoBulk d + uptoBulkAll r
def uptoBulkEntries {H : Type} : List (Lit × DataW H) → Nat
  | [] => 0
  | x :: r => uptoBulkEntry x + uptoBulkEntries r
def uptoBulkEntry {H : Type} : Lit × DataW H → Nat
  | (.string bytes, d) => bytes.length + uptoBulk d + 1
  | (_, d) => uptoBulk d + 1
 end
def uptoSmall : (H : Type) → List (DataW H) → Bool := fun _ ds => decide (uptoBulkAll ds ≤ 1048576)
def OpenSpec.upto (s : _root_.Go.ChangeSpec) : _root_.Go.OpenSpec := { _root_.Go.OpenSpec.ofChange s with cond := some uptoSmall }

/-- 'tricklelaw36.CheckpointEncodes', WHERE WHAT IT READS IS OF BULK AT MOST 1048576: true; the input reads as it did. -/
def checkpointEncodesUptoRow : OpenClaim := { program := "ythpdpipcfhodoaa", sum := "663b58b7713bd91b74b0b575a71ea149d205c1993ac1c27b077fa5b8eff3d20d", func := "trickle/tricklelaw36.CheckpointEncodes", spec := "checkpointEncodes", unfollowed := true, recurses := true, apart := false, narrowed := true }
def CheckpointEncodesUptoSaid : Prop := checkpointEncodesUptoRow.holds Try.pinned (OpenSpec.upto checkpointEncodesSpec)

/-- 'tricklelaw36.CheckpointDecodes', WHERE WHAT IT READS IS OF BULK AT MOST 1048576: true; the input reads as it did. -/
def checkpointDecodesUptoRow : OpenClaim := { program := "ythpdpipcfhodoaa", sum := "663b58b7713bd91b74b0b575a71ea149d205c1993ac1c27b077fa5b8eff3d20d", func := "trickle/tricklelaw36.CheckpointDecodes", spec := "checkpointDecodes", unfollowed := true, recurses := true, apart := false, narrowed := true }
def CheckpointDecodesUptoSaid : Prop := checkpointDecodesUptoRow.holds Try.pinned (OpenSpec.upto checkpointDecodesSpec)

/-- 'tricklelaw36.CheckpointIsAtomic', WHERE WHAT IT READS IS OF BULK AT MOST 1048576: true; the input reads as it did. -/
def checkpointIsAtomicUptoRow : OpenClaim := { program := "ythpdpipcfhodoaa", sum := "663b58b7713bd91b74b0b575a71ea149d205c1993ac1c27b077fa5b8eff3d20d", func := "trickle/tricklelaw36.CheckpointIsAtomic", spec := "checkpointIsAtomic", unfollowed := true, recurses := true, apart := false, narrowed := true }
def CheckpointIsAtomicUptoSaid : Prop := checkpointIsAtomicUptoRow.holds Try.pinned (OpenSpec.upto checkpointIsAtomicSpec)

/-- 'tricklelaw36.CheckpointEquality', WHERE WHAT IT READS IS OF BULK AT MOST 1048576: true; the input reads as it did. -/
def checkpointEqualityUptoRow : OpenClaim := { program := "ythpdpipcfhodoaa", sum := "663b58b7713bd91b74b0b575a71ea149d205c1993ac1c27b077fa5b8eff3d20d", func := "trickle/tricklelaw36.CheckpointEquality", spec := "checkpointEquality", unfollowed := true, recurses := true, apart := false, narrowed := true }
def CheckpointEqualityUptoSaid : Prop := checkpointEqualityUptoRow.holds Try.pinned (OpenSpec.upto checkpointEqualitySpec)

/-- 'tricklelaw36.CheckpointOpenErrors', WHERE WHAT IT READS IS OF BULK AT MOST 1048576: true; the input reads as it did. -/
def checkpointOpenErrorsUptoRow : OpenClaim := { program := "ythpdpipcfhodoaa", sum := "663b58b7713bd91b74b0b575a71ea149d205c1993ac1c27b077fa5b8eff3d20d", func := "trickle/tricklelaw36.CheckpointOpenErrors", spec := "checkpointOpenErrors", unfollowed := true, recurses := true, apart := false, narrowed := true }
def CheckpointOpenErrorsUptoSaid : Prop := checkpointOpenErrorsUptoRow.holds Try.pinned (OpenSpec.upto checkpointOpenErrorsSpec)

end Rows
end Go.Proofs.Ythpdpipcfhodoaa
