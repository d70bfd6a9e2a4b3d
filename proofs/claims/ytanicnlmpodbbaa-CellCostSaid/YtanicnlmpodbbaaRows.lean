/-
  No cell of these rows narrows 'for every input' (looked for: loops, veiled, ifaces, maps, wideKeys, modest, calm, conditions, laid).
  DERIVED. THE GIVEN ROWS OF THIS SEAT. 7 by the template 'for every input the law returns true; each argument reads behind the call as it read before'; 0 by the template 'total and deterministic' (their statements: YtanicnlmpodbbaaTotals.lean).
  GIVEN WITH THE SEED: the statements are not yours to turn. If you find one false, say at which input.
  Laid BY PROGRAM, IN A SANDBOX (cutbox-rows.mjs): the forced cells as the released guide's own fill.sh prints them over the translation e8abbdd0fe697700… (all of the seat's roots in one cut). By AI agents, Wed Nov 11 2026. No macro, syntax, notation, axiom, sorry.
-/
import Derived.Test.YtanicnlmpodbbaaChecked
import GoSem.Claim
import GoSem.ClaimJoined
import GoSem.ClaimMapViews
import Derived.JoinedTies
import Derived.KernelRfl
namespace Go.Proofs.Ytanicnlmpodbbaa
/- THE CELL 'sum', in the pinned program and in every row, IS THE sha256 OF THE DUMP (.gsa) THAT YtanicnlmpodbbaaProg.lean LOADS. Nothing in Lean hashes anything: it is a label: what it is worth is what the hold of that sum in a sandbox is worth. -/
noncomputable def Try.pinned : Pinned := { name := "ytanicnlmpodbbaa", sum := "e8abbdd0fe6977004d728f2b586c527bb023eee9846e8148d6667b54fe3db734", checked := Try.checked }
namespace Rows
def none {H : Type} : Left H := { results := [], args := [] }

/-- 'tricklelaw33.CellOpen': WHATEVER THE INPUT: true; the input reads as it did. -/
def cellOpenSpec : ChangeSpec := { name := "cellOpen", fn := fun _ => fun
  | [d] => { results := [.lit (.bool true)], args := [d] }
  | _ => none }
def cellOpenRow : OpenClaim := { program := "ytanicnlmpodbbaa", sum := "e8abbdd0fe6977004d728f2b586c527bb023eee9846e8148d6667b54fe3db734", func := "trickle/tricklelaw33.CellOpen", spec := "cellOpen", unfollowed := true, recurses := true, apart := false }
def CellOpenSaid : Prop := cellOpenRow.holds Try.pinned (OpenSpec.ofChange cellOpenSpec)

/-- ITS FALSE NEIGHBOUR: 'it returns false'. Refute it at one input. -/
def cellOpenWrong : ChangeSpec := { name := "cellOpen", fn := fun _ => fun
  | [d] => { results := [.lit (.bool false)], args := [d] }
  | _ => none }
def CellOpenWrongFalsely : Prop := cellOpenRow.holds Try.pinned (OpenSpec.ofChange cellOpenWrong)

/-- 'tricklelaw33.CellWrite': WHATEVER THE INPUT: true; the input reads as it did. -/
def cellWriteSpec : ChangeSpec := { name := "cellWrite", fn := fun _ => fun
  | [d1, d2] => { results := [.lit (.bool true)], args := [d1, d2] }
  | _ => none }
def cellWriteRow : OpenClaim := { program := "ytanicnlmpodbbaa", sum := "e8abbdd0fe6977004d728f2b586c527bb023eee9846e8148d6667b54fe3db734", func := "trickle/tricklelaw33.CellWrite", spec := "cellWrite", unfollowed := true, recurses := true, apart := false }
def CellWriteSaid : Prop := cellWriteRow.holds Try.pinned (OpenSpec.ofChange cellWriteSpec)

/-- ITS FALSE NEIGHBOUR: 'it returns false'. Refute it at one input. -/
def cellWriteWrong : ChangeSpec := { name := "cellWrite", fn := fun _ => fun
  | [d1, d2] => { results := [.lit (.bool false)], args := [d1, d2] }
  | _ => none }
def CellWriteWrongFalsely : Prop := cellWriteRow.holds Try.pinned (OpenSpec.ofChange cellWriteWrong)

/-- 'tricklelaw33.CellAtomic': WHATEVER THE INPUT: true; the input reads as it did. -/
def cellAtomicSpec : ChangeSpec := { name := "cellAtomic", fn := fun _ => fun
  | [d1, d2] => { results := [.lit (.bool true)], args := [d1, d2] }
  | _ => none }
def cellAtomicRow : OpenClaim := { program := "ytanicnlmpodbbaa", sum := "e8abbdd0fe6977004d728f2b586c527bb023eee9846e8148d6667b54fe3db734", func := "trickle/tricklelaw33.CellAtomic", spec := "cellAtomic", unfollowed := true, recurses := true, apart := false }
def CellAtomicSaid : Prop := cellAtomicRow.holds Try.pinned (OpenSpec.ofChange cellAtomicSpec)

/-- ITS FALSE NEIGHBOUR: 'it returns false'. Refute it at one input. -/
def cellAtomicWrong : ChangeSpec := { name := "cellAtomic", fn := fun _ => fun
  | [d1, d2] => { results := [.lit (.bool false)], args := [d1, d2] }
  | _ => none }
def CellAtomicWrongFalsely : Prop := cellAtomicRow.holds Try.pinned (OpenSpec.ofChange cellAtomicWrong)

/-- 'tricklelaw33.CellGenerations': WHATEVER THE INPUT: true; the input reads as it did. -/
def cellGenerationsSpec : ChangeSpec := { name := "cellGenerations", fn := fun _ => fun
  | [d1, d2] => { results := [.lit (.bool true)], args := [d1, d2] }
  | _ => none }
def cellGenerationsRow : OpenClaim := { program := "ytanicnlmpodbbaa", sum := "e8abbdd0fe6977004d728f2b586c527bb023eee9846e8148d6667b54fe3db734", func := "trickle/tricklelaw33.CellGenerations", spec := "cellGenerations", unfollowed := true, recurses := true, apart := false }
def CellGenerationsSaid : Prop := cellGenerationsRow.holds Try.pinned (OpenSpec.ofChange cellGenerationsSpec)

/-- ITS FALSE NEIGHBOUR: 'it returns false'. Refute it at one input. -/
def cellGenerationsWrong : ChangeSpec := { name := "cellGenerations", fn := fun _ => fun
  | [d1, d2] => { results := [.lit (.bool false)], args := [d1, d2] }
  | _ => none }
def CellGenerationsWrongFalsely : Prop := cellGenerationsRow.holds Try.pinned (OpenSpec.ofChange cellGenerationsWrong)

/-- 'tricklelaw33.CellLocal': WHATEVER THE INPUT: true; the input reads as it did. -/
def cellLocalSpec : ChangeSpec := { name := "cellLocal", fn := fun _ => fun
  | [d1, d2] => { results := [.lit (.bool true)], args := [d1, d2] }
  | _ => none }
def cellLocalRow : OpenClaim := { program := "ytanicnlmpodbbaa", sum := "e8abbdd0fe6977004d728f2b586c527bb023eee9846e8148d6667b54fe3db734", func := "trickle/tricklelaw33.CellLocal", spec := "cellLocal", unfollowed := true, recurses := true, apart := false }
def CellLocalSaid : Prop := cellLocalRow.holds Try.pinned (OpenSpec.ofChange cellLocalSpec)

/-- ITS FALSE NEIGHBOUR: 'it returns false'. Refute it at one input. -/
def cellLocalWrong : ChangeSpec := { name := "cellLocal", fn := fun _ => fun
  | [d1, d2] => { results := [.lit (.bool false)], args := [d1, d2] }
  | _ => none }
def CellLocalWrongFalsely : Prop := cellLocalRow.holds Try.pinned (OpenSpec.ofChange cellLocalWrong)

/-- 'tricklelaw33.CellRead': WHATEVER THE INPUT: true; the input reads as it did. -/
def cellReadSpec : ChangeSpec := { name := "cellRead", fn := fun _ => fun
  | [d] => { results := [.lit (.bool true)], args := [d] }
  | _ => none }
def cellReadRow : OpenClaim := { program := "ytanicnlmpodbbaa", sum := "e8abbdd0fe6977004d728f2b586c527bb023eee9846e8148d6667b54fe3db734", func := "trickle/tricklelaw33.CellRead", spec := "cellRead", unfollowed := true, recurses := true, apart := false }
def CellReadSaid : Prop := cellReadRow.holds Try.pinned (OpenSpec.ofChange cellReadSpec)

/-- ITS FALSE NEIGHBOUR: 'it returns false'. Refute it at one input. -/
def cellReadWrong : ChangeSpec := { name := "cellRead", fn := fun _ => fun
  | [d] => { results := [.lit (.bool false)], args := [d] }
  | _ => none }
def CellReadWrongFalsely : Prop := cellReadRow.holds Try.pinned (OpenSpec.ofChange cellReadWrong)

/-- 'tricklelaw33.CellCost': WHATEVER THE INPUT: true; the input reads as it did. -/
def cellCostSpec : ChangeSpec := { name := "cellCost", fn := fun _ => fun
  | [d1, d2] => { results := [.lit (.bool true)], args := [d1, d2] }
  | _ => none }
def cellCostRow : OpenClaim := { program := "ytanicnlmpodbbaa", sum := "e8abbdd0fe6977004d728f2b586c527bb023eee9846e8148d6667b54fe3db734", func := "trickle/tricklelaw33.CellCost", spec := "cellCost", unfollowed := true, recurses := true, apart := false }
def CellCostSaid : Prop := cellCostRow.holds Try.pinned (OpenSpec.ofChange cellCostSpec)

/-- ITS FALSE NEIGHBOUR: 'it returns false'. Refute it at one input. -/
def cellCostWrong : ChangeSpec := { name := "cellCost", fn := fun _ => fun
  | [d1, d2] => { results := [.lit (.bool false)], args := [d1, d2] }
  | _ => none }
def CellCostWrongFalsely : Prop := cellCostRow.holds Try.pinned (OpenSpec.ofChange cellCostWrong)

/- THE SECOND FORM. 'bulk': how many values and letters a reading holds, each counted each time it is reached (what is shared counts as often as it is met; a slice's spare places count too). A statement '..UptoSaid' is the law's where the arguments, and the package variables that the reading takes, are together of bulk at most 1048576: NARROWER than '..Said'. Prove '..Said' where nothing that the law and all that it calls make is longer than what came in: it says more and counts as full. Else prove '..UptoSaid'. A law counts once. -/
mutual
def uptoBulk {H : Type} : DataW H → Nat
  | .lit (.string bytes) => bytes.length + 1
  | .lit _ => 1
  | .nil => 1
  | .ptr d => uptoBulk d + 1
  | .slice elems spare => uptoBulkAll elems + uptoBulkAll spare + 1
  | .agg parts => uptoBulkAll parts + 1
  | .iface _ d => uptoBulk d + 1
  | .map entries => uptoBulkEntries entries + 1
  | .held _ => 1
def uptoBulkAll {H : Type} : List (DataW H) → Nat
  | [] => 0
  | d :: r => uptoBulk d + uptoBulkAll r
def uptoBulkEntries {H : Type} : List (Lit × DataW H) → Nat
  | [] => 0
  | x :: r => uptoBulkEntry x + uptoBulkEntries r
def uptoBulkEntry {H : Type} : Lit × DataW H → Nat
  | (.string bytes, d) => bytes.length + uptoBulk d + 1
  | (_, d) => uptoBulk d + 1
 end
def uptoSmall : (H : Type) → List (DataW H) → Bool := fun _ ds => decide (uptoBulkAll ds ≤ 1048576)
def OpenSpec.upto (s : _root_.Go.ChangeSpec) : _root_.Go.OpenSpec := { _root_.Go.OpenSpec.ofChange s with cond := some uptoSmall }

/-- 'tricklelaw33.CellOpen', WHERE WHAT IT READS IS OF BULK AT MOST 1048576: true; the input reads as it did. -/
def cellOpenUptoRow : OpenClaim := { program := "ytanicnlmpodbbaa", sum := "e8abbdd0fe6977004d728f2b586c527bb023eee9846e8148d6667b54fe3db734", func := "trickle/tricklelaw33.CellOpen", spec := "cellOpen", unfollowed := true, recurses := true, apart := false, narrowed := true }
def CellOpenUptoSaid : Prop := cellOpenUptoRow.holds Try.pinned (OpenSpec.upto cellOpenSpec)

/-- 'tricklelaw33.CellWrite', WHERE WHAT IT READS IS OF BULK AT MOST 1048576: true; the input reads as it did. -/
def cellWriteUptoRow : OpenClaim := { program := "ytanicnlmpodbbaa", sum := "e8abbdd0fe6977004d728f2b586c527bb023eee9846e8148d6667b54fe3db734", func := "trickle/tricklelaw33.CellWrite", spec := "cellWrite", unfollowed := true, recurses := true, apart := false, narrowed := true }
def CellWriteUptoSaid : Prop := cellWriteUptoRow.holds Try.pinned (OpenSpec.upto cellWriteSpec)

/-- 'tricklelaw33.CellAtomic', WHERE WHAT IT READS IS OF BULK AT MOST 1048576: true; the input reads as it did. -/
def cellAtomicUptoRow : OpenClaim := { program := "ytanicnlmpodbbaa", sum := "e8abbdd0fe6977004d728f2b586c527bb023eee9846e8148d6667b54fe3db734", func := "trickle/tricklelaw33.CellAtomic", spec := "cellAtomic", unfollowed := true, recurses := true, apart := false, narrowed := true }
def CellAtomicUptoSaid : Prop := cellAtomicUptoRow.holds Try.pinned (OpenSpec.upto cellAtomicSpec)

/-- 'tricklelaw33.CellGenerations', WHERE WHAT IT READS IS OF BULK AT MOST 1048576: true; the input reads as it did. -/
def cellGenerationsUptoRow : OpenClaim := { program := "ytanicnlmpodbbaa", sum := "e8abbdd0fe6977004d728f2b586c527bb023eee9846e8148d6667b54fe3db734", func := "trickle/tricklelaw33.CellGenerations", spec := "cellGenerations", unfollowed := true, recurses := true, apart := false, narrowed := true }
def CellGenerationsUptoSaid : Prop := cellGenerationsUptoRow.holds Try.pinned (OpenSpec.upto cellGenerationsSpec)

/-- 'tricklelaw33.CellLocal', WHERE WHAT IT READS IS OF BULK AT MOST 1048576: true; the input reads as it did. -/
def cellLocalUptoRow : OpenClaim := { program := "ytanicnlmpodbbaa", sum := "e8abbdd0fe6977004d728f2b586c527bb023eee9846e8148d6667b54fe3db734", func := "trickle/tricklelaw33.CellLocal", spec := "cellLocal", unfollowed := true, recurses := true, apart := false, narrowed := true }
def CellLocalUptoSaid : Prop := cellLocalUptoRow.holds Try.pinned (OpenSpec.upto cellLocalSpec)

/-- 'tricklelaw33.CellRead', WHERE WHAT IT READS IS OF BULK AT MOST 1048576: true; the input reads as it did. -/
def cellReadUptoRow : OpenClaim := { program := "ytanicnlmpodbbaa", sum := "e8abbdd0fe6977004d728f2b586c527bb023eee9846e8148d6667b54fe3db734", func := "trickle/tricklelaw33.CellRead", spec := "cellRead", unfollowed := true, recurses := true, apart := false, narrowed := true }
def CellReadUptoSaid : Prop := cellReadUptoRow.holds Try.pinned (OpenSpec.upto cellReadSpec)

/-- 'tricklelaw33.CellCost', WHERE WHAT IT READS IS OF BULK AT MOST 1048576: true; the input reads as it did. -/
def cellCostUptoRow : OpenClaim := { program := "ytanicnlmpodbbaa", sum := "e8abbdd0fe6977004d728f2b586c527bb023eee9846e8148d6667b54fe3db734", func := "trickle/tricklelaw33.CellCost", spec := "cellCost", unfollowed := true, recurses := true, apart := false, narrowed := true }
def CellCostUptoSaid : Prop := cellCostUptoRow.holds Try.pinned (OpenSpec.upto cellCostSpec)

end Rows
end Go.Proofs.Ytanicnlmpodbbaa
