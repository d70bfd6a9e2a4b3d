/-
  No cell of these rows narrows 'for every input' (looked for: loops, veiled, ifaces, maps, wideKeys, modest, calm, conditions, laid).
  DERIVED. THE GIVEN ROWS OF THIS SEAT. 7 by the template 'for every input the law returns true; each argument reads behind the call as it read before'; 0 by the template 'total and deterministic' (their statements: YtkkmiodambfbdaaTotals.lean).
  GIVEN WITH THE SEED: the statements are not yours to turn. If you find one false, say at which input.
  Laid BY PROGRAM, IN A SANDBOX (cutbox-rows.mjs): the forced cells as the released guide's own fill.sh prints them over the translation 1a117e2a2a4c3acb… (all of the seat's roots in one cut). By AI agents, Wed Nov 11 2026. No macro, syntax, notation, axiom, sorry.
-/
import Derived.Test.YtkkmiodambfbdaaChecked
import GoSem.Claim
import GoSem.ClaimJoined
import GoSem.ClaimMapViews
import Derived.JoinedTies
import Derived.KernelRfl
namespace Go.Proofs.Ytkkmiodambfbdaa
/- THE CELL 'sum', in the pinned program and in every row, IS THE sha256 OF THE DUMP (.gsa) THAT YtkkmiodambfbdaaProg.lean LOADS. Nothing in Lean hashes anything: it is a label: what it is worth is what the hold of that sum in a sandbox is worth. -/
noncomputable def Try.pinned : Pinned := { name := "ytkkmiodambfbdaa", sum := "1a117e2a2a4c3acbce77e3abd478d6e5b9aa2f388a3479e2763618bf8d42b048", checked := Try.checked }
namespace Rows
def none {H : Type} : Left H := { results := [], args := [] }

/-- 'tricklelaw34.UndoLogGenerations': WHATEVER THE INPUT: true; the input reads as it did. -/
def undoLogGenerationsSpec : ChangeSpec := { name := "undoLogGenerations", fn := fun _ => fun
  | [d1, d2] => { results := [.lit (.bool true)], args := [d1, d2] }
  | _ => none }
def undoLogGenerationsRow : OpenClaim := { program := "ytkkmiodambfbdaa", sum := "1a117e2a2a4c3acbce77e3abd478d6e5b9aa2f388a3479e2763618bf8d42b048", func := "trickle/tricklelaw34.UndoLogGenerations", spec := "undoLogGenerations", unfollowed := true, recurses := true, apart := false }
def UndoLogGenerationsSaid : Prop := undoLogGenerationsRow.holds Try.pinned (OpenSpec.ofChange undoLogGenerationsSpec)

/-- ITS FALSE NEIGHBOUR: 'it returns false'. Refute it at one input. -/
def undoLogGenerationsWrong : ChangeSpec := { name := "undoLogGenerations", fn := fun _ => fun
  | [d1, d2] => { results := [.lit (.bool false)], args := [d1, d2] }
  | _ => none }
def UndoLogGenerationsWrongFalsely : Prop := undoLogGenerationsRow.holds Try.pinned (OpenSpec.ofChange undoLogGenerationsWrong)

/-- 'tricklelaw34.UndoLogStateless': WHATEVER THE INPUT: true; the input reads as it did. -/
def undoLogStatelessSpec : ChangeSpec := { name := "undoLogStateless", fn := fun _ => fun
  | [d1, d2] => { results := [.lit (.bool true)], args := [d1, d2] }
  | _ => none }
def undoLogStatelessRow : OpenClaim := { program := "ytkkmiodambfbdaa", sum := "1a117e2a2a4c3acbce77e3abd478d6e5b9aa2f388a3479e2763618bf8d42b048", func := "trickle/tricklelaw34.UndoLogStateless", spec := "undoLogStateless", unfollowed := true, recurses := true, apart := false }
def UndoLogStatelessSaid : Prop := undoLogStatelessRow.holds Try.pinned (OpenSpec.ofChange undoLogStatelessSpec)

/-- ITS FALSE NEIGHBOUR: 'it returns false'. Refute it at one input. -/
def undoLogStatelessWrong : ChangeSpec := { name := "undoLogStateless", fn := fun _ => fun
  | [d1, d2] => { results := [.lit (.bool false)], args := [d1, d2] }
  | _ => none }
def UndoLogStatelessWrongFalsely : Prop := undoLogStatelessRow.holds Try.pinned (OpenSpec.ofChange undoLogStatelessWrong)

/-- 'tricklelaw34.UndoLogOnce': WHATEVER THE INPUT: true; the input reads as it did. -/
def undoLogOnceSpec : ChangeSpec := { name := "undoLogOnce", fn := fun _ => fun
  | [d1, d2] => { results := [.lit (.bool true)], args := [d1, d2] }
  | _ => none }
def undoLogOnceRow : OpenClaim := { program := "ytkkmiodambfbdaa", sum := "1a117e2a2a4c3acbce77e3abd478d6e5b9aa2f388a3479e2763618bf8d42b048", func := "trickle/tricklelaw34.UndoLogOnce", spec := "undoLogOnce", unfollowed := true, recurses := true, apart := false }
def UndoLogOnceSaid : Prop := undoLogOnceRow.holds Try.pinned (OpenSpec.ofChange undoLogOnceSpec)

/-- ITS FALSE NEIGHBOUR: 'it returns false'. Refute it at one input. -/
def undoLogOnceWrong : ChangeSpec := { name := "undoLogOnce", fn := fun _ => fun
  | [d1, d2] => { results := [.lit (.bool false)], args := [d1, d2] }
  | _ => none }
def UndoLogOnceWrongFalsely : Prop := undoLogOnceRow.holds Try.pinned (OpenSpec.ofChange undoLogOnceWrong)

/-- 'tricklelaw34.UndoLogSize': WHATEVER THE INPUT: true; the input reads as it did. -/
def undoLogSizeSpec : ChangeSpec := { name := "undoLogSize", fn := fun _ => fun
  | [d] => { results := [.lit (.bool true)], args := [d] }
  | _ => none }
def undoLogSizeRow : OpenClaim := { program := "ytkkmiodambfbdaa", sum := "1a117e2a2a4c3acbce77e3abd478d6e5b9aa2f388a3479e2763618bf8d42b048", func := "trickle/tricklelaw34.UndoLogSize", spec := "undoLogSize", unfollowed := true, recurses := true, apart := false }
def UndoLogSizeSaid : Prop := undoLogSizeRow.holds Try.pinned (OpenSpec.ofChange undoLogSizeSpec)

/-- ITS FALSE NEIGHBOUR: 'it returns false'. Refute it at one input. -/
def undoLogSizeWrong : ChangeSpec := { name := "undoLogSize", fn := fun _ => fun
  | [d] => { results := [.lit (.bool false)], args := [d] }
  | _ => none }
def UndoLogSizeWrongFalsely : Prop := undoLogSizeRow.holds Try.pinned (OpenSpec.ofChange undoLogSizeWrong)

/-- 'tricklelaw34.UndoLogRestores': WHATEVER THE INPUT: true; the input reads as it did. -/
def undoLogRestoresSpec : ChangeSpec := { name := "undoLogRestores", fn := fun _ => fun
  | [d1, d2, d3] => { results := [.lit (.bool true)], args := [d1, d2, d3] }
  | _ => none }
def undoLogRestoresRow : OpenClaim := { program := "ytkkmiodambfbdaa", sum := "1a117e2a2a4c3acbce77e3abd478d6e5b9aa2f388a3479e2763618bf8d42b048", func := "trickle/tricklelaw34.UndoLogRestores", spec := "undoLogRestores", unfollowed := true, recurses := true, apart := false }
def UndoLogRestoresSaid : Prop := undoLogRestoresRow.holds Try.pinned (OpenSpec.ofChange undoLogRestoresSpec)

/-- ITS FALSE NEIGHBOUR: 'it returns false'. Refute it at one input. -/
def undoLogRestoresWrong : ChangeSpec := { name := "undoLogRestores", fn := fun _ => fun
  | [d1, d2, d3] => { results := [.lit (.bool false)], args := [d1, d2, d3] }
  | _ => none }
def UndoLogRestoresWrongFalsely : Prop := undoLogRestoresRow.holds Try.pinned (OpenSpec.ofChange undoLogRestoresWrong)

/-- 'tricklelaw34.UndoLogRepeats': WHATEVER THE INPUT: true; the input reads as it did. -/
def undoLogRepeatsSpec : ChangeSpec := { name := "undoLogRepeats", fn := fun _ => fun
  | [d1, d2, d3] => { results := [.lit (.bool true)], args := [d1, d2, d3] }
  | _ => none }
def undoLogRepeatsRow : OpenClaim := { program := "ytkkmiodambfbdaa", sum := "1a117e2a2a4c3acbce77e3abd478d6e5b9aa2f388a3479e2763618bf8d42b048", func := "trickle/tricklelaw34.UndoLogRepeats", spec := "undoLogRepeats", unfollowed := true, recurses := true, apart := false }
def UndoLogRepeatsSaid : Prop := undoLogRepeatsRow.holds Try.pinned (OpenSpec.ofChange undoLogRepeatsSpec)

/-- ITS FALSE NEIGHBOUR: 'it returns false'. Refute it at one input. -/
def undoLogRepeatsWrong : ChangeSpec := { name := "undoLogRepeats", fn := fun _ => fun
  | [d1, d2, d3] => { results := [.lit (.bool false)], args := [d1, d2, d3] }
  | _ => none }
def UndoLogRepeatsWrongFalsely : Prop := undoLogRepeatsRow.holds Try.pinned (OpenSpec.ofChange undoLogRepeatsWrong)

/-- 'tricklelaw34.UndoLogMatches': WHATEVER THE INPUT: true; the input reads as it did. -/
def undoLogMatchesSpec : ChangeSpec := { name := "undoLogMatches", fn := fun _ => fun
  | [d1, d2] => { results := [.lit (.bool true)], args := [d1, d2] }
  | _ => none }
def undoLogMatchesRow : OpenClaim := { program := "ytkkmiodambfbdaa", sum := "1a117e2a2a4c3acbce77e3abd478d6e5b9aa2f388a3479e2763618bf8d42b048", func := "trickle/tricklelaw34.UndoLogMatches", spec := "undoLogMatches", unfollowed := true, recurses := true, apart := false }
def UndoLogMatchesSaid : Prop := undoLogMatchesRow.holds Try.pinned (OpenSpec.ofChange undoLogMatchesSpec)

/-- ITS FALSE NEIGHBOUR: 'it returns false'. Refute it at one input. -/
def undoLogMatchesWrong : ChangeSpec := { name := "undoLogMatches", fn := fun _ => fun
  | [d1, d2] => { results := [.lit (.bool false)], args := [d1, d2] }
  | _ => none }
def UndoLogMatchesWrongFalsely : Prop := undoLogMatchesRow.holds Try.pinned (OpenSpec.ofChange undoLogMatchesWrong)

/- THE SECOND FORM. 'bulk': how many values and letters a reading holds, each counted each time it is reached (what is shared counts as often as it is met; a slice's spare places count too). A statement '..UptoSaid' is the law's where the arguments, and the package variables that the reading takes, are together of bulk at most 1048576: NARROWER than '..Said'. Prove '..Said' where nothing that the law and all that it calls make is longer than what came in: it says more and counts as full. Else prove '..UptoSaid'. A law counts once. -/
mutual
def uptoBulk {H : Type} : DataW H → Nat
  | .lit (.string bytes) => bytes.length + 1
  | .lit _ => 1
  | .nil => 1
  | .ptr d => uptoBulk d + 1
  | .slice elems spare => uptoBulkAll elems + uptoBulkAll spare + 1
  | .agg parts => uptoBulkAll parts + 1
  | .iface _ d => uptoBulk d + 1
  | .map entries => uptoBulkEntries entries + 1
  | .held _ => 1
def uptoBulkAll {H : Type} : List (DataW H) → Nat
  | [] => 0
  | d :: r => uptoBulk d + uptoBulkAll r
def uptoBulkEntries {H : Type} : List (Lit × DataW H) → Nat
  | [] => 0
  | x :: r => uptoBulkEntry x + uptoBulkEntries r
def uptoBulkEntry {H : Type} : Lit × DataW H → Nat
  | (.string bytes, d) => bytes.length + uptoBulk d + 1
  | (_, d) => uptoBulk d + 1
 end
def uptoSmall : (H : Type) → List (DataW H) → Bool := fun _ ds => decide (uptoBulkAll ds ≤ 1048576)
def OpenSpec.upto (s : _root_.Go.ChangeSpec) : _root_.Go.OpenSpec := { _root_.Go.OpenSpec.ofChange s with cond := some uptoSmall }

/-- 'tricklelaw34.UndoLogGenerations', WHERE WHAT IT READS IS OF BULK AT MOST 1048576: true; the input reads as it did. -/
def undoLogGenerationsUptoRow : OpenClaim := { program := "ytkkmiodambfbdaa", sum := "1a117e2a2a4c3acbce77e3abd478d6e5b9aa2f388a3479e2763618bf8d42b048", func := "trickle/tricklelaw34.UndoLogGenerations", spec := "undoLogGenerations", unfollowed := true, recurses := true, apart := false, narrowed := true }
def UndoLogGenerationsUptoSaid : Prop := undoLogGenerationsUptoRow.holds Try.pinned (OpenSpec.upto undoLogGenerationsSpec)

/-- 'tricklelaw34.UndoLogStateless', WHERE WHAT IT READS IS OF BULK AT MOST 1048576: true; the input reads as it did. -/
def undoLogStatelessUptoRow : OpenClaim := { program := "ytkkmiodambfbdaa", sum := "1a117e2a2a4c3acbce77e3abd478d6e5b9aa2f388a3479e2763618bf8d42b048", func := "trickle/tricklelaw34.UndoLogStateless", spec := "undoLogStateless", unfollowed := true, recurses := true, apart := false, narrowed := true }
def UndoLogStatelessUptoSaid : Prop := undoLogStatelessUptoRow.holds Try.pinned (OpenSpec.upto undoLogStatelessSpec)

/-- 'tricklelaw34.UndoLogOnce', WHERE WHAT IT READS IS OF BULK AT MOST 1048576: true; the input reads as it did. -/
def undoLogOnceUptoRow : OpenClaim := { program := "ytkkmiodambfbdaa", sum := "1a117e2a2a4c3acbce77e3abd478d6e5b9aa2f388a3479e2763618bf8d42b048", func := "trickle/tricklelaw34.UndoLogOnce", spec := "undoLogOnce", unfollowed := true, recurses := true, apart := false, narrowed := true }
def UndoLogOnceUptoSaid : Prop := undoLogOnceUptoRow.holds Try.pinned (OpenSpec.upto undoLogOnceSpec)

/-- 'tricklelaw34.UndoLogSize', WHERE WHAT IT READS IS OF BULK AT MOST 1048576: true; the input reads as it did. -/
def undoLogSizeUptoRow : OpenClaim := { program := "ytkkmiodambfbdaa", sum := "1a117e2a2a4c3acbce77e3abd478d6e5b9aa2f388a3479e2763618bf8d42b048", func := "trickle/tricklelaw34.UndoLogSize", spec := "undoLogSize", unfollowed := true, recurses := true, apart := false, narrowed := true }
def UndoLogSizeUptoSaid : Prop := undoLogSizeUptoRow.holds Try.pinned (OpenSpec.upto undoLogSizeSpec)

/-- 'tricklelaw34.UndoLogRestores', WHERE WHAT IT READS IS OF BULK AT MOST 1048576: true; the input reads as it did. -/
def undoLogRestoresUptoRow : OpenClaim := { program := "ytkkmiodambfbdaa", sum := "1a117e2a2a4c3acbce77e3abd478d6e5b9aa2f388a3479e2763618bf8d42b048", func := "trickle/tricklelaw34.UndoLogRestores", spec := "undoLogRestores", unfollowed := true, recurses := true, apart := false, narrowed := true }
def UndoLogRestoresUptoSaid : Prop := undoLogRestoresUptoRow.holds Try.pinned (OpenSpec.upto undoLogRestoresSpec)

/-- 'tricklelaw34.UndoLogRepeats', WHERE WHAT IT READS IS OF BULK AT MOST 1048576: true; the input reads as it did. -/
def undoLogRepeatsUptoRow : OpenClaim := { program := "ytkkmiodambfbdaa", sum := "1a117e2a2a4c3acbce77e3abd478d6e5b9aa2f388a3479e2763618bf8d42b048", func := "trickle/tricklelaw34.UndoLogRepeats", spec := "undoLogRepeats", unfollowed := true, recurses := true, apart := false, narrowed := true }
def UndoLogRepeatsUptoSaid : Prop := undoLogRepeatsUptoRow.holds Try.pinned (OpenSpec.upto undoLogRepeatsSpec)

/-- 'tricklelaw34.UndoLogMatches', WHERE WHAT IT READS IS OF BULK AT MOST 1048576: true; the input reads as it did. -/
def undoLogMatchesUptoRow : OpenClaim := { program := "ytkkmiodambfbdaa", sum := "1a117e2a2a4c3acbce77e3abd478d6e5b9aa2f388a3479e2763618bf8d42b048", func := "trickle/tricklelaw34.UndoLogMatches", spec := "undoLogMatches", unfollowed := true, recurses := true, apart := false, narrowed := true }
def UndoLogMatchesUptoSaid : Prop := undoLogMatchesUptoRow.holds Try.pinned (OpenSpec.upto undoLogMatchesSpec)

end Rows
end Go.Proofs.Ytkkmiodambfbdaa
