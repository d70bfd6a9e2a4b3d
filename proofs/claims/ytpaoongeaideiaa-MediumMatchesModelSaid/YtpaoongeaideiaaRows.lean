/-
  No cell of these rows narrows 'for every input' (looked for: loops, veiled, ifaces, maps, wideKeys, modest, calm, conditions, laid).
  DERIVED. THE GIVEN ROWS OF THIS SEAT. 3 by the template 'for every input the law returns true; each argument reads behind the call as it read before'; 0 by the template 'total and deterministic' (their statements: YtpaoongeaideiaaTotals.lean).
  GIVEN WITH THE SEED: the statements are not yours to turn. If you find one false, say at which input.
  Laid BY PROGRAM, IN A SANDBOX (cutbox-rows.mjs): the forced cells as the released guide's own fill.sh prints them over the translation fb83ec5f66a529f9… (all of the seat's roots in one cut). By AI agents, Wed Nov 11 2026. No macro, syntax, notation, axiom, sorry.
-/
import Derived.Test.YtpaoongeaideiaaChecked
import GoSem.Claim
import GoSem.ClaimJoined
import GoSem.ClaimMapViews
import Derived.JoinedTies
import Derived.KernelRfl
namespace Go.Proofs.Ytpaoongeaideiaa
/- THE CELL 'sum', in the pinned program and in every row, IS THE sha256 OF THE DUMP (.gsa) THAT YtpaoongeaideiaaProg.lean LOADS. Nothing in Lean hashes anything: it is a label: what it is worth is what the hold of that sum in a sandbox is worth. -/
noncomputable def Try.pinned : Pinned := { name := "ytpaoongeaideiaa", sum := "fb83ec5f66a529f90af886a5b23c921ee46b79dbb2266a05b42ac3ee7db1959c", checked := Try.checked }
namespace Rows
def none {H : Type} : Left H := { results := [], args := [] }

/-- 'tricklelaw44.MediumCorruptsReversibly': WHATEVER THE INPUT: true; the input reads as it did. -/
def mediumCorruptsReversiblySpec : ChangeSpec := { name := "mediumCorruptsReversibly", fn := fun _ => fun
  | [d1, d2, d3] => { results := [.lit (.bool true)], args := [d1, d2, d3] }
  | _ => none }
def mediumCorruptsReversiblyRow : OpenClaim := { program := "ytpaoongeaideiaa", sum := "fb83ec5f66a529f90af886a5b23c921ee46b79dbb2266a05b42ac3ee7db1959c", func := "trickle/tricklelaw44.MediumCorruptsReversibly", spec := "mediumCorruptsReversibly", unfollowed := true, recurses := true, apart := false }
def MediumCorruptsReversiblySaid : Prop := mediumCorruptsReversiblyRow.holds Try.pinned (OpenSpec.ofChange mediumCorruptsReversiblySpec)

/-- ITS FALSE NEIGHBOUR: 'it returns false'. Refute it at one input. -/
def mediumCorruptsReversiblyWrong : ChangeSpec := { name := "mediumCorruptsReversibly", fn := fun _ => fun
  | [d1, d2, d3] => { results := [.lit (.bool false)], args := [d1, d2, d3] }
  | _ => none }
def MediumCorruptsReversiblyWrongFalsely : Prop := mediumCorruptsReversiblyRow.holds Try.pinned (OpenSpec.ofChange mediumCorruptsReversiblyWrong)

/-- 'tricklelaw44.MediumNumbersRise': WHATEVER THE INPUT: true; the input reads as it did. -/
def mediumNumbersRiseSpec : ChangeSpec := { name := "mediumNumbersRise", fn := fun _ => fun
  | [d] => { results := [.lit (.bool true)], args := [d] }
  | _ => none }
def mediumNumbersRiseRow : OpenClaim := { program := "ytpaoongeaideiaa", sum := "fb83ec5f66a529f90af886a5b23c921ee46b79dbb2266a05b42ac3ee7db1959c", func := "trickle/tricklelaw44.MediumNumbersRise", spec := "mediumNumbersRise", unfollowed := true, recurses := true, apart := false }
def MediumNumbersRiseSaid : Prop := mediumNumbersRiseRow.holds Try.pinned (OpenSpec.ofChange mediumNumbersRiseSpec)

/-- ITS FALSE NEIGHBOUR: 'it returns false'. Refute it at one input. -/
def mediumNumbersRiseWrong : ChangeSpec := { name := "mediumNumbersRise", fn := fun _ => fun
  | [d] => { results := [.lit (.bool false)], args := [d] }
  | _ => none }
def MediumNumbersRiseWrongFalsely : Prop := mediumNumbersRiseRow.holds Try.pinned (OpenSpec.ofChange mediumNumbersRiseWrong)

/-- 'tricklelaw44.MediumMatchesModel': WHATEVER THE INPUT: true; the input reads as it did. -/
def mediumMatchesModelSpec : ChangeSpec := { name := "mediumMatchesModel", fn := fun _ => fun
  | [d1, d2] => { results := [.lit (.bool true)], args := [d1, d2] }
  | _ => none }
def mediumMatchesModelRow : OpenClaim := { program := "ytpaoongeaideiaa", sum := "fb83ec5f66a529f90af886a5b23c921ee46b79dbb2266a05b42ac3ee7db1959c", func := "trickle/tricklelaw44.MediumMatchesModel", spec := "mediumMatchesModel", unfollowed := true, recurses := true, apart := false }
def MediumMatchesModelSaid : Prop := mediumMatchesModelRow.holds Try.pinned (OpenSpec.ofChange mediumMatchesModelSpec)

/-- ITS FALSE NEIGHBOUR: 'it returns false'. Refute it at one input. -/
def mediumMatchesModelWrong : ChangeSpec := { name := "mediumMatchesModel", fn := fun _ => fun
  | [d1, d2] => { results := [.lit (.bool false)], args := [d1, d2] }
  | _ => none }
def MediumMatchesModelWrongFalsely : Prop := mediumMatchesModelRow.holds Try.pinned (OpenSpec.ofChange mediumMatchesModelWrong)

/- THE SECOND FORM. 'bulk': how many values and letters a reading holds, each counted each time it is reached (what is shared counts as often as it is met; a slice's spare places count too). A statement '..UptoSaid' is the law's where the arguments, and the package variables that the reading takes, are together of bulk at most 1048576: NARROWER than '..Said'. Prove '..Said' where nothing that the law and all that it calls make is longer than what came in: it says more and counts as full. Else prove '..UptoSaid'. A law counts once. -/
mutual
def uptoBulk {H : Type} : DataW H → Nat
  | .lit (.string bytes) => bytes.length + 1
  | .lit _ => 1
  | .nil => 1
  | .ptr d => uptoBulk d + 1
  | .slice elems spare => uptoBulkAll elems + uptoBulkAll spare + 1
  | .agg parts => uptoBulkAll parts + 1
  | .iface _ d => uptoBulk d + 1
  | .map entries => uptoBulkEntries entries + 1
  | .held _ => 1
def uptoBulkAll {H : Type} : List (DataW H) → Nat
  | [] => 0
  | d :: r => uptoBulk d + uptoBulkAll r
def uptoBulkEntries {H : Type} : List (Lit × DataW H) → Nat
  | [] => 0
  | x :: r => uptoBulkEntry x + uptoBulkEntries r
def uptoBulkEntry {H : Type} : Lit × DataW H → Nat
  | (.string bytes, d) => bytes.length + uptoBulk d + 1
  | (_, d) => uptoBulk d + 1
 end
def uptoSmall : (H : Type) → List (DataW H) → Bool := fun _ ds => decide (uptoBulkAll ds ≤ 1048576)
def OpenSpec.upto (s : _root_.Go.ChangeSpec) : _root_.Go.OpenSpec := { _root_.Go.OpenSpec.ofChange s with cond := some uptoSmall }

/-- 'tricklelaw44.MediumCorruptsReversibly', WHERE WHAT IT READS IS OF BULK AT MOST 1048576: true; the input reads as it did. -/
def mediumCorruptsReversiblyUptoRow : OpenClaim := { program := "ytpaoongeaideiaa", sum := "fb83ec5f66a529f90af886a5b23c921ee46b79dbb2266a05b42ac3ee7db1959c", func := "trickle/tricklelaw44.MediumCorruptsReversibly", spec := "mediumCorruptsReversibly", unfollowed := true, recurses := true, apart := false, narrowed := true }
def MediumCorruptsReversiblyUptoSaid : Prop := mediumCorruptsReversiblyUptoRow.holds Try.pinned (OpenSpec.upto mediumCorruptsReversiblySpec)

/-- 'tricklelaw44.MediumNumbersRise', WHERE WHAT IT READS IS OF BULK AT MOST 1048576: true; the input reads as it did. -/
def mediumNumbersRiseUptoRow : OpenClaim := { program := "ytpaoongeaideiaa", sum := "fb83ec5f66a529f90af886a5b23c921ee46b79dbb2266a05b42ac3ee7db1959c", func := "trickle/tricklelaw44.MediumNumbersRise", spec := "mediumNumbersRise", unfollowed := true, recurses := true, apart := false, narrowed := true }
def MediumNumbersRiseUptoSaid : Prop := mediumNumbersRiseUptoRow.holds Try.pinned (OpenSpec.upto mediumNumbersRiseSpec)

/-- 'tricklelaw44.MediumMatchesModel', WHERE WHAT IT READS IS OF BULK AT MOST 1048576: true; the input reads as it did. -/
def mediumMatchesModelUptoRow : OpenClaim := { program := "ytpaoongeaideiaa", sum := "fb83ec5f66a529f90af886a5b23c921ee46b79dbb2266a05b42ac3ee7db1959c", func := "trickle/tricklelaw44.MediumMatchesModel", spec := "mediumMatchesModel", unfollowed := true, recurses := true, apart := false, narrowed := true }
def MediumMatchesModelUptoSaid : Prop := mediumMatchesModelUptoRow.holds Try.pinned (OpenSpec.upto mediumMatchesModelSpec)

end Rows
end Go.Proofs.Ytpaoongeaideiaa
