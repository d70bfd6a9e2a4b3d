/-
  No cell of these rows narrows 'for every input' (looked for: loops, veiled, ifaces, maps, wideKeys, modest, calm, conditions, laid).
  DERIVED. THE GIVEN ROWS OF THIS SEAT. 10 by the template 'for every input the law returns true; each argument reads behind the call as it read before'; 0 by the template 'total and deterministic' (their statements: YtfkejibahhppfaaTotals.lean).
  GIVEN WITH THE SEED: the statements are not yours to turn. If you find one false, say at which input.
  Laid BY PROGRAM, IN A SANDBOX (cutbox-rows.mjs): the forced cells as the released guide's own fill.sh prints them over the translation 4512be769b7bdd9c… (all of the seat's roots in one cut). By AI agents, Wed Nov 11 2026. No macro, syntax, notation, axiom, sorry.
-/
import Derived.Test.YtfkejibahhppfaaChecked
import GoSem.Claim
import GoSem.ClaimJoined
import GoSem.ClaimMapViews
import Derived.JoinedTies
import Derived.KernelRfl
namespace Go.Proofs.Ytfkejibahhppfaa
/- THE CELL 'sum', in the pinned program and in every row, IS THE sha256 OF THE DUMP (.gsa) THAT YtfkejibahhppfaaProg.lean LOADS. Nothing in Lean hashes anything: it is a label: what it is worth is what the hold of that sum in a sandbox is worth. -/
noncomputable def Try.pinned : Pinned := { name := "ytfkejibahhppfaa", sum := "4512be769b7bdd9c919a696156217d3b7f96a393971e55866bac3cc3cdf85033", checked := Try.checked }
namespace Rows
def none {H : Type} : Left H := { results := [], args := [] }

/-- 'tricklelaw07.NVMWords': WHATEVER THE INPUT: true; the input reads as it did. -/
def nVMWordsSpec : ChangeSpec := { name := "nVMWords", fn := fun _ => fun
  | [d1, d2] => { results := [.lit (.bool true)], args := [d1, d2] }
  | _ => none }
def nVMWordsRow : OpenClaim := { program := "ytfkejibahhppfaa", sum := "4512be769b7bdd9c919a696156217d3b7f96a393971e55866bac3cc3cdf85033", func := "trickle/tricklelaw07.NVMWords", spec := "nVMWords", unfollowed := true, recurses := true, apart := false }
def NVMWordsSaid : Prop := nVMWordsRow.holds Try.pinned (OpenSpec.ofChange nVMWordsSpec)

/-- ITS FALSE NEIGHBOUR: 'it returns false'. Refute it at one input. -/
def nVMWordsWrong : ChangeSpec := { name := "nVMWords", fn := fun _ => fun
  | [d1, d2] => { results := [.lit (.bool false)], args := [d1, d2] }
  | _ => none }
def NVMWordsWrongFalsely : Prop := nVMWordsRow.holds Try.pinned (OpenSpec.ofChange nVMWordsWrong)

/-- 'tricklelaw07.NVMMeter': WHATEVER THE INPUT: true; the input reads as it did. -/
def nVMMeterSpec : ChangeSpec := { name := "nVMMeter", fn := fun _ => fun
  | [d1, d2] => { results := [.lit (.bool true)], args := [d1, d2] }
  | _ => none }
def nVMMeterRow : OpenClaim := { program := "ytfkejibahhppfaa", sum := "4512be769b7bdd9c919a696156217d3b7f96a393971e55866bac3cc3cdf85033", func := "trickle/tricklelaw07.NVMMeter", spec := "nVMMeter", unfollowed := true, recurses := true, apart := false }
def NVMMeterSaid : Prop := nVMMeterRow.holds Try.pinned (OpenSpec.ofChange nVMMeterSpec)

/-- ITS FALSE NEIGHBOUR: 'it returns false'. Refute it at one input. -/
def nVMMeterWrong : ChangeSpec := { name := "nVMMeter", fn := fun _ => fun
  | [d1, d2] => { results := [.lit (.bool false)], args := [d1, d2] }
  | _ => none }
def NVMMeterWrongFalsely : Prop := nVMMeterRow.holds Try.pinned (OpenSpec.ofChange nVMMeterWrong)

/-- 'tricklelaw07.NVMArm': WHATEVER THE INPUT: true; the input reads as it did. -/
def nVMArmSpec : ChangeSpec := { name := "nVMArm", fn := fun _ => fun
  | [d1, d2, d3] => { results := [.lit (.bool true)], args := [d1, d2, d3] }
  | _ => none }
def nVMArmRow : OpenClaim := { program := "ytfkejibahhppfaa", sum := "4512be769b7bdd9c919a696156217d3b7f96a393971e55866bac3cc3cdf85033", func := "trickle/tricklelaw07.NVMArm", spec := "nVMArm", unfollowed := true, recurses := true, apart := false }
def NVMArmSaid : Prop := nVMArmRow.holds Try.pinned (OpenSpec.ofChange nVMArmSpec)

/-- ITS FALSE NEIGHBOUR: 'it returns false'. Refute it at one input. -/
def nVMArmWrong : ChangeSpec := { name := "nVMArm", fn := fun _ => fun
  | [d1, d2, d3] => { results := [.lit (.bool false)], args := [d1, d2, d3] }
  | _ => none }
def NVMArmWrongFalsely : Prop := nVMArmRow.holds Try.pinned (OpenSpec.ofChange nVMArmWrong)

/-- 'tricklelaw07.NVMOff': WHATEVER THE INPUT: true; the input reads as it did. -/
def nVMOffSpec : ChangeSpec := { name := "nVMOff", fn := fun _ => fun
  | [d1, d2, d3] => { results := [.lit (.bool true)], args := [d1, d2, d3] }
  | _ => none }
def nVMOffRow : OpenClaim := { program := "ytfkejibahhppfaa", sum := "4512be769b7bdd9c919a696156217d3b7f96a393971e55866bac3cc3cdf85033", func := "trickle/tricklelaw07.NVMOff", spec := "nVMOff", unfollowed := true, recurses := true, apart := false }
def NVMOffSaid : Prop := nVMOffRow.holds Try.pinned (OpenSpec.ofChange nVMOffSpec)

/-- ITS FALSE NEIGHBOUR: 'it returns false'. Refute it at one input. -/
def nVMOffWrong : ChangeSpec := { name := "nVMOff", fn := fun _ => fun
  | [d1, d2, d3] => { results := [.lit (.bool false)], args := [d1, d2, d3] }
  | _ => none }
def NVMOffWrongFalsely : Prop := nVMOffRow.holds Try.pinned (OpenSpec.ofChange nVMOffWrong)

/-- 'tricklelaw07.NVMNoAliasing': WHATEVER THE INPUT: true; the input reads as it did. -/
def nVMNoAliasingSpec : ChangeSpec := { name := "nVMNoAliasing", fn := fun _ => fun
  | [d] => { results := [.lit (.bool true)], args := [d] }
  | _ => none }
def nVMNoAliasingRow : OpenClaim := { program := "ytfkejibahhppfaa", sum := "4512be769b7bdd9c919a696156217d3b7f96a393971e55866bac3cc3cdf85033", func := "trickle/tricklelaw07.NVMNoAliasing", spec := "nVMNoAliasing", unfollowed := true, recurses := true, apart := false }
def NVMNoAliasingSaid : Prop := nVMNoAliasingRow.holds Try.pinned (OpenSpec.ofChange nVMNoAliasingSpec)

/-- ITS FALSE NEIGHBOUR: 'it returns false'. Refute it at one input. -/
def nVMNoAliasingWrong : ChangeSpec := { name := "nVMNoAliasing", fn := fun _ => fun
  | [d] => { results := [.lit (.bool false)], args := [d] }
  | _ => none }
def NVMNoAliasingWrongFalsely : Prop := nVMNoAliasingRow.holds Try.pinned (OpenSpec.ofChange nVMNoAliasingWrong)

/-- 'tricklelaw07.NVMMatchesModel': WHATEVER THE INPUT: true; the input reads as it did. -/
def nVMMatchesModelSpec : ChangeSpec := { name := "nVMMatchesModel", fn := fun _ => fun
  | [d1, d2] => { results := [.lit (.bool true)], args := [d1, d2] }
  | _ => none }
def nVMMatchesModelRow : OpenClaim := { program := "ytfkejibahhppfaa", sum := "4512be769b7bdd9c919a696156217d3b7f96a393971e55866bac3cc3cdf85033", func := "trickle/tricklelaw07.NVMMatchesModel", spec := "nVMMatchesModel", unfollowed := true, recurses := true, apart := false }
def NVMMatchesModelSaid : Prop := nVMMatchesModelRow.holds Try.pinned (OpenSpec.ofChange nVMMatchesModelSpec)

/-- ITS FALSE NEIGHBOUR: 'it returns false'. Refute it at one input. -/
def nVMMatchesModelWrong : ChangeSpec := { name := "nVMMatchesModel", fn := fun _ => fun
  | [d1, d2] => { results := [.lit (.bool false)], args := [d1, d2] }
  | _ => none }
def NVMMatchesModelWrongFalsely : Prop := nVMMatchesModelRow.holds Try.pinned (OpenSpec.ofChange nVMMatchesModelWrong)

/-- 'tricklelaw35.RingNoAliasing': WHATEVER THE INPUT: true; the input reads as it did. -/
def ringNoAliasingSpec : ChangeSpec := { name := "ringNoAliasing", fn := fun _ => fun
  | [d] => { results := [.lit (.bool true)], args := [d] }
  | _ => none }
def ringNoAliasingRow : OpenClaim := { program := "ytfkejibahhppfaa", sum := "4512be769b7bdd9c919a696156217d3b7f96a393971e55866bac3cc3cdf85033", func := "trickle/tricklelaw35.RingNoAliasing", spec := "ringNoAliasing", unfollowed := true, recurses := true, apart := false }
def RingNoAliasingSaid : Prop := ringNoAliasingRow.holds Try.pinned (OpenSpec.ofChange ringNoAliasingSpec)

/-- ITS FALSE NEIGHBOUR: 'it returns false'. Refute it at one input. -/
def ringNoAliasingWrong : ChangeSpec := { name := "ringNoAliasing", fn := fun _ => fun
  | [d] => { results := [.lit (.bool false)], args := [d] }
  | _ => none }
def RingNoAliasingWrongFalsely : Prop := ringNoAliasingRow.holds Try.pinned (OpenSpec.ofChange ringNoAliasingWrong)

/-- 'tricklelaw35.RingOutside': WHATEVER THE INPUT: true; the input reads as it did. -/
def ringOutsideSpec : ChangeSpec := { name := "ringOutside", fn := fun _ => fun
  | [d1, d2] => { results := [.lit (.bool true)], args := [d1, d2] }
  | _ => none }
def ringOutsideRow : OpenClaim := { program := "ytfkejibahhppfaa", sum := "4512be769b7bdd9c919a696156217d3b7f96a393971e55866bac3cc3cdf85033", func := "trickle/tricklelaw35.RingOutside", spec := "ringOutside", unfollowed := true, recurses := true, apart := false }
def RingOutsideSaid : Prop := ringOutsideRow.holds Try.pinned (OpenSpec.ofChange ringOutsideSpec)

/-- ITS FALSE NEIGHBOUR: 'it returns false'. Refute it at one input. -/
def ringOutsideWrong : ChangeSpec := { name := "ringOutside", fn := fun _ => fun
  | [d1, d2] => { results := [.lit (.bool false)], args := [d1, d2] }
  | _ => none }
def RingOutsideWrongFalsely : Prop := ringOutsideRow.holds Try.pinned (OpenSpec.ofChange ringOutsideWrong)

/-- 'tricklelaw35.RingMatchesModel': WHATEVER THE INPUT: true; the input reads as it did. -/
def ringMatchesModelSpec : ChangeSpec := { name := "ringMatchesModel", fn := fun _ => fun
  | [d1, d2] => { results := [.lit (.bool true)], args := [d1, d2] }
  | _ => none }
def ringMatchesModelRow : OpenClaim := { program := "ytfkejibahhppfaa", sum := "4512be769b7bdd9c919a696156217d3b7f96a393971e55866bac3cc3cdf85033", func := "trickle/tricklelaw35.RingMatchesModel", spec := "ringMatchesModel", unfollowed := true, recurses := true, apart := false }
def RingMatchesModelSaid : Prop := ringMatchesModelRow.holds Try.pinned (OpenSpec.ofChange ringMatchesModelSpec)

/-- ITS FALSE NEIGHBOUR: 'it returns false'. Refute it at one input. -/
def ringMatchesModelWrong : ChangeSpec := { name := "ringMatchesModel", fn := fun _ => fun
  | [d1, d2] => { results := [.lit (.bool false)], args := [d1, d2] }
  | _ => none }
def RingMatchesModelWrongFalsely : Prop := ringMatchesModelRow.holds Try.pinned (OpenSpec.ofChange ringMatchesModelWrong)

/-- 'tricklelaw35.RingPower': WHATEVER THE INPUT: true; the input reads as it did. -/
def ringPowerSpec : ChangeSpec := { name := "ringPower", fn := fun _ => fun
  | [d1, d2, d3] => { results := [.lit (.bool true)], args := [d1, d2, d3] }
  | _ => none }
def ringPowerRow : OpenClaim := { program := "ytfkejibahhppfaa", sum := "4512be769b7bdd9c919a696156217d3b7f96a393971e55866bac3cc3cdf85033", func := "trickle/tricklelaw35.RingPower", spec := "ringPower", unfollowed := true, recurses := true, apart := false }
def RingPowerSaid : Prop := ringPowerRow.holds Try.pinned (OpenSpec.ofChange ringPowerSpec)

/-- ITS FALSE NEIGHBOUR: 'it returns false'. Refute it at one input. -/
def ringPowerWrong : ChangeSpec := { name := "ringPower", fn := fun _ => fun
  | [d1, d2, d3] => { results := [.lit (.bool false)], args := [d1, d2, d3] }
  | _ => none }
def RingPowerWrongFalsely : Prop := ringPowerRow.holds Try.pinned (OpenSpec.ofChange ringPowerWrong)

/- THE SECOND FORM. 'bulk': how many values and letters a reading holds, each counted each time it is reached (what is shared counts as often as it is met; a slice's spare places count too). A statement '..UptoSaid' is the law's where the arguments, and the package variables that the reading takes, are together of bulk at most 1048576: NARROWER than '..Said'. Prove '..Said' where nothing that the law and all that it calls make is longer than what came in: it says more and counts as full. Else prove '..UptoSaid'. A law counts once. -/
mutual
def uptoBulk {H : Type} : DataW H → Nat
  | .lit (.string bytes) => bytes.length + 1
  | .lit _ => 1
  | .nil => 1
  | .ptr d => uptoBulk d + 1
  | .slice elems spare => uptoBulkAll elems + uptoBulkAll spare + 1
  | .agg parts => uptoBulkAll parts + 1
  | .iface _ d => uptoBulk d + 1
  | .map entries => uptoBulkEntries entries + 1
  | .held _ => 1
def uptoBulkAll {H : Type} : List (DataW H) → Nat
  | [] => 0
  | d :: r => uptoBulk d + uptoBulkAll r
def uptoBulkEntries {H : Type} : List (Lit × DataW H) → Nat
  | [] => 0
  | x :: r => uptoBulkEntry x + uptoBulkEntries r
def uptoBulkEntry {H : Type} : Lit × DataW H → Nat
  | (.string bytes, d) => bytes.length + uptoBulk d + 1
  | (_, d) => uptoBulk d + 1
 end
def uptoSmall : (H : Type) → List (DataW H) → Bool := fun _ ds => decide (uptoBulkAll ds ≤ 1048576)
def OpenSpec.upto (s : _root_.Go.ChangeSpec) : _root_.Go.OpenSpec := { _root_.Go.OpenSpec.ofChange s with cond := some uptoSmall }

/-- 'tricklelaw07.NVMWords', WHERE WHAT IT READS IS OF BULK AT MOST 1048576: true; the input reads as it did. -/
def nVMWordsUptoRow : OpenClaim := { program := "ytfkejibahhppfaa", sum := "4512be769b7bdd9c919a696156217d3b7f96a393971e55866bac3cc3cdf85033", func := "trickle/tricklelaw07.NVMWords", spec := "nVMWords", unfollowed := true, recurses := true, apart := false, narrowed := true }
def NVMWordsUptoSaid : Prop := nVMWordsUptoRow.holds Try.pinned (OpenSpec.upto nVMWordsSpec)

/-- 'tricklelaw07.NVMMeter', WHERE WHAT IT READS IS OF BULK AT MOST 1048576: true; the input reads as it did. -/
def nVMMeterUptoRow : OpenClaim := { program := "ytfkejibahhppfaa", sum := "4512be769b7bdd9c919a696156217d3b7f96a393971e55866bac3cc3cdf85033", func := "trickle/tricklelaw07.NVMMeter", spec := "nVMMeter", unfollowed := true, recurses := true, apart := false, narrowed := true }
def NVMMeterUptoSaid : Prop := nVMMeterUptoRow.holds Try.pinned (OpenSpec.upto nVMMeterSpec)

/-- 'tricklelaw07.NVMArm', WHERE WHAT IT READS IS OF BULK AT MOST 1048576: true; the input reads as it did. -/
def nVMArmUptoRow : OpenClaim := { program := "ytfkejibahhppfaa", sum := "4512be769b7bdd9c919a696156217d3b7f96a393971e55866bac3cc3cdf85033", func := "trickle/tricklelaw07.NVMArm", spec := "nVMArm", unfollowed := true, recurses := true, apart := false, narrowed := true }
def NVMArmUptoSaid : Prop := nVMArmUptoRow.holds Try.pinned (OpenSpec.upto nVMArmSpec)

/-- 'tricklelaw07.NVMOff', WHERE WHAT IT READS IS OF BULK AT MOST 1048576: true; the input reads as it did. -/
def nVMOffUptoRow : OpenClaim := { program := "ytfkejibahhppfaa", sum := "4512be769b7bdd9c919a696156217d3b7f96a393971e55866bac3cc3cdf85033", func := "trickle/tricklelaw07.NVMOff", spec := "nVMOff", unfollowed := true, recurses := true, apart := false, narrowed := true }
def NVMOffUptoSaid : Prop := nVMOffUptoRow.holds Try.pinned (OpenSpec.upto nVMOffSpec)

/-- 'tricklelaw07.NVMNoAliasing', WHERE WHAT IT READS IS OF BULK AT MOST 1048576: true; the input reads as it did. -/
def nVMNoAliasingUptoRow : OpenClaim := { program := "ytfkejibahhppfaa", sum := "4512be769b7bdd9c919a696156217d3b7f96a393971e55866bac3cc3cdf85033", func := "trickle/tricklelaw07.NVMNoAliasing", spec := "nVMNoAliasing", unfollowed := true, recurses := true, apart := false, narrowed := true }
def NVMNoAliasingUptoSaid : Prop := nVMNoAliasingUptoRow.holds Try.pinned (OpenSpec.upto nVMNoAliasingSpec)

/-- 'tricklelaw07.NVMMatchesModel', WHERE WHAT IT READS IS OF BULK AT MOST 1048576: true; the input reads as it did. -/
def nVMMatchesModelUptoRow : OpenClaim := { program := "ytfkejibahhppfaa", sum := "4512be769b7bdd9c919a696156217d3b7f96a393971e55866bac3cc3cdf85033", func := "trickle/tricklelaw07.NVMMatchesModel", spec := "nVMMatchesModel", unfollowed := true, recurses := true, apart := false, narrowed := true }
def NVMMatchesModelUptoSaid : Prop := nVMMatchesModelUptoRow.holds Try.pinned (OpenSpec.upto nVMMatchesModelSpec)

/-- 'tricklelaw35.RingNoAliasing', WHERE WHAT IT READS IS OF BULK AT MOST 1048576: true; the input reads as it did. -/
def ringNoAliasingUptoRow : OpenClaim := { program := "ytfkejibahhppfaa", sum := "4512be769b7bdd9c919a696156217d3b7f96a393971e55866bac3cc3cdf85033", func := "trickle/tricklelaw35.RingNoAliasing", spec := "ringNoAliasing", unfollowed := true, recurses := true, apart := false, narrowed := true }
def RingNoAliasingUptoSaid : Prop := ringNoAliasingUptoRow.holds Try.pinned (OpenSpec.upto ringNoAliasingSpec)

/-- 'tricklelaw35.RingOutside', WHERE WHAT IT READS IS OF BULK AT MOST 1048576: true; the input reads as it did. -/
def ringOutsideUptoRow : OpenClaim := { program := "ytfkejibahhppfaa", sum := "4512be769b7bdd9c919a696156217d3b7f96a393971e55866bac3cc3cdf85033", func := "trickle/tricklelaw35.RingOutside", spec := "ringOutside", unfollowed := true, recurses := true, apart := false, narrowed := true }
def RingOutsideUptoSaid : Prop := ringOutsideUptoRow.holds Try.pinned (OpenSpec.upto ringOutsideSpec)

/-- 'tricklelaw35.RingMatchesModel', WHERE WHAT IT READS IS OF BULK AT MOST 1048576: true; the input reads as it did. -/
def ringMatchesModelUptoRow : OpenClaim := { program := "ytfkejibahhppfaa", sum := "4512be769b7bdd9c919a696156217d3b7f96a393971e55866bac3cc3cdf85033", func := "trickle/tricklelaw35.RingMatchesModel", spec := "ringMatchesModel", unfollowed := true, recurses := true, apart := false, narrowed := true }
def RingMatchesModelUptoSaid : Prop := ringMatchesModelUptoRow.holds Try.pinned (OpenSpec.upto ringMatchesModelSpec)

/-- 'tricklelaw35.RingPower', WHERE WHAT IT READS IS OF BULK AT MOST 1048576: true; the input reads as it did. -/
def ringPowerUptoRow : OpenClaim := { program := "ytfkejibahhppfaa", sum := "4512be769b7bdd9c919a696156217d3b7f96a393971e55866bac3cc3cdf85033", func := "trickle/tricklelaw35.RingPower", spec := "ringPower", unfollowed := true, recurses := true, apart := false, narrowed := true }
def RingPowerUptoSaid : Prop := ringPowerUptoRow.holds Try.pinned (OpenSpec.upto ringPowerSpec)

end Rows
end Go.Proofs.Ytfkejibahhppfaa
