/- What Decode gives has short lists. No condition. -/
import Derived.Test.YthpdpipcfhodoaaDec36c
namespace Go.Proofs.Ythpdpipcfhodoaa
open Go.RowKit
set_option linter.unusedVariables false

theorem decM_short (l : List Int) : shCp (decM l).1 := by
  unfold decM
  split
  · exact pm_short l
  · exact ⟨by decide, by decide, by decide, by decide⟩
end Go.Proofs.Ythpdpipcfhodoaa
