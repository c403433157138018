import Derived.Test.YtdlbbdbbpoggfaaLib33
import GoSem.ClaimJoined
import Derived.FnData
set_option linter.unusedVariables false
set_option linter.unusedSectionVars false
namespace Go.Ab
variable [GTab]
theorem GlobR.of_none {G : Gh} {w : World} (h : ∀ g, GTab.tab g = none) : GlobR G w := fun g q hq => by rw [h] at hq; cases hq
end Go.Ab
