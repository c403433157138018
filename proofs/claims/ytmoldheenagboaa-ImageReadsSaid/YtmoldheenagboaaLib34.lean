import Derived.Test.YtmoldheenagboaaLib31
import GoSem.ClaimJoined
import Derived.FnData
set_option linter.unusedVariables false
set_option linter.unusedSectionVars false
namespace Go.Ab
variable [b8]
theorem oQ.of_none {G : Gh} {w : World} (h : ∀ g, b8.tab g = none) : oQ G w := fun g q z => by rw [h] at z; cases z
end Go.Ab
