import Derived.Test.YtdlbbdbbpoggfaaLib32
import GoSem.ClaimJoined
import Derived.FnData
set_option linter.unusedVariables false
set_option linter.unusedSectionVars false
namespace Go.Ab
variable [b4]
theorem rG.of_none {G : Gh} {w : World} (h : ∀ g, b4.tab g = none) : rG G w := fun g q H => by rw [h] at H; cases H
end Go.Ab
