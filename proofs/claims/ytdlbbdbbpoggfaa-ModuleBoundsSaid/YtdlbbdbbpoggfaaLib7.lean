import Derived.Test.YtdlbbdbbpoggfaaLib6
set_option linter.unusedVariables false
set_option linter.unusedSectionVars false
namespace Go.Ab
variable {S X : Type} {B : S → Option (S ⊕ X)}
end Go.Ab
