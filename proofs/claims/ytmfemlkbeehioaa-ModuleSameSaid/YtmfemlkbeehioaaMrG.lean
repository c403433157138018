/- The rest of the document's bytes of a module; which modules are light. -/
import Derived.Test.YtmfemlkbeehioaaMrF
set_option linter.unusedVariables false
set_option linter.unusedSimpArgs false
namespace Sx
open Go Go.Ab
end Sx
