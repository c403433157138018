import Derived.Test.YtmoldheenagboaaProg
import Derived.Test.YtmoldheenagboaaLib32
import Derived.Test.YtmoldheenagboaaImgRun2
import Derived.KernelRfl
open Go Go.Ab Go.Proofs
set_option linter.unusedVariables false
set_option maxRecDepth 20000
namespace Sx
noncomputable section
end
end Sx
