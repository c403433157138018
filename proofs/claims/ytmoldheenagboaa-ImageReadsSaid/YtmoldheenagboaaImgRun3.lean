import Derived.Test.YtmoldheenagboaaImgRun2
open Go Go.Ab Go.Proofs
set_option linter.unusedVariables false
set_option maxRecDepth 20000
namespace Sx
noncomputable section
end
end Sx
