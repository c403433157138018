/- The plain laws at the rows' own data. -/
import Derived.Test.YtmfemlkbeehioaaMrY
import Derived.Test.YtmfemlkbeehioaaLib31
set_option linter.unusedVariables false
namespace Sx
open Go Go.Ab
theorem reads_plain (d : List Int) (hf : FitS (.cons (.sl true false (.int .u8)) .nil) d) : ∃ n, law06ModuleReads n d = some true := by
  obtain ⟨⟨_, h⟩, _⟩ : Fit (.sl false (.int .u8)) d ∧ True := hf
  exact ⟨10000, module_reads d fun x hx => wf_u8 (h x hx)⟩
end Sx
