/- The handles statement at the row's own data. -/
import Derived.Test.YtmfemlkbeehioaaModJ
import Derived.Test.YtmfemlkbeehioaaSaneRowPlain
set_option linter.unusedVariables false
namespace Sx
open Go Go.Ab
theorem handles_plain (d : TyD × Int) (hf : FitS (.cons (.agg (.cons (.int .i64) (.cons (.int .i64) .nil))) (.cons (.int .u8) .nil)) d) : ∃ n, law07SaneHandles n d.1.1 d.1.2 d.2 = some true := by
  obtain ⟨_, h3, _⟩ : (Fit (.int .i64) d.1.1 ∧ Fit (.int .i64) d.1.2 ∧ True) ∧ Fit (.int .u8) d.2 ∧ True := hf
  have hw : 0 ≤ d.2 ∧ d.2 ≤ 255 := by
    have := h3
    exact wf_u8 this
  exact ⟨10000, sane_handles d.1.1 d.1.2 d.2 hw⟩
end Sx
