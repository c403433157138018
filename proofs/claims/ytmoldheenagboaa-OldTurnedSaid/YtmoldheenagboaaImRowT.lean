/- The plain law of OldTurned at the row's own data. -/
import Derived.Test.YtmoldheenagboaaLaw7
import Derived.Test.YtmoldheenagboaaLaw1
set_option linter.unusedVariables false
namespace Sx
open Go Go.Ab
theorem zjB (d : StD × Int × Int) (hf : FitS (.cons shS (.cons (.int .u16) (.cons (.int .u32) .nil))) d) : ∃ n, law21OldTurned n d.1.1 d.1.2.1 d.1.2.2.1 d.1.2.2.2.1 d.1.2.2.2.2.1 d.1.2.2.2.2.2.1 d.1.2.2.2.2.2.2 d.2.1 d.2.2 = some true := by
 obtain ⟨h1, h2, h3, _⟩ : FitS shS d.1 ∧ Fit (.int .u16) d.2.1 ∧ Fit (.int .u32) d.2.2 ∧ True := hf
 obtain ⟨ho, hl⟩ := zjz h1
 exact ⟨100000000, zmu d.1 ho hl d.2.1 d.2.2 (zpU h2) (zlX h3)⟩
end Sx
