/- The plain laws at the rows' own data. -/
import Derived.Test.YtmlpkolbibopbaaSumLaw2
import Derived.Test.YtmlpkolbibopbaaLib30
set_option linter.unusedVariables false
namespace Sx
open Go Go.Ab
theorem bytes_fit {xs : List Int} (h : Fit (.sl false (.int .u8)) xs) : IsBytes xs := fun x hx => wf_u8 (h.2 x hx)
theorem one_plain (d : List Int × Int × Int) (hf : FitS (.cons (.sl true false (.int .u8)) (.cons (.int .u16) (.cons (.int .u8) .nil))) d) : ∃ n, law02SumOne n d.1 d.2.1 d.2.2 = some true :=
  ⟨_, sums_one d.1 d.2.1 d.2.2 (bytes_fit hf.1) (wf_u16 hf.2.1) (wf_u8 hf.2.2.1)⟩
theorem seals_plain (d : List Int) (hf : FitS (.cons (.sl true false (.int .u8)) .nil) d) : ∃ n, law02SumSeals n d = some true := ⟨_, sums_seals d (bytes_fit hf.1)⟩
theorem opens_plain (d : List Int) (hf : FitS (.cons (.sl true false (.int .u8)) .nil) d) : ∃ n, law02SumOpens n d = some true := ⟨_, sums_opens d (bytes_fit hf.1)⟩
theorem short_plain (d : List Int) (hf : FitS (.cons (.sl true false (.int .u8)) .nil) d) : ∃ n, law02SumShort n d = some true := ⟨_, sums_short d (bytes_fit hf.1)⟩
end Sx
