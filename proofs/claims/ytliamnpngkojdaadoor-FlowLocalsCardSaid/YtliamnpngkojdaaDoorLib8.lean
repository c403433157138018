/- Loops along lists. -/
import Derived.Test.YtliamnpngkojdaaDoorLib7
set_option linter.unusedVariables false
set_option linter.unusedSectionVars false
namespace Go.Ab
variable {S X A α : Type} {B : S → Option (S ⊕ X)}
theorem zjS {β : Type} {l : List β} (h : l.length ≤ 4294967296) : Nat.ble l.length 4294967296 = true := Nat.ble_eq_true_of_le h
end Go.Ab
