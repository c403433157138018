/- Words of numbers in plain arithmetic. -/
import Derived.Test.YtliamnpngkojdaaDoorLib6
import Derived.Laws.Strings
import Derived.IntWalk
set_option linter.unusedVariables false
set_option linter.unusedSectionVars false
set_option linter.unusedSimpArgs false
namespace Go.Ab
theorem ziT {a b : Int} (h1 : -9223372036854775808 ≤ a + b) (h2 : a + b ≤ 9223372036854775807) : addI .i64 a b = a + b := IntWalk.i64_in _ ⟨h1, h2⟩
theorem zkQ {a b : Int} (h1 : -9223372036854775808 ≤ a - b) (h2 : a - b ≤ 9223372036854775807) : subI .i64 a b = a - b := IntWalk.i64_in _ ⟨h1, h2⟩
theorem zie {α : Type} (xs : List α) (i : Nat) : getI xs (i : Int) = xs[i]? := by
 unfold getI
 rw [decide_eq_true (by omega)]
 rfl
theorem zdA {α : Type} (xs : List α) : lenI xs = (xs.length : Int) := rfl
end Go.Ab
