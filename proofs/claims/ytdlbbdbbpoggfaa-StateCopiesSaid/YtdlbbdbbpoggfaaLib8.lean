import Derived.Test.YtdlbbdbbpoggfaaLib7
import Derived.Laws.Strings
import Derived.IntWalk
set_option linter.unusedVariables false
namespace Go.Ab
theorem zmh {a b : Int} (h1 : -9223372036854775808 ≤ a + b) (h2 : a + b ≤ 9223372036854775807) : addI .i64 a b = a + b := IntWalk.i64_in _ ⟨h1, h2⟩
theorem zA {α : Type} (xs : List α) (i : Nat) : getI xs (i : Int) = xs[i]? := by
 unfold getI
 rw [decide_eq_true (by omega)]
 rfl
theorem zg {α : Type} (xs : List α) : lenI xs = (xs.length : Int) := rfl
end Go.Ab
