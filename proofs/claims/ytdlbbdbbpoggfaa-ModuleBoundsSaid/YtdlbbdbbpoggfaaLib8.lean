import Derived.Test.YtdlbbdbbpoggfaaLib7
import Derived.Laws.Strings
import Derived.IntWalk
set_option linter.unusedVariables false
set_option linter.unusedSimpArgs false
namespace Go.Ab
theorem sZ {a b : Int} (h : 0 ≤ a) : b5 a b = a % b := Int.tmod_eq_emod_of_nonneg h
theorem O6 {x : Int} (h : (Lit.int .u8 x).wf = true) : 0 ≤ x ∧ x ≤ 255 := by
 simp only [Lit.wf, yb, decide_eq_true_eq, IntKind.min, IntKind.max, IntKind.signed, IntKind.bits] at h
 simpa using h
end Go.Ab
