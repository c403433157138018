/- Words of numbers in plain arithmetic. -/
import Derived.Test.YtliamnpngkojdaaDoorLib6
import Derived.Laws.Strings
import Derived.IntWalk
set_option linter.unusedVariables false
set_option linter.unusedSectionVars false
set_option linter.unusedSimpArgs false
namespace Go.Ab
theorem zaf {a b : Int} (h1 : -9223372036854775808 ≤ a + b) (h2 : a + b ≤ 9223372036854775807) : addI .i64 a b = a + b := IntWalk.i64_in _ ⟨h1, h2⟩
theorem zA {a b : Int} (h1 : -9223372036854775808 ≤ a - b) (h2 : a - b ≤ 9223372036854775807) : subI .i64 a b = a - b := IntWalk.i64_in _ ⟨h1, h2⟩
theorem zkP {a b : Int} (h1 : -9223372036854775808 ≤ a * b) (h2 : a * b ≤ 9223372036854775807) : mulI .i64 a b = a * b := IntWalk.i64_in _ ⟨h1, h2⟩
theorem zcC {a : Int} (h1 : 0 ≤ a) (h2 : a ≤ 255) : cvtI .u8 a = a := IntWalk.u8_in _ ⟨h1, h2⟩
theorem wrapU64 (a : Int) : IntKind.u64.wrap a = a % 18446744073709551616 := by simp [IntKind.wrap, IntKind.bits, IntKind.signed]
theorem zG {a : Int} (h1 : 0 ≤ a) (h2 : a ≤ 18446744073709551615) : cvtI .u64 a = a := by
 show IntKind.u64.wrap a = a
 rw [wrapU64]; omega
theorem zgx (a : Int) : cvtI .u8 a = a % 256 := IntKind.wrap_u8 a
theorem zde {a b : Int} (h : 0 ≤ a) : remI a b = a % b := Int.tmod_eq_emod_of_nonneg h
theorem ze {α : Type} (xs : List α) (i : Nat) : getI xs (i : Int) = xs[i]? := by
 unfold getI
 rw [decide_eq_true (by omega)]
 rfl
theorem zb {α : Type} (xs : List α) : lenI xs = (xs.length : Int) := rfl
theorem zpn {x : Int} (h : (Lit.int .u8 x).wf = true) : 0 ≤ x ∧ x ≤ 255 := by
 simp only [Lit.wf, Bool.and_eq_true, decide_eq_true_eq, IntKind.min, IntKind.max, IntKind.signed, IntKind.bits] at h
 simpa using h
theorem zpk {x : Int} (h : (Lit.int .u64 x).wf = true) : 0 ≤ x ∧ x ≤ 18446744073709551615 := by
 simp only [Lit.wf, Bool.and_eq_true, decide_eq_true_eq, IntKind.min, IntKind.max, IntKind.signed, IntKind.bits] at h
 simpa using h
theorem zfB {x : Int} (h : (Lit.int .i64 x).wf = true) : -9223372036854775808 ≤ x ∧ x ≤ 9223372036854775807 := by
 simp only [Lit.wf, Bool.and_eq_true, decide_eq_true_eq, IntKind.min, IntKind.max, IntKind.signed, IntKind.bits] at h
 simpa using h
end Go.Ab
