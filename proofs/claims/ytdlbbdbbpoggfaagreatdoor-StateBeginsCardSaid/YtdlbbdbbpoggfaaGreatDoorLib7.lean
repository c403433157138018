import Derived.Test.YtdlbbdbbpoggfaaGreatDoorLib6
import Derived.Laws.Strings
import Derived.IntWalk
set_option linter.unusedVariables false
set_option linter.unusedSimpArgs false
namespace Go.Ab
theorem cN {a b : Int} (h1 : -9223372036854775808 ≤ a + b) (h2 : a + b ≤ 9223372036854775807) : aI .i64 a b = a + b := IntWalk.i64_in _ ⟨h1, h2⟩
theorem bW {a b : Int} (h1 : -9223372036854775808 ≤ a - b) (h2 : a - b ≤ 9223372036854775807) : a8 .i64 a b = a - b := IntWalk.i64_in _ ⟨h1, h2⟩
theorem Ip {a b : Int} (h1 : -9223372036854775808 ≤ a * b) (h2 : a * b ≤ 9223372036854775807) : Mk .i64 a b = a * b := IntWalk.i64_in _ ⟨h1, h2⟩
theorem Nn {a : Int} (h1 : -9223372036854775808 ≤ a) (h2 : a ≤ 9223372036854775807) : aY .i64 a = a := IntWalk.i64_in _ ⟨h1, h2⟩
theorem pS {a : Int} (h1 : 0 ≤ a) (h2 : a ≤ 255) : aY .u8 a = a := IntWalk.u8_in _ ⟨h1, h2⟩
theorem zH (a : Int) : IntKind.u64.wrap a = a % 18446744073709551616 := by simp [IntKind.wrap, IntKind.bits, IntKind.signed]
theorem cW {a : Int} (h1 : 0 ≤ a) (h2 : a ≤ 18446744073709551615) : aY .u64 a = a := by
 show IntKind.u64.wrap a = a
 rw [zH]; omega
theorem BJ (a : Int) : aY .u8 a = a % 256 := IntKind.wrap_u8 a
theorem A9 {a b : Int} (h : 0 ≤ a) : LU a b = a % b := Int.tmod_eq_emod_of_nonneg h
theorem aE {α : Type} (xs : List α) (i : Nat) : aD xs (i : Int) = xs[i]? := by
 unfold aD
 rw [decide_eq_true (by omega)]
 rfl
theorem aC {α : Type} (xs : List α) : aA xs = (xs.length : Int) := rfl
theorem PD {x : Int} (h : (Lit.int .u16 x).wf = true) : 0 ≤ x ∧ x ≤ 65535 := by
 simp only [Lit.wf, yc, decide_eq_true_eq, IntKind.min, IntKind.max, IntKind.signed, IntKind.bits] at h
 simpa using h
theorem Hm {x : Int} (h : (Lit.int .u64 x).wf = true) : 0 ≤ x ∧ x ≤ 18446744073709551615 := by
 simp only [Lit.wf, yc, decide_eq_true_eq, IntKind.min, IntKind.max, IntKind.signed, IntKind.bits] at h
 simpa using h
theorem Av {x : Int} (h : (Lit.int .i64 x).wf = true) : -9223372036854775808 ≤ x ∧ x ≤ 9223372036854775807 := by
 simp only [Lit.wf, yc, decide_eq_true_eq, IntKind.min, IntKind.max, IntKind.signed, IntKind.bits] at h
 simpa using h
end Go.Ab
