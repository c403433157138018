/- Plain laws (texts LsTwo, FwA, FwL, FwRowL). -/
import Derived.Test.YtliamnpngkojdaaDoorLib8
import Derived.Test.YtliamnpngkojdaaDoorLib7
import Derived.Test.YtliamnpngkojdaaDoorFlSh
import Derived.KernelRfl
import Derived.Test.YtliamnpngkojdaaDoorLib31
section
/- Lists side by side. -/
set_option linter.unusedVariables false
set_option linter.unusedSimpArgs false
namespace Sx
open Go Go.Ab
end Sx
end
section
/- Which types do for one another; stacks; locals. -/
set_option linter.unusedVariables false
set_option linter.unusedSimpArgs false
namespace Sx
open Go Go.Ab
def localV (a l : List (Int × Int)) (k : Int) : Int × Int := if 0 ≤ k ∧ k < (a.length + l.length : Int) then (a ++ l).getD k.toNat (8, 0) else (8, 0)
theorem qay_eq (n : Nat) (a : List (Int × Int)) (r0 r1 : Int) (l : List (Int × Int)) (c : List (Int × Int × Int)) (k : Int) (hl : a.length + l.length ≤ 4294967296) : qay n a r0 r1 l c k = some (localV a l k) := by
 unfold qay localV
 rw [zdA, zdA, ziT (by omega) (by omega)]
 by_cases h0 : k ≥ 0
 ·rw [decide_eq_true h0]
  simp only [cond_true]
  obtain ⟨j, rfl⟩ : ∃ j : Nat, k = (j : Int) := ⟨k.toNat, by omega⟩
  by_cases h1 : (j : Int) < (a.length : Int)
  ·have hj : j < a.length := by omega
   rw [decide_eq_true h1, cond_true, zie, if_pos (by omega), Int.toNat_natCast, List.getElem?_eq_getElem hj, Option.bind_some, List.getD_eq_getElem?_getD, List.getElem?_append_left hj, List.getElem?_eq_getElem hj]
   rfl
  ·rw [decide_eq_false h1, cond_false]
   by_cases h2 : (j : Int) < (a.length : Int) + (l.length : Int)
   ·have hj : j - a.length < l.length := by omega
    rw [decide_eq_true h2, cond_true, if_pos (by omega), zkQ (by omega) (by omega)]
    have : (j : Int) - (a.length : Int) = ((j - a.length : Nat) : Int) := by omega
    rw [this, zie, List.getElem?_eq_getElem hj, Option.bind_some, Int.toNat_natCast, List.getD_eq_getElem?_getD, List.getElem?_append_right (by omega), List.getElem?_eq_getElem hj]
    rfl
   ·rw [decide_eq_false h2, cond_false, if_neg (by omega)]
 ·rw [decide_eq_false h0]
  simp only [cond_false]
  rw [if_neg (by omega)]
theorem zhV (n : Nat) (a : List (Int × Int)) (r0 r1 : Int) (l : List (Int × Int)) (c : List (Int × Int × Int)) (k : Int) (hl : a.length + l.length ≤ 4294967296) : qam n a r0 r1 l c k = some (localV a l k) := by
 unfold qam localV
 rw [zjS (by omega), cond_true, zjS (by rw [List.length_append]; omega), cond_true, zdA, List.length_append]
 by_cases h0 : k < 0
 ·rw [decide_eq_true h0, cond_true, if_neg (by omega)]
 ·rw [decide_eq_false h0, cond_false]
  obtain ⟨j, rfl⟩ : ∃ j : Nat, k = (j : Int) := ⟨k.toNat, by omega⟩
  by_cases h1 : (j : Int) ≥ ((a.length + l.length : Nat) : Int)
  ·rw [decide_eq_true h1, cond_true, if_neg (by omega)]
  ·have hj : j < (a ++ l).length := by rw [List.length_append]; omega
   rw [decide_eq_false h1, cond_false, decide_eq_true (by omega : (0 : Int) ≤ (j : Int)), decide_eq_true (by omega : (j : Int) < ((a.length + l.length : Nat) : Int)), Bool.and_self, cond_true, if_pos (by omega), Int.toNat_natCast, List.getElem?_eq_getElem hj,
    Option.bind_some, List.getD_eq_getElem?_getD, List.getElem?_eq_getElem hj]
   rfl
end Sx
end
section
/- The statements on locals, on stacks that do for one another, on a type that nobody uses again. -/
set_option linter.unusedVariables false
set_option linter.unusedSimpArgs false
set_option maxRecDepth 100000
namespace Sx
open Go Go.Ab
theorem answers8 : qad 10000 = some true := by kernel_rfl
theorem zig (a : List (Int × Int)) (r0 r1 : Int) (l : List (Int × Int)) (c : List (Int × Int × Int)) (k : Int) (ha : a.length ≤ 140737488355328) (hl : l.length ≤ 140737488355328) : law08FlowLocals 10000 a r0 r1 l c k = some true := by
 unfold law08FlowLocals
 rw [answers8, zdA, zdA, ziT (by omega) (by omega)]
 by_cases h : (a.length : Int) + (l.length : Int) > 100
 ·rw [decide_eq_true h]; rfl
 ·rw [decide_eq_false h, cond_false, Option.bind_some, cond_true, qay_eq _ _ _ _ _ _ _ (by omega), Option.bind_some, zhV _ _ _ _ _ _ _ (by omega), Option.bind_some]
  simp
end Sx
end
section
/- The plain laws at the rows' own data. -/
set_option linter.unusedVariables false
namespace Sx
open Go Go.Ab
abbrev tyT : Ty := .cons (.int .i64) (.int .i64)
abbrev inT : Ty := .cons (.int .i64) (.cons (.int .i64) (.int .i64))
def shF : Sh := .agg (.cons (.sl true true tyT) (.cons (.int .i64) (.cons (.int .i64) (.cons (.sl true true tyT) (.cons (.sl true true inT) .nil)))))
abbrev FTup := List (Int × Int) × Int × Int × List (Int × Int) × List (Int × Int × Int)
theorem zht (d : FTup × Int) (hf : FitS (.cons shF (.cons (.int .i64) .nil)) d) : ∃ n, law08FlowLocals n d.1.1 d.1.2.1 d.1.2.2.1 d.1.2.2.2.1 d.1.2.2.2.2 d.2 = some true := by
 obtain ⟨h1, h2, _⟩ : FitS shF d.1 ∧ Fit (.int .i64) d.2 ∧ True := hf
 obtain ⟨⟨a1, _⟩, a2, a3, ⟨a4, _⟩, _⟩ : Fit (.sl true tyT) d.1.1 ∧ Fit (.int .i64) d.1.2.1 ∧ Fit (.int .i64) d.1.2.2.1 ∧ Fit (.sl true tyT) d.1.2.2.2.1 ∧ FitS (.cons (.sl true true inT) .nil) d.1.2.2.2.2 := h1
 exact ⟨10000, zig _ _ _ _ _ _ (Nat.le_trans a1 (by decide)) (Nat.le_trans a4 (by decide))⟩
end Sx
end
