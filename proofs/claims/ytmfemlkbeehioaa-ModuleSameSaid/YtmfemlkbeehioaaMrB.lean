/- Instructions as bytes; lists of types. -/
import Derived.Test.YtmfemlkbeehioaaMrA
set_option linter.unusedVariables false
set_option linter.unusedSimpArgs false
namespace Sx
open Go Go.Ab
/-! ### how many numbers an instruction has -/
def argsV (op : Int) : Int :=
  if op < 0 ∨ 42 ≤ op then -1 else if op = 29 ∨ op = 30 then 2
  else if op = 0 ∨ op = 1 ∨ op = 3 ∨ op = 4 ∨ op = 23 ∨ op = 24 ∨ op = 25 ∨ op = 27 ∨ op = 28 then 1 else 0
/-- Is an instruction none that may be? -/
def badI (i : Int × Int × Int) : Bool :=
  decide (argsV i.1 < 0 ∨ ¬ (0 ≤ i.2.1 ∧ i.2.1 ≤ 255 ∧ (argsV i.1 > 0 ∨ i.2.1 = 0)) ∨ ¬ (0 ≤ i.2.2 ∧ i.2.2 ≤ 255 ∧ (argsV i.1 > 1 ∨ i.2.2 = 0)))
def putV (i : Int × Int × Int) : List Int :=
  if badI i = true then [] else i.1 :: ((if argsV i.1 > 0 then varN i.2.1.toNat else []) ++ (if argsV i.1 > 1 then varN i.2.2.toNat else []))
end Sx
