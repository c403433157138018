/- Loops along lists. -/
import Derived.Test.YtmoldheenagboaaLib7
set_option linter.unusedVariables false
set_option linter.unusedSectionVars false
namespace Go.Ab
variable {S X A α : Type} {B : S → Option (S ⊕ X)}
theorem foldl_append {β : Type} (f : A → List β) : ∀ (xs : List A) (a : List β), xs.foldl (fun a x => a ++ f x) a = a ++ xs.flatMap f
 | [], a => by simp
 | x :: xs, a => by rw [List.foldl_cons, foldl_append f xs, List.flatMap_cons, List.append_assoc]
theorem zmk {i : Nat} (h : i < 4294967296) : addI .i64 (i : Int) 1 = ((i + 1 : Nat) : Int) := by
 rw [zcx (by omega) (by omega)]; omega
theorem ziG {β : Type} {l : List β} (h : l.length ≤ 4294967296) : Nat.ble l.length 4294967296 = true := Nat.ble_eq_true_of_le h
end Go.Ab
