/- What may be a module, and its bytes: what the program's functions come to. -/
import Derived.Test.YtmfemlkbeehioaaMrB
set_option linter.unusedVariables false
set_option linter.unusedSimpArgs false
namespace Sx
open Go Go.Ab
abbrev TyD := Int × Int
abbrev InD := Int × Int × Int
abbrev FnD := List TyD × Int × Int × List TyD × List InD
abbrev ImD := List TyD × Int × Int
/-! ### lists of types -/
theorem any_not {α : Type} (p : α → Bool) (l : List α) : (!l.any fun t => !p t) = l.all p := by
  induction l with
  | nil => rfl
  | cons x l ih => rw [List.any_cons, List.all_cons, ← ih]; cases p x <;> simp
/-! ### functions, imports, texts -/
/-! ### modules -/
structure ModD where
  recs : List (List TyD)
  funcs : List FnD
  imps : List ImD
  ints : List Int
  texts : List ByteArray
end Sx
