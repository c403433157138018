/- The bytes of a module, as the document has them. -/
import Derived.Test.YtmfemlkbeehioaaMrE
set_option linter.unusedVariables false
set_option linter.unusedSimpArgs false
namespace Sx
open Go Go.Ab
/-! ### modules that are not too large -/
structure LightM (m : ModD) : Prop where
  n1 : m.recs.length ≤ 200
  n2 : m.funcs.length ≤ 200
  n3 : m.imps.length ≤ 200
  n4 : m.ints.length ≤ 200
  n5 : m.texts.length ≤ 200
  recs : ∀ l ∈ m.recs, l.length ≤ 3000
  funcs : ∀ f ∈ m.funcs, f.1.length ≤ 3000 ∧ f.2.2.2.1.length ≤ 3000 ∧ f.2.2.2.2.length ≤ 3000
  imps : ∀ i ∈ m.imps, i.1.length ≤ 3000
  texts : ∀ s ∈ m.texts, s.size ≤ 3000
abbrev mtup (m : ModD) : List (List TyD) × List FnD × List ImD × List Int × List ByteArray := (m.recs, (m.funcs, (m.imps, (m.ints, m.texts))))
end Sx
