/- Which modules are light; which hang together. -/
import Derived.Test.YtmfemlkbeehioaaMrG
set_option linter.unusedVariables false
set_option linter.unusedSimpArgs false
namespace Sx
open Go Go.Ab
structure LenM (m : ModD) : Prop where
  n1 : m.recs.length ≤ 140737488351232
  n2 : m.funcs.length ≤ 140737488351232
  n3 : m.imps.length ≤ 140737488351232
  n4 : m.ints.length ≤ 140737488351232
  n5 : m.texts.length ≤ 140737488351232
  recs : ∀ l ∈ m.recs, l.length ≤ 140737488351232
  funcs : ∀ f ∈ m.funcs, f.1.length ≤ 140737488351232 ∧ f.2.2.2.1.length ≤ 140737488351232 ∧ f.2.2.2.2.length ≤ 140737488351232
  imps : ∀ i ∈ m.imps, i.1.length ≤ 140737488351232
  texts : ∀ s ∈ m.texts, s.size ≤ 140737488351232
end Sx
