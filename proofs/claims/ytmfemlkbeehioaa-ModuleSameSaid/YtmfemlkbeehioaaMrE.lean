/- The bytes of a module, as the program writes them. -/
import Derived.Test.YtmfemlkbeehioaaMrC
set_option linter.unusedVariables false
set_option linter.unusedSimpArgs false
namespace Sx
open Go Go.Ab
def okTs (l : List TyD) : Prop := ∀ t ∈ l, okT t
structure OkM (m : ModD) : Prop where
  recs : ∀ l ∈ m.recs, okTs l
  funcs : ∀ f ∈ m.funcs, okTs f.1 ∧ okT (f.2.1, f.2.2.1) ∧ okTs f.2.2.2.1
  imps : ∀ i ∈ m.imps, okTs i.1 ∧ okT (i.2.1, i.2.2)
  ints : ∀ v ∈ m.ints, 0 ≤ v ∧ v ≤ 18446744073709551615
def typesV (l : List TyD) : List Int := varN l.length ++ l.flatMap typV
def fncV (f : FnD) : List Int := typesV f.1 ++ typV (f.2.1, f.2.2.1) ++ typesV f.2.2.2.1 ++ varN f.2.2.2.2.length ++ f.2.2.2.2.flatMap putV
def impV (i : ImD) : List Int := typesV i.1 ++ typV (i.2.1, i.2.2)
def txtV (s : ByteArray) : List Int := varN s.size ++ bytesInts s
def listV {α : Type} (f : α → List Int) (l : List α) : List Int := varN l.length ++ l.flatMap f
def joinV (l : List (List Int)) : List Int := listV (fun p => varN p.length ++ p) l
def encV (m : ModD) : List Int := joinV [listV typesV m.recs, listV fncV m.funcs, listV impV m.imps, listV (fun v => fixN 8 v.toNat) m.ints, listV txtV m.texts]
end Sx
