/- Numbers, types and instructions as bytes: what the printed functions come to. -/
import Derived.Test.YtmfemlkbeehioaaModRSh
import Derived.Test.YtmfemlkbeehioaaLib8
set_option linter.unusedVariables false
set_option linter.unusedSimpArgs false
namespace Sx
open Go Go.Ab
/-! ### numbers -/
def varF : Nat → Nat → List Int
  | 0, v => [(v : Int)]
  | k + 1, v => if v < 128 then [(v : Int)] else ((128 + v % 128 : Nat) : Int) :: varF k (v / 128)
/-- A number in as few bytes as can be. -/
def varN (v : Nat) : List Int := varF 10 v
/-! ### whole numbers of eight bytes -/
def fixN (k v : Nat) : List Int := (List.range k).map fun i => ((v / 256 ^ i % 256 : Nat) : Int)
/-! ### types -/
def pos (k : Int) : Nat := k.toNat
def typV (t : Int × Int) : List Int := varN (pos t.1) ++ varN (pos t.2)
def okI (x : Int) : Prop := -9223372036854775808 ≤ x ∧ x ≤ 9223372036854775807
def okT (t : Int × Int) : Prop := okI t.1 ∧ okI t.2
/-! ### may a type be -/
end Sx
