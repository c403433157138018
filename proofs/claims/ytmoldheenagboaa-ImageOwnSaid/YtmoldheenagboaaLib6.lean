/- Loops in plain words: what rounds come to. -/
import Derived.Test.YtmoldheenagboaaLib5
set_option linter.unusedVariables false
set_option linter.unusedSectionVars false
namespace Go.Ab
variable {S X : Type} {B : S → Option (S ⊕ X)}
theorem zah {n : Nat} {s s' : S} (h : B s = some (.inl s')) : loopS B (n + 1) s = loopS B n s' := by
 show ((B s).bind fun q => Sum.rec (fun s' => loopS B n s') (fun x => some x) q) = _
 rw [h]; rfl
theorem zB {n : Nat} {s : S} {x : X} (h : B s = some (.inr x)) : loopS B (n + 1) s = some x := by
 show ((B s).bind fun q => Sum.rec (fun s' => loopS B n s') (fun x => some x) q) = _
 rw [h]; rfl
theorem zao {f : Nat → S} {k : Nat} {x : X} (hs : ∀ i, i < k → B (f i) = some (.inl (f (i + 1)))) (he : B (f k) = some (.inr x)) : ∀ (j i n : Nat), i + j = k → j < n → loopS B n (f i) = some x
 | 0, i, n + 1, hi, hn => by
  obtain rfl : i = k := by omega
  exact zB he
 | j + 1, i, n + 1, hi, hn => by
  rw [zah (hs i (by omega))]
  exact zao hs he j (i + 1) n (by omega) (by omega)
 | _, _, 0, _, hn => by omega
end Go.Ab
