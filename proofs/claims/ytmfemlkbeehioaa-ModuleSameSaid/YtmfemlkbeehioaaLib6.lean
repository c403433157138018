/- Loops in plain words: what rounds come to. -/
import Derived.Test.YtmfemlkbeehioaaLib5
set_option linter.unusedVariables false
namespace Go.Ab
variable {S X : Type} {B : S → Option (S ⊕ X)}
theorem loopS_next {n : Nat} {s s' : S} (h : B s = some (.inl s')) : loopS B (n + 1) s = loopS B n s' := by
  show ((B s).bind fun q => Sum.rec (fun s' => loopS B n s') (fun x => some x) q) = _
  rw [h]; rfl
theorem loopS_out {n : Nat} {s : S} {x : X} (h : B s = some (.inr x)) : loopS B (n + 1) s = some x := by
  show ((B s).bind fun q => Sum.rec (fun s' => loopS B n s') (fun x => some x) q) = _
  rw [h]; rfl
end Go.Ab
