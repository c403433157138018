/- Loops in plain words: what rounds come to. -/
import Derived.Test.YtliamnpngkojdaaDoorLib5
set_option linter.unusedVariables false
set_option linter.unusedSectionVars false
namespace Go.Ab
variable {S X : Type} {B : S → Option (S ⊕ X)}
theorem zE {n : Nat} {s s' : S} (h : B s = some (.inl s')) : loopS B (n + 1) s = loopS B n s' := by
 show ((B s).bind fun q => Sum.rec (fun s' => loopS B n s') (fun x => some x) q) = _
 rw [h]; rfl
theorem zR {n : Nat} {s : S} {x : X} (h : B s = some (.inr x)) : loopS B (n + 1) s = some x := by
 show ((B s).bind fun q => Sum.rec (fun s' => loopS B n s') (fun x => some x) q) = _
 rw [h]; rfl
theorem zha {x : X} : ∀ {n : Nat} {s : S}, loopS B n s = some x → ∀ m, n ≤ m → loopS B m s = some x
 | 0, s, h, _, _ => by cases h
 | n + 1, s, h, 0, hm => by omega
 | n + 1, s, h, m + 1, hm => by
  have h' : ((B s).bind fun q => Sum.rec (fun s' => loopS B n s') (fun x => some x) q) = some x := h
  obtain ⟨q, hq, h'⟩ := Option.bind_eq_some_iff.1 h'
  cases q with
  | inl s' => rw [zE hq]; exact zha h' m (by omega)
  | inr y =>
   rw [zR hq]
   exact h'
end Go.Ab
