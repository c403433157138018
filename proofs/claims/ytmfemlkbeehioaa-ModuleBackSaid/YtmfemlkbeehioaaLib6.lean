/- Loops in plain words: what rounds come to. -/
import Derived.Test.YtmfemlkbeehioaaLib5
set_option linter.unusedVariables false
set_option linter.unusedSectionVars false
namespace Go.Ab
variable {S X : Type} {B : S → Option (S ⊕ X)}
theorem zA {n : Nat} {s s' : S} (h : B s = some (.inl s')) : loopS B (n + 1) s = loopS B n s' := by
 show ((B s).bind fun q => Sum.rec (fun s' => loopS B n s') (fun x => some x) q) = _
 rw [h]; rfl
theorem zr {n : Nat} {s : S} {x : X} (h : B s = some (.inr x)) : loopS B (n + 1) s = some x := by
 show ((B s).bind fun q => Sum.rec (fun s' => loopS B n s') (fun x => some x) q) = _
 rw [h]; rfl
theorem zce {f : Nat → S} {k : Nat} {x : X} (hs : ∀ i, i < k → B (f i) = some (.inl (f (i + 1)))) (he : B (f k) = some (.inr x)) : ∀ (j i n : Nat), i + j = k → j < n → loopS B n (f i) = some x
 | 0, i, n + 1, hi, hn => by
  obtain rfl : i = k := by omega
  exact zr he
 | j + 1, i, n + 1, hi, hn => by
  rw [zA (hs i (by omega))]
  exact zce hs he j (i + 1) n (by omega) (by omega)
 | _, _, 0, _, hn => by omega
theorem zhT {x : X} : ∀ {n : Nat} {s : S}, loopS B n s = some x → ∀ m, n ≤ m → loopS B m s = some x
 | 0, s, h, _, _ => by cases h
 | n + 1, s, h, 0, hm => by omega
 | n + 1, s, h, m + 1, hm => by
  have h' : ((B s).bind fun q => Sum.rec (fun s' => loopS B n s') (fun x => some x) q) = some x := h
  obtain ⟨q, hq, h'⟩ := Option.bind_eq_some_iff.1 h'
  cases q with
  | inl s' => rw [zA hq]; exact zhT h' m (by omega)
  | inr y =>
   rw [zr hq]
   exact h'
end Go.Ab
