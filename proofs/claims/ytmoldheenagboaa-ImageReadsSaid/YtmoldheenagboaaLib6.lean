import Derived.Test.YtmoldheenagboaaLib5
set_option linter.unusedVariables false
set_option linter.unusedSectionVars false
namespace Go.Ab
variable {S X : Type} {B : S → Option (S ⊕ X)}
theorem gI {n : Nat} {s s' : S} (h : B s = some (.inl s')) : bI B (n + 1) s = bI B n s' := by
 show ((B s).bind fun q => Sum.rec (fun s' => bI B n s') (fun x => some x) q) = _
 rw [h]; rfl
theorem cQ {n : Nat} {s : S} {x : X} (h : B s = some (.inr x)) : bI B (n + 1) s = some x := by
 show ((B s).bind fun q => Sum.rec (fun s' => bI B n s') (fun x => some x) q) = _
 rw [h]; rfl
theorem nB {f : Nat → S} {k : Nat} {x : X} (z : ∀ i, i < k → B (f i) = some (.inl (f (i + 1)))) (J : B (f k) = some (.inr x)) : ∀ (j i n : Nat), i + j = k → j < n → bI B n (f i) = some x
 | 0, i, n + 1, K, H => by
  obtain rfl : i = k := by omega
  exact cQ J
 | j + 1, i, n + 1, K, H => by
  rw [gI (z i (by omega))]
  exact nB z J j (i + 1) n (by omega) (by omega)
 | _, _, 0, _, H => by omega
end Go.Ab
