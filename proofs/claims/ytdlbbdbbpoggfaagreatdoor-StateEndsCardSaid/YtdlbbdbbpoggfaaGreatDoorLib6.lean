import Derived.Test.YtdlbbdbbpoggfaaGreatDoorLib5
set_option linter.unusedVariables false
set_option linter.unusedSectionVars false
namespace Go.Ab
variable {S X : Type} {B : S → Option (S ⊕ X)}
theorem bM {n : Nat} {s s' : S} (h : B s = some (.inl s')) : aL B (n + 1) s = aL B n s' := by
 show ((B s).bind fun q => Sum.rec (fun s' => aL B n s') (fun x => some x) q) = _
 rw [h]; rfl
theorem bG {n : Nat} {s : S} {x : X} (h : B s = some (.inr x)) : aL B (n + 1) s = some x := by
 show ((B s).bind fun q => Sum.rec (fun s' => aL B n s') (fun x => some x) q) = _
 rw [h]; rfl
theorem E4 {I : S → Prop} {m : S → Nat} {Q : X → Prop} (h : ∀ s, I s → (∃ s', B s = some (.inl s') ∧ I s' ∧ m s' < m s) ∨ ∃ x, B s = some (.inr x) ∧ Q x) : ∀ (n : Nat) (s : S), I s → m s < n → ∃ x, aL B n s = some x ∧ Q x
 | 0, s, _, hn => by omega
 | n + 1, s, hI, hn => by
  rcases h s hI with ⟨s', A, z, hm⟩ | ⟨x, A, H⟩
  ·rw [bM A]
   exact E4 h n s' z (by omega)
  ·exact ⟨x, bG A, H⟩
theorem C9 {x : X} : ∀ {n : Nat} {s : S}, aL B n s = some x → ∀ m, n ≤ m → aL B m s = some x
 | 0, s, h, _, _ => by cases h
 | n + 1, s, h, 0, hm => by omega
 | n + 1, s, h, m + 1, hm => by
  have z : ((B s).bind fun q => Sum.rec (fun s' => aL B n s') (fun x => some x) q) = some x := h
  obtain ⟨q, A, z⟩ := yo1.1 z
  cases q with
  | inl s' => rw [bM A]; exact C9 z m (by omega)
  | inr y =>
   rw [bG A]
   exact z
end Go.Ab
