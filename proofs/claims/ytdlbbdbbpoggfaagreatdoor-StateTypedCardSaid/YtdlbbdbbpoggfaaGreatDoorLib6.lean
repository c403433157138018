import Derived.Test.YtdlbbdbbpoggfaaGreatDoorLib5
set_option linter.unusedVariables false
set_option linter.unusedSectionVars false
namespace Go.Ab
variable {S X : Type} {B : S → Option (S ⊕ X)}
theorem bM {n : Nat} {s s' : S} (h : B s = some (.inl s')) : aK B (n + 1) s = aK B n s' := by
 show ((B s).bind fun q => Sum.rec (fun s' => aK B n s') (fun x => some x) q) = _
 rw [h]; rfl
theorem bG {n : Nat} {s : S} {x : X} (h : B s = some (.inr x)) : aK B (n + 1) s = some x := by
 show ((B s).bind fun q => Sum.rec (fun s' => aK B n s') (fun x => some x) q) = _
 rw [h]; rfl
theorem Cq {I : S → Prop} {m : S → Nat} {Q : X → Prop} (h : ∀ s, I s → (∃ s', B s = some (.inl s') ∧ I s' ∧ m s' < m s) ∨ ∃ x, B s = some (.inr x) ∧ Q x) : ∀ (n : Nat) (s : S), I s → m s < n → ∃ x, aK B n s = some x ∧ Q x
 | 0, s, _, hn => by omega
 | n + 1, s, hI, hn => by
  rcases h s hI with ⟨s', z, A, hm⟩ | ⟨x, z, H⟩
  ·rw [bM z]
   exact Cq h n s' A (by omega)
  ·exact ⟨x, bG z, H⟩
theorem Dn {x : X} : ∀ {n : Nat} {s : S}, aK B n s = some x → ∀ m, n ≤ m → aK B m s = some x
 | 0, s, h, _, _ => by cases h
 | n + 1, s, h, 0, hm => by omega
 | n + 1, s, h, m + 1, hm => by
  have z : ((B s).bind fun q => Sum.rec (fun s' => aK B n s') (fun x => some x) q) = some x := h
  obtain ⟨q, A, z⟩ := yo1.1 z
  cases q with
  | inl s' => rw [bM A]; exact Dn z m (by omega)
  | inr y =>
   rw [bG A]
   exact z
end Go.Ab
