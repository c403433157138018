import Derived.Test.YtdlbbdbbpoggfaaLib6
set_option linter.unusedVariables false
set_option linter.unusedSectionVars false
namespace Go.Ab
variable {S X : Type} {B : S → Option (S ⊕ X)}
theorem zbS {n : Nat} {s s' : S} (h : B s = some (.inl s')) : loopS B (n + 1) s = loopS B n s' := by
 show ((B s).bind fun q => Sum.rec (fun s' => loopS B n s') (fun x => some x) q) = _
 rw [h]; rfl
theorem zaW {n : Nat} {s : S} {x : X} (h : B s = some (.inr x)) : loopS B (n + 1) s = some x := by
 show ((B s).bind fun q => Sum.rec (fun s' => loopS B n s') (fun x => some x) q) = _
 rw [h]; rfl
theorem zed {f : Nat → S} {k : Nat} {x : X} (hs : ∀ i, i < k → B (f i) = some (.inl (f (i + 1)))) (he : B (f k) = some (.inr x)) : ∀ (j i n : Nat), i + j = k → j < n → loopS B n (f i) = some x
 | 0, i, n + 1, hi, hn => by
  obtain rfl : i = k := by omega
  exact zaW he
 | j + 1, i, n + 1, hi, hn => by
  rw [zbS (hs i (by omega))]
  exact zed hs he j (i + 1) n (by omega) (by omega)
 | _, _, 0, _, hn => by omega
theorem zap {I : S → Prop} {m : S → Nat} {Q : X → Prop} (h : ∀ s, I s → (∃ s', B s = some (.inl s') ∧ I s' ∧ m s' < m s) ∨ ∃ x, B s = some (.inr x) ∧ Q x) : ∀ (n : Nat) (s : S), I s → m s < n → ∃ x, loopS B n s = some x ∧ Q x
 | 0, s, _, hn => by omega
 | n + 1, s, hI, hn => by
  rcases h s hI with ⟨s', hb, hI', hm⟩ | ⟨x, hb, hq⟩
  ·rw [zbS hb]
   exact zap h n s' hI' (by omega)
  ·exact ⟨x, zaW hb, hq⟩
end Go.Ab
