/- Loops in plain words: what rounds come to. -/
import Derived.Test.YtmfemlkbeehioaaLib5
set_option linter.unusedVariables false
namespace Go.Ab
variable {S X : Type} {B : S → Option (S ⊕ X)}
theorem loopS_zero (s : S) : loopS B 0 s = none := rfl
theorem loopS_next {n : Nat} {s s' : S} (h : B s = some (.inl s')) : loopS B (n + 1) s = loopS B n s' := by
  show ((B s).bind fun q => Sum.rec (fun s' => loopS B n s') (fun x => some x) q) = _
  rw [h]; rfl
theorem loopS_out {n : Nat} {s : S} {x : X} (h : B s = some (.inr x)) : loopS B (n + 1) s = some x := by
  show ((B s).bind fun q => Sum.rec (fun s' => loopS B n s') (fun x => some x) q) = _
  rw [h]; rfl
/-- Rounds along a row of states. -/
theorem loopS_run {f : Nat → S} {k : Nat} {x : X} (hs : ∀ i, i < k → B (f i) = some (.inl (f (i + 1)))) (he : B (f k) = some (.inr x)) : ∀ (j i n : Nat), i + j = k → j < n → loopS B n (f i) = some x
  | 0, i, n + 1, hi, hn => by
    obtain rfl : i = k := by omega
    exact loopS_out he
  | j + 1, i, n + 1, hi, hn => by
    rw [loopS_next (hs i (by omega))]
    exact loopS_run hs he j (i + 1) n (by omega) (by omega)
  | _, _, 0, _, hn => by omega
/-- Rounds with what holds at each head, and a measure that falls. -/
theorem loopS_post {I : S → Prop} {m : S → Nat} {Q : X → Prop} (h : ∀ s, I s → (∃ s', B s = some (.inl s') ∧ I s' ∧ m s' < m s) ∨ ∃ x, B s = some (.inr x) ∧ Q x) : ∀ (n : Nat) (s : S), I s → m s < n → ∃ x, loopS B n s = some x ∧ Q x
  | 0, s, _, hn => by omega
  | n + 1, s, hI, hn => by
    rcases h s hI with ⟨s', hb, hI', hm⟩ | ⟨x, hb, hq⟩
    · rw [loopS_next hb]
      exact loopS_post h n s' hI' (by omega)
    · exact ⟨x, loopS_out hb, hq⟩
/-- More rounds do no harm. -/
theorem loopS_mono {x : X} : ∀ {n : Nat} {s : S}, loopS B n s = some x → ∀ m, n ≤ m → loopS B m s = some x
  | 0, s, h, _, _ => by cases h
  | n + 1, s, h, 0, hm => by omega
  | n + 1, s, h, m + 1, hm => by
    have h' : ((B s).bind fun q => Sum.rec (fun s' => loopS B n s') (fun x => some x) q) = some x := h
    obtain ⟨q, hq, h'⟩ := Option.bind_eq_some_iff.1 h'
    cases q with
    | inl s' => rw [loopS_next hq]; exact loopS_mono h' m (by omega)
    | inr y =>
      rw [loopS_out hq]
      exact h'
end Go.Ab
