import Derived.Test.YtdlbbdbbpoggfaaLib8
set_option linter.unusedVariables false
set_option linter.unusedSectionVars false
namespace Go.Ab
variable {S X A α : Type} {B : S → Option (S ⊕ X)}
theorem zgl {xs : List A} {mk : Nat → α → S} {f : α → A → α} {e : α → X} {I : Nat → α → Prop}
  (hs : ∀ i a x, xs[i]? = some x → I i a → B (mk i a) = some (.inl (mk (i + 1) (f a x))) ∧ I (i + 1) (f a x))
  (he : ∀ a, I xs.length a → B (mk xs.length a) = some (.inr (e a))) : ∀ (j i n : Nat) (a : α), i + j = xs.length → I i a → j < n → loopS B n (mk i a) = some (e ((xs.drop i).foldl f a)) ∧ I xs.length ((xs.drop i).foldl f a)
 | 0, i, n + 1, a, hi, hI, hn => by
  obtain rfl : i = xs.length := by omega
  rw [zaW (he a hI), List.drop_length]; exact ⟨rfl, hI⟩
 | j + 1, i, n + 1, a, hi, hI, hn => by
  have hlt : i < xs.length := by omega
  have hx : xs[i]? = some xs[i] := yf hlt
  have hd : xs.drop i = xs[i] :: xs.drop (i + 1) := List.drop_eq_getElem_cons hlt
  rw [hd, List.foldl_cons]
  obtain ⟨h1, h2⟩ := hs i a xs[i] hx hI
  rw [zbS h1]
  exact zgl hs he j (i + 1) n _ (by omega) h2 (by omega)
 | _, _, 0, _, _, _, hn => by omega
theorem zlo {xs : List A} {mk : Nat → α → S} {I : Nat → α → Prop} {Q : X → Prop}
  (hs : ∀ i a x, xs[i]? = some x → I i a → (∃ a', B (mk i a) = some (.inl (mk (i + 1) a')) ∧ I (i + 1) a') ∨ ∃ y, B (mk i a) = some (.inr y) ∧ Q y)
  (he : ∀ a, I xs.length a → ∃ y, B (mk xs.length a) = some (.inr y) ∧ Q y) : ∀ (j i n : Nat) (a : α), i + j = xs.length → I i a → j < n → ∃ y, loopS B n (mk i a) = some y ∧ Q y
 | 0, i, n + 1, a, hi, hI, hn => by
  obtain rfl : i = xs.length := by omega
  obtain ⟨y, h1, h2⟩ := he a hI
  exact ⟨y, zaW h1, h2⟩
 | j + 1, i, n + 1, a, hi, hI, hn => by
  have hlt : i < xs.length := by omega
  have hx : xs[i]? = some xs[i] := yf hlt
  rcases hs i a xs[i] hx hI with ⟨a', h1, h2⟩ | ⟨y, h1, h2⟩
  ·rw [zbS h1]
   exact zlo hs he j (i + 1) n a' (by omega) h2 (by omega)
  ·exact ⟨y, zaW h1, h2⟩
 | _, _, 0, _, _, _, hn => by omega
theorem zda {β : Type} (f : A → List β) : ∀ (xs : List A) (a : List β), xs.foldl (fun a x => a ++ f x) a = a ++ xs.flatMap f
 | [], a => by simp
 | x :: xs, a => by rw [List.foldl_cons, zda f xs, List.flatMap_cons, List.append_assoc]
theorem zT {i : Nat} (h : i < 4294967296) : addI .i64 (i : Int) 1 = ((i + 1 : Nat) : Int) := by
 rw [zmh (by omega) (by omega)]; omega
theorem zaA {xs : List A} {i : Nat} {x : A} (h : xs[i]? = some x) : i < xs.length := by
 rcases yc2 i xs.length with h' | h'
 ·exact h'
 ·rw [ya1 h'] at h; cases h
end Go.Ab
