/- Loops along lists. -/
import Derived.Test.YtmfemlkbeehioaaLib7
set_option linter.unusedVariables false
namespace Go.Ab
variable {S X A α : Type} {B : S → Option (S ⊕ X)}
/-- A walk along a list, with what holds at each head and of what comes out. -/
theorem loop_rel {xs : List A} {mk : Nat → α → S} {I : Nat → α → Prop} {Q : X → Prop}
    (hs : ∀ i a x, xs[i]? = some x → I i a → (∃ a', B (mk i a) = some (.inl (mk (i + 1) a')) ∧ I (i + 1) a') ∨ ∃ y, B (mk i a) = some (.inr y) ∧ Q y)
    (he : ∀ a, I xs.length a → ∃ y, B (mk xs.length a) = some (.inr y) ∧ Q y) : ∀ (j i n : Nat) (a : α), i + j = xs.length → I i a → j < n → ∃ y, loopS B n (mk i a) = some y ∧ Q y
  | 0, i, n + 1, a, hi, hI, hn => by
    obtain rfl : i = xs.length := by omega
    obtain ⟨y, h1, h2⟩ := he a hI
    exact ⟨y, loopS_out h1, h2⟩
  | j + 1, i, n + 1, a, hi, hI, hn => by
    have hlt : i < xs.length := by omega
    have hx : xs[i]? = some xs[i] := List.getElem?_eq_getElem hlt
    rcases hs i a xs[i] hx hI with ⟨a', h1, h2⟩ | ⟨y, h1, h2⟩
    · rw [loopS_next h1]
      exact loop_rel hs he j (i + 1) n a' (by omega) h2 (by omega)
    · exact ⟨y, loopS_out h1, h2⟩
  | _, _, 0, _, _, _, hn => by omega
/-- Looking for one in a list. -/
theorem loop_search {xs : List A} {mk : Nat → S} {p : A → Bool} {found : Nat → A → X} {e : X}
    (hs : ∀ i x, xs[i]? = some x → B (mk i) = (if p x = true then some (.inr (found i x)) else some (.inl (mk (i + 1)))))
    (he : B (mk xs.length) = some (.inr e)) : ∀ (j i n : Nat), i + j = xs.length → j < n →
    ((xs.drop i).any p = true ∧ ∃ k x, xs[k]? = some x ∧ p x = true ∧ loopS B n (mk i) = some (found k x)) ∨ ((xs.drop i).any p = false ∧ loopS B n (mk i) = some e)
  | 0, i, n + 1, hi, hn => by
    obtain rfl : i = xs.length := by omega
    rw [loopS_out he, List.drop_length]; exact .inr ⟨rfl, rfl⟩
  | j + 1, i, n + 1, hi, hn => by
    have hlt : i < xs.length := by omega
    have hx : xs[i]? = some xs[i] := List.getElem?_eq_getElem hlt
    have hd : xs.drop i = xs[i] :: xs.drop (i + 1) := List.drop_eq_getElem_cons hlt
    rw [hd, List.any_cons]
    have h1 := hs i xs[i] hx
    cases hp : p xs[i] with
    | true =>
      rw [hp, if_pos rfl] at h1
      rw [loopS_out h1]
      exact .inl ⟨rfl, i, xs[i], hx, hp, rfl⟩
    | false =>
      rw [hp, if_neg (by simp)] at h1
      rw [loopS_next h1, Bool.false_or]
      exact loop_search hs he j (i + 1) n (by omega) (by omega)
  | _, _, 0, _, hn => by omega
/-- Bytes that are written one behind another. -/
theorem foldl_append {β : Type} (f : A → List β) : ∀ (xs : List A) (a : List β), xs.foldl (fun a x => a ++ f x) a = a ++ xs.flatMap f
  | [], a => by simp
  | x :: xs, a => by rw [List.foldl_cons, foldl_append f xs, List.flatMap_cons, List.append_assoc]
theorem next_i64 {i : Nat} (h : i < 4294967296) : addI .i64 (i : Int) 1 = ((i + 1 : Nat) : Int) := by
  rw [addI_i64 (by omega) (by omega)]; omega
theorem lt_of_get {xs : List A} {i : Nat} {x : A} (h : xs[i]? = some x) : i < xs.length := by
  rcases Nat.lt_or_ge i xs.length with h' | h'
  · exact h'
  · rw [List.getElem?_eq_none h'] at h; cases h
end Go.Ab
