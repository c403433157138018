/- Loops along lists. -/
import Derived.Test.YtmoldheenagboaaLib7
set_option linter.unusedVariables false
set_option linter.unusedSectionVars false
namespace Go.Ab
variable {S X A α : Type} {B : S → Option (S ⊕ X)}
theorem ziS {xs : List A} {mk : Nat → α → S} {f : α → A → α} {e : α → X} {I : Nat → α → Prop}
  (hs : ∀ i a x, xs[i]? = some x → I i a → B (mk i a) = some (.inl (mk (i + 1) (f a x))) ∧ I (i + 1) (f a x))
  (he : ∀ a, I xs.length a → B (mk xs.length a) = some (.inr (e a))) : ∀ (j i n : Nat) (a : α), i + j = xs.length → I i a → j < n → loopS B n (mk i a) = some (e ((xs.drop i).foldl f a)) ∧ I xs.length ((xs.drop i).foldl f a)
 | 0, i, n + 1, a, hi, hI, hn => by
  obtain rfl : i = xs.length := by omega
  rw [zB (he a hI), List.drop_length]; exact ⟨rfl, hI⟩
 | j + 1, i, n + 1, a, hi, hI, hn => by
  have hlt : i < xs.length := by omega
  have hx : xs[i]? = some xs[i] := List.getElem?_eq_getElem hlt
  have hd : xs.drop i = xs[i] :: xs.drop (i + 1) := List.drop_eq_getElem_cons hlt
  rw [hd, List.foldl_cons]
  obtain ⟨h1, h2⟩ := hs i a xs[i] hx hI
  rw [zah h1]
  exact ziS hs he j (i + 1) n _ (by omega) h2 (by omega)
 | _, _, 0, _, _, _, hn => by omega
theorem zcI {xs : List A} {mk : Nat → α → S} {I : Nat → α → Prop} {Q : X → Prop}
  (hs : ∀ i a x, xs[i]? = some x → I i a → (∃ a', B (mk i a) = some (.inl (mk (i + 1) a')) ∧ I (i + 1) a') ∨ ∃ y, B (mk i a) = some (.inr y) ∧ Q y)
  (he : ∀ a, I xs.length a → ∃ y, B (mk xs.length a) = some (.inr y) ∧ Q y) : ∀ (j i n : Nat) (a : α), i + j = xs.length → I i a → j < n → ∃ y, loopS B n (mk i a) = some y ∧ Q y
 | 0, i, n + 1, a, hi, hI, hn => by
  obtain rfl : i = xs.length := by omega
  obtain ⟨y, h1, h2⟩ := he a hI
  exact ⟨y, zB h1, h2⟩
 | j + 1, i, n + 1, a, hi, hI, hn => by
  have hlt : i < xs.length := by omega
  have hx : xs[i]? = some xs[i] := List.getElem?_eq_getElem hlt
  rcases hs i a xs[i] hx hI with ⟨a', h1, h2⟩ | ⟨y, h1, h2⟩
  ·rw [zah h1]
   exact zcI hs he j (i + 1) n a' (by omega) h2 (by omega)
  ·exact ⟨y, zB h1, h2⟩
 | _, _, 0, _, _, _, hn => by omega
theorem zfx {xs : List A} {mk : Nat → S} {p : A → Bool} {found : Nat → A → X} {e : X}
  (hs : ∀ i x, xs[i]? = some x → B (mk i) = (if p x = true then some (.inr (found i x)) else some (.inl (mk (i + 1)))))
  (he : B (mk xs.length) = some (.inr e)) : ∀ (j i n : Nat), i + j = xs.length → j < n →
  ((xs.drop i).any p = true ∧ ∃ k x, xs[k]? = some x ∧ p x = true ∧ loopS B n (mk i) = some (found k x)) ∨ ((xs.drop i).any p = false ∧ loopS B n (mk i) = some e)
 | 0, i, n + 1, hi, hn => by
  obtain rfl : i = xs.length := by omega
  rw [zB he, List.drop_length]; exact .inr ⟨rfl, rfl⟩
 | j + 1, i, n + 1, hi, hn => by
  have hlt : i < xs.length := by omega
  have hx : xs[i]? = some xs[i] := List.getElem?_eq_getElem hlt
  have hd : xs.drop i = xs[i] :: xs.drop (i + 1) := List.drop_eq_getElem_cons hlt
  rw [hd, List.any_cons]
  have h1 := hs i xs[i] hx
  cases hp : p xs[i] with
  | true =>
   rw [hp, if_pos rfl] at h1
   rw [zB h1]
   exact .inl ⟨rfl, i, xs[i], hx, hp, rfl⟩
  | false =>
   rw [hp, if_neg (by simp)] at h1
   rw [zah h1, Bool.false_or]
   exact zfx hs he j (i + 1) n (by omega) (by omega)
 | _, _, 0, _, hn => by omega
theorem foldl_append {β : Type} (f : A → List β) : ∀ (xs : List A) (a : List β), xs.foldl (fun a x => a ++ f x) a = a ++ xs.flatMap f
 | [], a => by simp
 | x :: xs, a => by rw [List.foldl_cons, foldl_append f xs, List.flatMap_cons, List.append_assoc]
theorem zaM {β : Type} (f : A → List β) (c : Nat) : ∀ (xs : List A), (∀ x ∈ xs, (f x).length ≤ c) → (xs.flatMap f).length ≤ c * xs.length
 | [], h => by simp
 | x :: xs, h => by
  rw [List.flatMap_cons, List.length_append, List.length_cons, Nat.mul_succ]
  have := h x (by simp)
  have := zaM f c xs fun y hy => h y (by simp [hy])
  omega
theorem zau {β : Type} {xs : List A} {mk : Nat → List β → S} {f : A → List β} {e : List β → X} {c : Nat} {m0 : List β}
  (hc : ∀ x ∈ xs, (f x).length ≤ c) {cap : Nat} (hcap : m0.length + c * xs.length ≤ cap)
  (hs : ∀ i a x, xs[i]? = some x → x ∈ xs → a.length + (f x).length ≤ cap → B (mk i a) = some (.inl (mk (i + 1) (a ++ f x))))
  (he : ∀ a, B (mk xs.length a) = some (.inr (e a))) {n : Nat} (hn : xs.length < n) : loopS B n (mk 0 m0) = some (e (m0 ++ xs.flatMap f)) := by
 have h := ziS (B := B) (xs := xs) (mk := mk) (f := fun a x => a ++ f x) (e := e) (I := fun i a => a.length ≤ m0.length + c * i ∧ i ≤ xs.length)
  (fun i a x hx hI => ?_) (fun a _ => he a) xs.length 0 n m0 (by omega) ⟨by simp, by omega⟩ hn
 ·rw [h.1, List.drop_zero, foldl_append]
 ·have hm : x ∈ xs := List.mem_of_getElem? hx
  have h1 := hc x hm
  have hi : i < xs.length := by
   rcases Nat.lt_or_ge i xs.length with h | h
   ·exact h
   ·rw [List.getElem?_eq_none h] at hx; cases hx
  have h2 : c * (i + 1) ≤ c * xs.length := Nat.mul_le_mul_left c hi
  rw [Nat.mul_succ] at h2
  refine ⟨hs i a x hx hm (by omega), by rw [List.length_append, Nat.mul_succ]; omega, hi⟩
theorem zw {i : Nat} (h : i < 4294967296) : addI .i64 (i : Int) 1 = ((i + 1 : Nat) : Int) := by
 rw [zbn (by omega) (by omega)]; omega
theorem zu {xs : List A} {i : Nat} {x : A} (h : xs[i]? = some x) : i < xs.length := by
 rcases Nat.lt_or_ge i xs.length with h' | h'
 ·exact h'
 ·rw [List.getElem?_eq_none h'] at h; cases h
theorem zf {β : Type} {l : List β} (h : l.length ≤ 4294967296) : Nat.ble l.length 4294967296 = true := Nat.ble_eq_true_of_le h
end Go.Ab
