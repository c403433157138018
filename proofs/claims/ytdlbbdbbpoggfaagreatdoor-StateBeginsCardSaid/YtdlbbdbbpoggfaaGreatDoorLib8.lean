import Derived.Test.YtdlbbdbbpoggfaaGreatDoorLib7
set_option linter.unusedVariables false
set_option linter.unusedSectionVars false
namespace Go.Ab
variable {S X A α : Type} {B : S → Option (S ⊕ X)}
theorem Ao {xs : List A} {mk : Nat → α → S} {f : α → A → α} {e : α → X} {I : Nat → α → Prop}
  (z : ∀ i a x, xs[i]? = some x → I i a → B (mk i a) = some (.inl (mk (i + 1) (f a x))) ∧ I (i + 1) (f a x))
  (H : ∀ a, I xs.length a → B (mk xs.length a) = some (.inr (e a))) : ∀ (j i n : Nat) (a : α), i + j = xs.length → I i a → j < n → aL B n (mk i a) = some (e ((xs.drop i).foldl f a)) ∧ I xs.length ((xs.drop i).foldl f a)
 | 0, i, n + 1, a, J, hI, hn => by
  obtain rfl : i = xs.length := by omega
  rw [bG (H a hI), List.drop_length]; exact ⟨rfl, hI⟩
 | j + 1, i, n + 1, a, J, hI, hn => by
  have h : i < xs.length := by omega
  have hx : xs[i]? = some xs[i] := yd h
  have K : xs.drop i = xs[i] :: xs.drop (i + 1) := List.drop_eq_getElem_cons h
  rw [K, List.foldl_cons]
  obtain ⟨h1, h2⟩ := z i a xs[i] hx hI
  rw [bM h1]
  exact Ao z H j (i + 1) n _ (by omega) h2 (by omega)
 | _, _, 0, _, _, _, hn => by omega
theorem dW {xs : List A} {mk : Nat → α → S} {I : Nat → α → Prop} {Q : X → Prop}
  (H : ∀ i a x, xs[i]? = some x → I i a → (∃ h, B (mk i a) = some (.inl (mk (i + 1) h)) ∧ I (i + 1) h) ∨ ∃ y, B (mk i a) = some (.inr y) ∧ Q y)
  (J : ∀ a, I xs.length a → ∃ y, B (mk xs.length a) = some (.inr y) ∧ Q y) : ∀ (j i n : Nat) (a : α), i + j = xs.length → I i a → j < n → ∃ y, aL B n (mk i a) = some y ∧ Q y
 | 0, i, n + 1, a, K, hI, hn => by
  obtain rfl : i = xs.length := by omega
  obtain ⟨y, h1, h2⟩ := J a hI
  exact ⟨y, bG h1, h2⟩
 | j + 1, i, n + 1, a, K, hI, hn => by
  have z : i < xs.length := by omega
  have hx : xs[i]? = some xs[i] := yd z
  rcases H i a xs[i] hx hI with ⟨h, h1, h2⟩ | ⟨y, h1, h2⟩
  ·rw [bM h1]
   exact dW H J j (i + 1) n h (by omega) h2 (by omega)
  ·exact ⟨y, bG h1, h2⟩
 | _, _, 0, _, _, _, hn => by omega
theorem fM {p : A → Bool} {xs : List A} {i : Nat} {x : A} (h : xs[i]? = some x) : (xs.take (i + 1)).all p = ((xs.take i).all p && p x) := by
 rw [yb3, h, List.all_append]
 simp
theorem dF {β : Type} {f : A → List β} {xs : List A} {i : Nat} {x : A} (h : xs[i]? = some x) : (xs.take (i + 1)).flatMap f = (xs.take i).flatMap f ++ f x := by
 rw [yb3, h, List.flatMap_append]
 simp
theorem yT {p : A → Bool} {xs : List A} {i : Nat} {x : A} (h : xs[i]? = some x) (z : p x = false) : xs.all p = false := by
 rw [List.all_eq_false]
 exact ⟨x, yj h, by rw [z]; simp⟩
theorem bA {xs : List A} {mk : Nat → S} {p : A → Bool} {found : Nat → A → X} {e : X}
  (H : ∀ i x, xs[i]? = some x → B (mk i) = (if p x = true then some (.inr (found i x)) else some (.inl (mk (i + 1)))))
  (J : B (mk xs.length) = some (.inr e)) : ∀ (j i n : Nat), i + j = xs.length → j < n →
  ((xs.drop i).any p = true ∧ ∃ k x, xs[k]? = some x ∧ p x = true ∧ aL B n (mk i) = some (found k x)) ∨ ((xs.drop i).any p = false ∧ aL B n (mk i) = some e)
 | 0, i, n + 1, K, hn => by
  obtain rfl : i = xs.length := by omega
  rw [bG J, List.drop_length]; exact .inr ⟨rfl, rfl⟩
 | j + 1, i, n + 1, K, hn => by
  have h : i < xs.length := by omega
  have hx : xs[i]? = some xs[i] := yd h
  have M : xs.drop i = xs[i] :: xs.drop (i + 1) := List.drop_eq_getElem_cons h
  rw [M, List.any_cons]
  have h1 := H i xs[i] hx
  cases z : p xs[i] with
  | true =>
   rw [z, if_pos rfl] at h1
   rw [bG h1]
   exact .inl ⟨rfl, i, xs[i], hx, z, rfl⟩
  | false =>
   rw [z, if_neg (by simp)] at h1
   rw [bM h1, yl3]
   exact bA H J j (i + 1) n (by omega) (by omega)
 | _, _, 0, _, hn => by omega
theorem zR {β : Type} (f : A → List β) : ∀ (xs : List A) (a : List β), xs.foldl (fun a x => a ++ f x) a = a ++ xs.flatMap f
 | [], a => by simp
 | x :: xs, a => by rw [List.foldl_cons, zR f xs, List.flatMap_cons, yw1]
theorem b9 {β : Type} (f : A → List β) (c : Nat) : ∀ (xs : List A), (∀ x ∈ xs, (f x).length ≤ c) → (xs.flatMap f).length ≤ c * xs.length
 | [], h => by simp
 | x :: xs, h => by
  rw [List.flatMap_cons, yi, ye1, Nat.mul_succ]
  have := h x (by simp)
  have := b9 f c xs fun y z => h y (by simp [z])
  omega
theorem dY {β : Type} {xs : List A} {mk : Nat → List β → S} {f : A → List β} {e : List β → X} {c : Nat} {m0 : List β}
  (K : ∀ x ∈ xs, (f x).length ≤ c) {cap : Nat} (H : m0.length + c * xs.length ≤ cap)
  (J : ∀ i a x, xs[i]? = some x → x ∈ xs → a.length + (f x).length ≤ cap → B (mk i a) = some (.inl (mk (i + 1) (a ++ f x))))
  (M : ∀ a, B (mk xs.length a) = some (.inr (e a))) {n : Nat} (hn : xs.length < n) : aL B n (mk 0 m0) = some (e (m0 ++ xs.flatMap f)) := by
 have h := Ao (B := B) (xs := xs) (mk := mk) (f := fun a x => a ++ f x) (e := e) (I := fun i a => a.length ≤ m0.length + c * i ∧ i ≤ xs.length)
  (fun i a x hx hI => ?_) (fun a _ => M a) xs.length 0 n m0 (by omega) ⟨by simp, by omega⟩ hn
 ·rw [h.1, yl1, zR]
 ·have hm : x ∈ xs := yj hx
  have h1 := K x hm
  have z : i < xs.length := by
   rcases yz1 i xs.length with h | h
   ·exact h
   ·rw [ya1 h] at hx; cases hx
  have h2 : c * (i + 1) ≤ c * xs.length := Nat.mul_le_mul_left c z
  rw [Nat.mul_succ] at h2
  refine ⟨J i a x hx hm (by omega), by rw [yi, Nat.mul_succ]; omega, z⟩
theorem aH {i : Nat} (h : i < 4294967296) : aI .i64 (i : Int) 1 = ((i + 1 : Nat) : Int) := by
 rw [cN (by omega) (by omega)]; omega
theorem aO {xs : List A} {i : Nat} {x : A} (h : xs[i]? = some x) : i < xs.length := by
 rcases yz1 i xs.length with z | z
 ·exact z
 ·rw [ya1 z] at h; cases h
theorem aU {β : Type} {l : List β} (h : l.length ≤ 4294967296) : Nat.ble l.length 4294967296 = true := yv2 h
end Go.Ab
