import Derived.Test.YtdlbbdbbpoggfaaGreatDoorLib7
set_option linter.unusedVariables false
set_option linter.unusedSectionVars false
namespace Go.Ab
variable {S X A α : Type} {B : S → Option (S ⊕ X)}
theorem AF {xs : List A} {mk : Nat → α → S} {f : α → A → α} {e : α → X} {I : Nat → α → Prop}
  (H : ∀ i a x, xs[i]? = some x → I i a → B (mk i a) = some (.inl (mk (i + 1) (f a x))) ∧ I (i + 1) (f a x))
  (z : ∀ a, I xs.length a → B (mk xs.length a) = some (.inr (e a))) : ∀ (j i n : Nat) (a : α), i + j = xs.length → I i a → j < n → aK B n (mk i a) = some (e ((xs.drop i).foldl f a)) ∧ I xs.length ((xs.drop i).foldl f a)
 | 0, i, n + 1, a, K, hI, hn => by
  obtain rfl : i = xs.length := by omega
  rw [bG (z a hI), List.drop_length]; exact ⟨rfl, hI⟩
 | j + 1, i, n + 1, a, K, hI, hn => by
  have h : i < xs.length := by omega
  have hx : xs[i]? = some xs[i] := yd h
  have J : xs.drop i = xs[i] :: xs.drop (i + 1) := List.drop_eq_getElem_cons h
  rw [J, List.foldl_cons]
  obtain ⟨h1, h2⟩ := H i a xs[i] hx hI
  rw [bM h1]
  exact AF H z j (i + 1) n _ (by omega) h2 (by omega)
 | _, _, 0, _, _, _, hn => by omega
theorem dL {xs : List A} {mk : Nat → α → S} {I : Nat → α → Prop} {Q : X → Prop}
  (J : ∀ i a x, xs[i]? = some x → I i a → (∃ h, B (mk i a) = some (.inl (mk (i + 1) h)) ∧ I (i + 1) h) ∨ ∃ y, B (mk i a) = some (.inr y) ∧ Q y)
  (H : ∀ a, I xs.length a → ∃ y, B (mk xs.length a) = some (.inr y) ∧ Q y) : ∀ (j i n : Nat) (a : α), i + j = xs.length → I i a → j < n → ∃ y, aK B n (mk i a) = some y ∧ Q y
 | 0, i, n + 1, a, K, hI, hn => by
  obtain rfl : i = xs.length := by omega
  obtain ⟨y, h1, h2⟩ := H a hI
  exact ⟨y, bG h1, h2⟩
 | j + 1, i, n + 1, a, K, hI, hn => by
  have z : i < xs.length := by omega
  have hx : xs[i]? = some xs[i] := yd z
  rcases J i a xs[i] hx hI with ⟨h, h1, h2⟩ | ⟨y, h1, h2⟩
  ·rw [bM h1]
   exact dL J H j (i + 1) n h (by omega) h2 (by omega)
  ·exact ⟨y, bG h1, h2⟩
 | _, _, 0, _, _, _, hn => by omega
theorem fM {p : A → Bool} {xs : List A} {i : Nat} {x : A} (h : xs[i]? = some x) : (xs.take (i + 1)).all p = ((xs.take i).all p && p x) := by
 rw [yv2, h, List.all_append]
 simp
theorem dG {β : Type} {f : A → List β} {xs : List A} {i : Nat} {x : A} (h : xs[i]? = some x) : (xs.take (i + 1)).flatMap f = (xs.take i).flatMap f ++ f x := by
 rw [yv2, h, List.flatMap_append]
 simp
theorem Aa {p : A → Bool} {xs : List A} {i : Nat} {x : A} (h : xs[i]? = some x) (z : p x = false) : xs.all p = false := by
 rw [List.all_eq_false]
 exact ⟨x, yj h, by rw [z]; simp⟩
theorem bA {xs : List A} {mk : Nat → S} {p : A → Bool} {found : Nat → A → X} {e : X}
  (J : ∀ i x, xs[i]? = some x → B (mk i) = (if p x = true then some (.inr (found i x)) else some (.inl (mk (i + 1)))))
  (H : B (mk xs.length) = some (.inr e)) : ∀ (j i n : Nat), i + j = xs.length → j < n →
  ((xs.drop i).any p = true ∧ ∃ k x, xs[k]? = some x ∧ p x = true ∧ aK B n (mk i) = some (found k x)) ∨ ((xs.drop i).any p = false ∧ aK B n (mk i) = some e)
 | 0, i, n + 1, M, hn => by
  obtain rfl : i = xs.length := by omega
  rw [bG H, List.drop_length]; exact .inr ⟨rfl, rfl⟩
 | j + 1, i, n + 1, M, hn => by
  have h : i < xs.length := by omega
  have hx : xs[i]? = some xs[i] := yd h
  have K : xs.drop i = xs[i] :: xs.drop (i + 1) := List.drop_eq_getElem_cons h
  rw [K, List.any_cons]
  have h1 := J i xs[i] hx
  cases z : p xs[i] with
  | true =>
   rw [z, if_pos rfl] at h1
   rw [bG h1]
   exact .inl ⟨rfl, i, xs[i], hx, z, rfl⟩
  | false =>
   rw [z, if_neg (by simp)] at h1
   rw [bM h1, yl3]
   exact bA J H j (i + 1) n (by omega) (by omega)
 | _, _, 0, _, hn => by omega
theorem zC {β : Type} (f : A → List β) : ∀ (xs : List A) (a : List β), xs.foldl (fun a x => a ++ f x) a = a ++ xs.flatMap f
 | [], a => by simp
 | x :: xs, a => by rw [List.foldl_cons, zC f xs, List.flatMap_cons, yw1]
theorem b8 {β : Type} (f : A → List β) (c : Nat) : ∀ (xs : List A), (∀ x ∈ xs, (f x).length ≤ c) → (xs.flatMap f).length ≤ c * xs.length
 | [], h => by simp
 | x :: xs, h => by
  rw [List.flatMap_cons, yi, ye1, Nat.mul_succ]
  have := h x (by simp)
  have := b8 f c xs fun y z => h y (by simp [z])
  omega
theorem dY {β : Type} {xs : List A} {mk : Nat → List β → S} {f : A → List β} {e : List β → X} {c : Nat} {m0 : List β}
  (J : ∀ x ∈ xs, (f x).length ≤ c) {cap : Nat} (z : m0.length + c * xs.length ≤ cap)
  (M : ∀ i a x, xs[i]? = some x → x ∈ xs → a.length + (f x).length ≤ cap → B (mk i a) = some (.inl (mk (i + 1) (a ++ f x))))
  (K : ∀ a, B (mk xs.length a) = some (.inr (e a))) {n : Nat} (hn : xs.length < n) : aK B n (mk 0 m0) = some (e (m0 ++ xs.flatMap f)) := by
 have h := AF (B := B) (xs := xs) (mk := mk) (f := fun a x => a ++ f x) (e := e) (I := fun i a => a.length ≤ m0.length + c * i ∧ i ≤ xs.length)
  (fun i a x hx hI => ?_) (fun a _ => K a) xs.length 0 n m0 (by omega) ⟨by simp, by omega⟩ hn
 ·rw [h.1, yl1, zC]
 ·have hm : x ∈ xs := yj hx
  have h1 := J x hm
  have H : i < xs.length := by
   rcases ya2 i xs.length with h | h
   ·exact h
   ·rw [ya1 h] at hx; cases hx
  have h2 : c * (i + 1) ≤ c * xs.length := Nat.mul_le_mul_left c H
  rw [Nat.mul_succ] at h2
  refine ⟨M i a x hx hm (by omega), by rw [yi, Nat.mul_succ]; omega, H⟩
theorem aH {i : Nat} (h : i < 4294967296) : aI .i64 (i : Int) 1 = ((i + 1 : Nat) : Int) := by
 rw [cK (by omega) (by omega)]; omega
theorem aN {xs : List A} {i : Nat} {x : A} (h : xs[i]? = some x) : i < xs.length := by
 rcases ya2 i xs.length with z | z
 ·exact z
 ·rw [ya1 z] at h; cases h
theorem aU {β : Type} {l : List β} (h : l.length ≤ 4294967296) : Nat.ble l.length 4294967296 = true := yw2 h
end Go.Ab
