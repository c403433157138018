import Derived.Test.YtmoldheenagboaaLib7
set_option linter.unusedVariables false
set_option linter.unusedSectionVars false
namespace Go.Ab
variable {S X A α : Type} {B : S → Option (S ⊕ X)}
theorem Dg {xs : List A} {mk : Nat → α → S} {f : α → A → α} {e : α → X} {I : Nat → α → Prop}
  (J : ∀ i a x, xs[i]? = some x → I i a → B (mk i a) = some (.inl (mk (i + 1) (f a x))) ∧ I (i + 1) (f a x))
  (N : ∀ a, I xs.length a → B (mk xs.length a) = some (.inr (e a))) : ∀ (j i n : Nat) (a : α), i + j = xs.length → I i a → j < n → bI B n (mk i a) = some (e ((xs.drop i).foldl f a)) ∧ I xs.length ((xs.drop i).foldl f a)
 | 0, i, n + 1, a, W, H, K => by
  obtain rfl : i = xs.length := by omega
  rw [cQ (N a H), List.drop_length]; exact ⟨rfl, H⟩
 | j + 1, i, n + 1, a, W, H, K => by
  have z : i < xs.length := by omega
  have O : xs[i]? = some xs[i] := ye z
  have V : xs.drop i = xs[i] :: xs.drop (i + 1) := ys2 z
  rw [V, List.foldl_cons]
  obtain ⟨U, Y⟩ := J i a xs[i] O H
  rw [gI U]
  exact Dg J N j (i + 1) n _ (by omega) Y (by omega)
 | _, _, 0, _, _, _, K => by omega
theorem Hm {xs : List A} {mk : Nat → α → S} {I : Nat → α → Prop} {Q : X → Prop}
  (O : ∀ i a x, xs[i]? = some x → I i a → (∃ J, B (mk i a) = some (.inl (mk (i + 1) J)) ∧ I (i + 1) J) ∨ ∃ y, B (mk i a) = some (.inr y) ∧ Q y)
  (V : ∀ a, I xs.length a → ∃ y, B (mk xs.length a) = some (.inr y) ∧ Q y) : ∀ (j i n : Nat) (a : α), i + j = xs.length → I i a → j < n → ∃ y, bI B n (mk i a) = some y ∧ Q y
 | 0, i, n + 1, a, Y, N, U => by
  obtain rfl : i = xs.length := by omega
  obtain ⟨y, z, H⟩ := V a N
  exact ⟨y, cQ z, H⟩
 | j + 1, i, n + 1, a, Y, N, U => by
  have K : i < xs.length := by omega
  have W : xs[i]? = some xs[i] := ye K
  rcases O i a xs[i] W N with ⟨J, z, H⟩ | ⟨y, z, H⟩
  ·rw [gI z]
   exact Hm O V j (i + 1) n J (by omega) H (by omega)
  ·exact ⟨y, cQ z, H⟩
 | _, _, 0, _, _, _, U => by omega
theorem zF {xs : List A} {mk : Nat → S} {p : A → Bool} {found : Nat → A → X} {e : X}
  (K : ∀ i x, xs[i]? = some x → B (mk i) = (if p x = true then some (.inr (found i x)) else some (.inl (mk (i + 1)))))
  (O : B (mk xs.length) = some (.inr e)) : ∀ (j i n : Nat), i + j = xs.length → j < n →
  ((xs.drop i).any p = true ∧ ∃ k x, xs[k]? = some x ∧ p x = true ∧ bI B n (mk i) = some (found k x)) ∨ ((xs.drop i).any p = false ∧ bI B n (mk i) = some e)
 | 0, i, n + 1, W, N => by
  obtain rfl : i = xs.length := by omega
  rw [cQ O, List.drop_length]; exact .inr ⟨rfl, rfl⟩
 | j + 1, i, n + 1, W, N => by
  have z : i < xs.length := by omega
  have U : xs[i]? = some xs[i] := ye z
  have V : xs.drop i = xs[i] :: xs.drop (i + 1) := ys2 z
  rw [V, List.any_cons]
  have H := K i xs[i] U
  cases J : p xs[i] with
  | true =>
   rw [J, if_pos rfl] at H
   rw [cQ H]
   exact .inl ⟨rfl, i, xs[i], U, J, rfl⟩
  | false =>
   rw [J, if_neg (by simp)] at H
   rw [gI H, Bool.false_or]
   exact zF K O j (i + 1) n (by omega) (by omega)
 | _, _, 0, _, N => by omega
theorem foldl_append {β : Type} (f : A → List β) : ∀ (xs : List A) (a : List β), xs.foldl (fun a x => a ++ f x) a = a ++ xs.flatMap f
 | [], a => by simp
 | x :: xs, a => by rw [List.foldl_cons, foldl_append f xs, yh3, ye2]
theorem iY {β : Type} (f : A → List β) (c : Nat) : ∀ (xs : List A), (∀ x ∈ xs, (f x).length ≤ c) → (xs.flatMap f).length ≤ c * xs.length
 | [], h => by simp
 | x :: xs, h => by
  rw [yh3, yj, yw, Nat.mul_succ]
  have := h x (by simp)
  have := iY f c xs fun y z => h y (by simp [z])
  omega
theorem gM {β : Type} {xs : List A} {mk : Nat → List β → S} {f : A → List β} {e : List β → X} {c : Nat} {m0 : List β}
  (V : ∀ x ∈ xs, (f x).length ≤ c) {cap : Nat} (K : m0.length + c * xs.length ≤ cap)
  (N : ∀ i a x, xs[i]? = some x → x ∈ xs → a.length + (f x).length ≤ cap → B (mk i a) = some (.inl (mk (i + 1) (a ++ f x))))
  (U : ∀ a, B (mk xs.length a) = some (.inr (e a))) {n : Nat} (O : xs.length < n) : bI B n (mk 0 m0) = some (e (m0 ++ xs.flatMap f)) := by
 have h := Dg (B := B) (xs := xs) (mk := mk) (f := fun a x => a ++ f x) (e := e) (I := fun i a => a.length ≤ m0.length + c * i ∧ i ≤ xs.length)
  (fun i a x z hI => ?_) (fun a _ => U a) xs.length 0 n m0 (by omega) ⟨by simp, by omega⟩ O
 ·rw [h.1, yl3, foldl_append]
 ·have H : x ∈ xs := yt z
  have h1 := V x H
  have J : i < xs.length := by
   rcases yu1 i xs.length with h | h
   ·exact h
   ·rw [yy h] at z; cases z
  have W : c * (i + 1) ≤ c * xs.length := Nat.mul_le_mul_left c J
  rw [Nat.mul_succ] at W
  refine ⟨N i a x z H (by omega), by rw [yj, Nat.mul_succ]; omega, J⟩
theorem fC {i : Nat} (h : i < 4294967296) : dQ .i64 (i : Int) 1 = ((i + 1 : Nat) : Int) := by
 rw [mT (by omega) (by omega)]; omega
theorem fM {xs : List A} {i : Nat} {x : A} (h : xs[i]? = some x) : i < xs.length := by
 rcases yu1 i xs.length with z | z
 ·exact z
 ·rw [yy z] at h; cases h
theorem a8 {β : Type} {l : List β} (h : l.length ≤ 4294967296) : Nat.ble l.length 4294967296 = true := yv2 h
end Go.Ab
