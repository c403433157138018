import Derived.Test.YtdlbbdbbpoggfaaLib29
import Derived.ChangeArms
import Derived.ChangeShapes
import Derived.SizedLaws
set_option linter.unusedVariables false
set_option linter.unusedSectionVars false
set_option linter.unusedSimpArgs false
namespace Go.Ab
variable [b4]
open Go.RowKit
variable {P : Program} {H : Type} {enc : TypeId × Value → H} {w : World}
noncomputable section
def O2 : (T : Ty) → den T → Prop
 | .int k, x => (Lit.int k x).wf = true
 | .bool, _ => True
 | .str, s => ByteArray.size s ≤ reachBytes
 | .sl _ T, xs => List.length xs ≤ reachBytes ∧ ∀ x ∈ (show List (den T) from xs), O2 T x
 | .cons a b, p => O2 a (Prod.fst p) ∧ O2 b (Prod.snd p)
def AQ (w : World) (B _o : Nat) : Prop := B < w.heap.size
def Pe (w : World) (T : Ty) (x : den T) (n : Nat) (cs : List Value) : Prop :=
 ∀ (j : Nat) (y : PV), (aM T x)[j]? = some y → ∃ v, cs[n + j]? = some v ∧ v.oneCell' = true ∧ PR w (AQ w) y v
def E0 (f : TypeId → Option (List (Nat × TypeId))) : List Field → Option (List (Nat × TypeId))
 | [] => some []
 | x :: r => (f x.type).bind fun a => (E0 f r).map fun b => a.map (fun q => (x.offset + q.1, q.2)) ++ b
def Js (P : Program) : Nat → TypeId → Option (List (Nat × TypeId))
 | 0, _ => none
 | k + 1, t => match P.underlying t with
  | some (.struct fs) => E0 (Js P k) fs.toList
  | some (.array _ _) => none
  | _ => some [(0, t)]
def BJ (P : Program) (rd : TypeId → Ty → Bool) (t : TypeId) (T : Ty) : Bool :=
 match P.underlying t with
 | some (.int k) => (match T with | .int k' => gK k k' | _ => false)
 | some .bool => (match T with | .bool => true | _ => false)
 | some .string => (match T with | .str => true | _ => false)
 | some (.slice e) => (match T with | .sl _ T' => rd e T' && Nat.beq (P.cellsOf e) T'.size && Nat.ble 1 (P.bytesOf e) | _ => false)
 | _ => false
def wK (leaf : TypeId → Ty → Bool) : Nat → List (Nat × TypeId) → Ty → Bool
 | _, [], _ => false
 | n, [q], T => Nat.beq q.1 n && leaf q.2 T
 | n, q :: r, T => match T with
  | .cons a b => Nat.beq q.1 n && leaf q.2 a && wK leaf (n + 1) r b
  | _ => false
def MD (P : Program) : Nat → TypeId → Ty → Bool
 | 0, _, _ => false
 | k + 1, t, T => match Js P 8 t with
  | some l => wK (BJ P (MD P k)) 0 l T
  | none => false
abbrev rA (enc : TypeId × Value → H) (P : Program) (w : World) (m : Nat) (t : TypeId) (cs : List Value) : Option (DataW H × List MemPlace) := DataW.trod enc P w 0 (fun _ => true) true m t cs
def Lw (P : Program) (t : TypeId) (d : DataW H) : Prop := ∀ n ∈ DataW.weights P t d, n ≤ reachBytes
theorem mH {e : TypeId} : ∀ {I : List (DataW H)} {i : Nat} {d : DataW H}, I[i]? = some d → ∀ n ∈ DataW.weights P e d, n ∈ DataW.weightsAll P e I
 | d0 :: I, 0, d, h, n, hn => by
  simp at h; subst h
  simp only [DataW.weightsAll, yo1]; exact .inl hn
 | d0 :: I, i + 1, d, h, n, hn => by
  simp only [DataW.weightsAll, yo1]
  exact .inr (mH (by simpa using h) n hn)
 | [], _, _, h, _, _ => by simp at h
section
variable {m : Nat} {t : TypeId} {cs : List Value} {x : DataW H × List MemPlace}
theorem Mj {e : TypeId} (ht : P.underlying t = some (.slice e)) (h : rA enc P w m t cs = some x) (hw : Lw P t x.1) : cs = [.slice none 0 0] ∨ ∃ a len cap m', cs = [.slice (some a) len cap] ∧ len ≤ cap ∧ cap ≤ maxLen ∧ m = m' + 1 ∧ cap * P.bytesOf e ≤ reachBytes ∧
  ∀ i, i < cap → ∃ N y, w.cells? 0 (a.add (i * P.cellsOf e)) (P.cellsOf e) = some N ∧ rA enc P w m' e N = some y ∧ Lw P e y.1 := by
 rcases DataW.trod_slice ht h with ⟨J, _⟩ | ⟨a, len, cap, I, rest, n, hf, hcs, hx, _, W, Z, V, he, hr, _⟩
 ·exact .inl J
 ·right
  obtain ⟨h0, hr⟩ := hr rfl
  subst hx
  have M : ∀ k ∈ (((I.map (·.1)).length + (rest.map (·.1)).length) * P.bytesOf e :: (DataW.weightsAll P e (I.map (·.1)) ++ DataW.weightsAll P e (rest.map (·.1)))), k ≤ reachBytes := by
   have K := hw
   unfold Lw at K
   simp only [DataW.weights, ht] at K
   exact K
  refine ⟨a, len, cap, n, hcs, W, Z, hf, ?_, fun i hi => ?_⟩
  ·have := M _ (ym ..)
   rw [ye1, ye1, V, h0, show len + (cap - len) = cap by omega] at this
   exact this
  by_cases hl : i < len
  ·have J := he i hl
   have : i < I.length := by omega
   rw [yf this] at J
   obtain ⟨N, O, U⟩ := yd2.1 J
   refine ⟨N, _, O, U, fun k Y => M k (yh _ (yo1.2 (.inl (mH (i := i) ?_ k Y))))⟩
   rw [yb1, yf this]; rfl
  ·have J := hr (i - len) (by omega)
   have : i - len < rest.length := by omega
   rw [yf this, show len + (i - len) = i by omega] at J
   obtain ⟨N, O, U⟩ := yd2.1 J
   refine ⟨N, _, O, U, fun k Y => M k (yh _ (yo1.2 (.inr (mH (i := i - len) ?_ k Y))))⟩
   rw [yb1, yf this]; rfl
end
def wE (P : Program) (t : TypeId) : Prop := (∃ k, P.underlying t = some (.int k)) ∨ P.underlying t = some .bool ∨ P.underlying t = some .string ∨ ∃ e, P.underlying t = some (.slice e)
theorem Nf {m : Nat} {t : TypeId} {cs : List Value} {x : DataW H × List MemPlace} (I : wE P t) (h : rA enc P w m t cs = some x) : ∃ v, cs = [v] := by
 rcases I with ⟨k, ht⟩ | ht | ht | ⟨e, ht⟩
 ·obtain ⟨n, h, _⟩ := DataW.trod_int ht h; exact ⟨_, h⟩
 ·obtain ⟨n, h, _⟩ := DataW.trod_bool ht h; exact ⟨_, h⟩
 ·obtain ⟨n, h, _⟩ := DataW.trod_string ht h; exact ⟨_, h⟩
 ·rcases DataW.trod_slice ht h with ⟨h, _⟩ | ⟨_, _, _, _, _, _, _, h, _⟩ <;> exact ⟨_, h⟩
theorem Ee {f : TypeId → Option (List (Nat × TypeId))} : ∀ {fs : List Field} {l : List (Nat × TypeId)}, E0 f fs = some l → ∀ q ∈ l, ∃ (i : Nat) (x : Field) (a : List (Nat × TypeId)) (I : Nat × TypeId), fs[i]? = some x ∧ f x.type = some a ∧ I ∈ a ∧ q = (x.offset + I.1, I.2)
 | [], l, h, q, J => by simp [E0] at h; subst h; cases J
 | x :: r, l, h, q, J => by
  simp only [E0, yd2, yc] at h
  obtain ⟨a, Y, b, M, rfl⟩ := h
  rcases yo1.1 J with J | J
  ·obtain ⟨I, K, rfl⟩ := yu2.1 J
   exact ⟨0, x, a, I, rfl, Y, K, rfl⟩
  ·obtain ⟨i, y, U, I, N, O, W, V⟩ := Ee M q J
   exact ⟨i + 1, y, U, I, by simpa using N, O, W, V⟩
theorem A3 : ∀ (k : Nat) {fuel : Nat} {t : TypeId} {cs : List Value} {x : DataW H × List MemPlace} {l : List (Nat × TypeId)}, Js P k t = some l → rA enc P w fuel t cs = some x → Lw P t x.1 →
  ∀ q ∈ l, wE P q.2 → ∃ m v y, m ≤ fuel ∧ cs[q.1]? = some v ∧ rA enc P w m q.2 [v] = some y ∧ Lw P q.2 y.1
 | 0, fuel, t, cs, x, l, J, h, Y, q, V, I => by cases J
 | k + 1, fuel, t, cs, x, l, J, h, Y, q, V, I => by
  unfold Js at J
  split at J
  ·rename_i fs ht
   obtain ⟨xs, n, hfu, hx, hlen, hxl, W⟩ := DataW.trod_struct ht h
   obtain ⟨i, f, a, q', O, h2, h3, rfl⟩ := Ee J q V
   have hi : i < fs.size := by
    rcases yc2 i fs.size with h | h
    ·exact h
    ·rw [ya1 (by simpa using h)] at O; cases O
   have h4 := W i f (by rw [← yp1]; exact O)
   have M : i < xs.length := by omega
   rw [yf M] at h4
   have U : Lw P f.type xs[i].1 := by
    intro k hk
    subst hx
    have K := Y
    unfold Lw at K
    simp only [DataW.weights, ht] at K
    refine K k (DataW.weights_mem_each (j := i) (t := f.type) (d := xs[i].1) ?_ ?_ k hk)
    ·rw [yb1, O]; rfl
    ·rw [yb1, yf M]; rfl
   obtain ⟨m, v, y, hm, N, hy, Z⟩ := A3 k h2 h4 U q' h3 I
   refine ⟨m, v, y, by omega, ?_, hy, Z⟩
   rw [yj1] at N
   split at N
   ·rw [yz] at N; exact N
   ·cases N
  ·cases J
  ·have := ya J
   subst this
   obtain rfl := yb2.1 V
   obtain ⟨v, rfl⟩ := Nf I h
   exact ⟨fuel, v, x, yy _, rfl, h, Y⟩
end
end Go.Ab
