import Derived.Test.YtdlbbdbbpoggfaaLib29
import Derived.ChangeArms
import Derived.ChangeShapes
import Derived.SizedLaws
set_option linter.unusedVariables false
set_option linter.unusedSectionVars false
set_option linter.unusedSimpArgs false
namespace Go.Ab
variable [b4]
open Go.RowKit
variable {P : Program} {H : Type} {enc : TypeId × Value → H} {w : World}
noncomputable section
def O6 : (T : Ty) → den T → Prop
 | .int k, x => (Lit.int k x).wf = true
 | .bool, _ => True
 | .str, s => ByteArray.size s ≤ reachBytes
 | .sl _ T, xs => List.length xs ≤ reachBytes ∧ ∀ x ∈ (show List (den T) from xs), O6 T x
 | .cons a b, p => O6 a (Prod.fst p) ∧ O6 b (Prod.snd p)
def AL (w : World) (B _o : Nat) : Prop := B < w.heap.size
def Pc (w : World) (T : Ty) (x : den T) (n : Nat) (cs : List Value) : Prop :=
 ∀ (j : Nat) (y : PV), (aM T x)[j]? = some y → ∃ v, cs[n + j]? = some v ∧ v.oneCell' = true ∧ PR w (AL w) y v
def FS (f : TypeId → Option (List (Nat × TypeId))) : List Field → Option (List (Nat × TypeId))
 | [] => some []
 | x :: r => (f x.type).bind fun a => (FS f r).map fun b => a.map (fun q => (x.offset + q.1, q.2)) ++ b
def IJ (P : Program) : Nat → TypeId → Option (List (Nat × TypeId))
 | 0, _ => none
 | k + 1, t => match P.underlying t with
  | some (.struct fs) => FS (IJ P k) fs.toList
  | some (.array _ _) => none
  | _ => some [(0, t)]
def A5 (P : Program) (rd : TypeId → Ty → Bool) (t : TypeId) (T : Ty) : Bool :=
 match P.underlying t with
 | some (.int k) => (match T with | .int k' => gK k k' | _ => false)
 | some .bool => (match T with | .bool => true | _ => false)
 | some .string => (match T with | .str => true | _ => false)
 | some (.slice e) => (match T with | .sl _ T' => rd e T' && Nat.beq (P.cellsOf e) T'.size && Nat.ble 1 (P.bytesOf e) | _ => false)
 | _ => false
def wD (leaf : TypeId → Ty → Bool) : Nat → List (Nat × TypeId) → Ty → Bool
 | _, [], _ => false
 | n, [q], T => Nat.beq q.1 n && leaf q.2 T
 | n, q :: r, T => match T with
  | .cons a b => Nat.beq q.1 n && leaf q.2 a && wD leaf (n + 1) r b
  | _ => false
def Mz (P : Program) : Nat → TypeId → Ty → Bool
 | 0, _, _ => false
 | k + 1, t, T => match IJ P 8 t with
  | some l => wD (A5 P (Mz P k)) 0 l T
  | none => false
abbrev rB (enc : TypeId × Value → H) (P : Program) (w : World) (m : Nat) (t : TypeId) (cs : List Value) : Option (DataW H × List MemPlace) := DataW.trod enc P w 0 (fun _ => true) true m t cs
def Lw (P : Program) (t : TypeId) (d : DataW H) : Prop := ∀ n ∈ DataW.weights P t d, n ≤ reachBytes
theorem mI {e : TypeId} : ∀ {I : List (DataW H)} {i : Nat} {d : DataW H}, I[i]? = some d → ∀ n ∈ DataW.weights P e d, n ∈ DataW.weightsAll P e I
 | d0 :: I, 0, d, h, n, hn => by
  simp at h; subst h
  simp only [DataW.weightsAll, yo1]; exact .inl hn
 | d0 :: I, i + 1, d, h, n, hn => by
  simp only [DataW.weightsAll, yo1]
  exact .inr (mI (by simpa using h) n hn)
 | [], _, _, h, _, _ => by simp at h
section
variable {m : Nat} {t : TypeId} {cs : List Value} {x : DataW H × List MemPlace}
theorem MH {e : TypeId} (ht : P.underlying t = some (.slice e)) (h : rB enc P w m t cs = some x) (hw : Lw P t x.1) : cs = [.slice none 0 0] ∨ ∃ a len cap m', cs = [.slice (some a) len cap] ∧ len ≤ cap ∧ cap ≤ maxLen ∧ m = m' + 1 ∧ cap * P.bytesOf e ≤ reachBytes ∧
  ∀ i, i < cap → ∃ N y, w.cells? 0 (a.add (i * P.cellsOf e)) (P.cellsOf e) = some N ∧ rB enc P w m' e N = some y ∧ Lw P e y.1 := by
 rcases DataW.trod_slice ht h with ⟨J, _⟩ | ⟨a, len, cap, I, rest, n, hf, V, hx, _, W, U, Z, he, hr, _⟩
 ·exact .inl J
 ·right
  obtain ⟨h0, hr⟩ := hr rfl
  subst hx
  have K : ∀ k ∈ (((I.map (·.1)).length + (rest.map (·.1)).length) * P.bytesOf e :: (DataW.weightsAll P e (I.map (·.1)) ++ DataW.weightsAll P e (rest.map (·.1)))), k ≤ reachBytes := by
   have M := hw
   unfold Lw at M
   simp only [DataW.weights, ht] at M
   exact M
  refine ⟨a, len, cap, n, V, W, U, hf, ?_, fun i hi => ?_⟩
  ·have := K _ (ym ..)
   rw [ye1, ye1, Z, h0, show len + (cap - len) = cap by omega] at this
   exact this
  by_cases hl : i < len
  ·have J := he i hl
   have : i < I.length := by omega
   rw [yf this] at J
   obtain ⟨N, Y, h3⟩ := yd2.1 J
   refine ⟨N, _, Y, h3, fun k O => K k (yh _ (yo1.2 (.inl (mI (i := i) ?_ k O))))⟩
   rw [yb1, yf this]; rfl
  ·have J := hr (i - len) (by omega)
   have : i - len < rest.length := by omega
   rw [yf this, show len + (i - len) = i by omega] at J
   obtain ⟨N, Y, h3⟩ := yd2.1 J
   refine ⟨N, _, Y, h3, fun k O => K k (yh _ (yo1.2 (.inr (mI (i := i - len) ?_ k O))))⟩
   rw [yb1, yf this]; rfl
end
def wB (P : Program) (t : TypeId) : Prop := (∃ k, P.underlying t = some (.int k)) ∨ P.underlying t = some .bool ∨ P.underlying t = some .string ∨ ∃ e, P.underlying t = some (.slice e)
theorem NH {m : Nat} {t : TypeId} {cs : List Value} {x : DataW H × List MemPlace} (I : wB P t) (h : rB enc P w m t cs = some x) : ∃ v, cs = [v] := by
 rcases I with ⟨k, ht⟩ | ht | ht | ⟨e, ht⟩
 ·obtain ⟨n, h, _⟩ := DataW.trod_int ht h; exact ⟨_, h⟩
 ·obtain ⟨n, h, _⟩ := DataW.trod_bool ht h; exact ⟨_, h⟩
 ·obtain ⟨n, h, _⟩ := DataW.trod_string ht h; exact ⟨_, h⟩
 ·rcases DataW.trod_slice ht h with ⟨h, _⟩ | ⟨_, _, _, _, _, _, _, h, _⟩ <;> exact ⟨_, h⟩
theorem FD {f : TypeId → Option (List (Nat × TypeId))} : ∀ {fs : List Field} {l : List (Nat × TypeId)}, FS f fs = some l → ∀ q ∈ l, ∃ (i : Nat) (x : Field) (a : List (Nat × TypeId)) (J : Nat × TypeId), fs[i]? = some x ∧ f x.type = some a ∧ J ∈ a ∧ q = (x.offset + J.1, J.2)
 | [], l, h, q, I => by simp [FS] at h; subst h; cases I
 | x :: r, l, h, q, I => by
  simp only [FS, yd2, yc] at h
  obtain ⟨a, U, b, M, rfl⟩ := h
  rcases yo1.1 I with I | I
  ·obtain ⟨J, K, rfl⟩ := yu2.1 I
   exact ⟨0, x, a, J, rfl, U, K, rfl⟩
  ·obtain ⟨i, y, Y, J, O, V, W, N⟩ := FD M q I
   exact ⟨i + 1, y, Y, J, by simpa using O, V, W, N⟩
theorem Bc : ∀ (k : Nat) {fuel : Nat} {t : TypeId} {cs : List Value} {x : DataW H × List MemPlace} {l : List (Nat × TypeId)}, IJ P k t = some l → rB enc P w fuel t cs = some x → Lw P t x.1 →
  ∀ q ∈ l, wB P q.2 → ∃ m v y, m ≤ fuel ∧ cs[q.1]? = some v ∧ rB enc P w m q.2 [v] = some y ∧ Lw P q.2 y.1
 | 0, fuel, t, cs, x, l, J, h, Z, q, Y, I => by cases J
 | k + 1, fuel, t, cs, x, l, J, h, Z, q, Y, I => by
  unfold IJ at J
  split at J
  ·rename_i fs ht
   obtain ⟨xs, n, hfu, hx, hlen, hxl, V⟩ := DataW.trod_struct ht h
   obtain ⟨i, f, a, q', O, h2, h3, rfl⟩ := FD J q Y
   have hi : i < fs.size := by
    rcases yc2 i fs.size with h | h
    ·exact h
    ·rw [ya1 (by simpa using h)] at O; cases O
   have h4 := V i f (by rw [← yp1]; exact O)
   have M : i < xs.length := by omega
   rw [yf M] at h4
   have U : Lw P f.type xs[i].1 := by
    intro k hk
    subst hx
    have K := Z
    unfold Lw at K
    simp only [DataW.weights, ht] at K
    refine K k (DataW.weights_mem_each (j := i) (t := f.type) (d := xs[i].1) ?_ ?_ k hk)
    ·rw [yb1, O]; rfl
    ·rw [yb1, yf M]; rfl
   obtain ⟨m, v, y, hm, N, hy, W⟩ := Bc k h2 h4 U q' h3 I
   refine ⟨m, v, y, by omega, ?_, hy, W⟩
   rw [yj1] at N
   split at N
   ·rw [yz] at N; exact N
   ·cases N
  ·cases J
  ·have := ya J
   subst this
   obtain rfl := yb2.1 Y
   obtain ⟨v, rfl⟩ := NH I h
   exact ⟨fuel, v, x, yy _, rfl, h, Z⟩
end
end Go.Ab
