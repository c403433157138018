import Derived.Test.YtdlbbdbbpoggfaaGreatDoorLib28
import Derived.ChangeArms
import Derived.ChangeShapes
import Derived.SizedLaws
set_option linter.unusedVariables false
set_option linter.unusedSectionVars false
set_option linter.unusedSimpArgs false
namespace Go.Ab
variable [cD]
open Go.RowKit
variable {P : Program} {H : Type} {enc : TypeId × Value → H} {w : World}
noncomputable section
def kU : (T : Ty) → den T → Prop
 | .int k, x => (Lit.int k x).wf = true
 | .bool, _ => True
 | .str, s => ByteArray.size s ≤ reachBytes
 | .sl _ T, xs => List.length xs ≤ reachBytes ∧ ∀ x ∈ (show List (den T) from xs), kU T x
 | .cons a b, p => kU a (Prod.fst p) ∧ kU b (Prod.snd p)
def zC (w : World) (B _o : Nat) : Prop := B < w.heap.size
def Pp (w : World) (T : Ty) (x : den T) (n : Nat) (cs : List Value) : Prop :=
 ∀ (j : Nat) (y : PV), (aV T x)[j]? = some y → ∃ v, cs[n + j]? = some v ∧ v.oneCell' = true ∧ PR w (zC w) y v
def CO (f : TypeId → Option (List (Nat × TypeId))) : List Field → Option (List (Nat × TypeId))
 | [] => some []
 | x :: r => (f x.type).bind fun a => (CO f r).map fun b => a.map (fun q => (x.offset + q.1, q.2)) ++ b
def Iw (P : Program) : Nat → TypeId → Option (List (Nat × TypeId))
 | 0, _ => none
 | k + 1, t => match P.underlying t with
  | some (.struct fs) => CO (Iw P k) fs.toList
  | some (.array _ _) => none
  | _ => some [(0, t)]
def AB (P : Program) (rd : TypeId → Ty → Bool) (t : TypeId) (T : Ty) : Bool :=
 match P.underlying t with
 | some (.int k) => (match T with | .int k' => gV k k' | _ => false)
 | some .bool => (match T with | .bool => true | _ => false)
 | some .string => (match T with | .str => true | _ => false)
 | some (.slice e) => (match T with | .sl _ T' => rd e T' && Nat.beq (P.cellsOf e) T'.size && Nat.ble 1 (P.bytesOf e) | _ => false)
 | _ => false
def sC (leaf : TypeId → Ty → Bool) : Nat → List (Nat × TypeId) → Ty → Bool
 | _, [], _ => false
 | n, [q], T => Nat.beq q.1 n && leaf q.2 T
 | n, q :: r, T => match T with
  | .cons a b => Nat.beq q.1 n && leaf q.2 a && sC leaf (n + 1) r b
  | _ => false
def Lj (P : Program) : Nat → TypeId → Ty → Bool
 | 0, _, _ => false
 | k + 1, t, T => match Iw P 8 t with
  | some l => sC (AB P (Lj P k)) 0 l T
  | none => false
abbrev qC (enc : TypeId × Value → H) (P : Program) (w : World) (m : Nat) (t : TypeId) (cs : List Value) : Option (DataW H × List MemPlace) := DataW.trod enc P w 0 (fun _ => true) true m t cs
def Lw (P : Program) (t : TypeId) (d : DataW H) : Prop := ∀ n ∈ DataW.weights P t d, n ≤ reachBytes
theorem mD {e : TypeId} : ∀ {z : List (DataW H)} {i : Nat} {d : DataW H}, z[i]? = some d → ∀ n ∈ DataW.weights P e d, n ∈ DataW.weightsAll P e z
 | d0 :: z, 0, d, h, n, hn => by
  simp at h; subst h
  simp only [DataW.weightsAll, yb2]; exact .inl hn
 | d0 :: z, i + 1, d, h, n, hn => by
  simp only [DataW.weightsAll, yb2]
  exact .inr (mD (by simpa using h) n hn)
 | [], _, _, h, _, _ => by simp at h
section
variable {m : Nat} {t : TypeId} {cs : List Value} {x : DataW H × List MemPlace}
theorem Ms {e : TypeId} (ht : P.underlying t = some (.slice e)) (h : qC enc P w m t cs = some x) (hw : Lw P t x.1) : cs = [.slice none 0 0] ∨ ∃ a len cap Z, cs = [.slice (some a) len cap] ∧ len ≤ cap ∧ cap ≤ maxLen ∧ m = Z + 1 ∧ cap * P.bytesOf e ≤ reachBytes ∧
  ∀ i, i < cap → ∃ K y, w.cells? 0 (a.add (i * P.cellsOf e)) (P.cellsOf e) = some K ∧ qC enc P w Z e K = some y ∧ Lw P e y.1 := by
 rcases DataW.trod_slice ht h with ⟨h1, _⟩ | ⟨a, len, cap, z, rest, n, hf, M, hx, _, Y, N, O, he, U, _⟩
 ·exact .inl h1
 ·right
  obtain ⟨h0, U⟩ := U rfl
  subst hx
  have A : ∀ k ∈ (((z.map (·.1)).length + (rest.map (·.1)).length) * P.bytesOf e :: (DataW.weightsAll P e (z.map (·.1)) ++ DataW.weightsAll P e (rest.map (·.1)))), k ≤ reachBytes := by
   have J := hw
   unfold Lw at J
   simp only [DataW.weights, ht] at J
   exact J
  refine ⟨a, len, cap, n, M, Y, N, hf, ?_, fun i hi => ?_⟩
  ·have := A _ (yn ..)
   rw [ye2, ye2, O, h0, show len + (cap - len) = cap by omega] at this
   exact this
  by_cases hl : i < len
  ·have h1 := he i hl
   have : i < z.length := by omega
   rw [yd this] at h1
   obtain ⟨K, h2, W⟩ := yo1.1 h1
   refine ⟨K, _, h2, W, fun k V => A k (yk _ (yb2.2 (.inl (mD (i := i) ?_ k V))))⟩
   rw [yh1, yd this]; rfl
  ·have h1 := U (i - len) (by omega)
   have : i - len < rest.length := by omega
   rw [yd this, show len + (i - len) = i by omega] at h1
   obtain ⟨K, h2, W⟩ := yo1.1 h1
   refine ⟨K, _, h2, W, fun k V => A k (yk _ (yb2.2 (.inr (mD (i := i - len) ?_ k V))))⟩
   rw [yh1, yd this]; rfl
end
def sT (P : Program) (t : TypeId) : Prop := (∃ k, P.underlying t = some (.int k)) ∨ P.underlying t = some .bool ∨ P.underlying t = some .string ∨ ∃ e, P.underlying t = some (.slice e)
theorem MB {m : Nat} {t : TypeId} {cs : List Value} {x : DataW H × List MemPlace} (hl : sT P t) (h : qC enc P w m t cs = some x) : ∃ v, cs = [v] := by
 rcases hl with ⟨k, ht⟩ | ht | ht | ⟨e, ht⟩
 ·obtain ⟨n, h, _⟩ := DataW.trod_int ht h; exact ⟨_, h⟩
 ·obtain ⟨n, h, _⟩ := DataW.trod_bool ht h; exact ⟨_, h⟩
 ·obtain ⟨n, h, _⟩ := DataW.trod_string ht h; exact ⟨_, h⟩
 ·rcases DataW.trod_slice ht h with ⟨h, _⟩ | ⟨_, _, _, _, _, _, _, h, _⟩ <;> exact ⟨_, h⟩
theorem Ek {f : TypeId → Option (List (Nat × TypeId))} : ∀ {fs : List Field} {l : List (Nat × TypeId)}, CO f fs = some l → ∀ q ∈ l, ∃ (i : Nat) (x : Field) (a : List (Nat × TypeId)) (z : Nat × TypeId), fs[i]? = some x ∧ f x.type = some a ∧ z ∈ a ∧ q = (x.offset + z.1, z.2)
 | [], l, h, q, A => by simp [CO] at h; subst h; cases A
 | x :: r, l, h, q, A => by
  simp only [CO, yo1, yf] at h
  obtain ⟨a, K, b, M, rfl⟩ := h
  rcases yb2.1 A with A | A
  ·obtain ⟨z, J, rfl⟩ := yc3.1 A
   exact ⟨0, x, a, z, rfl, K, J, rfl⟩
  ·obtain ⟨i, y, O, z, h1, h2, U, N⟩ := Ek M q A
   exact ⟨i + 1, y, O, z, by simpa using h1, h2, U, N⟩
theorem Aq : ∀ (k : Nat) {fuel : Nat} {t : TypeId} {cs : List Value} {x : DataW H × List MemPlace} {l : List (Nat × TypeId)}, Iw P k t = some l → qC enc P w fuel t cs = some x → Lw P t x.1 →
  ∀ q ∈ l, sT P q.2 → ∃ m v y, m ≤ fuel ∧ cs[q.1]? = some v ∧ qC enc P w m q.2 [v] = some y ∧ Lw P q.2 y.1
 | 0, fuel, t, cs, x, l, hl, h, N, q, O, z => by cases hl
 | k + 1, fuel, t, cs, x, l, hl, h, N, q, O, z => by
  unfold Iw at hl
  split at hl
  ·rename_i fs ht
   obtain ⟨xs, n, hfu, hx, W, hxl, M⟩ := DataW.trod_struct ht h
   obtain ⟨i, f, a, Z, h1, h2, h3, rfl⟩ := Ek hl q O
   have hi : i < fs.size := by
    rcases yz1 i fs.size with h | h
    ·exact h
    ·rw [ya1 (by simpa using h)] at h1; cases h1
   have Y := M i f (by rw [← yk1]; exact h1)
   have K : i < xs.length := by omega
   rw [yd K] at Y
   have U : Lw P f.type xs[i].1 := by
    intro k hk
    subst hx
    have A := N
    unfold Lw at A
    simp only [DataW.weights, ht] at A
    refine A k (DataW.weights_mem_each (j := i) (t := f.type) (d := xs[i].1) ?_ ?_ k hk)
    ·rw [yh1, h1]; rfl
    ·rw [yh1, yd K]; rfl
   obtain ⟨m, v, y, hm, J, hy, V⟩ := Aq k h2 Y U Z h3 z
   refine ⟨m, v, y, by omega, ?_, hy, V⟩
   rw [yo2] at J
   split at J
   ·rw [yd1] at J; exact J
   ·cases J
  ·cases hl
  ·have := yb hl
   subst this
   obtain rfl := ym1.1 O
   obtain ⟨v, rfl⟩ := MB z h
   exact ⟨fuel, v, x, yz _, rfl, h, N⟩
end
end Go.Ab
