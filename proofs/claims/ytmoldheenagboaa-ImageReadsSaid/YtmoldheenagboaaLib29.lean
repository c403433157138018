import Derived.Test.YtmoldheenagboaaLib28
import Derived.ChangeArms
import Derived.ChangeShapes
import Derived.SizedLaws
set_option linter.unusedVariables false
set_option linter.unusedSectionVars false
set_option linter.unusedSimpArgs false
namespace Go.Ab
variable [b8]
open Go.RowKit
variable {P : Program} {H : Type} {enc : TypeId × Value → H} {w : World}
noncomputable section
def LU : (T : Ty) → den T → Prop
 | .int k, x => (Lit.int k x).wf = true
 | .bool, _ => True
 | .str, s => ByteArray.size s ≤ reachBytes
 | .sl _ T, xs => List.length xs ≤ reachBytes ∧ ∀ x ∈ (show List (den T) from xs), LU T x
 | .cons a b, p => LU a (Prod.fst p) ∧ LU b (Prod.snd p)
def wO (w : World) (B _o : Nat) : Prop := B < w.heap.size
def Mg (w : World) (T : Ty) (x : den T) (n : Nat) (cs : List Value) : Prop :=
 ∀ (j : Nat) (y : PV), (aS T x)[j]? = some y → ∃ v, cs[n + j]? = some v ∧ v.oneCell' = true ∧ PR w (wO w) y v
def Cv (f : TypeId → Option (List (Nat × TypeId))) : List Field → Option (List (Nat × TypeId))
 | [] => some []
 | x :: r => (f x.type).bind fun a => (Cv f r).map fun b => a.map (fun q => (x.offset + q.1, q.2)) ++ b
def Gz (P : Program) : Nat → TypeId → Option (List (Nat × TypeId))
 | 0, _ => none
 | k + 1, t => match P.underlying t with
  | some (.struct fs) => Cv (Gz P k) fs.toList
  | some (.array _ _) => none
  | _ => some [(0, t)]
def zA (P : Program) (rd : TypeId → Ty → Bool) (t : TypeId) (T : Ty) : Bool :=
 match P.underlying t with
 | some (.int k) => (match T with | .int k' => f6 k k' | _ => false)
 | some .bool => (match T with | .bool => true | _ => false)
 | some .string => (match T with | .str => true | _ => false)
 | some (.slice e) => (match T with | .sl _ T' => rd e T' && Nat.beq (P.cellsOf e) T'.size && Nat.ble 1 (P.bytesOf e) | _ => false)
 | _ => false
def qF (leaf : TypeId → Ty → Bool) : Nat → List (Nat × TypeId) → Ty → Bool
 | _, [], _ => false
 | n, [q], T => Nat.beq q.1 n && leaf q.2 T
 | n, q :: r, T => match T with
  | .cons a b => Nat.beq q.1 n && leaf q.2 a && qF leaf (n + 1) r b
  | _ => false
def Jm (P : Program) : Nat → TypeId → Ty → Bool
 | 0, _, _ => false
 | k + 1, t, T => match Gz P 8 t with
  | some l => qF (zA P (Jm P k)) 0 l T
  | none => false
abbrev oM (enc : TypeId × Value → H) (P : Program) (w : World) (m : Nat) (t : TypeId) (cs : List Value) : Option (DataW H × List MemPlace) := DataW.trod enc P w 0 (fun _ => true) true m t cs
def Lw (P : Program) (t : TypeId) (d : DataW H) : Prop := ∀ n ∈ DataW.weights P t d, n ≤ reachBytes
theorem kG {e : TypeId} : ∀ {z : List (DataW H)} {i : Nat} {d : DataW H}, z[i]? = some d → ∀ n ∈ DataW.weights P e d, n ∈ DataW.weightsAll P e z
 | d0 :: z, 0, d, h, n, J => by
  simp at h; subst h
  simp only [DataW.weightsAll, yj1]; exact .inl J
 | d0 :: z, i + 1, d, h, n, J => by
  simp only [DataW.weightsAll, yj1]
  exact .inr (kG (by simpa using h) n J)
 | [], _, _, h, _, _ => by simp at h
section
variable {m : Nat} {t : TypeId} {cs : List Value} {x : DataW H × List MemPlace}
theorem Jk {e : TypeId} (ht : P.underlying t = some (.slice e)) (h : oM enc P w m t cs = some x) (hw : Lw P t x.1) : cs = [.slice none 0 0] ∨ ∃ a len cap m', cs = [.slice (some a) len cap] ∧ len ≤ cap ∧ cap ≤ maxLen ∧ m = m' + 1 ∧ cap * P.bytesOf e ≤ reachBytes ∧
  ∀ i, i < cap → ∃ O y, w.cells? 0 (a.add (i * P.cellsOf e)) (P.cellsOf e) = some O ∧ oM enc P w m' e O = some y ∧ Lw P e y.1 := by
 rcases DataW.trod_slice ht h with ⟨K, _⟩ | ⟨a, len, cap, z, rest, n, hf, Y, hx, _, V, hcm, Z, he, W, _⟩
 ·exact .inl K
 ·right
  obtain ⟨h0, W⟩ := W rfl
  subst hx
  have N : ∀ k ∈ (((z.map (·.1)).length + (rest.map (·.1)).length) * P.bytesOf e :: (DataW.weightsAll P e (z.map (·.1)) ++ DataW.weightsAll P e (rest.map (·.1)))), k ≤ reachBytes := by
   have J := hw
   unfold Lw at J
   simp only [DataW.weights, ht] at J
   exact J
  refine ⟨a, len, cap, n, Y, V, hcm, hf, ?_, fun i hi => ?_⟩
  ·have := N _ (ym ..)
   rw [ya2, ya2, Z, h0, show len + (cap - len) = cap by omega] at this
   exact this
  by_cases hl : i < len
  ·have K := he i hl
   have : i < z.length := by omega
   rw [ye this] at K
   obtain ⟨O, h2, h3⟩ := yz1.1 K
   refine ⟨O, _, h2, h3, fun k U => N k (yi _ (yj1.2 (.inl (kG (i := i) ?_ k U))))⟩
   rw [yc1, ye this]; rfl
  ·have K := W (i - len) (by omega)
   have : i - len < rest.length := by omega
   rw [ye this, show len + (i - len) = i by omega] at K
   obtain ⟨O, h2, h3⟩ := yz1.1 K
   refine ⟨O, _, h2, h3, fun k U => N k (yi _ (yj1.2 (.inr (kG (i := i - len) ?_ k U))))⟩
   rw [yc1, ye this]; rfl
end
def qT (P : Program) (t : TypeId) : Prop := (∃ k, P.underlying t = some (.int k)) ∨ P.underlying t = some .bool ∨ P.underlying t = some .string ∨ ∃ e, P.underlying t = some (.slice e)
theorem Ko {m : Nat} {t : TypeId} {cs : List Value} {x : DataW H × List MemPlace} (J : qT P t) (h : oM enc P w m t cs = some x) : ∃ v, cs = [v] := by
 rcases J with ⟨k, z⟩ | z | z | ⟨e, z⟩
 ·obtain ⟨n, h, _⟩ := DataW.trod_int z h; exact ⟨_, h⟩
 ·obtain ⟨n, h, _⟩ := DataW.trod_bool z h; exact ⟨_, h⟩
 ·obtain ⟨n, h, _⟩ := DataW.trod_string z h; exact ⟨_, h⟩
 ·rcases DataW.trod_slice z h with ⟨h, _⟩ | ⟨_, _, _, _, _, _, _, h, _⟩ <;> exact ⟨_, h⟩
theorem BL {f : TypeId → Option (List (Nat × TypeId))} : ∀ {fs : List Field} {l : List (Nat × TypeId)}, Cv f fs = some l → ∀ q ∈ l, ∃ (i : Nat) (x : Field) (a : List (Nat × TypeId)) (J : Nat × TypeId), fs[i]? = some x ∧ f x.type = some a ∧ J ∈ a ∧ q = (x.offset + J.1, J.2)
 | [], l, h, q, z => by simp [Cv] at h; subst h; cases z
 | x :: r, l, h, q, z => by
  simp only [Cv, yz1, yd] at h
  obtain ⟨a, N, b, V, rfl⟩ := h
  rcases yj1.1 z with z | z
  ·obtain ⟨J, K, rfl⟩ := yu2.1 z
   exact ⟨0, x, a, J, rfl, N, K, rfl⟩
  ·obtain ⟨i, y, W, J, U, Y, Z, O⟩ := BL V q z
   exact ⟨i + 1, y, W, J, by simpa using U, Y, Z, O⟩
theorem yJ : ∀ (k : Nat) {fuel : Nat} {t : TypeId} {cs : List Value} {x : DataW H × List MemPlace} {l : List (Nat × TypeId)}, Gz P k t = some l → oM enc P w fuel t cs = some x → Lw P t x.1 →
  ∀ q ∈ l, qT P q.2 → ∃ m v y, m ≤ fuel ∧ cs[q.1]? = some v ∧ oM enc P w m q.2 [v] = some y ∧ Lw P q.2 y.1
 | 0, fuel, t, cs, x, l, J, h, Z, q, V, z => by cases J
 | k + 1, fuel, t, cs, x, l, J, h, Z, q, V, z => by
  unfold Gz at J
  split at J
  ·rename_i fs ht
   obtain ⟨xs, n, hfu, hx, hlen, hxl, hfs⟩ := DataW.trod_struct ht h
   obtain ⟨i, f, a, q', U, h2, h3, rfl⟩ := BL J q V
   have hi : i < fs.size := by
    rcases yu1 i fs.size with h | h
    ·exact h
    ·rw [yy (by simpa using h)] at U; cases U
   have h4 := hfs i f (by rw [← ym1]; exact U)
   have O : i < xs.length := by omega
   rw [ye O] at h4
   have W : Lw P f.type xs[i].1 := by
    intro k hk
    subst hx
    have K := Z
    unfold Lw at K
    simp only [DataW.weights, ht] at K
    refine K k (DataW.weights_mem_each (j := i) (t := f.type) (d := xs[i].1) ?_ ?_ k hk)
    ·rw [yc1, U]; rfl
    ·rw [yc1, ye O]; rfl
   obtain ⟨m, v, y, hm, N, hy, Y⟩ := yJ k h2 h4 W q' h3 z
   refine ⟨m, v, y, by omega, ?_, hy, Y⟩
   rw [yh2] at N
   split at N
   ·rw [ya1] at N; exact N
   ·cases N
  ·cases J
  ·have := ya J
   subst this
   obtain rfl := yb1.1 V
   obtain ⟨v, rfl⟩ := Ko z h
   exact ⟨fuel, v, x, yu _, rfl, h, Z⟩
end
end Go.Ab
