import Derived.Test.YtdlbbdbbpoggfaaLib30
import Derived.ChangeArms
import Derived.ChangeShapes
import Derived.SizedLaws
set_option linter.unusedVariables false
set_option linter.unusedSectionVars false
set_option linter.unusedSimpArgs false
namespace Go.Ab
variable [GTab]
open Go.RowKit
variable {P : Program} {H : Type} {enc : TypeId × Value → H} {w : World}
noncomputable section
def Fit : (T : Ty) → den T → Prop
 | .int k, x => (Lit.int k x).wf = true
 | .bool, _ => True
 | .str, s => ByteArray.size s ≤ reachBytes
 | .sl _ T, xs => List.length xs ≤ reachBytes ∧ ∀ x ∈ (show List (den T) from xs), Fit T x
 | .cons a b, p => Fit a (Prod.fst p) ∧ Fit b (Prod.snd p)
def oldAt (w : World) (B _o : Nat) : Prop := B < w.heap.size
def TreeAt (w : World) (T : Ty) (x : den T) (n : Nat) (cs : List Value) : Prop :=
 ∀ (j : Nat) (y : PV), (pvCells T x)[j]? = some y → ∃ v, cs[n + j]? = some v ∧ v.oneCell' = true ∧ PR w (oldAt w) y v
def flatFs (f : TypeId → Option (List (Nat × TypeId))) : List Field → Option (List (Nat × TypeId))
 | [] => some []
 | x :: r => (f x.type).bind fun a => (flatFs f r).map fun b => a.map (fun q => (x.offset + q.1, q.2)) ++ b
def flatT (P : Program) : Nat → TypeId → Option (List (Nat × TypeId))
 | 0, _ => none
 | k + 1, t => match P.underlying t with
  | some (.struct fs) => flatFs (flatT P k) fs.toList
  | some (.array _ _) => none
  | _ => some [(0, t)]
def inLeaf (P : Program) (rd : TypeId → Ty → Bool) (t : TypeId) (T : Ty) : Bool :=
 match P.underlying t with
 | some (.int k) => (match T with | .int k' => kEq k k' | _ => false)
 | some .bool => (match T with | .bool => true | _ => false)
 | some .string => (match T with | .str => true | _ => false)
 | some (.slice e) => (match T with | .sl _ T' => rd e T' && Nat.beq (P.cellsOf e) T'.size && Nat.ble 1 (P.bytesOf e) | _ => false)
 | _ => false
def inChain (leaf : TypeId → Ty → Bool) : Nat → List (Nat × TypeId) → Ty → Bool
 | _, [], _ => false
 | n, [q], T => Nat.beq q.1 n && leaf q.2 T
 | n, q :: r, T => match T with
  | .cons a b => Nat.beq q.1 n && leaf q.2 a && inChain leaf (n + 1) r b
  | _ => false
def rdOk (P : Program) : Nat → TypeId → Ty → Bool
 | 0, _, _ => false
 | k + 1, t, T => match flatT P 8 t with
  | some l => inChain (inLeaf P (rdOk P k)) 0 l T
  | none => false
abbrev trodR (enc : TypeId × Value → H) (P : Program) (w : World) (m : Nat) (t : TypeId) (cs : List Value) : Option (DataW H × List MemPlace) := DataW.trod enc P w 0 (fun _ => true) true m t cs
def Lw (P : Program) (t : TypeId) (d : DataW H) : Prop := ∀ n ∈ DataW.weights P t d, n ≤ reachBytes
theorem zbK {e : TypeId} : ∀ {ds : List (DataW H)} {i : Nat} {d : DataW H}, ds[i]? = some d → ∀ n ∈ DataW.weights P e d, n ∈ DataW.weightsAll P e ds
 | d0 :: ds, 0, d, h, n, hn => by
  simp at h; subst h
  simp only [DataW.weightsAll, yl1]; exact .inl hn
 | d0 :: ds, i + 1, d, h, n, hn => by
  simp only [DataW.weightsAll, yl1]
  exact .inr (zbK (by simpa using h) n hn)
 | [], _, _, h, _, _ => by simp at h
section
variable {m : Nat} {t : TypeId} {cs : List Value} {x : DataW H × List MemPlace}
theorem zoi {e : TypeId} (ht : P.underlying t = some (.slice e)) (h : trodR enc P w m t cs = some x) (hw : Lw P t x.1) : cs = [.slice none 0 0] ∨ ∃ a len cap m', cs = [.slice (some a) len cap] ∧ len ≤ cap ∧ cap ≤ maxLen ∧ m = m' + 1 ∧ cap * P.bytesOf e ≤ reachBytes ∧
  ∀ i, i < cap → ∃ es y, w.cells? 0 (a.add (i * P.cellsOf e)) (P.cellsOf e) = some es ∧ trodR enc P w m' e es = some y ∧ Lw P e y.1 := by
 rcases DataW.trod_slice ht h with ⟨h1, _⟩ | ⟨a, len, cap, elems, rest, n, hf, hcs, hx, _, hlc, hcm, hel, he, hr, _⟩
 ·exact .inl h1
 ·right
  obtain ⟨h0, hr⟩ := hr rfl
  subst hx
  have hw1 : ∀ k ∈ (((elems.map (·.1)).length + (rest.map (·.1)).length) * P.bytesOf e :: (DataW.weightsAll P e (elems.map (·.1)) ++ DataW.weightsAll P e (rest.map (·.1)))), k ≤ reachBytes := by
   have hw2 := hw
   unfold Lw at hw2
   simp only [DataW.weights, ht] at hw2
   exact hw2
  refine ⟨a, len, cap, n, hcs, hlc, hcm, hf, ?_, fun i hi => ?_⟩
  ·have := hw1 _ (yn ..)
   rw [yf1, yf1, hel, h0, show len + (cap - len) = cap by omega] at this
   exact this
  by_cases hl : i < len
  ·have h1 := he i hl
   have : i < elems.length := by omega
   rw [yf this] at h1
   obtain ⟨es, h2, h3⟩ := yd2.1 h1
   refine ⟨es, _, h2, h3, fun k hk => hw1 k (yi _ (yl1.2 (.inl (zbK (i := i) ?_ k hk))))⟩
   rw [yc1, yf this]; rfl
  ·have h1 := hr (i - len) (by omega)
   have : i - len < rest.length := by omega
   rw [yf this, show len + (i - len) = i by omega] at h1
   obtain ⟨es, h2, h3⟩ := yd2.1 h1
   refine ⟨es, _, h2, h3, fun k hk => hw1 k (yi _ (yl1.2 (.inr (zbK (i := i - len) ?_ k hk))))⟩
   rw [yc1, yf this]; rfl
end
def isLeafT (P : Program) (t : TypeId) : Prop := (∃ k, P.underlying t = some (.int k)) ∨ P.underlying t = some .bool ∨ P.underlying t = some .string ∨ ∃ e, P.underlying t = some (.slice e)
theorem zpo {m : Nat} {t : TypeId} {cs : List Value} {x : DataW H × List MemPlace} (hl : isLeafT P t) (h : trodR enc P w m t cs = some x) : ∃ v, cs = [v] := by
 rcases hl with ⟨k, ht⟩ | ht | ht | ⟨e, ht⟩
 ·obtain ⟨n, h, _⟩ := DataW.trod_int ht h; exact ⟨_, h⟩
 ·obtain ⟨n, h, _⟩ := DataW.trod_bool ht h; exact ⟨_, h⟩
 ·obtain ⟨n, h, _⟩ := DataW.trod_string ht h; exact ⟨_, h⟩
 ·rcases DataW.trod_slice ht h with ⟨h, _⟩ | ⟨_, _, _, _, _, _, _, h, _⟩ <;> exact ⟨_, h⟩
theorem zii {f : TypeId → Option (List (Nat × TypeId))} : ∀ {fs : List Field} {l : List (Nat × TypeId)}, flatFs f fs = some l → ∀ q ∈ l, ∃ (i : Nat) (x : Field) (a : List (Nat × TypeId)) (q' : Nat × TypeId), fs[i]? = some x ∧ f x.type = some a ∧ q' ∈ a ∧ q = (x.offset + q'.1, q'.2)
 | [], l, h, q, hq => by simp [flatFs] at h; subst h; cases hq
 | x :: r, l, h, q, hq => by
  simp only [flatFs, yd2, yd] at h
  obtain ⟨a, ha, b, hb, rfl⟩ := h
  rcases yl1.1 hq with hq | hq
  ·obtain ⟨q', hq', rfl⟩ := yu2.1 hq
   exact ⟨0, x, a, q', rfl, ha, hq', rfl⟩
  ·obtain ⟨i, y, a', q', h1, h2, h3, h4⟩ := zii hb q hq
   exact ⟨i + 1, y, a', q', by simpa using h1, h2, h3, h4⟩
theorem zgd : ∀ (k : Nat) {fuel : Nat} {t : TypeId} {cs : List Value} {x : DataW H × List MemPlace} {l : List (Nat × TypeId)}, flatT P k t = some l → trodR enc P w fuel t cs = some x → Lw P t x.1 →
  ∀ q ∈ l, isLeafT P q.2 → ∃ m v y, m ≤ fuel ∧ cs[q.1]? = some v ∧ trodR enc P w m q.2 [v] = some y ∧ Lw P q.2 y.1
 | 0, fuel, t, cs, x, l, hl, h, hw, q, hq, hleaf => by cases hl
 | k + 1, fuel, t, cs, x, l, hl, h, hw, q, hq, hleaf => by
  unfold flatT at hl
  split at hl
  ·rename_i fs ht
   obtain ⟨xs, n, hfu, hx, hlen, hxl, hfs⟩ := DataW.trod_struct ht h
   obtain ⟨i, f, a, q', h1, h2, h3, rfl⟩ := zii hl q hq
   have hi : i < fs.size := by
    rcases yc2 i fs.size with h | h
    ·exact h
    ·rw [ya1 (by simpa using h)] at h1; cases h1
   have h4 := hfs i f (by rw [← yo1]; exact h1)
   have hix : i < xs.length := by omega
   rw [yf hix] at h4
   have hw' : Lw P f.type xs[i].1 := by
    intro k hk
    subst hx
    have hw1 := hw
    unfold Lw at hw1
    simp only [DataW.weights, ht] at hw1
    refine hw1 k (DataW.weights_mem_each (j := i) (t := f.type) (d := xs[i].1) ?_ ?_ k hk)
    ·rw [yc1, h1]; rfl
    ·rw [yc1, yf hix]; rfl
   obtain ⟨m, v, y, hm, hv, hy, hwy⟩ := zgd k h2 h4 hw' q' h3 hleaf
   refine ⟨m, v, y, by omega, ?_, hy, hwy⟩
   rw [yj1] at hv
   split at hv
   ·rw [yb1] at hv; exact hv
   ·cases hv
  ·cases hl
  ·have := ya hl
   subst this
   obtain rfl := ya2.1 hq
   obtain ⟨v, rfl⟩ := zpo hleaf h
   exact ⟨fuel, v, x, yx _, rfl, h, hw⟩
end
end Go.Ab
