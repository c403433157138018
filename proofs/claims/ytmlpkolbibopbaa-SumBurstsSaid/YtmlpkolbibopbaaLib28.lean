/- What a row reads of an argument, as data of the second evaluator. -/
import Derived.Test.YtmlpkolbibopbaaLib27
import Derived.ChangeArms
import Derived.ChangeShapes
set_option linter.unusedVariables false
set_option linter.unusedSimpArgs false
namespace Go.Ab
open Go.RowKit
variable {P : Program} {H : Type} {enc : TypeId × Value → H} {w : World}

noncomputable section
/-- What a row's reading tells of sizes. -/
def Fit : (T : Ty) → den T → Prop
  | .int k, x => (Lit.int k x).wf = true
  | .bool, _ => True
  | .str, s => ByteArray.size s ≤ maxLen
  | .sl _ T, xs => List.length xs ≤ maxLen ∧ ∀ x ∈ (show List (den T) from xs), Fit T x
  | .cons a b, p => Fit a (Prod.fst p) ∧ Fit b (Prod.snd p)
/-- What all of the start is: not to be written. -/
def oldAt (w : World) (B _o : Nat) : Prop := B < w.heap.size
/-- Cells that are a datum's, from a place on. -/
def TreeAt (w : World) (T : Ty) (x : den T) (n : Nat) (cs : List Value) : Prop :=
  ∀ (j : Nat) (y : PV), (pvCells T x)[j]? = some y → ∃ v, cs[n + j]? = some v ∧ v.oneCell' = true ∧ PR w (oldAt w) y v

def flatFs (f : TypeId → Option (List (Nat × TypeId))) : List Field → Option (List (Nat × TypeId))
  | [] => some []
  | x :: r => (f x.type).bind fun a => (flatFs f r).map fun b => a.map (fun q => (x.offset + q.1, q.2)) ++ b
/-- The leaves of a type: where they lie, and their types. -/
def flatT (P : Program) : Nat → TypeId → Option (List (Nat × TypeId))
  | 0, _ => none
  | k + 1, t => match P.underlying t with
    | some (.struct fs) => flatFs (flatT P k) fs.toList
    | some (.array _ _) => none
    | _ => some [(0, t)]
def inLeaf (P : Program) (rd : TypeId → Ty → Bool) (t : TypeId) (T : Ty) : Bool :=
  match P.underlying t with
  | some (.int k) => (match T with | .int k' => kEq k k' | _ => false)
  | some .bool => (match T with | .bool => true | _ => false)
  | some .string => (match T with | .str => true | _ => false)
  | some (.slice e) => (match T with | .sl _ T' => rd e T' && Nat.beq (P.cellsOf e) T'.size | _ => false)
  | _ => false
def inChain (leaf : TypeId → Ty → Bool) : Nat → List (Nat × TypeId) → Ty → Bool
  | _, [], _ => false
  | n, [q], T => Nat.beq q.1 n && leaf q.2 T
  | n, q :: r, T => match T with
    | .cons a b => Nat.beq q.1 n && leaf q.2 a && inChain leaf (n + 1) r b
    | _ => false
/-- A type's cells are data of that tree. -/
def rdOk (P : Program) : Nat → TypeId → Ty → Bool
  | 0, _, _ => false
  | k + 1, t, T => match flatT P 8 t with
    | some l => inChain (inLeaf P (rdOk P k)) 0 l T
    | none => false

theorem mapM_get {α β : Type} {f : α → Option β} : ∀ {l : List α} {ys : List β}, l.mapM f = some ys → ys.length = l.length ∧ ∀ (i : Nat) (x : α), l[i]? = some x → ∃ y, ys[i]? = some y ∧ f x = some y
  | [], ys, h => by simp at h; subst h; exact ⟨rfl, fun i x hx => by simp at hx⟩
  | a :: l, ys, h => by
    rw [List.mapM_cons] at h
    simp only [Option.bind_eq_bind, Option.bind_eq_some_iff, Option.pure_def] at h
    obtain ⟨b, hb, ys', hys, h⟩ := h
    have := Option.some.inj h
    subst this
    obtain ⟨h1, h2⟩ := mapM_get hys
    refine ⟨by simp [h1], fun i x hx => ?_⟩
    cases i with
    | zero => simp at hx; subst hx; exact ⟨b, rfl, hb⟩
    | succ i => obtain ⟨y, hy, hf⟩ := h2 i x (by simpa using hx); exact ⟨y, by simpa using hy, hf⟩

abbrev trodR (enc : TypeId × Value → H) (P : Program) (w : World) (m : Nat) (t : TypeId) (cs : List Value) : Option (DataW H × List MemPlace) := DataW.trod enc P w 0 (fun _ => true) true m t cs
section
variable {m : Nat} {t : TypeId} {cs : List Value} {x : DataW H × List MemPlace}
theorem inv_slice {e : TypeId} (ht : P.underlying t = some (.slice e)) (h : trodR enc P w m t cs = some x) : cs = [.slice none 0 0] ∨ ∃ a len cap m', cs = [.slice (some a) len cap] ∧ len ≤ cap ∧ cap ≤ maxLen ∧ m = m' + 1 ∧
    ∀ i, i < cap → ∃ es y, w.cells? 0 (a.add (i * P.cellsOf e)) (P.cellsOf e) = some es ∧ trodR enc P w m' e es = some y := by
  rcases DataW.trod_slice ht h with ⟨h1, _⟩ | ⟨a, len, cap, elems, rest, n, hf, hcs, _, _, hlc, hcm, hel, he, hr, _⟩
  · exact .inl h1
  · right
    refine ⟨a, len, cap, n, hcs, hlc, hcm, hf, fun i hi => ?_⟩
    by_cases hl : i < len
    · have h1 := he i hl
      have : i < elems.length := by omega
      rw [List.getElem?_eq_getElem this] at h1
      obtain ⟨es, h2, h3⟩ := Option.bind_eq_some_iff.1 h1
      exact ⟨es, _, h2, h3⟩
    · obtain ⟨h0, hr⟩ := hr rfl
      have h1 := hr (i - len) (by omega)
      have : i - len < rest.length := by omega
      rw [List.getElem?_eq_getElem this, show len + (i - len) = i by omega] at h1
      obtain ⟨es, h2, h3⟩ := Option.bind_eq_some_iff.1 h1
      exact ⟨es, _, h2, h3⟩
end
def isLeafT (P : Program) (t : TypeId) : Prop := (∃ k, P.underlying t = some (.int k)) ∨ P.underlying t = some .bool ∨ P.underlying t = some .string ∨ ∃ e, P.underlying t = some (.slice e)
theorem leaf_one {m : Nat} {t : TypeId} {cs : List Value} {x : DataW H × List MemPlace} (hl : isLeafT P t) (h : trodR enc P w m t cs = some x) : ∃ v, cs = [v] := by
  rcases hl with ⟨k, ht⟩ | ht | ht | ⟨e, ht⟩
  · obtain ⟨n, h, _⟩ := DataW.trod_int ht h; exact ⟨_, h⟩
  · obtain ⟨n, h, _⟩ := DataW.trod_bool ht h; exact ⟨_, h⟩
  · obtain ⟨n, h, _⟩ := DataW.trod_string ht h; exact ⟨_, h⟩
  · rcases inv_slice ht h with h | ⟨_, _, _, _, h, _⟩ <;> exact ⟨_, h⟩
theorem flatFs_mem {f : TypeId → Option (List (Nat × TypeId))} : ∀ {fs : List Field} {l : List (Nat × TypeId)}, flatFs f fs = some l → ∀ q ∈ l, ∃ (i : Nat) (x : Field) (a : List (Nat × TypeId)) (q' : Nat × TypeId), fs[i]? = some x ∧ f x.type = some a ∧ q' ∈ a ∧ q = (x.offset + q'.1, q'.2)
  | [], l, h, q, hq => by simp [flatFs] at h; subst h; cases hq
  | x :: r, l, h, q, hq => by
    simp only [flatFs, Option.bind_eq_some_iff, Option.map_eq_some_iff] at h
    obtain ⟨a, ha, b, hb, rfl⟩ := h
    rcases List.mem_append.1 hq with hq | hq
    · obtain ⟨q', hq', rfl⟩ := List.mem_map.1 hq
      exact ⟨0, x, a, q', rfl, ha, hq', rfl⟩
    · obtain ⟨i, y, a', q', h1, h2, h3, h4⟩ := flatFs_mem hb q hq
      exact ⟨i + 1, y, a', q', by simpa using h1, h2, h3, h4⟩
theorem trod_flat : ∀ (k : Nat) {fuel : Nat} {t : TypeId} {cs : List Value} {x : DataW H × List MemPlace} {l : List (Nat × TypeId)}, flatT P k t = some l → trodR enc P w fuel t cs = some x →
    ∀ q ∈ l, isLeafT P q.2 → ∃ m v y, m ≤ fuel ∧ cs[q.1]? = some v ∧ trodR enc P w m q.2 [v] = some y
  | 0, fuel, t, cs, x, l, hl, h, q, hq, hleaf => by cases hl
  | k + 1, fuel, t, cs, x, l, hl, h, q, hq, hleaf => by
    unfold flatT at hl
    split at hl
    · rename_i fs ht
      obtain ⟨xs, n, hfu, _, hlen, hxl, hfs⟩ := DataW.trod_struct ht h
      obtain ⟨i, f, a, q', h1, h2, h3, rfl⟩ := flatFs_mem hl q hq
      have hi : i < fs.size := by
        rcases Nat.lt_or_ge i fs.size with h | h
        · exact h
        · rw [List.getElem?_eq_none (by simpa using h)] at h1; cases h1
      have h4 := hfs i f (by rw [← Array.getElem?_toList]; exact h1)
      rw [List.getElem?_eq_getElem (by omega)] at h4
      obtain ⟨m, v, y, hm, hv, hy⟩ := trod_flat k h2 h4 q' h3 hleaf
      refine ⟨m, v, y, by omega, ?_, hy⟩
      rw [List.getElem?_take] at hv
      split at hv
      · rw [List.getElem?_drop] at hv; exact hv
      · cases hv
    · cases hl
    · have := Option.some.inj hl
      subst this
      obtain rfl := List.mem_singleton.1 hq
      obtain ⟨v, rfl⟩ := leaf_one hleaf h
      exact ⟨fuel, v, x, Nat.le_refl _, rfl, h⟩
end
end Go.Ab
