import Derived.Test.YtmoldheenagboaaLib29
set_option linter.unusedVariables false
set_option linter.unusedSectionVars false
set_option linter.unusedSimpArgs false
namespace Go.Ab
variable [b8]
open Go.RowKit
variable {P : Program} {H : Type} {enc : TypeId × Value → H} {w : World}
theorem size_pos : ∀ T : Ty, 1 ≤ T.size
 | .int _ => yu _
 | .bool => yu _
 | .str => yu _
 | .sl _ _ => yu _
 | .cons a b => yt1 (size_pos a) (Nat.le_add_right _ _)
theorem B6 {w : World} {a : Addr} {v : Value} (h : w.cell? a = some v) : a.spot = none ∧ a.block < w.heap.size := by
 refine ⟨World.cell?_spot h, ?_⟩
 unfold World.cell? at h
 rcases yu1 a.block w.heap.size with z | z
 ·exact z
 ·rw [yg3 z] at h; cases h
def B0 (w : World) (T : Ty) (v : Value) : Prop := ∃ x : den T, LU T x ∧ ∃ p, aS T x = [p] ∧ v.oneCell' = true ∧ PR w (wO w) p v
def Fa (w : World) (T : Ty) (n : Nat) (cs : List Value) : Prop := ∃ x : den T, LU T x ∧ Mg w T x n cs
theorem BC {J : TypeId → Ty → Bool} {R : TypeId → Value → Prop} (K : ∀ t T v, J t T = true → R t v → B0 w T v) {cs : List Value} : ∀ {l : List (Nat × TypeId)} {n : Nat} {T : Ty},
  qF J n l T = true → (∀ q ∈ l, ∃ v, cs[q.1]? = some v ∧ R q.2 v) → Fa w T n cs
 | [], n, T, h, O => by cases h
 | [q], n, T, h, O => by
  have h : (Nat.beq q.1 n && J q.2 T) = true := h
  rw [yc] at h
  obtain ⟨v, W, hR⟩ := O q (yb1.2 rfl)
  obtain ⟨x, Z, p, hp, Y, U⟩ := K _ _ _ h.2 hR
  refine ⟨x, Z, fun j y N => ?_⟩
  rw [hp] at N
  cases j with
  | zero =>
   simp at N; subst N
   rw [nb.1 h.1] at W
   exact ⟨v, W, Y, U⟩
  | succ j => simp at N
 | q :: V :: r, n, .cons a b, h, O => by
  have h : (Nat.beq q.1 n && J q.2 a && qF J (n + 1) (V :: r) b) = true := h
  simp only [yc] at h
  obtain ⟨v, W, hR⟩ := O q (ym ..)
  obtain ⟨x, Z, p, hp, Y, U⟩ := K _ _ _ h.1.2 hR
  obtain ⟨z, hz, ht⟩ := BC K h.2 fun q hq => O q (yi _ hq)
  refine ⟨(x, z), ⟨Z, hz⟩, fun j y N => ?_⟩
  have N : (aS a x ++ aS b z)[j]? = some y := N
  rw [hp] at N
  cases j with
  | zero =>
   simp at N; subst N
   rw [nb.1 h.1.1] at W
   exact ⟨v, W, Y, U⟩
  | succ j =>
   have := ht j y (by simpa using N)
   rw [show n + (j + 1) = n + 1 + j by omega]
   exact this
 | q :: V :: r, n, .int _, h, O | q :: V :: r, n, .bool, h, O | q :: V :: r, n, .str, h, O | q :: V :: r, n, .sl _ _, h, O => by cases h
theorem Gt (ag : Bool) (T : Ty) (a : Option Addr) : B0 w (.sl ag T) (.slice a 0 0) := by
 refine ⟨([] : List (den T)), ⟨Nat.zero_le _, fun x J => by cases J⟩, _, rfl, rfl, ?_⟩
 cases z : bP ag T with
 | true =>
  obtain ⟨rfl, k, rfl⟩ := aT.1 z
  exact .intsNil k a
 | false =>
  show PR w (wO w) (gF ag T []) (.slice a 0 0)
  rw [dB z]; exact .slNil _ a
theorem mD {α : Type} {f : Nat → α} {n i : Nat} {x : α} (J : ((List.range n).map f)[i]? = some x) : i < n ∧ x = f i := by
 rw [yc1] at J
 obtain ⟨i', z, rfl⟩ := yd.1 J
 rcases yu1 i n with h | h
 ·rw [List.getElem?_range h] at z
  obtain rfl := ya z
  exact ⟨h, rfl⟩
 ·rw [yy (by simpa using h)] at z; cases z
theorem HS {ag : Bool} {T : Ty} {a : Addr} {len cap : Nat} (hlc : len ≤ cap) (hcm : cap ≤ reachBytes)
  (h : ∀ i, i < cap → ∃ Z, w.cells? 0 (a.add (i * T.size)) T.size = some Z ∧ Fa w T 0 Z) : B0 w (.sl ag T) (.slice (some a) len cap) := by
 rcases Nat.eq_zero_or_pos cap with rfl | hpos
 ·obtain rfl : len = 0 := by omega
  exact Gt ag T _
 have hs := size_pos T
 obtain ⟨B, o, spot⟩ := a
 obtain rfl : spot = none := by
  obtain ⟨Z, Y, _⟩ := h 0 hpos
  obtain ⟨_, hlen, O⟩ := World.cells?_some Y
  have h0 := O 0 (by omega)
  rw [ye (by omega)] at h0
  have := (B6 h0).1
  simpa [Addr.add] using this
 have U : ∀ i, i < cap → ∃ x : den T, LU T x ∧ ∀ (j : Nat) (y : PV), (aS T x)[j]? = some y → ∃ v, cl w B (o + i * T.size + j) = some v ∧ v.oneCell' = true ∧ PR w (wO w) y v := by
  intro i K
  obtain ⟨Z, Y, x, hf, ht⟩ := h i K
  obtain ⟨_, hlen, O⟩ := World.cells?_some Y
  refine ⟨x, hf, fun j y hy => ?_⟩
  obtain ⟨v, N, ho, hp⟩ := ht j y hy
  rw [yh1] at N
  have hj : j < T.size := by
   rcases yu1 j Z.length with h | h
   ·omega
   ·rw [yy h] at N; cases N
  refine ⟨v, ?_, ho, hp⟩
  have := O j hj
  rw [N, cT, cT] at this
  exact this
 have V : ∃ f : Nat → den T, ∀ i, i < cap → LU T (f i) ∧ ∀ (j : Nat) (y : PV), (aS T (f i))[j]? = some y → ∃ v, cl w B (o + i * T.size + j) = some v ∧ v.oneCell' = true ∧ PR w (wO w) y v := by
  classical
  refine ⟨fun i => if K : i < cap then Classical.choose (U i K) else Sh.dflt.dT T, fun i K => ?_⟩
  simp only [K, dif_pos]
  exact Classical.choose_spec (U i K)
 obtain ⟨f, hf⟩ := V
 have J : ((List.range len).map f).length = len := by rw [ya2, List.length_range]
 refine ⟨(List.range len).map f, ⟨(show ((List.range len).map f).length ≤ reachBytes by omega), fun x W => ?_⟩, _, rfl, rfl, ?_⟩
 ·obtain ⟨i, K⟩ := List.mem_iff_getElem?.1 W
  obtain ⟨K, rfl⟩ := mD K
  exact (hf i (by omega)).1
 cases K : bP ag T with
 | true =>
  obtain ⟨rfl, k, rfl⟩ := aT.1 K
  have : ∀ n, ((List.range len).map f).length = n → PR w (wO w) (.ints k ((List.range len).map f)) (.slice (some ⟨B, o, none⟩) n cap) := by
   intro n hn
   subst hn
   refine .ints k _ B o cap (yt1 (Nat.le_of_eq J) hlc) fun i x W => ?_
   obtain ⟨K, rfl⟩ := mD W
   obtain ⟨v, N, _, hp⟩ := (hf i (by omega)).2 0 (.lit (.int k (f i))) rfl
   have N : cl w B (o + i) = some v := by simpa [Ty.size] using N
   cases hp
   exact ⟨N, (B6 N).2⟩
  exact this len J
 | false =>
  show PR w (wO w) (gF ag T ((List.range len).map f)) _
  rw [dB K]
  have : PR w (wO w) (.sl T.size (((List.range len).map f).map (eF ag T))) (.slice (some ⟨B, o, none⟩) (((List.range len).map f).map (eF ag T)).length cap) := by
   have W : ∀ {i : Nat} {x : PV}, (((List.range len).map f).map (eF ag T))[i]? = some x → i < len ∧ x = eF ag T (f i) := by
    intro i x W
    rw [yc1] at W
    obtain ⟨z, hz, rfl⟩ := yd.1 W
    obtain ⟨h, rfl⟩ := mD hz
    exact ⟨h, rfl⟩
   have hc : ∀ {i : Nat} {x : PV} {c : Nat} {y : PV}, (((List.range len).map f).map (eF ag T))[i]? = some x → x.cells[c]? = some y → ∃ v, cl w B (o + i * T.size + c) = some v ∧ v.oneCell' = true ∧ PR w (wO w) y v := by
    intro i x c y U V
    obtain ⟨K, rfl⟩ := W U
    rw [cR] at V
    exact (hf i (by omega)).2 c y V
   refine .sl T.size _ B o cap (fun i c => (cl w B (o + i * T.size + c)).getD undef) hs (by rw [ya2, J]; exact hlc) (fun x hx' => ?_) (fun i x c y U V => ?_) (fun i x c y U V => ?_) (fun i x c y U V => ?_)
   ·obtain ⟨i, K⟩ := List.mem_iff_getElem?.1 hx'
    obtain ⟨K, rfl⟩ := W K
    rw [cR, bJ]
   ·obtain ⟨v, N, _⟩ := hc U V
    rw [N]
    exact ⟨rfl, (B6 N).2⟩
   ·obtain ⟨v, N, ho, _⟩ := hc U V
    rw [N]; exact ho
   ·obtain ⟨v, N, _, hp⟩ := hc U V
    rw [N]; exact hp
  rw [ya2, J] at this
  exact this
theorem C5 {rd : TypeId → Ty → Bool} {fuel : Nat} (ih : ∀ (m : Nat) (t : TypeId) (T : Ty) (cs : List Value) (x : DataW H × List MemPlace), m < fuel → rd t T = true → oM enc P w m t cs = some x → Lw P t x.1 → Fa w T 0 cs)
  (t : TypeId) (T : Ty) (v : Value) (h : zA P rd t T = true) (hr : ∃ m y, m ≤ fuel ∧ oM enc P w m t [v] = some y ∧ Lw P t y.1) : B0 w T v := by
 obtain ⟨m, y, hm, N, hw⟩ := hr
 unfold zA at h
 split at h
 ·rename_i k J
  split at h
  ·rename_i k'
   obtain rfl := rT.1 h
   obtain ⟨n, z, _, Z⟩ := DataW.trod_int J N
   obtain rfl := (yx z).1
   exact ⟨n, Z, _, rfl, rfl, .lit _ rfl⟩
  ·cases h
 ·rename_i J
  split at h
  ·obtain ⟨n, z, _⟩ := DataW.trod_bool J N
   obtain rfl := (yx z).1
   exact ⟨n, trivial, _, rfl, rfl, .lit _ rfl⟩
  ·cases h
 ·rename_i J
  split at h
  ·obtain ⟨n, z, hx, K⟩ := DataW.trod_string J N
   obtain rfl := (yx z).1
   subst hx
   have : n.size ≤ reachBytes := hw n.data.toList.length (by simp [DataW.weights])
   exact ⟨n, this, _, rfl, rfl, .lit _ rfl⟩
  ·cases h
 ·rename_i e J
  split at h
  ·rename_i ag T'
   rw [yc, yc] at h
   have K := nb.1 h.1.2
   have Y : 1 ≤ P.bytesOf e := Nat.le_of_ble_eq_true h.2
   rcases Jk J N hw with z | ⟨a, len, cap, m', z, U, hcm, hfu, O, V⟩
   ·obtain rfl := (yx z).1
    exact Gt ag T' _
   ·obtain rfl := (yx z).1
    have W : cap ≤ reachBytes := yt1 (Nat.le_mul_of_pos_right cap Y) O
    refine HS U W fun i hi => ?_
    obtain ⟨es, y', h1, h2, h3⟩ := V i hi
    rw [K] at h1
    exact ⟨es, h1, ih m' e T' es y' (by omega) h.1.1 h2 h3⟩
  ·cases h
 ·cases h
theorem A7 {z : TypeId → Ty → Bool} : ∀ {l : List (Nat × TypeId)} {n : Nat} {T : Ty}, qF z n l T = true → ∀ q ∈ l, ∃ N, z q.2 N = true
 | [], n, T, h, q, J => by cases J
 | [p], n, T, h, q, J => by
  have h : (Nat.beq p.1 n && z p.2 T) = true := h
  rw [yc] at h
  obtain rfl := yb1.1 J
  exact ⟨T, h.2⟩
 | p :: K :: r, n, .cons a b, h, q, J => by
  have h : (Nat.beq p.1 n && z p.2 a && qF z (n + 1) (K :: r) b) = true := h
  simp only [yc] at h
  rcases yf1.1 J with rfl | J
  ·exact ⟨a, h.1.2⟩
  ·exact A7 h.2 q J
 | p :: K :: r, n, .int _, h, q, J | p :: K :: r, n, .bool, h, q, J | p :: K :: r, n, .str, h, q, J | p :: K :: r, n, .sl _ _, h, q, J => by cases h
theorem Ak {rd : TypeId → Ty → Bool} {t : TypeId} {T : Ty} (h : zA P rd t T = true) : qT P t := by
 unfold zA at h
 split at h
 ·rename_i k z; exact .inl ⟨k, z⟩
 ·rename_i z; exact .inr (.inl z)
 ·rename_i z; exact .inr (.inr (.inl z))
 ·rename_i e z; exact .inr (.inr (.inr ⟨e, z⟩))
 ·cases h
theorem Jy : ∀ (fuel k : Nat) (t : TypeId) (T : Ty) (cs : List Value) (x : DataW H × List MemPlace), Jm P k t T = true → oM enc P w fuel t cs = some x → Lw P t x.1 → Fa w T 0 cs := by
 intro fuel
 induction fuel using Nat.strongRecOn with
 | ind fuel W =>
  intro k t T cs x z h Y
  cases k with
  | zero => cases z
  | succ k =>
   unfold Jm at z
   split at z
   ·rename_i l U
    refine BC (R := fun t v => ∃ m y, m ≤ fuel ∧ oM enc P w m t [v] = some y ∧ Lw P t y.1) (C5 (rd := Jm P k) fun m t T cs x N V h2 h3 => W m N k t T cs x V h2 h3) z fun q O => ?_
    obtain ⟨T', J⟩ := A7 z q O
    obtain ⟨m, v, y, N, Z, hy, K⟩ := yJ 8 U h Y q O (Ak J)
    exact ⟨v, Z, m, y, N, hy, K⟩
   ·cases z
end Go.Ab
