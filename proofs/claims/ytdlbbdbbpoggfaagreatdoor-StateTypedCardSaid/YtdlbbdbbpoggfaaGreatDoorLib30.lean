import Derived.Test.YtdlbbdbbpoggfaaGreatDoorLib29
set_option linter.unusedVariables false
set_option linter.unusedSectionVars false
set_option linter.unusedSimpArgs false
namespace Go.Ab
variable [cD]
open Go.RowKit
variable {P : Program} {H : Type} {enc : TypeId × Value → H} {w : World}
theorem size_pos : ∀ T : Ty, 1 ≤ T.size
 | .int _ => yz _
 | .bool => yz _
 | .str => yz _
 | .sl _ _ => yz _
 | .cons a b => yt2 (size_pos a) (Nat.le_add_right _ _)
theorem E3 {w : World} {a : Addr} {v : Value} (h : w.cell? a = some v) : a.spot = none ∧ a.block < w.heap.size := by
 refine ⟨World.cell?_spot h, ?_⟩
 unfold World.cell? at h
 rcases ya2 a.block w.heap.size with h1 | h1
 ·exact h1
 ·rw [Array.getElem?_eq_none h1] at h; cases h
def C6 (w : World) (T : Ty) (v : Value) : Prop := ∃ x : den T, kV T x ∧ ∃ p, aV T x = [p] ∧ v.oneCell' = true ∧ PR w (zS w) p v
def G7 (w : World) (T : Ty) (n : Nat) (cs : List Value) : Prop := ∃ x : den T, kV T x ∧ Pj w T x n cs
theorem D7 {A : TypeId → Ty → Bool} {R : TypeId → Value → Prop} (J : ∀ t T v, A t T = true → R t v → C6 w T v) {cs : List Value} : ∀ {l : List (Nat × TypeId)} {n : Nat} {T : Ty},
  sP A n l T = true → (∀ q ∈ l, ∃ v, cs[q.1]? = some v ∧ R q.2 v) → G7 w T n cs
 | [], n, T, h, M => by cases h
 | [q], n, T, h, M => by
  have h : (Nat.beq q.1 n && A q.2 T) = true := h
  rw [yc] at h
  obtain ⟨v, O, hR⟩ := M q (ym1.2 rfl)
  obtain ⟨x, hf, p, V, W, N⟩ := J _ _ _ h.2 hR
  refine ⟨x, hf, fun j y K => ?_⟩
  rw [V] at K
  cases j with
  | zero =>
   simp at K; subst K
   rw [nb.1 h.1] at O
   exact ⟨v, O, W, N⟩
  | succ j => simp at K
 | q :: U :: r, n, .cons a b, h, M => by
  have h : (Nat.beq q.1 n && A q.2 a && sP A (n + 1) (U :: r) b) = true := h
  simp only [yc] at h
  obtain ⟨v, O, hR⟩ := M q (yn ..)
  obtain ⟨x, hf, p, V, W, N⟩ := J _ _ _ h.1.2 hR
  obtain ⟨z, Z, ht⟩ := D7 J h.2 fun q Y => M q (yk _ Y)
  refine ⟨(x, z), ⟨hf, Z⟩, fun j y K => ?_⟩
  have K : (aV a x ++ aV b z)[j]? = some y := K
  rw [V] at K
  cases j with
  | zero =>
   simp at K; subst K
   rw [nb.1 h.1.1] at O
   exact ⟨v, O, W, N⟩
  | succ j =>
   have := ht j y (by simpa using K)
   rw [show n + (j + 1) = n + 1 + j by omega]
   exact this
 | q :: U :: r, n, .int _, h, M | q :: U :: r, n, .bool, h, M | q :: U :: r, n, .str, h, M | q :: U :: r, n, .sl _ _, h, M => by cases h
theorem IW (ag : Bool) (T : Ty) (a : Option Addr) : C6 w (.sl ag T) (.slice a 0 0) := by
 refine ⟨([] : List (den T)), ⟨Nat.zero_le _, fun x hx => by cases hx⟩, _, rfl, rfl, ?_⟩
 cases h : bT ag T with
 | true =>
  obtain ⟨rfl, k, rfl⟩ := aX.1 h
  exact .intsNil k a
 | false =>
  show PR w (zS w) (iH ag T []) (.slice a 0 0)
  rw [d6 h]; exact .slNil _ a
theorem nT {α : Type} {f : Nat → α} {n i : Nat} {x : α} (hx : ((List.range n).map f)[i]? = some x) : i < n ∧ x = f i := by
 rw [yh1] at hx
 obtain ⟨i', z, rfl⟩ := yf.1 hx
 rcases ya2 i n with h | h
 ·rw [List.getElem?_range h] at z
  obtain rfl := yb z
  exact ⟨h, rfl⟩
 ·rw [ya1 (by simpa using h)] at z; cases z
theorem Jz {ag : Bool} {T : Ty} {a : Addr} {len cap : Nat} (Z : len ≤ cap) (hcm : cap ≤ reachBytes)
  (h : ∀ i, i < cap → ∃ Y, w.cells? 0 (a.add (i * T.size)) T.size = some Y ∧ G7 w T 0 Y) : C6 w (.sl ag T) (.slice (some a) len cap) := by
 rcases Nat.eq_zero_or_pos cap with rfl | V
 ·obtain rfl : len = 0 := by omega
  exact IW ag T _
 have hs := size_pos T
 obtain ⟨B, o, W⟩ := a
 obtain rfl : W = none := by
  obtain ⟨Y, N, _⟩ := h 0 V
  obtain ⟨_, U, M⟩ := World.cells?_some N
  have h0 := M 0 (by omega)
  rw [yd (by omega)] at h0
  have := (E3 h0).1
  simpa [Addr.add] using this
 have h1 : ∀ i, i < cap → ∃ x : den T, kV T x ∧ ∀ (j : Nat) (y : PV), (aV T x)[j]? = some y → ∃ v, cl w B (o + i * T.size + j) = some v ∧ v.oneCell' = true ∧ PR w (zS w) y v := by
  intro i J
  obtain ⟨Y, N, x, hf, ht⟩ := h i J
  obtain ⟨_, U, M⟩ := World.cells?_some N
  refine ⟨x, hf, fun j y hy => ?_⟩
  obtain ⟨v, K, ho, O⟩ := ht j y hy
  rw [yj1] at K
  have hj : j < T.size := by
   rcases ya2 j Y.length with h | h
   ·omega
   ·rw [ya1 h] at K; cases K
  refine ⟨v, ?_, ho, O⟩
  have := M j hj
  rw [K, dK, dK] at this
  exact this
 have h2 : ∃ f : Nat → den T, ∀ i, i < cap → kV T (f i) ∧ ∀ (j : Nat) (y : PV), (aV T (f i))[j]? = some y → ∃ v, cl w B (o + i * T.size + j) = some v ∧ v.oneCell' = true ∧ PR w (zS w) y v := by
  classical
  refine ⟨fun i => if J : i < cap then Classical.choose (h1 i J) else Sh.dflt.dT T, fun i J => ?_⟩
  simp only [J, dif_pos]
  exact Classical.choose_spec (h1 i J)
 obtain ⟨f, hf⟩ := h2
 have A : ((List.range len).map f).length = len := by rw [ye2, yj2]
 refine ⟨(List.range len).map f, ⟨(show ((List.range len).map f).length ≤ reachBytes by omega), fun x hx => ?_⟩, _, rfl, rfl, ?_⟩
 ·obtain ⟨i, J⟩ := List.mem_iff_getElem?.1 hx
  obtain ⟨J, rfl⟩ := nT J
  exact (hf i (by omega)).1
 cases J : bT ag T with
 | true =>
  obtain ⟨rfl, k, rfl⟩ := aX.1 J
  have : ∀ n, ((List.range len).map f).length = n → PR w (zS w) (.ints k ((List.range len).map f)) (.slice (some ⟨B, o, none⟩) n cap) := by
   intro n hn
   subst hn
   refine .ints k _ B o cap (yt2 (Nat.le_of_eq A) Z) fun i x hx => ?_
   obtain ⟨J, rfl⟩ := nT hx
   obtain ⟨v, K, _, O⟩ := (hf i (by omega)).2 0 (.lit (.int k (f i))) rfl
   have K : cl w B (o + i) = some v := by simpa [Ty.size] using K
   cases O
   exact ⟨K, (E3 K).2⟩
  exact this len A
 | false =>
  show PR w (zS w) (iH ag T ((List.range len).map f)) _
  rw [d6 J]
  have : PR w (zS w) (.sl T.size (((List.range len).map f).map (fI ag T))) (.slice (some ⟨B, o, none⟩) (((List.range len).map f).map (fI ag T)).length cap) := by
   have hx : ∀ {i : Nat} {x : PV}, (((List.range len).map f).map (fI ag T))[i]? = some x → i < len ∧ x = fI ag T (f i) := by
    intro i x hx
    rw [yh1] at hx
    obtain ⟨z, hz, rfl⟩ := yf.1 hx
    obtain ⟨h, rfl⟩ := nT hz
    exact ⟨h, rfl⟩
   have hc : ∀ {i : Nat} {x : PV} {c : Nat} {y : PV}, (((List.range len).map f).map (fI ag T))[i]? = some x → x.cells[c]? = some y → ∃ v, cl w B (o + i * T.size + c) = some v ∧ v.oneCell' = true ∧ PR w (zS w) y v := by
    intro i x c y h1 h2
    obtain ⟨J, rfl⟩ := hx h1
    rw [dI] at h2
    exact (hf i (by omega)).2 c y h2
   refine .sl T.size _ B o cap (fun i c => (cl w B (o + i * T.size + c)).getD undef) hs (by rw [ye2, A]; exact Z) (fun x hx' => ?_) (fun i x c y h1 h2 => ?_) (fun i x c y h1 h2 => ?_) (fun i x c y h1 h2 => ?_)
   ·obtain ⟨i, J⟩ := List.mem_iff_getElem?.1 hx'
    obtain ⟨J, rfl⟩ := hx J
    rw [dI, bO]
   ·obtain ⟨v, K, _⟩ := hc h1 h2
    rw [K]
    exact ⟨rfl, (E3 K).2⟩
   ·obtain ⟨v, K, ho, _⟩ := hc h1 h2
    rw [K]; exact ho
   ·obtain ⟨v, K, _, O⟩ := hc h1 h2
    rw [K]; exact O
  rw [ye2, A] at this
  exact this
theorem Fs {rd : TypeId → Ty → Bool} {fuel : Nat} (ih : ∀ (m : Nat) (t : TypeId) (T : Ty) (cs : List Value) (x : DataW H × List MemPlace), m < fuel → rd t T = true → p8 enc P w m t cs = some x → Lw P t x.1 → G7 w T 0 cs)
  (t : TypeId) (T : Ty) (v : Value) (h : AX P rd t T = true) (hr : ∃ m y, m ≤ fuel ∧ p8 enc P w m t [v] = some y ∧ Lw P t y.1) : C6 w T v := by
 obtain ⟨m, y, hm, A, V⟩ := hr
 unfold AX at h
 split at h
 ·rename_i k ht
  split at h
  ·rename_i k'
   obtain rfl := vJ.1 h
   obtain ⟨n, hn, _, J⟩ := DataW.trod_int ht A
   obtain rfl := (yc1 hn).1
   exact ⟨n, J, _, rfl, rfl, .lit _ rfl⟩
  ·cases h
 ·rename_i ht
  split at h
  ·obtain ⟨n, hn, _⟩ := DataW.trod_bool ht A
   obtain rfl := (yc1 hn).1
   exact ⟨n, trivial, _, rfl, rfl, .lit _ rfl⟩
  ·cases h
 ·rename_i ht
  split at h
  ·obtain ⟨n, hn, hx, z⟩ := DataW.trod_string ht A
   obtain rfl := (yc1 hn).1
   subst hx
   have : n.size ≤ reachBytes := V n.data.toList.length (by simp [DataW.weights])
   exact ⟨n, this, _, rfl, rfl, .lit _ rfl⟩
  ·cases h
 ·rename_i e ht
  split at h
  ·rename_i ag W
   rw [yc, yc] at h
   have z := nb.1 h.1.2
   have K : 1 ≤ P.bytesOf e := Nat.le_of_ble_eq_true h.2
   rcases L9 ht A V with hn | ⟨a, len, cap, m', hn, N, hcm, hfu, U, M⟩
   ·obtain rfl := (yc1 hn).1
    exact IW ag W _
   ·obtain rfl := (yc1 hn).1
    have O : cap ≤ reachBytes := yt2 (Nat.le_mul_of_pos_right cap K) U
    refine Jz N O fun i hi => ?_
    obtain ⟨Y, Z, h1, h2, h3⟩ := M i hi
    rw [z] at h1
    exact ⟨Y, h1, ih m' e W Y Z (by omega) h.1.1 h2 h3⟩
  ·cases h
 ·cases h
theorem Cy {z : TypeId → Ty → Bool} : ∀ {l : List (Nat × TypeId)} {n : Nat} {T : Ty}, sP z n l T = true → ∀ q ∈ l, ∃ K, z q.2 K = true
 | [], n, T, h, q, A => by cases A
 | [p], n, T, h, q, A => by
  have h : (Nat.beq p.1 n && z p.2 T) = true := h
  rw [yc] at h
  obtain rfl := ym1.1 A
  exact ⟨T, h.2⟩
 | p :: J :: r, n, .cons a b, h, q, A => by
  have h : (Nat.beq p.1 n && z p.2 a && sP z (n + 1) (J :: r) b) = true := h
  simp only [yc] at h
  rcases yq1.1 A with rfl | A
  ·exact ⟨a, h.1.2⟩
  ·exact Cy h.2 q A
 | p :: J :: r, n, .int _, h, q, A | p :: J :: r, n, .bool, h, q, A | p :: J :: r, n, .str, h, q, A | p :: J :: r, n, .sl _ _, h, q, A => by cases h
theorem Bw {rd : TypeId → Ty → Bool} {t : TypeId} {T : Ty} (h : AX P rd t T = true) : sO P t := by
 unfold AX at h
 split at h
 ·rename_i k ht; exact .inl ⟨k, ht⟩
 ·rename_i ht; exact .inr (.inl ht)
 ·rename_i ht; exact .inr (.inr (.inl ht))
 ·rename_i e ht; exact .inr (.inr (.inr ⟨e, ht⟩))
 ·cases h
theorem LA : ∀ (fuel k : Nat) (t : TypeId) (T : Ty) (cs : List Value) (x : DataW H × List MemPlace), LV P k t T = true → p8 enc P w fuel t cs = some x → Lw P t x.1 → G7 w T 0 cs := by
 intro fuel
 induction fuel using Nat.strongRecOn with
 | ind fuel O =>
  intro k t T cs x z h M
  cases k with
  | zero => cases z
  | succ k =>
   unfold LV at z
   split at z
   ·rename_i l hl
    refine D7 (R := fun t v => ∃ m y, m ≤ fuel ∧ p8 enc P w m t [v] = some y ∧ Lw P t y.1) (Fs (rd := LV P k) fun m t T cs x hm h1 h2 V => O m hm k t T cs x h1 h2 V) z fun q K => ?_
    obtain ⟨T', J⟩ := Cy z q K
    obtain ⟨m, v, y, hm, N, U, A⟩ := AW 8 hl h M q K (Bw J)
    exact ⟨v, N, m, y, hm, U, A⟩
   ·cases z
end Go.Ab
