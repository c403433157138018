import Derived.Test.YtdlbbdbbpoggfaaGreatDoorLib29
set_option linter.unusedVariables false
set_option linter.unusedSectionVars false
set_option linter.unusedSimpArgs false
namespace Go.Ab
variable [cD]
open Go.RowKit
variable {P : Program} {H : Type} {enc : TypeId × Value → H} {w : World}
theorem size_pos : ∀ T : Ty, 1 ≤ T.size
 | .int _ => yz _
 | .bool => yz _
 | .str => yz _
 | .sl _ _ => yz _
 | .cons a b => yt2 (size_pos a) (Nat.le_add_right _ _)
theorem Cp {w : World} {a : Addr} {v : Value} (h : w.cell? a = some v) : a.spot = none ∧ a.block < w.heap.size := by
 refine ⟨World.cell?_spot h, ?_⟩
 unfold World.cell? at h
 rcases yz1 a.block w.heap.size with h1 | h1
 ·exact h1
 ·rw [Array.getElem?_eq_none h1] at h; cases h
def CQ (w : World) (T : Ty) (v : Value) : Prop := ∃ x : den T, kU T x ∧ ∃ p, aV T x = [p] ∧ v.oneCell' = true ∧ PR w (zC w) p v
def GS (w : World) (T : Ty) (n : Nat) (cs : List Value) : Prop := ∃ x : den T, kU T x ∧ Pp w T x n cs
theorem D9 {A : TypeId → Ty → Bool} {R : TypeId → Value → Prop} (J : ∀ t T v, A t T = true → R t v → CQ w T v) {cs : List Value} : ∀ {l : List (Nat × TypeId)} {n : Nat} {T : Ty},
  sC A n l T = true → (∀ q ∈ l, ∃ v, cs[q.1]? = some v ∧ R q.2 v) → GS w T n cs
 | [], n, T, h, M => by cases h
 | [q], n, T, h, M => by
  have h : (Nat.beq q.1 n && A q.2 T) = true := h
  rw [yc] at h
  obtain ⟨v, U, hR⟩ := M q (ym1.2 rfl)
  obtain ⟨x, hf, p, V, W, N⟩ := J _ _ _ h.2 hR
  refine ⟨x, hf, fun j y K => ?_⟩
  rw [V] at K
  cases j with
  | zero =>
   simp at K; subst K
   rw [nb.1 h.1] at U
   exact ⟨v, U, W, N⟩
  | succ j => simp at K
 | q :: O :: r, n, .cons a b, h, M => by
  have h : (Nat.beq q.1 n && A q.2 a && sC A (n + 1) (O :: r) b) = true := h
  simp only [yc] at h
  obtain ⟨v, U, hR⟩ := M q (yn ..)
  obtain ⟨x, hf, p, V, W, N⟩ := J _ _ _ h.1.2 hR
  obtain ⟨z, Z, ht⟩ := D9 J h.2 fun q Y => M q (yk _ Y)
  refine ⟨(x, z), ⟨hf, Z⟩, fun j y K => ?_⟩
  have K : (aV a x ++ aV b z)[j]? = some y := K
  rw [V] at K
  cases j with
  | zero =>
   simp at K; subst K
   rw [nb.1 h.1.1] at U
   exact ⟨v, U, W, N⟩
  | succ j =>
   have := ht j y (by simpa using K)
   rw [show n + (j + 1) = n + 1 + j by omega]
   exact this
 | q :: O :: r, n, .int _, h, M | q :: O :: r, n, .bool, h, M | q :: O :: r, n, .str, h, M | q :: O :: r, n, .sl _ _, h, M => by cases h
theorem Iu (ag : Bool) (T : Ty) (a : Option Addr) : CQ w (.sl ag T) (.slice a 0 0) := by
 refine ⟨([] : List (den T)), ⟨Nat.zero_le _, fun x hx => by cases hx⟩, _, rfl, rfl, ?_⟩
 cases h : bT ag T with
 | true =>
  obtain ⟨rfl, k, rfl⟩ := aX.1 h
  exact .intsNil k a
 | false =>
  show PR w (zC w) (iB ag T []) (.slice a 0 0)
  rw [d7 h]; exact .slNil _ a
theorem nZ {α : Type} {f : Nat → α} {n i : Nat} {x : α} (hx : ((List.range n).map f)[i]? = some x) : i < n ∧ x = f i := by
 rw [yh1] at hx
 obtain ⟨i', z, rfl⟩ := yf.1 hx
 rcases yz1 i n with h | h
 ·rw [List.getElem?_range h] at z
  obtain rfl := yb z
  exact ⟨h, rfl⟩
 ·rw [ya1 (by simpa using h)] at z; cases z
theorem J4 {ag : Bool} {T : Ty} {a : Addr} {len cap : Nat} (Z : len ≤ cap) (hcm : cap ≤ reachBytes)
  (h : ∀ i, i < cap → ∃ V, w.cells? 0 (a.add (i * T.size)) T.size = some V ∧ GS w T 0 V) : CQ w (.sl ag T) (.slice (some a) len cap) := by
 rcases Nat.eq_zero_or_pos cap with rfl | Y
 ·obtain rfl : len = 0 := by omega
  exact Iu ag T _
 have hs := size_pos T
 obtain ⟨B, o, W⟩ := a
 obtain rfl : W = none := by
  obtain ⟨V, N, _⟩ := h 0 Y
  obtain ⟨_, O, M⟩ := World.cells?_some N
  have h0 := M 0 (by omega)
  rw [yd (by omega)] at h0
  have := (Cp h0).1
  simpa [Addr.add] using this
 have h1 : ∀ i, i < cap → ∃ x : den T, kU T x ∧ ∀ (j : Nat) (y : PV), (aV T x)[j]? = some y → ∃ v, cl w B (o + i * T.size + j) = some v ∧ v.oneCell' = true ∧ PR w (zC w) y v := by
  intro i J
  obtain ⟨V, N, x, hf, ht⟩ := h i J
  obtain ⟨_, O, M⟩ := World.cells?_some N
  refine ⟨x, hf, fun j y hy => ?_⟩
  obtain ⟨v, K, ho, U⟩ := ht j y hy
  rw [yj1] at K
  have hj : j < T.size := by
   rcases yz1 j V.length with h | h
   ·omega
   ·rw [ya1 h] at K; cases K
  refine ⟨v, ?_, ho, U⟩
  have := M j hj
  rw [K, dJ, dJ] at this
  exact this
 have h2 : ∃ f : Nat → den T, ∀ i, i < cap → kU T (f i) ∧ ∀ (j : Nat) (y : PV), (aV T (f i))[j]? = some y → ∃ v, cl w B (o + i * T.size + j) = some v ∧ v.oneCell' = true ∧ PR w (zC w) y v := by
  classical
  refine ⟨fun i => if J : i < cap then Classical.choose (h1 i J) else Sh.dflt.dT T, fun i J => ?_⟩
  simp only [J, dif_pos]
  exact Classical.choose_spec (h1 i J)
 obtain ⟨f, hf⟩ := h2
 have A : ((List.range len).map f).length = len := by rw [ye2, yj2]
 refine ⟨(List.range len).map f, ⟨(show ((List.range len).map f).length ≤ reachBytes by omega), fun x hx => ?_⟩, _, rfl, rfl, ?_⟩
 ·obtain ⟨i, J⟩ := List.mem_iff_getElem?.1 hx
  obtain ⟨J, rfl⟩ := nZ J
  exact (hf i (by omega)).1
 cases J : bT ag T with
 | true =>
  obtain ⟨rfl, k, rfl⟩ := aX.1 J
  have : ∀ n, ((List.range len).map f).length = n → PR w (zC w) (.ints k ((List.range len).map f)) (.slice (some ⟨B, o, none⟩) n cap) := by
   intro n hn
   subst hn
   refine .ints k _ B o cap (yt2 (Nat.le_of_eq A) Z) fun i x hx => ?_
   obtain ⟨J, rfl⟩ := nZ hx
   obtain ⟨v, K, _, U⟩ := (hf i (by omega)).2 0 (.lit (.int k (f i))) rfl
   have K : cl w B (o + i) = some v := by simpa [Ty.size] using K
   cases U
   exact ⟨K, (Cp K).2⟩
  exact this len A
 | false =>
  show PR w (zC w) (iB ag T ((List.range len).map f)) _
  rw [d7 J]
  have : PR w (zC w) (.sl T.size (((List.range len).map f).map (fK ag T))) (.slice (some ⟨B, o, none⟩) (((List.range len).map f).map (fK ag T)).length cap) := by
   have hx : ∀ {i : Nat} {x : PV}, (((List.range len).map f).map (fK ag T))[i]? = some x → i < len ∧ x = fK ag T (f i) := by
    intro i x hx
    rw [yh1] at hx
    obtain ⟨z, hz, rfl⟩ := yf.1 hx
    obtain ⟨h, rfl⟩ := nZ hz
    exact ⟨h, rfl⟩
   have hc : ∀ {i : Nat} {x : PV} {c : Nat} {y : PV}, (((List.range len).map f).map (fK ag T))[i]? = some x → x.cells[c]? = some y → ∃ v, cl w B (o + i * T.size + c) = some v ∧ v.oneCell' = true ∧ PR w (zC w) y v := by
    intro i x c y h1 h2
    obtain ⟨J, rfl⟩ := hx h1
    rw [dI] at h2
    exact (hf i (by omega)).2 c y h2
   refine .sl T.size _ B o cap (fun i c => (cl w B (o + i * T.size + c)).getD undef) hs (by rw [ye2, A]; exact Z) (fun x hx' => ?_) (fun i x c y h1 h2 => ?_) (fun i x c y h1 h2 => ?_) (fun i x c y h1 h2 => ?_)
   ·obtain ⟨i, J⟩ := List.mem_iff_getElem?.1 hx'
    obtain ⟨J, rfl⟩ := hx J
    rw [dI, bO]
   ·obtain ⟨v, K, _⟩ := hc h1 h2
    rw [K]
    exact ⟨rfl, (Cp K).2⟩
   ·obtain ⟨v, K, ho, _⟩ := hc h1 h2
    rw [K]; exact ho
   ·obtain ⟨v, K, _, U⟩ := hc h1 h2
    rw [K]; exact U
  rw [ye2, A] at this
  exact this
theorem FH {rd : TypeId → Ty → Bool} {fuel : Nat} (ih : ∀ (m : Nat) (t : TypeId) (T : Ty) (cs : List Value) (x : DataW H × List MemPlace), m < fuel → rd t T = true → qC enc P w m t cs = some x → Lw P t x.1 → GS w T 0 cs)
  (t : TypeId) (T : Ty) (v : Value) (h : AB P rd t T = true) (hr : ∃ m y, m ≤ fuel ∧ qC enc P w m t [v] = some y ∧ Lw P t y.1) : CQ w T v := by
 obtain ⟨m, y, hm, A, V⟩ := hr
 unfold AB at h
 split at h
 ·rename_i k ht
  split at h
  ·rename_i k'
   obtain rfl := vV.1 h
   obtain ⟨n, hn, _, J⟩ := DataW.trod_int ht A
   obtain rfl := (yc1 hn).1
   exact ⟨n, J, _, rfl, rfl, .lit _ rfl⟩
  ·cases h
 ·rename_i ht
  split at h
  ·obtain ⟨n, hn, _⟩ := DataW.trod_bool ht A
   obtain rfl := (yc1 hn).1
   exact ⟨n, trivial, _, rfl, rfl, .lit _ rfl⟩
  ·cases h
 ·rename_i ht
  split at h
  ·obtain ⟨n, hn, hx, z⟩ := DataW.trod_string ht A
   obtain rfl := (yc1 hn).1
   subst hx
   have : n.size ≤ reachBytes := V n.data.toList.length (by simp [DataW.weights])
   exact ⟨n, this, _, rfl, rfl, .lit _ rfl⟩
  ·cases h
 ·rename_i e ht
  split at h
  ·rename_i ag Y
   rw [yc, yc] at h
   have z := nb.1 h.1.2
   have K : 1 ≤ P.bytesOf e := Nat.le_of_ble_eq_true h.2
   rcases Ms ht A V with hn | ⟨a, len, cap, m', hn, U, hcm, Z, M, N⟩
   ·obtain rfl := (yc1 hn).1
    exact Iu ag Y _
   ·obtain rfl := (yc1 hn).1
    have O : cap ≤ reachBytes := yt2 (Nat.le_mul_of_pos_right cap K) M
    refine J4 U O fun i hi => ?_
    obtain ⟨W, y', h1, h2, h3⟩ := N i hi
    rw [z] at h1
    exact ⟨W, h1, ih m' e Y W y' (by omega) h.1.1 h2 h3⟩
  ·cases h
 ·cases h
theorem Dm {z : TypeId → Ty → Bool} : ∀ {l : List (Nat × TypeId)} {n : Nat} {T : Ty}, sC z n l T = true → ∀ q ∈ l, ∃ K, z q.2 K = true
 | [], n, T, h, q, A => by cases A
 | [p], n, T, h, q, A => by
  have h : (Nat.beq p.1 n && z p.2 T) = true := h
  rw [yc] at h
  obtain rfl := ym1.1 A
  exact ⟨T, h.2⟩
 | p :: J :: r, n, .cons a b, h, q, A => by
  have h : (Nat.beq p.1 n && z p.2 a && sC z (n + 1) (J :: r) b) = true := h
  simp only [yc] at h
  rcases yq1.1 A with rfl | A
  ·exact ⟨a, h.1.2⟩
  ·exact Dm h.2 q A
 | p :: J :: r, n, .int _, h, q, A | p :: J :: r, n, .bool, h, q, A | p :: J :: r, n, .str, h, q, A | p :: J :: r, n, .sl _ _, h, q, A => by cases h
theorem Bq {rd : TypeId → Ty → Bool} {t : TypeId} {T : Ty} (h : AB P rd t T = true) : sT P t := by
 unfold AB at h
 split at h
 ·rename_i k ht; exact .inl ⟨k, ht⟩
 ·rename_i ht; exact .inr (.inl ht)
 ·rename_i ht; exact .inr (.inr (.inl ht))
 ·rename_i e ht; exact .inr (.inr (.inr ⟨e, ht⟩))
 ·cases h
theorem Lt : ∀ (fuel k : Nat) (t : TypeId) (T : Ty) (cs : List Value) (x : DataW H × List MemPlace), Lj P k t T = true → qC enc P w fuel t cs = some x → Lw P t x.1 → GS w T 0 cs := by
 intro fuel
 induction fuel using Nat.strongRecOn with
 | ind fuel U =>
  intro k t T cs x z h O
  cases k with
  | zero => cases z
  | succ k =>
   unfold Lj at z
   split at z
   ·rename_i l hl
    refine D9 (R := fun t v => ∃ m y, m ≤ fuel ∧ qC enc P w m t [v] = some y ∧ Lw P t y.1) (FH (rd := Lj P k) fun m t T cs x hm h1 h2 V => U m hm k t T cs x h1 h2 V) z fun q K => ?_
    obtain ⟨T', A⟩ := Dm z q K
    obtain ⟨m, v, y, hm, M, N, J⟩ := Aq 8 hl h O q K (Bq A)
    exact ⟨v, M, m, y, hm, N, J⟩
   ·cases z
end Go.Ab
