import Derived.Test.YtdlbbdbbpoggfaaLib30
set_option linter.unusedVariables false
set_option linter.unusedSectionVars false
set_option linter.unusedSimpArgs false
namespace Go.Ab
variable [b4]
open Go.RowKit
variable {P : Program} {H : Type} {enc : TypeId × Value → H} {w : World}
theorem size_pos : ∀ T : Ty, 1 ≤ T.size
 | .int _ => yy _
 | .bool => yy _
 | .str => yy _
 | .sl _ _ => yy _
 | .cons a b => ya2 (size_pos a) (Nat.le_add_right _ _)
theorem Em {w : World} {a : Addr} {v : Value} (h : w.cell? a = some v) : a.spot = none ∧ a.block < w.heap.size := by
 refine ⟨World.cell?_spot h, ?_⟩
 unfold World.cell? at h
 rcases yc2 a.block w.heap.size with I | I
 ·exact I
 ·rw [yj3 I] at h; cases h
def E1 (w : World) (T : Ty) (v : Value) : Prop := ∃ x : den T, O2 T x ∧ ∃ p, aM T x = [p] ∧ v.oneCell' = true ∧ PR w (AQ w) p v
def HE (w : World) (T : Ty) (n : Nat) (cs : List Value) : Prop := ∃ x : den T, O2 T x ∧ Pe w T x n cs
theorem Fc {I : TypeId → Ty → Bool} {R : TypeId → Value → Prop} (J : ∀ t T v, I t T = true → R t v → E1 w T v) {cs : List Value} : ∀ {l : List (Nat × TypeId)} {n : Nat} {T : Ty},
  wK I n l T = true → (∀ q ∈ l, ∃ v, cs[q.1]? = some v ∧ R q.2 v) → HE w T n cs
 | [], n, T, h, hr => by cases h
 | [q], n, T, h, hr => by
  have h : (Nat.beq q.1 n && I q.2 T) = true := h
  rw [yb] at h
  obtain ⟨v, N, hR⟩ := hr q (yb2.2 rfl)
  obtain ⟨x, U, p, V, W, M⟩ := J _ _ _ h.2 hR
  refine ⟨x, U, fun j y K => ?_⟩
  rw [V] at K
  cases j with
  | zero =>
   simp at K; subst K
   rw [nb.1 h.1] at N
   exact ⟨v, N, W, M⟩
  | succ j => simp at K
 | q :: O :: r, n, .cons a b, h, hr => by
  have h : (Nat.beq q.1 n && I q.2 a && wK I (n + 1) (O :: r) b) = true := h
  simp only [yb] at h
  obtain ⟨v, N, hR⟩ := hr q (ym ..)
  obtain ⟨x, U, p, V, W, M⟩ := J _ _ _ h.1.2 hR
  obtain ⟨z, Z, ht⟩ := Fc J h.2 fun q Y => hr q (yh _ Y)
  refine ⟨(x, z), ⟨U, Z⟩, fun j y K => ?_⟩
  have K : (aM a x ++ aM b z)[j]? = some y := K
  rw [V] at K
  cases j with
  | zero =>
   simp at K; subst K
   rw [nb.1 h.1.1] at N
   exact ⟨v, N, W, M⟩
  | succ j =>
   have := ht j y (by simpa using K)
   rw [show n + (j + 1) = n + 1 + j by omega]
   exact this
 | q :: O :: r, n, .int _, h, hr | q :: O :: r, n, .bool, h, hr | q :: O :: r, n, .str, h, hr | q :: O :: r, n, .sl _ _, h, hr => by cases h
theorem JB (ag : Bool) (T : Ty) (a : Option Addr) : E1 w (.sl ag T) (.slice a 0 0) := by
 refine ⟨([] : List (den T)), ⟨Nat.zero_le _, fun x J => by cases J⟩, _, rfl, rfl, ?_⟩
 cases I : aY ag T with
 | true =>
  obtain ⟨rfl, k, rfl⟩ := aK.1 I
  exact .intsNil k a
 | false =>
  show PR w (AQ w) (dN ag T []) (.slice a 0 0)
  rw [bX I]; exact .slNil _ a
theorem nV {α : Type} {f : Nat → α} {n i : Nat} {x : α} (J : ((List.range n).map f)[i]? = some x) : i < n ∧ x = f i := by
 rw [yb1] at J
 obtain ⟨i', I, rfl⟩ := yc.1 J
 rcases yc2 i n with h | h
 ·rw [List.getElem?_range h] at I
  obtain rfl := ya I
  exact ⟨h, rfl⟩
 ·rw [ya1 (by simpa using h)] at I; cases I
theorem Kd {ag : Bool} {T : Ty} {a : Addr} {len cap : Nat} (hlc : len ≤ cap) (hcm : cap ≤ reachBytes)
  (h : ∀ i, i < cap → ∃ W, w.cells? 0 (a.add (i * T.size)) T.size = some W ∧ HE w T 0 W) : E1 w (.sl ag T) (.slice (some a) len cap) := by
 rcases Nat.eq_zero_or_pos cap with rfl | Z
 ·obtain rfl : len = 0 := by omega
  exact JB ag T _
 have hs := size_pos T
 obtain ⟨B, o, spot⟩ := a
 obtain rfl : spot = none := by
  obtain ⟨W, V, _⟩ := h 0 Z
  obtain ⟨_, hlen, M⟩ := World.cells?_some V
  have h0 := M 0 (by omega)
  rw [yf (by omega)] at h0
  have := (Em h0).1
  simpa [Addr.add] using this
 have N : ∀ i, i < cap → ∃ x : den T, O2 T x ∧ ∀ (j : Nat) (y : PV), (aM T x)[j]? = some y → ∃ v, cl w B (o + i * T.size + j) = some v ∧ v.oneCell' = true ∧ PR w (AQ w) y v := by
  intro i J
  obtain ⟨W, V, x, Y, ht⟩ := h i J
  obtain ⟨_, hlen, M⟩ := World.cells?_some V
  refine ⟨x, Y, fun j y hy => ?_⟩
  obtain ⟨v, K, ho, hp⟩ := ht j y hy
  rw [yc1] at K
  have hj : j < T.size := by
   rcases yc2 j W.length with h | h
   ·omega
   ·rw [ya1 h] at K; cases K
  refine ⟨v, ?_, ho, hp⟩
  have := M j hj
  rw [K, dA, dA] at this
  exact this
 have O : ∃ f : Nat → den T, ∀ i, i < cap → O2 T (f i) ∧ ∀ (j : Nat) (y : PV), (aM T (f i))[j]? = some y → ∃ v, cl w B (o + i * T.size + j) = some v ∧ v.oneCell' = true ∧ PR w (AQ w) y v := by
  classical
  refine ⟨fun i => if J : i < cap then Classical.choose (N i J) else Sh.dflt.dT T, fun i J => ?_⟩
  simp only [J, dif_pos]
  exact Classical.choose_spec (N i J)
 obtain ⟨f, Y⟩ := O
 have I : ((List.range len).map f).length = len := by rw [ye1, List.length_range]
 refine ⟨(List.range len).map f, ⟨(show ((List.range len).map f).length ≤ reachBytes by omega), fun x U => ?_⟩, _, rfl, rfl, ?_⟩
 ·obtain ⟨i, J⟩ := List.mem_iff_getElem?.1 U
  obtain ⟨J, rfl⟩ := nV J
  exact (Y i (by omega)).1
 cases J : aY ag T with
 | true =>
  obtain ⟨rfl, k, rfl⟩ := aK.1 J
  have : ∀ n, ((List.range len).map f).length = n → PR w (AQ w) (.ints k ((List.range len).map f)) (.slice (some ⟨B, o, none⟩) n cap) := by
   intro n hn
   subst hn
   refine .ints k _ B o cap (ya2 (Nat.le_of_eq I) hlc) fun i x U => ?_
   obtain ⟨J, rfl⟩ := nV U
   obtain ⟨v, K, _, hp⟩ := (Y i (by omega)).2 0 (.lit (.int k (f i))) rfl
   have K : cl w B (o + i) = some v := by simpa [Ty.size] using K
   cases hp
   exact ⟨K, (Em K).2⟩
  exact this len I
 | false =>
  show PR w (AQ w) (dN ag T ((List.range len).map f)) _
  rw [bX J]
  have : PR w (AQ w) (.sl T.size (((List.range len).map f).map (cT ag T))) (.slice (some ⟨B, o, none⟩) (((List.range len).map f).map (cT ag T)).length cap) := by
   have U : ∀ {i : Nat} {x : PV}, (((List.range len).map f).map (cT ag T))[i]? = some x → i < len ∧ x = cT ag T (f i) := by
    intro i x U
    rw [yb1] at U
    obtain ⟨z, hz, rfl⟩ := yc.1 U
    obtain ⟨h, rfl⟩ := nV hz
    exact ⟨h, rfl⟩
   have hc : ∀ {i : Nat} {x : PV} {c : Nat} {y : PV}, (((List.range len).map f).map (cT ag T))[i]? = some x → x.cells[c]? = some y → ∃ v, cl w B (o + i * T.size + c) = some v ∧ v.oneCell' = true ∧ PR w (AQ w) y v := by
    intro i x c y N O
    obtain ⟨J, rfl⟩ := U N
    rw [b6] at O
    exact (Y i (by omega)).2 c y O
   refine .sl T.size _ B o cap (fun i c => (cl w B (o + i * T.size + c)).getD undef) hs (by rw [ye1, I]; exact hlc) (fun x hx' => ?_) (fun i x c y N O => ?_) (fun i x c y N O => ?_) (fun i x c y N O => ?_)
   ·obtain ⟨i, J⟩ := List.mem_iff_getElem?.1 hx'
    obtain ⟨J, rfl⟩ := U J
    rw [b6, bP]
   ·obtain ⟨v, K, _⟩ := hc N O
    rw [K]
    exact ⟨rfl, (Em K).2⟩
   ·obtain ⟨v, K, ho, _⟩ := hc N O
    rw [K]; exact ho
   ·obtain ⟨v, K, _, hp⟩ := hc N O
    rw [K]; exact hp
  rw [ye1, I] at this
  exact this
theorem Gx {rd : TypeId → Ty → Bool} {fuel : Nat} (ih : ∀ (m : Nat) (t : TypeId) (T : Ty) (cs : List Value) (x : DataW H × List MemPlace), m < fuel → rd t T = true → rA enc P w m t cs = some x → Lw P t x.1 → HE w T 0 cs)
  (t : TypeId) (T : Ty) (v : Value) (h : BJ P rd t T = true) (hr : ∃ m y, m ≤ fuel ∧ rA enc P w m t [v] = some y ∧ Lw P t y.1) : E1 w T v := by
 obtain ⟨m, y, hm, J, Z⟩ := hr
 unfold BJ at h
 split at h
 ·rename_i k ht
  split at h
  ·rename_i k'
   obtain rfl := rW.1 h
   obtain ⟨n, hn, _, K⟩ := DataW.trod_int ht J
   obtain rfl := (yx hn).1
   exact ⟨n, K, _, rfl, rfl, .lit _ rfl⟩
  ·cases h
 ·rename_i ht
  split at h
  ·obtain ⟨n, hn, _⟩ := DataW.trod_bool ht J
   obtain rfl := (yx hn).1
   exact ⟨n, trivial, _, rfl, rfl, .lit _ rfl⟩
  ·cases h
 ·rename_i ht
  split at h
  ·obtain ⟨n, hn, hx, I⟩ := DataW.trod_string ht J
   obtain rfl := (yx hn).1
   subst hx
   have : n.size ≤ reachBytes := Z n.data.toList.length (by simp [DataW.weights])
   exact ⟨n, this, _, rfl, rfl, .lit _ rfl⟩
  ·cases h
 ·rename_i e ht
  split at h
  ·rename_i ag T'
   rw [yb, yb] at h
   have I := nb.1 h.1.2
   have U : 1 ≤ P.bytesOf e := Nat.le_of_ble_eq_true h.2
   rcases Mj ht J Z with hn | ⟨a, len, cap, m', hn, N, hcm, hfu, O, M⟩
   ·obtain rfl := (yx hn).1
    exact JB ag T' _
   ·obtain rfl := (yx hn).1
    have V : cap ≤ reachBytes := ya2 (Nat.le_mul_of_pos_right cap U) O
    refine Kd N V fun i hi => ?_
    obtain ⟨Y, y', W, h2, h3⟩ := M i hi
    rw [I] at W
    exact ⟨Y, W, ih m' e T' Y y' (by omega) h.1.1 h2 h3⟩
  ·cases h
 ·cases h
theorem Ef {I : TypeId → Ty → Bool} : ∀ {l : List (Nat × TypeId)} {n : Nat} {T : Ty}, wK I n l T = true → ∀ q ∈ l, ∃ M, I q.2 M = true
 | [], n, T, h, q, J => by cases J
 | [p], n, T, h, q, J => by
  have h : (Nat.beq p.1 n && I p.2 T) = true := h
  rw [yb] at h
  obtain rfl := yb2.1 J
  exact ⟨T, h.2⟩
 | p :: K :: r, n, .cons a b, h, q, J => by
  have h : (Nat.beq p.1 n && I p.2 a && wK I (n + 1) (K :: r) b) = true := h
  simp only [yb] at h
  rcases yn1.1 J with rfl | J
  ·exact ⟨a, h.1.2⟩
  ·exact Ef h.2 q J
 | p :: K :: r, n, .int _, h, q, J | p :: K :: r, n, .bool, h, q, J | p :: K :: r, n, .str, h, q, J | p :: K :: r, n, .sl _ _, h, q, J => by cases h
theorem B0 {rd : TypeId → Ty → Bool} {t : TypeId} {T : Ty} (h : BJ P rd t T = true) : wE P t := by
 unfold BJ at h
 split at h
 ·rename_i k ht; exact .inl ⟨k, ht⟩
 ·rename_i ht; exact .inr (.inl ht)
 ·rename_i ht; exact .inr (.inr (.inl ht))
 ·rename_i e ht; exact .inr (.inr (.inr ⟨e, ht⟩))
 ·cases h
theorem MB : ∀ (fuel k : Nat) (t : TypeId) (T : Ty) (cs : List Value) (x : DataW H × List MemPlace), MD P k t T = true → rA enc P w fuel t cs = some x → Lw P t x.1 → HE w T 0 cs := by
 intro fuel
 induction fuel using Nat.strongRecOn with
 | ind fuel ih =>
  intro k t T cs x I h Y
  cases k with
  | zero => cases I
  | succ k =>
   unfold MD at I
   split at I
   ·rename_i l N
    refine Fc (R := fun t v => ∃ m y, m ≤ fuel ∧ rA enc P w m t [v] = some y ∧ Lw P t y.1) (Gx (rd := MD P k) fun m t T cs x hm O U V => ih m hm k t T cs x O U V) I fun q M => ?_
    obtain ⟨T', J⟩ := Ef I q M
    obtain ⟨m, v, y, hm, W, Z, K⟩ := A3 8 N h Y q M (B0 J)
    exact ⟨v, W, m, y, hm, Z, K⟩
   ·cases I
end Go.Ab
