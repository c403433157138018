import Derived.Test.YtdlbbdbbpoggfaaLib31
set_option linter.unusedVariables false
set_option linter.unusedSectionVars false
set_option linter.unusedSimpArgs false
namespace Go.Ab
variable [GTab]
open Go.RowKit
variable {P : Program} {H : Type} {enc : TypeId × Value → H} {w : World}
theorem size_pos : ∀ T : Ty, 1 ≤ T.size
 | .int _ => yx _
 | .bool => yx _
 | .str => yx _
 | .sl _ _ => yx _
 | .cons a b => yb2 (size_pos a) (Nat.le_add_right _ _)
theorem zhw {w : World} {a : Addr} {v : Value} (h : w.cell? a = some v) : a.spot = none ∧ a.block < w.heap.size := by
 refine ⟨World.cell?_spot h, ?_⟩
 unfold World.cell? at h
 rcases yc2 a.block w.heap.size with h1 | h1
 ·exact h1
 ·rw [Array.getElem?_eq_none h1] at h; cases h
def LeafAt (w : World) (T : Ty) (v : Value) : Prop := ∃ x : den T, Fit T x ∧ ∃ p, pvCells T x = [p] ∧ v.oneCell' = true ∧ PR w (oldAt w) p v
def ReadAt (w : World) (T : Ty) (n : Nat) (cs : List Value) : Prop := ∃ x : den T, Fit T x ∧ TreeAt w T x n cs
theorem zio {leaf : TypeId → Ty → Bool} {R : TypeId → Value → Prop} (hleaf : ∀ t T v, leaf t T = true → R t v → LeafAt w T v) {cs : List Value} : ∀ {l : List (Nat × TypeId)} {n : Nat} {T : Ty},
  inChain leaf n l T = true → (∀ q ∈ l, ∃ v, cs[q.1]? = some v ∧ R q.2 v) → ReadAt w T n cs
 | [], n, T, h, hr => by cases h
 | [q], n, T, h, hr => by
  have h : (Nat.beq q.1 n && leaf q.2 T) = true := h
  rw [yb] at h
  obtain ⟨v, hv, hR⟩ := hr q (ya2.2 rfl)
  obtain ⟨x, hf, p, hp, ho, hpr⟩ := hleaf _ _ _ h.2 hR
  refine ⟨x, hf, fun j y hy => ?_⟩
  rw [hp] at hy
  cases j with
  | zero =>
   simp at hy; subst hy
   rw [nb.1 h.1] at hv
   exact ⟨v, hv, ho, hpr⟩
  | succ j => simp at hy
 | q :: q' :: r, n, .cons a b, h, hr => by
  have h : (Nat.beq q.1 n && leaf q.2 a && inChain leaf (n + 1) (q' :: r) b) = true := h
  simp only [yb] at h
  obtain ⟨v, hv, hR⟩ := hr q (yn ..)
  obtain ⟨x, hf, p, hp, ho, hpr⟩ := hleaf _ _ _ h.1.2 hR
  obtain ⟨z, hz, ht⟩ := zio hleaf h.2 fun q hq => hr q (yi _ hq)
  refine ⟨(x, z), ⟨hf, hz⟩, fun j y hy => ?_⟩
  have hy : (pvCells a x ++ pvCells b z)[j]? = some y := hy
  rw [hp] at hy
  cases j with
  | zero =>
   simp at hy; subst hy
   rw [nb.1 h.1.1] at hv
   exact ⟨v, hv, ho, hpr⟩
  | succ j =>
   have := ht j y (by simpa using hy)
   rw [show n + (j + 1) = n + 1 + j by omega]
   exact this
 | q :: q' :: r, n, .int _, h, hr | q :: q' :: r, n, .bool, h, hr | q :: q' :: r, n, .str, h, hr | q :: q' :: r, n, .sl _ _, h, hr => by cases h
theorem zkZ (ag : Bool) (T : Ty) (a : Option Addr) : LeafAt w (.sl ag T) (.slice a 0 0) := by
 refine ⟨([] : List (den T)), ⟨Nat.zero_le _, fun x hx => by cases hx⟩, _, rfl, rfl, ?_⟩
 cases hi : isIntsK ag T with
 | true =>
  obtain ⟨rfl, k, rfl⟩ := zc.1 hi
  exact .intsNil k a
 | false =>
  show PR w (oldAt w) (pvSl ag T []) (.slice a 0 0)
  rw [zo hi]; exact .slNil _ a
theorem zcq {α : Type} {f : Nat → α} {n i : Nat} {x : α} (hx : ((List.range n).map f)[i]? = some x) : i < n ∧ x = f i := by
 rw [yc1] at hx
 obtain ⟨i', hi', rfl⟩ := yd.1 hx
 rcases yc2 i n with h | h
 ·rw [List.getElem?_range h] at hi'
  obtain rfl := ya hi'
  exact ⟨h, rfl⟩
 ·rw [ya1 (by simpa using h)] at hi'; cases hi'
theorem znA {ag : Bool} {T : Ty} {a : Addr} {len cap : Nat} (hlc : len ≤ cap) (hcm : cap ≤ reachBytes)
  (h : ∀ i, i < cap → ∃ es, w.cells? 0 (a.add (i * T.size)) T.size = some es ∧ ReadAt w T 0 es) : LeafAt w (.sl ag T) (.slice (some a) len cap) := by
 rcases Nat.eq_zero_or_pos cap with rfl | hpos
 ·obtain rfl : len = 0 := by omega
  exact zkZ ag T _
 have hs := size_pos T
 obtain ⟨B, o, spot⟩ := a
 obtain rfl : spot = none := by
  obtain ⟨es, hes, _⟩ := h 0 hpos
  obtain ⟨_, hlen, hcell⟩ := World.cells?_some hes
  have h0 := hcell 0 (by omega)
  rw [yf (by omega)] at h0
  have := (zhw h0).1
  simpa [Addr.add] using this
 have h1 : ∀ i, i < cap → ∃ x : den T, Fit T x ∧ ∀ (j : Nat) (y : PV), (pvCells T x)[j]? = some y → ∃ v, cl w B (o + i * T.size + j) = some v ∧ v.oneCell' = true ∧ PR w (oldAt w) y v := by
  intro i hi
  obtain ⟨es, hes, x, hf, ht⟩ := h i hi
  obtain ⟨_, hlen, hcell⟩ := World.cells?_some hes
  refine ⟨x, hf, fun j y hy => ?_⟩
  obtain ⟨v, hv, ho, hp⟩ := ht j y hy
  rw [yy] at hv
  have hj : j < T.size := by
   rcases yc2 j es.length with h | h
   ·omega
   ·rw [ya1 h] at hv; cases hv
  refine ⟨v, ?_, ho, hp⟩
  have := hcell j hj
  rw [hv, zB, zB] at this
  exact this
 have h2 : ∃ f : Nat → den T, ∀ i, i < cap → Fit T (f i) ∧ ∀ (j : Nat) (y : PV), (pvCells T (f i))[j]? = some y → ∃ v, cl w B (o + i * T.size + j) = some v ∧ v.oneCell' = true ∧ PR w (oldAt w) y v := by
  classical
  refine ⟨fun i => if hi : i < cap then Classical.choose (h1 i hi) else Sh.dflt.dT T, fun i hi => ?_⟩
  simp only [hi, dif_pos]
  exact Classical.choose_spec (h1 i hi)
 obtain ⟨f, hf⟩ := h2
 have hlen' : ((List.range len).map f).length = len := by rw [yf1, List.length_range]
 refine ⟨(List.range len).map f, ⟨(show ((List.range len).map f).length ≤ reachBytes by omega), fun x hx => ?_⟩, _, rfl, rfl, ?_⟩
 ·obtain ⟨i, hi⟩ := List.mem_iff_getElem?.1 hx
  obtain ⟨hi, rfl⟩ := zcq hi
  exact (hf i (by omega)).1
 cases hi : isIntsK ag T with
 | true =>
  obtain ⟨rfl, k, rfl⟩ := zc.1 hi
  have : ∀ n, ((List.range len).map f).length = n → PR w (oldAt w) (.ints k ((List.range len).map f)) (.slice (some ⟨B, o, none⟩) n cap) := by
   intro n hn
   subst hn
   refine .ints k _ B o cap (yb2 (Nat.le_of_eq hlen') hlc) fun i x hx => ?_
   obtain ⟨hi, rfl⟩ := zcq hx
   obtain ⟨v, hv, _, hp⟩ := (hf i (by omega)).2 0 (.lit (.int k (f i))) rfl
   have hv : cl w B (o + i) = some v := by simpa [Ty.size] using hv
   cases hp
   exact ⟨hv, (zhw hv).2⟩
  exact this len hlen'
 | false =>
  show PR w (oldAt w) (pvSl ag T ((List.range len).map f)) _
  rw [zo hi]
  have : PR w (oldAt w) (.sl T.size (((List.range len).map f).map (pvEl ag T))) (.slice (some ⟨B, o, none⟩) (((List.range len).map f).map (pvEl ag T)).length cap) := by
   have hx : ∀ {i : Nat} {x : PV}, (((List.range len).map f).map (pvEl ag T))[i]? = some x → i < len ∧ x = pvEl ag T (f i) := by
    intro i x hx
    rw [yc1] at hx
    obtain ⟨z, hz, rfl⟩ := yd.1 hx
    obtain ⟨h, rfl⟩ := zcq hz
    exact ⟨h, rfl⟩
   have hc : ∀ {i : Nat} {x : PV} {c : Nat} {y : PV}, (((List.range len).map f).map (pvEl ag T))[i]? = some x → x.cells[c]? = some y → ∃ v, cl w B (o + i * T.size + c) = some v ∧ v.oneCell' = true ∧ PR w (oldAt w) y v := by
    intro i x c y h1 h2
    obtain ⟨hi, rfl⟩ := hx h1
    rw [zr] at h2
    exact (hf i (by omega)).2 c y h2
   refine .sl T.size _ B o cap (fun i c => (cl w B (o + i * T.size + c)).getD undef) hs (by rw [yf1, hlen']; exact hlc) (fun x hx' => ?_) (fun i x c y h1 h2 => ?_) (fun i x c y h1 h2 => ?_) (fun i x c y h1 h2 => ?_)
   ·obtain ⟨i, hi⟩ := List.mem_iff_getElem?.1 hx'
    obtain ⟨hi, rfl⟩ := hx hi
    rw [zr, zj]
   ·obtain ⟨v, hv, _⟩ := hc h1 h2
    rw [hv]
    exact ⟨rfl, (zhw hv).2⟩
   ·obtain ⟨v, hv, ho, _⟩ := hc h1 h2
    rw [hv]; exact ho
   ·obtain ⟨v, hv, _, hp⟩ := hc h1 h2
    rw [hv]; exact hp
  rw [yf1, hlen'] at this
  exact this
theorem zjG {rd : TypeId → Ty → Bool} {fuel : Nat} (ih : ∀ (m : Nat) (t : TypeId) (T : Ty) (cs : List Value) (x : DataW H × List MemPlace), m < fuel → rd t T = true → trodR enc P w m t cs = some x → Lw P t x.1 → ReadAt w T 0 cs)
  (t : TypeId) (T : Ty) (v : Value) (h : inLeaf P rd t T = true) (hr : ∃ m y, m ≤ fuel ∧ trodR enc P w m t [v] = some y ∧ Lw P t y.1) : LeafAt w T v := by
 obtain ⟨m, y, hm, hy, hw⟩ := hr
 unfold inLeaf at h
 split at h
 ·rename_i k ht
  split at h
  ·rename_i k'
   obtain rfl := keq.1 h
   obtain ⟨n, hn, _, hwf⟩ := DataW.trod_int ht hy
   obtain rfl := (yz hn).1
   exact ⟨n, hwf, _, rfl, rfl, .lit _ rfl⟩
  ·cases h
 ·rename_i ht
  split at h
  ·obtain ⟨n, hn, _⟩ := DataW.trod_bool ht hy
   obtain rfl := (yz hn).1
   exact ⟨n, trivial, _, rfl, rfl, .lit _ rfl⟩
  ·cases h
 ·rename_i ht
  split at h
  ·obtain ⟨n, hn, hx, hsz⟩ := DataW.trod_string ht hy
   obtain rfl := (yz hn).1
   subst hx
   have : n.size ≤ reachBytes := hw n.data.toList.length (by simp [DataW.weights])
   exact ⟨n, this, _, rfl, rfl, .lit _ rfl⟩
  ·cases h
 ·rename_i e ht
  split at h
  ·rename_i ag T'
   rw [yb, yb] at h
   have hsz := nb.1 h.1.2
   have hby : 1 ≤ P.bytesOf e := Nat.le_of_ble_eq_true h.2
   rcases zoi ht hy hw with hn | ⟨a, len, cap, m', hn, hlc, hcm, hfu, hcb, hel⟩
   ·obtain rfl := (yz hn).1
    exact zkZ ag T' _
   ·obtain rfl := (yz hn).1
    have hcr : cap ≤ reachBytes := yb2 (Nat.le_mul_of_pos_right cap hby) hcb
    refine znA hlc hcr fun i hi => ?_
    obtain ⟨es, y', h1, h2, h3⟩ := hel i hi
    rw [hsz] at h1
    exact ⟨es, h1, ih m' e T' es y' (by omega) h.1.1 h2 h3⟩
  ·cases h
 ·cases h
theorem zim {leaf : TypeId → Ty → Bool} : ∀ {l : List (Nat × TypeId)} {n : Nat} {T : Ty}, inChain leaf n l T = true → ∀ q ∈ l, ∃ T', leaf q.2 T' = true
 | [], n, T, h, q, hq => by cases hq
 | [p], n, T, h, q, hq => by
  have h : (Nat.beq p.1 n && leaf p.2 T) = true := h
  rw [yb] at h
  obtain rfl := ya2.1 hq
  exact ⟨T, h.2⟩
 | p :: q' :: r, n, .cons a b, h, q, hq => by
  have h : (Nat.beq p.1 n && leaf p.2 a && inChain leaf (n + 1) (q' :: r) b) = true := h
  simp only [yb] at h
  rcases yn1.1 hq with rfl | hq
  ·exact ⟨a, h.1.2⟩
  ·exact zim h.2 q hq
 | p :: q' :: r, n, .int _, h, q, hq | p :: q' :: r, n, .bool, h, q, hq | p :: q' :: r, n, .str, h, q, hq | p :: q' :: r, n, .sl _ _, h, q, hq => by cases h
theorem zgB {rd : TypeId → Ty → Bool} {t : TypeId} {T : Ty} (h : inLeaf P rd t T = true) : isLeafT P t := by
 unfold inLeaf at h
 split at h
 ·rename_i k ht; exact .inl ⟨k, ht⟩
 ·rename_i ht; exact .inr (.inl ht)
 ·rename_i ht; exact .inr (.inr (.inl ht))
 ·rename_i e ht; exact .inr (.inr (.inr ⟨e, ht⟩))
 ·cases h
theorem zog : ∀ (fuel k : Nat) (t : TypeId) (T : Ty) (cs : List Value) (x : DataW H × List MemPlace), rdOk P k t T = true → trodR enc P w fuel t cs = some x → Lw P t x.1 → ReadAt w T 0 cs := by
 intro fuel
 induction fuel using Nat.strongRecOn with
 | ind fuel ih =>
  intro k t T cs x hk h hw
  cases k with
  | zero => cases hk
  | succ k =>
   unfold rdOk at hk
   split at hk
   ·rename_i l hl
    refine zio (R := fun t v => ∃ m y, m ≤ fuel ∧ trodR enc P w m t [v] = some y ∧ Lw P t y.1) (zjG (rd := rdOk P k) fun m t T cs x hm h1 h2 h3 => ih m hm k t T cs x h1 h2 h3) hk fun q hq => ?_
    obtain ⟨T', hT'⟩ := zim hk q hq
    obtain ⟨m, v, y, hm, hv, hy, hwy⟩ := zgd 8 hl h hw q hq (zgB hT')
    exact ⟨v, hv, m, y, hm, hy, hwy⟩
   ·cases hk
end Go.Ab
