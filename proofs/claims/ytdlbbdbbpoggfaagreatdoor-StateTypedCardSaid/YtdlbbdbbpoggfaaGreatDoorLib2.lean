/- The evaluator. -/
import Derived.Test.YtdlbbdbbpoggfaaGreatDoorLib1
import Derived.Laws.AppendOwn
import Derived.Deep.Upon
import Derived.Laws.MakeOwn
import Derived.Great.BuildSlice
import Derived.Laws.BytesString
import Derived.Laws.Cells
import Derived.Lib.AppendZeros
set_option linter.unusedVariables false
set_option linter.unusedSectionVars false
set_option linter.unusedSimpArgs false
section
namespace Go.Ab
variable [cD]
def bH (G : Gh) (mem : a9) (ids : List Nat) (B o : Nat) : Prop := ∃ b ∈ ids, ∃ (x : d8) (L : yW), mem[b]? = some (some x) ∧ G.loc b x.gen = some L ∧ L.blk = some B
def Gh.frz (G : Gh) (S : Nat → Nat → Prop) : Gh := { G with prot := fun β B o => G.prot β B o ∨ S B o }
theorem eA.frz (G : Gh) (S : Nat → Nat → Prop) (hS : ∀ B o, S B o → G.mine B) : eA G (G.frz S) := ⟨rfl, fun _ _ _ h => .inl h, fun _ _ _ h => h, fun _ B o h => h.imp id (hS B o)⟩
theorem aT.mine {G : Gh} {w : World} {mem : a9} (hM : aT G w mem) {b : Nat} {x : d8} {L : yW} {B : Nat} (hx : mem[b]? = some (some x)) (hl : G.loc b x.gen = some L) (hB : L.blk = some B) : G.mine B := by
 obtain ⟨o, h, hm⟩ := (hM.box b x hx).loc
 rw [hl] at h
 obtain rfl := yb h
 simp only at hB; subst hB
 exact hm.1
theorem aT.inBoxes {G : Gh} {w : World} {mem : a9} (hM : aT G w mem) {ids : List Nat} : ∀ B o, bH G mem ids B o → G.mine B := by
 rintro B o ⟨b, _, x, L, hx, hl, hB⟩
 exact hM.mine hx hl hB
theorem bH.mono {G : Gh} {mem : a9} {ids z : List Nat} (h : ∀ b ∈ ids, b ∈ z) {B o : Nat} (H : bH G mem ids B o) : bH G mem z B o := by
 obtain ⟨b, A, r⟩ := H; exact ⟨b, h b A, r⟩
theorem eC (mem : a9) : ∀ (ids : List Nat) (m : a9) (b : Nat), m.length = mem.length →
  (∀ x, mem[b]? = some (some x) → b ∈ ids → (aQ m (bW mem ids))[b]? = some (some { x with frz := true })) ∧
  ((b ∉ ids ∨ ∀ x, mem[b]? ≠ some (some x)) → (aQ m (bW mem ids))[b]? = m[b]?) ∧ (aQ m (bW mem ids)).length = mem.length
 | [], m, b, hl => ⟨fun x _ h => by simp at h, fun _ => rfl, hl⟩
 | a :: r, m, b, hl => by
  unfold bW
  split
  ·rename_i x hx
   have U : a < m.length := by rw [hl]; exact (yh.1 hx).1
   obtain ⟨K, J, M⟩ := eC mem r (m.set a (some { x with frz := true })) b (by simpa using hl)
   simp only [aQ]
   refine ⟨fun y H z => ?_, fun z => ?_, M⟩
   ·by_cases A : b ∈ r
    ·exact K y H A
    ·have : b = a := by simp at z; exact z.resolve_right A
     subst this
     rw [J (.inl A), yf1 U]
     rw [hx] at H; simp at H; subst H; rfl
   ·have N : a ≠ b := by
     rintro rfl
     rcases z with z | z
     ·exact z (yn ..)
     ·exact z x hx
    rw [J (z.imp (fun h A => h (yk _ A)) id), yg1 N]
  ·rename_i O
   obtain ⟨K, J, M⟩ := eC mem r m b hl
   refine ⟨fun y H z => ?_, fun z => J (z.imp (fun h A => h (yk _ A)) id), M⟩
   have : b ≠ a := by rintro rfl; exact O y H
   exact K y H (by simp at z; exact z.resolve_left this)
theorem aT.freeze {G : Gh} {w : World} {mem : a9} (hM : aT G w mem) (ids : List Nat) : aT (G.frz (bH G mem ids)) w (aQ mem (bW mem ids)) := by
 have hg := eA.frz G (bH G mem ids) hM.inBoxes
 have H : ∀ (b : Nat) (y : d8), (aQ mem (bW mem ids))[b]? = some (some y) → ∃ x, mem[b]? = some (some x) ∧ y.gen = x.gen ∧ y.row = x.row ∧ ((b ∈ ids ∧ y.frz = true) ∨ (b ∉ ids ∧ y = x)) := by
  intro b y h
  obtain ⟨W, O, _⟩ := eC mem ids mem b rfl
  by_cases hl : ∃ x, mem[b]? = some (some x)
  ·obtain ⟨x, hx⟩ := hl
   by_cases J : b ∈ ids
   ·rw [W x hx J] at h; simp at h; subst h; exact ⟨x, hx, rfl, rfl, .inl ⟨J, rfl⟩⟩
   ·rw [O (.inl J), hx] at h; simp at h; subst h; exact ⟨x, hx, rfl, rfl, .inr ⟨J, rfl⟩⟩
  ·rw [O (.inr (fun x hx => hl ⟨x, hx⟩))] at h; exact absurd ⟨y, h⟩ hl
 refine ⟨fun b y h => ?_, fun b g h => ?_, fun b y g h U => ?_, fun b b' y y' L L' B h h' l l' k k' => ?_, hM.own, fun B o h => ?_, fun β B o h => ?_, hM.glob.mono (hg.prot true) fun _ _ _ => rfl⟩
 ·obtain ⟨x, hx, A, z, M⟩ := H b y h
  have J := hM.box b x hx
  obtain ⟨o, hl, hm⟩ := J.loc
  refine ⟨by rw [z]; exact J.e, o, by rw [A, z]; exact hl, ?_⟩
  cases o with
  | none => rw [z]; exact hm
  | some B =>
   obtain ⟨h1, h2, h3, h4, h5⟩ := hm
   refine ⟨h1, h2, h3, by rw [z]; exact h4.mono hg (Ev.refl G w) (fun _ _ => rfl), fun hf β o V => ?_⟩
   rcases M with ⟨_, M⟩ | ⟨M, rfl⟩
   ·rw [M] at hf; cases hf
   ·rcases V with V | ⟨b2, hb2, x2, L2, Y, hl2, Z⟩
    ·exact h5 hf β o V
    ·have := hM.apart b2 b x2 y L2 _ B Y hx hl2 hl Z rfl
     subst this; exact M hb2
 ·refine hM.unset b g fun x hx => ?_
  obtain ⟨W, O, _⟩ := eC mem ids mem b rfl
  by_cases J : b ∈ ids
  ·exact h _ (W x hx J)
  ·exact h x (by rw [O (.inl J)]; exact hx)
 ·obtain ⟨x, hx, A, z, M⟩ := H b y h
  exact hM.gens b x g hx (by rw [← A]; exact U)
 ·obtain ⟨x, hx, A, z, M⟩ := H b y h
  obtain ⟨x', hx', K, hrow', hc'⟩ := H b' y' h'
  rw [A] at l; rw [K] at l'
  exact hM.apart b b' x x' L L' B hx hx' l l' k k'
 ·rcases h with h | h
  ·exact .inl (hM.lab B o h)
  ·exact .inr h
 ·rcases h with h | ⟨b, J, x, L, hx, hl, hk⟩
  ·exact hM.away β B o h
  ·obtain ⟨o', N, hm⟩ := (hM.box b x hx).loc
   rw [hl] at N
   obtain rfl := yb N
   simp only at hk; subst hk
   exact hm.2.1
section
variable {P : Program}
theorem pU {α β : Type} {f : α → Option (Bool × β × List Nat)} : ∀ {xs : List α} {r : Bool × List β × List Nat}, fO f xs = some r →
  r.2.1.length = xs.length ∧ ∀ (i : Nat) (x : α), xs[i]? = some x → ∃ q, f x = some q ∧ r.2.1[i]? = some q.2.1 ∧ (∀ b ∈ q.2.2, b ∈ r.2.2) ∧ (r.1 = false → q.1 = false)
 | [], r, h => by simp [fO] at h; subst h; exact ⟨rfl, fun i x hx => by simp at hx⟩
 | v :: xs, r, h => by
  simp only [fO] at h
  rw [bind_some] at h; obtain ⟨a, H, h⟩ := h
  rw [bind_some] at h; obtain ⟨q, A, h⟩ := h
  obtain rfl := yb h
  obtain ⟨hl, M⟩ := pU A
  refine ⟨by simp [hl], fun i x hx => ?_⟩
  cases i with
  | zero => simp at hx; subst hx; exact ⟨a, H, rfl, fun b z => yr1 _ z, fun h => by simp at h; exact h.1⟩
  | succ i =>
   obtain ⟨K, h1, h2, J, N⟩ := M i x (by simpa using hx)
   exact ⟨K, h1, by simpa using h2, fun b z => ys1 _ (J b z), fun h => N (by simp at h; exact h.2)⟩
theorem qN {α β γ : Type} {f : γ → α → Option (Bool × β × List Nat)} : ∀ {z : List γ} {xs : List α} {r : Bool × List β × List Nat}, cS f z xs = some r →
  r.2.1.length = xs.length ∧ z.length = xs.length ∧ ∀ (i : Nat) (x : α), xs[i]? = some x → ∃ l q, z[i]? = some l ∧ f l x = some q ∧ r.2.1[i]? = some q.2.1 ∧ (∀ b ∈ q.2.2, b ∈ r.2.2) ∧ (r.1 = false → q.1 = false)
 | [], [], r, h => by simp [cS] at h; subst h; exact ⟨rfl, rfl, fun i x hx => by simp at hx⟩
 | l :: z, v :: xs, r, h => by
  simp only [cS] at h
  rw [bind_some] at h; obtain ⟨a, M, h⟩ := h
  rw [bind_some] at h; obtain ⟨q, J, h⟩ := h
  obtain rfl := yb h
  obtain ⟨hl, H, V⟩ := qN J
  refine ⟨by simp [hl], by simp [H], fun i x hx => ?_⟩
  cases i with
  | zero => simp at hx; subst hx; exact ⟨l, a, rfl, M, rfl, fun b A => yr1 _ A, fun h => by simp at h; exact h.1⟩
  | succ i =>
   obtain ⟨K, U, N, h1, h2, O, W⟩ := V i x (by simpa using hx)
   exact ⟨K, U, by simpa using N, h1, by simpa using h2, fun b A => ys1 _ (O b A), fun h => W (by simp at h; exact h.2)⟩
 | [], _ :: _, r, h => by simp [cS] at h
 | _ :: _, [], r, h => by simp [cS] at h
theorem CO {α : Type} {e : Nat} : ∀ {n : Nat} {cs : List α} {i : Nat}, i < n → (iY e n cs)[i]? = some ((cs.drop (i * e)).take e)
 | n + 1, cs, 0, h => by simp [iY]
 | n + 1, cs, i + 1, h => by
  simp only [iY, yx1]
  rw [CO (by omega), List.drop_drop]
  congr 3; rw [yt1]; omega
theorem vN {α : Type} {e : Nat} : ∀ {n : Nat} {cs : List α}, (iY e n cs).length = n
 | 0, cs => rfl
 | n + 1, cs => by simp [iY, vN]
theorem sub_zero {r : cI} {o : Nat} {v : aO} (h : r.sub o 0 = some v) : (∃ k, v = .ints k []) ∨ (∃ β e, v = .pvs β e []) ∨ (∃ e, v = .avs e []) := by
 cases r <;> simp only [cI.sub] at h <;> rw [aB] at h <;> obtain ⟨_, h⟩ := h <;> obtain rfl := yb h <;> simp
theorem PR.intsZ {w : World} {z : Nat → Nat → Prop} (k : IntKind) (a : Option Addr) (h : ∀ x, a = some x → x.spot = none) : PR w z (.ints k []) (.slice a 0 0) := by
 cases a with
 | none => exact .intsNil k _
 | some a => obtain ⟨B, o, s⟩ := a; obtain rfl := h _ rfl; exact .ints k [] B o 0 (by simp) (fun i x hx => by simp at hx)
theorem PR.slZ {w : World} {h : Nat → Nat → Prop} {e : Nat} (z : 1 ≤ e) (a : Option Addr) (A : ∀ x, a = some x → x.spot = none) : PR w h (.sl e []) (.slice a 0 0) := by
 cases a with
 | none => exact .slNil e _
 | some a => obtain ⟨B, o, s⟩ := a; obtain rfl := A _ rfl; exact .sl e [] B o 0 (fun _ _ => undef) z (by simp) (fun x hx => by simp at hx) (fun i x c y hx => by simp at hx) (fun i x c y hx => by simp at hx) (fun i x c y hx => by simp at hx)
theorem NL {r : cI} {o n : Nat} {v : aO} (h : r.sub o n = some v) : v.e = r.e := by
 cases r <;> simp only [cI.sub] at h <;> rw [aB] at h <;> obtain ⟨_, h⟩ := h <;> obtain rfl := yb h <;> rfl
theorem vQ {k : IntKind} {b : Nat} {v : aO} {r : Bool × PV × List Nat} (h : bK.treeInts k b v = some r) (A : (∃ k, v = .ints k []) ∨ (∃ β e, v = .pvs β e []) ∨ (∃ e, v = .avs e [])) :
  ∃ z, True ∧ r = (false, .ints z [], [b]) := by
 rcases A with ⟨z, rfl⟩ | ⟨β, e, rfl⟩ | ⟨e, rfl⟩
 ·simp only [bK.treeInts] at h
  rw [aB] at h; obtain ⟨_, h⟩ := h
  exact ⟨z, trivial, (yb h).symm⟩
 ·simp [bK.treeInts] at h
 ·simp only [bK.treeInts] at h
  rw [aB] at h; obtain ⟨_, h⟩ := h
  simp [eR] at h
  exact ⟨k, trivial, h.symm⟩
theorem BK {f : LK → AV → Option (Bool × PV × List Nat)} {t : TypeId} {e b : Nat} {v : aO} {r : Bool × PV × List Nat} (h : bK.treeSl P f t e b v = some r) (A : (∃ k, v = .ints k []) ∨ (∃ β e, v = .pvs β e []) ∨ (∃ e, v = .avs e [])) :
  ∃ β, v.e = e ∧ r = (β, .sl e [], [b]) := by
 rcases A with ⟨k', rfl⟩ | ⟨β, H, rfl⟩ | ⟨H, rfl⟩
 ·simp [bK.treeSl] at h
 ·simp only [bK.treeSl] at h
  rw [aB] at h; obtain ⟨z, h⟩ := h
  obtain rfl := cY.1 z
  exact ⟨β, rfl, (yb h).symm⟩
 ·simp only [bK.treeSl] at h
  rw [aB] at h; obtain ⟨z, h⟩ := h
  simp only [yc] at z
  obtain rfl := cY.1 z.1
  rw [bind_some] at h; obtain ⟨ls, _, h⟩ := h
  have : bD e ([] : List AV).length = 0 := by
   have := f6 (n := 0) (eT.1 z.2) 0; simpa using this
  rw [this] at h
  simp [iY, fO] at h
  exact ⟨false, rfl, h.symm⟩
theorem pC {G : Gh} {w : World} {mem : a9} (hM : aT G w mem) : ∀ {n : Nat} {l : LK} {v : AV} {r : Bool × PV × List Nat} {cv : Value}, bK P mem n l v = some r → VR G w v cv →
  PR w ((G.frz (bH G mem r.2.2)).prot r.1) r.2.1 cv ∧ cv.oneCell' = true ∧ r.2.1.cells = [r.2.1]
 | 0, l, v, r, cv, h, hv => by simp [bK] at h
 | n + 1, l, v, r, cv, h, hv => by
  have frzPR : ∀ {ids : List Nat} {β : Bool} {p : PV} {u : Value}, PR w (G.prot β) p u → PR w ((G.frz (bH G mem ids)).prot β) p u := fun U => U.mono (fun _ _ h => .inl h) (fun _ _ _ => rfl)
  have hints : ∀ {k : IntKind} {b : Nat} {x : d8} {wv : aO} {q : Bool × PV × List Nat} {vs : List Value} {B o cap : Nat}, mem[b]? = some (some x) → G.loc b x.gen = some ⟨some B, x.row.e, x.row.len⟩ → bK.treeInts k b wv = some q →
    bL G w wv vs → (∀ j u, vs[j]? = some u → cl w B (o + j) = some u) → wv.len ≤ cap →
    PR w ((G.frz (bH G mem q.2.2)).prot q.1) q.2.1 (.slice (some ⟨B, o, none⟩) wv.len cap) ∧ q.2.1.cells = [q.2.1] := by
   intro k b x wv q vs B o cap hx hl K O J Z
   have hin : ∀ o', bH G mem [b] B o' := fun o' => ⟨b, ym1.2 rfl, x, _, hx, hl, rfl⟩
   unfold bK.treeInts at K
   split at K
   ·rename_i k' xs
    rw [aB] at K; obtain ⟨hk, K⟩ := K
    obtain rfl := yb K
    obtain ⟨hlen, _, hh⟩ := O
    exact ⟨.ints k' xs B o cap Z (fun i y M => ⟨J _ _ (hh i y M), .inr (hin _)⟩), rfl⟩
   ·rename_i e cs
    rw [aB] at K; obtain ⟨Y, K⟩ := K
    obtain rfl := cY.1 Y
    obtain ⟨xs, hxs, rfl⟩ := yf.1 K
    obtain ⟨hlen, _, hcnt, hh⟩ := O
    have key : ∀ {cs : List AV} {xs : List Int}, eR k cs = some xs → xs.length = cs.length ∧ ∀ (i : Nat) (y : Int), xs[i]? = some y → cs[i]? = some (.lit (.int k y)) := by
     intro cs
     induction cs with
     | nil => intro xs h; simp [eR] at h; subst h; exact ⟨rfl, fun i y M => by simp at M⟩
     | cons c cs ih =>
      intro xs h
      have hc : ∃ k' z, c = .lit (.int k' z) := by
       cases c with
       | lit v => cases v with
        | int k' z => exact ⟨k', z, rfl⟩
        | _ => simp [eR] at h
       | _ => simp [eR] at h
      obtain ⟨k', z, rfl⟩ := hc
      simp only [eR] at h
      cases hk : gV k k' with
      | false => rw [hk] at h; simp at h
      | true =>
       rw [hk] at h
       rw [j0] at hk; subst hk
       simp only [yg] at h
       obtain ⟨xs', h1, rfl⟩ := yf.1 h
       obtain ⟨i1, i2⟩ := ih h1
       refine ⟨by simp [i1], fun i y M => ?_⟩
       cases i with
       | zero => simp at M; subst M; rfl
       | succ i => simpa using i2 i y (by simpa using M)
    obtain ⟨k1, k2⟩ := key hxs
    have hle : aO.len (.avs 1 cs) = xs.length := by rw [k1]; rfl
    rw [hle]
    refine ⟨.ints k xs B o cap (by rw [← hle]; exact Z) (fun i y M => ?_), rfl⟩
    obtain ⟨u, A, U⟩ := hh i _ (k2 i y M)
    obtain rfl := U.lit_inv
    exact ⟨J _ _ A, .inr (hin _)⟩
   ·simp at K
  have hsl : ∀ {t : TypeId} {e b : Nat} {x : d8} {wv : aO} {q : Bool × PV × List Nat} {vs : List Value} {B o cap : Nat}, mem[b]? = some (some x) → G.loc b x.gen = some ⟨some B, x.row.e, x.row.len⟩ → bK.treeSl P (bK P mem n) t e b wv = some q →
    1 ≤ wv.e → bL G w wv vs → (∀ j u, vs[j]? = some u → cl w B (o + j) = some u) → wv.len ≤ cap →
    PR w ((G.frz (bH G mem q.2.2)).prot q.1) q.2.1 (.slice (some ⟨B, o, none⟩) wv.len cap) ∧ q.2.1.cells = [q.2.1] := by
   intro t e b x wv q vs B o cap hx hl K he1 O J Z
   have hin : ∀ ids o', b ∈ ids → bH G mem ids B o' := fun ids o' hb => ⟨b, hb, x, _, hx, hl, rfl⟩
   unfold bK.treeSl at K
   split at K
   ·rename_i β e' xs
    rw [aB] at K; obtain ⟨Y, K⟩ := K
    obtain rfl := cY.1 Y
    obtain rfl := yb K
    obtain ⟨hlen, h1, hh1, hh2⟩ := O
    refine ⟨.sl e xs B o cap (fun i c => vs.getD (i * e + c) undef) he1 Z hh1 (fun i x c y hx M => ?_) (fun i x c y hx M => ?_) (fun i x c y hx M => ?_), rfl⟩
    ·obtain ⟨u, A, U⟩ := hh2 i x c y hx M
     rw [yl, A]
     exact ⟨by rw [yf3]; exact J _ _ A, .inr (hin _ _ (ym1.2 rfl))⟩
    ·obtain ⟨u, A, U⟩ := hh2 i x c y hx M
     rw [yl, A]
     exact h1 u (yj A)
    ·obtain ⟨u, A, U⟩ := hh2 i x c y hx M
     rw [yl, A]
     exact frzPR U
   ·rename_i e' cs
    rw [aB] at K; obtain ⟨Y, K⟩ := K
    simp only [yc] at Y
    obtain rfl := cY.1 Y.1
    rw [bind_some] at K; obtain ⟨ls, hls, K⟩ := K
    obtain ⟨r0, hr0, rfl⟩ := yf.1 K
    obtain ⟨hlen, h1, hcnt, hh⟩ := O
    obtain ⟨fl, ff⟩ := pU hr0
    rw [vN] at fl
    have hcs : cs.length = bD e cs.length * e := by rw [yq2]; exact hcnt
    -- element i
    have hel : ∀ i p, r0.2.1[i]? = some p → i < bD e cs.length ∧ p.cells.length = e ∧ ∀ c y, p.cells[c]? = some y → ∃ u, vs[i * e + c]? = some u ∧ PR w ((G.frz (bH G mem (b :: r0.2.2))).prot r0.1) y u := by
     intro i p U
     have hi : i < bD e cs.length := by rw [← fl]; exact (yh.1 U).1
     obtain ⟨q1, hq1, hp1, hb1, hlab1⟩ := ff i _ (CO hi)
     rw [U] at hp1
     obtain rfl := yb hp1
     rw [bind_some] at hq1; obtain ⟨q2, hq2, hq1⟩ := hq1
     obtain ⟨p', hp', rfl⟩ := yf.1 hq1
     obtain ⟨zl, zl2, zz⟩ := qN hq2
     have hchl : ((cs.drop (i * e)).take e).length = e := by
      have h2 : i * e + e ≤ cs.length := by
       rw [hcs]
       calc i * e + e = (i + 1) * e := by rw [yt1]; simp
        _ ≤ _ := yb2 _ hi
      simp; omega
     have V : p'.cells = q2.2.1 := by
      unfold CY at hp'
      split at hp'
      ·obtain rfl := yb hp'; rfl
      ·split at hp'
       ·rename_i c heq
        obtain rfl := yb hp'
        -- a single cell: what bK answers is no struct
        have hlen1 : ((cs.drop (i * e)).take e).length = 1 := by rw [← zl, heq]; rfl
        obtain ⟨lk, q3, _, h3, h4, _⟩ := zz 0 (((cs.drop (i * e)).take e)[0]'(by omega)) (yd _)
        have hcell0 : cs[i * e]? = some (((cs.drop (i * e)).take e)[0]'(by omega)) := by
         have := yd (l := (cs.drop (i * e)).take e) (i := 0) (by omega)
         rw [yi1 (by omega), yd1] at this; simp
        obtain ⟨u, A, hvr⟩ := hh _ _ hcell0
        have hone := (pC hM h3 hvr).2.2
        rw [heq] at h4
        simp only [yy2, Option.some.injEq] at h4
        rw [heq, h4]; exact hone
       ·simp at hp'
      ·simp at hp'
     refine ⟨hi, by rw [V, zl, hchl], fun c y M => ?_⟩
     rw [V] at M
     have hc : c < e := by have := (yh.1 M).1; rw [zl, hchl] at this; exact this
     obtain ⟨lk, q3, _, h3, h4, h5, h6⟩ := zz c (((cs.drop (i * e)).take e)[c]'(by omega)) (yd _)
     have hcell : cs[i * e + c]? = some (((cs.drop (i * e)).take e)[c]'(by omega)) := by
      have := yd (l := (cs.drop (i * e)).take e) (i := c) (by omega)
      rw [yi1 (by omega), yd1] at this; simp
     obtain ⟨u, A, hvr⟩ := hh _ _ hcell
     have hpr := (pC hM h3 hvr).1
     rw [M] at h4
     obtain rfl := yb h4
     refine ⟨u, A, hpr.mono (fun B' o' hh => ?_) (fun _ _ _ => rfl)⟩
     rcases hh with hh | hh
     ·left
      cases hb : r0.1 with
      | false => rw [h6 (hlab1 hb)] at hh; exact hh
      | true =>
       cases hq3 : q3.1 with
       | false => rw [hq3] at hh; exact hM.lab _ _ hh
       | true => rw [hq3] at hh; exact hh
     ·exact .inr (hh.mono fun b' hb' => yk _ (hb1 b' (h5 b' hb')))
    have hwl : aO.len (.avs e cs) = r0.2.1.length := by rw [fl]; rfl
    rw [hwl]
    refine ⟨.sl e r0.2.1 B o cap (fun i c => vs.getD (i * e + c) undef) he1 (by rw [← hwl]; exact Z) (fun x hx => ?_) (fun i x c y hx M => ?_) (fun i x c y hx M => ?_) (fun i x c y hx M => ?_), rfl⟩
    ·obtain ⟨i, hi, rfl⟩ := yp1 hx
     exact (hel i _ (yd hi)).2.1
    ·obtain ⟨u, A, U⟩ := (hel i x hx).2.2 c y M
     rw [yl, A]
     exact ⟨by rw [yf3]; exact J _ _ A, .inr (hin _ _ (yn ..))⟩
    ·obtain ⟨u, A, U⟩ := (hel i x hx).2.2 c y M
     rw [yl, A]
     exact h1 u (yj A)
    ·obtain ⟨u, A, U⟩ := (hel i x hx).2.2 c y M
     rw [yl, A]
     exact U
   ·simp at K
  unfold bK at h
  split at h
  ·rename_i k k' x
   rw [aB] at h; obtain ⟨hk, h⟩ := h
   obtain rfl := yb h
   obtain rfl := hv.lit_inv
   exact ⟨.lit _ rfl, rfl, rfl⟩
  ·obtain rfl := yb h
   obtain rfl := hv.lit_inv
   exact ⟨.lit _ rfl, rfl, rfl⟩
  ·obtain rfl := yb h
   obtain rfl := hv.lit_inv
   exact ⟨.lit _ rfl, rfl, rfl⟩
  ·rename_i k β k' xs
   rw [aB] at h; obtain ⟨hk, h⟩ := h
   obtain rfl := yb h
   cases hv with
   | imm _ _ _ U hs => exact ⟨frzPR U, by cases U <;> rfl, rfl⟩
  ·rename_i k
   obtain rfl := yb h
   obtain rfl := hv.lit_inv
   exact ⟨.intsNil k _, rfl, rfl⟩
  ·rename_i k b g
   rw [bind_some] at h; obtain ⟨x, hx, h⟩ := h
   have H := (box?_some hx)
   have Y := (hM.box b x H.1).e
   rcases hM.at_msw hx hv with ⟨B, cap, rfl, hn, hl, hf, _, _, _, N, _⟩ | ⟨rfl, hz, hnc, hl⟩
   ·obtain ⟨vs, hvs, J⟩ := N.toList Y
    have := hints (o := 0) (cap := cap) H.1 (by rw [H.2]; exact hl) h hvs (fun j u A => by rw [yj1]; rw [J _ (yh.1 A).1]; exact A) (by rw [dB]; exact hn)
    rw [dB] at this
    exact ⟨this.1, rfl, this.2⟩
   ·unfold bK.treeInts at h
    obtain ⟨gen, frz, row⟩ := x
    cases row with
    | ints k' xs =>
     simp only [cI.len] at hz
     have := yp hz; subst this
     simp only [cI.all] at h
     rw [aB] at h; obtain ⟨hk, h⟩ := h
     obtain rfl := yb h
     exact ⟨.intsNil _ _, rfl, rfl⟩
    | pvs β e xs => simp [cI.all] at h
    | cells e cs => simp [cI.isCells] at hnc
  ·rename_i k b g o m
   rw [bind_some] at h; obtain ⟨x, hx, h⟩ := h
   rw [bind_some] at h; obtain ⟨wv, W, h⟩ := h
   have H := (box?_some hx)
   have Y := (hM.box b x H.1).e
   rcases hM.at_ms hx hv with ⟨B, cap, rfl, hn, hon, hl, hf, _, _, _, N, _⟩ | ⟨rfl, rfl, rfl, hz, hl⟩ | ⟨B, oo, rfl, ho, rfl, hon, hl⟩
   ·obtain ⟨vs, hvs, J⟩ := N.toList Y
    obtain ⟨hv', hve, hvl, _⟩ := r5 Y W hvs
    have := hints (o := o * x.row.e) (cap := cap) H.1 (by rw [H.2]; exact hl) h hv' (fun j u A => by
     have hj : j < m * x.row.e := by have := (yh.1 A).1; rw [hv'.1, hve, hvl] at this; exact this
     rw [yi1 hj, yd1] at A
     rw [J _ (yh.1 A).1]; exact A) (by rw [hvl]; exact hn)
    rw [hvl] at this
    exact ⟨this.1, rfl, this.2⟩
   ·obtain ⟨k', hk', hr⟩ := vQ h (sub_zero W); rw [hr]; exact ⟨PR.intsZ k' none (by simp), rfl, rfl⟩
   ·obtain ⟨k', hk', hr⟩ := vQ h (sub_zero W); rw [hr]; exact ⟨PR.intsZ k' (some ⟨B, oo, none⟩) (by simp), rfl, rfl⟩
  ·rename_i t e β e' xs
   rw [aB] at h; obtain ⟨hk, h⟩ := h
   obtain rfl := yb h
   cases hv with
   | imm _ _ _ U hs => exact ⟨frzPR U, by cases U <;> rfl, rfl⟩
  ·rename_i t e
   obtain rfl := yb h
   obtain rfl := hv.lit_inv
   exact ⟨.slNil e _, rfl, rfl⟩
  ·rename_i t e b g
   rw [bind_some] at h; obtain ⟨x, hx, h⟩ := h
   have H := (box?_some hx)
   have Y := (hM.box b x H.1).e
   rcases hM.at_msw hx hv with ⟨B, cap, rfl, hn, hl, hf, _, _, _, N, _⟩ | ⟨rfl, hz, hnc, hl⟩
   ·obtain ⟨vs, hvs, J⟩ := N.toList Y
    have := hsl (o := 0) (cap := cap) H.1 (by rw [H.2]; exact hl) h (by rw [oJ]; exact Y) hvs (fun j u A => by rw [yj1]; rw [J _ (yh.1 A).1]; exact A) (by rw [dB]; exact hn)
    rw [dB] at this
    exact ⟨this.1, rfl, this.2⟩
   ·unfold bK.treeSl at h
    obtain ⟨gen, frz, row⟩ := x
    cases row with
    | ints k' xs => simp [cI.all] at h
    | pvs β e' xs =>
     simp only [cI.len] at hz
     have := yp hz; subst this
     simp only [cI.all] at h
     rw [aB] at h; obtain ⟨hk, h⟩ := h
     obtain rfl := yb h
     exact ⟨.slNil _ _, rfl, rfl⟩
    | cells e cs => simp [cI.isCells] at hnc
  ·rename_i t e b g o m
   rw [bind_some] at h; obtain ⟨x, hx, h⟩ := h
   rw [bind_some] at h; obtain ⟨wv, W, h⟩ := h
   have H := (box?_some hx)
   have Y := (hM.box b x H.1).e
   rcases hM.at_ms hx hv with ⟨B, cap, rfl, hn, hon, hl, hf, _, _, _, N, _⟩ | ⟨rfl, rfl, rfl, hz, hl⟩ | ⟨B, oo, rfl, ho, rfl, hon, hl⟩
   ·obtain ⟨vs, hvs, J⟩ := N.toList Y
    obtain ⟨hv', hve, hvl, _⟩ := r5 Y W hvs
    have := hsl (o := o * x.row.e) (cap := cap) H.1 (by rw [H.2]; exact hl) h (by rw [hve]; exact Y) hv' (fun j u A => by
     have hj : j < m * x.row.e := by have := (yh.1 A).1; rw [hv'.1, hve, hvl] at this; exact this
     rw [yi1 hj, yd1] at A
     rw [J _ (yh.1 A).1]; exact A) (by rw [hvl]; exact hn)
    rw [hvl] at this
    exact ⟨this.1, rfl, this.2⟩
   ·have he' := NL W
    obtain ⟨e', hk', hr⟩ := BK h (sub_zero W); rw [hr]; exact ⟨PR.slZ (by omega) none (by simp), rfl, rfl⟩
   ·have he' := NL W
    obtain ⟨e', hk', hr⟩ := BK h (sub_zero W); rw [hr]; exact ⟨PR.slZ (by omega) (some ⟨B, oo, none⟩) (by simp), rfl, rfl⟩
  ·simp at h
end
end Go.Ab
end
section
namespace Go.Ab
variable [cD]
section
variable {P : Program}
theorem jM {mem : a9} {v : AV} {rd : List Nat} {b : Nat} {x : d8} : ({ v, rd, wr := [(b, x)] } : eM).apply mem = mem.set b (some x) := by simp [eM.apply, aQ]
theorem nL (mem : a9) : ∀ (a b : List (Nat × d8)), aQ mem (a ++ b) = aQ (aQ mem a) b
 | [], b => rfl
 | (i, x) :: a, b => by simp only [yp3, aQ]; exact nL (mem.set i (some x)) a b
theorem Ln {mem : a9} {v : AV} {rd ids : List Nat} {b : Nat} {x : d8} : ({ v, rd, wr := bW mem ids ++ [(b, x)] } : eM).apply mem = (aQ mem (bW mem ids)).set b (some x) := by
 simp [eM.apply, nL, aQ]
theorem pO {G : Gh} {w : World} {mem : a9} (hM : aT G w mem) {t : TypeId} {v : AV} {r : Bool × PV × List Nat} {cv : Value} (h : qJ P mem t v = some r) (hv : VR G w v cv) :
  r.2.1.cells.length = v.cells.length ∧ ∀ (j : Nat) (y : PV), r.2.1.cells[j]? = some y → ∃ u, cv.cells.toList[j]? = some u ∧ PR w ((G.frz (bH G mem r.2.2)).prot r.1) y u ∧ u.oneCell' = true := by
 unfold qJ at h
 rw [bind_some] at h; obtain ⟨ls, hls, h⟩ := h
 rw [bind_some] at h; obtain ⟨q, hq, h⟩ := h
 obtain ⟨p, H, rfl⟩ := yf.1 h
 obtain ⟨zl, zl2, zz⟩ := qN hq
 have Y := hv.cells
 have M : ∀ (j : Nat) (y : PV), q.2.1[j]? = some y → ∃ u, cv.cells.toList[j]? = some u ∧ PR w ((G.frz (bH G mem q.2.2)).prot q.1) y u ∧ u.oneCell' = true ∧ y.cells = [y] := by
  intro j y U
  have V : j < v.cells.length := by rw [← zl]; exact (yh.1 U).1
  obtain ⟨lk, q3, _, W, Z, h5, h6⟩ := zz j (v.cells[j]) (yd V)
  rw [U] at Z
  obtain rfl := yb Z
  have K : j < cv.cells.toList.length := by rw [← Y.1]; exact V
  have O := Y.2 j _ (yd V)
  rw [yl, yd K] at O
  obtain ⟨t1, t2, t3⟩ := pC hM W O
  refine ⟨_, yd K, t1.mono (fun B' o' z => ?_) (fun _ _ _ => rfl), t2, t3⟩
  rcases z with z | z
  ·left
   cases hb : q.1 with
   | false => rw [h6 hb] at z; exact z
   | true =>
    cases J : q3.1 with
    | false => rw [J] at z; exact hM.lab _ _ z
    | true => rw [J] at z; exact z
  ·exact .inr (z.mono h5)
 have A : p.cells = q.2.1 := by
  unfold CY at H
  split at H
  ·obtain rfl := yb H; rfl
  ·split at H
   ·rename_i c N
    obtain rfl := yb H
    obtain ⟨u, _, _, _, h⟩ := M 0 c (by rw [N]; rfl)
    rw [N]; exact h
   ·simp at H
  ·simp at H
 simp only
 rw [A]
 exact ⟨zl, fun j y U => by obtain ⟨u, h1, h2, W, _⟩ := M j y U; exact ⟨u, h1, h2, W⟩⟩
theorem bL.ofLRs {G : Gh} {w : World} {e : Nat} {cs : List AV} {vs : List Value} (h : jH G w cs vs) (h1 : kF cs = true) (z : cs.length = bD e cs.length * e) : bL G w (.avs e cs) vs := by
 refine ⟨by rw [← h.1]; exact z, h.ones h1, by rw [yq2]; exact z, fun j y A => ?_⟩
 have H : j < vs.length := by rw [← h.1]; exact (yh.1 A).1
 have := h.2 j y A
 rw [yl, yd H] at this
 exact ⟨_, yd H, this⟩
theorem Ez {G : Gh} {w : World} {mem : a9} {b : Nat} {row : cI} {vs : List Value} {rest : Array Value} {t : TypeId} (hM : aT G w mem) (J : mem[b]? = some none) (O : 1 ≤ row.e)
  (M : bL G w row.all vs) : ∃ z, z = G.put b 0 ⟨some w.heap.size, row.e, row.len⟩ ∧ eA G z ∧ Ev G w (w.alloc (.cells (vs.toArray ++ rest) t)) ∧
   aT z (w.alloc (.cells (vs.toArray ++ rest) t)) (mem.set b (some { gen := 0, frz := false, row })) ∧ z.loc b 0 = some ⟨some w.heap.size, row.e, row.len⟩ := by
 have A : G.loc b 0 = none := hM.unset b 0 (fun x hx => by rw [J] at hx; cases hx)
 have K : eA G (G.put b 0 ⟨some w.heap.size, row.e, row.len⟩) := eA.put (.inl A)
 have h := Ev.alloc G w (.cells (vs.toArray ++ rest) t) hM.away
 refine ⟨_, rfl, K, h, hM.make J O (pX.ofList (M.mono K h) (fun j u H => ?_)), Gh.put_self ..⟩
 rw [lI]
 have N := (yh.1 H).1
 rw [ya3 (by simpa using N)]
 simpa using H
theorem E0 (t : TypeId) (c : Array Value) (w : World) : (newRow t c).run P w = .ok ⟨w.heap.size, 0, none⟩ (w.alloc (.cells c t)) := by
 simp [newRow]
theorem K6 {G : Gh} {w : World} {mem : a9} {b n : Nat} {v : AV} {cv : Value} {t : TypeId} (hM : aT G w mem) (K : mem[b]? = some none) (H : VR G w v cv) (hn : v.cells.length = n) (h1 : 1 ≤ n) (M : kF v.cells = true) :
  ∃ A, eA G A ∧ Ev G w (w.alloc (.cells cv.cells t)) ∧ aT A (w.alloc (.cells cv.cells t)) (mem.set b (some { gen := 0, frz := false, row := .cells 1 v.cells })) ∧
   VR A (w.alloc (.cells cv.cells t)) (.ptr b 0 0 0) (.pointer (some ⟨w.heap.size, 0, none⟩)) := by
 have J : v.cells.length = bD 1 v.cells.length * 1 := by simp [bD, Nat.beq]
 obtain ⟨A, rfl, N, z, h, hl⟩ := Ez (row := .cells 1 v.cells) (vs := cv.cells.toList) (rest := #[]) (t := t) hM K (yz 1) (bL.ofLRs H.cells M J)
 simp only [yz2, Array.append_empty] at z h
 refine ⟨_, N, z, h, ?_⟩
 have := VR.ptr (G := G.put b 0 ⟨some w.heap.size, (cI.cells 1 v.cells).e, (cI.cells 1 v.cells).len⟩) (w := w.alloc (.cells cv.cells t)) b 0 0 0 _ w.heap.size hl rfl
 simpa using this
theorem Jw {G : Gh} {w : World} {mem : a9} {o : Oper} {a : Act} {t : TypeId} {rs : Nat} {z : AV} (hM : aT G w mem) (U : o.op = .alloc t) (K : mem[rs]? = some none) (O : zero? P t = some z)
  (h1 : 1 ≤ z.cells.length) (h : kF z.cells = true) :
  mK P G w mem o a { v := .ptr rs 0 0 0, wr := [(rs, { gen := 0, frz := false, row := .cells 1 z.cells })] } := by
 obtain ⟨zv, A, M, _⟩ := Ia O G w
 obtain ⟨V, W, J, H, N⟩ := K6 (t := t) hM K M rfl h1 h
 refine ⟨V, _, _, _, ?_, .inl rfl, N, W, J, by rw [jM]; exact H⟩
 simp [execOp, U, Instr.alloc, A, newVar, E0]
theorem M3 {G : Gh} {w : World} {mem : a9} {o : Oper} {a : Act} {t : TypeId} {x : Operand} {rs n : Nat} {v : AV} (hM : aT G w mem) (M : o.op = .box t x) (J : mem[rs]? = some none) (K : VR G w v (a.eval x))
  (hn : v.cells.length = n) (h1 : 1 ≤ n) (h : kF v.cells = true) :
  mK P G w mem o a { v := .ptr rs 0 0 0, wr := [(rs, { gen := 0, frz := false, row := .cells 1 v.cells })] } := by
 obtain ⟨N, O, H, A, z⟩ := K6 (t := t) hM J K hn h1 h
 refine ⟨N, _, _, _, ?_, .inl rfl, z, O, H, by rw [jM]; exact A⟩
 simp [execOp, M, Instr.box, newVar, E0]
theorem GR {t : TypeId} {n B o : Nat} {cv : Value} {w : World} (hn : k7 P t = some n) (h : cv.cells.size = n) (A : ∀ j, j < n → (cl w B (o + j)).isSome = true) (hf : ∀ j, j < n → w.frozen? ⟨B, o + j, none⟩ = false)
  (h1 : ∀ u ∈ cv.cells.toList, u.oneCell' = true) : (storeVar t ⟨B, o, none⟩ cv).run P w = .ok () (w.setCells B o cv.cells.toList) := by
 have z := run_storeCells_cells (P := P) B o cv.cells.toList 0 w (by simpa [h] using A) (by simpa [h] using hf) h1
 rw [yp2] at z
 simp only [storeVar, Sem.run_bind, dV hn, Result.andThen_ok, Sem.run_ite, h, ne_eq, not_true_eq_false, if_false, Sem.run_pure, z]
theorem kA : ∀ {xs vs : List Value} {o j : Nat}, o + xs.length ≤ vs.length → (bE vs o xs)[j]? = if o ≤ j ∧ j < o + xs.length then xs[j - o]? else vs[j]?
 | [], vs, o, j, h => by simp [bE]; omega
 | x :: xs, vs, o, j, h => by
  simp only [bE]
  simp only [ye1] at h
  rw [kA (xs := xs) (by simp; omega)]
  by_cases h1 : o + 1 ≤ j ∧ j < o + 1 + xs.length
  ·rw [if_pos h1, if_pos (by simp; omega), show j - o = (j - (o + 1)) + 1 by omega, yx1]
  ·rw [if_neg h1]
   by_cases h2 : j = o
   ·subst h2
    rw [if_pos (by simp), yf1 (by omega)]; simp
   ·rw [yg1 (by omega), if_neg (by simp; omega)]
theorem Aw {G : Gh} {w : World} {mem : a9} {b : Nat} {x : d8} {B : Nat} {row' : cI} {vs : List Value} {o : Nat} {xs : List Value} (hM : aT G w mem) (hx : mem[b]? = some (some x)) (hl : G.loc b x.gen = some ⟨some B, x.row.e, x.row.len⟩)
  (O : x.frz = false) (U : ∀ j, j < vs.length → cl w B j = vs[j]?) (ho : o + xs.length ≤ vs.length) (he : row'.e = x.row.e) (N : row'.len = x.row.len)
  (hv : bL G w row'.all (bE vs o xs)) :
  Ev G w (w.setCells B o xs) ∧ aT G (w.setCells B o xs) (mem.set b (some { x with row := row' })) := by
 have hb := hM.box b x hx
 obtain ⟨oo, V, hm⟩ := hb.loc
 rw [hl] at V
 obtain rfl : some B = oo := by simpa using V
 obtain ⟨h1, h2, h3, h4, h5⟩ := hm
 have h : ∀ j, j < xs.length → (cl w B (o + j)).isSome = true := by
  intro j hj; rw [U _ (by omega), yd (by omega)]; rfl
 have J := Ev.setCells (G := G) (vs := xs) h1 h (h5 O)
 have Z : b < mem.length := (yh.1 hx).1
 refine ⟨J, ?_⟩
 have z : G.put b x.gen ⟨some B, x.row.e, x.row.len⟩ = G := by
  unfold Gh.put
  congr 1
  funext W g'
  split
  ·rename_i Y; obtain ⟨rfl, rfl⟩ := Y; exact hl.symm
  ·rfl
 have := hM.upd (x' := { x with row := row' }) (L := ⟨some B, x.row.e, x.row.len⟩) J Z (.inr hl) ?_ ?_ ?_ ?_
 ·rw [z] at this; exact this
 ·intro W y Lb B' K hy H hk
  refine dU (w := w) (fun hB => ?_) xs o w
  subst hB
  exact K (hM.apart W b y x Lb _ B' hy hx H hl hk rfl)
 ·intro B' M W y Lb K hy H hk
  simp only [Option.some.injEq] at M; subst M
  exact K (hM.apart W b y x Lb _ B hy hx H hl hk rfl)
 ·exact fun g hg => hM.gens b x g hx hg
 ·rw [z]
  refine ⟨by show 1 ≤ row'.e; rw [he]; exact hb.e, some B, by show G.loc b x.gen = some ⟨some B, row'.e, row'.len⟩; rw [he, N]; exact hl, h1, by rw [jX]; exact h2, h3.setCells, ?_, h5⟩
  ·refine pX.ofList (hv.mono (eA.refl G) J) (fun j u A => ?_)
   rw [kA ho] at A
   by_cases Y : o ≤ j ∧ j < o + xs.length
   ·rw [if_pos Y] at A
    obtain ⟨k, rfl⟩ : ∃ k, j = o + k := ⟨j - o, by omega⟩
    rw [mQ h (by omega)]
    rw [yk3, yd (by omega)] at A; exact A
   ·rw [if_neg Y] at A
    rw [kZ (by omega), U _ (yh.1 A).1]; exact A
end
end Go.Ab
end
section
namespace Go.Ab
variable [cD]
theorem oH {b : Nat} : ∀ {l : List Nat}, gT b l = true ↔ b ∈ l
 | [] => by simp [gT]
 | m :: r => by simp only [gT, yc2, cY, yq1, oH (l := r)]; constructor <;> rintro (h | h) <;> first | exact .inl h.symm | exact .inr h
theorem Dk : ∀ {xs vs : List PV} {o j : Nat}, o + xs.length ≤ vs.length → (nY vs o xs)[j]? = if o ≤ j ∧ j < o + xs.length then xs[j - o]? else vs[j]?
 | [], vs, o, j, h => by simp [nY]; omega
 | x :: xs, vs, o, j, h => by
  simp only [nY]
  simp only [ye1] at h
  rw [Dk (xs := xs) (by simp; omega)]
  by_cases h1 : o + 1 ≤ j ∧ j < o + 1 + xs.length
  ·rw [if_pos h1, if_pos (by simp; omega), show j - o = (j - (o + 1)) + 1 by omega, yx1]
  ·rw [if_neg h1]
   by_cases h2 : j = o
   ·subst h2
    rw [if_pos (by simp), yf1 (by omega)]; simp
   ·rw [yg1 (by omega), if_neg (by simp; omega)]
section
variable {P : Program}
theorem Gl {G : Gh} {w : World} {mem : a9} {t : TypeId} {a x : AV} {out : eM} {ca Y : Value} (hM : aT G w mem) (h : jO P t mem a x = some out) (ha : VR G w a ca) (hx : VR G w x Y) :
  out.v = .lit undef ∧ ∃ G' w', (Instr.storeAt t ca Y).run P w = .ok () w' ∧ eA G G' ∧ Ev G w w' ∧ aT G' w' (out.apply mem) := by
 unfold jO at h
 split at h
 ·rename_i b g i c
  rw [bind_some] at h; obtain ⟨bx, hbx, h⟩ := h
  rw [bind_some] at h; obtain ⟨n, hn, h⟩ := h
  rw [aB] at h; obtain ⟨Z, h⟩ := h
  simp only [yc, yy] at Z
  obtain ⟨N, J⟩ := Z
  have J := cY.1 J
  obtain ⟨hm, hgen⟩ := box?_some hbx
  obtain ⟨B, rfl, hl, hmine, hB, hfz, hrow, hpr⟩ := hM.at_ptr hbx ha
  have he := (hM.box b bx hm).e
  obtain ⟨vs, hvs, hcl⟩ := hrow.toList he
  have hxc := hx.cells
  have hsz : Y.cells.size = n := by rw [← J]; simpa using hxc.1.symm
  have hrun : ∀ o, o + n ≤ vs.length → (∀ u ∈ Y.cells.toList, u.oneCell' = true) → (Instr.storeAt t (.pointer (some ⟨B, o, none⟩)) Y).run P w = .ok () (w.setCells B o Y.cells.toList) := by
   intro o ho h1
   have hsome : ∀ j, j < n → (cl w B (o + j)).isSome = true := fun j M => by rw [hcl _ (by omega), yd (by omega)]; rfl
   have := GR (P := P) hn hsz hsome (fun j M => hfz.cell (hsome j M)) h1
   simp [Instr.storeAt, Instr.sureAddr, this]
  obtain ⟨gen, frz, row⟩ := bx
  simp only at N hgen hl hvs hcl he; subst hgen
  split at h
  ·rename_i e cs V
   simp only at V; subst V
   rw [aB] at h; obtain ⟨hc, h⟩ := h
   simp only [yc] at hc
   have hle := eT.1 hc.1
   obtain rfl := yb h
   refine ⟨rfl, ?_⟩
   obtain ⟨U, hv1, hcnt, hvv⟩ := hvs
   have hcl2 : vs.length = cs.length := by rw [U]; show bD e cs.length * e = cs.length; rw [yq2]; exact hcnt.symm
   have hL : jH G w cs vs := ⟨hcl2.symm, fun j y K => by obtain ⟨u, W, hp⟩ := hvv j y K; rw [yl, W]; exact hp⟩
   have A := hxc.ones hc.2
   have hnew := hL.setCells (i := i * e + c) hxc
   have H : bL G w (.avs e (setCells cs (i * e + c) x.cells)) (bE vs (i * e + c) Y.cells.toList) := by
    have hsl : (setCells cs (i * e + c) x.cells).length = cs.length := kQ (as := cs)
    refine ⟨?_, fun u W => ?_, by rw [hsl]; exact hcnt, fun j y K => ?_⟩
    ·show _ = bD e (setCells cs (i * e + c) x.cells).length * e
     rw [gK, hsl, hcl2, yq2]; exact hcnt
    ·obtain ⟨j, M, rfl⟩ := yp1 W
     have Z := kA (xs := Y.cells.toList) (vs := vs) (o := i * e + c) (j := j) (by simp [hsz]; omega)
     rw [yd M] at Z
     split at Z
     ·exact A _ (yj Z.symm)
     ·exact hv1 _ (yj Z.symm)
    ·have M : j < (bE vs (i * e + c) Y.cells.toList).length := by rw [← hnew.1]; exact (yh.1 K).1
     have := hnew.2 j y K
     rw [yl, yd M] at this
     exact ⟨_, yd M, this⟩
   have hsl : (setCells cs (i * e + c) x.cells).length = cs.length := kQ (as := cs)
   obtain ⟨hev, hM'⟩ := Aw (row' := .cells e (setCells cs (i * e + c) x.cells)) (o := i * e + c) (xs := Y.cells.toList) hM hm hl N hcl (by simp [hsz]; omega) rfl (by simp only [cI.len]; rw [hsl]) H
   exact ⟨G, _, hrun _ (by show i * e + c + n ≤ _; omega) A, eA.refl G, hev, by rw [jM]; exact hM'⟩
  ·rename_i k xs V
   simp only at V; subst V
   split at h
   ·rename_i k' z _
    rw [aB] at h; obtain ⟨hc, h⟩ := h
    simp only [yc] at hc
    obtain ⟨⟨hk, hc0⟩, hi⟩ := hc
    rw [j0] at hk; subst hk
    obtain rfl := cY.1 hc0
    have hi := eT.1 hi
    obtain rfl := yb h
    refine ⟨rfl, ?_⟩
    obtain rfl := hx.lit_inv
    obtain ⟨U, hv1, hvv⟩ := hvs
    simp only [cI.all, aO.len, aO.e, yi3] at U
    have hcells : (Value.int k z).cells.toList = [Value.int k z] := rfl
    have H : bL G w (.ints k (xs.set i z)) (bE vs i [Value.int k z]) := by
     refine ⟨by simp [aO.len, aO.e, gK, U], fun u W => ?_, fun j y K => ?_⟩
     ·simp only [bE] at W
      rcases ym2 W with h | h
      ·exact hv1 u h
      ·rw [h]; rfl
     ·simp only [bE]
      by_cases e : j = i
      ·subst e
       rw [yf1 (by omega)] at K ⊢
       simp at K; rw [K]
      ·rw [yg1 (fun x => e x.symm)] at K ⊢
       exact hvv j y K
    have hn1 : n = 1 := by rw [← J]; rfl
    subst hn1
    obtain ⟨hev, hM'⟩ := Aw (row' := .ints k (xs.set i z)) (o := i) (xs := [Value.int k z]) hM hm hl N hcl (by simp; omega) rfl (by simp [cI.len]) H
    refine ⟨G, _, ?_, eA.refl G, hev, by rw [jM]; exact hM'⟩
    have := hrun i (by omega) (by simp [hcells, Value.oneCell'])
    rw [hcells] at this
    have e0 : i * (cI.ints k xs).e + 0 = i := by simp [cI.e]
    rw [e0]; exact this
   ·simp at h
  ·rename_i β e xs V
   simp only at V; subst V
   rw [bind_some] at h; obtain ⟨p, hp, h⟩ := h
   rw [bind_some] at h; obtain ⟨q, hq, h⟩ := h
   rw [aB] at h; obtain ⟨hc, h⟩ := h
   simp only [yc, yy] at hc
   obtain ⟨⟨hce, hpl⟩, hnb⟩ := hc
   have hce := eT.1 hce
   have hpl := cY.1 hpl
   have hnb : b ∉ q.2.2 := fun hh => by rw [oH.2 hh] at hnb; cases hnb
   obtain rfl := yb h
   refine ⟨rfl, ?_⟩
   obtain ⟨ql, qq⟩ := pO hM hq hx
   have hM1 := hM.freeze q.2.2
   have hg1 := eA.frz G (bH G mem q.2.2) hM.inBoxes
   have hm1 : (aQ mem (bW mem q.2.2))[b]? = some (some ⟨gen, frz, .pvs β e xs⟩) := by
    rw [(eC mem q.2.2 mem b rfl).2.1 (.inl hnb)]; exact hm
   have hvs1 : bL (G.frz (bH G mem q.2.2)) w (.pvs β e xs) vs := hvs.mono hg1 (Ev.refl G w)
   obtain ⟨U, hv1, hxl, hvv⟩ := hvs1
   simp only [aO.len, aO.e] at U
   simp only [cI.e] at he
   have hi := (yh.1 hp).1
   have hpos : i * e + c + n ≤ vs.length := by
    rw [U]
    calc i * e + c + n ≤ i * e + e := by omega
     _ = (i + 1) * e := by rw [yt1]; simp
     _ ≤ xs.length * e := yb2 _ hi
   have A : ∀ u ∈ Y.cells.toList, u.oneCell' = true := by
    intro u W
    obtain ⟨j, M, rfl⟩ := yp1 W
    have hj2 : j < q.2.1.cells.length := by rw [ql, hxc.1]; exact M
    obtain ⟨u', hu', _, h1⟩ := qq j _ (yd hj2)
    rw [yd M] at hu'
    obtain rfl := yb hu'; exact h1
   generalize hp' : (bif n.beq e && c.beq 0 then q.2.1 else PV.agg (nY p.cells c q.2.1.cells)) = p'
   have hp'c : ∀ (j : Nat), p'.cells[j]? = if c ≤ j ∧ j < c + n then q.2.1.cells[j - c]? else p.cells[j]? := by
    intro j
    have hqn : q.2.1.cells.length = n := by rw [ql, J]
    cases O : (n.beq e && c.beq 0) with
    | true =>
     rw [O] at hp'; simp only [yg] at hp'; subst hp'
     simp only [yc] at O
     obtain rfl := cY.1 O.1
     obtain rfl := cY.1 O.2
     by_cases M : j < n
     ·rw [if_pos (by omega)]; simp
     ·rw [if_neg (by omega), ya1 (by omega), ya1 (by omega)]
    | false =>
     rw [O] at hp'; simp only [ye] at hp'; subst hp'
     show (nY p.cells c q.2.1.cells)[j]? = _
     rw [Dk (by omega), hqn]
   have hp'l : p'.cells.length = e := by
    have h1 : p'.cells[e]? = none := by rw [hp'c, if_neg (by omega), ya1 (by omega)]
    have h2 : ∃ y, p'.cells[e - 1]? = some y := by
     rw [hp'c]
     split
     ·rename_i hh; exact ⟨_, yd (by rw [ql, J]; omega)⟩
     ·exact ⟨_, yd (by omega)⟩
    obtain ⟨y, K⟩ := h2
    have := (yh.1 K).1
    have := List.getElem?_eq_none_iff.1 h1
    omega
   have H : bL (G.frz (bH G mem q.2.2)) w (.pvs (β || q.1) e (xs.set i p')) (bE vs (i * e + c) Y.cells.toList) := by
    have Z := fun j => kA (xs := Y.cells.toList) (vs := vs) (o := i * e + c) (j := j) (by simp [hsz]; omega)
    have hlab1 := hM1.lab
    refine ⟨by simp [aO.len, aO.e, gK, U], fun u W => ?_, fun x hx => ?_, fun i' x c' y hx K => ?_⟩
    ·obtain ⟨j, M, rfl⟩ := yp1 W
     have Z := Z j
     rw [yd M] at Z
     split at Z
     ·exact A _ (yj Z.symm)
     ·exact hv1 _ (yj Z.symm)
    ·rcases ym2 hx with h | h
     ·exact hxl x h
     ·rw [h]; exact hp'l
    ·have hc'e : c' < e := by
      have h0 := (yh.1 K).1
      have : x.cells.length = e := by
       rcases ym2 (yj hx) with h | h
       ·exact hxl x h
       ·rw [h]; exact hp'l
      omega
     rw [Z]
     simp only [yv1, hsz]
     by_cases hii : i' = i
     ·subst hii
      rw [yf1 hi] at hx
      obtain rfl := yb hx
      rw [hp'c] at K
      by_cases O : c ≤ c' ∧ c' < c + n
      ·rw [if_pos O] at K
       rw [if_pos (by omega), show i' * e + c' - (i' * e + c) = c' - c by omega]
       obtain ⟨u, W, hpu, _⟩ := qq _ y K
       exact ⟨u, W, hpu.weak' hlab1⟩
      ·rw [if_neg O] at K
       rw [if_neg (by omega)]
       obtain ⟨u, W, hpu⟩ := hvv i' p c' y hp K
       exact ⟨u, W, hpu.weak hlab1⟩
     ·rw [yg1 (fun x => hii x.symm)] at hx
      obtain ⟨u, W, hpu⟩ := hvv i' x c' y hx K
      refine ⟨u, ?_, hpu.weak hlab1⟩
      rw [if_neg ?_]
      ·exact W
      ·rintro ⟨h1, h2⟩
       rcases Nat.lt_or_gt_of_ne hii with hlt | hlt
       ·have : i' * e + e ≤ i * e := by
         calc i' * e + e = (i' + 1) * e := by rw [yt1]; simp
          _ ≤ i * e := yb2 _ hlt
        omega
       ·have : i * e + e ≤ i' * e := by
         calc i * e + e = (i + 1) * e := by rw [yt1]; simp
          _ ≤ i' * e := yb2 _ hlt
        omega
   obtain ⟨hev, hM'⟩ := Aw (row' := .pvs (β || q.1) e (xs.set i p')) (o := i * e + c) (xs := Y.cells.toList) hM1 hm1 hl N hcl (by simp [hsz]; omega) rfl (by simp [cI.len]) H
   refine ⟨_, _, hrun _ (by show i * e + c + n ≤ _; omega) A, hg1, ?_, by rw [Ln]; exact hM'⟩
   have hjj : ∀ j, j < Y.cells.toList.length → i * e + c + j < vs.length := fun j M => by simp [hsz] at M; omega
   exact Ev.setCells hmine (fun j M => by show (cl w B (i * e + c + j)).isSome = true; rw [hcl _ (hjj j M), yd (hjj j M)]; rfl) (hpr N)
 ·simp at h
end
end Go.Ab
end
section
namespace Go.Ab
variable [cD]
section
variable {P : Program}
structure Cs (P : Program) (t et : TypeId) (s : Nat) (i : TypeInfo) (z : Value) : Prop where
 under : P.underlying t = some (.slice et)
 info : P.info? et = some i
 size : i.size = s
 zero : i.zero = some z
 zsize : z.cells.size = s
 bytes : i.bytes ≤ 4096
 one : 1 ≤ s
theorem yM {n bytes : Nat} (hn : n ≤ cT) (h : bytes ≤ 4096) : n * bytes ≤ 140737488355328 := by
 have : n * bytes ≤ n * 4096 := Nat.mul_le_mul_left n h
 unfold cT at hn
 omega
theorem HH {G : Gh} {w K : World} {mem : a9} {b g' : Nat} {row' : cI} {B' : Nat} {vs : List Value} (hM : aT G w mem) (hb : b < mem.length) (O : Ev G w K) (H : ∀ g, g' ≤ g → G.loc b g = none)
  (he : 1 ≤ row'.e) (J : G.mine B') (hB : B' < K.heap.size) (Y : jI K B') (V : ∀ β o, ¬ G.prot β B' o)
  (h : ∀ (z : Nat) (y : d8) (M : yW) (B : Nat), z ≠ b → mem[z]? = some (some y) → G.loc z y.gen = some M → M.blk = some B → K.heap[B]? = w.heap[B]? ∧ B ≠ B')
  (hv : bL G w row'.all vs) (Z : ∀ j u, vs[j]? = some u → cl K B' j = some u) :
  ∃ G', eA G G' ∧ G'.loc b g' = some ⟨some B', row'.e, row'.len⟩ ∧ aT G' K (mem.set b (some { gen := g', frz := false, row := row' })) := by
 have U : eA G (G.put b g' ⟨some B', row'.e, row'.len⟩) := eA.put (.inl (H g' (yz _)))
 refine ⟨_, U, Gh.put_self .., hM.upd (x' := { gen := g', frz := false, row := row' }) O hb (.inl (H g' (yz _))) (fun z y M B A hy hl W => (h z y M B A hy hl W).1) ?_ (fun g U => H g (Nat.le_of_lt U)) ?_⟩
 ·intro B N z y M A hy hl W
  simp only [Option.some.injEq] at N; subst N
  exact (h z y M B' A hy hl W).2 rfl
 ·exact ⟨he, some B', Gh.put_self .., J, hB, Y, pX.ofList (hv.mono U O) Z, fun _ => V⟩
theorem Fy {G : Gh} {w : World} {mem : a9} {b g' : Nat} {row' : cI} (hM : aT G w mem) (K : b < mem.length) (h : ∀ g, g' ≤ g → G.loc b g = none)
  (M : 1 ≤ row'.e) (N : row'.len = 0) (J : row'.isCells = false) :
  ∃ A, eA G A ∧ A.loc b g' = some ⟨none, row'.e, row'.len⟩ ∧ aT A w (mem.set b (some { gen := g', frz := false, row := row' })) := by
 have H : eA G (G.put b g' ⟨none, row'.e, row'.len⟩) := eA.put (.inl (h g' (yz _)))
 refine ⟨_, H, Gh.put_self .., hM.upd (x' := { gen := g', frz := false, row := row' }) (Ev.refl G w) K (.inl (h g' (yz _))) (fun b' y Lb B O hy hl hk => rfl) ?_ (fun g H => h g (Nat.le_of_lt H)) ?_⟩
 ·intro B z; cases z
 ·exact ⟨M, none, Gh.put_self .., N, J⟩
theorem oS (w : World) (c : Array Value) (t : TypeId) : (∀ B, B < w.heap.size → (w.drew.alloc (.cells c t)).heap[B]? = w.heap[B]?) ∧ (w.drew.alloc (.cells c t)).heap.size = w.heap.size + 1 ∧
  (∀ j, cl (w.drew.alloc (.cells c t)) w.heap.size j = c[j]?) ∧ jI (w.drew.alloc (.cells c t)) w.heap.size := by
 refine ⟨fun B hB => ?_, by simp, fun j => ?_, ?_⟩
 ·have := fL (w := w.drew) (o := .cells c t) (B := B) (by simpa using hB)
  rw [this]; rfl
 ·have := lI (w := w.drew) (c := c) (t := t) (fr := (0, 0)) (j := j)
  simpa using this
 ·exact jI.alloc (w := w.drew)
theorem Ev.drew_alloc (G : Gh) (w : World) (o : Obj) (h : ∀ β B x, G.prot β B x → B < w.heap.size) (z : ∃ c t, o = .cells c t := by exact ⟨_, _, rfl⟩) : Ev G w (w.drew.alloc o) :=
 (Ev.drew G w).trans (eA.refl G) (Ev.alloc G w.drew o h z)
theorem I5 {G : Gh} {w : World} {mem : a9} {b g' : Nat} {row' : cI} {t J ty tx : TypeId} {s : Nat} {i : TypeInfo} {z : Value} {base : Option Addr} {len cap n : Nat} {olds h : List Value} {y : Value}
    (hM : aT G w mem) (hb : b < mem.length) (hno : ∀ g, g' ≤ g → G.loc b g = none) (hE : Cs P t J s i z)
    (W : (Builtin.firstCells i.size len (.slice base len cap)).run P w.drew = .ok olds.toArray w.drew) (hol : olds.length = len * s) (hs : Src P s tx y n h w)
    (H : cap < len + n) (A : len + n ≤ cT) (he : row'.e = s) (K : row'.len = len + n) (hv : bL G w row'.all (olds ++ h)) :
    ∃ O w1 cv, (Builtin.append_ #[t, tx] ty #[.slice base len cap, y]).run P w = .ok cv w1 ∧ VR O w1 (.msw b g') cv ∧ eA G O ∧ Ev G w w1 ∧ aT O w1 (mem.set b (some { gen := g', frz := false, row := row' })) := by
  have Z := growslice_fits (bytes := i.bytes) H (yM A hE.bytes)
  have N := run_append_grow_src (P := P) w t tx ty J i z hE.under hE.info hE.zero base len cap olds W y n h (by rw [hE.size]; exact hs) H (by unfold cT at A; omega) Z
  generalize hc : (olds ++ h).toArray ++ Builtin.zeroCells z.cells (grownCap w (len + n) cap J - (len + n)) = c at N
  obtain ⟨f1, f2, f3, f4⟩ := oS w c J
  have V := Ev.drew_alloc G w (.cells c J) hM.away
  have M : len + n ≤ grownCap w (len + n) cap J := grownCap_ge w _ _ _
  have hcl : ∀ j u, (olds ++ h)[j]? = some u → cl (w.drew.alloc (.cells c J)) w.heap.size j = some u := by
    intro j u hu
    rw [f3, ← hc, ya3 (by simpa using (yh.1 hu).1)]
    simpa using hu
  obtain ⟨O, hg, hl, hM'⟩ := HH (row' := row') (B' := w.heap.size) (vs := olds ++ h) hM hb V hno (by rw [he]; exact hE.one) (hM.own _ (yz _)) (by rw [f2]; omega) f4
    (fun β o hp => absurd (hM.away β _ o hp) (Nat.lt_irrefl _)) (fun b' y' Lb B hne hy hl U => by
      obtain ⟨o, Y, hm⟩ := (hM.box b' y' hy).loc
      rw [hl] at Y
      obtain rfl := yb Y
      simp only at U; subst U
      exact ⟨f1 B hm.2.1, Nat.ne_of_lt hm.2.1⟩) hv hcl
  refine ⟨O, _, _, N, ?_, hg, V, hM'⟩
  generalize grownCap w (len + n) cap J = C at hc M ⊢
  have U : VR O (w.drew.alloc (.cells c J)) (.msw b g') (.slice (some ⟨w.heap.size, 0, none⟩) row'.len C) := by
   refine .msw b g' _ _ w.heap.size hl rfl (by simp only; rw [K]; exact M) (fun j hj => ?_)
   simp only [he] at hj
   rw [f3, ← hc]
   have hn := hs.newsLen
   rw [yn1 (by
    simp only [Array.size_append, List.size_toArray, yi, size_zeroCells, hol, hn, hE.zsize]
    rw [← yt1, ← yt1]
    exact yn2 hj (yb2 _ (by omega)))]
   rfl
  rw [K] at U; exact U
theorem CL {G : Gh} {w : World} {mem : a9} {b : Nat} {x : d8} {xv yv zv : aO} {B cap : Nat} {A h : List Value} {t et ty tx : TypeId} {s : Nat} {i : TypeInfo} {z : Value} {y : Value}
  (hM : aT G w mem) (hx : mem[b]? = some (some x)) (hl : G.loc b x.gen = some ⟨some B, x.row.e, x.row.len⟩) (V : x.frz = false) (hE : Cs P t et s i z) (hse : s = x.row.e)
  (K : xv.e = s) (hx0 : bL G w xv A) (Z : ∀ j u, A[j]? = some u → cl w B j = some u) (hcap : xv.len ≤ cap) (W : Cp w B (cap * s))
  (hs : Src P s tx y yv.len h w) (hnews : bL G w yv h) (happ : xv.app P et yv = some zv) (hmost : zv.len ≤ cT) :
  ∃ G' w1 cv, (Builtin.append_ #[t, tx] ty #[.slice (some ⟨B, 0, none⟩) xv.len cap, y]).run P w = .ok cv w1 ∧ VR G' w1 (.msw b (x.gen + 1)) cv ∧ eA G G' ∧ Ev G w w1 ∧
   aT G' w1 (mem.set b (some { gen := x.gen + 1, frz := false, row := zv.row })) := by
 have hbl : b < mem.length := (yh.1 hx).1
 have hno : ∀ g, x.gen + 1 ≤ g → G.loc b g = none := fun g hg => hM.gens b x g hx hg
 obtain ⟨hz, hze, hze2, M⟩ := FQ hM.lab happ hx0 hnews
 have O : A.length = xv.len * s := by rw [hx0.1, K]
 have hnl := hs.newsLen
 by_cases J : xv.len + yv.len ≤ cap
 ·obtain ⟨oo, hl', hm⟩ := (hM.box b x hx).loc
  rw [hl] at hl'
  obtain rfl : some B = oo := by simpa using hl'
  obtain ⟨h1, h2, h3, h4, h5⟩ := hm
  have H : ∀ j, j < h.length → (cl w B (xv.len * s + j)).isSome = true := by
   intro j Y
   refine W _ ?_
   rw [hnl] at Y
   calc xv.len * s + j < xv.len * s + yv.len * s := by omega
    _ = (xv.len + yv.len) * s := by rw [yt1]
    _ ≤ cap * s := yb2 _ J
  have hrun := run_append_room_src (P := P) w t tx ty et i hE.under hE.info B 0 xv.len cap y yv.len h (by rw [hE.size]; exact hs) J
   (fun j Y => by rw [hE.size, yj1]; exact H j Y) (fun j Y => by rw [hE.size, yj1]; exact h3.cell (H j Y))
  rw [hE.size, yj1] at hrun
  have hev := Ev.setCells (G := G) (vs := h) h1 H (h5 V)
  have hcl : ∀ j u, (A ++ h)[j]? = some u → cl (w.setCells B (xv.len * s) h) B j = some u := by
   intro j u N
   by_cases Y : j < A.length
   ·rw [yq Y] at N
    rw [kZ (by rw [← O]; exact .inl Y)]; exact Z j u N
   ·rw [yt (by omega)] at N
    obtain ⟨k, rfl⟩ : ∃ k, j = xv.len * s + k := ⟨j - A.length, by omega⟩
    rw [O, yk3] at N
    have hk := (yh.1 N).1
    rw [mQ H hk]
    rw [yd hk] at N; exact N
  obtain ⟨G', hg, hl2, hM'⟩ := HH (row' := zv.row) (B' := B) (vs := A ++ h) hM hbl hev hno (by rw [iG, hze, K]; exact hE.one) h1 (by rw [jX]; exact h2)
   h3.setCells
   (h5 V) (fun b' y' Lb B2 hne hy hl3 hk => by
    have U : B2 ≠ B := fun hB => by subst hB; exact hne (hM.apart b' b y' x Lb _ B2 hy hx hl3 hl hk rfl)
    exact ⟨dU (w := w) U h _ w, U⟩)
   (by rw [jF]; exact hz) hcl
  refine ⟨G', _, _, hrun, ?_, hg, hev, hM'⟩
  have hk : VR G' (w.setCells B (xv.len * s) h) (.msw b (x.gen + 1)) (.slice (some ⟨B, 0, none⟩) zv.row.len cap) := by
   refine .msw b (x.gen + 1) cap _ B hl2 rfl (by simp only; rw [fB, M]; exact J) ?_
   simp only [iG, hze, K]
   exact W.mono hev
  rw [fB, M] at hk; exact hk
 ·refine I5 (row' := zv.row) (olds := A) (s := s) hM hbl hno hE ?_ O hs (by omega) (by rw [← M]; exact hmost) (by rw [iG, hze, K]) (by rw [fB, M]) (by rw [jF]; exact hz)
  rw [hE.size]
  exact run_firstCells_some w.drew s xv.len ⟨B, 0, none⟩ xv.len cap A O (fun j u N => by rw [dK, yj1]; exact Z j u N)
theorem Bf {G : Gh} {w : World} {mem : a9} {b g' : Nat} {row' : cI} {n : Nat} {h : List Value} {t V ty O : TypeId} {s : Nat} {i : TypeInfo} {z : Value} {y : Value}
  (hM : aT G w mem) (W : b < mem.length) (J : ∀ g, g' ≤ g → G.loc b g = none) (hE : Cs P t V s i z) (U : Src P s O y n h w) (hn : n ≤ cT) (Y : row'.e = s) (A : row'.len = n) (Z : bL G w row'.all h)
  (hc : n = 0 → row'.isCells = false) :
  ∃ K M cv, (Builtin.append_ #[t, O] ty #[.slice none 0 0, y]).run P w = .ok cv M ∧ VR K M (.msw b g') cv ∧ eA G K ∧ Ev G w M ∧
   aT K M (mem.set b (some { gen := g', frz := false, row := row' })) := by
 by_cases h0 : n = 0
 ·subst h0
  have H : h = [] := yp (by rw [U.newsLen]; simp)
  subst H
  obtain ⟨K, hg, hl, N⟩ := Fy (row' := row') hM W J (by rw [Y]; exact hE.one) A (hc rfl)
  exact ⟨K, w, _, run_append_nothing (P := P) w t O ty V i hE.under hE.info none 0 0 (yz _) y (by rw [hE.size]; exact U), .mswNil b g' _ hl rfl A, hg, Ev.refl G w, N⟩
 ·exact I5 (row' := row') (olds := []) (base := none) (len := 0) (cap := 0) hM W J hE (run_firstCells_none w.drew i.size 0 0 0) (by simp) U (by omega) (by omega) Y (by omega) (by simpa using Z)
end
end Go.Ab
end
section
namespace Go.Ab
variable [cD]
theorem aT.protect {G : Gh} {w : World} {mem : a9} (hM : aT G w mem) (S : Nat → Nat → Prop) (hS : ∀ B o, S B o → B < w.heap.size ∧ G.mine B ∧ ∀ (b : Nat) (x : d8) (e n : Nat), mem[b]? = some (some x) → x.frz = false → G.loc b x.gen ≠ some ⟨some B, e, n⟩) :
  aT (G.frz S) w mem := by
 refine ⟨fun b x h => ?_, hM.unset, hM.gens, hM.apart, hM.own, fun B o h => h.imp (hM.lab B o) id, fun β B o h => h.elim (hM.away β B o) (fun h => (hS B o h).1), hM.glob.mono (fun _ _ h => .inl h) fun _ _ _ => rfl⟩
 have hx := hM.box b x h
 obtain ⟨o, hl, hm⟩ := hx.loc
 refine ⟨hx.e, o, hl, ?_⟩
 cases o with
 | none => exact hm
 | some B =>
  obtain ⟨h1, h2, H, J, A⟩ := hm
  refine ⟨h1, h2, H, J.mono (eA.frz G S fun B o h => (hS B o h).2.1) (Ev.refl G w) (fun _ _ => rfl), fun hf β o z => ?_⟩
  rcases z with z | z
  ·exact A hf β o z
  ·exact (hS B o z).2.2 b x _ _ h hf hl
theorem aT.new_tree {G : Gh} {w H : World} {mem : a9} (hM : aT G w mem) (z : Ev G w H) (J : ∀ B, B < w.heap.size → H.heap[B]? = w.heap[B]?) (K : H.heap.size = w.heap.size + 1) :
  aT (G.frz fun B _ => B = w.heap.size) H mem := by
 refine (hM.ev z (.inr z.size) J).protect _ fun B o h => ?_
 subst h
 refine ⟨by omega, hM.own _ (yz _), fun b x e n hx _ hl => ?_⟩
 obtain ⟨o, A, hm⟩ := (hM.box b x hx).loc
 rw [hl] at A
 have := congrArg yW.blk (yb A)
 simp only at this; subst this
 exact Nat.lt_irrefl _ hm.2.1
theorem BT {G : Gh} {w : World} {v : aO} {a : AV} {vs : List Value} {B cap : Nat} (O : bL G w v vs) (K : v.imm? = some a) (V : 1 ≤ v.e) (J : ∀ j u, vs[j]? = some u → cl w B j = some u)
  (N : ∀ β o, G.prot β B o) (z : v.len ≤ cap) : VR G w a (.slice (some ⟨B, 0, none⟩) v.len cap) := by
 cases v with
 | ints k xs =>
  obtain rfl := yb K
  obtain ⟨_, _, h⟩ := O
  exact .imm _ _ _ (.ints k xs B 0 cap z fun i x hx => by rw [yj1]; exact ⟨J _ _ (h i x hx), N _ _⟩) rfl
 | pvs β e xs =>
  obtain rfl := yb K
  obtain ⟨_, h1, h2, h⟩ := O
  have A : ∀ (i : Nat) (x : PV) (c : Nat) (y : PV), xs[i]? = some x → x.cells[c]? = some y → vs[i * e + c]? = some (vs.getD (i * e + c) undef) ∧ PR w (G.prot β) y (vs.getD (i * e + c) undef) := by
   intro i x c y hx H
   obtain ⟨u, U, M⟩ := h i x c y hx H
   rw [yl, U]; exact ⟨rfl, M⟩
  exact .imm _ _ _ (.sl e xs B 0 cap (fun i c => vs.getD (i * e + c) undef) V z h2 (fun i x c y hx H => by rw [yj1]; exact ⟨J _ _ (A i x c y hx H).1, N _ _⟩)
   (fun i x c y hx H => h1 _ (yj (A i x c y hx H).1)) (fun i x c y hx H => (A i x c y hx H).2)) rfl
 | avs e cs => simp [aO.imm?] at K
theorem IV {G : Gh} {w : World} {v : aO} {a : AV} (h : v.imm? = some a) (z : v.len = 0) : VR G w a (.slice none 0 0) := by
 cases v with
 | ints k xs =>
  obtain rfl := yb h
  obtain rfl := yp z
  exact .imm _ _ _ (.intsNil k _) rfl
 | pvs β e xs =>
  obtain rfl := yb h
  obtain rfl := yp z
  exact .imm _ _ _ (.slNil e _) rfl
 | avs e cs => simp [aO.imm?] at h
section
variable {P : Program}
theorem Ly {t h : TypeId} {s bytes : Nat} {z : AV} (h1 : elemOf? P t = some h) (h2 : k7 P h = some s) (H : lW P h = some bytes) (W : zero? P h = some z) (h5 : bytes ≤ 4096) (N : 1 ≤ s) (V : z.cells.length = s) :
  ∃ i A, Cs P t h s i A := by
 obtain ⟨i, A, K, U, J⟩ := oP W
 have O : P.underlying t = some (.slice h) := by
  unfold elemOf? at h1
  split at h1
  ·obtain rfl := yb h1; assumption
  ·simp at h1
 have M := (oQ (G := ⟨fun _ _ => none, fun _ _ _ => False, fun _ => False⟩) (w := default) J).cells
 refine ⟨i, A, O, K, ?_, U, ?_, ?_, N⟩
 ·unfold k7 at h2; rw [K] at h2; simpa using h2
 ·rw [← V, M.1]; simp
 ·unfold lW at H; rw [K] at H; simp at H; omega
theorem Fj {G : Gh} {w : World} {vars : Bool} {M : TypeId} {v : aO} {row : cI} {vs : List Value} (h : oU P vars M v = some row) (z : bL G w v vs) (K : 1 ≤ v.e) :
  row.e = v.e ∧ row.len = v.len ∧ bL G w row.all vs ∧ (v.len = 0 → row.isCells = false) := by
 unfold oU at h
 cases vars with
 | true =>
  simp only [yg] at h
  rw [aB] at h; obtain ⟨hl, h⟩ := h
  have hl := eT.1 hl
  rw [bind_some] at h; obtain ⟨cs, A, h⟩ := h
  rw [aB] at h; obtain ⟨h1, h⟩ := h
  obtain rfl := yb h
  have hL := BI A z
  have J : cs.length = v.len * v.e := by rw [hL.1, z.1]
  refine ⟨rfl, ?_, bL.ofLRs hL h1 ?_, fun h0 => by omega⟩
  ·show bD v.e cs.length = v.len
   rw [J, f6 (n := 0) K]
  ·rw [J, f6 (n := 0) K]
 | false =>
  simp only [ye] at h
  split at h
  ·simp at h
  ·rename_i H
   obtain rfl := yb h
   refine ⟨iG _, fB _, by rw [jF]; exact z, fun _ => ?_⟩
   cases v with
   | avs e cs => exact absurd rfl (H e cs)
   | ints k xs => rfl
   | pvs β e xs => rfl
theorem HV {A : TypeId} {x y z : aO} (h : x.app P A y = some z) (hx : x.row.isCells = false) : z.row.isCells = false := by
 unfold aO.app at h
 split at h
 ·rw [aB] at h; obtain ⟨_, h⟩ := h; obtain rfl := yb h; rfl
 ·rw [aB] at h; obtain ⟨_, h⟩ := h; obtain rfl := yb h; rfl
 ·simp [aO.row, cI.isCells] at hx
 ·simp at h
theorem IL {r : cI} {o n : Nat} {v : aO} (h : r.sub o n = some v) (z : r.isCells = false) : v.row.isCells = false := by
 cases r with
 | ints k xs => simp only [cI.sub] at h; rw [aB] at h; obtain ⟨_, h⟩ := h; obtain rfl := yb h; rfl
 | pvs β e xs => simp only [cI.sub] at h; rw [aB] at h; obtain ⟨_, h⟩ := h; obtain rfl := yb h; rfl
 | cells e cs => simp [cI.isCells] at z
theorem HT {r : cI} (h : r.isCells = false) : r.all.row.isCells = false := by rw [H0]; exact h
theorem qW {G : Gh} {w : World} {mem : a9} {b : Nat} {x : d8} {xv W V : aO} {A : List Value} {t Z ty tx : TypeId} {s : Nat} {i : TypeInfo} {z : Value} {y : Value}
  (hM : aT G w mem) (hx : mem[b]? = some (some x)) (hE : Cs P t Z s i z) (O : xv.e = s) (hx0 : xv.len = 0) (K : xv.row.isCells = false) (M : bL G w xv [])
  (hs : Src P s tx y W.len A w) (H : bL G w W A) (h : xv.app P Z W = some V) (N : V.len ≤ cT) :
  ∃ Y J cv, (Builtin.append_ #[t, tx] ty #[.slice none 0 0, y]).run P w = .ok cv J ∧ VR Y J (.msw b (x.gen + 1)) cv ∧ eA G Y ∧ Ev G w J ∧
   aT Y J (mem.set b (some { gen := x.gen + 1, frz := false, row := V.row })) := by
 obtain ⟨hz, U, _, hzl⟩ := FQ hM.lab h M H
 exact Bf hM (yh.1 hx).1 (fun g hg => hM.gens b x g hx hg) hE hs (by omega) (by rw [iG, U, O]) (by rw [fB]; omega) (by rw [jF]; simpa using hz) (fun _ => HV h K)
theorem bL.nilOf {G : Gh} {w : World} {v : aO} (h : v.len = 0) (z : v.row.isCells = false) : bL G w v [] := by
 cases v with
 | ints k xs =>
  obtain rfl := yp h
  exact ⟨rfl, by simp, by simp⟩
 | pvs β e xs =>
  obtain rfl := yp h
  exact ⟨by simp [aO.len], by simp, by simp⟩
 | avs e cs => simp [aO.row, cI.isCells] at z
theorem Oe {r : cI} {o n : Nat} {v : aO} (z : 1 ≤ r.e) (h : r.sub o n = some v) : v.len = n := by
 cases r with
 | ints k xs =>
  simp only [cI.sub] at h; rw [aB] at h; obtain ⟨hl, h⟩ := h; obtain rfl := yb h
  have := eT.1 hl
  simp [aO.len]; omega
 | pvs β e xs =>
  simp only [cI.sub] at h; rw [aB] at h; obtain ⟨hl, h⟩ := h; obtain rfl := yb h
  have := eT.1 hl
  simp [aO.len]; omega
 | cells e cs =>
  simp only [cI.sub] at h; rw [aB] at h; obtain ⟨hl, h⟩ := h; obtain rfl := yb h
  have hl := eT.1 hl
  rw [yt1] at hl
  have : ((cs.drop (o * e)).take (n * e)).length = n * e := by simp; omega
  simp only [aO.len]
  rw [this]
  exact f6 (n := 0) z n
theorem E9 {G : Gh} {w : World} {mem : a9} {boxed vars : Bool} {t tx ty : TypeId} {rs : Nat} {x y : AV} {out : eM} {cx cy : Value} (hM : aT G w mem) (hrs : mem[rs]? = some none)
  (h : jV P boxed vars t tx mem rs x y = some out) (hx : VR G w x cx) (hy : VR G w y cy) :
  ∃ G' w1 cv, (Builtin.append_ #[t, tx] ty #[cx, cy]).run P w = .ok cv w1 ∧ VR G' w1 out.v cv ∧ eA G G' ∧ Ev G w w1 ∧ aT G' w1 (out.apply mem) := by
 unfold jV at h
 rw [bind_some] at h; obtain ⟨et, het, h⟩ := h
 rw [bind_some] at h; obtain ⟨s, hs, h⟩ := h
 rw [bind_some] at h; obtain ⟨bytes, hby, h⟩ := h
 rw [bind_some] at h; obtain ⟨z, hz, h⟩ := h
 rw [bind_some] at h; obtain ⟨yv, hyv, h⟩ := h
 rw [aB] at h; obtain ⟨hg, h⟩ := h
 simp only [yc] at hg
 obtain ⟨⟨⟨⟨g1, g2⟩, g3⟩, g4⟩, g5⟩ := hg
 have g1 := cY.1 g1; have g3 := eT.1 g3; have g4 := eT.1 g4; have g5 := cY.1 g5
 obtain ⟨i, zv0, hE⟩ := Ly het hs hby hz g3 g4 g5
 obtain ⟨N, A, H⟩ := Em hM hyv hy (by rw [← g1]; exact hs) g2
 rw [← g1] at A
 split at h
 ·obtain rfl := hx.lit_inv
  rw [aB] at h; obtain ⟨hml, h⟩ := h
  have hml := eT.1 hml
  have hno : ∀ g, 0 ≤ g → G.loc rs g = none := fun g _ => hM.unset rs g (fun x hx => by rw [hrs] at hx; cases hx)
  have hrl := (yh.1 hrs).1
  cases boxed with
  | true =>
   simp only [yg] at h
   obtain ⟨row, hrow, rfl⟩ := yf.1 h
   obtain ⟨r1, r2, r3, r4⟩ := Fj hrow H (by omega)
   rw [jM]
   exact Bf hM hrl hno hE A hml (by rw [r1, g1]) r2 r3 r4
  | false =>
   simp only [ye] at h
   obtain ⟨v, hv, rfl⟩ := yf.1 h
   rw [Ee]
   by_cases h0 : yv.1.len = 0
   ·rw [h0] at A
    have hnn : N = [] := yp (by rw [A.newsLen]; simp)
    subst hnn
    exact ⟨G, w, _, run_append_nothing (P := P) w t tx ty et i hE.under hE.info none 0 0 (yz _) cy (by rw [hE.size]; exact A), IV hv h0, eA.refl G, Ev.refl G w, hM⟩
   ·have hrun := run_append_grow_src (P := P) w t tx ty et i zv0 hE.under hE.info hE.zero none 0 0 [] (run_firstCells_none w.drew i.size 0 0 0) cy yv.1.len N (by rw [hE.size]; exact A) (by omega)
     (by unfold cT at hml; omega) (growslice_fits (bytes := i.bytes) (by omega) (yM (by omega) hE.bytes))
    generalize hc : ([] ++ N).toArray ++ Builtin.zeroCells zv0.cells (grownCap w (0 + yv.1.len) 0 et - (0 + yv.1.len)) = c at hrun
    obtain ⟨f1, f2, f3, f4⟩ := oS w c et
    have hev := Ev.drew_alloc G w (.cells c et) hM.away
    have hM' := hM.new_tree hev f1 f2
    have hg := eA.frz G (fun B _ => B = w.heap.size) (fun B _ h => by subst h; exact hM.own _ (yz _))
    refine ⟨_, _, _, hrun, ?_, hg, hev, hM'⟩
    have Y : 0 + yv.1.len ≤ grownCap w (0 + yv.1.len) 0 et := grownCap_ge w _ _ _
    generalize grownCap w (0 + yv.1.len) 0 et = C at hc Y ⊢
    rw [yj1] at Y ⊢
    refine BT (vs := N) (H.mono hg hev) hv (by omega) (fun j u V => ?_) (fun β o => .inr rfl) Y
    rw [f3, ← hc, ya3 (by simpa using (yh.1 V).1)]
    simpa using V
 ·rename_i b g
  rw [bind_some] at h; obtain ⟨bx, hbx, h⟩ := h
  rw [bind_some] at h; obtain ⟨zv, hzv, h⟩ := h
  rw [aB] at h; obtain ⟨hc, h⟩ := h
  simp only [yc, yy] at hc
  obtain ⟨⟨c1, O⟩, c3⟩ := hc
  have O := cY.1 O; have c3 := eT.1 c3
  obtain rfl := yb h
  rw [jM]
  obtain ⟨hm, rfl⟩ := box?_some hbx
  have he := (hM.box b bx hm).e
  cases hx with
  | msw _ _ cap L B hl U hn hf =>
   obtain ⟨o, K, M⟩ := (hM.box b bx hm).loc
   have J := hl
   rw [K] at J
   obtain rfl := yb J
   simp only at U; subst U
   obtain ⟨h1, h2, h3, h4, h5⟩ := M
   obtain ⟨vs, hvs, W⟩ := h4.toList he
   have hcl : ∀ j u, vs[j]? = some u → cl w B j = some u := fun j u V => by rw [W j (yh.1 V).1]; exact V
   have := CL (P := P) (ty := ty) (xv := bx.row.all) (cap := cap) hM hm K c1 hE O (by rw [oJ, O]) hvs hcl (by rw [dB]; exact hn) (by rw [O]; exact hf) A H hzv c3
   rw [dB] at this
   exact this
  | mswNil _ _ L hl U hn =>
   obtain ⟨o, K, M⟩ := (hM.box b bx hm).loc
   have J := hl
   rw [K] at J
   obtain rfl := yb J
   simp only at U; subst U
   have Z := HT M.2
   have hl0 : bx.row.all.len = 0 := by rw [dB]; exact M.1
   exact qW hM hm hE (by rw [oJ, O]) hl0 Z (bL.nilOf hl0 Z) A H hzv c3
 ·rename_i b g n
  rw [bind_some] at h; obtain ⟨bx, hbx, h⟩ := h
  rw [bind_some] at h; obtain ⟨xv, hxv, h⟩ := h
  rw [bind_some] at h; obtain ⟨zv, hzv, h⟩ := h
  rw [aB] at h; obtain ⟨hc, h⟩ := h
  simp only [yc, yy] at hc
  obtain ⟨⟨c1, O⟩, c3⟩ := hc
  have O := cY.1 O; have c3 := eT.1 c3
  obtain rfl := yb h
  rw [jM]
  obtain ⟨hm, rfl⟩ := box?_some hbx
  have he := (hM.box b bx hm).e
  have hxl := Oe he hxv
  have hxe := NL hxv
  cases hx with
  | ms _ _ _ _ cap L B hl U hn hon hf =>
   obtain ⟨o, K, M⟩ := (hM.box b bx hm).loc
   have J := hl
   rw [K] at J
   obtain rfl := yb J
   simp only at U; subst U
   obtain ⟨h1, h2, h3, h4, h5⟩ := M
   obtain ⟨vs, hvs, W⟩ := h4.toList he
   have hcl : ∀ j u, vs[j]? = some u → cl w B j = some u := fun j u V => by rw [W j (yh.1 V).1]; exact V
   have hsub := r5 he hxv hvs
   simp only [yj1] at hf
   have hw0 : bL G w xv (vs.take (n * bx.row.e)) := by simpa using hsub.1
   have := CL (P := P) (ty := ty) (cap := cap) hM hm K c1 hE O (by rw [hxe, O]) hw0
    (fun j u V => by
     refine hcl j u ?_
     have hj := (yh.1 V).1
     rw [yl2] at hj
     rw [yo2, if_pos (by omega)] at V; exact V) (by rw [hxl]; exact hn) (by rw [O]; exact hf) A H hzv c3
   rw [hxl] at this
   simp only [Nat.zero_mul]
   exact this
  | msNil _ _ L hl U =>
   obtain ⟨o, K, M⟩ := (hM.box b bx hm).loc
   have J := hl
   rw [K] at J
   obtain rfl := yb J
   simp only at U; subst U
   have Z := IL hxv M.2
   exact qW hM hm hE (by rw [hxe, O]) hxl Z (bL.nilOf hxl Z) A H hzv c3
  | msZ _ _ _ B oo L hl U ho hon => omega
 ·simp at h
end
end Go.Ab
end
section
namespace Go.Ab
variable [cD]
def flat (us : List Value) : List Value := us.flatMap fun u => u.cells.toList
theorem gE (u : Value) (us : List Value) : flat (u :: us) = u.cells.toList ++ flat us := by simp [flat]
theorem kI {e : Nat} : ∀ {us : List Value}, (∀ u ∈ us, u.cells.size = e) → (flat us).length = us.length * e
 | [], _ => by simp [flat]
 | u :: us, h => by
  rw [gE, yi, kI (fun x hx => h x (yk _ hx)), yv1, h u (yn ..), ye1, yt1]
  omega
theorem Ae {e : Nat} : ∀ {us : List Value} {i c : Nat} {u : Value}, (∀ u ∈ us, u.cells.size = e) → us[i]? = some u → c < e → (flat us)[i * e + c]? = u.cells.toList[c]?
 | [], i, c, u, h, z, A => by simp at z
 | v :: us, 0, c, u, h, z, A => by
  simp at z; subst z
  rw [gE, Nat.zero_mul, yj1, yq (by rw [yv1, h v (yn ..)]; exact A)]
 | v :: us, i + 1, c, u, h, z, A => by
  have H := h v (yn ..)
  rw [gE, yt (by rw [yv1, H, yt1]; omega), yv1, H, show (i + 1) * e + c - e = i * e + c by rw [yt1]; omega]
  exact Ae (fun x hx => h x (yk _ hx)) (by simpa using z) A
theorem M2 {us : List Value} {x : Value} (h : x ∈ flat us) : ∃ u ∈ us, x ∈ u.cells.toList := List.mem_flatMap.1 h
theorem rV : ∀ {xs a b : List Value} {k : Nat}, bE (a ++ b) (a.length + k) xs = a ++ bE b k xs
 | [], a, b, k => rfl
 | x :: xs, a, b, k => by
  simp only [bE]
  rw [List.set_append_right _ _ (by omega), yk3, yf3]
  exact rV
theorem qR : ∀ {xs a b : List Value} {p : List Value}, xs.length = a.length → bE (p ++ (a ++ b)) p.length xs = p ++ (xs ++ b)
 | [], a, b, p, h => by
  have := yp h.symm
  subst this; simp [bE]
 | x :: xs, [], b, p, h => by simp at h
 | x :: xs, y :: a, b, p, h => by
  simp only [bE]
  rw [List.set_append_right _ _ (by omega), Nat.sub_self]
  simp only [yp3, List.set_cons_zero]
  have := qR (xs := xs) (a := a) (b := b) (p := p ++ [x]) (by simpa using h)
  simpa using this
theorem IB {e : Nat} : ∀ {us : List Value} {i : Nat} {v : Value}, (∀ u ∈ us, u.cells.size = e) → v.cells.size = e → i < us.length → bE (flat us) (i * e) v.cells.toList = flat (us.set i v)
 | [], i, v, h, A, z => by simp at z
 | u :: us, 0, v, h, A, z => by
  have := qR (xs := v.cells.toList) (a := u.cells.toList) (b := flat us) (p := []) (by simp [A, h u (yn ..)])
  rw [List.set_cons_zero, gE, gE, Nat.zero_mul]; exact this
 | u :: us, i + 1, v, h, A, z => by
  have H := h u (yn ..)
  rw [List.set_cons_succ, gE, gE, show (i + 1) * e = u.cells.toList.length + i * e by rw [yv1, H, yt1]; omega, rV,
   IB (fun x hx => h x (yk _ hx)) A (by simpa using z)]
def sF (us : List Value) : List (Nat × Value) → List Value
 | [] => us
 | (i, v) :: r => sF (us.set i v) r
theorem vF {e : Nat} : ∀ {qs : List (Nat × Value)} {us : List Value}, (∀ u ∈ us, u.cells.size = e) → (∀ q ∈ qs, q.2.cells.size = e) → ∀ u ∈ sF us qs, u.cells.size = e
 | [], us, h, _ => h
 | (i, v) :: r, us, h, H => by
  refine vF (qs := r) (us := us.set i v) (fun u J => ?_) (fun q A => H q (yk _ A))
  rcases ym2 J with z | z
  ·exact h u z
  ·rw [z]; exact H (i, v) (yn ..)
theorem FB {s : Nat} : ∀ {qs : List (Nat × Value)} {us : List Value} {c : Array Value}, c.toList = flat us → (∀ u ∈ us, u.cells.size = s) → (∀ q ∈ qs, q.2.cells.size = s ∧ q.1 < us.length) →
  ∃ U, Instr.fill (fun i => some (i * s, s)) c qs = some U ∧ U.toList = flat (sF us qs)
 | [], us, c, H, _, _ => ⟨c, rfl, H⟩
 | (i, v) :: r, us, c, H, K, J => by
  obtain ⟨A, O⟩ := J (i, v) (yn ..)
  simp only at A O
  have z : (v.cells.zipIdx.foldl (fun cs (c, j) => cs.setIfInBounds (i * s + j) c) c).toList = bE c.toList (i * s) v.cells.toList := by
   have := Aq v.cells.toList (i * s) 0 c
   rw [yp2] at this
   rw [← this, ← Array.foldl_toList]
   simp
  have M : c.size = us.length * s := by rw [← kI K, ← H]; simp
  have V : i * s + v.cells.size ≤ c.size := by
   rw [M, A]
   calc i * s + s = (i + 1) * s := by rw [yt1]; omega
    _ ≤ us.length * s := yb2 _ O
  simp only [Instr.fill]
  rw [if_neg (by simp only [yc2, decide_eq_true_eq]; omega)]
  refine FB (us := us.set i v) (by rw [z, H, IB K A O]) (fun u h => ?_) (fun q h => ⟨(J q (yk _ h)).1, by simpa using (J q (yk _ h)).2⟩)
  rcases ym2 h with N | N
  ·exact K u N
  ·rw [N]; exact A
theorem mS (z : Array Value) (A : 1 ≤ z.size) : ∀ n, ((Array.range (n * z.size)).map (z[· % z.size]!)).toList = (List.replicate n z.toList).flatten
 | 0 => by simp
 | n + 1 => by
  have h := mS z A n
  simp only [Array.toList_map, Array.toList_range] at h ⊢
  rw [yt1, Nat.one_mul, List.range_add, List.map_append, h, List.replicate_succ', List.flatten_append]
  congr 1
  simp only [List.flatten_cons, List.flatten_nil, yu1, List.map_map]
  apply List.ext_getElem
  ·simp
  ·intro j h1 h2
   simp at h1
   have : (n * z.size + j) % z.size = j := by
    rw [Nat.add_comm, Nat.add_mul_mod_self_right]; exact Nat.mod_eq_of_lt h1
   simp [this, h1]
theorem jD (n : Nat) (z : Value) : flat (List.replicate n z) = (List.replicate n z.cells.toList).flatten := by
 induction n with
 | zero => rfl
 | succ n h => rw [List.replicate_succ, gE, h, List.replicate_succ, List.flatten_cons]
theorem PE {G : Gh} (z : ∀ B o, G.prot false B o → G.prot true B o) {β β' : Bool} (h : β' = false → β = false) {w : World} {p : PV} {v : Value} (H : PR w (G.prot β) p v) : PR w (G.prot β') p v := by
 refine H.mono (fun B o A => ?_) (fun _ _ _ => rfl)
 cases β' with
 | false => rw [h rfl] at A; exact A
 | true => cases β with
  | true => exact A
  | false => exact z _ _ A
section
variable {P : Program}
theorem CU {G : Gh} {w : World} {mem : a9} {boxed : Bool} {rs : Nat} {v : aO} {vs : List Value} {out : eM} {t : TypeId} (hM : aT G w mem) (N : mem[rs]? = some none) (h : p6 boxed rs v = some out)
  (M : bL G w v vs) (W : 1 ≤ v.e) :
  ∃ K, eA G K ∧ Ev G w (w.alloc (.cells vs.toArray t)) ∧ aT K (w.alloc (.cells vs.toArray t)) (aQ mem out.wr) ∧ VR K (w.alloc (.cells vs.toArray t)) out.v (.slice (some ⟨w.heap.size, 0, none⟩) v.len v.len) ∧ out.push = [] := by
 have J : ∀ j u, vs[j]? = some u → cl (w.alloc (.cells vs.toArray t)) w.heap.size j = some u := fun j u Z => by
  rw [lI]; simpa using Z
 unfold p6 at h
 cases boxed with
 | true =>
  simp only [yg] at h
  obtain rfl := yb h
  obtain ⟨K, rfl, hg, z, A, hl⟩ := Ez (row := v.row) (vs := vs) (rest := #[]) (t := t) hM N (by rw [iG]; exact W) (by rw [jF]; exact M)
  rw [Array.append_empty] at z A
  refine ⟨_, hg, z, A, ?_, rfl⟩
  have V : VR (G.put rs 0 ⟨some w.heap.size, v.row.e, v.row.len⟩) (w.alloc (.cells vs.toArray t)) (.msw rs 0) (.slice (some ⟨w.heap.size, 0, none⟩) v.row.len v.len) := by
   refine .msw rs 0 v.len _ w.heap.size hl rfl (by simp only [fB]; exact yz _) (fun j U => ?_)
   simp only [iG] at U
   have O : j < vs.length := by rw [M.1]; exact U
   rw [J j _ (yd O)]; rfl
  rw [fB] at V ⊢; exact V
 | false =>
  simp only [ye] at h
  obtain ⟨a, Y, rfl⟩ := yf.1 h
  have z := Ev.alloc G w (.cells vs.toArray t) hM.away
  have A := hM.new_tree z (fun B hB => fL hB) (by simp)
  have H := eA.frz G (fun B _ => B = w.heap.size) (fun B _ h => by subst h; exact hM.own _ (yz _))
  refine ⟨_, H, z, A, ?_, rfl⟩
  exact BT (vs := vs) (M.mono H z) Y W J (fun β o => .inr rfl) (yz _)
theorem wY {G : Gh} {w : World} : ∀ {vs : List AV} {us : List Value}, jH G w vs us → jH G w (gW vs) (flat us)
 | [], us, h => by
  have := yp h.1.symm
  subst this; exact ⟨rfl, fun j y z => by simp [gW] at z⟩
 | v :: vs, [], h => by simp [jH] at h
 | v :: vs, u :: us, h => by
  rw [gW, gE]
  refine jH.append (h.2 0 v rfl).cells (wY ⟨by simpa using h.1, fun j y z => by simpa using h.2 (j + 1) y (by simpa using z)⟩)
theorem jH.get {G : Gh} {w : World} {as : List AV} {vs : List Value} (h : jH G w as vs) {j : Nat} {a : AV} (z : as[j]? = some a) : ∃ u, vs[j]? = some u ∧ VR G w a u := by
 have A : j < vs.length := by rw [← h.1]; exact (yh.1 z).1
 have := h.2 j a z
 rw [yl, yd A] at this
 exact ⟨_, yd A, this⟩
theorem wB {k : IntKind} : ∀ {vs : List AV} {xs : List Int}, eR k vs = some xs → xs.length = vs.length ∧ ∀ (j : Nat) (x : Int), xs[j]? = some x → vs[j]? = some (.lit (.int k x))
 | [], xs, h => by simp [eR] at h; subst h; exact ⟨rfl, fun j x hx => by simp at hx⟩
 | v :: vs, xs, h => by
  unfold eR at h
  split at h
  ·simp_all
  ·rename_i J x r H
   obtain ⟨rfl, rfl⟩ := yc1 H
   cases z : gV k J with
   | false => rw [z] at h; simp at h
   | true =>
    rw [z] at h; simp only [yg] at h
    obtain ⟨ys, A, rfl⟩ := yf.1 h
    rw [j0] at z; subst z
    obtain ⟨hl, K⟩ := wB A
    refine ⟨by simp [hl], fun j x hx => ?_⟩
    cases j with
    | zero => simp at hx; subst hx; rfl
    | succ j => simpa using K j x (by simpa using hx)
  ·simp at h
theorem GU {G : Gh} {w : World} {mem : a9} {vars : Bool} {t : TypeId} {vs : List AV} {us : List Value} {r : aO × List Nat} {s : Nat} (hM : aT G w mem) (h : mA P vars mem t vs = some r) (hL : jH G w vs us)
  (U : ∀ u ∈ us, u.cells.size = s) (hs : 1 ≤ s) (H : r.1.e = s) : bL (G.frz (bH G mem r.2)) w r.1 (flat us) ∧ r.1.len = vs.length := by
 have O := kI U
 unfold mA at h
 split at h
 ·rename_i k hk
  obtain ⟨xs, hxs, rfl⟩ := yf.1 h
  obtain ⟨hl, hh⟩ := wB hxs
  simp only [aO.e] at H; subst H
  have M : ∀ (i : Nat) (x : Int), xs[i]? = some x → (flat us)[i]? = some (.int k x) := by
   intro i x hx
   obtain ⟨u, A, z⟩ := hL.get (hh i x hx)
   obtain rfl := z.lit_inv
   have := Ae U A (c := 0) (by omega)
   rw [yi3, yp2] at this
   exact this
  refine ⟨⟨by simp only [aO.len, aO.e]; rw [O, hl, hL.1], fun u A => ?_, M⟩, by simpa [aO.len] using hl⟩
  obtain ⟨j, hj, rfl⟩ := yp1 A
  have hj2 : j < xs.length := by rw [hl, hL.1]; omega
  have := M j _ (yd hj2)
  rw [yd hj] at this
  rw [yb this]; rfl
 ·rw [bind_some] at h; obtain ⟨e, he, h⟩ := h
  cases vars with
  | true =>
   simp only [yg] at h
   rw [aB] at h; obtain ⟨hg, h⟩ := h
   simp only [yc] at hg
   obtain rfl := yb h
   simp only [aO.e] at H; subst H
   have hcs := wY hL
   have hl : (gW vs).length = vs.length * e := by rw [hcs.1, O, hL.1]
   have hcb : bD e (gW vs).length = vs.length := by rw [hl, f6 (n := 0) hs]
   exact ⟨(bL.ofLRs hcs hg.2 (by rw [hcb]; exact hl)).mono (eA.frz G _ hM.inBoxes) (Ev.refl G w), hcb⟩
  | false =>
   simp only [ye] at h
   obtain ⟨q, hq, rfl⟩ := yf.1 h
   simp only [aO.e] at H; subst H
   obtain ⟨hl, hh⟩ := pU hq
   have hlab : ∀ B o, (G.frz (bH G mem q.2.2)).prot false B o → (G.frz (bH G mem q.2.2)).prot true B o := fun B o h => h.imp (hM.lab B o) id
   have M : ∀ (i : Nat) (x : PV), q.2.1[i]? = some x → ∃ v u V, vs[i]? = some v ∧ us[i]? = some u ∧ VR G w v u ∧ qJ P mem t v = some V ∧ V.2.1 = x ∧ (∀ b ∈ V.2.2, b ∈ q.2.2) ∧ (q.1 = false → V.1 = false) := by
    intro i x hx
    have Z : i < vs.length := by rw [← hl]; exact (yh.1 hx).1
    obtain ⟨V, h1, h2, h3, h4⟩ := hh i _ (yd Z)
    obtain ⟨u, A, z⟩ := hL.get (yd Z)
    rw [hx] at h2
    exact ⟨_, u, V, yd Z, A, z, h1, (yb h2).symm, h3, h4⟩
   have Y : ∀ (i : Nat) (x : PV), q.2.1[i]? = some x → x.cells.length = e := by
    intro i x hx
    obtain ⟨v, u, V, hv, A, z, h1, rfl, h3, h4⟩ := M i x hx
    obtain ⟨ql, _⟩ := pO hM h1 z
    rw [ql, z.cells.1, yv1]; exact U u (yj A)
   have K : ∀ (i : Nat) (x : PV) (c : Nat) (y : PV), q.2.1[i]? = some x → x.cells[c]? = some y → ∃ u, (flat us)[i * e + c]? = some u ∧ PR w ((G.frz (bH G mem q.2.2)).prot q.1) y u ∧ u.oneCell' = true := by
    intro i x c y hx hy
    have hce : c < e := by rw [← Y i x hx]; exact (yh.1 hy).1
    obtain ⟨v, u, V, hv, A, z, h1, rfl, h3, h4⟩ := M i x hx
    obtain ⟨ql, qq⟩ := pO hM h1 z
    obtain ⟨u', N, W, J⟩ := qq c y hy
    refine ⟨u', by rw [Ae U A hce]; exact N, PE hlab h4 (W.mono (fun B o hb => hb.imp id (fun Z => Z.mono h3)) (fun _ _ _ => rfl)), J⟩
   refine ⟨⟨by simp only [aO.len, aO.e]; rw [O, hl, hL.1], fun u A => ?_, fun x hx => ?_, fun i x c y hx hy => ?_⟩, by simpa [aO.len] using hl⟩
   ·obtain ⟨j, hj, rfl⟩ := yp1 A
    have hj' := hj
    rw [O] at hj'
    have Z : j / e < us.length := Nat.div_lt_of_lt_mul (by rw [yq2]; exact hj')
    have hc : j % e < e := Nat.mod_lt _ hs
    have hi2 : j / e < q.2.1.length := by rw [hl, hL.1]; exact Z
    have hx := yd hi2
    have hy : j % e < (q.2.1[j / e]).cells.length := by rw [Y _ _ hx]; exact hc
    obtain ⟨u', N, _, J⟩ := K _ _ _ _ hx (yd hy)
    have hjj : j / e * e + j % e = j := by rw [yq2]; exact Nat.div_add_mod j e
    rw [hjj, yd hj] at N
    rw [yb N]; exact J
   ·obtain ⟨j, hj, rfl⟩ := yp1 hx
    exact Y j _ (yd hj)
   ·obtain ⟨u, A, W, _⟩ := K i x c y hx hy
    exact ⟨u, A, W⟩
theorem CW {G : Gh} {w : World} : ∀ {ps : List (Nat × AV)} {qs : List (Nat × Value)} {vs : List AV} {us : List Value}, jH G w vs us → Pe G w ps qs → jH G w (qO vs ps) (sF us qs)
 | [], qs, vs, us, h, z => by
  have := yp z.1.symm
  subst this; exact h
 | (i, v) :: r, [], vs, us, h, z => by simp [Pe] at z
 | (i, v) :: r, (i', u) :: qs, vs, us, h, z => by
  obtain ⟨u', H, J⟩ := z.2 0 (i, v) rfl
  simp only [yy2, Option.some.injEq, Prod.mk.injEq] at H
  obtain ⟨rfl, rfl⟩ := H
  exact CW (ps := r) (qs := qs) (h.set J) ⟨by simpa using z.1, fun j p A => by simpa using z.2 (j + 1) p (by simpa using A)⟩
theorem vH : ∀ {ps : List (Nat × AV)} {vs : List AV}, (qO vs ps).length = vs.length
 | [], vs => rfl
 | (i, v) :: r, vs => by rw [qO, vH]; simp
theorem A4 {e : Nat} : ∀ {vs : List AV}, mW e vs = true → ∀ v ∈ vs, v.cells.length = e
 | [], _ => by simp
 | v :: vs, h => by
  simp only [mW, yc] at h
  intro x hx
  rcases yq1.1 hx with rfl | hx
  ·exact cY.1 h.1
  ·exact A4 h.2 x hx
theorem Bd {n : Nat} : ∀ {ps : List (Nat × AV)}, pB n ps = true → ∀ p ∈ ps, p.1 < n
 | [], _ => by simp
 | (i, v) :: r, h => by
  simp only [pB, yc] at h
  intro x hx
  rcases yq1.1 hx with rfl | hx
  ·exact eT.1 h.1
  ·exact Bd h.2 x hx
end
end Go.Ab
end
section
namespace Go.Ab
variable [cD]
theorem qC : ∀ (l : List Int) (r : ByteArray), l.foldl (fun r n => r.push (UInt8.ofNat n.toNat)) r = ⟨r.data ++ (l.map fun n => UInt8.ofNat n.toNat).toArray⟩
 | [], r => by simp
 | b :: l, r => by
  simp only [List.foldl_cons]
  rw [qC l]
  simp [ByteArray.push]
theorem Hq (xs : List Int) : xs.foldl (fun r n => r.push (UInt8.ofNat n.toNat)) ByteArray.empty = oG xs := by
 rw [qC]
 have h : ByteArray.empty.data = #[] := rfl
 simp [oG, h]
section
variable {P : Program}
theorem B1 {G : Gh} {w : World} {mem : a9} {boxed vars : Bool} {t O : TypeId} {rs len s : Nat} {z : AV} {ps : List (Nat × AV)} {qs : Array (Nat × Value)} {wv : aO × List Nat} {o : eM} (hM : aT G w mem) (hrs : mem[rs]? = some none)
  (H : elemOf? P t = some O) (hz : zero? P O = some z) (hs : k7 P O = some s) (hg : (pB len ps && Nat.ble len 4096 && Nat.ble 1 s && Nat.ble s 4096 && mW s (z :: ps.map (·.2))) = true)
  (hv : mA P vars mem O (qO (List.replicate len z) ps) = some wv) (K : Nat.beq wv.1.e s = true) (ho : p6 (boxed || Nat.beq len 0) rs wv.1 = some o) (hp : Pe G w ps qs.toList) :
  ∃ G' w' cv, (Instr.buildSlice t len qs).run P w = .ok cv w' ∧ VR G' w' o.v cv ∧ eA G G' ∧ Ev G w w' ∧ aT G' w' (({ v := o.v, rd := wv.2, wr := bW mem wv.2 ++ o.wr } : eM).apply mem) := by
 simp only [yc] at hg
 obtain ⟨⟨⟨⟨g1, g2⟩, g3⟩, g4⟩, g5⟩ := hg
 have g2 := eT.1 g2; have g3 := eT.1 g3; have g4 := eT.1 g4; have K := cY.1 K
 have hu : P.underlying t = some (.slice O) := by
  unfold elemOf? at H
  split at H
  ·obtain rfl := yb H; assumption
  ·simp at H
 obtain ⟨i, A, hi, hzv, hov⟩ := oP hz
 have J : i.size = s := by unfold k7 at hs; rw [hi] at hs; simpa using hs
 have V : VR G w z A := oQ hov
 have Z := A4 g5
 have N : A.cells.size = s := by rw [← Z z (yn ..)]; simpa using V.cells.1.symm
 have hL0 : jH G w (List.replicate len z) (List.replicate len A) := by
  refine ⟨by simp, fun j y hy => ?_⟩
  obtain ⟨hj, rfl⟩ : j < len ∧ z = y := by
   have h1 := (yh.1 hy)
   obtain ⟨h1, h2⟩ := h1
   simp at h1 h2; exact ⟨h1, h2⟩
  rw [yl, yk2, if_pos hj]; exact V
 have hL := CW hL0 hp
 have hq : ∀ q ∈ qs.toList, q.2.cells.size = s ∧ q.1 < (List.replicate len A).length := by
  intro q hq
  obtain ⟨j, hj, rfl⟩ := yp1 hq
  have M : j < ps.length := by rw [hp.1]; exact hj
  obtain ⟨v, hv, hvr⟩ := hp.2 j _ (yd M)
  rw [yd hj] at hv
  have hqe := yb hv
  rw [hqe]
  refine ⟨?_, by simp only [yg3]; exact Bd g1 _ (yu2 M)⟩
  rw [← Z (ps[j].2) (yk _ (yc3.2 ⟨_, yu2 M, rfl⟩))]
  simpa using hvr.cells.1.symm
 have W : ∀ u ∈ List.replicate len A, u.cells.size = s := fun u hu => by rw [(yh3.1 hu).2]; exact N
 have hus := vF W (fun q h => (hq q h).1)
 obtain ⟨U, hvl⟩ := GU hM hv hL hus g3 K
 have hM1 := hM.freeze wv.2
 have hg1 := eA.frz G (bH G mem wv.2) hM.inBoxes
 have hrs1 : (aQ mem (bW mem wv.2))[rs]? = some none := by
  rw [(eC mem wv.2 mem rs rfl).2.1 (.inr (fun y hy => by rw [hrs] at hy; cases hy))]; exact hrs
 obtain ⟨G', h1, h2, h3, h4, h5⟩ := CU (t := O) hM1 hrs1 ho U (by omega)
 have Y : wv.1.len = len := by rw [hvl, vH]; simp
 rw [Y] at h4
 refine ⟨G', _, _, ?_, h4, hg1.trans h1, ?_, ?_⟩
 ·by_cases h0 : len = 0
  ·subst h0
   have hq0 : qs.toList = [] := by
    cases hh : qs.toList with
    | nil => rfl
    | cons q r => have := (hq q (by rw [hh]; exact yn ..)).2; simp at this
   rw [hq0]
   simp [Instr.buildSlice, run_underlying hu, sizeOf, typeInfo, hi, hq0, Instr.fill, newRow, sF, flat, Array.range_zero']
  ·have hlt : len * s ≤ 16777216 := yt2 (Nat.mul_le_mul g2 g4) (by decide)
   have hpos : 0 < len * s := Nat.mul_pos (by omega) (by omega)
   have hc0 : ((Array.range (len * i.size)).map (A.cells[· % A.cells.size]!)).toList = flat (List.replicate len A) := by
    rw [J, jD]
    have := mS A.cells (by omega) len
    rw [N] at this
    rw [N]; exact this
   obtain ⟨c', hf, hc'⟩ := FB hc0 W hq
   have hcc : c' = (flat (sF (List.replicate len A) qs.toList)).toArray := by rw [← hc']
   rw [← hcc]
   exact run_buildSlice w t O len qs c' i A hu hi hzv (by rw [J]; omega) (by rw [J]; omega) (by rw [J] at hf ⊢; exact hf)
 ·exact (Ev.refl G w).trans hg1 h2
 ·simp only [eM.apply, yu1]
  rw [nL]; exact h3
theorem q7 {G : Gh} {w : World} {mem : a9} {boxed : Bool} {t K : TypeId} {rs n s : Nat} {A : Value} {v : aO} {i : TypeInfo} {out : eM} {W Y : IntKind} (hM : aT G w mem) (V : mem[rs]? = some none)
  (hu : P.underlying t = some (.slice K)) (hi : P.info? K = some i) (hz : i.zero = some A) (U : i.size = s) (hs1 : 1 ≤ s) (M : i.bytes ≤ 4096) (hn : n ≤ cT) (N : A.cells.size = s)
  (hv : bL G w v (flat (List.replicate n A))) (O : v.len = n) (hve : v.e = s) (ho : p6 boxed rs v = some out) :
  ∃ H J cv, (Instr.makeSlice t (.int W (n : Int)) (.int Y (n : Int))).run P w = .ok cv J ∧ VR H J out.v cv ∧ eA G H ∧ Ev G w J ∧ aT H J (out.apply mem) := by
 obtain ⟨H, h1, h2, h3, h4, h5⟩ := CU (t := K) hM V ho hv (by omega)
 have Z := yM hn M
 have z := run_make (P := P) w t K i A hu hi hz W Y n n (by omega) (Int.le_refl _) (by
   have h : ((n * i.bytes : Nat) : Int) ≤ 281474976710656 := by omega
   rw [Int.natCast_mul, Int.mul_comm] at h; exact h) (by unfold cT at hn; omega)
 simp only [yb1] at z
 have hc : madeCells A.cells (n * i.size) = (flat (List.replicate n A)).toArray := by
  have := mS A.cells (by omega) n
  rw [← yz2 (xs := madeCells A.cells (n * i.size)), jD, ← this, U]
  simp only [madeCells, N]
 rw [hc] at z
 rw [O] at h4
 refine ⟨H, _, _, z, h4, h1, h2, ?_⟩
 simp only [eM.apply, h5, yu1]; exact h3
theorem GY {G : Gh} {w : World} {mem : a9} {e K dst : TypeId} {x : AV} {xs : List Int} {rd : List Nat} {cv : Value} (hM : aT G w mem) (N : P.underlying K = some (.slice e)) (Z : P.underlying e = some (.int .u8)) (W : P.underlying dst = some .string)
  (V : view P e mem x = some (.ints .u8 xs, rd)) (ht : k7 P e = some 1) (J : zI P K x = true) (hx : VR G w x cv) : (convert K dst cv).run P w = .ok (.string (oG xs)) w := by
 obtain ⟨H, hS, hV⟩ := Em hM V hx ht J
 have A : H = xs.map (Value.int .u8) := by
  obtain ⟨h1, h2, h3⟩ := hV
  simp only [aO.len, aO.e, yi3] at h1
  refine List.ext_getElem (by simp [h1]) (fun j O hj2 => ?_)
  have Y : j < xs.length := by omega
  have := h3 j _ (yd Y)
  rw [yd O] at this
  rw [yb this]; simp
 have M := hS.len w
 have z := hS.cells
 have hnl := hS.newsLen
 have U : ∃ a c, cv = .slice a xs.length c := by
  cases cv <;> simp [Builtin.lenOf] at M
  ·cases hx with
   | lit v h =>
    unfold zI at J
    rw [N] at J
    simp at J
   | imm β p v h hs => cases h; simp [PV.isSl] at hs
   | dead v h1 h2 => simp [view] at V
  ·exact ⟨_, _, by rw [M]; rfl⟩
 obtain ⟨a, c, rfl⟩ := U
 rw [run_convert_bytes_string w K dst e a xs.length c N Z W]
 cases a with
 | none =>
  simp [Builtin.firstCells] at z
  have : H = [] := by
   cases H with
   | nil => rfl
   | cons => simp at z
  rw [this] at A
  have : xs = [] := List.map_eq_nil_iff.1 A.symm
  subst this; rfl
 | some a =>
  simp only [Builtin.firstCells, aO.e, aO.len, yi3] at z
  rw [run_bytesToString w a _ c xs (by rw [← A]; exact z), Hq]
end
end Go.Ab
end
section
namespace Go.Ab
variable [cD]
theorem Qa {vs : Array Value} (h : vs.size = 1) : ∃ x, vs = #[x] := by
 obtain ⟨l⟩ := vs
 match l, h with
 | [x], _ => exact ⟨x, rfl⟩
theorem P1 {vs : Array Value} (h : vs.size = 2) : ∃ x y, vs = #[x, y] := by
 obtain ⟨l⟩ := vs
 match l, h with
 | [x, y], _ => exact ⟨x, y, rfl⟩
section
variable {P : Program}
def s0 (P : Program) (G : Gh) (w : World) (mem : a9) (o : Oper) (a : Act) (out : eM) : Prop :=
 ∀ (K : Act → World → Prop) (Q : Exit → Act → World → Prop), (∀ G' w' cv, VR G' w' out.v cv → eA G G' → Ev G w w' → aT G' w' (out.apply mem) → K (a.put o.dst cv) w') → o.wp P a w K Q
def Nr (P : Program) (G : Gh) (w : World) (mem : a9) (g : FuncId) (args : Array Value) (out : eM) : Prop :=
 (callFunc g args).run P w = .ok (.enter g args) w ∧
 Calls P g args w fun e w' => ∃ G' cv, e = .returned cv ∧ VR G' w' out.v cv ∧ eA G G' ∧ Ev G w w' ∧ aT G' w' (out.apply mem)
variable {G : Gh} {w : World} {mem : a9} {o : Oper} {a : Act} {out : eM}
theorem mK.opW (h : mK P G w mem o a out) : s0 P G w mem o a out := by
 intro K Q hK
 obtain ⟨N, J, nx, cv, z, H, M, O, A, hM⟩ := h
 unfold Oper.wp
 rw [z]
 rcases H with rfl | ⟨rfl, rfl⟩
 ·exact hK N J cv M O A hM
 ·exact hK N J undef M O A hM
theorem s0.value {s : Sem Value} (K : execOp a.eval o = (do pure (Next.value (← s))))
  (h : ∃ H z cv, s.run P w = .ok cv z ∧ VR H z out.v cv ∧ eA G H ∧ Ev G w z ∧ aT H z (out.apply mem)) : s0 P G w mem o a out := by
 obtain ⟨H, z, cv, A, M, N, J, hM⟩ := h
 refine mK.opW ⟨H, z, .value cv, cv, ?_, .inl rfl, M, N, J, hM⟩
 rw [K]
 simp only [Sem.run_bind, A, Result.andThen_ok, Sem.run_pure]
theorem s0.still {s : Sem Value} (hM : aT G w mem) (z : execOp a.eval o = (do pure (Next.value (← s)))) {cv : Value} (J : out.wr = []) (A : out.push = [])
  (h : s.run P w = .ok cv w) (H : VR G w out.v cv) : s0 P G w mem o a out :=
 s0.value z ⟨G, w, cv, h, H, eA.refl G, Ev.refl G w, by simp only [eM.apply, J, A, aQ, yu1]; exact hM⟩
theorem s0.plain (hM : aT G w mem) {cv : Value} (h : execOp a.eval o = pure (Next.value cv)) (H : out.wr = []) (z : out.push = []) (A : VR G w out.v cv) : s0 P G w mem o a out :=
 mK.opW ⟨G, w, .value cv, cv, by rw [h]; simp, .inl rfl, A, eA.refl G, Ev.refl G w, by simp only [eM.apply, H, z, aQ, yu1]; exact hM⟩
theorem AS {ρ : Operand → Option AV} (H : Pl G w ρ a) {x : Option Operand} {r : Option Int} (h : Cr ρ x = some r) : pT r (x.map a.eval) := by
 cases x with
 | none => simp [Cr] at h; subst h; exact trivial
 | some x =>
  simp only [Cr] at h
  rw [bind_some] at h; obtain ⟨v, A, h⟩ := h
  unfold Kk at h
  split at h
  ·simp at *
  ·rename_i k n z
   obtain rfl := yb z
   obtain rfl := yb h
   have := (H x _ A).lit_inv
   exact ⟨k, by simp [this]⟩
  ·simp at h
theorem v9 {t z : TypeId} (h : elemOf? P t = some z) : P.underlying t = some (.slice z) := by
 unfold elemOf? at h
 split at h
 ·obtain rfl := yb h; assumption
 ·simp at h
theorem mN {l : List Nat} (h : eZ l = true) : l = [] := by cases l <;> simp_all [eZ]
theorem Jj {k : IntKind} {z : AV} {J : Value} {H : List Int} {n : Nat} (h : eR k [z] = some H) (O : VR G w z J) : bL G w (.ints k (List.replicate n (H.headD 0))) (flat (List.replicate n J)) ∧ J.cells.size = 1 := by
 obtain ⟨hl, U⟩ := wB h
 obtain ⟨x, rfl⟩ : ∃ x, H = [x] := by
  match H, hl with
  | [x], _ => exact ⟨x, rfl⟩
 have := U 0 x rfl
 simp at this
 subst this
 obtain rfl := O.lit_inv
 have hf : flat (List.replicate n (Value.int k x)) = List.replicate n (.int k x) := by
  rw [jD]
  have M : (Value.int k x).cells.toList = [.int k x] := rfl
  rw [M]
  induction n with
  | zero => rfl
  | succ n N => rw [List.replicate_succ, List.flatten_cons, N, List.replicate_succ]; rfl
 rw [hf]
 refine ⟨⟨by simp [aO.len, aO.e], fun u K => by rw [(yh3.1 K).2]; rfl, fun i y A => ?_⟩, rfl⟩
 simp only [List.headD_cons] at A
 rw [yk2] at A ⊢
 split at A
 ·rw [if_pos (by assumption)]; rw [← yb A]
 ·simp at A
theorem FW {t : TypeId} {z : AV} {O : Value} {q : Bool × PV × List Nat} {n e : Nat} (hM : aT G w mem) (h : qJ P mem t z = some q) (hz : VR G w z O) (V : z.cells.length = e) (h1 : 1 ≤ e) (hq : q.2.2 = []) :
  bL G w (.pvs q.1 e (List.replicate n q.2.1)) (flat (List.replicate n O)) ∧ O.cells.size = e := by
 obtain ⟨ql, qq⟩ := pO hM h hz
 have N : O.cells.size = e := by rw [← V]; simpa using hz.cells.1.symm
 have J : ∀ u ∈ List.replicate n O, u.cells.size = e := fun u A => by rw [(yh3.1 A).2]; exact N
 have Z := kI J
 have K : ∀ (i : Nat) (x : PV) (c : Nat) (y : PV), (List.replicate n q.2.1)[i]? = some x → x.cells[c]? = some y → ∃ u, (flat (List.replicate n O))[i * e + c]? = some u ∧ PR w (G.prot q.1) y u ∧ u.oneCell' = true := by
  intro i x c y hx W
  rw [yk2] at hx
  split at hx
  ·rename_i hi
   obtain rfl := yb hx
   have Y : c < e := by rw [← V, ← ql]; exact (yh.1 W).1
   obtain ⟨u, A, M, H⟩ := qq c y W
   refine ⟨u, by rw [Ae J (u := O) (by rw [yk2, if_pos hi]) Y]; exact A, M.mono (fun B o U => ?_) (fun _ _ _ => rfl), H⟩
   rcases U with U | ⟨b, U, _⟩
   ·exact U
   ·rw [hq] at U; simp at U
  ·simp at hx
 refine ⟨⟨by simp only [aO.len, aO.e]; rw [Z]; simp, fun u A => ?_, fun x hx => by rw [(yh3.1 hx).2, ql, V], fun i x c y hx W => ?_⟩, N⟩
 ·obtain ⟨v, hv, A⟩ := M2 A
  rw [(yh3.1 hv).2] at A
  obtain ⟨j, hj, rfl⟩ := yp1 A
  have hj2 : j < q.2.1.cells.length := by rw [ql, V, ← N]; simpa using hj
  obtain ⟨u, A, _, H⟩ := qq j _ (yd hj2)
  rw [yd hj] at A
  rw [yb A]; exact H
 ·obtain ⟨u, A, M, _⟩ := K i x c y hx W
  exact ⟨u, A, M⟩
theorem J3 {t tx ty : TypeId} {rs : Nat} {n : Int} {kn : IntKind} (hM : aT G w mem) (hrs : mem[rs]? = some none) (h : Bc P t tx mem rs n = some out) :
  ∃ W U cv, (Builtin.append_ #[t, tx] ty #[.slice none 0 0, .int kn n]).run P w = .ok cv U ∧ VR W U out.v cv ∧ eA G W ∧ Ev G w U ∧ aT W U (out.apply mem) := by
 unfold Bc at h
 split at h
 ·rename_i kx hkx
  rw [bind_some] at h; obtain ⟨K, Y, h⟩ := h
  rw [bind_some] at h; obtain ⟨z, hz, h⟩ := h
  split at h
  ·rw [bind_some] at h; obtain ⟨q, hq, h⟩ := h
   rw [bind_some] at h; obtain ⟨e, he, h⟩ := h
   rw [bind_some] at h; obtain ⟨bytes, M, h⟩ := h
   rw [aB] at h; obtain ⟨hg, h⟩ := h
   simp only [yc, decide_eq_true_eq] at hg
   obtain ⟨⟨g0, O⟩, ⟨⟨V, g2⟩, g3⟩, g4⟩ := hg
   have O := eT.1 O; have V := eT.1 V; have g2 := eT.1 g2; have g3 := cY.1 g3; have g4 := mN g4
   obtain rfl := yb h
   obtain ⟨i, A, hi, hzv, hov⟩ := oP hz
   have hzr : VR G w z A := oQ hov
   obtain ⟨m, rfl⟩ : ∃ m : Nat, n = (m : Int) := ⟨n.toNat, by omega⟩
   rw [yb1] at O ⊢
   obtain ⟨hv, N⟩ := FW (n := m) hM hq hzr g3 V g4
   have his : i.size = e := by unfold k7 at he; rw [hi] at he; simpa using he
   have hib : i.bytes ≤ 4096 := by unfold lW at M; rw [hi] at M; simp at M; omega
   have hfit := yM O hib
   have H := Lib.run_append_nil_zeros (P := P) w t tx ty K i A kn kx (v9 Y) hkx hi hzv m (by omega) (by omega) (by unfold cT at O; omega) (by omega)
   have hrc := mS A.cells (by omega) m
   have hc : Builtin.zeroCells A.cells m = (flat (List.replicate m A)).toArray := by
    rw [← yz2 (xs := Builtin.zeroCells A.cells m), jD, ← hrc]
    rfl
   have J : m ≤ grownCap w m 0 K := grownCap_ge w _ _ _
   rw [hc] at H
   have hMd := hM.ev (Ev.drew G w) (.inl rfl) (fun B _ => rfl)
   have hvd : bL G w.drew (cI.pvs q.1 e (List.replicate m q.2.1)).all (flat (List.replicate m A)) := hv.mono (eA.refl G) (Ev.drew G w)
   obtain ⟨W, rfl, hg', hev, hM', hl⟩ := Ez (row := .pvs q.1 e (List.replicate m q.2.1)) (vs := flat (List.replicate m A)) (rest := Builtin.zeroCells A.cells (grownCap w m 0 K - m)) (t := K) hMd hrs V hvd
   have hfl : (flat (List.replicate m A)).length = m * e := by
    rw [kI (e := e) (us := List.replicate m A) (fun u hu => by rw [(yh3.1 hu).2]; exact N)]; simp
   refine ⟨_, _, _, H, ?_, hg', (Ev.drew G w).trans (eA.refl G) hev, by simpa [eM.apply, aQ] using hM'⟩
   generalize grownCap w m 0 K = C at J H ⊢
   have hk : VR (G.put rs 0 ⟨some w.drew.heap.size, (cI.pvs q.1 e (List.replicate m q.2.1)).e, (cI.pvs q.1 e (List.replicate m q.2.1)).len⟩) (w.drew.alloc (.cells ((flat (List.replicate m A)).toArray ++ Builtin.zeroCells A.cells (C - m)) K)) (.msw rs 0) (.slice (some ⟨w.heap.size, 0, none⟩) m C) := by
    have := VR.msw (G := G.put rs 0 ⟨some w.drew.heap.size, (cI.pvs q.1 e (List.replicate m q.2.1)).e, (cI.pvs q.1 e (List.replicate m q.2.1)).len⟩) (w := w.drew.alloc (.cells ((flat (List.replicate m A)).toArray ++ Builtin.zeroCells A.cells (C - m)) K)) rs 0 C _ w.drew.heap.size (Gh.put_self ..) rfl (by simp [cI.len]; exact J) (fun j hj => by
     rw [lI]
     simp only [cI.e] at hj
     have Z : j < ((flat (List.replicate m A)).toArray ++ Builtin.zeroCells A.cells (C - m)).size := by
      simp only [Array.size_append, List.size_toArray, size_zeroCells, hfl, N]
      rw [← yt1]
      exact yn2 hj (yb2 _ (by omega))
     rw [yn1 Z]; rfl)
    simpa [cI.len] using this
   exact hk
  ·cases h
 ·cases h
theorem E2 {boxed vars : Bool} {b : Builtin} {ts : Array TypeId} {ty : TypeId} {consts : Array Bool} {rs : Nat} {args : List AV} {vs : Array Value} (hM : aT G w mem) (N : b = .append → mem[rs]? = some none)
  (h : eH P boxed vars b ts.toList mem rs args = some out) (A : o6 G w args vs) :
  ∃ s : Sem Value, builtin b ts ty consts vs = (do pure (Next.value (← s))) ∧ ∃ W O cv, s.run P w = .ok cv O ∧ VR W O out.v cv ∧ eA G W ∧ Ev G w O ∧ aT W O (out.apply mem) := by
 have U : ∀ j, vs.getD j undef = vs.toList.getD j undef := fun j => (dR vs j).symm
 unfold eH at h
 split at h
 ·rename_i t x H
  obtain ⟨n, hn, rfl⟩ := yf.1 h
  have z : ts = #[t] := by rw [← H, yz2]
  obtain ⟨x', rfl⟩ := Qa A.1.symm
  have hx := A.2 0 x rfl
  simp at hx
  subst z
  exact ⟨_, rfl, G, w, _, Iw hM hn hx, .lit _ rfl, eA.refl G, Ev.refl G w, by simpa [eM.apply, aQ] using hM⟩
 ·rename_i t V kn n H
  have z : ts = #[t, V] := by rw [← H, yz2]
  obtain ⟨x', Z, rfl⟩ := P1 A.1.symm
  have hx := A.2 0 _ rfl
  have J := A.2 1 _ rfl
  simp at hx J
  obtain rfl := hx.lit_inv
  obtain rfl := J.lit_inv
  subst z
  exact ⟨_, rfl, J3 hM (N rfl) h⟩
 ·rename_i t V x y hno H
  have z : ts = #[t, V] := by rw [← H, yz2]
  obtain ⟨x', Z, rfl⟩ := P1 A.1.symm
  have hx := A.2 0 x rfl
  have J := A.2 1 y rfl
  simp at hx J
  subst z
  exact ⟨_, rfl, E9 hM (N rfl) h hx J⟩
 ·rename_i t H
  have z : ts = #[t] := by rw [← H, yz2]
  obtain ⟨x', rfl⟩ := Qa A.1.symm
  have hx := A.2 0 _ rfl
  simp at hx
  obtain rfl := hx.lit_inv
  subst z
  split at h
  ·rename_i et hu
   obtain rfl := yb h
   exact ⟨_, rfl, G, w, .int .i64 0, by simp [Builtin.cap_, run_underlying hu, goInt], .lit _ rfl, eA.refl G, Ev.refl G w, by simpa [eM.apply, aQ] using hM⟩
  ·cases h
 ·rename_i k a r
  obtain ⟨v, M, rfl⟩ := yf.1 h
  have hx := A.2 0 _ rfl
  obtain ⟨x', K, hvs⟩ : ∃ x' K, vs.toList = x' :: K := by
   cases Y : vs.toList with
   | nil => have := A.1; rw [← yv1, Y] at this; simp at this
   | cons x' K => exact ⟨x', K, rfl⟩
  rw [U, hvs] at hx
  obtain rfl := hx.lit_inv
  have := rN (P := P) (G := G) (w := w) (op := Builtin.min2) (f := O4 k) (k := k) (fun a b => by simp [Builtin.min2, O4, Bool.cond_decide]) M
   ⟨by have := A.1; rw [← yv1, hvs] at this; simpa using this, fun j y J => by have := A.2 (j + 1) y (by simpa using J); rw [U, hvs] at this; simpa using this⟩
  refine ⟨_, rfl, G, w, .int k v, ?_, .lit _ rfl, eA.refl G, Ev.refl G w, by simpa [eM.apply, aQ] using hM⟩
  simp only [Builtin.min_, hvs]
  exact this
 ·rename_i k a r
  obtain ⟨v, M, rfl⟩ := yf.1 h
  have hx := A.2 0 _ rfl
  obtain ⟨x', K, hvs⟩ : ∃ x' K, vs.toList = x' :: K := by
   cases Y : vs.toList with
   | nil => have := A.1; rw [← yv1, Y] at this; simp at this
   | cons x' K => exact ⟨x', K, rfl⟩
  rw [U, hvs] at hx
  obtain rfl := hx.lit_inv
  have := rN (P := P) (G := G) (w := w) (op := Builtin.max2) (f := OB k) (k := k) (fun a b => by simp [Builtin.max2, OB, Bool.cond_decide]) M
   ⟨by have := A.1; rw [← yv1, hvs] at this; simpa using this, fun j y J => by have := A.2 (j + 1) y (by simpa using J); rw [U, hvs] at this; simpa using this⟩
  refine ⟨_, rfl, G, w, .int k v, ?_, .lit _ rfl, eA.refl G, Ev.refl G w, by simpa [eM.apply, aQ] using hM⟩
  simp only [Builtin.max_, hvs]
  exact this
 ·simp at h
theorem aT.sameCells {G : Gh} {w A : World} {mem : a9} (hM : aT G w mem) (z : Ev G w A) (U : ∀ B o, cl A B o = cl w B o) (N : A.heap.size = w.heap.size) (hf : ∀ B, jI w B → jI A B) : aT G A mem where
 box b x h := by
  have hx := hM.box b x h
  obtain ⟨o, hl, hm⟩ := hx.loc
  refine ⟨hx.e, o, hl, ?_⟩
  cases o with
  | none => exact hm
  | some B =>
   obtain ⟨M, J, O, H, K⟩ := hm
   exact ⟨M, by rw [N]; exact J, hf B O, H.mono (eA.refl G) z (fun o _ => U B o), K⟩
 unset := hM.unset
 gens := hM.gens
 apart := hM.apart
 own B h := hM.own B (by rw [← N]; exact h)
 lab := hM.lab
 away β B o h := by rw [N]; exact hM.away β B o h
 glob := hM.glob.mono (fun _ _ h => h) (z.prot true)
theorem OH {w : World} {B : Nat} (hf : jI w B) :
  ∃ z, (∀ k, (markStringish ⟨B, k, none⟩).run P w = .ok () z) ∧ (∀ B' o, cl z B' o = cl w B' o) ∧ z.heap.size = w.heap.size ∧ z.output = w.output ∧ z.os = w.os ∧ z.tape = w.tape ∧ (∀ B', B' ≠ B → z.heap[B']? = w.heap[B']?) ∧
   (∀ B', jI w B' → jI z B') := by
 obtain ⟨c, el, H, J, M, O⟩ := hf
 refine ⟨w.freeze ⟨B, c.size, none⟩ 1, fun k => ?_, ?_⟩
 ·simp [markStringish, World.shape?, M]
 have N : (w.freeze ⟨B, c.size, none⟩ 1).heap[B]? = some (.cells c el (if H == J then (c.size, c.size + 1) else (min H c.size, max J (c.size + 1)))) := by
  unfold World.freeze
  rw [if_neg (by decide)]
  simp only [Array.getElem?_modify, if_true, M, yo]
 have A : ∀ B', B' ≠ B → (w.freeze ⟨B, c.size, none⟩ 1).heap[B']? = w.heap[B']? := fun B' e => by
  unfold World.freeze
  rw [if_neg (by decide)]
  simp only [Array.getElem?_modify]
  rw [if_neg (fun h => e h.symm)]
 have K : (w.freeze ⟨B, c.size, none⟩ 1).heap.size = w.heap.size := by
  unfold World.freeze
  rw [if_neg (by decide)]
  simp
 refine ⟨fun B' o => ?_, K, rfl, rfl, rfl, A, fun B' hf => ?_⟩
 ·by_cases e : B' = B
  ·subst e; unfold cl World.cell?; simp [N, M]
  ·exact iL (A B' e) o
 ·by_cases e : B' = B
  ·subst e
   by_cases h : H = J
   ·exact ⟨c, el, c.size, c.size + 1, by rw [N]; simp [h], .inr (yz _)⟩
   ·have U : c.size ≤ H := O.resolve_left h
    exact ⟨c, el, min H c.size, max J (c.size + 1), by rw [N]; simp [h], .inr (by omega)⟩
  ·exact hf.of_heap (A B' e)
theorem Db {boxed : Bool} {H dst : TypeId} {rs : Nat} {x : AV} {cv : Value} (hM : aT G w mem) (h : kH P boxed H dst mem rs x = some out) (hx : VR G w x cv) :
  ∃ V A r, (convert H dst cv).run P w = .ok r A ∧ VR V A out.v r ∧ eA G V ∧ Ev G w A ∧ aT V A (out.apply mem) := by
 have still : ∀ {o : eM} {r : Value}, o.wr = [] → o.push = [] → (convert H dst cv).run P w = .ok r w → VR G w o.v r →
   ∃ V A r, (convert H dst cv).run P w = .ok r A ∧ VR V A o.v r ∧ eA G V ∧ Ev G w A ∧ aT V A (o.apply mem) :=
  fun h1 h2 hr hv => ⟨G, w, _, hr, hv, eA.refl G, Ev.refl G w, by simp only [eM.apply, h1, h2, aQ, yu1]; exact hM⟩
 unfold kH at h
 split at h
 ·rename_i k1 k n kk J W
  obtain rfl := yb h
  obtain rfl := hx.lit_inv
  exact still rfl rfl (by simp [convert, run_underlying J, run_underlying W, Conv.intToInt]) (.lit _ rfl)
 ·rename_i s J W
  obtain rfl := yb h
  obtain rfl := hx.lit_inv
  exact still rfl rfl (by simp [convert, run_underlying J, run_underlying W]) (.lit _ rfl)
 ·rename_i e J W
  split at h
  ·rename_i he
   rw [bind_some] at h; obtain ⟨v, hv, h⟩ := h
   rw [aB] at h; obtain ⟨hg, h⟩ := h
   simp only [yc] at hg
   obtain ⟨vw, rd⟩ := v
   simp only at h hv
   split at h
   ·rename_i xs
    obtain rfl := yb h
    have ht : k7 P e = some 1 := by
     have := hg.2
     split at this
     ·assumption
     ·simp at this
    exact still rfl rfl (GY hM J he W hv ht hg.1 hx) (.lit _ rfl)
   ·simp at h
  ·simp at h
 ·rename_i e0 e b g J W
  split at h
  ·rename_i he
   rw [aB] at h; obtain ⟨N, h⟩ := h
   rw [bind_some] at h; obtain ⟨bx, hbx, h⟩ := h
   rw [aB] at h; obtain ⟨h1, h⟩ := h
   obtain rfl := yb h
   have N := cY.1 N
   have h1 := eT.1 h1
   have K := box?_some hbx
   obtain ⟨o, hl, hm⟩ := (hM.box b bx K.1).loc
   rw [K.2] at hl
   have U : ∃ B cap, cv = .slice (some ⟨B, 0, none⟩) bx.row.len cap ∧ G.mine B ∧ jI w B := by
    cases hx with
    | msw _ _ cap L B z hb hn hf =>
     rw [hl] at z
     obtain rfl := yb z
     simp only at hb; subst hb
     exact ⟨B, cap, rfl, hm.1, hm.2.2.1⟩
    | mswNil _ _ L z hb hn =>
     rw [hl] at z
     obtain rfl := yb z
     simp only at hn; omega
   obtain ⟨B, cap, rfl, O, hF⟩ := U
   obtain ⟨w1, hrun, hc, Y, ho, hos, htp, hne, Z⟩ := OH (P := P) hF
   have M : Ev G w w1 := ⟨by rw [Y]; exact yz _, ho, hos, fun B' _ hn => hne B' (fun e => hn (by rw [e]; exact O)), fun B' j J => by rw [hc]; exact J, fun _ B' j _ => hc B' j,
    fun B' j hj => by
     by_cases e : B' = B
     ·subst e; rw [hF.cell hj, (Z _ hF).cell (by rw [hc]; exact hj)]
     ·exact Dt (hne B' e) j, htp⟩
   refine ⟨G, w1, _, ?_, hx.mono (eA.refl G) M, eA.refl G, M, by simp only [eM.apply, aQ, yu1]; exact hM.sameCells M hc Y Z⟩
   subst N
   simp [convert, run_underlying J, run_underlying he, hrun] <;> simp_all [run_underlying]
  ·simp at h
 ·simp at h
end
end Go.Ab
end
section
namespace Go.Ab
variable [cD]
section
variable {P : Program}
variable {G : Gh} {w : World} {mem : a9} {o : Oper} {a : Act} {out : eM}
theorem ID {c x y r : AV} {z H J : Value} (h : Fp c x y = some r) (K : VR G w c z) (hx : VR G w x H) (A : VR G w y J) :
  ∃ t, z = .bool t ∧ VR G w r (if t then H else J) := by
 unfold Fp at h
 split at h
 ·rename_i t
  obtain rfl := K.lit_inv
  refine ⟨t, rfl, ?_⟩
  split at h
  ·obtain rfl := yb h
   obtain rfl := hx.lit_inv
   obtain rfl := A.lit_inv
   cases t <;> exact .lit _ rfl
  ·cases t with
   | true => simp only [yg] at h; obtain rfl := yb h; exact hx
   | false => simp only [ye] at h; obtain rfl := yb h; exact A
 ·simp at h
theorem Mt {x : Operand} (h : rO x = true) : x = .const (.slice none 0 0) := by
 unfold rO at h
 split at h
 ·rfl
 ·cases h
theorem yP {t : TypeId} {p : PV} (h : pZ P t = some p) : (∃ k, p = .ints k []) ∨ ∃ e, p = .sl e [] ∧ 1 ≤ e := by
 unfold pZ at h
 rw [bind_some] at h; obtain ⟨et, _, h⟩ := h
 split at h
 ·rename_i k _; exact .inl ⟨k, (yb h).symm⟩
 ·rw [bind_some] at h; obtain ⟨e, _, h⟩ := h
  rw [aB] at h
  exact .inr ⟨e, (yb h.2).symm, eT.1 h.1⟩
theorem Ej {boxed vars : Bool} {ρ : Operand → Option AV} {rs : Nat} {t : TypeId} {x : Operand} (hM : aT G w mem) (U : rO x = true → mem[rs]? = some none) (Y : Pl G w ρ a)
  (H : execOp a.eval o = pure (Next.value (a.eval x))) (h : qM P boxed vars ρ t rs x = some out) : s0 P G w mem o a out := by
 unfold qM at h
 cases K : (rO x && boxed && !vars) with
 | true =>
  rw [K] at h; simp only [yg] at h
  simp only [yc] at K
  obtain rfl := Mt K.1.1
  rw [bind_some] at h; obtain ⟨p, M, h⟩ := h
  obtain ⟨row, z, rfl⟩ := yf.1 h
  have hm := U rfl
  have N : rs < mem.length := by
   rcases ya2 rs mem.length with h | h
   ·exact h
   ·rw [ya1 h] at hm; cases hm
  have J : 1 ≤ row.e ∧ row.len = 0 ∧ row.isCells = false := by
   rcases yP M with ⟨k, rfl⟩ | ⟨e, rfl, H⟩
   ·obtain rfl := yb z; exact ⟨yz _, rfl, rfl⟩
   ·obtain rfl := yb z; exact ⟨H, rfl, rfl⟩
  obtain ⟨Z, hg, hl, O⟩ := Fy (b := rs) (g' := 0) (row' := row) hM N (fun g _ => hM.unset rs g (fun y V => by rw [hm] at V; cases V)) J.1 J.2.1 J.2.2
  refine mK.opW ⟨Z, w, .value (a.eval (.const (.slice none 0 0))), _, by rw [H]; simp, .inl rfl, ?_, hg, Ev.refl G w, by simpa [eM.apply, aQ] using O⟩
  exact .mswNil rs 0 _ hl rfl J.2.1
 | false =>
  rw [K] at h; simp only [ye] at h
  rw [bind_some] at h; obtain ⟨v, W, h⟩ := h
  have A := Y _ _ W
  split at h
  ·cases boxed with
   | true => simp only [yg] at h; obtain rfl := yb h; exact s0.plain hM H rfl rfl A
   | false =>
    simp only [ye] at h
    obtain ⟨p, M, rfl⟩ := yf.1 h
    refine s0.plain hM H rfl rfl ?_
    rw [A.lit_inv]
    rcases yP M with ⟨k, rfl⟩ | ⟨e, rfl, _⟩
    ·exact .imm _ _ _ (.intsNil k _) rfl
    ·exact .imm _ _ _ (.slNil e _) rfl
  ·obtain rfl := yb h; exact s0.plain hM H rfl rfl A
theorem GC {ρ : Operand → Option AV} {t : TypeId} {x ix : Operand} (hM : aT G w mem) (hρ : Pl G w ρ a)
  (he : execOp a.eval o = (do pure (Next.value (← Instr.index t (a.eval x) (a.eval ix))))) (h : oV P ρ t x ix = some out) : s0 P G w mem o a out := by
 unfold oV at h
 rw [bind_some] at h; obtain ⟨vx, hx, h⟩ := h
 rw [bind_some] at h; obtain ⟨vi, z, h⟩ := h
 have M := hρ _ _ hx
 have J := hρ _ _ z
 split at h
 ·rename_i cs k i
  split at h
  ·rename_i n e W
   rw [bind_some] at h; obtain ⟨ag, V, h⟩ := h
   rw [bind_some] at h; obtain ⟨s, O, h⟩ := h
   rw [aB] at h; obtain ⟨hg, h⟩ := h
   simp only [yc, yy, decide_eq_true_eq] at hg
   obtain ⟨⟨⟨H, U⟩, h0⟩, hn⟩ := hg
   obtain rfl := cY.1 U
   obtain ⟨v, hv, rfl⟩ := yf.1 h
   obtain ⟨cvs, Z, N⟩ := M.agg_inv
   have Y := N.2 _ _ hv
   refine s0.still hM he rfl rfl (cv := cvs.getD i.toNat undef) ?_ Y
   rw [Z, J.lit_inv]
   have A : i.toNat < cvs.size := by
    rw [← N.1]; exact (yh.1 hv).1
   have := Hx (P := P) V O (cs := cvs) (o := i.toNat) w (.inr A)
   rw [H] at this
   simp only [yg2, if_false] at this
   simp only [Instr.index, asIntOf, Sem.run_bind, Sem.run_pure, Result.andThen_ok, run_underlying W, h0, hn, and_self, if_true, dV O, yi3, this]
  ·cases h
 ·rename_i s k i
  split at h
  ·rename_i W
   obtain ⟨b, K, rfl⟩ := yf.1 h
   refine s0.still hM he rfl rfl (cv := .int .u8 b) ?_ (.lit _ rfl)
   rw [M.lit_inv, J.lit_inv]
   obtain ⟨h0, A, K⟩ := Ai K
   have O : s[i.toNat]?.map (fun c : UInt8 => (c.toNat : Int)) = some b := by
    unfold cE at K
    rw [yh1] at K
    rw [← K, yk1]
    by_cases z : i.toNat < s.size
    ·rw [getElem?_pos s _ z, getElem?_pos s.data _ z]; rfl
    ·rw [getElem?_neg s _ z, getElem?_neg s.data _ z]
   obtain ⟨c, hc, rfl⟩ := yf.1 O
   simp only [Instr.index, asIntOf, Sem.run_bind, Sem.run_pure, Result.andThen_ok, run_underlying W, h0, if_true, hc]
  ·cases h
 ·cases h
theorem LU {C : bZ} {boxed raw vars : Bool} {ρ : Operand → Option AV} {rs : Nat} (hM : aT G w mem) (V : d9 o.op = true → mem[rs]? = some none) (M : Pl G w ρ a)
  (hcall : ∀ {raw keep : Bool} {g : FuncId} {ts : List TypeId} {fi args ca : List AV} {out : eM} {fv av cv : Array Value}, z7 P C raw keep g ts fi args ca mem = some out → o6 G w fi fv → o6 G w args av → o6 G w ca cv → Nr P G w mem g (fv ++ av ++ cv) out)
  (h : I0 P C boxed raw vars o ρ mem rs = some out) : s0 P G w mem o a out := by
 unfold I0 Eo z8 HI zF fA zO Iq Ie NN CB AH zG kM yY z9 oL Ep at h
 split at h
 ·rename_i x A
  exact Ej hM (fun hn => V (by rw [A]; exact hn)) M (by simp only [execOp, A]) h
 ·rename_i x A
  exact Ej hM (fun hn => V (by rw [A]; exact hn)) M (by simp only [execOp, A]) h
 ·rename_i c x y A
  rw [bind_some] at h; obtain ⟨vc, hc, h⟩ := h
  rw [bind_some] at h; obtain ⟨vx, hx, h⟩ := h
  rw [bind_some] at h; obtain ⟨vy, hy, h⟩ := h
  obtain ⟨r, Z, rfl⟩ := yf.1 h
  obtain ⟨t, ht, O⟩ := ID Z (M _ _ hc) (M _ _ hx) (M _ _ hy)
  refine mK.opW ⟨G, w, _, _, ?_, .inl rfl, O, eA.refl G, Ev.refl G w, by simpa [eM.apply, aQ] using hM⟩
  simp only [execOp, A, ht, asBool]
  cases t <;> simp
 ·rename_i t A
  rw [bind_some] at h; obtain ⟨z, hz, h⟩ := h
  rw [aB] at h; obtain ⟨N, h⟩ := h
  simp only [yc] at N
  obtain rfl := yb h
  exact (Jw hM A (V (by rw [A]; rfl)) hz (eT.1 N.1) N.2).opW
 ·rename_i t x A
  rw [bind_some] at h; obtain ⟨v, O, h⟩ := h
  rw [bind_some] at h; obtain ⟨n, hn, h⟩ := h
  rw [aB] at h; obtain ⟨N, h⟩ := h
  simp only [yc] at N
  obtain rfl := yb h
  exact (M3 hM A (V (by rw [A]; rfl)) (M _ _ O) (cY.1 N.1.1) (eT.1 N.1.2) N.2).opW
 ·rename_i t parts A
  rw [bind_some] at h; obtain ⟨ps, hps, h⟩ := h
  obtain ⟨v, O, rfl⟩ := yf.1 h
  obtain ⟨cv, J, H⟩ := Gn O (CG M hps)
  exact s0.still hM (by simp only [execOp, A] <;> rfl) rfl rfl J H
 ·rename_i t len parts A
  rw [bind_some] at h; obtain ⟨et, het, h⟩ := h
  rw [bind_some] at h; obtain ⟨z, hz, h⟩ := h
  rw [bind_some] at h; obtain ⟨s, hs, h⟩ := h
  rw [bind_some] at h; obtain ⟨ps, hps, h⟩ := h
  rw [aB] at h; obtain ⟨N, h⟩ := h
  rw [bind_some] at h; obtain ⟨wv, hwv, h⟩ := h
  rw [aB] at h; obtain ⟨hwe, h⟩ := h
  obtain ⟨ov, hov, rfl⟩ := yf.1 h
  exact s0.value (by simp only [execOp, A] <;> rfl) (B1 hM (V (by rw [A]; rfl)) het hz hs N hwv hwe hov (CG M hps))
 ·rename_i t x A
  rw [bind_some] at h; obtain ⟨v, O, h⟩ := h
  obtain ⟨r, rd, rfl, cv, J, H⟩ := BM hM h (M _ _ O)
  exact s0.still hM (by simp only [execOp, A] <;> rfl) rfl rfl J H
 ·rename_i t x y A
  rw [bind_some] at h; obtain ⟨vx, hx, h⟩ := h
  rw [bind_some] at h; obtain ⟨vy, hy, h⟩ := h
  obtain ⟨hov, G', w', J, N, hev, hM'⟩ := Gl hM h (M _ _ hx) (M _ _ hy)
  refine mK.opW ⟨G', w', .skip, undef, ?_, .inr ⟨rfl, rfl⟩, by rw [hov]; exact .lit _ rfl, N, hev, hM'⟩
  simp only [execOp, A, Sem.run_bind, J, Result.andThen_ok, Sem.run_pure]
 ·rename_i x A
  rw [bind_some] at h; obtain ⟨v, O, h⟩ := h
  have H := M _ _ O
  split at h
  ·obtain rfl := yb h
   refine s0.plain hM (cv := a.eval x) ?_ rfl rfl H
   simp only [execOp, A]
   generalize a.eval x = cv at H
   cases H; simp only
  ·obtain rfl := yb h
   refine s0.plain hM (cv := a.eval x) ?_ rfl rfl H
   simp only [execOp, A]
   generalize a.eval x = cv at H
   cases H; simp only
  ·obtain rfl := yb h
   refine s0.plain hM (cv := a.eval x) ?_ rfl rfl H
   simp only [execOp, A]
   generalize a.eval x = cv at H
   cases H; simp only
  ·simp at h
 ·rename_i op t x y _ A
  rw [bind_some] at h; obtain ⟨vx, hx, h⟩ := h
  rw [bind_some] at h; obtain ⟨vy, hy, h⟩ := h
  obtain ⟨r, Z, rfl⟩ := yf.1 h
  obtain ⟨cv, h1, h2, H⟩ := Nv (x := x) (y := y) Z (M _ _ hx) (M _ _ hy)
  refine s0.still hM (s := do eqGuard op t x y (a.eval x) (a.eval y); binOp op t (a.eval x) (a.eval y)) (by simp only [execOp, A]) rfl rfl ?_ H
  simp only [Sem.run_bind, h1, Result.andThen_ok, h2]
 ·rename_i op _ x A
  rw [bind_some] at h; obtain ⟨vx, hx, h⟩ := h
  split at h
  ·obtain ⟨r, Z, rfl⟩ := yf.1 h
   have hvx := (M _ _ hx).lit_inv
   exact s0.still hM (by simp only [execOp, A] <;> rfl) rfl rfl (by rw [hvx]; exact Mk Z) (.lit _ (Gp Z))
  ·simp at h
 ·rename_i src dst x A
  rw [bind_some] at h; obtain ⟨vx, hx, h⟩ := h
  exact s0.value (by simp only [execOp, A] <;> rfl) (Db hM h (M _ _ hx))
 ·rename_i fn first cap A
  rw [bind_some] at h; obtain ⟨fi, hfi, h⟩ := h
  obtain ⟨ca, hca, rfl⟩ := yf.1 h
  have h1 := CJ M hfi
  have h2 := CJ M hca
  exact s0.still hM (by simp only [execOp, A] <;> rfl) rfl rfl (cv := .func fn (first.map a.eval) (cap.map a.eval)) (by simp [Instr.makeFunc]) (.fn fn fi ca _ _ h1.1 h2.1 h1.2 h2.2)
 ·rename_i t l c A
  rw [bind_some] at h; obtain ⟨et, het, h⟩ := h
  rw [bind_some] at h; obtain ⟨z, hz, h⟩ := h
  rw [bind_some] at h; obtain ⟨vl, hl, h⟩ := h
  rw [bind_some] at h; obtain ⟨vc, hc, h⟩ := h
  split at h
  ·rename_i k1 n k2 n'
   rw [aB] at h; obtain ⟨N, h⟩ := h
   simp only [yc, beq_iff_eq, decide_eq_true_eq] at N
   obtain ⟨⟨hnn, hn0⟩, Y⟩ := N
   subst hnn
   have Y := eT.1 Y
   obtain ⟨i, zv, hi, hzv, hov⟩ := oP hz
   have hzr : VR G w z zv := oQ hov
   have el := (M _ _ hl).lit_inv
   have ec := (M _ _ hc).lit_inv
   obtain ⟨m, rfl⟩ : ∃ m : Nat, n = (m : Int) := ⟨n.toNat, by omega⟩
   rw [yb1] at Y h
   refine s0.value (s := Instr.makeSlice t (.int k1 (m : Int)) (.int k2 (m : Int))) (by simp only [execOp, A, el, ec]) ?_
   have Z := V (by rw [A]; rfl)
   split at h
   ·rename_i k hk
    rw [bind_some] at h; obtain ⟨e, he, h⟩ := h
    rw [bind_some] at h; obtain ⟨bytes, W, h⟩ := h
    rw [bind_some] at h; obtain ⟨zs, hzs, h⟩ := h
    rw [aB] at h; obtain ⟨N, h⟩ := h
    simp only [yc] at N
    obtain rfl := cY.1 N.1
    have hb := eT.1 N.2
    obtain ⟨O, hsz⟩ := Jj (n := m) hzs hzr
    exact q7 hM Z (v9 het) hi hzv (by unfold k7 at he; rw [hi] at he; simpa using he) (yz _) (by unfold lW at W; rw [hi] at W; simp at W; omega) Y hsz O (by simp [aO.len]) rfl h
   ·rw [bind_some] at h; obtain ⟨q, hq, h⟩ := h
    rw [bind_some] at h; obtain ⟨e, he, h⟩ := h
    rw [bind_some] at h; obtain ⟨bytes, W, h⟩ := h
    rw [aB] at h; obtain ⟨N, h⟩ := h
    simp only [yc] at N
    obtain ⟨⟨⟨g1, g2⟩, g3⟩, g4⟩ := N
    have g1 := eT.1 g1; have g2 := eT.1 g2; have g3 := cY.1 g3; have g4 := mN g4
    obtain ⟨O, hsz⟩ := FW (n := m) hM hq hzr g3 g1 g4
    exact q7 hM Z (v9 het) hi hzv (by unfold k7 at he; rw [hi] at he; simpa using he) g1 (by unfold lW at W; rw [hi] at W; simp at W; omega) Y hsz O (by simp [aO.len]) rfl h
  ·simp at h
 ·rename_i t x lo hi mx A
  rw [bind_some] at h; obtain ⟨vx, hx, h⟩ := h
  rw [bind_some] at h; obtain ⟨vl, hl, h⟩ := h
  rw [bind_some] at h; obtain ⟨vh, hh, h⟩ := h
  rw [bind_some] at h; obtain ⟨vm, hm, h⟩ := h
  obtain ⟨h1, h2, cv, J, H⟩ := Gq hM h (M _ _ hx) (AS M hl) (AS M hh) (AS M hm)
  exact s0.still hM (by simp only [execOp, A] <;> rfl) h1 h2 J H
 ·rename_i s x f A
  rw [bind_some] at h; obtain ⟨vx, hx, h⟩ := h
  rw [bind_some] at h; obtain ⟨q, hq, h⟩ := h
  have H := M _ _ hx
  split at h
  ·rename_i b g i c
   obtain rfl := yb h
   generalize U : a.eval x = cv at H
   cases H with
   | ptr _ _ _ _ L B hl hb =>
    refine s0.still hM (by simp only [execOp, A] <;> rfl) rfl rfl (by rw [U]; exact BJ hq B _ w) ?_
    rw [yf3]
    exact .ptr b g i (c + q.1) L B hl hb
  ·rename_i β p c
   obtain rfl := yb h
   generalize U : a.eval x = cv at H
   cases H with
   | el _ _ _ B o cv hh Z =>
    refine s0.still hM (by simp only [execOp, A] <;> rfl) rfl rfl (by rw [U]; exact BJ hq B _ w) ?_
    rw [yf3]
    exact .el β p (c + q.1) B o cv hh Z
  ·simp at h
 ·rename_i s x f A
  rw [bind_some] at h; obtain ⟨vx, hx, h⟩ := h
  rw [bind_some] at h; obtain ⟨q, hq, h⟩ := h
  split at h
  ·rename_i cs
   rw [bind_some] at h; obtain ⟨ag, hag, h⟩ := h
   have key : ∃ v, (bif ag then guardB (Nat.ble (q.1 + q.2.1) cs.length) (some (AV.agg ((cs.drop q.1).take q.2.1))) else cs[q.1]?) = some v ∧ out = { v } := by
    cases ag with
    | true =>
     simp only [yg] at h ⊢
     rw [aB] at h; obtain ⟨N, h⟩ := h
     exact ⟨_, by rw [N]; rfl, (yb h).symm⟩
    | false =>
     simp only [ye] at h ⊢
     obtain ⟨v, O, rfl⟩ := yf.1 h
     exact ⟨v, O, rfl⟩
   obtain ⟨v, O, rfl⟩ := key
   obtain ⟨cv, J, H⟩ := Hh hq hag (M _ _ hx) O
   exact s0.still hM (by simp only [execOp, A] <;> rfl) rfl rfl J H
  ·simp at h
 ·rename_i t x ix A
  rw [bind_some] at h; obtain ⟨vx, hx, h⟩ := h
  rw [bind_some] at h; obtain ⟨vi, hi, h⟩ := h
  split at h
  ·rename_i k i
   have ei := (M _ _ hi).lit_inv
   obtain ⟨v, rd, rfl, cv, J, H⟩ := Ha (k := k) hM h (M _ _ hx)
   exact s0.still hM (by simp only [execOp, A] <;> rfl) rfl rfl (by rw [ei]; exact J) H
  ·simp at h
 ·rename_i t x ix A
  exact GC hM M (by simp only [execOp, A] <;> rfl) h
 ·rename_i t ix A
  rw [bind_some] at h; obtain ⟨vt, ht, h⟩ := h
  split at h
  ·rename_i vs
   obtain ⟨v, O, rfl⟩ := yf.1 h
   have H := M _ _ ht
   generalize U : a.eval t = cv at H
   cases H with
   | tup _ cvs hlen hh =>
    have hix : ix < cvs.size := by rw [← hlen]; exact (yh.1 O).1
    have := hh ix v O
    rw [ym, yn1 hix] at this
    refine s0.still hM (by simp only [execOp, A] <;> rfl) rfl rfl (cv := cvs[ix]) ?_ this
    rw [U]
    simp [Instr.extract, yn1 hix]
  ·simp at h
 ·rename_i c A
  rw [bind_some] at h; obtain ⟨args, hargs, h⟩ := h
  have hav := CJ M hargs
  split at h
  ·rename_i b hc
   obtain ⟨s, hs, hh⟩ := E2 (ty := o.type) (consts := c.args.map fun | .const _ => true | _ => false) hM (fun hb => V (by rw [A]; subst hb; unfold d9; obtain ⟨cc, _, _⟩ := c; simp only at hc; subst hc; rfl)) h hav
   refine s0.value (s := s) ?_ hh
   rw [← hs]
   simp only [execOp, A, resolve, hc, invoke]
   rfl
  ·rename_i f hc
   rw [bind_some] at h; obtain ⟨fv, hf, h⟩ := h
   split at h
   ·rename_i g fi ca
    have H := M _ _ hf
    generalize U : a.eval f = cv at H
    cases H with
    | fn _ _ _ fvs cvs h1 h2 hff hcc =>
     obtain ⟨hen, hcl⟩ := hcall h ⟨h1, hff⟩ hav ⟨h2, hcc⟩
     intro K Q hK
     unfold Oper.wp
     have hx : (execOp a.eval o).run P w = .ok (.enter g (fvs ++ c.args.map a.eval ++ cvs)) w := by
      simp only [execOp, A, resolve, hc, Deferred.ofValue, U, Sem.run_bind, Sem.run_pure, Result.andThen_ok, invoke]
      exact hen
     rw [hx]
     refine Calls.mono hcl fun e w' he => ?_
     obtain ⟨G', cv, rfl, O, N, hev, hM'⟩ := he
     exact hK G' w' cv O N hev hM'
   ·simp at h
  ·simp at h
 ·simp at h
end
end Go.Ab
end
section
namespace Go.Ab
variable [cD]
theorem eL (f : k9) : ∀ cs : List AV, AV.renAll f cs = cs.map (·.ren f)
 | [] => by simp [AV.renAll]
 | c :: cs => by simp [AV.renAll, eL f cs]
theorem iO : ∀ {cs : List AV} {j : Nat} {y : AV}, cs[j]? = some y → y.lent = true → AV.lentAny cs = true
 | [], j, y, h, _ => by simp at h
 | c :: cs, 0, y, h, hl => by simp at h; subst h; simp [AV.lentAny, hl]
 | c :: cs, j + 1, y, h, hl => by simp [AV.lentAny, iO (cs := cs) (j := j) (by simpa using h) hl]
def A9 (G G2 : Gh) (f : k9) : Prop := ∀ b g q L, f b g = some q → G.loc b g = some L → G2.loc q.1 q.2 = some L
theorem pS {f : k9} {cs : List AV} {j : Nat} {y : AV} (h : (AV.renAll f cs)[j]? = some y) : ∃ x, cs[j]? = some x ∧ y = x.ren f := by
 rw [eL, yh1] at h
 obtain ⟨x, hx, rfl⟩ := yf.1 h
 exact ⟨x, hx, rfl⟩
theorem VR.ren {G O : Gh} {w : World} {f : k9} {l : Bool} (M : A9 G O f) (Z : ∀ β B o, (β = true → l = true) → G.prot β B o → O.prot β B o) {a : AV} {v : Value} (h : VR G w a v) :
  (a.lent = true → l = true) → VR O w (a.ren f) v := by
 induction h with
 | lit v h => intro _; simp only [AV.ren]; exact .lit v h
 | imm β p v h hs => intro hl; simp only [AV.ren]; exact .imm β p v (h.mono (fun B o z => Z β B o (fun e => hl (by simp [AV.lent, e])) z) (fun _ _ _ => rfl)) hs
 | unkB b => intro _; simp only [AV.ren]; exact .unkB b
 | dead v h1 h2 => intro _; simp only [AV.ren]; exact .dead v h1 h2
 | ptr b g i c L B hl z =>
  intro _; simp only [AV.ren]
  split
  ·rename_i q H; exact .ptr q.1 q.2 i c L B (M b g q L H hl) z
  ·exact .dead _ rfl rfl
 | ms b g o n cap L B hl z hn K hf =>
  intro _; simp only [AV.ren]
  split
  ·rename_i q H; exact .ms q.1 q.2 o n cap L B (M b g q L H hl) z hn K hf
  ·exact .dead _ rfl rfl
 | msNil b g L hl z =>
  intro _; simp only [AV.ren]
  split
  ·rename_i q H; exact .msNil q.1 q.2 L (M b g q L H hl) z
  ·exact .dead _ rfl rfl
 | msZ b g o B oo L hl z ho K =>
  intro _; simp only [AV.ren]
  split
  ·rename_i q H; exact .msZ q.1 q.2 o B oo L (M b g q L H hl) z ho K
  ·exact .dead _ rfl rfl
 | msw b g cap L B hl z hn hf =>
  intro _; simp only [AV.ren]
  split
  ·rename_i q H; exact .msw q.1 q.2 cap L B (M b g q L H hl) z hn hf
  ·exact .dead _ rfl rfl
 | mswNil b g L hl z hn =>
  intro _; simp only [AV.ren]
  split
  ·rename_i q H; exact .mswNil q.1 q.2 L (M b g q L H hl) z hn
  ·exact .dead _ rfl rfl
 | el β p c B o cv h Y =>
  intro hl; simp only [AV.ren]
  have N : ∀ B o, G.prot β B o → O.prot β B o := fun B o z => Z β B o (fun e => hl (by simp [AV.lent, e])) z
  exact .el β p c B o cv (fun j y A => ⟨(h j y A).1, N _ _ (h j y A).2⟩) (fun j y A => (Y j y A).mono N (fun _ _ _ => rfl))
 | fn f' fi ca fv cv h1 h2 hf hc W U =>
  intro hl; simp only [AV.ren]
  refine .fn f' _ _ fv cv (by rw [eL]; simpa using h1) (by rw [eL]; simpa using h2) (fun j y A => ?_) (fun j y A => ?_)
  ·obtain ⟨x, hx, rfl⟩ := pS A
   exact W j x hx (fun e => hl (by simp [AV.lent, iO hx e]))
  ·obtain ⟨x, hx, rfl⟩ := pS A
   exact U j x hx (fun e => hl (by simp [AV.lent, iO hx e]))
 | agg cs cvs J h V =>
  intro hl; simp only [AV.ren]
  refine .agg _ cvs (by rw [eL]; simpa using J) (fun j y A => ?_)
  obtain ⟨x, hx, rfl⟩ := pS A
  exact V j x hx (fun e => hl (by simp [AV.lent, iO hx e]))
 | tup cs cvs J h V =>
  intro hl; simp only [AV.ren]
  refine .tup _ cvs (by rw [eL]; simpa using J) (fun j y A => ?_)
  obtain ⟨x, hx, rfl⟩ := pS A
  exact V j x hx (fun e => hl (by simp [AV.lent, iO hx e]))
def sQ : cI → Bool
 | .cells _ cs => AV.lentAny cs
 | .pvs β _ _ => β
 | .ints _ _ => false
theorem nB : ∀ {mem : a9} {b : Nat} {x : d8}, mem[b]? = some (some x) → sQ x.row = true → gN mem = true
 | [], b, x, h, _ => by simp at h
 | some y :: m, 0, x, h, hl => by
  simp at h; subst h
  obtain ⟨g, fz, row⟩ := y
  cases row <;> simp_all [gN, sQ]
 | none :: m, 0, x, h, hl => by simp at h
 | some y :: m, b + 1, x, h, hl => by simp [gN, nB (mem := m) (b := b) (by simpa using h) hl]
 | none :: m, b + 1, x, h, hl => by simp only [gN]; exact nB (mem := m) (b := b) (by simpa using h) hl
theorem lK (f : k9) (r : cI) : (r.ren f).e = r.e := by cases r <;> rfl
theorem iN (f : k9) (r : cI) : (r.ren f).len = r.len := by cases r <;> simp [cI.ren, cI.len, eL]
theorem eD (f : k9) (r : cI) : (r.ren f).isCells = r.isCells := by cases r <;> rfl
theorem pX.ren {G z : Gh} {w : World} {f : k9} {l : Bool} (K : A9 G z f) (J : ∀ β B o, (β = true → l = true) → G.prot β B o → z.prot β B o) {B : Nat} {r : cI} (h : pX G w B r) (hl : sQ r = true → l = true) :
  pX z w B (r.ren f) := by
 cases r with
 | ints k xs => exact h
 | pvs β e xs => exact ⟨h.1, fun i x c y hx A => by obtain ⟨v, h1, h2, H⟩ := h.2 i x c y hx A; exact ⟨v, h1, h2, H.mono (fun B o M => J β B o (fun e => hl (by simp [sQ, e])) M) (fun _ _ _ => rfl)⟩⟩
 | cells e cs =>
  refine ⟨by simpa [eL] using h.1, fun j y A => ?_⟩
  obtain ⟨x, hx, rfl⟩ := pS A
  obtain ⟨v, h1, h2, H⟩ := h.2 j x hx
  exact ⟨v, h1, h2, H.ren K J (fun e => hl (by simp [sQ, iO hx e]))⟩
theorem yZ : ∀ {ids : List Nat} {b n j : Nat}, rD b ids n = some j → ∃ i, j = n + i ∧ ids[i]? = some b
 | [], b, n, j, h => by simp [rD] at h
 | m :: r, b, n, j, h => by
  simp only [rD] at h
  cases z : Nat.beq m b with
  | true => rw [z] at h; simp at h; subst h; exact ⟨0, rfl, by simp [cY.1 z]⟩
  | false =>
   rw [z] at h; simp only [ye] at h
   obtain ⟨i, rfl, A⟩ := yZ h
   exact ⟨i + 1, by omega, by simpa using A⟩
theorem vZ : ∀ {ids : List Nat} {i j b : Nat}, dF ids = true → ids[i]? = some b → ids[j]? = some b → i = j
 | [], i, j, b, _, h, _ => by simp at h
 | m :: r, i, j, b, hn, A, H => by
  simp only [dF, yc, yy] at hn
  have z : ∀ k : Nat, r[k]? = some m → False := fun k J => by
   have := oH.2 (yj J)
   rw [this] at hn; simp at hn
  cases i with
  | zero =>
   cases j with
   | zero => rfl
   | succ j => simp at A H; subst A; exact (z j H).elim
  | succ i =>
   cases j with
   | zero => simp at A H; subst H; exact (z i A).elim
   | succ j => rw [vZ (ids := r) (i := i) (j := j) hn.2 (by simpa using A) (by simpa using H)]
def vD (G : Gh) (mem : a9) (ids : List Nat) : Nat → Nat → Option yW := fun j g => if g = 0 then (ids[j]?).bind fun b => (mX mem b).bind (G.loc b) else none
theorem l8 {mem : a9} {b g : Nat} : mX mem b = some g ↔ ∃ x, mem[b]? = some (some x) ∧ x.gen = g := by
 unfold mX
 split
 ·rename_i x hx; constructor
  ·intro h; exact ⟨x, hx, by simpa using h⟩
  ·rintro ⟨y, z, rfl⟩; rw [hx] at z; simp at z; subst z; rfl
 ·rename_i A; constructor
  ·intro h; simp at h
  ·rintro ⟨y, z, _⟩; exact absurd z (A y)
theorem Jg {mem : a9} {ids : List Nat} {b g : Nat} {q : Nat × Nat} (h : fZ mem ids b g = some q) : ∃ j, q = (j, 0) ∧ ids[j]? = some b ∧ mX mem b = some g := by
 unfold fZ at h
 split at h
 ·rename_i H K
  cases z : Nat.beq H g with
  | false => rw [z] at h; simp at h
  | true =>
   rw [z] at h; simp only [yg] at h
   obtain ⟨j, J, rfl⟩ := yf.1 h
   obtain ⟨i, rfl, A⟩ := yZ J
   rw [← cY.1 z]
   exact ⟨i, by simp, A, K⟩
 ·simp at h
theorem CK {G h : Gh} {mem : a9} {ids : List Nat} (hl : h.loc = vD G mem ids) : A9 G h (fZ mem ids) := by
 intro b g q L z hL
 obtain ⟨j, rfl, A, H⟩ := Jg z
 rw [hl]
 simp [vD, A, H, hL]
theorem eI (f : k9) (mem : a9) : ∀ (ids : List Nat) (j : Nat), (eQ f mem ids)[j]? = (ids[j]?).map fun b => match mem[b]? with | some (some x) => some { gen := 0, frz := x.frz, row := x.row.ren f } | _ => none
 | [], j => by simp [eQ]
 | b :: r, 0 => by simp only [eQ, yy2, yo]; rfl
 | b :: r, j + 1 => by simp [eQ, eI f mem r j]
theorem gM {f : k9} {mem : a9} {ids : List Nat} {j : Nat} {y : d8} (h : (eQ f mem ids)[j]? = some (some y)) : ∃ b x, ids[j]? = some b ∧ mem[b]? = some (some x) ∧ y = { gen := 0, frz := x.frz, row := x.row.ren f } := by
 rw [eI] at h
 obtain ⟨b, z, h⟩ := yf.1 h
 split at h
 ·rename_i x hx; exact ⟨b, x, z, hx, by simpa using h.symm⟩
 ·simp at h
theorem Eg {G A : Gh} {w : World} {mem : a9} {ids : List Nat} (hM : aT G w mem) (hn : dF ids = true) (z : A.loc = vD G mem ids) (hp : ∀ β B o, G.prot β B o → A.prot β B o)
  (Y : ∀ (b : Nat) (x : d8) (L : yW) (B : Nat), b ∈ ids → mem[b]? = some (some x) → x.frz = false → G.loc b x.gen = some L → L.blk = some B → ∀ β o, ¬ A.prot β B o)
  (K : ∀ (b : Nat) (x : d8) (L : yW) (B : Nat), b ∈ ids → mem[b]? = some (some x) → G.loc b x.gen = some L → L.blk = some B → A.mine B) (U : ∀ B, w.heap.size ≤ B → A.mine B)
  (W : ∀ B o, A.prot false B o → A.prot true B o) (J : ∀ β B o, A.prot β B o → B < w.heap.size) : aT A w (eQ (fZ mem ids) mem ids) := by
 have hr := CK z
 have l0 : ∀ {j b : Nat} {x : d8}, ids[j]? = some b → mem[b]? = some (some x) → A.loc j 0 = G.loc b x.gen := by
  intro j b x hj hx
  rw [z]; simp [vD, hj, l8.2 ⟨x, hx, rfl⟩]
 refine ⟨fun j y h => ?_, fun j g h => ?_, fun j y g h Z => ?_, fun j j' y y' L L' B h h' hl M hk hk' => ?_, U, W, J, hM.glob.mono (hp true) fun _ _ _ => rfl⟩
 ·obtain ⟨b, x, H, hx, rfl⟩ := gM h
  have V := hM.box b x hx
  obtain ⟨o, hl, hm⟩ := V.loc
  refine ⟨by simp only [lK]; exact V.e, o, ?_, ?_⟩
  ·simp only [lK, iN]; rw [l0 H hx]; exact hl
  ·cases o with
   | none => simp only [iN, eD]; exact hm
   | some B =>
    obtain ⟨h1, h2, h3, h4, h5⟩ := hm
    exact ⟨K b x _ B (yj H) hx hl rfl, h2, h3, h4.ren (l := true) hr (fun β B o _ => hp β B o) (fun _ => rfl), fun hf => Y b x _ B (yj H) hx hf hl rfl⟩
 ·rw [z]; unfold vD
  split
  ·cases hj : ids[j]? with
   | none => rfl
   | some b =>
    simp only [ya]
    cases hg : mX mem b with
    | none => rfl
    | some g' =>
     obtain ⟨x, hx, _⟩ := l8.1 hg
     exact absurd (by rw [eI, hj]; simp [hx]) (h { gen := 0, frz := x.frz, row := x.row.ren (fZ mem ids) })
  ·rfl
 ·obtain ⟨b, x, H, hx, rfl⟩ := gM h
  rw [z]; unfold vD
  rw [if_neg (by simp only at Z; omega)]
 ·obtain ⟨b, x, H, hx, rfl⟩ := gM h
  obtain ⟨b', x', N, O, rfl⟩ := gM h'
  simp only at hl M
  rw [l0 H hx] at hl; rw [l0 N O] at M
  obtain rfl := hM.apart b b' x x' L L' B hx O hl M hk hk'
  exact vZ hn H N
end Go.Ab
end
section
namespace Go.Ab
variable [cD]
theorem Bh : ∀ {n i : Nat} {ids : List Nat} {j : Nat}, sN i n ids = true → j < n → ids[j]? = some (i + j)
 | 0, i, ids, j, _, h => by omega
 | n + 1, i, [], j, h, _ => by simp [sN] at h
 | n + 1, i, b :: r, j, h, hj => by
  simp only [sN, yc] at h
  cases j with
  | zero => simp [cY.1 h.1]
  | succ j => rw [yx1, Bh h.2 (by omega)]; congr 1; omega
theorem oN : ∀ {old : List (Option Bool)} {mem : a9} {j : Nat}, nG old mem = true →
  (∀ k, old[j]? = some (some k) → ∃ x, mem[j]? = some (some x) ∧ x.row.isCells = k ∧ (k = true → x.gen = 0)) ∧ (old[j]? = some none → mem[j]? = some none)
 | [], mem, j, h => by simp
 | some k :: r, [], j, h => by simp [nG] at h
 | none :: r, [], j, h => by simp [nG] at h
 | some k :: r, none :: m, j, h => by simp [nG] at h
 | none :: r, some x :: m, j, h => by simp [nG] at h
 | none :: r, none :: m, 0, h => by simp
 | none :: r, none :: m, j + 1, h => by
  simp only [nG] at h
  simpa using oN (j := j) h
 | some k :: r, some x :: m, 0, h => by
  simp only [nG, yc] at h
  refine ⟨fun k' z => ?_, by simp⟩
  simp at z; subst z
  refine ⟨x, rfl, ?_, fun z => ?_⟩
  ·cases k <;> simp_all
  ·subst z; simp at h; exact h.1.2
 | some k :: r, some x :: m, j + 1, h => by
  simp only [nG, yc] at h
  simpa using oN (j := j) h.2
theorem Bg {G : Gh} {w : World} {mem : a9} {old : List (Option Bool)} {vs : List AV} {r : List AV × a9} (hM : aT G w mem) (h : rQ old vs mem = some r) :
  ∃ f H, r.1 = AV.renAll f vs ∧ H.mine = G.mine ∧ H.prot = G.prot ∧ aT H w r.2 ∧ A9 G H f ∧ (∀ j, old[j]? = some (some true) → ∀ L, G.loc j 0 = some L → H.loc j 0 = some L) ∧
   (∀ (j : Nat) (y : d8), r.2[j]? = some (some y) → y.gen = 0) ∧ (∀ (j : Nat) (k : Bool), old[j]? = some (some k) → ∃ y : d8, r.2[j]? = some (some y) ∧ y.row.isCells = k) ∧ (∀ j : Nat, old[j]? = some none → r.2[j]? = some none) := by
 unfold rQ at h
 generalize fN mem (cZ mem (old.length + (AV.refsAll vs).length)) (iI 0 old.length ++ AV.refsAll vs) [] = ids at h
 simp only at h
 rw [aB] at h; obtain ⟨M, h⟩ := h
 simp only [yc] at M
 obtain ⟨⟨K, U⟩, N⟩ := M
 obtain rfl := yb h
 have A : ∀ j, j < old.length → ids[j]? = some j := fun j z => by rw [Bh N z, yj1]
 refine ⟨fZ mem ids, ⟨vD G mem ids, G.prot, G.mine⟩, rfl, rfl, rfl, ?_, CK rfl, fun j z L hL => ?_, fun j y W => ?_, fun j k z => ?_, fun j z => ?_⟩
 ·refine Eg hM U rfl (fun _ _ _ h => h) (fun b x L B _ hx hf hl hB => ?_) (fun b x L B _ hx hl hB => hM.mine hx hl hB) hM.own hM.lab hM.away
  obtain ⟨o, J, hm⟩ := (hM.box b x hx).loc
  rw [hl] at J
  obtain rfl := yb J
  simp only at hB; subst hB
  exact hm.2.2.2.2 hf
 ·obtain ⟨x, hx, _, V⟩ := (oN (j := j) K).1 true z
  have := A j (yh.1 z).1
  simp [vD, this, l8.2 ⟨x, hx, V rfl⟩, hL]
 ·obtain ⟨b, x, _, _, rfl⟩ := gM W; rfl
 ·obtain ⟨x, hx, O, _⟩ := (oN (j := j) K).1 k z
  refine ⟨{ gen := 0, frz := x.frz, row := x.row.ren (fZ mem ids) }, ?_, by simp only [eD]; exact O⟩
  rw [eI, A j (yh.1 z).1]; simp [hx]
 ·have hx := (oN (j := j) K).2 z
  rw [eI, A j (yh.1 z).1]; simp [hx]
def Gh.lend (G : Gh) (S : Nat → Nat → Prop) : Gh := { G with prot := fun β B o => G.prot β B o ∨ (β = true ∧ S B o) }
theorem eA.lend (G : Gh) (S : Nat → Nat → Prop) (hS : ∀ B o, S B o → G.mine B) : eA G (G.lend S) := ⟨rfl, fun _ _ _ h => .inl h, fun _ _ _ h => h, fun _ B o h => h.imp id (fun h => hS B o h.2)⟩
section
variable {P : Program}
theorem Lp {mem : a9} {n : Nat} {l : LK} {v : AV} {r : Bool × PV × List Nat} (h : bK P mem n l v = some r) (z : (∃ b g, v = .msw b g) ∨ (∃ b g o m, v = .ms b g o m)) : r.2.1.isSl = true := by
 have hI : ∀ {k : IntKind} {b : Nat} {w : aO} {r : Bool × PV × List Nat}, bK.treeInts k b w = some r → r.2.1.isSl = true := by
  intro k b w r h
  unfold bK.treeInts at h
  split at h
  ·rw [aB] at h; obtain ⟨_, h⟩ := h; obtain rfl := yb h; rfl
  ·rw [aB] at h; obtain ⟨_, h⟩ := h; obtain ⟨xs, _, rfl⟩ := yf.1 h; rfl
  ·simp at h
 have hS : ∀ {f : LK → AV → Option (Bool × PV × List Nat)} {t : TypeId} {e b : Nat} {w : aO} {r : Bool × PV × List Nat}, bK.treeSl P f t e b w = some r → r.2.1.isSl = true := by
  intro f t e b w r h
  unfold bK.treeSl at h
  split at h
  ·rw [aB] at h; obtain ⟨_, h⟩ := h; obtain rfl := yb h; rfl
  ·rw [aB] at h; obtain ⟨_, h⟩ := h
   rw [bind_some] at h; obtain ⟨_, _, h⟩ := h
   obtain ⟨xs, _, rfl⟩ := yf.1 h; rfl
  ·simp at h
 cases n with
 | zero => simp [bK] at h
 | succ n =>
  rcases z with ⟨b, g, rfl⟩ | ⟨b, g, o, m, rfl⟩
  ·cases l <;> simp only [bK] at h <;> first
    | (simp at h; done)
    | (rw [bind_some] at h; obtain ⟨x, _, h⟩ := h; exact hI h)
    | (rw [bind_some] at h; obtain ⟨x, _, h⟩ := h; exact hS h)
  ·cases l <;> simp only [bK] at h <;> first
    | (simp at h; done)
    | (rw [bind_some] at h; obtain ⟨x, _, h⟩ := h; rw [bind_some] at h; obtain ⟨y, _, h⟩ := h; exact hI h)
    | (rw [bind_some] at h; obtain ⟨x, _, h⟩ := h; rw [bind_some] at h; obtain ⟨y, _, h⟩ := h; exact hS h)
theorem mH {G : Gh} {w : World} {mem : a9} {S : List Nat} {l : LK} {v : AV} {r : AV × List Nat} {cv : Value} (hM : aT G w mem) (h : f9 P mem l v = some r) (M : VR G w v cv) (hS : ∀ b ∈ r.2, b ∈ S) :
  VR (G.lend (bH G mem S)) w r.1 cv := by
 have J : ∀ {q : Bool × PV × List Nat}, bK P mem iQ l v = some q → r = (.imm true q.2.1, q.2.2) → ((∃ b g, v = .msw b g) ∨ (∃ b g o m, v = .ms b g o m)) → VR (G.lend (bH G mem S)) w r.1 cv := by
  intro q A K hm
  subst K
  obtain ⟨N, _, _⟩ := pC hM A M
  refine .imm true _ _ (N.mono (fun B o z => ?_) (fun _ _ _ => rfl)) (Lp A hm)
  rcases z with z | z
  ·left
   cases H : q.1 with
   | true => rw [H] at z; exact z
   | false => rw [H] at z; exact hM.lab _ _ z
  ·exact .inr ⟨rfl, z.mono hS⟩
 unfold f9 at h
 split at h
 ·obtain ⟨q, A, K⟩ := yf.1 h
  exact J A K.symm (.inl ⟨_, _, rfl⟩)
 ·obtain ⟨q, A, K⟩ := yf.1 h
  exact J A K.symm (.inr ⟨_, _, _, _, rfl⟩)
 ·obtain rfl := yb h
  exact M.mono (eA.lend G _ hM.inBoxes) (Ev.refl G w)
theorem p7 {G : Gh} {w : World} {mem : a9} {S : List Nat} (hM : aT G w mem) : ∀ {J : List LK} {vs : List AV} {r : List AV × List Nat} {us : List Value}, bQ P mem J vs = some r → jH G w vs us → (∀ b ∈ r.2, b ∈ S) →
  jH (G.lend (bH G mem S)) w r.1 us
 | [], [], r, us, h, z, _ => by
  simp [bQ] at h; subst h
  exact ⟨z.1, fun j y A => by simp at A⟩
 | [], v :: vs, r, us, h, _, _ => by simp [bQ] at h
 | l :: J, [], r, us, h, _, _ => by simp [bQ] at h
 | l :: J, v :: vs, r, [], h, z, _ => by simp [jH] at z
 | l :: J, v :: vs, r, u :: us, h, z, hS => by
  simp only [bQ] at h
  rw [bind_some] at h; obtain ⟨a, K, h⟩ := h
  rw [bind_some] at h; obtain ⟨b, H, h⟩ := h
  obtain rfl := yb h
  have h1 := mH hM K (z.2 0 v rfl) (fun b H => hS b (yr1 _ H))
  have h2 := p7 hM H (us := us) ⟨by simpa using z.1, fun j y A => by simpa using z.2 (j + 1) y (by simpa using A)⟩ (fun b H => hS b (ys1 _ H))
  refine ⟨by simp [h2.1], fun j y A => ?_⟩
  cases j with
  | zero => simp at A; subst A; exact h1
  | succ j => simpa using h2.2 j y (by simpa using A)
theorem Jt {G : Gh} {w : World} {mem : a9} {S : List Nat} {t : TypeId} {v : AV} {r : AV × List Nat} {cv : Value} (hM : aT G w mem) (h : lend P mem t v = some r) (A : VR G w v cv) (hS : ∀ b ∈ r.2, b ∈ S) :
  VR (G.lend (bH G mem S)) w r.1 cv := by
 have z := fun {a : AV} {u : Value} (h : VR G w a u) => h.mono (eA.lend G _ (hM.inBoxes (ids := S))) (Ev.refl G w)
 unfold lend at h
 split at h
 ·rw [bind_some] at h; obtain ⟨l, hl, h⟩ := h
  exact mH hM h A hS
 ·rw [bind_some] at h; obtain ⟨l, hl, h⟩ := h
  exact mH hM h A hS
 ·rename_i cs
  cases H : Ga cs with
  | true =>
   rw [H] at h; simp only [yg] at h
   rw [bind_some] at h; obtain ⟨ls, N, h⟩ := h
   obtain ⟨q, M, rfl⟩ := yf.1 h
   obtain ⟨cvs, rfl, K⟩ := A.agg_inv
   have := p7 (us := cvs.toList) hM M ⟨by simpa using K.1, fun j y J => by rw [dR]; exact K.2 j y J⟩ hS
   exact .agg _ cvs (by simpa using this.1) (fun j y J => by rw [← dR]; exact this.2 j y J)
  | false =>
   rw [H] at h; simp only [ye] at h
   obtain rfl := yb h
   exact z A
 ·obtain rfl := yb h
  exact z A
theorem vG {G : Gh} {w : World} {mem : a9} {S : List Nat} (hM : aT G w mem) : ∀ {ts : List TypeId} {vs : List AV} {r : List AV × List Nat} {us : List Value}, fS P mem ts vs = some r → jH G w vs us → (∀ b ∈ r.2, b ∈ S) →
  jH (G.lend (bH G mem S)) w r.1 us
 | [], [], r, us, h, z, _ => by
  simp [fS] at h; subst h
  exact ⟨z.1, fun j y A => by simp at A⟩
 | [], v :: vs, r, us, h, _, _ => by simp [fS] at h
 | l :: J, [], r, us, h, _, _ => by simp [fS] at h
 | l :: J, v :: vs, r, [], h, z, _ => by simp [jH] at z
 | l :: J, v :: vs, r, u :: us, h, z, hS => by
  simp only [fS] at h
  rw [bind_some] at h; obtain ⟨a, K, h⟩ := h
  rw [bind_some] at h; obtain ⟨b, H, h⟩ := h
  obtain rfl := yb h
  have h1 := Jt hM K (z.2 0 v rfl) (fun b H => hS b (yr1 _ H))
  have h2 := vG hM H (us := us) ⟨by simpa using z.1, fun j y A => by simpa using z.2 (j + 1) y (by simpa using A)⟩ (fun b H => hS b (ys1 _ H))
  refine ⟨by simp [h2.1], fun j y A => ?_⟩
  cases j with
  | zero => simp at A; subst A; exact h1
  | succ j => simpa using h2.2 j y (by simpa using A)
theorem Ii {G : Gh} {w : World} {mem : a9} {S : List Nat} (hM : aT G w mem) {keep : Bool} {ts : List TypeId} {vs : List AV} {r : List AV × List Nat} {us : List Value} (h : Iz P keep mem ts vs = some r) (z : jH G w vs us) (hS : ∀ b ∈ r.2, b ∈ S) :
  jH (G.lend (bH G mem S)) w r.1 us := by
 cases keep with
 | true =>
  obtain rfl := yb h
  exact ⟨z.1, fun j y A => (z.2 j y A).mono (eA.lend G (bH G mem S) hM.inBoxes) (Ev.refl G w)⟩
 | false => exact vG hM h z hS
structure Pb (G : Gh) (w : World) (mem : a9) (r : AV × a9) (G' : Gh) (w' : World) (cv : Value) : Prop where
 v : VR G' w' r.1 cv
 ev : Ev G w w'
 mine : G'.mine = G.mine
 prot : ∀ β B o, G.prot β B o → G'.prot β B o
 new : ∀ β B o, G'.prot β B o → G.prot β B o ∨ G.mine B
 memR : aT G' w' r.2
 gens : ∀ (j : Nat) (y : d8), r.2[j]? = some (some y) → y.gen = 0
 kept : ∀ (j : Nat) (x : d8), mem[j]? = some (some x) → ∃ y : d8, r.2[j]? = some (some y) ∧ y.row.isCells = x.row.isCells ∧ (x.row.isCells = true → ∀ L, G.loc j 0 = some L → G'.loc j 0 = some L)
 nones : ∀ j : Nat, mem[j]? = some none → r.2[j]? = some none
def jC (P : Program) (C : bZ) : Prop := ∀ g args mem r, C g args mem = some r → ∀ G w vargs, aT G w mem → (∀ (j : Nat) (x : d8), mem[j]? = some (some x) → x.gen = 0) → o6 G w args vargs →
 (callFunc g vargs).run P w = .ok (.enter g vargs) w ∧ Calls P g vargs w fun e w' => ∃ G' cv, e = .returned cv ∧ Pb G w mem r G' w' cv
def lU (G : Gh) (mem : a9) (m : Nat) (B _o : Nat) : Prop := ∃ (b : Nat) (x : d8) (L : yW), m ≤ b ∧ mem[b]? = some (some x) ∧ G.loc b x.gen = some L ∧ L.blk = some B
theorem oR {G : Gh} {w : World} {mem : a9} {m : Nat} {v : AV} {cv : Value} (hM : aT G w mem) (N : VR G w v cv) : VR (G.frz (lU G mem m)) w (v.frz m mem) cv := by
 have hg : eA G (G.frz (lU G mem m)) := eA.frz G _ (by rintro B o ⟨b, x, L, _, hx, hl, hB⟩; exact hM.mine hx hl hB)
 have A := fun {a : AV} {u : Value} (h : VR G w a u) => h.mono hg (Ev.refl G w)
 unfold AV.frz
 split
 ·rename_i b g
  cases Z : Nat.ble m b with
  | false => simp only [ye]; exact A N
  | true =>
   simp only [yg]
   split
   ·rename_i x hx
    obtain ⟨hm, rfl⟩ := box?_some hx
    have K := hM.box b x hm
    split
    ·rename_i k xs H
     cases N with
     | msw _ _ cap L B hl V hn hf =>
      obtain ⟨o, z, M⟩ := K.loc
      have J := hl
      rw [z] at J
      obtain rfl := yb J
      simp only at V; subst V
      have W := M.2.2.2.1
      rw [H] at W hn ⊢
      refine .imm false _ _ (.ints k xs B 0 cap hn fun i x' hx' => ?_) rfl
      rw [yj1]
      exact ⟨W i x' hx', .inr ⟨b, x, _, eT.1 Z, hm, z, rfl⟩⟩
     | mswNil _ _ L hl V hn =>
      obtain ⟨o, z, M⟩ := K.loc
      rw [hl] at z
      obtain rfl := yb z
      rw [H] at hn
      obtain rfl := yp hn
      exact .imm false _ _ (.intsNil k _) rfl
    ·rename_i β e xs H
     cases N with
     | msw _ _ cap L B hl V hn hf =>
      obtain ⟨o, z, M⟩ := K.loc
      have J := hl
      rw [z] at J
      obtain rfl := yb J
      simp only at V; subst V
      have W := M.2.2.2.1
      have he := K.e
      rw [H] at W hn he ⊢
      obtain ⟨Y, O⟩ := W
      have U : ∀ (i : Nat) (x : PV) (c : Nat) (y : PV), xs[i]? = some x → x.cells[c]? = some y → cl w B (i * e + c) = some ((cl w B (i * e + c)).getD undef) ∧ ((cl w B (i * e + c)).getD undef).oneCell' = true ∧ PR w (G.prot β) y ((cl w B (i * e + c)).getD undef) := by
       intro i x c y h1 h2
       obtain ⟨v, N, hv1, hv2⟩ := O i x c y h1 h2
       rw [N]; exact ⟨rfl, hv1, hv2⟩
      refine .imm β _ _ (.sl e xs B 0 cap (fun i c => (cl w B (i * e + c)).getD undef) he hn Y (fun i x' c y h1 h2 => ?_) (fun i x' c y h1 h2 => (U i x' c y h1 h2).2.1) (fun i x' c y h1 h2 => (U i x' c y h1 h2).2.2.mono (fun _ _ h => .inl h) (fun _ _ _ => rfl))) rfl
      rw [yj1]
      exact ⟨(U i x' c y h1 h2).1, .inr ⟨b, x, _, eT.1 Z, hm, z, rfl⟩⟩
     | mswNil _ _ L hl V hn =>
      obtain ⟨o, z, M⟩ := K.loc
      rw [hl] at z
      obtain rfl := yb z
      rw [H] at hn
      obtain rfl := yp hn
      exact .imm β _ _ (.slNil e _) rfl
    ·exact A N
   ·exact A N
 ·exact A N
theorem iD (m : Nat) (mem : a9) : ∀ vs : List AV, AV.frzAll m mem vs = vs.map (·.frz m mem)
 | [] => rfl
 | v :: vs => by simp [AV.frzAll, iD m mem vs]
theorem Gz {G : Gh} {w : World} {mem : a9} {m : Nat} {v : AV} {cv : Value} (hM : aT G w mem) (H : VR G w v cv) : VR (G.frz (lU G mem m)) w (kT m mem v) cv := by
 unfold kT
 split
 ·rename_i vs
  cases H with
  | tup _ cvs z h =>
   refine .tup _ cvs (by rw [iD]; simpa using z) (fun j y A => ?_)
   rw [iD, yh1] at A
   obtain ⟨x, hx, rfl⟩ := yf.1 A
   exact oR hM (h j x hx)
 ·rename_i vs
  cases H with
  | agg _ cvs z h =>
   refine .agg _ cvs (by rw [iD]; simpa using z) (fun j y A => ?_)
   rw [iD, yh1] at A
   obtain ⟨x, hx, rfl⟩ := yf.1 A
   exact oR hM (h j x hx)
 ·exact oR hM H
theorem CR {mem : a9} {m : Nat} {v : AV} (h1 : gN mem = false) (h2 : v.lent = false) : (v.frz m mem).lent = false := by
 unfold AV.frz
 split
 ·rename_i b g
  cases Nat.ble m b with
  | false => exact h2
  | true =>
   simp only [yg]
   split
   ·rename_i x hx
    obtain ⟨hm, _⟩ := box?_some hx
    split
    ·rfl
    ·rename_i β e xs h
     simp only [AV.lent]
     cases β with
     | false => rfl
     | true => have := nB hm (by rw [h]; rfl); rw [h1] at this; cases this
    ·rfl
   ·rfl
 ·exact h2
theorem nR : ∀ {cs : List AV}, AV.lentAny cs = false ↔ ∀ y ∈ cs, y.lent = false
 | [] => by simp [AV.lentAny]
 | c :: cs => by simp [AV.lentAny, nR (cs := cs)]
theorem IE {mem : a9} {m : Nat} {v : AV} (h1 : gN mem = false) (h2 : v.lent = false) : (kT m mem v).lent = false := by
 unfold kT
 split
 ·rename_i vs
  simp only [AV.lent] at h2 ⊢
  rw [nR] at h2 ⊢
  intro y h
  rw [iD] at h
  obtain ⟨x, hx, rfl⟩ := yc3.1 h
  exact CR h1 (h2 x hx)
 ·rename_i vs
  simp only [AV.lent] at h2 ⊢
  rw [nR] at h2 ⊢
  intro y h
  rw [iD] at h
  obtain ⟨x, hx, rfl⟩ := yc3.1 h
  exact CR h1 (h2 x hx)
 ·exact CR h1 h2
end
end Go.Ab
end
