/- The evaluator. -/
import Derived.Test.YtdlbbdbbpoggfaaGreatDoorLib1
import Derived.Laws.AppendOwn
import Derived.Deep.Upon
import Derived.Laws.MakeOwn
import Derived.Great.BuildSlice
import Derived.Laws.BytesString
import Derived.Laws.Cells
import Derived.Lib.AppendZeros
set_option linter.unusedVariables false
set_option linter.unusedSectionVars false
set_option linter.unusedSimpArgs false
section
namespace Go.Ab
variable [cD]
def bH (G : Gh) (mem : a9) (ids : List Nat) (B o : Nat) : Prop := ∃ b ∈ ids, ∃ (x : d8) (L : wZ), mem[b]? = some (some x) ∧ G.loc b x.gen = some L ∧ L.blk = some B
def Gh.frz (G : Gh) (S : Nat → Nat → Prop) : Gh := { G with prot := fun β B o => G.prot β B o ∨ S B o }
theorem d9.frz (G : Gh) (S : Nat → Nat → Prop) (hS : ∀ B o, S B o → G.mine B) : d9 G (G.frz S) := ⟨rfl, fun _ _ _ h => .inl h, fun _ _ _ h => h, fun _ B o h => h.imp id (hS B o)⟩
theorem aT.mine {G : Gh} {w : World} {mem : a9} (hM : aT G w mem) {b : Nat} {x : d8} {L : wZ} {B : Nat} (hx : mem[b]? = some (some x)) (hl : G.loc b x.gen = some L) (hB : L.blk = some B) : G.mine B := by
 obtain ⟨o, h, hm⟩ := (hM.box b x hx).loc
 rw [hl] at h
 obtain rfl := yb h
 simp only at hB; subst hB
 exact hm.1
theorem aT.inBoxes {G : Gh} {w : World} {mem : a9} (hM : aT G w mem) {ids : List Nat} : ∀ B o, bH G mem ids B o → G.mine B := by
 rintro B o ⟨b, _, x, L, hx, hl, hB⟩
 exact hM.mine hx hl hB
theorem bH.mono {G : Gh} {mem : a9} {ids z : List Nat} (h : ∀ b ∈ ids, b ∈ z) {B o : Nat} (H : bH G mem ids B o) : bH G mem z B o := by
 obtain ⟨b, A, r⟩ := H; exact ⟨b, h b A, r⟩
theorem eC (mem : a9) : ∀ (ids : List Nat) (m : a9) (b : Nat), m.length = mem.length →
  (∀ x, mem[b]? = some (some x) → b ∈ ids → (aP m (bV mem ids))[b]? = some (some { x with frz := true })) ∧
  ((b ∉ ids ∨ ∀ x, mem[b]? ≠ some (some x)) → (aP m (bV mem ids))[b]? = m[b]?) ∧ (aP m (bV mem ids)).length = mem.length
 | [], m, b, hl => ⟨fun x _ h => by simp at h, fun _ => rfl, hl⟩
 | a :: r, m, b, hl => by
  unfold bV
  split
  ·rename_i x hx
   have U : a < m.length := by rw [hl]; exact (yh.1 hx).1
   obtain ⟨O, J, K⟩ := eC mem r (m.set a (some { x with frz := true })) b (by simpa using hl)
   simp only [aP]
   refine ⟨fun y A z => ?_, fun z => ?_, K⟩
   ·by_cases H : b ∈ r
    ·exact O y A H
    ·have : b = a := by simp at z; exact z.resolve_right H
     subst this
     rw [J (.inl H), yf1 U]
     rw [hx] at A; simp at A; subst A; rfl
   ·have M : a ≠ b := by
     rintro rfl
     rcases z with z | z
     ·exact z (yn ..)
     ·exact z x hx
    rw [J (z.imp (fun h H => h (yk _ H)) id), yg1 M]
  ·rename_i N
   obtain ⟨O, J, K⟩ := eC mem r m b hl
   refine ⟨fun y A z => ?_, fun z => J (z.imp (fun h H => h (yk _ H)) id), K⟩
   have : b ≠ a := by rintro rfl; exact N y A
   exact O y A (by simp at z; exact z.resolve_left this)
theorem aT.freeze {G : Gh} {w : World} {mem : a9} (hM : aT G w mem) (ids : List Nat) : aT (G.frz (bH G mem ids)) w (aP mem (bV mem ids)) := by
 have hg := d9.frz G (bH G mem ids) hM.inBoxes
 have H : ∀ (b : Nat) (y : d8), (aP mem (bV mem ids))[b]? = some (some y) → ∃ x, mem[b]? = some (some x) ∧ y.gen = x.gen ∧ y.row = x.row ∧ ((b ∈ ids ∧ y.frz = true) ∨ (b ∉ ids ∧ y = x)) := by
  intro b y h
  obtain ⟨i1, O, _⟩ := eC mem ids mem b rfl
  by_cases hl : ∃ x, mem[b]? = some (some x)
  ·obtain ⟨x, hx⟩ := hl
   by_cases J : b ∈ ids
   ·rw [i1 x hx J] at h; simp at h; subst h; exact ⟨x, hx, rfl, rfl, .inl ⟨J, rfl⟩⟩
   ·rw [O (.inl J), hx] at h; simp at h; subst h; exact ⟨x, hx, rfl, rfl, .inr ⟨J, rfl⟩⟩
  ·rw [O (.inr (fun x hx => hl ⟨x, hx⟩))] at h; exact absurd ⟨y, h⟩ hl
 refine ⟨fun b y h => ?_, fun b g h => ?_, fun b y g h Z => ?_, fun b b' y y' L L' B h h' l l' k k' => ?_, hM.own, fun B o h => ?_, fun β B o h => ?_, hM.glob.mono (hg.prot true) fun _ _ _ => rfl⟩
 ·obtain ⟨x, hx, A, z, M⟩ := H b y h
  have J := hM.box b x hx
  obtain ⟨o, hl, hm⟩ := J.loc
  refine ⟨by rw [z]; exact J.e, o, by rw [A, z]; exact hl, ?_⟩
  cases o with
  | none => rw [z]; exact hm
  | some B =>
   obtain ⟨h1, h2, h3, h4, h5⟩ := hm
   refine ⟨h1, h2, h3, by rw [z]; exact h4.mono hg (Ev.refl G w) (fun _ _ => rfl), fun hf β o U => ?_⟩
   rcases M with ⟨_, M⟩ | ⟨M, rfl⟩
   ·rw [M] at hf; cases hf
   ·rcases U with U | ⟨b2, hb2, x2, L2, W, hl2, Y⟩
    ·exact h5 hf β o U
    ·have := hM.apart b2 b x2 y L2 _ B W hx hl2 hl Y rfl
     subst this; exact M hb2
 ·refine hM.unset b g fun x hx => ?_
  obtain ⟨i1, O, _⟩ := eC mem ids mem b rfl
  by_cases J : b ∈ ids
  ·exact h _ (i1 x hx J)
  ·exact h x (by rw [O (.inl J)]; exact hx)
 ·obtain ⟨x, hx, A, z, M⟩ := H b y h
  exact hM.gens b x g hx (by rw [← A]; exact Z)
 ·obtain ⟨x, hx, A, z, M⟩ := H b y h
  obtain ⟨x', hx', K, V, hc'⟩ := H b' y' h'
  rw [A] at l; rw [K] at l'
  exact hM.apart b b' x x' L L' B hx hx' l l' k k'
 ·rcases h with h | h
  ·exact .inl (hM.lab B o h)
  ·exact .inr h
 ·rcases h with h | ⟨b, J, x, L, hx, hl, hk⟩
  ·exact hM.away β B o h
  ·obtain ⟨o', N, hm⟩ := (hM.box b x hx).loc
   rw [hl] at N
   obtain rfl := yb N
   simp only at hk; subst hk
   exact hm.2.1
section
variable {P : Program}
theorem o5 {α β : Type} {f : α → Option (Bool × β × List Nat)} : ∀ {xs : List α} {r : Bool × List β × List Nat}, fS f xs = some r →
  r.2.1.length = xs.length ∧ ∀ (i : Nat) (x : α), xs[i]? = some x → ∃ q, f x = some q ∧ r.2.1[i]? = some q.2.1 ∧ (∀ b ∈ q.2.2, b ∈ r.2.2) ∧ (r.1 = false → q.1 = false)
 | [], r, h => by simp [fS] at h; subst h; exact ⟨rfl, fun i x hx => by simp at hx⟩
 | v :: xs, r, h => by
  simp only [fS] at h
  rw [bind_some] at h; obtain ⟨a, A, h⟩ := h
  rw [bind_some] at h; obtain ⟨q, K, h⟩ := h
  obtain rfl := yb h
  obtain ⟨hl, M⟩ := o5 K
  refine ⟨by simp [hl], fun i x hx => ?_⟩
  cases i with
  | zero => simp at hx; subst hx; exact ⟨a, A, rfl, fun b z => yr1 _ z, fun h => by simp at h; exact h.1⟩
  | succ i =>
   obtain ⟨H, h1, h2, N, J⟩ := M i x (by simpa using hx)
   exact ⟨H, h1, by simpa using h2, fun b z => ys1 _ (N b z), fun h => J (by simp at h; exact h.2)⟩
theorem rV {α β γ : Type} {f : γ → α → Option (Bool × β × List Nat)} : ∀ {z : List γ} {xs : List α} {r : Bool × List β × List Nat}, cS f z xs = some r →
  r.2.1.length = xs.length ∧ z.length = xs.length ∧ ∀ (i : Nat) (x : α), xs[i]? = some x → ∃ l q, z[i]? = some l ∧ f l x = some q ∧ r.2.1[i]? = some q.2.1 ∧ (∀ b ∈ q.2.2, b ∈ r.2.2) ∧ (r.1 = false → q.1 = false)
 | [], [], r, h => by simp [cS] at h; subst h; exact ⟨rfl, rfl, fun i x hx => by simp at hx⟩
 | l :: z, v :: xs, r, h => by
  simp only [cS] at h
  rw [bind_some] at h; obtain ⟨a, K, h⟩ := h
  rw [bind_some] at h; obtain ⟨q, O, h⟩ := h
  obtain rfl := yb h
  obtain ⟨hl, H, V⟩ := rV O
  refine ⟨by simp [hl], by simp [H], fun i x hx => ?_⟩
  cases i with
  | zero => simp at hx; subst hx; exact ⟨l, a, rfl, K, rfl, fun b A => yr1 _ A, fun h => by simp at h; exact h.1⟩
  | succ i =>
   obtain ⟨U, M, J, h1, h2, W, N⟩ := V i x (by simpa using hx)
   exact ⟨U, M, by simpa using J, h1, by simpa using h2, fun b A => ys1 _ (W b A), fun h => N (by simp at h; exact h.2)⟩
 | [], _ :: _, r, h => by simp [cS] at h
 | _ :: _, [], r, h => by simp [cS] at h
theorem E3 {α : Type} {e : Nat} : ∀ {n : Nat} {cs : List α} {i : Nat}, i < n → (jA e n cs)[i]? = some ((cs.drop (i * e)).take e)
 | n + 1, cs, 0, h => by simp [jA]
 | n + 1, cs, i + 1, h => by
  simp only [jA, yx1]
  rw [E3 (by omega), List.drop_drop]
  congr 3; rw [yt1]; omega
theorem vC {α : Type} {e : Nat} : ∀ {n : Nat} {cs : List α}, (jA e n cs).length = n
 | 0, cs => rfl
 | n + 1, cs => by simp [jA, vC]
theorem sub_zero {r : cI} {o : Nat} {v : aN} (h : r.sub o 0 = some v) : (∃ k, v = .ints k []) ∨ (∃ β e, v = .pvs β e []) ∨ (∃ e, v = .avs e []) := by
 cases r <;> simp only [cI.sub] at h <;> rw [aB] at h <;> obtain ⟨_, h⟩ := h <;> obtain rfl := yb h <;> simp
theorem PR.intsZ {w : World} {z : Nat → Nat → Prop} (k : IntKind) (a : Option Addr) (h : ∀ x, a = some x → x.spot = none) : PR w z (.ints k []) (.slice a 0 0) := by
 cases a with
 | none => exact .intsNil k _
 | some a => obtain ⟨B, o, s⟩ := a; obtain rfl := h _ rfl; exact .ints k [] B o 0 (by simp) (fun i x hx => by simp at hx)
theorem PR.slZ {w : World} {A : Nat → Nat → Prop} {e : Nat} (z : 1 ≤ e) (a : Option Addr) (h : ∀ x, a = some x → x.spot = none) : PR w A (.sl e []) (.slice a 0 0) := by
 cases a with
 | none => exact .slNil e _
 | some a => obtain ⟨B, o, s⟩ := a; obtain rfl := h _ rfl; exact .sl e [] B o 0 (fun _ _ => undef) z (by simp) (fun x hx => by simp at hx) (fun i x c y hx => by simp at hx) (fun i x c y hx => by simp at hx) (fun i x c y hx => by simp at hx)
theorem NI {r : cI} {o n : Nat} {v : aN} (h : r.sub o n = some v) : v.e = r.e := by
 cases r <;> simp only [cI.sub] at h <;> rw [aB] at h <;> obtain ⟨_, h⟩ := h <;> obtain rfl := yb h <;> rfl
theorem vB {k : IntKind} {b : Nat} {v : aN} {r : Bool × PV × List Nat} (h : bK.treeInts k b v = some r) (A : (∃ k, v = .ints k []) ∨ (∃ β e, v = .pvs β e []) ∨ (∃ e, v = .avs e [])) :
  ∃ z, True ∧ r = (false, .ints z [], [b]) := by
 rcases A with ⟨z, rfl⟩ | ⟨β, e, rfl⟩ | ⟨e, rfl⟩
 ·simp only [bK.treeInts] at h
  rw [aB] at h; obtain ⟨_, h⟩ := h
  exact ⟨z, trivial, (yb h).symm⟩
 ·simp [bK.treeInts] at h
 ·simp only [bK.treeInts] at h
  rw [aB] at h; obtain ⟨_, h⟩ := h
  simp [eS] at h
  exact ⟨k, trivial, h.symm⟩
theorem Bg {f : LK → AV → Option (Bool × PV × List Nat)} {t : TypeId} {e b : Nat} {v : aN} {r : Bool × PV × List Nat} (h : bK.treeSl P f t e b v = some r) (A : (∃ k, v = .ints k []) ∨ (∃ β e, v = .pvs β e []) ∨ (∃ e, v = .avs e [])) :
  ∃ β, v.e = e ∧ r = (β, .sl e [], [b]) := by
 rcases A with ⟨k', rfl⟩ | ⟨β, H, rfl⟩ | ⟨H, rfl⟩
 ·simp [bK.treeSl] at h
 ·simp only [bK.treeSl] at h
  rw [aB] at h; obtain ⟨z, h⟩ := h
  obtain rfl := cX.1 z
  exact ⟨β, rfl, (yb h).symm⟩
 ·simp only [bK.treeSl] at h
  rw [aB] at h; obtain ⟨z, h⟩ := h
  simp only [yc] at z
  obtain rfl := cX.1 z.1
  rw [bind_some] at h; obtain ⟨ls, _, h⟩ := h
  have : bD e ([] : List AV).length = 0 := by
   have := fZ (n := 0) (eT.1 z.2) 0; simpa using this
  rw [this] at h
  simp [jA, fS] at h
  exact ⟨false, rfl, h.symm⟩
theorem pO {G : Gh} {w : World} {mem : a9} (hM : aT G w mem) : ∀ {n : Nat} {l : LK} {v : AV} {r : Bool × PV × List Nat} {cv : Value}, bK P mem n l v = some r → VR G w v cv →
  PR w ((G.frz (bH G mem r.2.2)).prot r.1) r.2.1 cv ∧ cv.oneCell' = true ∧ r.2.1.cells = [r.2.1]
 | 0, l, v, r, cv, h, hv => by simp [bK] at h
 | n + 1, l, v, r, cv, h, hv => by
  have frzPR : ∀ {ids : List Nat} {β : Bool} {p : PV} {u : Value}, PR w (G.prot β) p u → PR w ((G.frz (bH G mem ids)).prot β) p u := fun U => U.mono (fun _ _ h => .inl h) (fun _ _ _ => rfl)
  have hints : ∀ {k : IntKind} {b : Nat} {x : d8} {wv : aN} {q : Bool × PV × List Nat} {vs : List Value} {B o cap : Nat}, mem[b]? = some (some x) → G.loc b x.gen = some ⟨some B, x.row.e, x.row.len⟩ → bK.treeInts k b wv = some q →
    bL G w wv vs → (∀ j u, vs[j]? = some u → cl w B (o + j) = some u) → wv.len ≤ cap →
    PR w ((G.frz (bH G mem q.2.2)).prot q.1) q.2.1 (.slice (some ⟨B, o, none⟩) wv.len cap) ∧ q.2.1.cells = [q.2.1] := by
   intro k b x wv q vs B o cap hx hl K N J Z
   have hin : ∀ o', bH G mem [b] B o' := fun o' => ⟨b, ym1.2 rfl, x, _, hx, hl, rfl⟩
   unfold bK.treeInts at K
   split at K
   ·rename_i k' xs
    rw [aB] at K; obtain ⟨hk, K⟩ := K
    obtain rfl := yb K
    obtain ⟨hlen, _, hh⟩ := N
    exact ⟨.ints k' xs B o cap Z (fun i y M => ⟨J _ _ (hh i y M), .inr (hin _)⟩), rfl⟩
   ·rename_i e cs
    rw [aB] at K; obtain ⟨Y, K⟩ := K
    obtain rfl := cX.1 Y
    obtain ⟨xs, hxs, rfl⟩ := yf.1 K
    obtain ⟨hlen, _, hcnt, hh⟩ := N
    have key : ∀ {cs : List AV} {xs : List Int}, eS k cs = some xs → xs.length = cs.length ∧ ∀ (i : Nat) (y : Int), xs[i]? = some y → cs[i]? = some (.lit (.int k y)) := by
     intro cs
     induction cs with
     | nil => intro xs h; simp [eS] at h; subst h; exact ⟨rfl, fun i y M => by simp at M⟩
     | cons c cs ih =>
      intro xs h
      have hc : ∃ k' z, c = .lit (.int k' z) := by
       cases c with
       | lit v => cases v with
        | int k' z => exact ⟨k', z, rfl⟩
        | _ => simp [eS] at h
       | _ => simp [eS] at h
      obtain ⟨k', z, rfl⟩ := hc
      simp only [eS] at h
      cases hk : gV k k' with
      | false => rw [hk] at h; simp at h
      | true =>
       rw [hk] at h
       rw [jX] at hk; subst hk
       simp only [yg] at h
       obtain ⟨xs', h1, rfl⟩ := yf.1 h
       obtain ⟨i1, i2⟩ := ih h1
       refine ⟨by simp [i1], fun i y M => ?_⟩
       cases i with
       | zero => simp at M; subst M; rfl
       | succ i => simpa using i2 i y (by simpa using M)
    obtain ⟨k1, k2⟩ := key hxs
    have hle : aN.len (.avs 1 cs) = xs.length := by rw [k1]; rfl
    rw [hle]
    refine ⟨.ints k xs B o cap (by rw [← hle]; exact Z) (fun i y M => ?_), rfl⟩
    obtain ⟨u, A, U⟩ := hh i _ (k2 i y M)
    obtain rfl := U.lit_inv
    exact ⟨J _ _ A, .inr (hin _)⟩
   ·simp at K
  have hsl : ∀ {t : TypeId} {e b : Nat} {x : d8} {wv : aN} {q : Bool × PV × List Nat} {vs : List Value} {B o cap : Nat}, mem[b]? = some (some x) → G.loc b x.gen = some ⟨some B, x.row.e, x.row.len⟩ → bK.treeSl P (bK P mem n) t e b wv = some q →
    1 ≤ wv.e → bL G w wv vs → (∀ j u, vs[j]? = some u → cl w B (o + j) = some u) → wv.len ≤ cap →
    PR w ((G.frz (bH G mem q.2.2)).prot q.1) q.2.1 (.slice (some ⟨B, o, none⟩) wv.len cap) ∧ q.2.1.cells = [q.2.1] := by
   intro t e b x wv q vs B o cap hx hl K he1 N J Z
   have hin : ∀ ids o', b ∈ ids → bH G mem ids B o' := fun ids o' hb => ⟨b, hb, x, _, hx, hl, rfl⟩
   unfold bK.treeSl at K
   split at K
   ·rename_i β e' xs
    rw [aB] at K; obtain ⟨Y, K⟩ := K
    obtain rfl := cX.1 Y
    obtain rfl := yb K
    obtain ⟨hlen, h1, hh1, hh2⟩ := N
    refine ⟨.sl e xs B o cap (fun i c => vs.getD (i * e + c) undef) he1 Z hh1 (fun i x c y hx M => ?_) (fun i x c y hx M => ?_) (fun i x c y hx M => ?_), rfl⟩
    ·obtain ⟨u, A, U⟩ := hh2 i x c y hx M
     rw [yl, A]
     exact ⟨by rw [yf3]; exact J _ _ A, .inr (hin _ _ (ym1.2 rfl))⟩
    ·obtain ⟨u, A, U⟩ := hh2 i x c y hx M
     rw [yl, A]
     exact h1 u (yj A)
    ·obtain ⟨u, A, U⟩ := hh2 i x c y hx M
     rw [yl, A]
     exact frzPR U
   ·rename_i e' cs
    rw [aB] at K; obtain ⟨Y, K⟩ := K
    simp only [yc] at Y
    obtain rfl := cX.1 Y.1
    rw [bind_some] at K; obtain ⟨ls, hls, K⟩ := K
    obtain ⟨r0, hr0, rfl⟩ := yf.1 K
    obtain ⟨hlen, h1, hcnt, hh⟩ := N
    obtain ⟨fl, ff⟩ := o5 hr0
    rw [vC] at fl
    have hcs : cs.length = bD e cs.length * e := by rw [yq2]; exact hcnt
    -- element i
    have hel : ∀ i p, r0.2.1[i]? = some p → i < bD e cs.length ∧ p.cells.length = e ∧ ∀ c y, p.cells[c]? = some y → ∃ u, vs[i * e + c]? = some u ∧ PR w ((G.frz (bH G mem (b :: r0.2.2))).prot r0.1) y u := by
     intro i p U
     have hi : i < bD e cs.length := by rw [← fl]; exact (yh.1 U).1
     obtain ⟨q1, hq1, hp1, hb1, hlab1⟩ := ff i _ (E3 hi)
     rw [U] at hp1
     obtain rfl := yb hp1
     rw [bind_some] at hq1; obtain ⟨q2, hq2, hq1⟩ := hq1
     obtain ⟨p', hp', rfl⟩ := yf.1 hq1
     obtain ⟨zl, zl2, zz⟩ := rV hq2
     have hchl : ((cs.drop (i * e)).take e).length = e := by
      have h2 : i * e + e ≤ cs.length := by
       rw [hcs]
       calc i * e + e = (i + 1) * e := by rw [yt1]; simp
        _ ≤ _ := ya2 _ hi
      simp; omega
     have V : p'.cells = q2.2.1 := by
      unfold Dg at hp'
      split at hp'
      ·obtain rfl := yb hp'; rfl
      ·split at hp'
       ·rename_i c heq
        obtain rfl := yb hp'
        -- a single cell: what bK answers is no struct
        have hlen1 : ((cs.drop (i * e)).take e).length = 1 := by rw [← zl, heq]; rfl
        obtain ⟨lk, q3, _, h3, h4, _⟩ := zz 0 (((cs.drop (i * e)).take e)[0]'(by omega)) (yd _)
        have hcell0 : cs[i * e]? = some (((cs.drop (i * e)).take e)[0]'(by omega)) := by
         have := yd (l := (cs.drop (i * e)).take e) (i := 0) (by omega)
         rw [yi1 (by omega), yd1] at this; simp
        obtain ⟨u, A, hvr⟩ := hh _ _ hcell0
        have hone := (pO hM h3 hvr).2.2
        rw [heq] at h4
        simp only [yx2, Option.some.injEq] at h4
        rw [heq, h4]; exact hone
       ·simp at hp'
      ·simp at hp'
     refine ⟨hi, by rw [V, zl, hchl], fun c y M => ?_⟩
     rw [V] at M
     have hc : c < e := by have := (yh.1 M).1; rw [zl, hchl] at this; exact this
     obtain ⟨lk, q3, _, h3, h4, h5, h6⟩ := zz c (((cs.drop (i * e)).take e)[c]'(by omega)) (yd _)
     have hcell : cs[i * e + c]? = some (((cs.drop (i * e)).take e)[c]'(by omega)) := by
      have := yd (l := (cs.drop (i * e)).take e) (i := c) (by omega)
      rw [yi1 (by omega), yd1] at this; simp
     obtain ⟨u, A, hvr⟩ := hh _ _ hcell
     have hpr := (pO hM h3 hvr).1
     rw [M] at h4
     obtain rfl := yb h4
     refine ⟨u, A, hpr.mono (fun B' o' hh => ?_) (fun _ _ _ => rfl)⟩
     rcases hh with hh | hh
     ·left
      cases hb : r0.1 with
      | false => rw [h6 (hlab1 hb)] at hh; exact hh
      | true =>
       cases hq3 : q3.1 with
       | false => rw [hq3] at hh; exact hM.lab _ _ hh
       | true => rw [hq3] at hh; exact hh
     ·exact .inr (hh.mono fun b' hb' => yk _ (hb1 b' (h5 b' hb')))
    have hwl : aN.len (.avs e cs) = r0.2.1.length := by rw [fl]; rfl
    rw [hwl]
    refine ⟨.sl e r0.2.1 B o cap (fun i c => vs.getD (i * e + c) undef) he1 (by rw [← hwl]; exact Z) (fun x hx => ?_) (fun i x c y hx M => ?_) (fun i x c y hx M => ?_) (fun i x c y hx M => ?_), rfl⟩
    ·obtain ⟨i, hi, rfl⟩ := yp1 hx
     exact (hel i _ (yd hi)).2.1
    ·obtain ⟨u, A, U⟩ := (hel i x hx).2.2 c y M
     rw [yl, A]
     exact ⟨by rw [yf3]; exact J _ _ A, .inr (hin _ _ (yn ..))⟩
    ·obtain ⟨u, A, U⟩ := (hel i x hx).2.2 c y M
     rw [yl, A]
     exact h1 u (yj A)
    ·obtain ⟨u, A, U⟩ := (hel i x hx).2.2 c y M
     rw [yl, A]
     exact U
   ·simp at K
  unfold bK at h
  split at h
  ·rename_i k k' x
   rw [aB] at h; obtain ⟨hk, h⟩ := h
   obtain rfl := yb h
   obtain rfl := hv.lit_inv
   exact ⟨.lit _ rfl, rfl, rfl⟩
  ·obtain rfl := yb h
   obtain rfl := hv.lit_inv
   exact ⟨.lit _ rfl, rfl, rfl⟩
  ·obtain rfl := yb h
   obtain rfl := hv.lit_inv
   exact ⟨.lit _ rfl, rfl, rfl⟩
  ·rename_i k β k' xs
   rw [aB] at h; obtain ⟨hk, h⟩ := h
   obtain rfl := yb h
   cases hv with
   | imm _ _ _ U hs => exact ⟨frzPR U, by cases U <;> rfl, rfl⟩
  ·rename_i k
   obtain rfl := yb h
   obtain rfl := hv.lit_inv
   exact ⟨.intsNil k _, rfl, rfl⟩
  ·rename_i k b g
   rw [bind_some] at h; obtain ⟨x, hx, h⟩ := h
   have H := (box?_some hx)
   have Y := (hM.box b x H.1).e
   rcases hM.at_msw hx hv with ⟨B, cap, rfl, hn, hl, hf, _, _, _, O, _⟩ | ⟨rfl, hz, hnc, hl⟩
   ·obtain ⟨vs, hvs, J⟩ := O.toList Y
    have := hints (o := 0) (cap := cap) H.1 (by rw [H.2]; exact hl) h hvs (fun j u A => by rw [yj1]; rw [J _ (yh.1 A).1]; exact A) (by rw [dE]; exact hn)
    rw [dE] at this
    exact ⟨this.1, rfl, this.2⟩
   ·unfold bK.treeInts at h
    obtain ⟨gen, frz, row⟩ := x
    cases row with
    | ints k' xs =>
     simp only [cI.len] at hz
     have := yp hz; subst this
     simp only [cI.all] at h
     rw [aB] at h; obtain ⟨hk, h⟩ := h
     obtain rfl := yb h
     exact ⟨.intsNil _ _, rfl, rfl⟩
    | pvs β e xs => simp [cI.all] at h
    | cells e cs => simp [cI.isCells] at hnc
  ·rename_i k b g o m
   rw [bind_some] at h; obtain ⟨x, hx, h⟩ := h
   rw [bind_some] at h; obtain ⟨wv, W, h⟩ := h
   have H := (box?_some hx)
   have Y := (hM.box b x H.1).e
   rcases hM.at_ms hx hv with ⟨B, cap, rfl, hn, hon, hl, hf, _, _, _, O, _⟩ | ⟨rfl, rfl, rfl, hz, hl⟩ | ⟨B, oo, rfl, ho, rfl, hon, hl⟩
   ·obtain ⟨vs, hvs, J⟩ := O.toList Y
    obtain ⟨hv', hve, hvl, _⟩ := sO Y W hvs
    have := hints (o := o * x.row.e) (cap := cap) H.1 (by rw [H.2]; exact hl) h hv' (fun j u A => by
     have hj : j < m * x.row.e := by have := (yh.1 A).1; rw [hv'.1, hve, hvl] at this; exact this
     rw [yi1 hj, yd1] at A
     rw [J _ (yh.1 A).1]; exact A) (by rw [hvl]; exact hn)
    rw [hvl] at this
    exact ⟨this.1, rfl, this.2⟩
   ·obtain ⟨k', hk', hr⟩ := vB h (sub_zero W); rw [hr]; exact ⟨PR.intsZ k' none (by simp), rfl, rfl⟩
   ·obtain ⟨k', hk', hr⟩ := vB h (sub_zero W); rw [hr]; exact ⟨PR.intsZ k' (some ⟨B, oo, none⟩) (by simp), rfl, rfl⟩
  ·rename_i t e β e' xs
   rw [aB] at h; obtain ⟨hk, h⟩ := h
   obtain rfl := yb h
   cases hv with
   | imm _ _ _ U hs => exact ⟨frzPR U, by cases U <;> rfl, rfl⟩
  ·rename_i t e
   obtain rfl := yb h
   obtain rfl := hv.lit_inv
   exact ⟨.slNil e _, rfl, rfl⟩
  ·rename_i t e b g
   rw [bind_some] at h; obtain ⟨x, hx, h⟩ := h
   have H := (box?_some hx)
   have Y := (hM.box b x H.1).e
   rcases hM.at_msw hx hv with ⟨B, cap, rfl, hn, hl, hf, _, _, _, O, _⟩ | ⟨rfl, hz, hnc, hl⟩
   ·obtain ⟨vs, hvs, J⟩ := O.toList Y
    have := hsl (o := 0) (cap := cap) H.1 (by rw [H.2]; exact hl) h (by rw [oE]; exact Y) hvs (fun j u A => by rw [yj1]; rw [J _ (yh.1 A).1]; exact A) (by rw [dE]; exact hn)
    rw [dE] at this
    exact ⟨this.1, rfl, this.2⟩
   ·unfold bK.treeSl at h
    obtain ⟨gen, frz, row⟩ := x
    cases row with
    | ints k' xs => simp [cI.all] at h
    | pvs β e' xs =>
     simp only [cI.len] at hz
     have := yp hz; subst this
     simp only [cI.all] at h
     rw [aB] at h; obtain ⟨hk, h⟩ := h
     obtain rfl := yb h
     exact ⟨.slNil _ _, rfl, rfl⟩
    | cells e cs => simp [cI.isCells] at hnc
  ·rename_i t e b g o m
   rw [bind_some] at h; obtain ⟨x, hx, h⟩ := h
   rw [bind_some] at h; obtain ⟨wv, W, h⟩ := h
   have H := (box?_some hx)
   have Y := (hM.box b x H.1).e
   rcases hM.at_ms hx hv with ⟨B, cap, rfl, hn, hon, hl, hf, _, _, _, O, _⟩ | ⟨rfl, rfl, rfl, hz, hl⟩ | ⟨B, oo, rfl, ho, rfl, hon, hl⟩
   ·obtain ⟨vs, hvs, J⟩ := O.toList Y
    obtain ⟨hv', hve, hvl, _⟩ := sO Y W hvs
    have := hsl (o := o * x.row.e) (cap := cap) H.1 (by rw [H.2]; exact hl) h (by rw [hve]; exact Y) hv' (fun j u A => by
     have hj : j < m * x.row.e := by have := (yh.1 A).1; rw [hv'.1, hve, hvl] at this; exact this
     rw [yi1 hj, yd1] at A
     rw [J _ (yh.1 A).1]; exact A) (by rw [hvl]; exact hn)
    rw [hvl] at this
    exact ⟨this.1, rfl, this.2⟩
   ·have he' := NI W
    obtain ⟨e', hk', hr⟩ := Bg h (sub_zero W); rw [hr]; exact ⟨PR.slZ (by omega) none (by simp), rfl, rfl⟩
   ·have he' := NI W
    obtain ⟨e', hk', hr⟩ := Bg h (sub_zero W); rw [hr]; exact ⟨PR.slZ (by omega) (some ⟨B, oo, none⟩) (by simp), rfl, rfl⟩
  ·simp at h
end
end Go.Ab
end
section
namespace Go.Ab
variable [cD]
section
variable {P : Program}
theorem jQ {mem : a9} {v : AV} {rd : List Nat} {b : Nat} {x : d8} : ({ v, rd, wr := [(b, x)] } : eL).apply mem = mem.set b (some x) := by simp [eL.apply, aP]
theorem nK (mem : a9) : ∀ (a b : List (Nat × d8)), aP mem (a ++ b) = aP (aP mem a) b
 | [], b => rfl
 | (i, x) :: a, b => by simp only [yp3, aP]; exact nK (mem.set i (some x)) a b
theorem Ll {mem : a9} {v : AV} {rd ids : List Nat} {b : Nat} {x : d8} : ({ v, rd, wr := bV mem ids ++ [(b, x)] } : eL).apply mem = (aP mem (bV mem ids)).set b (some x) := by
 simp [eL.apply, nK, aP]
theorem pG {G : Gh} {w : World} {mem : a9} (hM : aT G w mem) {t : TypeId} {v : AV} {r : Bool × PV × List Nat} {cv : Value} (h : qJ P mem t v = some r) (hv : VR G w v cv) :
  r.2.1.cells.length = v.cells.length ∧ ∀ (j : Nat) (y : PV), r.2.1.cells[j]? = some y → ∃ u, cv.cells.toList[j]? = some u ∧ PR w ((G.frz (bH G mem r.2.2)).prot r.1) y u ∧ u.oneCell' = true := by
 unfold qJ at h
 rw [bind_some] at h; obtain ⟨ls, hls, h⟩ := h
 rw [bind_some] at h; obtain ⟨q, hq, h⟩ := h
 obtain ⟨p, H, rfl⟩ := yf.1 h
 obtain ⟨zl, zl2, zz⟩ := rV hq
 have Z := hv.cells
 have J : ∀ (j : Nat) (y : PV), q.2.1[j]? = some y → ∃ u, cv.cells.toList[j]? = some u ∧ PR w ((G.frz (bH G mem q.2.2)).prot q.1) y u ∧ u.oneCell' = true ∧ y.cells = [y] := by
  intro j y U
  have V : j < v.cells.length := by rw [← zl]; exact (yh.1 U).1
  obtain ⟨lk, q3, _, W, Y, h5, h6⟩ := zz j (v.cells[j]) (yd V)
  rw [U] at Y
  obtain rfl := yb Y
  have O : j < cv.cells.toList.length := by rw [← Z.1]; exact V
  have N := Z.2 j _ (yd V)
  rw [yl, yd O] at N
  obtain ⟨t1, t2, t3⟩ := pO hM W N
  refine ⟨_, yd O, t1.mono (fun B' o' z => ?_) (fun _ _ _ => rfl), t2, t3⟩
  rcases z with z | z
  ·left
   cases hb : q.1 with
   | false => rw [h6 hb] at z; exact z
   | true =>
    cases M : q3.1 with
    | false => rw [M] at z; exact hM.lab _ _ z
    | true => rw [M] at z; exact z
  ·exact .inr (z.mono h5)
 have A : p.cells = q.2.1 := by
  unfold Dg at H
  split at H
  ·obtain rfl := yb H; rfl
  ·split at H
   ·rename_i c K
    obtain rfl := yb H
    obtain ⟨u, _, _, _, h⟩ := J 0 c (by rw [K]; rfl)
    rw [K]; exact h
   ·simp at H
  ·simp at H
 simp only
 rw [A]
 exact ⟨zl, fun j y U => by obtain ⟨u, h1, h2, W, _⟩ := J j y U; exact ⟨u, h1, h2, W⟩⟩
theorem bL.ofLRs {G : Gh} {w : World} {e : Nat} {cs : List AV} {vs : List Value} (h : jH G w cs vs) (h1 : kM cs = true) (A : cs.length = bD e cs.length * e) : bL G w (.avs e cs) vs := by
 refine ⟨by rw [← h.1]; exact A, h.ones h1, by rw [yq2]; exact A, fun j y H => ?_⟩
 have z : j < vs.length := by rw [← h.1]; exact (yh.1 H).1
 have := h.2 j y H
 rw [yl, yd z] at this
 exact ⟨_, yd z, this⟩
theorem CR {G : Gh} {w : World} {mem : a9} {b : Nat} {row : cI} {vs : List Value} {rest : Array Value} {t : TypeId} (hM : aT G w mem) (J : mem[b]? = some none) (O : 1 ≤ row.e)
  (M : bL G w row.all vs) : ∃ z, z = G.put b 0 ⟨some w.heap.size, row.e, row.len⟩ ∧ d9 G z ∧ Ev G w (w.alloc (.cells (vs.toArray ++ rest) t)) ∧
   aT z (w.alloc (.cells (vs.toArray ++ rest) t)) (mem.set b (some { gen := 0, frz := false, row })) ∧ z.loc b 0 = some ⟨some w.heap.size, row.e, row.len⟩ := by
 have A : G.loc b 0 = none := hM.unset b 0 (fun x hx => by rw [J] at hx; cases hx)
 have H : d9 G (G.put b 0 ⟨some w.heap.size, row.e, row.len⟩) := d9.put (.inl A)
 have h := Ev.alloc G w (.cells (vs.toArray ++ rest) t) hM.away
 refine ⟨_, rfl, H, h, hM.make J O (o4.ofList (M.mono H h) (fun j u K => ?_)), Gh.put_self ..⟩
 rw [lC]
 have N := (yh.1 K).1
 rw [yz2 (by simpa using N)]
 simpa using K
theorem Dh (t : TypeId) (c : Array Value) (w : World) : (newRow t c).run P w = .ok ⟨w.heap.size, 0, none⟩ (w.alloc (.cells c t)) := by
 simp [newRow]
theorem K4 {G : Gh} {w : World} {mem : a9} {b n : Nat} {v : AV} {cv : Value} {t : TypeId} (hM : aT G w mem) (K : mem[b]? = some none) (J : VR G w v cv) (hn : v.cells.length = n) (h1 : 1 ≤ n) (M : kM v.cells = true) :
  ∃ A, d9 G A ∧ Ev G w (w.alloc (.cells cv.cells t)) ∧ aT A (w.alloc (.cells cv.cells t)) (mem.set b (some { gen := 0, frz := false, row := .cells 1 v.cells })) ∧
   VR A (w.alloc (.cells cv.cells t)) (.ptr b 0 0 0) (.pointer (some ⟨w.heap.size, 0, none⟩)) := by
 have N : v.cells.length = bD 1 v.cells.length * 1 := by simp [bD, Nat.beq]
 obtain ⟨A, rfl, H, h, z, hl⟩ := CR (row := .cells 1 v.cells) (vs := cv.cells.toList) (rest := #[]) (t := t) hM K (yz 1) (bL.ofLRs J.cells M N)
 simp only [yy2, Array.append_empty] at h z
 refine ⟨_, H, h, z, ?_⟩
 have := VR.ptr (G := G.put b 0 ⟨some w.heap.size, (cI.cells 1 v.cells).e, (cI.cells 1 v.cells).len⟩) (w := w.alloc (.cells cv.cells t)) b 0 0 0 _ w.heap.size hl rfl
 simpa using this
theorem Kr {G : Gh} {w : World} {mem : a9} {o : Oper} {a : Act} {t : TypeId} {rs : Nat} {z : AV} (hM : aT G w mem) (U : o.op = .alloc t) (J : mem[rs]? = some none) (V : zero? P t = some z)
  (h1 : 1 ≤ z.cells.length) (h : kM z.cells = true) :
  lQ P G w mem o a { v := .ptr rs 0 0 0, wr := [(rs, { gen := 0, frz := false, row := .cells 1 z.cells })] } := by
 obtain ⟨zv, H, K, _⟩ := HB V G w
 obtain ⟨W, N, A, M, O⟩ := K4 (t := t) hM J K rfl h1 h
 refine ⟨W, _, _, _, ?_, .inl rfl, O, N, A, by rw [jQ]; exact M⟩
 simp [execOp, U, Instr.alloc, H, newVar, Dh]
theorem NE {G : Gh} {w : World} {mem : a9} {o : Oper} {a : Act} {t : TypeId} {x : Operand} {rs n : Nat} {v : AV} (hM : aT G w mem) (N : o.op = .box t x) (H : mem[rs]? = some none) (M : VR G w v (a.eval x))
  (hn : v.cells.length = n) (h1 : 1 ≤ n) (h : kM v.cells = true) :
  lQ P G w mem o a { v := .ptr rs 0 0 0, wr := [(rs, { gen := 0, frz := false, row := .cells 1 v.cells })] } := by
 obtain ⟨O, K, A, J, z⟩ := K4 (t := t) hM H M hn h1 h
 refine ⟨O, _, _, _, ?_, .inl rfl, z, K, A, by rw [jQ]; exact J⟩
 simp [execOp, N, Instr.box, newVar, Dh]
theorem Hb {t : TypeId} {n B o : Nat} {cv : Value} {w : World} (hn : k6 P t = some n) (h : cv.cells.size = n) (A : ∀ j, j < n → (cl w B (o + j)).isSome = true) (hf : ∀ j, j < n → w.frozen? ⟨B, o + j, none⟩ = false)
  (h1 : ∀ u ∈ cv.cells.toList, u.oneCell' = true) : (storeVar t ⟨B, o, none⟩ cv).run P w = .ok () (w.setCells B o cv.cells.toList) := by
 have z := run_storeCells_cells (P := P) B o cv.cells.toList 0 w (by simpa [h] using A) (by simpa [h] using hf) h1
 rw [yp2] at z
 simp only [storeVar, Sem.run_bind, dX hn, Result.andThen_ok, Sem.run_ite, h, ne_eq, not_true_eq_false, if_false, Sem.run_pure, z]
theorem kA : ∀ {xs vs : List Value} {o j : Nat}, o + xs.length ≤ vs.length → (bE vs o xs)[j]? = if o ≤ j ∧ j < o + xs.length then xs[j - o]? else vs[j]?
 | [], vs, o, j, h => by simp [bE]; omega
 | x :: xs, vs, o, j, h => by
  simp only [bE]
  simp only [ye1] at h
  rw [kA (xs := xs) (by simp; omega)]
  by_cases h1 : o + 1 ≤ j ∧ j < o + 1 + xs.length
  ·rw [if_pos h1, if_pos (by simp; omega), show j - o = (j - (o + 1)) + 1 by omega, yx1]
  ·rw [if_neg h1]
   by_cases h2 : j = o
   ·subst h2
    rw [if_pos (by simp), yf1 (by omega)]; simp
   ·rw [yg1 (by omega), if_neg (by simp; omega)]
theorem AF {G : Gh} {w : World} {mem : a9} {b : Nat} {x : d8} {B : Nat} {row' : cI} {vs : List Value} {o : Nat} {xs : List Value} (hM : aT G w mem) (hx : mem[b]? = some (some x)) (hl : G.loc b x.gen = some ⟨some B, x.row.e, x.row.len⟩)
  (N : x.frz = false) (V : ∀ j, j < vs.length → cl w B j = vs[j]?) (ho : o + xs.length ≤ vs.length) (he : row'.e = x.row.e) (M : row'.len = x.row.len)
  (hv : bL G w row'.all (bE vs o xs)) :
  Ev G w (w.setCells B o xs) ∧ aT G (w.setCells B o xs) (mem.set b (some { x with row := row' })) := by
 have hb := hM.box b x hx
 obtain ⟨oo, U, hm⟩ := hb.loc
 rw [hl] at U
 obtain rfl : some B = oo := by simpa using U
 obtain ⟨h1, h2, h3, h4, h5⟩ := hm
 have h : ∀ j, j < xs.length → (cl w B (o + j)).isSome = true := by
  intro j hj; rw [V _ (by omega), yd (by omega)]; rfl
 have H := Ev.setCells (G := G) (vs := xs) h1 h (h5 N)
 have hbl : b < mem.length := (yh.1 hx).1
 refine ⟨H, ?_⟩
 have z : G.put b x.gen ⟨some B, x.row.e, x.row.len⟩ = G := by
  unfold Gh.put
  congr 1
  funext W g'
  split
  ·rename_i Y; obtain ⟨rfl, rfl⟩ := Y; exact hl.symm
  ·rfl
 have := hM.upd (x' := { x with row := row' }) (L := ⟨some B, x.row.e, x.row.len⟩) H hbl (.inr hl) ?_ ?_ ?_ ?_
 ·rw [z] at this; exact this
 ·intro W y Lb B' A Z K hk
  refine dR (w := w) (fun hB => ?_) xs o w
  subst hB
  exact A (hM.apart W b y x Lb _ B' Z hx K hl hk rfl)
 ·intro B' O W y Lb A Z K hk
  simp only [Option.some.injEq] at O; subst O
  exact A (hM.apart W b y x Lb _ B Z hx K hl hk rfl)
 ·exact fun g hg => hM.gens b x g hx hg
 ·rw [z]
  refine ⟨by show 1 ≤ row'.e; rw [he]; exact hb.e, some B, by show G.loc b x.gen = some ⟨some B, row'.e, row'.len⟩; rw [he, M]; exact hl, h1, by rw [j9]; exact h2, h3.setCells, ?_, h5⟩
  ·refine o4.ofList (hv.mono (d9.refl G) H) (fun j u J => ?_)
   rw [kA ho] at J
   by_cases Y : o ≤ j ∧ j < o + xs.length
   ·rw [if_pos Y] at J
    obtain ⟨k, rfl⟩ : ∃ k, j = o + k := ⟨j - o, by omega⟩
    rw [lW h (by omega)]
    rw [yk3, yd (by omega)] at J; exact J
   ·rw [if_neg Y] at J
    rw [kV (by omega), V _ (yh.1 J).1]; exact J
end
end Go.Ab
end
section
namespace Go.Ab
variable [cD]
theorem oI {b : Nat} : ∀ {l : List Nat}, gW b l = true ↔ b ∈ l
 | [] => by simp [gW]
 | m :: r => by simp only [gW, yc2, cX, yq1, oI (l := r)]; constructor <;> rintro (h | h) <;> first | exact .inl h.symm | exact .inr h
theorem Di : ∀ {xs vs : List PV} {o j : Nat}, o + xs.length ≤ vs.length → (nL vs o xs)[j]? = if o ≤ j ∧ j < o + xs.length then xs[j - o]? else vs[j]?
 | [], vs, o, j, h => by simp [nL]; omega
 | x :: xs, vs, o, j, h => by
  simp only [nL]
  simp only [ye1] at h
  rw [Di (xs := xs) (by simp; omega)]
  by_cases h1 : o + 1 ≤ j ∧ j < o + 1 + xs.length
  ·rw [if_pos h1, if_pos (by simp; omega), show j - o = (j - (o + 1)) + 1 by omega, yx1]
  ·rw [if_neg h1]
   by_cases h2 : j = o
   ·subst h2
    rw [if_pos (by simp), yf1 (by omega)]; simp
   ·rw [yg1 (by omega), if_neg (by simp; omega)]
section
variable {P : Program}
theorem GM {G : Gh} {w : World} {mem : a9} {t : TypeId} {a x : AV} {out : eL} {ca Y : Value} (hM : aT G w mem) (h : jO P t mem a x = some out) (ha : VR G w a ca) (hx : VR G w x Y) :
  out.v = .lit undef ∧ ∃ G' w', (Instr.storeAt t ca Y).run P w = .ok () w' ∧ d9 G G' ∧ Ev G w w' ∧ aT G' w' (out.apply mem) := by
 unfold jO at h
 split at h
 ·rename_i b g i c
  rw [bind_some] at h; obtain ⟨bx, hbx, h⟩ := h
  rw [bind_some] at h; obtain ⟨n, hn, h⟩ := h
  rw [aB] at h; obtain ⟨hg, h⟩ := h
  simp only [yc, yy] at hg
  obtain ⟨U, K⟩ := hg
  have K := cX.1 K
  obtain ⟨hm, hgen⟩ := box?_some hbx
  obtain ⟨B, rfl, hl, hmine, hB, hfz, hrow, hpr⟩ := hM.at_ptr hbx ha
  have he := (hM.box b bx hm).e
  obtain ⟨vs, hvs, hcl⟩ := hrow.toList he
  have hxc := hx.cells
  have hsz : Y.cells.size = n := by rw [← K]; simpa using hxc.1.symm
  have hrun : ∀ o, o + n ≤ vs.length → (∀ u ∈ Y.cells.toList, u.oneCell' = true) → (Instr.storeAt t (.pointer (some ⟨B, o, none⟩)) Y).run P w = .ok () (w.setCells B o Y.cells.toList) := by
   intro o ho h1
   have hsome : ∀ j, j < n → (cl w B (o + j)).isSome = true := fun j M => by rw [hcl _ (by omega), yd (by omega)]; rfl
   have := Hb (P := P) hn hsz hsome (fun j M => hfz.cell (hsome j M)) h1
   simp [Instr.storeAt, Instr.sureAddr, this]
  obtain ⟨gen, frz, row⟩ := bx
  simp only at U hgen hl hvs hcl he; subst hgen
  split at h
  ·rename_i e cs O
   simp only at O; subst O
   rw [aB] at h; obtain ⟨hc, h⟩ := h
   simp only [yc] at hc
   have hle := eT.1 hc.1
   obtain rfl := yb h
   refine ⟨rfl, ?_⟩
   obtain ⟨V, hv1, hcnt, hvv⟩ := hvs
   have hcl2 : vs.length = cs.length := by rw [V]; show bD e cs.length * e = cs.length; rw [yq2]; exact hcnt.symm
   have hL : jH G w cs vs := ⟨hcl2.symm, fun j y J => by obtain ⟨u, W, hp⟩ := hvv j y J; rw [yl, W]; exact hp⟩
   have H := hxc.ones hc.2
   have hnew := hL.setCells (i := i * e + c) hxc
   have A : bL G w (.avs e (setCells cs (i * e + c) x.cells)) (bE vs (i * e + c) Y.cells.toList) := by
    have hsl : (setCells cs (i * e + c) x.cells).length = cs.length := kS (as := cs)
    refine ⟨?_, fun u W => ?_, by rw [hsl]; exact hcnt, fun j y J => ?_⟩
    ·show _ = bD e (setCells cs (i * e + c) x.cells).length * e
     rw [gI, hsl, hcl2, yq2]; exact hcnt
    ·obtain ⟨j, M, rfl⟩ := yp1 W
     have hg := kA (xs := Y.cells.toList) (vs := vs) (o := i * e + c) (j := j) (by simp [hsz]; omega)
     rw [yd M] at hg
     split at hg
     ·exact H _ (yj hg.symm)
     ·exact hv1 _ (yj hg.symm)
    ·have M : j < (bE vs (i * e + c) Y.cells.toList).length := by rw [← hnew.1]; exact (yh.1 J).1
     have := hnew.2 j y J
     rw [yl, yd M] at this
     exact ⟨_, yd M, this⟩
   have hsl : (setCells cs (i * e + c) x.cells).length = cs.length := kS (as := cs)
   obtain ⟨hev, hM'⟩ := AF (row' := .cells e (setCells cs (i * e + c) x.cells)) (o := i * e + c) (xs := Y.cells.toList) hM hm hl U hcl (by simp [hsz]; omega) rfl (by simp only [cI.len]; rw [hsl]) A
   exact ⟨G, _, hrun _ (by show i * e + c + n ≤ _; omega) H, d9.refl G, hev, by rw [jQ]; exact hM'⟩
  ·rename_i k xs O
   simp only at O; subst O
   split at h
   ·rename_i k' z _
    rw [aB] at h; obtain ⟨hc, h⟩ := h
    simp only [yc] at hc
    obtain ⟨⟨hk, hc0⟩, hi⟩ := hc
    rw [jX] at hk; subst hk
    obtain rfl := cX.1 hc0
    have hi := eT.1 hi
    obtain rfl := yb h
    refine ⟨rfl, ?_⟩
    obtain rfl := hx.lit_inv
    obtain ⟨V, hv1, hvv⟩ := hvs
    simp only [cI.all, aN.len, aN.e, yi3] at V
    have hcells : (Value.int k z).cells.toList = [Value.int k z] := rfl
    have A : bL G w (.ints k (xs.set i z)) (bE vs i [Value.int k z]) := by
     refine ⟨by simp [aN.len, aN.e, gI, V], fun u W => ?_, fun j y J => ?_⟩
     ·simp only [bE] at W
      rcases ym2 W with h | h
      ·exact hv1 u h
      ·rw [h]; rfl
     ·simp only [bE]
      by_cases e : j = i
      ·subst e
       rw [yf1 (by omega)] at J ⊢
       simp at J; rw [J]
      ·rw [yg1 (fun x => e x.symm)] at J ⊢
       exact hvv j y J
    have hn1 : n = 1 := by rw [← K]; rfl
    subst hn1
    obtain ⟨hev, hM'⟩ := AF (row' := .ints k (xs.set i z)) (o := i) (xs := [Value.int k z]) hM hm hl U hcl (by simp; omega) rfl (by simp [cI.len]) A
    refine ⟨G, _, ?_, d9.refl G, hev, by rw [jQ]; exact hM'⟩
    have := hrun i (by omega) (by simp [hcells, Value.oneCell'])
    rw [hcells] at this
    have e0 : i * (cI.ints k xs).e + 0 = i := by simp [cI.e]
    rw [e0]; exact this
   ·simp at h
  ·rename_i β e xs O
   simp only at O; subst O
   rw [bind_some] at h; obtain ⟨p, hp, h⟩ := h
   rw [bind_some] at h; obtain ⟨q, hq, h⟩ := h
   rw [aB] at h; obtain ⟨hc, h⟩ := h
   simp only [yc, yy] at hc
   obtain ⟨⟨hce, hpl⟩, hnb⟩ := hc
   have hce := eT.1 hce
   have hpl := cX.1 hpl
   have hnb : b ∉ q.2.2 := fun hh => by rw [oI.2 hh] at hnb; cases hnb
   obtain rfl := yb h
   refine ⟨rfl, ?_⟩
   obtain ⟨ql, qq⟩ := pG hM hq hx
   have hM1 := hM.freeze q.2.2
   have hg1 := d9.frz G (bH G mem q.2.2) hM.inBoxes
   have hm1 : (aP mem (bV mem q.2.2))[b]? = some (some ⟨gen, frz, .pvs β e xs⟩) := by
    rw [(eC mem q.2.2 mem b rfl).2.1 (.inl hnb)]; exact hm
   have hvs1 : bL (G.frz (bH G mem q.2.2)) w (.pvs β e xs) vs := hvs.mono hg1 (Ev.refl G w)
   obtain ⟨V, hv1, hxl, hvv⟩ := hvs1
   simp only [aN.len, aN.e] at V
   simp only [cI.e] at he
   have hi := (yh.1 hp).1
   have hpos : i * e + c + n ≤ vs.length := by
    rw [V]
    calc i * e + c + n ≤ i * e + e := by omega
     _ = (i + 1) * e := by rw [yt1]; simp
     _ ≤ xs.length * e := ya2 _ hi
   have H : ∀ u ∈ Y.cells.toList, u.oneCell' = true := by
    intro u W
    obtain ⟨j, M, rfl⟩ := yp1 W
    have hj2 : j < q.2.1.cells.length := by rw [ql, hxc.1]; exact M
    obtain ⟨u', hu', _, h1⟩ := qq j _ (yd hj2)
    rw [yd M] at hu'
    obtain rfl := yb hu'; exact h1
   generalize hp' : (bif n.beq e && c.beq 0 then q.2.1 else PV.agg (nL p.cells c q.2.1.cells)) = p'
   have hp'c : ∀ (j : Nat), p'.cells[j]? = if c ≤ j ∧ j < c + n then q.2.1.cells[j - c]? else p.cells[j]? := by
    intro j
    have hqn : q.2.1.cells.length = n := by rw [ql, K]
    cases N : (n.beq e && c.beq 0) with
    | true =>
     rw [N] at hp'; simp only [yg] at hp'; subst hp'
     simp only [yc] at N
     obtain rfl := cX.1 N.1
     obtain rfl := cX.1 N.2
     by_cases M : j < n
     ·rw [if_pos (by omega)]; simp
     ·rw [if_neg (by omega), ya1 (by omega), ya1 (by omega)]
    | false =>
     rw [N] at hp'; simp only [ye] at hp'; subst hp'
     show (nL p.cells c q.2.1.cells)[j]? = _
     rw [Di (by omega), hqn]
   have hp'l : p'.cells.length = e := by
    have h1 : p'.cells[e]? = none := by rw [hp'c, if_neg (by omega), ya1 (by omega)]
    have h2 : ∃ y, p'.cells[e - 1]? = some y := by
     rw [hp'c]
     split
     ·rename_i hh; exact ⟨_, yd (by rw [ql, K]; omega)⟩
     ·exact ⟨_, yd (by omega)⟩
    obtain ⟨y, J⟩ := h2
    have := (yh.1 J).1
    have := List.getElem?_eq_none_iff.1 h1
    omega
   have A : bL (G.frz (bH G mem q.2.2)) w (.pvs (β || q.1) e (xs.set i p')) (bE vs (i * e + c) Y.cells.toList) := by
    have hg := fun j => kA (xs := Y.cells.toList) (vs := vs) (o := i * e + c) (j := j) (by simp [hsz]; omega)
    have Z := hM1.lab
    refine ⟨by simp [aN.len, aN.e, gI, V], fun u W => ?_, fun x hx => ?_, fun i' x c' y hx J => ?_⟩
    ·obtain ⟨j, M, rfl⟩ := yp1 W
     have hg := hg j
     rw [yd M] at hg
     split at hg
     ·exact H _ (yj hg.symm)
     ·exact hv1 _ (yj hg.symm)
    ·rcases ym2 hx with h | h
     ·exact hxl x h
     ·rw [h]; exact hp'l
    ·have hc'e : c' < e := by
      have h0 := (yh.1 J).1
      have : x.cells.length = e := by
       rcases ym2 (yj hx) with h | h
       ·exact hxl x h
       ·rw [h]; exact hp'l
      omega
     rw [hg]
     simp only [yv1, hsz]
     by_cases hii : i' = i
     ·subst hii
      rw [yf1 hi] at hx
      obtain rfl := yb hx
      rw [hp'c] at J
      by_cases N : c ≤ c' ∧ c' < c + n
      ·rw [if_pos N] at J
       rw [if_pos (by omega), show i' * e + c' - (i' * e + c) = c' - c by omega]
       obtain ⟨u, W, hpu, _⟩ := qq _ y J
       exact ⟨u, W, hpu.weak' Z⟩
      ·rw [if_neg N] at J
       rw [if_neg (by omega)]
       obtain ⟨u, W, hpu⟩ := hvv i' p c' y hp J
       exact ⟨u, W, hpu.weak Z⟩
     ·rw [yg1 (fun x => hii x.symm)] at hx
      obtain ⟨u, W, hpu⟩ := hvv i' x c' y hx J
      refine ⟨u, ?_, hpu.weak Z⟩
      rw [if_neg ?_]
      ·exact W
      ·rintro ⟨h1, h2⟩
       rcases Nat.lt_or_gt_of_ne hii with hlt | hlt
       ·have : i' * e + e ≤ i * e := by
         calc i' * e + e = (i' + 1) * e := by rw [yt1]; simp
          _ ≤ i * e := ya2 _ hlt
        omega
       ·have : i * e + e ≤ i' * e := by
         calc i * e + e = (i + 1) * e := by rw [yt1]; simp
          _ ≤ i' * e := ya2 _ hlt
        omega
   obtain ⟨hev, hM'⟩ := AF (row' := .pvs (β || q.1) e (xs.set i p')) (o := i * e + c) (xs := Y.cells.toList) hM1 hm1 hl U hcl (by simp [hsz]; omega) rfl (by simp [cI.len]) A
   refine ⟨_, _, hrun _ (by show i * e + c + n ≤ _; omega) H, hg1, ?_, by rw [Ll]; exact hM'⟩
   have hjj : ∀ j, j < Y.cells.toList.length → i * e + c + j < vs.length := fun j M => by simp [hsz] at M; omega
   exact Ev.setCells hmine (fun j M => by show (cl w B (i * e + c + j)).isSome = true; rw [hcl _ (hjj j M), yd (hjj j M)]; rfl) (hpr U)
 ·simp at h
end
end Go.Ab
end
section
namespace Go.Ab
variable [cD]
section
variable {P : Program}
structure CK (P : Program) (t et : TypeId) (s : Nat) (i : TypeInfo) (z : Value) : Prop where
 under : P.underlying t = some (.slice et)
 info : P.info? et = some i
 size : i.size = s
 zero : i.zero = some z
 zsize : z.cells.size = s
 bytes : i.bytes ≤ 4096
 one : 1 ≤ s
theorem zI {n bytes : Nat} (hn : n ≤ cT) (h : bytes ≤ 4096) : n * bytes ≤ 140737488355328 := by
 have : n * bytes ≤ n * 4096 := Nat.mul_le_mul_left n h
 unfold cT at hn
 omega
theorem HR {G : Gh} {w K : World} {mem : a9} {b g' : Nat} {row' : cI} {B' : Nat} {vs : List Value} (hM : aT G w mem) (hb : b < mem.length) (N : Ev G w K) (J : ∀ g, g' ≤ g → G.loc b g = none)
  (he : 1 ≤ row'.e) (H : G.mine B') (hB : B' < K.heap.size) (Y : jI K B') (W : ∀ β o, ¬ G.prot β B' o)
  (h : ∀ (z : Nat) (y : d8) (M : wZ) (B : Nat), z ≠ b → mem[z]? = some (some y) → G.loc z y.gen = some M → M.blk = some B → K.heap[B]? = w.heap[B]? ∧ B ≠ B')
  (hv : bL G w row'.all vs) (Z : ∀ j u, vs[j]? = some u → cl K B' j = some u) :
  ∃ G', d9 G G' ∧ G'.loc b g' = some ⟨some B', row'.e, row'.len⟩ ∧ aT G' K (mem.set b (some { gen := g', frz := false, row := row' })) := by
 have U : d9 G (G.put b g' ⟨some B', row'.e, row'.len⟩) := d9.put (.inl (J g' (yz _)))
 refine ⟨_, U, Gh.put_self .., hM.upd (x' := { gen := g', frz := false, row := row' }) N hb (.inl (J g' (yz _))) (fun z y M B A V hl hk => (h z y M B A V hl hk).1) ?_ (fun g U => J g (Nat.le_of_lt U)) ?_⟩
 ·intro B O z y M A V hl hk
  simp only [Option.some.injEq] at O; subst O
  exact (h z y M B' A V hl hk).2 rfl
 ·exact ⟨he, some B', Gh.put_self .., H, hB, Y, o4.ofList (hv.mono U N) Z, fun _ => W⟩
theorem FD {G : Gh} {w : World} {mem : a9} {b g' : Nat} {row' : cI} (hM : aT G w mem) (J : b < mem.length) (h : ∀ g, g' ≤ g → G.loc b g = none)
  (O : 1 ≤ row'.e) (M : row'.len = 0) (N : row'.isCells = false) :
  ∃ H, d9 G H ∧ H.loc b g' = some ⟨none, row'.e, row'.len⟩ ∧ aT H w (mem.set b (some { gen := g', frz := false, row := row' })) := by
 have z : d9 G (G.put b g' ⟨none, row'.e, row'.len⟩) := d9.put (.inl (h g' (yz _)))
 refine ⟨_, z, Gh.put_self .., hM.upd (x' := { gen := g', frz := false, row := row' }) (Ev.refl G w) J (.inl (h g' (yz _))) (fun b' y Lb B K hy hl hk => rfl) ?_ (fun g z => h g (Nat.le_of_lt z)) ?_⟩
 ·intro B A; cases A
 ·exact ⟨O, none, Gh.put_self .., M, N⟩
theorem oO (w : World) (c : Array Value) (t : TypeId) : (∀ B, B < w.heap.size → (w.drew.alloc (.cells c t)).heap[B]? = w.heap[B]?) ∧ (w.drew.alloc (.cells c t)).heap.size = w.heap.size + 1 ∧
  (∀ j, cl (w.drew.alloc (.cells c t)) w.heap.size j = c[j]?) ∧ jI (w.drew.alloc (.cells c t)) w.heap.size := by
 refine ⟨fun B hB => ?_, by simp, fun j => ?_, ?_⟩
 ·have := fL (w := w.drew) (o := .cells c t) (B := B) (by simpa using hB)
  rw [this]; rfl
 ·have := lC (w := w.drew) (c := c) (t := t) (fr := (0, 0)) (j := j)
  simpa using this
 ·exact jI.alloc (w := w.drew)
theorem Ev.drew_alloc (G : Gh) (w : World) (o : Obj) (z : ∀ β B x, G.prot β B x → B < w.heap.size) (h : ∃ c t, o = .cells c t := by exact ⟨_, _, rfl⟩) : Ev G w (w.drew.alloc o) :=
 (Ev.drew G w).trans (d9.refl G) (Ev.alloc G w.drew o z h)
theorem IA {G : Gh} {w : World} {mem : a9} {b g' : Nat} {row' : cI} {t J ty tx : TypeId} {s : Nat} {i : TypeInfo} {z : Value} {base : Option Addr} {len cap n : Nat} {olds h : List Value} {y : Value}
    (hM : aT G w mem) (hb : b < mem.length) (hno : ∀ g, g' ≤ g → G.loc b g = none) (hE : CK P t J s i z)
    (U : (Builtin.firstCells i.size len (.slice base len cap)).run P w.drew = .ok olds.toArray w.drew) (hol : olds.length = len * s) (hs : Src P s tx y n h w)
    (H : cap < len + n) (A : len + n ≤ cT) (he : row'.e = s) (K : row'.len = len + n) (hv : bL G w row'.all (olds ++ h)) :
    ∃ O w1 cv, (Builtin.append_ #[t, tx] ty #[.slice base len cap, y]).run P w = .ok cv w1 ∧ VR O w1 (.msw b g') cv ∧ d9 G O ∧ Ev G w w1 ∧ aT O w1 (mem.set b (some { gen := g', frz := false, row := row' })) := by
  have Y := growslice_fits (bytes := i.bytes) H (zI A hE.bytes)
  have M := run_append_grow_src (P := P) w t tx ty J i z hE.under hE.info hE.zero base len cap olds U y n h (by rw [hE.size]; exact hs) H (by unfold cT at A; omega) Y
  generalize hc : (olds ++ h).toArray ++ Builtin.zeroCells z.cells (grownCap w (len + n) cap J - (len + n)) = c at M
  obtain ⟨f1, f2, f3, f4⟩ := oO w c J
  have V := Ev.drew_alloc G w (.cells c J) hM.away
  have N : len + n ≤ grownCap w (len + n) cap J := grownCap_ge w _ _ _
  have hcl : ∀ j u, (olds ++ h)[j]? = some u → cl (w.drew.alloc (.cells c J)) w.heap.size j = some u := by
    intro j u hu
    rw [f3, ← hc, yz2 (by simpa using (yh.1 hu).1)]
    simpa using hu
  obtain ⟨O, hg, hl, hM'⟩ := HR (row' := row') (B' := w.heap.size) (vs := olds ++ h) hM hb V hno (by rw [he]; exact hE.one) (hM.own _ (yz _)) (by rw [f2]; omega) f4
    (fun β o hp => absurd (hM.away β _ o hp) (Nat.lt_irrefl _)) (fun b' y' Lb B hne hy hl W => by
      obtain ⟨o, Z, hm⟩ := (hM.box b' y' hy).loc
      rw [hl] at Z
      obtain rfl := yb Z
      simp only at W; subst W
      exact ⟨f1 B hm.2.1, Nat.ne_of_lt hm.2.1⟩) hv hcl
  refine ⟨O, _, _, M, ?_, hg, V, hM'⟩
  generalize grownCap w (len + n) cap J = C at hc N ⊢
  have W : VR O (w.drew.alloc (.cells c J)) (.msw b g') (.slice (some ⟨w.heap.size, 0, none⟩) row'.len C) := by
   refine .msw b g' _ _ w.heap.size hl rfl (by simp only; rw [K]; exact N) (fun j hj => ?_)
   simp only [he] at hj
   rw [f3, ← hc]
   have hn := hs.newsLen
   rw [yn1 (by
    simp only [Array.size_append, List.size_toArray, yi, size_zeroCells, hol, hn, hE.zsize]
    rw [← yt1, ← yt1]
    exact yn2 hj (ya2 _ (by omega)))]
   rfl
  rw [K] at W; exact W
theorem Cz {G : Gh} {w : World} {mem : a9} {b : Nat} {x : d8} {xv yv zv : aN} {B cap : Nat} {H h : List Value} {t et ty tx : TypeId} {s : Nat} {i : TypeInfo} {z : Value} {y : Value}
  (hM : aT G w mem) (hx : mem[b]? = some (some x)) (hl : G.loc b x.gen = some ⟨some B, x.row.e, x.row.len⟩) (Z : x.frz = false) (hE : CK P t et s i z) (hse : s = x.row.e)
  (O : xv.e = s) (hx0 : bL G w xv H) (W : ∀ j u, H[j]? = some u → cl w B j = some u) (hcap : xv.len ≤ cap) (hfit : Er w B (cap * s))
  (hs : Src P s tx y yv.len h w) (hnews : bL G w yv h) (happ : xv.app P et yv = some zv) (hmost : zv.len ≤ cT) :
  ∃ G' w1 cv, (Builtin.append_ #[t, tx] ty #[.slice (some ⟨B, 0, none⟩) xv.len cap, y]).run P w = .ok cv w1 ∧ VR G' w1 (.msw b (x.gen + 1)) cv ∧ d9 G G' ∧ Ev G w w1 ∧
   aT G' w1 (mem.set b (some { gen := x.gen + 1, frz := false, row := zv.row })) := by
 have hbl : b < mem.length := (yh.1 hx).1
 have hno : ∀ g, x.gen + 1 ≤ g → G.loc b g = none := fun g hg => hM.gens b x g hx hg
 obtain ⟨hz, hze, hze2, K⟩ := Ga hM.lab happ hx0 hnews
 have N : H.length = xv.len * s := by rw [hx0.1, O]
 have hnl := hs.newsLen
 by_cases J : xv.len + yv.len ≤ cap
 ·obtain ⟨oo, hl', hm⟩ := (hM.box b x hx).loc
  rw [hl] at hl'
  obtain rfl : some B = oo := by simpa using hl'
  obtain ⟨h1, h2, h3, h4, h5⟩ := hm
  have A : ∀ j, j < h.length → (cl w B (xv.len * s + j)).isSome = true := by
   intro j V
   refine hfit _ ?_
   rw [hnl] at V
   calc xv.len * s + j < xv.len * s + yv.len * s := by omega
    _ = (xv.len + yv.len) * s := by rw [yt1]
    _ ≤ cap * s := ya2 _ J
  have U := run_append_room_src (P := P) w t tx ty et i hE.under hE.info B 0 xv.len cap y yv.len h (by rw [hE.size]; exact hs) J
   (fun j V => by rw [hE.size, yj1]; exact A j V) (fun j V => by rw [hE.size, yj1]; exact h3.cell (A j V))
  rw [hE.size, yj1] at U
  have hev := Ev.setCells (G := G) (vs := h) h1 A (h5 Z)
  have hcl : ∀ j u, (H ++ h)[j]? = some u → cl (w.setCells B (xv.len * s) h) B j = some u := by
   intro j u M
   by_cases V : j < H.length
   ·rw [yq V] at M
    rw [kV (by rw [← N]; exact .inl V)]; exact W j u M
   ·rw [yt (by omega)] at M
    obtain ⟨k, rfl⟩ : ∃ k, j = xv.len * s + k := ⟨j - H.length, by omega⟩
    rw [N, yk3] at M
    have hk := (yh.1 M).1
    rw [lW A hk]
    rw [yd hk] at M; exact M
  obtain ⟨G', hg, hl2, hM'⟩ := HR (row' := zv.row) (B' := B) (vs := H ++ h) hM hbl hev hno (by rw [iL, hze, O]; exact hE.one) h1 (by rw [j9]; exact h2)
   h3.setCells
   (h5 Z) (fun b' y' Lb B2 hne hy hl3 hk => by
    have Y : B2 ≠ B := fun hB => by subst hB; exact hne (hM.apart b' b y' x Lb _ B2 hy hx hl3 hl hk rfl)
    exact ⟨dR (w := w) Y h _ w, Y⟩)
   (by rw [i0]; exact hz) hcl
  refine ⟨G', _, _, U, ?_, hg, hev, hM'⟩
  have hk : VR G' (w.setCells B (xv.len * s) h) (.msw b (x.gen + 1)) (.slice (some ⟨B, 0, none⟩) zv.row.len cap) := by
   refine .msw b (x.gen + 1) cap _ B hl2 rfl (by simp only; rw [fE, K]; exact J) ?_
   simp only [iL, hze, O]
   exact hfit.mono hev
  rw [fE, K] at hk; exact hk
 ·refine IA (row' := zv.row) (olds := H) (s := s) hM hbl hno hE ?_ N hs (by omega) (by rw [← K]; exact hmost) (by rw [iL, hze, O]) (by rw [fE, K]) (by rw [i0]; exact hz)
  rw [hE.size]
  exact run_firstCells_some w.drew s xv.len ⟨B, 0, none⟩ xv.len cap H N (fun j u M => by rw [dJ, yj1]; exact W j u M)
theorem Bh {G : Gh} {w : World} {mem : a9} {b g' : Nat} {row' : cI} {n : Nat} {h : List Value} {t W ty U : TypeId} {s : Nat} {i : TypeInfo} {z : Value} {y : Value}
  (hM : aT G w mem) (V : b < mem.length) (J : ∀ g, g' ≤ g → G.loc b g = none) (hE : CK P t W s i z) (N : Src P s U y n h w) (hn : n ≤ cT) (Y : row'.e = s) (A : row'.len = n) (hv : bL G w row'.all h)
  (hc : n = 0 → row'.isCells = false) :
  ∃ K M cv, (Builtin.append_ #[t, U] ty #[.slice none 0 0, y]).run P w = .ok cv M ∧ VR K M (.msw b g') cv ∧ d9 G K ∧ Ev G w M ∧
   aT K M (mem.set b (some { gen := g', frz := false, row := row' })) := by
 by_cases Z : n = 0
 ·subst Z
  have H : h = [] := yp (by rw [N.newsLen]; simp)
  subst H
  obtain ⟨K, hg, hl, O⟩ := FD (row' := row') hM V J (by rw [Y]; exact hE.one) A (hc rfl)
  exact ⟨K, w, _, run_append_nothing (P := P) w t U ty W i hE.under hE.info none 0 0 (yz _) y (by rw [hE.size]; exact N), .mswNil b g' _ hl rfl A, hg, Ev.refl G w, O⟩
 ·exact IA (row' := row') (olds := []) (base := none) (len := 0) (cap := 0) hM V J hE (run_firstCells_none w.drew i.size 0 0 0) (by simp) N (by omega) (by omega) Y (by omega) (by simpa using hv)
end
end Go.Ab
end
section
namespace Go.Ab
variable [cD]
theorem aT.protect {G : Gh} {w : World} {mem : a9} (hM : aT G w mem) (S : Nat → Nat → Prop) (hS : ∀ B o, S B o → B < w.heap.size ∧ G.mine B ∧ ∀ (b : Nat) (x : d8) (e n : Nat), mem[b]? = some (some x) → x.frz = false → G.loc b x.gen ≠ some ⟨some B, e, n⟩) :
  aT (G.frz S) w mem := by
 refine ⟨fun b x h => ?_, hM.unset, hM.gens, hM.apart, hM.own, fun B o h => h.imp (hM.lab B o) id, fun β B o h => h.elim (hM.away β B o) (fun h => (hS B o h).1), hM.glob.mono (fun _ _ h => .inl h) fun _ _ _ => rfl⟩
 have hx := hM.box b x h
 obtain ⟨o, hl, hm⟩ := hx.loc
 refine ⟨hx.e, o, hl, ?_⟩
 cases o with
 | none => exact hm
 | some B =>
  obtain ⟨h1, h2, J, A, H⟩ := hm
  refine ⟨h1, h2, J, A.mono (d9.frz G S fun B o h => (hS B o h).2.1) (Ev.refl G w) (fun _ _ => rfl), fun hf β o z => ?_⟩
  rcases z with z | z
  ·exact H hf β o z
  ·exact (hS B o z).2.2 b x _ _ h hf hl
theorem aT.new_tree {G : Gh} {w H : World} {mem : a9} (hM : aT G w mem) (z : Ev G w H) (J : ∀ B, B < w.heap.size → H.heap[B]? = w.heap[B]?) (K : H.heap.size = w.heap.size + 1) :
  aT (G.frz fun B _ => B = w.heap.size) H mem := by
 refine (hM.ev z (.inr z.size) J).protect _ fun B o h => ?_
 subst h
 refine ⟨by omega, hM.own _ (yz _), fun b x e n hx _ hl => ?_⟩
 obtain ⟨o, A, hm⟩ := (hM.box b x hx).loc
 rw [hl] at A
 have := congrArg wZ.blk (yb A)
 simp only at this; subst this
 exact Nat.lt_irrefl _ hm.2.1
theorem BT {G : Gh} {w : World} {v : aN} {a : AV} {vs : List Value} {B cap : Nat} (N : bL G w v vs) (K : v.imm? = some a) (V : 1 ≤ v.e) (J : ∀ j u, vs[j]? = some u → cl w B j = some u)
  (O : ∀ β o, G.prot β B o) (z : v.len ≤ cap) : VR G w a (.slice (some ⟨B, 0, none⟩) v.len cap) := by
 cases v with
 | ints k xs =>
  obtain rfl := yb K
  obtain ⟨_, _, h⟩ := N
  exact .imm _ _ _ (.ints k xs B 0 cap z fun i x hx => by rw [yj1]; exact ⟨J _ _ (h i x hx), O _ _⟩) rfl
 | pvs β e xs =>
  obtain rfl := yb K
  obtain ⟨_, h1, h2, h⟩ := N
  have H : ∀ (i : Nat) (x : PV) (c : Nat) (y : PV), xs[i]? = some x → x.cells[c]? = some y → vs[i * e + c]? = some (vs.getD (i * e + c) undef) ∧ PR w (G.prot β) y (vs.getD (i * e + c) undef) := by
   intro i x c y hx A
   obtain ⟨u, U, M⟩ := h i x c y hx A
   rw [yl, U]; exact ⟨rfl, M⟩
  exact .imm _ _ _ (.sl e xs B 0 cap (fun i c => vs.getD (i * e + c) undef) V z h2 (fun i x c y hx A => by rw [yj1]; exact ⟨J _ _ (H i x c y hx A).1, O _ _⟩)
   (fun i x c y hx A => h1 _ (yj (H i x c y hx A).1)) (fun i x c y hx A => (H i x c y hx A).2)) rfl
 | avs e cs => simp [aN.imm?] at K
theorem IR {G : Gh} {w : World} {v : aN} {a : AV} (h : v.imm? = some a) (z : v.len = 0) : VR G w a (.slice none 0 0) := by
 cases v with
 | ints k xs =>
  obtain rfl := yb h
  obtain rfl := yp z
  exact .imm _ _ _ (.intsNil k _) rfl
 | pvs β e xs =>
  obtain rfl := yb h
  obtain rfl := yp z
  exact .imm _ _ _ (.slNil e _) rfl
 | avs e cs => simp [aN.imm?] at h
section
variable {P : Program}
theorem LD {t h : TypeId} {s bytes : Nat} {z : AV} (h1 : elemOf? P t = some h) (h2 : k6 P h = some s) (K : mJ P h = some bytes) (O : zero? P h = some z) (h5 : bytes ≤ 4096) (N : 1 ≤ s) (W : z.cells.length = s) :
  ∃ i M, CK P t h s i M := by
 obtain ⟨i, M, A, U, J⟩ := oB O
 have V : P.underlying t = some (.slice h) := by
  unfold elemOf? at h1
  split at h1
  ·obtain rfl := yb h1; assumption
  ·simp at h1
 have H := (oV (G := ⟨fun _ _ => none, fun _ _ _ => False, fun _ => False⟩) (w := default) J).cells
 refine ⟨i, M, V, A, ?_, U, ?_, ?_, N⟩
 ·unfold k6 at h2; rw [A] at h2; simpa using h2
 ·rw [← W, H.1]; simp
 ·unfold mJ at K; rw [A] at K; simp at K; omega
theorem Fi {G : Gh} {w : World} {vars : Bool} {M : TypeId} {v : aN} {row : cI} {vs : List Value} (h : oC P vars M v = some row) (A : bL G w v vs) (K : 1 ≤ v.e) :
  row.e = v.e ∧ row.len = v.len ∧ bL G w row.all vs ∧ (v.len = 0 → row.isCells = false) := by
 unfold oC at h
 cases vars with
 | true =>
  simp only [yg] at h
  rw [aB] at h; obtain ⟨hl, h⟩ := h
  have hl := eT.1 hl
  rw [bind_some] at h; obtain ⟨cs, z, h⟩ := h
  rw [aB] at h; obtain ⟨h1, h⟩ := h
  obtain rfl := yb h
  have hL := BU z A
  have J : cs.length = v.len * v.e := by rw [hL.1, A.1]
  refine ⟨rfl, ?_, bL.ofLRs hL h1 ?_, fun h0 => by omega⟩
  ·show bD v.e cs.length = v.len
   rw [J, fZ (n := 0) K]
  ·rw [J, fZ (n := 0) K]
 | false =>
  simp only [ye] at h
  split at h
  ·simp at h
  ·rename_i H
   obtain rfl := yb h
   refine ⟨iL _, fE _, by rw [i0]; exact A, fun _ => ?_⟩
   cases v with
   | avs e cs => exact absurd rfl (H e cs)
   | ints k xs => rfl
   | pvs β e xs => rfl
theorem Ir {A : TypeId} {x y z : aN} (h : x.app P A y = some z) (hx : x.row.isCells = false) : z.row.isCells = false := by
 unfold aN.app at h
 split at h
 ·rw [aB] at h; obtain ⟨_, h⟩ := h; obtain rfl := yb h; rfl
 ·rw [aB] at h; obtain ⟨_, h⟩ := h; obtain rfl := yb h; rfl
 ·simp [aN.row, cI.isCells] at hx
 ·simp at h
theorem IH {r : cI} {o n : Nat} {v : aN} (h : r.sub o n = some v) (z : r.isCells = false) : v.row.isCells = false := by
 cases r with
 | ints k xs => simp only [cI.sub] at h; rw [aB] at h; obtain ⟨_, h⟩ := h; obtain rfl := yb h; rfl
 | pvs β e xs => simp only [cI.sub] at h; rw [aB] at h; obtain ⟨_, h⟩ := h; obtain rfl := yb h; rfl
 | cells e cs => simp [cI.isCells] at z
theorem I7 {r : cI} (h : r.isCells = false) : r.all.row.isCells = false := by rw [Hz]; exact h
theorem q6 {G : Gh} {w : World} {mem : a9} {b : Nat} {x : d8} {xv M Y : aN} {h : List Value} {t et ty Z : TypeId} {s : Nat} {i : TypeInfo} {z : Value} {y : Value}
  (hM : aT G w mem) (hx : mem[b]? = some (some x)) (hE : CK P t et s i z) (N : xv.e = s) (hx0 : xv.len = 0) (K : xv.row.isCells = false) (V : bL G w xv [])
  (hs : Src P s Z y M.len h w) (H : bL G w M h) (A : xv.app P et M = some Y) (O : Y.len ≤ cT) :
  ∃ W J cv, (Builtin.append_ #[t, Z] ty #[.slice none 0 0, y]).run P w = .ok cv J ∧ VR W J (.msw b (x.gen + 1)) cv ∧ d9 G W ∧ Ev G w J ∧
   aT W J (mem.set b (some { gen := x.gen + 1, frz := false, row := Y.row })) := by
 obtain ⟨hz, U, _, hzl⟩ := Ga hM.lab A V H
 exact Bh hM (yh.1 hx).1 (fun g hg => hM.gens b x g hx hg) hE hs (by omega) (by rw [iL, U, N]) (by rw [fE]; omega) (by rw [i0]; simpa using hz) (fun _ => Ir A K)
theorem bL.nilOf {G : Gh} {w : World} {v : aN} (h : v.len = 0) (z : v.row.isCells = false) : bL G w v [] := by
 cases v with
 | ints k xs =>
  obtain rfl := yp h
  exact ⟨rfl, by simp, by simp⟩
 | pvs β e xs =>
  obtain rfl := yp h
  exact ⟨by simp [aN.len], by simp, by simp⟩
 | avs e cs => simp [aN.row, cI.isCells] at z
theorem Oa {r : cI} {o n : Nat} {v : aN} (z : 1 ≤ r.e) (h : r.sub o n = some v) : v.len = n := by
 cases r with
 | ints k xs =>
  simp only [cI.sub] at h; rw [aB] at h; obtain ⟨hl, h⟩ := h; obtain rfl := yb h
  have := eT.1 hl
  simp [aN.len]; omega
 | pvs β e xs =>
  simp only [cI.sub] at h; rw [aB] at h; obtain ⟨hl, h⟩ := h; obtain rfl := yb h
  have := eT.1 hl
  simp [aN.len]; omega
 | cells e cs =>
  simp only [cI.sub] at h; rw [aB] at h; obtain ⟨hl, h⟩ := h; obtain rfl := yb h
  have hl := eT.1 hl
  rw [yt1] at hl
  have : ((cs.drop (o * e)).take (n * e)).length = n * e := by simp; omega
  simp only [aN.len]
  rw [this]
  exact fZ (n := 0) z n
theorem Fm {G : Gh} {w : World} {mem : a9} {boxed vars : Bool} {t tx ty : TypeId} {rs : Nat} {x y : AV} {out : eL} {cx cy : Value} (hM : aT G w mem) (hrs : mem[rs]? = some none)
  (h : kB P boxed vars t tx mem rs x y = some out) (hx : VR G w x cx) (hy : VR G w y cy) :
  ∃ G' w1 cv, (Builtin.append_ #[t, tx] ty #[cx, cy]).run P w = .ok cv w1 ∧ VR G' w1 out.v cv ∧ d9 G G' ∧ Ev G w w1 ∧ aT G' w1 (out.apply mem) := by
 unfold kB at h
 rw [bind_some] at h; obtain ⟨et, het, h⟩ := h
 rw [bind_some] at h; obtain ⟨s, hs, h⟩ := h
 rw [bind_some] at h; obtain ⟨bytes, hby, h⟩ := h
 rw [bind_some] at h; obtain ⟨z, hz, h⟩ := h
 rw [bind_some] at h; obtain ⟨yv, hyv, h⟩ := h
 rw [aB] at h; obtain ⟨hg, h⟩ := h
 simp only [yc] at hg
 obtain ⟨⟨⟨⟨g1, g2⟩, g3⟩, g4⟩, g5⟩ := hg
 have g1 := cX.1 g1; have g3 := eT.1 g3; have g4 := eT.1 g4; have g5 := cX.1 g5
 obtain ⟨i, zv0, hE⟩ := LD het hs hby hz g3 g4 g5
 obtain ⟨N, A, H⟩ := CE hM hyv hy (by rw [← g1]; exact hs) g2
 rw [← g1] at A
 split at h
 ·obtain rfl := hx.lit_inv
  rw [aB] at h; obtain ⟨hml, h⟩ := h
  have hml := eT.1 hml
  have hno : ∀ g, 0 ≤ g → G.loc rs g = none := fun g _ => hM.unset rs g (fun x hx => by rw [hrs] at hx; cases hx)
  have hrl := (yh.1 hrs).1
  cases boxed with
  | true =>
   simp only [yg] at h
   obtain ⟨row, hrow, rfl⟩ := yf.1 h
   obtain ⟨r1, r2, r3, r4⟩ := Fi hrow H (by omega)
   rw [jQ]
   exact Bh hM hrl hno hE A hml (by rw [r1, g1]) r2 r3 r4
  | false =>
   simp only [ye] at h
   obtain ⟨v, hv, rfl⟩ := yf.1 h
   rw [Ez]
   by_cases h0 : yv.1.len = 0
   ·rw [h0] at A
    have hnn : N = [] := yp (by rw [A.newsLen]; simp)
    subst hnn
    exact ⟨G, w, _, run_append_nothing (P := P) w t tx ty et i hE.under hE.info none 0 0 (yz _) cy (by rw [hE.size]; exact A), IR hv h0, d9.refl G, Ev.refl G w, hM⟩
   ·have hrun := run_append_grow_src (P := P) w t tx ty et i zv0 hE.under hE.info hE.zero none 0 0 [] (run_firstCells_none w.drew i.size 0 0 0) cy yv.1.len N (by rw [hE.size]; exact A) (by omega)
     (by unfold cT at hml; omega) (growslice_fits (bytes := i.bytes) (by omega) (zI (by omega) hE.bytes))
    generalize hc : ([] ++ N).toArray ++ Builtin.zeroCells zv0.cells (grownCap w (0 + yv.1.len) 0 et - (0 + yv.1.len)) = c at hrun
    obtain ⟨f1, f2, f3, f4⟩ := oO w c et
    have hev := Ev.drew_alloc G w (.cells c et) hM.away
    have hM' := hM.new_tree hev f1 f2
    have hg := d9.frz G (fun B _ => B = w.heap.size) (fun B _ h => by subst h; exact hM.own _ (yz _))
    refine ⟨_, _, _, hrun, ?_, hg, hev, hM'⟩
    have Z : 0 + yv.1.len ≤ grownCap w (0 + yv.1.len) 0 et := grownCap_ge w _ _ _
    generalize grownCap w (0 + yv.1.len) 0 et = C at hc Z ⊢
    rw [yj1] at Z ⊢
    refine BT (vs := N) (H.mono hg hev) hv (by omega) (fun j u U => ?_) (fun β o => .inr rfl) Z
    rw [f3, ← hc, yz2 (by simpa using (yh.1 U).1)]
    simpa using U
 ·rename_i b g
  rw [bind_some] at h; obtain ⟨bx, hbx, h⟩ := h
  rw [bind_some] at h; obtain ⟨zv, hzv, h⟩ := h
  rw [aB] at h; obtain ⟨hc, h⟩ := h
  simp only [yc, yy] at hc
  obtain ⟨⟨c1, O⟩, c3⟩ := hc
  have O := cX.1 O; have c3 := eT.1 c3
  obtain rfl := yb h
  rw [jQ]
  obtain ⟨hm, rfl⟩ := box?_some hbx
  have he := (hM.box b bx hm).e
  cases hx with
  | msw _ _ cap L B hl V hn hf =>
   obtain ⟨o, K, M⟩ := (hM.box b bx hm).loc
   have J := hl
   rw [K] at J
   obtain rfl := yb J
   simp only at V; subst V
   obtain ⟨h1, h2, h3, h4, h5⟩ := M
   obtain ⟨vs, hvs, W⟩ := h4.toList he
   have hcl : ∀ j u, vs[j]? = some u → cl w B j = some u := fun j u U => by rw [W j (yh.1 U).1]; exact U
   have := Cz (P := P) (ty := ty) (xv := bx.row.all) (cap := cap) hM hm K c1 hE O (by rw [oE, O]) hvs hcl (by rw [dE]; exact hn) (by rw [O]; exact hf) A H hzv c3
   rw [dE] at this
   exact this
  | mswNil _ _ L hl V hn =>
   obtain ⟨o, K, M⟩ := (hM.box b bx hm).loc
   have J := hl
   rw [K] at J
   obtain rfl := yb J
   simp only at V; subst V
   have Y := I7 M.2
   have hl0 : bx.row.all.len = 0 := by rw [dE]; exact M.1
   exact q6 hM hm hE (by rw [oE, O]) hl0 Y (bL.nilOf hl0 Y) A H hzv c3
 ·rename_i b g n
  rw [bind_some] at h; obtain ⟨bx, hbx, h⟩ := h
  rw [bind_some] at h; obtain ⟨xv, hxv, h⟩ := h
  rw [bind_some] at h; obtain ⟨zv, hzv, h⟩ := h
  rw [aB] at h; obtain ⟨hc, h⟩ := h
  simp only [yc, yy] at hc
  obtain ⟨⟨c1, O⟩, c3⟩ := hc
  have O := cX.1 O; have c3 := eT.1 c3
  obtain rfl := yb h
  rw [jQ]
  obtain ⟨hm, rfl⟩ := box?_some hbx
  have he := (hM.box b bx hm).e
  have hxl := Oa he hxv
  have hxe := NI hxv
  cases hx with
  | ms _ _ _ _ cap L B hl V hn hon hf =>
   obtain ⟨o, K, M⟩ := (hM.box b bx hm).loc
   have J := hl
   rw [K] at J
   obtain rfl := yb J
   simp only at V; subst V
   obtain ⟨h1, h2, h3, h4, h5⟩ := M
   obtain ⟨vs, hvs, W⟩ := h4.toList he
   have hcl : ∀ j u, vs[j]? = some u → cl w B j = some u := fun j u U => by rw [W j (yh.1 U).1]; exact U
   have hsub := sO he hxv hvs
   simp only [yj1] at hf
   have hw0 : bL G w xv (vs.take (n * bx.row.e)) := by simpa using hsub.1
   have := Cz (P := P) (ty := ty) (cap := cap) hM hm K c1 hE O (by rw [hxe, O]) hw0
    (fun j u U => by
     refine hcl j u ?_
     have hj := (yh.1 U).1
     rw [yl2] at hj
     rw [yo2, if_pos (by omega)] at U; exact U) (by rw [hxl]; exact hn) (by rw [O]; exact hf) A H hzv c3
   rw [hxl] at this
   simp only [Nat.zero_mul]
   exact this
  | msNil _ _ L hl V =>
   obtain ⟨o, K, M⟩ := (hM.box b bx hm).loc
   have J := hl
   rw [K] at J
   obtain rfl := yb J
   simp only at V; subst V
   have Y := IH hxv M.2
   exact q6 hM hm hE (by rw [hxe, O]) hxl Y (bL.nilOf hxl Y) A H hzv c3
  | msZ _ _ _ B oo L hl V ho hon => omega
 ·simp at h
end
end Go.Ab
end
section
namespace Go.Ab
variable [cD]
def flat (us : List Value) : List Value := us.flatMap fun u => u.cells.toList
theorem gD (u : Value) (us : List Value) : flat (u :: us) = u.cells.toList ++ flat us := by simp [flat]
theorem kE {e : Nat} : ∀ {us : List Value}, (∀ u ∈ us, u.cells.size = e) → (flat us).length = us.length * e
 | [], _ => by simp [flat]
 | u :: us, h => by
  rw [gD, yi, kE (fun x hx => h x (yk _ hx)), yv1, h u (yn ..), ye1, yt1]
  omega
theorem w9 {e : Nat} : ∀ {us : List Value} {i c : Nat} {u : Value}, (∀ u ∈ us, u.cells.size = e) → us[i]? = some u → c < e → (flat us)[i * e + c]? = u.cells.toList[c]?
 | [], i, c, u, h, z, A => by simp at z
 | v :: us, 0, c, u, h, z, A => by
  simp at z; subst z
  rw [gD, Nat.zero_mul, yj1, yq (by rw [yv1, h v (yn ..)]; exact A)]
 | v :: us, i + 1, c, u, h, z, A => by
  have H := h v (yn ..)
  rw [gD, yt (by rw [yv1, H, yt1]; omega), yv1, H, show (i + 1) * e + c - e = i * e + c by rw [yt1]; omega]
  exact w9 (fun x hx => h x (yk _ hx)) (by simpa using z) A
theorem Nr {us : List Value} {x : Value} (h : x ∈ flat us) : ∃ u ∈ us, x ∈ u.cells.toList := List.mem_flatMap.1 h
theorem rL : ∀ {xs a b : List Value} {k : Nat}, bE (a ++ b) (a.length + k) xs = a ++ bE b k xs
 | [], a, b, k => rfl
 | x :: xs, a, b, k => by
  simp only [bE]
  rw [List.set_append_right _ _ (by omega), yk3, yf3]
  exact rL
theorem q7 : ∀ {xs a b : List Value} {p : List Value}, xs.length = a.length → bE (p ++ (a ++ b)) p.length xs = p ++ (xs ++ b)
 | [], a, b, p, h => by
  have := yp h.symm
  subst this; simp [bE]
 | x :: xs, [], b, p, h => by simp at h
 | x :: xs, y :: a, b, p, h => by
  simp only [bE]
  rw [List.set_append_right _ _ (by omega), Nat.sub_self]
  simp only [yp3, List.set_cons_zero]
  have := q7 (xs := xs) (a := a) (b := b) (p := p ++ [x]) (by simpa using h)
  simpa using this
theorem IG {e : Nat} : ∀ {us : List Value} {i : Nat} {v : Value}, (∀ u ∈ us, u.cells.size = e) → v.cells.size = e → i < us.length → bE (flat us) (i * e) v.cells.toList = flat (us.set i v)
 | [], i, v, h, A, z => by simp at z
 | u :: us, 0, v, h, A, z => by
  have := q7 (xs := v.cells.toList) (a := u.cells.toList) (b := flat us) (p := []) (by simp [A, h u (yn ..)])
  rw [List.set_cons_zero, gD, gD, Nat.zero_mul]; exact this
 | u :: us, i + 1, v, h, A, z => by
  have H := h u (yn ..)
  rw [List.set_cons_succ, gD, gD, show (i + 1) * e = u.cells.toList.length + i * e by rw [yv1, H, yt1]; omega, rL,
   IG (fun x hx => h x (yk _ hx)) A (by simpa using z)]
def r7 (us : List Value) : List (Nat × Value) → List Value
 | [] => us
 | (i, v) :: r => r7 (us.set i v) r
theorem vA {e : Nat} : ∀ {qs : List (Nat × Value)} {us : List Value}, (∀ u ∈ us, u.cells.size = e) → (∀ q ∈ qs, q.2.cells.size = e) → ∀ u ∈ r7 us qs, u.cells.size = e
 | [], us, h, _ => h
 | (i, v) :: r, us, h, H => by
  refine vA (qs := r) (us := us.set i v) (fun u J => ?_) (fun q A => H q (yk _ A))
  rcases ym2 J with z | z
  ·exact h u z
  ·rw [z]; exact H (i, v) (yn ..)
theorem FT {s : Nat} : ∀ {qs : List (Nat × Value)} {us : List Value} {c : Array Value}, c.toList = flat us → (∀ u ∈ us, u.cells.size = s) → (∀ q ∈ qs, q.2.cells.size = s ∧ q.1 < us.length) →
  ∃ U, Instr.fill (fun i => some (i * s, s)) c qs = some U ∧ U.toList = flat (r7 us qs)
 | [], us, c, H, _, _ => ⟨c, rfl, H⟩
 | (i, v) :: r, us, c, H, N, M => by
  obtain ⟨A, J⟩ := M (i, v) (yn ..)
  simp only at A J
  have z : (v.cells.zipIdx.foldl (fun cs (c, j) => cs.setIfInBounds (i * s + j) c) c).toList = bE c.toList (i * s) v.cells.toList := by
   have := Ap v.cells.toList (i * s) 0 c
   rw [yp2] at this
   rw [← this, ← Array.foldl_toList]
   simp
  have K : c.size = us.length * s := by rw [← kE N, ← H]; simp
  have V : i * s + v.cells.size ≤ c.size := by
   rw [K, A]
   calc i * s + s = (i + 1) * s := by rw [yt1]; omega
    _ ≤ us.length * s := ya2 _ J
  simp only [Instr.fill]
  rw [if_neg (by simp only [yc2, decide_eq_true_eq]; omega)]
  refine FT (us := us.set i v) (by rw [z, H, IG N A J]) (fun u h => ?_) (fun q h => ⟨(M q (yk _ h)).1, by simpa using (M q (yk _ h)).2⟩)
  rcases ym2 h with O | O
  ·exact N u O
  ·rw [O]; exact A
theorem mW (z : Array Value) (A : 1 ≤ z.size) : ∀ n, ((Array.range (n * z.size)).map (z[· % z.size]!)).toList = (List.replicate n z.toList).flatten
 | 0 => by simp
 | n + 1 => by
  have h := mW z A n
  simp only [Array.toList_map, Array.toList_range] at h ⊢
  rw [yt1, Nat.one_mul, List.range_add, List.map_append, h, List.replicate_succ', List.flatten_append]
  congr 1
  simp only [List.flatten_cons, List.flatten_nil, yu1, List.map_map]
  apply List.ext_getElem
  ·simp
  ·intro j h1 h2
   simp at h1
   have : (n * z.size + j) % z.size = j := by
    rw [Nat.add_comm, Nat.add_mul_mod_self_right]; exact Nat.mod_eq_of_lt h1
   simp [this, h1]
theorem jE (n : Nat) (z : Value) : flat (List.replicate n z) = (List.replicate n z.cells.toList).flatten := by
 induction n with
 | zero => rfl
 | succ n h => rw [List.replicate_succ, gD, h, List.replicate_succ, List.flatten_cons]
theorem Po {G : Gh} (z : ∀ B o, G.prot false B o → G.prot true B o) {β β' : Bool} (h : β' = false → β = false) {w : World} {p : PV} {v : Value} (H : PR w (G.prot β) p v) : PR w (G.prot β') p v := by
 refine H.mono (fun B o A => ?_) (fun _ _ _ => rfl)
 cases β' with
 | false => rw [h rfl] at A; exact A
 | true => cases β with
  | true => exact A
  | false => exact z _ _ A
section
variable {P : Program}
theorem Ds {G : Gh} {w : World} {mem : a9} {boxed : Bool} {rs : Nat} {v : aN} {vs : List Value} {out : eL} {t : TypeId} (hM : aT G w mem) (O : mem[rs]? = some none) (h : p9 boxed rs v = some out)
  (M : bL G w v vs) (W : 1 ≤ v.e) :
  ∃ K, d9 G K ∧ Ev G w (w.alloc (.cells vs.toArray t)) ∧ aT K (w.alloc (.cells vs.toArray t)) (aP mem out.wr) ∧ VR K (w.alloc (.cells vs.toArray t)) out.v (.slice (some ⟨w.heap.size, 0, none⟩) v.len v.len) ∧ out.push = [] := by
 have J : ∀ j u, vs[j]? = some u → cl (w.alloc (.cells vs.toArray t)) w.heap.size j = some u := fun j u hu => by
  rw [lC]; simpa using hu
 unfold p9 at h
 cases boxed with
 | true =>
  simp only [yg] at h
  obtain rfl := yb h
  obtain ⟨K, rfl, Z, z, A, hl⟩ := CR (row := v.row) (vs := vs) (rest := #[]) (t := t) hM O (by rw [iL]; exact W) (by rw [i0]; exact M)
  rw [Array.append_empty] at z A
  refine ⟨_, Z, z, A, ?_, rfl⟩
  have V : VR (G.put rs 0 ⟨some w.heap.size, v.row.e, v.row.len⟩) (w.alloc (.cells vs.toArray t)) (.msw rs 0) (.slice (some ⟨w.heap.size, 0, none⟩) v.row.len v.len) := by
   refine .msw rs 0 v.len _ w.heap.size hl rfl (by simp only [fE]; exact yz _) (fun j U => ?_)
   simp only [iL] at U
   have N : j < vs.length := by rw [M.1]; exact U
   rw [J j _ (yd N)]; rfl
  rw [fE] at V ⊢; exact V
 | false =>
  simp only [ye] at h
  obtain ⟨a, Y, rfl⟩ := yf.1 h
  have z := Ev.alloc G w (.cells vs.toArray t) hM.away
  have A := hM.new_tree z (fun B hB => fL hB) (by simp)
  have H := d9.frz G (fun B _ => B = w.heap.size) (fun B _ h => by subst h; exact hM.own _ (yz _))
  refine ⟨_, H, z, A, ?_, rfl⟩
  exact BT (vs := vs) (M.mono H z) Y W J (fun β o => .inr rfl) (yz _)
theorem y5 {G : Gh} {w : World} : ∀ {vs : List AV} {us : List Value}, jH G w vs us → jH G w (gX vs) (flat us)
 | [], us, h => by
  have := yp h.1.symm
  subst this; exact ⟨rfl, fun j y z => by simp [gX] at z⟩
 | v :: vs, [], h => by simp [jH] at h
 | v :: vs, u :: us, h => by
  rw [gX, gD]
  refine jH.append (h.2 0 v rfl).cells (y5 ⟨by simpa using h.1, fun j y z => by simpa using h.2 (j + 1) y (by simpa using z)⟩)
theorem jH.get {G : Gh} {w : World} {as : List AV} {vs : List Value} (h : jH G w as vs) {j : Nat} {a : AV} (z : as[j]? = some a) : ∃ u, vs[j]? = some u ∧ VR G w a u := by
 have A : j < vs.length := by rw [← h.1]; exact (yh.1 z).1
 have := h.2 j a z
 rw [yl, yd A] at this
 exact ⟨_, yd A, this⟩
theorem wC {k : IntKind} : ∀ {vs : List AV} {xs : List Int}, eS k vs = some xs → xs.length = vs.length ∧ ∀ (j : Nat) (x : Int), xs[j]? = some x → vs[j]? = some (.lit (.int k x))
 | [], xs, h => by simp [eS] at h; subst h; exact ⟨rfl, fun j x hx => by simp at hx⟩
 | v :: vs, xs, h => by
  unfold eS at h
  split at h
  ·simp_all
  ·rename_i J x r H
   obtain ⟨rfl, rfl⟩ := yc1 H
   cases z : gV k J with
   | false => rw [z] at h; simp at h
   | true =>
    rw [z] at h; simp only [yg] at h
    obtain ⟨ys, A, rfl⟩ := yf.1 h
    rw [jX] at z; subst z
    obtain ⟨hl, K⟩ := wC A
    refine ⟨by simp [hl], fun j x hx => ?_⟩
    cases j with
    | zero => simp at hx; subst hx; rfl
    | succ j => simpa using K j x (by simpa using hx)
  ·simp at h
theorem G8 {G : Gh} {w : World} {mem : a9} {vars : Bool} {t : TypeId} {vs : List AV} {us : List Value} {r : aN × List Nat} {s : Nat} (hM : aT G w mem) (h : lS P vars mem t vs = some r) (hL : jH G w vs us)
  (U : ∀ u ∈ us, u.cells.size = s) (hs : 1 ≤ s) (A : r.1.e = s) : bL (G.frz (bH G mem r.2)) w r.1 (flat us) ∧ r.1.len = vs.length := by
 have N := kE U
 unfold lS at h
 split at h
 ·rename_i k hk
  obtain ⟨xs, hxs, rfl⟩ := yf.1 h
  obtain ⟨hl, hh⟩ := wC hxs
  simp only [aN.e] at A; subst A
  have J : ∀ (i : Nat) (x : Int), xs[i]? = some x → (flat us)[i]? = some (.int k x) := by
   intro i x hx
   obtain ⟨u, H, z⟩ := hL.get (hh i x hx)
   obtain rfl := z.lit_inv
   have := w9 U H (c := 0) (by omega)
   rw [yi3, yp2] at this
   exact this
  refine ⟨⟨by simp only [aN.len, aN.e]; rw [N, hl, hL.1], fun u H => ?_, J⟩, by simpa [aN.len] using hl⟩
  obtain ⟨j, hj, rfl⟩ := yp1 H
  have hj2 : j < xs.length := by rw [hl, hL.1]; omega
  have := J j _ (yd hj2)
  rw [yd hj] at this
  rw [yb this]; rfl
 ·rw [bind_some] at h; obtain ⟨e, he, h⟩ := h
  cases vars with
  | true =>
   simp only [yg] at h
   rw [aB] at h; obtain ⟨hg, h⟩ := h
   simp only [yc] at hg
   obtain rfl := yb h
   simp only [aN.e] at A; subst A
   have hcs := y5 hL
   have hl : (gX vs).length = vs.length * e := by rw [hcs.1, N, hL.1]
   have hcb : bD e (gX vs).length = vs.length := by rw [hl, fZ (n := 0) hs]
   exact ⟨(bL.ofLRs hcs hg.2 (by rw [hcb]; exact hl)).mono (d9.frz G _ hM.inBoxes) (Ev.refl G w), hcb⟩
  | false =>
   simp only [ye] at h
   obtain ⟨q, hq, rfl⟩ := yf.1 h
   simp only [aN.e] at A; subst A
   obtain ⟨hl, hh⟩ := o5 hq
   have hlab : ∀ B o, (G.frz (bH G mem q.2.2)).prot false B o → (G.frz (bH G mem q.2.2)).prot true B o := fun B o h => h.imp (hM.lab B o) id
   have J : ∀ (i : Nat) (x : PV), q.2.1[i]? = some x → ∃ v u V, vs[i]? = some v ∧ us[i]? = some u ∧ VR G w v u ∧ qJ P mem t v = some V ∧ V.2.1 = x ∧ (∀ b ∈ V.2.2, b ∈ q.2.2) ∧ (q.1 = false → V.1 = false) := by
    intro i x hx
    have W : i < vs.length := by rw [← hl]; exact (yh.1 hx).1
    obtain ⟨V, h1, h2, h3, h4⟩ := hh i _ (yd W)
    obtain ⟨u, H, z⟩ := hL.get (yd W)
    rw [hx] at h2
    exact ⟨_, u, V, yd W, H, z, h1, (yb h2).symm, h3, h4⟩
   have Z : ∀ (i : Nat) (x : PV), q.2.1[i]? = some x → x.cells.length = e := by
    intro i x hx
    obtain ⟨v, u, V, hv, H, z, h1, rfl, h3, h4⟩ := J i x hx
    obtain ⟨ql, _⟩ := pG hM h1 z
    rw [ql, z.cells.1, yv1]; exact U u (yj H)
   have K : ∀ (i : Nat) (x : PV) (c : Nat) (y : PV), q.2.1[i]? = some x → x.cells[c]? = some y → ∃ u, (flat us)[i * e + c]? = some u ∧ PR w ((G.frz (bH G mem q.2.2)).prot q.1) y u ∧ u.oneCell' = true := by
    intro i x c y hx hy
    have hce : c < e := by rw [← Z i x hx]; exact (yh.1 hy).1
    obtain ⟨v, u, V, hv, H, z, h1, rfl, h3, h4⟩ := J i x hx
    obtain ⟨ql, qq⟩ := pG hM h1 z
    obtain ⟨u', O, Y, M⟩ := qq c y hy
    refine ⟨u', by rw [w9 U H hce]; exact O, Po hlab h4 (Y.mono (fun B o hb => hb.imp id (fun W => W.mono h3)) (fun _ _ _ => rfl)), M⟩
   refine ⟨⟨by simp only [aN.len, aN.e]; rw [N, hl, hL.1], fun u H => ?_, fun x hx => ?_, fun i x c y hx hy => ?_⟩, by simpa [aN.len] using hl⟩
   ·obtain ⟨j, hj, rfl⟩ := yp1 H
    have hj' := hj
    rw [N] at hj'
    have W : j / e < us.length := Nat.div_lt_of_lt_mul (by rw [yq2]; exact hj')
    have hc : j % e < e := Nat.mod_lt _ hs
    have hi2 : j / e < q.2.1.length := by rw [hl, hL.1]; exact W
    have hx := yd hi2
    have hy : j % e < (q.2.1[j / e]).cells.length := by rw [Z _ _ hx]; exact hc
    obtain ⟨u', O, _, M⟩ := K _ _ _ _ hx (yd hy)
    have hjj : j / e * e + j % e = j := by rw [yq2]; exact Nat.div_add_mod j e
    rw [hjj, yd hj] at O
    rw [yb O]; exact M
   ·obtain ⟨j, hj, rfl⟩ := yp1 hx
    exact Z j _ (yd hj)
   ·obtain ⟨u, H, Y, _⟩ := K i x c y hx hy
    exact ⟨u, H, Y⟩
theorem D2 {G : Gh} {w : World} : ∀ {ps : List (Nat × AV)} {qs : List (Nat × Value)} {vs : List AV} {us : List Value}, jH G w vs us → Pw G w ps qs → jH G w (qM vs ps) (r7 us qs)
 | [], qs, vs, us, h, z => by
  have := yp z.1.symm
  subst this; exact h
 | (i, v) :: r, [], vs, us, h, z => by simp [Pw] at z
 | (i, v) :: r, (i', u) :: qs, vs, us, h, z => by
  obtain ⟨u', H, J⟩ := z.2 0 (i, v) rfl
  simp only [yx2, Option.some.injEq, Prod.mk.injEq] at H
  obtain ⟨rfl, rfl⟩ := H
  exact D2 (ps := r) (qs := qs) (h.set J) ⟨by simpa using z.1, fun j p A => by simpa using z.2 (j + 1) p (by simpa using A)⟩
theorem vQ : ∀ {ps : List (Nat × AV)} {vs : List AV}, (qM vs ps).length = vs.length
 | [], vs => rfl
 | (i, v) :: r, vs => by rw [qM, vQ]; simp
theorem BI {e : Nat} : ∀ {vs : List AV}, mU e vs = true → ∀ v ∈ vs, v.cells.length = e
 | [], _ => by simp
 | v :: vs, h => by
  simp only [mU, yc] at h
  intro x hx
  rcases yq1.1 hx with rfl | hx
  ·exact cX.1 h.1
  ·exact BI h.2 x hx
theorem A4 {n : Nat} : ∀ {ps : List (Nat × AV)}, pW n ps = true → ∀ p ∈ ps, p.1 < n
 | [], _ => by simp
 | (i, v) :: r, h => by
  simp only [pW, yc] at h
  intro x hx
  rcases yq1.1 hx with rfl | hx
  ·exact eT.1 h.1
  ·exact A4 h.2 x hx
end
end Go.Ab
end
section
namespace Go.Ab
variable [cD]
theorem p7 : ∀ (l : List Int) (r : ByteArray), l.foldl (fun r n => r.push (UInt8.ofNat n.toNat)) r = ⟨r.data ++ (l.map fun n => UInt8.ofNat n.toNat).toArray⟩
 | [], r => by simp
 | b :: l, r => by
  simp only [List.foldl_cons]
  rw [p7 l]
  simp [ByteArray.push]
theorem Ha (xs : List Int) : xs.foldl (fun r n => r.push (UInt8.ofNat n.toNat)) ByteArray.empty = n9 xs := by
 rw [p7]
 have h : ByteArray.empty.data = #[] := rfl
 simp [n9, h]
section
variable {P : Program}
theorem B3 {G : Gh} {w : World} {mem : a9} {boxed vars : Bool} {t M : TypeId} {rs len s : Nat} {z : AV} {ps : List (Nat × AV)} {qs : Array (Nat × Value)} {wv : aN × List Nat} {o : eL} (hM : aT G w mem) (hrs : mem[rs]? = some none)
  (J : elemOf? P t = some M) (hz : zero? P M = some z) (hs : k6 P M = some s) (hg : (pW len ps && Nat.ble len 4096 && Nat.ble 1 s && Nat.ble s 4096 && mU s (z :: ps.map (·.2))) = true)
  (hv : lS P vars mem M (qM (List.replicate len z) ps) = some wv) (U : Nat.beq wv.1.e s = true) (ho : p9 (boxed || Nat.beq len 0) rs wv.1 = some o) (hp : Pw G w ps qs.toList) :
  ∃ Y w' cv, (Instr.buildSlice t len qs).run P w = .ok cv w' ∧ VR Y w' o.v cv ∧ d9 G Y ∧ Ev G w w' ∧ aT Y w' (({ v := o.v, rd := wv.2, wr := bV mem wv.2 ++ o.wr } : eL).apply mem) := by
 simp only [yc] at hg
 obtain ⟨⟨⟨⟨g1, g2⟩, g3⟩, g4⟩, g5⟩ := hg
 have g2 := eT.1 g2; have g3 := eT.1 g3; have g4 := eT.1 g4; have U := cX.1 U
 have hu : P.underlying t = some (.slice M) := by
  unfold elemOf? at J
  split at J
  ·obtain rfl := yb J; assumption
  ·simp at J
 obtain ⟨i, A, hi, hzv, hov⟩ := oB hz
 have H : i.size = s := by unfold k6 at hs; rw [hi] at hs; simpa using hs
 have hzr : VR G w z A := oV hov
 have hsz := BI g5
 have N : A.cells.size = s := by rw [← hsz z (yn ..)]; simpa using hzr.cells.1.symm
 have hL0 : jH G w (List.replicate len z) (List.replicate len A) := by
  refine ⟨by simp, fun j y hy => ?_⟩
  obtain ⟨hj, rfl⟩ : j < len ∧ z = y := by
   have h1 := (yh.1 hy)
   obtain ⟨h1, h2⟩ := h1
   simp at h1 h2; exact ⟨h1, h2⟩
  rw [yl, yk2, if_pos hj]; exact hzr
 have hL := D2 hL0 hp
 have W : ∀ q ∈ qs.toList, q.2.cells.size = s ∧ q.1 < (List.replicate len A).length := by
  intro q W
  obtain ⟨j, hj, rfl⟩ := yp1 W
  have K : j < ps.length := by rw [hp.1]; exact hj
  obtain ⟨v, hv, hvr⟩ := hp.2 j _ (yd K)
  rw [yd hj] at hv
  have hqe := yb hv
  rw [hqe]
  refine ⟨?_, by simp only [yg3]; exact A4 g1 _ (yu2 K)⟩
  rw [← hsz (ps[j].2) (yk _ (yc3.2 ⟨_, yu2 K, rfl⟩))]
  simpa using hvr.cells.1.symm
 have hz1 : ∀ u ∈ List.replicate len A, u.cells.size = s := fun u hu => by rw [(yh3.1 hu).2]; exact N
 have hus := vA hz1 (fun q h => (W q h).1)
 obtain ⟨O, hvl⟩ := G8 hM hv hL hus g3 U
 have hM1 := hM.freeze wv.2
 have Z := d9.frz G (bH G mem wv.2) hM.inBoxes
 have hrs1 : (aP mem (bV mem wv.2))[rs]? = some none := by
  rw [(eC mem wv.2 mem rs rfl).2.1 (.inr (fun y hy => by rw [hrs] at hy; cases hy))]; exact hrs
 obtain ⟨Y, h1, h2, h3, h4, h5⟩ := Ds (t := M) hM1 hrs1 ho O (by omega)
 have hlen : wv.1.len = len := by rw [hvl, vQ]; simp
 rw [hlen] at h4
 refine ⟨Y, _, _, ?_, h4, Z.trans h1, ?_, ?_⟩
 ·by_cases h0 : len = 0
  ·subst h0
   have V : qs.toList = [] := by
    cases hh : qs.toList with
    | nil => rfl
    | cons q r => have := (W q (by rw [hh]; exact yn ..)).2; simp at this
   rw [V]
   simp [Instr.buildSlice, run_underlying hu, sizeOf, typeInfo, hi, V, Instr.fill, newRow, r7, flat, Array.range_zero']
  ·have hlt : len * s ≤ 16777216 := yt2 (Nat.mul_le_mul g2 g4) (by decide)
   have hpos : 0 < len * s := Nat.mul_pos (by omega) (by omega)
   have hc0 : ((Array.range (len * i.size)).map (A.cells[· % A.cells.size]!)).toList = flat (List.replicate len A) := by
    rw [H, jE]
    have := mW A.cells (by omega) len
    rw [N] at this
    rw [N]; exact this
   obtain ⟨c', hf, hc'⟩ := FT hc0 hz1 W
   have hcc : c' = (flat (r7 (List.replicate len A) qs.toList)).toArray := by rw [← hc']
   rw [← hcc]
   exact run_buildSlice w t M len qs c' i A hu hi hzv (by rw [H]; omega) (by rw [H]; omega) (by rw [H] at hf ⊢; exact hf)
 ·exact (Ev.refl G w).trans Z h2
 ·simp only [eL.apply, yu1]
  rw [nK]; exact h3
theorem rE {G : Gh} {w : World} {mem : a9} {boxed : Bool} {t K : TypeId} {rs n s : Nat} {A : Value} {v : aN} {i : TypeInfo} {out : eL} {W Y : IntKind} (hM : aT G w mem) (V : mem[rs]? = some none)
  (hu : P.underlying t = some (.slice K)) (hi : P.info? K = some i) (hz : i.zero = some A) (N : i.size = s) (hs1 : 1 ≤ s) (O : i.bytes ≤ 4096) (hn : n ≤ cT) (M : A.cells.size = s)
  (hv : bL G w v (flat (List.replicate n A))) (U : v.len = n) (hve : v.e = s) (ho : p9 boxed rs v = some out) :
  ∃ H J cv, (Instr.makeSlice t (.int W (n : Int)) (.int Y (n : Int))).run P w = .ok cv J ∧ VR H J out.v cv ∧ d9 G H ∧ Ev G w J ∧ aT H J (out.apply mem) := by
 obtain ⟨H, h1, h2, h3, Z, h5⟩ := Ds (t := K) hM V ho hv (by omega)
 have hfit := zI hn O
 have z := run_make (P := P) w t K i A hu hi hz W Y n n (by omega) (Int.le_refl _) (by
   have h : ((n * i.bytes : Nat) : Int) ≤ 281474976710656 := by omega
   rw [Int.natCast_mul, Int.mul_comm] at h; exact h) (by unfold cT at hn; omega)
 simp only [yb1] at z
 have hc : madeCells A.cells (n * i.size) = (flat (List.replicate n A)).toArray := by
  have := mW A.cells (by omega) n
  rw [← yy2 (xs := madeCells A.cells (n * i.size)), jE, ← this, N]
  simp only [madeCells, M]
 rw [hc] at z
 rw [U] at Z
 refine ⟨H, _, _, z, Z, h1, h2, ?_⟩
 simp only [eL.apply, h5, yu1]; exact h3
theorem Hc {G : Gh} {w : World} {mem : a9} {e K dst : TypeId} {x : AV} {xs : List Int} {rd : List Nat} {cv : Value} (hM : aT G w mem) (N : P.underlying K = some (.slice e)) (he : P.underlying e = some (.int .u8)) (W : P.underlying dst = some .string)
  (V : view P e mem x = some (.ints .u8 xs, rd)) (ht : k6 P e = some 1) (J : yQ P K x = true) (hx : VR G w x cv) : (convert K dst cv).run P w = .ok (.string (n9 xs)) w := by
 obtain ⟨H, hS, hV⟩ := CE hM V hx ht J
 have A : H = xs.map (Value.int .u8) := by
  obtain ⟨h1, h2, h3⟩ := hV
  simp only [aN.len, aN.e, yi3] at h1
  refine List.ext_getElem (by simp [h1]) (fun j O hj2 => ?_)
  have Y : j < xs.length := by omega
  have := h3 j _ (yd Y)
  rw [yd O] at this
  rw [yb this]; simp
 have M := hS.len w
 have z := hS.cells
 have hnl := hS.newsLen
 have U : ∃ a c, cv = .slice a xs.length c := by
  cases cv <;> simp [Builtin.lenOf] at M
  ·cases hx with
   | lit v h =>
    unfold yQ at J
    rw [N] at J
    simp at J
   | imm β p v h Z => cases h; simp [PV.isSl] at Z
   | dead v h1 h2 => simp [view] at V
  ·exact ⟨_, _, by rw [M]; rfl⟩
 obtain ⟨a, c, rfl⟩ := U
 rw [run_convert_bytes_string w K dst e a xs.length c N he W]
 cases a with
 | none =>
  simp [Builtin.firstCells] at z
  have : H = [] := by
   cases H with
   | nil => rfl
   | cons => simp at z
  rw [this] at A
  have : xs = [] := List.map_eq_nil_iff.1 A.symm
  subst this; rfl
 | some a =>
  simp only [Builtin.firstCells, aN.e, aN.len, yi3] at z
  rw [run_bytesToString w a _ c xs (by rw [← A]; exact z), Ha]
end
end Go.Ab
end
section
namespace Go.Ab
variable [cD]
theorem P1 {vs : Array Value} (h : vs.size = 1) : ∃ x, vs = #[x] := by
 obtain ⟨l⟩ := vs
 match l, h with
 | [x], _ => exact ⟨x, rfl⟩
theorem P0 {vs : Array Value} (h : vs.size = 2) : ∃ x y, vs = #[x, y] := by
 obtain ⟨l⟩ := vs
 match l, h with
 | [x, y], _ => exact ⟨x, y, rfl⟩
section
variable {P : Program}
def r9 (P : Program) (G : Gh) (w : World) (mem : a9) (o : Oper) (a : Act) (out : eL) : Prop :=
 ∀ (K : Act → World → Prop) (Q : Exit → Act → World → Prop), (∀ G' w' cv, VR G' w' out.v cv → d9 G G' → Ev G w w' → aT G' w' (out.apply mem) → K (a.put o.dst cv) w') → o.wp P a w K Q
def M0 (P : Program) (G : Gh) (w : World) (mem : a9) (g : FuncId) (args : Array Value) (out : eL) : Prop :=
 (callFunc g args).run P w = .ok (.enter g args) w ∧
 Calls P g args w fun e w' => ∃ G' cv, e = .returned cv ∧ VR G' w' out.v cv ∧ d9 G G' ∧ Ev G w w' ∧ aT G' w' (out.apply mem)
variable {G : Gh} {w : World} {mem : a9} {o : Oper} {a : Act} {out : eL}
theorem lQ.opW (h : lQ P G w mem o a out) : r9 P G w mem o a out := by
 intro K Q hK
 obtain ⟨M, J, nx, cv, A, H, O, N, z, hM⟩ := h
 unfold Oper.wp
 rw [A]
 rcases H with rfl | ⟨rfl, rfl⟩
 ·exact hK M J cv O N z hM
 ·exact hK M J undef O N z hM
theorem r9.value {s : Sem Value} (K : execOp a.eval o = (do pure (Next.value (← s))))
  (h : ∃ A z cv, s.run P w = .ok cv z ∧ VR A z out.v cv ∧ d9 G A ∧ Ev G w z ∧ aT A z (out.apply mem)) : r9 P G w mem o a out := by
 obtain ⟨A, z, cv, H, N, M, J, hM⟩ := h
 refine lQ.opW ⟨A, z, .value cv, cv, ?_, .inl rfl, N, M, J, hM⟩
 rw [K]
 simp only [Sem.run_bind, H, Result.andThen_ok, Sem.run_pure]
theorem r9.still {s : Sem Value} (hM : aT G w mem) (A : execOp a.eval o = (do pure (Next.value (← s)))) {cv : Value} (z : out.wr = []) (J : out.push = [])
  (h : s.run P w = .ok cv w) (H : VR G w out.v cv) : r9 P G w mem o a out :=
 r9.value A ⟨G, w, cv, h, H, d9.refl G, Ev.refl G w, by simp only [eL.apply, z, J, aP, yu1]; exact hM⟩
theorem r9.plain (hM : aT G w mem) {cv : Value} (z : execOp a.eval o = pure (Next.value cv)) (h : out.wr = []) (H : out.push = []) (A : VR G w out.v cv) : r9 P G w mem o a out :=
 lQ.opW ⟨G, w, .value cv, cv, by rw [z]; simp, .inl rfl, A, d9.refl G, Ev.refl G w, by simp only [eL.apply, h, H, aP, yu1]; exact hM⟩
theorem Ai {ρ : Operand → Option AV} (A : Px G w ρ a) {x : Option Operand} {r : Option Int} (h : CA ρ x = some r) : pD r (x.map a.eval) := by
 cases x with
 | none => simp [CA] at h; subst h; exact trivial
 | some x =>
  simp only [CA] at h
  rw [bind_some] at h; obtain ⟨v, H, h⟩ := h
  unfold JQ at h
  split at h
  ·simp at *
  ·rename_i k n z
   obtain rfl := yb z
   obtain rfl := yb h
   have := (A x _ H).lit_inv
   exact ⟨k, by simp [this]⟩
  ·simp at h
theorem vZ {t z : TypeId} (h : elemOf? P t = some z) : P.underlying t = some (.slice z) := by
 unfold elemOf? at h
 split at h
 ·obtain rfl := yb h; assumption
 ·simp at h
theorem mM {l : List Nat} (h : e8 l = true) : l = [] := by cases l <;> simp_all [e8]
theorem Kk {k : IntKind} {z : AV} {J : Value} {H : List Int} {n : Nat} (h : eS k [z] = some H) (M : VR G w z J) : bL G w (.ints k (List.replicate n (H.headD 0))) (flat (List.replicate n J)) ∧ J.cells.size = 1 := by
 obtain ⟨hl, U⟩ := wC h
 obtain ⟨x, rfl⟩ : ∃ x, H = [x] := by
  match H, hl with
  | [x], _ => exact ⟨x, rfl⟩
 have := U 0 x rfl
 simp at this
 subst this
 obtain rfl := M.lit_inv
 have hf : flat (List.replicate n (Value.int k x)) = List.replicate n (.int k x) := by
  rw [jE]
  have O : (Value.int k x).cells.toList = [.int k x] := rfl
  rw [O]
  induction n with
  | zero => rfl
  | succ n K => rw [List.replicate_succ, List.flatten_cons, K, List.replicate_succ]; rfl
 rw [hf]
 refine ⟨⟨by simp [aN.len, aN.e], fun u N => by rw [(yh3.1 N).2]; rfl, fun i y A => ?_⟩, rfl⟩
 simp only [List.headD_cons] at A
 rw [yk2] at A ⊢
 split at A
 ·rw [if_pos (by assumption)]; rw [← yb A]
 ·simp at A
theorem FP {t : TypeId} {z : AV} {O : Value} {q : Bool × PV × List Nat} {n e : Nat} (hM : aT G w mem) (h : qJ P mem t z = some q) (hz : VR G w z O) (W : z.cells.length = e) (h1 : 1 ≤ e) (hq : q.2.2 = []) :
  bL G w (.pvs q.1 e (List.replicate n q.2.1)) (flat (List.replicate n O)) ∧ O.cells.size = e := by
 obtain ⟨ql, qq⟩ := pG hM h hz
 have N : O.cells.size = e := by rw [← W]; simpa using hz.cells.1.symm
 have J : ∀ u ∈ List.replicate n O, u.cells.size = e := fun u A => by rw [(yh3.1 A).2]; exact N
 have hfl := kE J
 have M : ∀ (i : Nat) (x : PV) (c : Nat) (y : PV), (List.replicate n q.2.1)[i]? = some x → x.cells[c]? = some y → ∃ u, (flat (List.replicate n O))[i * e + c]? = some u ∧ PR w (G.prot q.1) y u ∧ u.oneCell' = true := by
  intro i x c y hx V
  rw [yk2] at hx
  split at hx
  ·rename_i hi
   obtain rfl := yb hx
   have Z : c < e := by rw [← W, ← ql]; exact (yh.1 V).1
   obtain ⟨u, A, K, H⟩ := qq c y V
   refine ⟨u, by rw [w9 J (u := O) (by rw [yk2, if_pos hi]) Z]; exact A, K.mono (fun B o U => ?_) (fun _ _ _ => rfl), H⟩
   rcases U with U | ⟨b, U, _⟩
   ·exact U
   ·rw [hq] at U; simp at U
  ·simp at hx
 refine ⟨⟨by simp only [aN.len, aN.e]; rw [hfl]; simp, fun u A => ?_, fun x hx => by rw [(yh3.1 hx).2, ql, W], fun i x c y hx V => ?_⟩, N⟩
 ·obtain ⟨v, hv, A⟩ := Nr A
  rw [(yh3.1 hv).2] at A
  obtain ⟨j, hj, rfl⟩ := yp1 A
  have Y : j < q.2.1.cells.length := by rw [ql, W, ← N]; simpa using hj
  obtain ⟨u, A, _, H⟩ := qq j _ (yd Y)
  rw [yd hj] at A
  rw [yb A]; exact H
 ·obtain ⟨u, A, K, _⟩ := M i x c y hx V
  exact ⟨u, A, K⟩
theorem Kw {t tx ty : TypeId} {rs : Nat} {n : Int} {kn : IntKind} (hM : aT G w mem) (hrs : mem[rs]? = some none) (h : BG P t tx mem rs n = some out) :
  ∃ W V cv, (Builtin.append_ #[t, tx] ty #[.slice none 0 0, .int kn n]).run P w = .ok cv V ∧ VR W V out.v cv ∧ d9 G W ∧ Ev G w V ∧ aT W V (out.apply mem) := by
 unfold BG at h
 split at h
 ·rename_i kx Y
  rw [bind_some] at h; obtain ⟨M, het, h⟩ := h
  rw [bind_some] at h; obtain ⟨z, hz, h⟩ := h
  split at h
  ·rw [bind_some] at h; obtain ⟨q, hq, h⟩ := h
   rw [bind_some] at h; obtain ⟨e, he, h⟩ := h
   rw [bind_some] at h; obtain ⟨bytes, K, h⟩ := h
   rw [aB] at h; obtain ⟨hg, h⟩ := h
   simp only [yc, decide_eq_true_eq] at hg
   obtain ⟨⟨g0, N⟩, ⟨⟨U, g2⟩, g3⟩, g4⟩ := hg
   have N := eT.1 N; have U := eT.1 U; have g2 := eT.1 g2; have g3 := cX.1 g3; have g4 := mM g4
   obtain rfl := yb h
   obtain ⟨i, A, Z, hzv, hov⟩ := oB hz
   have hzr : VR G w z A := oV hov
   obtain ⟨m, rfl⟩ : ∃ m : Nat, n = (m : Int) := ⟨n.toNat, by omega⟩
   rw [yb1] at N ⊢
   obtain ⟨hv, O⟩ := FP (n := m) hM hq hzr g3 U g4
   have his : i.size = e := by unfold k6 at he; rw [Z] at he; simpa using he
   have hib : i.bytes ≤ 4096 := by unfold mJ at K; rw [Z] at K; simp at K; omega
   have hfit := zI N hib
   have H := Lib.run_append_nil_zeros (P := P) w t tx ty M i A kn kx (vZ het) Y Z hzv m (by omega) (by omega) (by unfold cT at N; omega) (by omega)
   have hrc := mW A.cells (by omega) m
   have hc : Builtin.zeroCells A.cells m = (flat (List.replicate m A)).toArray := by
    rw [← yy2 (xs := Builtin.zeroCells A.cells m), jE, ← hrc]
    rfl
   have J : m ≤ grownCap w m 0 M := grownCap_ge w _ _ _
   rw [hc] at H
   have hMd := hM.ev (Ev.drew G w) (.inl rfl) (fun B _ => rfl)
   have hvd : bL G w.drew (cI.pvs q.1 e (List.replicate m q.2.1)).all (flat (List.replicate m A)) := hv.mono (d9.refl G) (Ev.drew G w)
   obtain ⟨W, rfl, hg', hev, hM', hl⟩ := CR (row := .pvs q.1 e (List.replicate m q.2.1)) (vs := flat (List.replicate m A)) (rest := Builtin.zeroCells A.cells (grownCap w m 0 M - m)) (t := M) hMd hrs U hvd
   have hfl : (flat (List.replicate m A)).length = m * e := by
    rw [kE (e := e) (us := List.replicate m A) (fun u hu => by rw [(yh3.1 hu).2]; exact O)]; simp
   refine ⟨_, _, _, H, ?_, hg', (Ev.drew G w).trans (d9.refl G) hev, by simpa [eL.apply, aP] using hM'⟩
   generalize grownCap w m 0 M = C at J H ⊢
   have hk : VR (G.put rs 0 ⟨some w.drew.heap.size, (cI.pvs q.1 e (List.replicate m q.2.1)).e, (cI.pvs q.1 e (List.replicate m q.2.1)).len⟩) (w.drew.alloc (.cells ((flat (List.replicate m A)).toArray ++ Builtin.zeroCells A.cells (C - m)) M)) (.msw rs 0) (.slice (some ⟨w.heap.size, 0, none⟩) m C) := by
    have := VR.msw (G := G.put rs 0 ⟨some w.drew.heap.size, (cI.pvs q.1 e (List.replicate m q.2.1)).e, (cI.pvs q.1 e (List.replicate m q.2.1)).len⟩) (w := w.drew.alloc (.cells ((flat (List.replicate m A)).toArray ++ Builtin.zeroCells A.cells (C - m)) M)) rs 0 C _ w.drew.heap.size (Gh.put_self ..) rfl (by simp [cI.len]; exact J) (fun j hj => by
     rw [lC]
     simp only [cI.e] at hj
     have hjs : j < ((flat (List.replicate m A)).toArray ++ Builtin.zeroCells A.cells (C - m)).size := by
      simp only [Array.size_append, List.size_toArray, size_zeroCells, hfl, O]
      rw [← yt1]
      exact yn2 hj (ya2 _ (by omega))
     rw [yn1 hjs]; rfl)
    simpa [cI.len] using this
   exact hk
  ·cases h
 ·cases h
theorem Cr {boxed vars : Bool} {b : Builtin} {ts : Array TypeId} {ty : TypeId} {consts : Array Bool} {rs : Nat} {args : List AV} {vs : Array Value} (hM : aT G w mem) (N : b = .append → mem[rs]? = some none)
  (h : eE P boxed vars b ts.toList mem rs args = some out) (A : pX G w args vs) :
  ∃ s : Sem Value, builtin b ts ty consts vs = (do pure (Next.value (← s))) ∧ ∃ Y O cv, s.run P w = .ok cv O ∧ VR Y O out.v cv ∧ d9 G Y ∧ Ev G w O ∧ aT Y O (out.apply mem) := by
 have U : ∀ j, vs.getD j undef = vs.toList.getD j undef := fun j => (dQ vs j).symm
 unfold eE at h
 split at h
 ·rename_i t x H
  obtain ⟨n, hn, rfl⟩ := yf.1 h
  have z : ts = #[t] := by rw [← H, yy2]
  obtain ⟨x', rfl⟩ := P1 A.1.symm
  have hx := A.2 0 x rfl
  simp at hx
  subst z
  exact ⟨_, rfl, G, w, _, IT hM hn hx, .lit _ rfl, d9.refl G, Ev.refl G w, by simpa [eL.apply, aP] using hM⟩
 ·rename_i t V kn n H
  have z : ts = #[t, V] := by rw [← H, yy2]
  obtain ⟨x', Z, rfl⟩ := P0 A.1.symm
  have hx := A.2 0 _ rfl
  have J := A.2 1 _ rfl
  simp at hx J
  obtain rfl := hx.lit_inv
  obtain rfl := J.lit_inv
  subst z
  exact ⟨_, rfl, Kw hM (N rfl) h⟩
 ·rename_i t V x y hno H
  have z : ts = #[t, V] := by rw [← H, yy2]
  obtain ⟨x', Z, rfl⟩ := P0 A.1.symm
  have hx := A.2 0 x rfl
  have J := A.2 1 y rfl
  simp at hx J
  subst z
  exact ⟨_, rfl, Fm hM (N rfl) h hx J⟩
 ·rename_i t H
  have z : ts = #[t] := by rw [← H, yy2]
  obtain ⟨x', rfl⟩ := P1 A.1.symm
  have hx := A.2 0 _ rfl
  simp at hx
  obtain rfl := hx.lit_inv
  subst z
  split at h
  ·rename_i et hu
   obtain rfl := yb h
   exact ⟨_, rfl, G, w, .int .i64 0, by simp [Builtin.cap_, run_underlying hu, goInt], .lit _ rfl, d9.refl G, Ev.refl G w, by simpa [eL.apply, aP] using hM⟩
  ·cases h
 ·rename_i k a r
  obtain ⟨v, M, rfl⟩ := yf.1 h
  have hx := A.2 0 _ rfl
  obtain ⟨x', K, hvs⟩ : ∃ x' K, vs.toList = x' :: K := by
   cases W : vs.toList with
   | nil => have := A.1; rw [← yv1, W] at this; simp at this
   | cons x' K => exact ⟨x', K, rfl⟩
  rw [U, hvs] at hx
  obtain rfl := hx.lit_inv
  have := rW (P := P) (G := G) (w := w) (op := Builtin.min2) (f := OC k) (k := k) (fun a b => by simp [Builtin.min2, OC, Bool.cond_decide]) M
   ⟨by have := A.1; rw [← yv1, hvs] at this; simpa using this, fun j y J => by have := A.2 (j + 1) y (by simpa using J); rw [U, hvs] at this; simpa using this⟩
  refine ⟨_, rfl, G, w, .int k v, ?_, .lit _ rfl, d9.refl G, Ev.refl G w, by simpa [eL.apply, aP] using hM⟩
  simp only [Builtin.min_, hvs]
  exact this
 ·rename_i k a r
  obtain ⟨v, M, rfl⟩ := yf.1 h
  have hx := A.2 0 _ rfl
  obtain ⟨x', K, hvs⟩ : ∃ x' K, vs.toList = x' :: K := by
   cases W : vs.toList with
   | nil => have := A.1; rw [← yv1, W] at this; simp at this
   | cons x' K => exact ⟨x', K, rfl⟩
  rw [U, hvs] at hx
  obtain rfl := hx.lit_inv
  have := rW (P := P) (G := G) (w := w) (op := Builtin.max2) (f := Ob k) (k := k) (fun a b => by simp [Builtin.max2, Ob, Bool.cond_decide]) M
   ⟨by have := A.1; rw [← yv1, hvs] at this; simpa using this, fun j y J => by have := A.2 (j + 1) y (by simpa using J); rw [U, hvs] at this; simpa using this⟩
  refine ⟨_, rfl, G, w, .int k v, ?_, .lit _ rfl, d9.refl G, Ev.refl G w, by simpa [eL.apply, aP] using hM⟩
  simp only [Builtin.max_, hvs]
  exact this
 ·simp at h
theorem aT.sameCells {G : Gh} {w z : World} {mem : a9} (hM : aT G w mem) (A : Ev G w z) (U : ∀ B o, cl z B o = cl w B o) (J : z.heap.size = w.heap.size) (hf : ∀ B, jI w B → jI z B) : aT G z mem where
 box b x h := by
  have hx := hM.box b x h
  obtain ⟨o, hl, hm⟩ := hx.loc
  refine ⟨hx.e, o, hl, ?_⟩
  cases o with
  | none => exact hm
  | some B =>
   obtain ⟨N, O, K, M, H⟩ := hm
   exact ⟨N, by rw [J]; exact O, hf B K, M.mono (d9.refl G) A (fun o _ => U B o), H⟩
 unset := hM.unset
 gens := hM.gens
 apart := hM.apart
 own B h := hM.own B (by rw [← J]; exact h)
 lab := hM.lab
 away β B o h := by rw [J]; exact hM.away β B o h
 glob := hM.glob.mono (fun _ _ h => h) (A.prot true)
theorem Oq {w : World} {B : Nat} (hf : jI w B) :
  ∃ z, (∀ k, (markStringish ⟨B, k, none⟩).run P w = .ok () z) ∧ (∀ B' o, cl z B' o = cl w B' o) ∧ z.heap.size = w.heap.size ∧ z.output = w.output ∧ z.os = w.os ∧ z.tape = w.tape ∧ (∀ B', B' ≠ B → z.heap[B']? = w.heap[B']?) ∧
   (∀ B', jI w B' → jI z B') := by
 obtain ⟨c, el, H, J, K, U⟩ := hf
 refine ⟨w.freeze ⟨B, c.size, none⟩ 1, fun k => ?_, ?_⟩
 ·simp [markStringish, World.shape?, K]
 have N : (w.freeze ⟨B, c.size, none⟩ 1).heap[B]? = some (.cells c el (if H == J then (c.size, c.size + 1) else (min H c.size, max J (c.size + 1)))) := by
  unfold World.freeze
  rw [if_neg (by decide)]
  simp only [Array.getElem?_modify, if_true, K, yo]
 have A : ∀ B', B' ≠ B → (w.freeze ⟨B, c.size, none⟩ 1).heap[B']? = w.heap[B']? := fun B' e => by
  unfold World.freeze
  rw [if_neg (by decide)]
  simp only [Array.getElem?_modify]
  rw [if_neg (fun h => e h.symm)]
 have M : (w.freeze ⟨B, c.size, none⟩ 1).heap.size = w.heap.size := by
  unfold World.freeze
  rw [if_neg (by decide)]
  simp
 refine ⟨fun B' o => ?_, M, rfl, rfl, rfl, A, fun B' hf => ?_⟩
 ·by_cases e : B' = B
  ·subst e; unfold cl World.cell?; simp [N, K]
  ·exact iI (A B' e) o
 ·by_cases e : B' = B
  ·subst e
   by_cases h : H = J
   ·exact ⟨c, el, c.size, c.size + 1, by rw [N]; simp [h], .inr (yz _)⟩
   ·have O : c.size ≤ H := U.resolve_left h
    exact ⟨c, el, min H c.size, max J (c.size + 1), by rw [N]; simp [h], .inr (by omega)⟩
  ·exact hf.of_heap (A B' e)
theorem CX {boxed : Bool} {J dst : TypeId} {rs : Nat} {x : AV} {cv : Value} (hM : aT G w mem) (h : kJ P boxed J dst mem rs x = some out) (hx : VR G w x cv) :
  ∃ V H r, (convert J dst cv).run P w = .ok r H ∧ VR V H out.v r ∧ d9 G V ∧ Ev G w H ∧ aT V H (out.apply mem) := by
 have still : ∀ {o : eL} {r : Value}, o.wr = [] → o.push = [] → (convert J dst cv).run P w = .ok r w → VR G w o.v r →
   ∃ V H r, (convert J dst cv).run P w = .ok r H ∧ VR V H o.v r ∧ d9 G V ∧ Ev G w H ∧ aT V H (o.apply mem) :=
  fun h1 h2 hr hv => ⟨G, w, _, hr, hv, d9.refl G, Ev.refl G w, by simp only [eL.apply, h1, h2, aP, yu1]; exact hM⟩
 unfold kJ at h
 split at h
 ·rename_i k1 k n kk A W
  obtain rfl := yb h
  obtain rfl := hx.lit_inv
  exact still rfl rfl (by simp [convert, run_underlying A, run_underlying W, Conv.intToInt]) (.lit _ rfl)
 ·rename_i s A W
  obtain rfl := yb h
  obtain rfl := hx.lit_inv
  exact still rfl rfl (by simp [convert, run_underlying A, run_underlying W]) (.lit _ rfl)
 ·rename_i e A W
  split at h
  ·rename_i he
   rw [bind_some] at h; obtain ⟨v, hv, h⟩ := h
   rw [aB] at h; obtain ⟨hg, h⟩ := h
   simp only [yc] at hg
   obtain ⟨vw, rd⟩ := v
   simp only at h hv
   split at h
   ·rename_i xs
    obtain rfl := yb h
    have ht : k6 P e = some 1 := by
     have := hg.2
     split at this
     ·assumption
     ·simp at this
    exact still rfl rfl (Hc hM A he W hv ht hg.1 hx) (.lit _ rfl)
   ·simp at h
  ·simp at h
 ·rename_i e0 e b g A W
  split at h
  ·rename_i he
   rw [aB] at h; obtain ⟨U, h⟩ := h
   rw [bind_some] at h; obtain ⟨bx, hbx, h⟩ := h
   rw [aB] at h; obtain ⟨h1, h⟩ := h
   obtain rfl := yb h
   have U := cX.1 U
   have h1 := eT.1 h1
   have K := box?_some hbx
   obtain ⟨o, hl, hm⟩ := (hM.box b bx K.1).loc
   rw [K.2] at hl
   have M : ∃ B cap, cv = .slice (some ⟨B, 0, none⟩) bx.row.len cap ∧ G.mine B ∧ jI w B := by
    cases hx with
    | msw _ _ cap L B z hb hn hf =>
     rw [hl] at z
     obtain rfl := yb z
     simp only at hb; subst hb
     exact ⟨B, cap, rfl, hm.1, hm.2.2.1⟩
    | mswNil _ _ L z hb hn =>
     rw [hl] at z
     obtain rfl := yb z
     simp only at hn; omega
   obtain ⟨B, cap, rfl, N, hF⟩ := M
   obtain ⟨w1, Z, hc, hsz, ho, hos, htp, Y, hfr⟩ := Oq (P := P) hF
   have O : Ev G w w1 := ⟨by rw [hsz]; exact yz _, ho, hos, fun B' _ hn => Y B' (fun e => hn (by rw [e]; exact N)), fun B' j A => by rw [hc]; exact A, fun _ B' j _ => hc B' j,
    fun B' j hj => by
     by_cases e : B' = B
     ·subst e; rw [hF.cell hj, (hfr _ hF).cell (by rw [hc]; exact hj)]
     ·exact Dp (Y B' e) j, htp⟩
   refine ⟨G, w1, _, ?_, hx.mono (d9.refl G) O, d9.refl G, O, by simp only [eL.apply, aP, yu1]; exact hM.sameCells O hc hsz hfr⟩
   subst U
   simp [convert, run_underlying A, run_underlying he, Z] <;> simp_all [run_underlying]
  ·simp at h
 ·simp at h
end
end Go.Ab
end
section
namespace Go.Ab
variable [cD]
section
variable {P : Program}
variable {G : Gh} {w : World} {mem : a9} {o : Oper} {a : Act} {out : eL}
theorem ID {c x y r : AV} {A z H : Value} (h : FN c x y = some r) (K : VR G w c A) (hx : VR G w x z) (J : VR G w y H) :
  ∃ t, A = .bool t ∧ VR G w r (if t then z else H) := by
 unfold FN at h
 split at h
 ·rename_i t
  obtain rfl := K.lit_inv
  refine ⟨t, rfl, ?_⟩
  split at h
  ·obtain rfl := yb h
   obtain rfl := hx.lit_inv
   obtain rfl := J.lit_inv
   cases t <;> exact .lit _ rfl
  ·cases t with
   | true => simp only [yg] at h; obtain rfl := yb h; exact hx
   | false => simp only [ye] at h; obtain rfl := yb h; exact J
 ·simp at h
theorem Lm {x : Operand} (h : qY x = true) : x = .const (.slice none 0 0) := by
 unfold qY at h
 split at h
 ·rfl
 ·cases h
theorem Aa {t : TypeId} {p : PV} (h : pI P t = some p) : (∃ k, p = .ints k []) ∨ ∃ e, p = .sl e [] ∧ 1 ≤ e := by
 unfold pI at h
 rw [bind_some] at h; obtain ⟨et, _, h⟩ := h
 split at h
 ·rename_i k _; exact .inl ⟨k, (yb h).symm⟩
 ·rw [bind_some] at h; obtain ⟨e, _, h⟩ := h
  rw [aB] at h
  exact .inr ⟨e, (yb h.2).symm, eT.1 h.1⟩
theorem Du {boxed vars : Bool} {ρ : Operand → Option AV} {rs : Nat} {t : TypeId} {x : Operand} (hM : aT G w mem) (O : qY x = true → mem[rs]? = some none) (Z : Px G w ρ a)
  (H : execOp a.eval o = pure (Next.value (a.eval x))) (h : rU P boxed vars ρ t rs x = some out) : r9 P G w mem o a out := by
 unfold rU at h
 cases K : (qY x && boxed && !vars) with
 | true =>
  rw [K] at h; simp only [yg] at h
  simp only [yc] at K
  obtain rfl := Lm K.1.1
  rw [bind_some] at h; obtain ⟨p, M, h⟩ := h
  obtain ⟨row, z, rfl⟩ := yf.1 h
  have hm := O rfl
  have N : rs < mem.length := by
   rcases yz1 rs mem.length with h | h
   ·exact h
   ·rw [ya1 h] at hm; cases hm
  have J : 1 ≤ row.e ∧ row.len = 0 ∧ row.isCells = false := by
   rcases Aa M with ⟨k, rfl⟩ | ⟨e, rfl, H⟩
   ·obtain rfl := yb z; exact ⟨yz _, rfl, rfl⟩
   ·obtain rfl := yb z; exact ⟨H, rfl, rfl⟩
  obtain ⟨G', W, hl, U⟩ := FD (b := rs) (g' := 0) (row' := row) hM N (fun g _ => hM.unset rs g (fun y V => by rw [hm] at V; cases V)) J.1 J.2.1 J.2.2
  refine lQ.opW ⟨G', w, .value (a.eval (.const (.slice none 0 0))), _, by rw [H]; simp, .inl rfl, ?_, W, Ev.refl G w, by simpa [eL.apply, aP] using U⟩
  exact .mswNil rs 0 _ hl rfl J.2.1
 | false =>
  rw [K] at h; simp only [ye] at h
  rw [bind_some] at h; obtain ⟨v, Y, h⟩ := h
  have A := Z _ _ Y
  split at h
  ·cases boxed with
   | true => simp only [yg] at h; obtain rfl := yb h; exact r9.plain hM H rfl rfl A
   | false =>
    simp only [ye] at h
    obtain ⟨p, M, rfl⟩ := yf.1 h
    refine r9.plain hM H rfl rfl ?_
    rw [A.lit_inv]
    rcases Aa M with ⟨k, rfl⟩ | ⟨e, rfl, _⟩
    ·exact .imm _ _ _ (.intsNil k _) rfl
    ·exact .imm _ _ _ (.slNil e _) rfl
  ·obtain rfl := yb h; exact r9.plain hM H rfl rfl A
theorem Hq {ρ : Operand → Option AV} {t : TypeId} {x ix : Operand} (hM : aT G w mem) (hρ : Px G w ρ a)
  (he : execOp a.eval o = (do pure (Next.value (← Instr.index t (a.eval x) (a.eval ix))))) (h : oG P ρ t x ix = some out) : r9 P G w mem o a out := by
 unfold oG at h
 rw [bind_some] at h; obtain ⟨vx, hx, h⟩ := h
 rw [bind_some] at h; obtain ⟨vi, z, h⟩ := h
 have K := hρ _ _ hx
 have N := hρ _ _ z
 split at h
 ·rename_i cs k i
  split at h
  ·rename_i n e Y
   rw [bind_some] at h; obtain ⟨ag, Z, h⟩ := h
   rw [bind_some] at h; obtain ⟨s, O, h⟩ := h
   rw [aB] at h; obtain ⟨hg, h⟩ := h
   simp only [yc, yy, decide_eq_true_eq] at hg
   obtain ⟨⟨⟨A, V⟩, U⟩, hn⟩ := hg
   obtain rfl := cX.1 V
   obtain ⟨v, hv, rfl⟩ := yf.1 h
   obtain ⟨cvs, hcv, J⟩ := K.agg_inv
   have W := J.2 _ _ hv
   refine r9.still hM he rfl rfl (cv := cvs.getD i.toNat undef) ?_ W
   rw [hcv, N.lit_inv]
   have M : i.toNat < cvs.size := by
    rw [← J.1]; exact (yh.1 hv).1
   have := IF (P := P) Z O (cs := cvs) (o := i.toNat) w (.inr M)
   rw [A] at this
   simp only [yf2, if_false] at this
   simp only [Instr.index, asIntOf, Sem.run_bind, Sem.run_pure, Result.andThen_ok, run_underlying Y, U, hn, and_self, if_true, dX O, yi3, this]
  ·cases h
 ·rename_i s k i
  split at h
  ·rename_i Y
   obtain ⟨b, H, rfl⟩ := yf.1 h
   refine r9.still hM he rfl rfl (cv := .int .u8 b) ?_ (.lit _ rfl)
   rw [K.lit_inv, N.lit_inv]
   obtain ⟨U, M, H⟩ := AH H
   have O : s[i.toNat]?.map (fun c : UInt8 => (c.toNat : Int)) = some b := by
    unfold cE at H
    rw [yh1] at H
    rw [← H, yk1]
    by_cases z : i.toNat < s.size
    ·rw [getElem?_pos s _ z, getElem?_pos s.data _ z]; rfl
    ·rw [getElem?_neg s _ z, getElem?_neg s.data _ z]
   obtain ⟨c, hc, rfl⟩ := yf.1 O
   simp only [Instr.index, asIntOf, Sem.run_bind, Sem.run_pure, Result.andThen_ok, run_underlying Y, U, if_true, hc]
  ·cases h
 ·cases h
theorem Mp {C : bZ} {boxed raw vars : Bool} {ρ : Operand → Option AV} {rs : Nat} (hM : aT G w mem) (W : eA o.op = true → mem[rs]? = some none) (M : Px G w ρ a)
  (hcall : ∀ {raw keep : Bool} {g : FuncId} {ts : List TypeId} {fi args ca : List AV} {out : eL} {fv av cv : Array Value}, z1 P C raw keep g ts fi args ca mem = some out → pX G w fi fv → pX G w args av → pX G w ca cv → M0 P G w mem g (fv ++ av ++ cv) out)
  (h : Iy P C boxed raw vars o ρ mem rs = some out) : r9 P G w mem o a out := by
 unfold Iy Dz zV Ht z0 fC yN IJ I0 MH E6 AU zW kI z5 yZ oH Ee at h
 split at h
 ·rename_i x A
  exact Du hM (fun hn => W (by rw [A]; exact hn)) M (by simp only [execOp, A]) h
 ·rename_i x A
  exact Du hM (fun hn => W (by rw [A]; exact hn)) M (by simp only [execOp, A]) h
 ·rename_i c x y A
  rw [bind_some] at h; obtain ⟨vc, hc, h⟩ := h
  rw [bind_some] at h; obtain ⟨vx, hx, h⟩ := h
  rw [bind_some] at h; obtain ⟨vy, hy, h⟩ := h
  obtain ⟨r, Z, rfl⟩ := yf.1 h
  obtain ⟨t, ht, O⟩ := ID Z (M _ _ hc) (M _ _ hx) (M _ _ hy)
  refine lQ.opW ⟨G, w, _, _, ?_, .inl rfl, O, d9.refl G, Ev.refl G w, by simpa [eL.apply, aP] using hM⟩
  simp only [execOp, A, ht, asBool]
  cases t <;> simp
 ·rename_i t A
  rw [bind_some] at h; obtain ⟨z, hz, h⟩ := h
  rw [aB] at h; obtain ⟨N, h⟩ := h
  simp only [yc] at N
  obtain rfl := yb h
  exact (Kr hM A (W (by rw [A]; rfl)) hz (eT.1 N.1) N.2).opW
 ·rename_i t x A
  rw [bind_some] at h; obtain ⟨v, O, h⟩ := h
  rw [bind_some] at h; obtain ⟨n, hn, h⟩ := h
  rw [aB] at h; obtain ⟨N, h⟩ := h
  simp only [yc] at N
  obtain rfl := yb h
  exact (NE hM A (W (by rw [A]; rfl)) (M _ _ O) (cX.1 N.1.1) (eT.1 N.1.2) N.2).opW
 ·rename_i t parts A
  rw [bind_some] at h; obtain ⟨ps, hps, h⟩ := h
  obtain ⟨v, O, rfl⟩ := yf.1 h
  obtain ⟨cv, J, H⟩ := G7 O (Dv M hps)
  exact r9.still hM (by simp only [execOp, A] <;> rfl) rfl rfl J H
 ·rename_i t len parts A
  rw [bind_some] at h; obtain ⟨et, het, h⟩ := h
  rw [bind_some] at h; obtain ⟨z, hz, h⟩ := h
  rw [bind_some] at h; obtain ⟨s, hs, h⟩ := h
  rw [bind_some] at h; obtain ⟨ps, hps, h⟩ := h
  rw [aB] at h; obtain ⟨N, h⟩ := h
  rw [bind_some] at h; obtain ⟨wv, hwv, h⟩ := h
  rw [aB] at h; obtain ⟨hwe, h⟩ := h
  obtain ⟨ov, Y, rfl⟩ := yf.1 h
  exact r9.value (by simp only [execOp, A] <;> rfl) (B3 hM (W (by rw [A]; rfl)) het hz hs N hwv hwe Y (Dv M hps))
 ·rename_i t x A
  rw [bind_some] at h; obtain ⟨v, O, h⟩ := h
  obtain ⟨r, rd, rfl, cv, J, H⟩ := BD hM h (M _ _ O)
  exact r9.still hM (by simp only [execOp, A] <;> rfl) rfl rfl J H
 ·rename_i t x y A
  rw [bind_some] at h; obtain ⟨vx, hx, h⟩ := h
  rw [bind_some] at h; obtain ⟨vy, hy, h⟩ := h
  obtain ⟨Y, G', w', J, N, hev, hM'⟩ := GM hM h (M _ _ hx) (M _ _ hy)
  refine lQ.opW ⟨G', w', .skip, undef, ?_, .inr ⟨rfl, rfl⟩, by rw [Y]; exact .lit _ rfl, N, hev, hM'⟩
  simp only [execOp, A, Sem.run_bind, J, Result.andThen_ok, Sem.run_pure]
 ·rename_i x A
  rw [bind_some] at h; obtain ⟨v, O, h⟩ := h
  have H := M _ _ O
  split at h
  ·obtain rfl := yb h
   refine r9.plain hM (cv := a.eval x) ?_ rfl rfl H
   simp only [execOp, A]
   generalize a.eval x = cv at H
   cases H; simp only
  ·obtain rfl := yb h
   refine r9.plain hM (cv := a.eval x) ?_ rfl rfl H
   simp only [execOp, A]
   generalize a.eval x = cv at H
   cases H; simp only
  ·obtain rfl := yb h
   refine r9.plain hM (cv := a.eval x) ?_ rfl rfl H
   simp only [execOp, A]
   generalize a.eval x = cv at H
   cases H; simp only
  ·simp at h
 ·rename_i op t x y _ A
  rw [bind_some] at h; obtain ⟨vx, hx, h⟩ := h
  rw [bind_some] at h; obtain ⟨vy, hy, h⟩ := h
  obtain ⟨r, Z, rfl⟩ := yf.1 h
  obtain ⟨cv, h1, h2, H⟩ := Mz (x := x) (y := y) Z (M _ _ hx) (M _ _ hy)
  refine r9.still hM (s := do eqGuard op t x y (a.eval x) (a.eval y); binOp op t (a.eval x) (a.eval y)) (by simp only [execOp, A]) rfl rfl ?_ H
  simp only [Sem.run_bind, h1, Result.andThen_ok, h2]
 ·rename_i op _ x A
  rw [bind_some] at h; obtain ⟨vx, hx, h⟩ := h
  split at h
  ·obtain ⟨r, Z, rfl⟩ := yf.1 h
   have hvx := (M _ _ hx).lit_inv
   exact r9.still hM (by simp only [execOp, A] <;> rfl) rfl rfl (by rw [hvx]; exact L6 Z) (.lit _ (GI Z))
  ·simp at h
 ·rename_i src dst x A
  rw [bind_some] at h; obtain ⟨vx, hx, h⟩ := h
  exact r9.value (by simp only [execOp, A] <;> rfl) (CX hM h (M _ _ hx))
 ·rename_i fn first cap A
  rw [bind_some] at h; obtain ⟨fi, hfi, h⟩ := h
  obtain ⟨ca, hca, rfl⟩ := yf.1 h
  have h1 := Ed M hfi
  have h2 := Ed M hca
  exact r9.still hM (by simp only [execOp, A] <;> rfl) rfl rfl (cv := .func fn (first.map a.eval) (cap.map a.eval)) (by simp [Instr.makeFunc]) (.fn fn fi ca _ _ h1.1 h2.1 h1.2 h2.2)
 ·rename_i t l c A
  rw [bind_some] at h; obtain ⟨et, het, h⟩ := h
  rw [bind_some] at h; obtain ⟨z, hz, h⟩ := h
  rw [bind_some] at h; obtain ⟨vl, hl, h⟩ := h
  rw [bind_some] at h; obtain ⟨vc, hc, h⟩ := h
  split at h
  ·rename_i k1 n k2 n'
   rw [aB] at h; obtain ⟨N, h⟩ := h
   simp only [yc, beq_iff_eq, decide_eq_true_eq] at N
   obtain ⟨⟨hnn, hn0⟩, hml⟩ := N
   subst hnn
   have hml := eT.1 hml
   obtain ⟨i, zv, hi, hzv, Y⟩ := oB hz
   have hzr : VR G w z zv := oV Y
   have el := (M _ _ hl).lit_inv
   have ec := (M _ _ hc).lit_inv
   obtain ⟨m, rfl⟩ : ∃ m : Nat, n = (m : Int) := ⟨n.toNat, by omega⟩
   rw [yb1] at hml h
   refine r9.value (s := Instr.makeSlice t (.int k1 (m : Int)) (.int k2 (m : Int))) (by simp only [execOp, A, el, ec]) ?_
   have Z := W (by rw [A]; rfl)
   split at h
   ·rename_i k hk
    rw [bind_some] at h; obtain ⟨e, he, h⟩ := h
    rw [bind_some] at h; obtain ⟨bytes, U, h⟩ := h
    rw [bind_some] at h; obtain ⟨zs, hzs, h⟩ := h
    rw [aB] at h; obtain ⟨N, h⟩ := h
    simp only [yc] at N
    obtain rfl := cX.1 N.1
    have hb := eT.1 N.2
    obtain ⟨O, hsz⟩ := Kk (n := m) hzs hzr
    exact rE hM Z (vZ het) hi hzv (by unfold k6 at he; rw [hi] at he; simpa using he) (yz _) (by unfold mJ at U; rw [hi] at U; simp at U; omega) hml hsz O (by simp [aN.len]) rfl h
   ·rw [bind_some] at h; obtain ⟨q, hq, h⟩ := h
    rw [bind_some] at h; obtain ⟨e, he, h⟩ := h
    rw [bind_some] at h; obtain ⟨bytes, U, h⟩ := h
    rw [aB] at h; obtain ⟨N, h⟩ := h
    simp only [yc] at N
    obtain ⟨⟨⟨g1, g2⟩, g3⟩, g4⟩ := N
    have g1 := eT.1 g1; have g2 := eT.1 g2; have g3 := cX.1 g3; have g4 := mM g4
    obtain ⟨O, hsz⟩ := FP (n := m) hM hq hzr g3 g1 g4
    exact rE hM Z (vZ het) hi hzv (by unfold k6 at he; rw [hi] at he; simpa using he) g1 (by unfold mJ at U; rw [hi] at U; simp at U; omega) hml hsz O (by simp [aN.len]) rfl h
  ·simp at h
 ·rename_i t x lo hi mx A
  rw [bind_some] at h; obtain ⟨vx, hx, h⟩ := h
  rw [bind_some] at h; obtain ⟨vl, hl, h⟩ := h
  rw [bind_some] at h; obtain ⟨vh, hh, h⟩ := h
  rw [bind_some] at h; obtain ⟨vm, hm, h⟩ := h
  obtain ⟨h1, h2, cv, J, H⟩ := Ho hM h (M _ _ hx) (Ai M hl) (Ai M hh) (Ai M hm)
  exact r9.still hM (by simp only [execOp, A] <;> rfl) h1 h2 J H
 ·rename_i s x f A
  rw [bind_some] at h; obtain ⟨vx, hx, h⟩ := h
  rw [bind_some] at h; obtain ⟨q, hq, h⟩ := h
  have H := M _ _ hx
  split at h
  ·rename_i b g i c
   obtain rfl := yb h
   generalize V : a.eval x = cv at H
   cases H with
   | ptr _ _ _ _ L B hl hb =>
    refine r9.still hM (by simp only [execOp, A] <;> rfl) rfl rfl (by rw [V]; exact Bo hq B _ w) ?_
    rw [yf3]
    exact .ptr b g i (c + q.1) L B hl hb
  ·rename_i β p c
   obtain rfl := yb h
   generalize V : a.eval x = cv at H
   cases H with
   | el _ _ _ B o cv hh Z =>
    refine r9.still hM (by simp only [execOp, A] <;> rfl) rfl rfl (by rw [V]; exact Bo hq B _ w) ?_
    rw [yf3]
    exact .el β p (c + q.1) B o cv hh Z
  ·simp at h
 ·rename_i s x f A
  rw [bind_some] at h; obtain ⟨vx, hx, h⟩ := h
  rw [bind_some] at h; obtain ⟨q, hq, h⟩ := h
  split at h
  ·rename_i cs
   rw [bind_some] at h; obtain ⟨ag, hag, h⟩ := h
   have key : ∃ v, (bif ag then guardB (Nat.ble (q.1 + q.2.1) cs.length) (some (AV.agg ((cs.drop q.1).take q.2.1))) else cs[q.1]?) = some v ∧ out = { v } := by
    cases ag with
    | true =>
     simp only [yg] at h ⊢
     rw [aB] at h; obtain ⟨N, h⟩ := h
     exact ⟨_, by rw [N]; rfl, (yb h).symm⟩
    | false =>
     simp only [ye] at h ⊢
     obtain ⟨v, O, rfl⟩ := yf.1 h
     exact ⟨v, O, rfl⟩
   obtain ⟨v, O, rfl⟩ := key
   obtain ⟨cv, J, H⟩ := GG hq hag (M _ _ hx) O
   exact r9.still hM (by simp only [execOp, A] <;> rfl) rfl rfl J H
  ·simp at h
 ·rename_i t x ix A
  rw [bind_some] at h; obtain ⟨vx, hx, h⟩ := h
  rw [bind_some] at h; obtain ⟨vi, hi, h⟩ := h
  split at h
  ·rename_i k i
   have ei := (M _ _ hi).lit_inv
   obtain ⟨v, rd, rfl, cv, J, H⟩ := GA (k := k) hM h (M _ _ hx)
   exact r9.still hM (by simp only [execOp, A] <;> rfl) rfl rfl (by rw [ei]; exact J) H
  ·simp at h
 ·rename_i t x ix A
  exact Hq hM M (by simp only [execOp, A] <;> rfl) h
 ·rename_i t ix A
  rw [bind_some] at h; obtain ⟨vt, ht, h⟩ := h
  split at h
  ·rename_i vs
   obtain ⟨v, O, rfl⟩ := yf.1 h
   have H := M _ _ ht
   generalize V : a.eval t = cv at H
   cases H with
   | tup _ cvs hlen hh =>
    have hix : ix < cvs.size := by rw [← hlen]; exact (yh.1 O).1
    have := hh ix v O
    rw [ym, yn1 hix] at this
    refine r9.still hM (by simp only [execOp, A] <;> rfl) rfl rfl (cv := cvs[ix]) ?_ this
    rw [V]
    simp [Instr.extract, yn1 hix]
  ·simp at h
 ·rename_i c A
  rw [bind_some] at h; obtain ⟨args, hargs, h⟩ := h
  have hav := Ed M hargs
  split at h
  ·rename_i b hc
   obtain ⟨s, hs, hh⟩ := Cr (ty := o.type) (consts := c.args.map fun | .const _ => true | _ => false) hM (fun hb => W (by rw [A]; subst hb; unfold eA; obtain ⟨cc, _, _⟩ := c; simp only at hc; subst hc; rfl)) h hav
   refine r9.value (s := s) ?_ hh
   rw [← hs]
   simp only [execOp, A, resolve, hc, invoke]
   rfl
  ·rename_i f hc
   rw [bind_some] at h; obtain ⟨fv, hf, h⟩ := h
   split at h
   ·rename_i g fi ca
    have H := M _ _ hf
    generalize V : a.eval f = cv at H
    cases H with
    | fn _ _ _ fvs cvs h1 h2 hff hcc =>
     obtain ⟨hen, hcl⟩ := hcall h ⟨h1, hff⟩ hav ⟨h2, hcc⟩
     intro K Q hK
     unfold Oper.wp
     have hx : (execOp a.eval o).run P w = .ok (.enter g (fvs ++ c.args.map a.eval ++ cvs)) w := by
      simp only [execOp, A, resolve, hc, Deferred.ofValue, V, Sem.run_bind, Sem.run_pure, Result.andThen_ok, invoke]
      exact hen
     rw [hx]
     refine Calls.mono hcl fun e w' he => ?_
     obtain ⟨G', cv, rfl, O, N, hev, hM'⟩ := he
     exact hK G' w' cv O N hev hM'
   ·simp at h
  ·simp at h
 ·simp at h
end
end Go.Ab
end
section
namespace Go.Ab
variable [cD]
theorem eJ (f : lI) : ∀ cs : List AV, AV.renAll f cs = cs.map (·.ren f)
 | [] => by simp [AV.renAll]
 | c :: cs => by simp [AV.renAll, eJ f cs]
theorem iN : ∀ {cs : List AV} {j : Nat} {y : AV}, cs[j]? = some y → y.lent = true → AV.lentAny cs = true
 | [], j, y, h, _ => by simp at h
 | c :: cs, 0, y, h, hl => by simp at h; subst h; simp [AV.lentAny, hl]
 | c :: cs, j + 1, y, h, hl => by simp [AV.lentAny, iN (cs := cs) (j := j) (by simpa using h) hl]
def Bw (G G2 : Gh) (f : lI) : Prop := ∀ b g q L, f b g = some q → G.loc b g = some L → G2.loc q.1 q.2 = some L
theorem pZ {f : lI} {cs : List AV} {j : Nat} {y : AV} (h : (AV.renAll f cs)[j]? = some y) : ∃ x, cs[j]? = some x ∧ y = x.ren f := by
 rw [eJ, yh1] at h
 obtain ⟨x, hx, rfl⟩ := yf.1 h
 exact ⟨x, hx, rfl⟩
theorem VR.ren {G O : Gh} {w : World} {f : lI} {l : Bool} (M : Bw G O f) (Z : ∀ β B o, (β = true → l = true) → G.prot β B o → O.prot β B o) {a : AV} {v : Value} (h : VR G w a v) :
  (a.lent = true → l = true) → VR O w (a.ren f) v := by
 induction h with
 | lit v h => intro _; simp only [AV.ren]; exact .lit v h
 | imm β p v h hs => intro hl; simp only [AV.ren]; exact .imm β p v (h.mono (fun B o z => Z β B o (fun e => hl (by simp [AV.lent, e])) z) (fun _ _ _ => rfl)) hs
 | unkB b => intro _; simp only [AV.ren]; exact .unkB b
 | dead v h1 h2 => intro _; simp only [AV.ren]; exact .dead v h1 h2
 | ptr b g i c L B hl z =>
  intro _; simp only [AV.ren]
  split
  ·rename_i q J; exact .ptr q.1 q.2 i c L B (M b g q L J hl) z
  ·exact .dead _ rfl rfl
 | ms b g o n cap L B hl z hn K hf =>
  intro _; simp only [AV.ren]
  split
  ·rename_i q J; exact .ms q.1 q.2 o n cap L B (M b g q L J hl) z hn K hf
  ·exact .dead _ rfl rfl
 | msNil b g L hl z =>
  intro _; simp only [AV.ren]
  split
  ·rename_i q J; exact .msNil q.1 q.2 L (M b g q L J hl) z
  ·exact .dead _ rfl rfl
 | msZ b g o B oo L hl z ho K =>
  intro _; simp only [AV.ren]
  split
  ·rename_i q J; exact .msZ q.1 q.2 o B oo L (M b g q L J hl) z ho K
  ·exact .dead _ rfl rfl
 | msw b g cap L B hl z hn hf =>
  intro _; simp only [AV.ren]
  split
  ·rename_i q J; exact .msw q.1 q.2 cap L B (M b g q L J hl) z hn hf
  ·exact .dead _ rfl rfl
 | mswNil b g L hl z hn =>
  intro _; simp only [AV.ren]
  split
  ·rename_i q J; exact .mswNil q.1 q.2 L (M b g q L J hl) z hn
  ·exact .dead _ rfl rfl
 | el β p c B o cv h Y =>
  intro hl; simp only [AV.ren]
  have N : ∀ B o, G.prot β B o → O.prot β B o := fun B o z => Z β B o (fun e => hl (by simp [AV.lent, e])) z
  exact .el β p c B o cv (fun j y A => ⟨(h j y A).1, N _ _ (h j y A).2⟩) (fun j y A => (Y j y A).mono N (fun _ _ _ => rfl))
 | fn f' fi ca fv cv h1 h2 hf hc W U =>
  intro hl; simp only [AV.ren]
  refine .fn f' _ _ fv cv (by rw [eJ]; simpa using h1) (by rw [eJ]; simpa using h2) (fun j y A => ?_) (fun j y A => ?_)
  ·obtain ⟨x, hx, rfl⟩ := pZ A
   exact W j x hx (fun e => hl (by simp [AV.lent, iN hx e]))
  ·obtain ⟨x, hx, rfl⟩ := pZ A
   exact U j x hx (fun e => hl (by simp [AV.lent, iN hx e]))
 | agg cs cvs H h V =>
  intro hl; simp only [AV.ren]
  refine .agg _ cvs (by rw [eJ]; simpa using H) (fun j y A => ?_)
  obtain ⟨x, hx, rfl⟩ := pZ A
  exact V j x hx (fun e => hl (by simp [AV.lent, iN hx e]))
 | tup cs cvs H h V =>
  intro hl; simp only [AV.ren]
  refine .tup _ cvs (by rw [eJ]; simpa using H) (fun j y A => ?_)
  obtain ⟨x, hx, rfl⟩ := pZ A
  exact V j x hx (fun e => hl (by simp [AV.lent, iN hx e]))
def sJ : cI → Bool
 | .cells _ cs => AV.lentAny cs
 | .pvs β _ _ => β
 | .ints _ _ => false
theorem nC : ∀ {mem : a9} {b : Nat} {x : d8}, mem[b]? = some (some x) → sJ x.row = true → gL mem = true
 | [], b, x, h, _ => by simp at h
 | some y :: m, 0, x, h, hl => by
  simp at h; subst h
  obtain ⟨g, fz, row⟩ := y
  cases row <;> simp_all [gL, sJ]
 | none :: m, 0, x, h, hl => by simp at h
 | some y :: m, b + 1, x, h, hl => by simp [gL, nC (mem := m) (b := b) (by simpa using h) hl]
 | none :: m, b + 1, x, h, hl => by simp only [gL]; exact nC (mem := m) (b := b) (by simpa using h) hl
theorem lK (f : lI) (r : cI) : (r.ren f).e = r.e := by cases r <;> rfl
theorem iQ (f : lI) (r : cI) : (r.ren f).len = r.len := by cases r <;> simp [cI.ren, cI.len, eJ]
theorem eD (f : lI) (r : cI) : (r.ren f).isCells = r.isCells := by cases r <;> rfl
theorem o4.ren {G A : Gh} {w : World} {f : lI} {l : Bool} (M : Bw G A f) (J : ∀ β B o, (β = true → l = true) → G.prot β B o → A.prot β B o) {B : Nat} {r : cI} (h : o4 G w B r) (hl : sJ r = true → l = true) :
  o4 A w B (r.ren f) := by
 cases r with
 | ints k xs => exact h
 | pvs β e xs => exact ⟨h.1, fun i x c y hx z => by obtain ⟨v, h1, h2, H⟩ := h.2 i x c y hx z; exact ⟨v, h1, h2, H.mono (fun B o K => J β B o (fun e => hl (by simp [sJ, e])) K) (fun _ _ _ => rfl)⟩⟩
 | cells e cs =>
  refine ⟨by simpa [eJ] using h.1, fun j y z => ?_⟩
  obtain ⟨x, hx, rfl⟩ := pZ z
  obtain ⟨v, h1, h2, H⟩ := h.2 j x hx
  exact ⟨v, h1, h2, H.ren M J (fun e => hl (by simp [sJ, iN hx e]))⟩
theorem zZ : ∀ {ids : List Nat} {b n j : Nat}, rX b ids n = some j → ∃ i, j = n + i ∧ ids[i]? = some b
 | [], b, n, j, h => by simp [rX] at h
 | m :: r, b, n, j, h => by
  simp only [rX] at h
  cases z : Nat.beq m b with
  | true => rw [z] at h; simp at h; subst h; exact ⟨0, rfl, by simp [cX.1 z]⟩
  | false =>
   rw [z] at h; simp only [ye] at h
   obtain ⟨i, rfl, A⟩ := zZ h
   exact ⟨i + 1, by omega, by simpa using A⟩
theorem wO : ∀ {ids : List Nat} {i j b : Nat}, dB ids = true → ids[i]? = some b → ids[j]? = some b → i = j
 | [], i, j, b, _, h, _ => by simp at h
 | m :: r, i, j, b, hn, z, A => by
  simp only [dB, yc, yy] at hn
  have H : ∀ k : Nat, r[k]? = some m → False := fun k J => by
   have := oI.2 (yj J)
   rw [this] at hn; simp at hn
  cases i with
  | zero =>
   cases j with
   | zero => rfl
   | succ j => simp at z A; subst z; exact (H j A).elim
  | succ i =>
   cases j with
   | zero => simp at z A; subst A; exact (H i z).elim
   | succ j => rw [wO (ids := r) (i := i) (j := j) hn.2 (by simpa using z) (by simpa using A)]
def vG (G : Gh) (mem : a9) (ids : List Nat) : Nat → Nat → Option wZ := fun j g => if g = 0 then (ids[j]?).bind fun b => (mY mem b).bind (G.loc b) else none
theorem lU {mem : a9} {b g : Nat} : mY mem b = some g ↔ ∃ x, mem[b]? = some (some x) ∧ x.gen = g := by
 unfold mY
 split
 ·rename_i x hx; constructor
  ·intro h; exact ⟨x, hx, by simpa using h⟩
  ·rintro ⟨y, z, rfl⟩; rw [hx] at z; simp at z; subst z; rfl
 ·rename_i A; constructor
  ·intro h; simp at h
  ·rintro ⟨y, z, _⟩; exact absurd z (A y)
theorem Km {mem : a9} {ids : List Nat} {b g : Nat} {q : Nat × Nat} (h : fX mem ids b g = some q) : ∃ j, q = (j, 0) ∧ ids[j]? = some b ∧ mY mem b = some g := by
 unfold fX at h
 split at h
 ·rename_i A H
  cases z : Nat.beq A g with
  | false => rw [z] at h; simp at h
  | true =>
   rw [z] at h; simp only [yg] at h
   obtain ⟨j, K, rfl⟩ := yf.1 h
   obtain ⟨i, rfl, J⟩ := zZ K
   rw [← cX.1 z]
   exact ⟨i, by simp, J, H⟩
 ·simp at h
theorem C4 {G h : Gh} {mem : a9} {ids : List Nat} (hl : h.loc = vG G mem ids) : Bw G h (fX mem ids) := by
 intro b g q L z hL
 obtain ⟨j, rfl, H, A⟩ := Km z
 rw [hl]
 simp [vG, H, A, hL]
theorem eI (f : lI) (mem : a9) : ∀ (ids : List Nat) (j : Nat), (eQ f mem ids)[j]? = (ids[j]?).map fun b => match mem[b]? with | some (some x) => some { gen := 0, frz := x.frz, row := x.row.ren f } | _ => none
 | [], j => by simp [eQ]
 | b :: r, 0 => by simp only [eQ, yx2, yo]; rfl
 | b :: r, j + 1 => by simp [eQ, eI f mem r j]
theorem gN {f : lI} {mem : a9} {ids : List Nat} {j : Nat} {y : d8} (h : (eQ f mem ids)[j]? = some (some y)) : ∃ b x, ids[j]? = some b ∧ mem[b]? = some (some x) ∧ y = { gen := 0, frz := x.frz, row := x.row.ren f } := by
 rw [eI] at h
 obtain ⟨b, z, h⟩ := yf.1 h
 split at h
 ·rename_i x hx; exact ⟨b, x, z, hx, by simpa using h.symm⟩
 ·simp at h
theorem E1 {G A : Gh} {w : World} {mem : a9} {ids : List Nat} (hM : aT G w mem) (hn : dB ids = true) (z : A.loc = vG G mem ids) (hp : ∀ β B o, G.prot β B o → A.prot β B o)
  (hnp : ∀ (b : Nat) (x : d8) (L : wZ) (B : Nat), b ∈ ids → mem[b]? = some (some x) → x.frz = false → G.loc b x.gen = some L → L.blk = some B → ∀ β o, ¬ A.prot β B o)
  (K : ∀ (b : Nat) (x : d8) (L : wZ) (B : Nat), b ∈ ids → mem[b]? = some (some x) → G.loc b x.gen = some L → L.blk = some B → A.mine B) (W : ∀ B, w.heap.size ≤ B → A.mine B)
  (N : ∀ B o, A.prot false B o → A.prot true B o) (J : ∀ β B o, A.prot β B o → B < w.heap.size) : aT A w (eQ (fX mem ids) mem ids) := by
 have hr := C4 z
 have l0 : ∀ {j b : Nat} {x : d8}, ids[j]? = some b → mem[b]? = some (some x) → A.loc j 0 = G.loc b x.gen := by
  intro j b x Z hx
  rw [z]; simp [vG, Z, lU.2 ⟨x, hx, rfl⟩]
 refine ⟨fun j y h => ?_, fun j g h => ?_, fun j y g h hlt => ?_, fun j j' y y' L L' B h h' hl M hk Y => ?_, W, N, J, hM.glob.mono (hp true) fun _ _ _ => rfl⟩
 ·obtain ⟨b, x, H, hx, rfl⟩ := gN h
  have V := hM.box b x hx
  obtain ⟨o, hl, hm⟩ := V.loc
  refine ⟨by simp only [lK]; exact V.e, o, ?_, ?_⟩
  ·simp only [lK, iQ]; rw [l0 H hx]; exact hl
  ·cases o with
   | none => simp only [iQ, eD]; exact hm
   | some B =>
    obtain ⟨h1, h2, h3, h4, h5⟩ := hm
    exact ⟨K b x _ B (yj H) hx hl rfl, h2, h3, h4.ren (l := true) hr (fun β B o _ => hp β B o) (fun _ => rfl), fun hf => hnp b x _ B (yj H) hx hf hl rfl⟩
 ·rw [z]; unfold vG
  split
  ·cases Z : ids[j]? with
   | none => rfl
   | some b =>
    simp only [ya]
    cases hg : mY mem b with
    | none => rfl
    | some g' =>
     obtain ⟨x, hx, _⟩ := lU.1 hg
     exact absurd (by rw [eI, Z]; simp [hx]) (h { gen := 0, frz := x.frz, row := x.row.ren (fX mem ids) })
  ·rfl
 ·obtain ⟨b, x, H, hx, rfl⟩ := gN h
  rw [z]; unfold vG
  rw [if_neg (by simp only at hlt; omega)]
 ·obtain ⟨b, x, H, hx, rfl⟩ := gN h
  obtain ⟨b', x', O, U, rfl⟩ := gN h'
  simp only at hl M
  rw [l0 H hx] at hl; rw [l0 O U] at M
  obtain rfl := hM.apart b b' x x' L L' B hx U hl M hk Y
  exact wO hn H O
end Go.Ab
end
section
namespace Go.Ab
variable [cD]
theorem Bj : ∀ {n i : Nat} {ids : List Nat} {j : Nat}, sF i n ids = true → j < n → ids[j]? = some (i + j)
 | 0, i, ids, j, _, h => by omega
 | n + 1, i, [], j, h, _ => by simp [sF] at h
 | n + 1, i, b :: r, j, h, hj => by
  simp only [sF, yc] at h
  cases j with
  | zero => simp [cX.1 h.1]
  | succ j => rw [yx1, Bj h.2 (by omega)]; congr 1; omega
theorem oR : ∀ {old : List (Option Bool)} {mem : a9} {j : Nat}, mZ old mem = true →
  (∀ k, old[j]? = some (some k) → ∃ x, mem[j]? = some (some x) ∧ x.row.isCells = k ∧ (k = true → x.gen = 0)) ∧ (old[j]? = some none → mem[j]? = some none)
 | [], mem, j, h => by simp
 | some k :: r, [], j, h => by simp [mZ] at h
 | none :: r, [], j, h => by simp [mZ] at h
 | some k :: r, none :: m, j, h => by simp [mZ] at h
 | none :: r, some x :: m, j, h => by simp [mZ] at h
 | none :: r, none :: m, 0, h => by simp
 | none :: r, none :: m, j + 1, h => by
  simp only [mZ] at h
  simpa using oR (j := j) h
 | some k :: r, some x :: m, 0, h => by
  simp only [mZ, yc] at h
  refine ⟨fun k' z => ?_, by simp⟩
  simp at z; subst z
  refine ⟨x, rfl, ?_, fun z => ?_⟩
  ·cases k <;> simp_all
  ·subst z; simp at h; exact h.1.2
 | some k :: r, some x :: m, j + 1, h => by
  simp only [mZ, yc] at h
  simpa using oR (j := j) h.2
theorem Bi {G : Gh} {w : World} {mem : a9} {old : List (Option Bool)} {vs : List AV} {r : List AV × a9} (hM : aT G w mem) (h : rQ old vs mem = some r) :
  ∃ f H, r.1 = AV.renAll f vs ∧ H.mine = G.mine ∧ H.prot = G.prot ∧ aT H w r.2 ∧ Bw G H f ∧ (∀ j, old[j]? = some (some true) → ∀ L, G.loc j 0 = some L → H.loc j 0 = some L) ∧
   (∀ (j : Nat) (y : d8), r.2[j]? = some (some y) → y.gen = 0) ∧ (∀ (j : Nat) (k : Bool), old[j]? = some (some k) → ∃ y : d8, r.2[j]? = some (some y) ∧ y.row.isCells = k) ∧ (∀ j : Nat, old[j]? = some none → r.2[j]? = some none) := by
 unfold rQ at h
 generalize fO mem (c7 mem (old.length + (AV.refsAll vs).length)) (iJ 0 old.length ++ AV.refsAll vs) [] = ids at h
 simp only at h
 rw [aB] at h; obtain ⟨M, h⟩ := h
 simp only [yc] at M
 obtain ⟨⟨K, O⟩, W⟩ := M
 obtain rfl := yb h
 have A : ∀ j, j < old.length → ids[j]? = some j := fun j z => by rw [Bj W z, yj1]
 refine ⟨fX mem ids, ⟨vG G mem ids, G.prot, G.mine⟩, rfl, rfl, rfl, ?_, C4 rfl, fun j z L hL => ?_, fun j y U => ?_, fun j k z => ?_, fun j z => ?_⟩
 ·refine E1 hM O rfl (fun _ _ _ h => h) (fun b x L B _ hx hf hl hB => ?_) (fun b x L B _ hx hl hB => hM.mine hx hl hB) hM.own hM.lab hM.away
  obtain ⟨o, J, hm⟩ := (hM.box b x hx).loc
  rw [hl] at J
  obtain rfl := yb J
  simp only at hB; subst hB
  exact hm.2.2.2.2 hf
 ·obtain ⟨x, hx, _, N⟩ := (oR (j := j) K).1 true z
  have := A j (yh.1 z).1
  simp [vG, this, lU.2 ⟨x, hx, N rfl⟩, hL]
 ·obtain ⟨b, x, _, _, rfl⟩ := gN U; rfl
 ·obtain ⟨x, hx, V, _⟩ := (oR (j := j) K).1 k z
  refine ⟨{ gen := 0, frz := x.frz, row := x.row.ren (fX mem ids) }, ?_, by simp only [eD]; exact V⟩
  rw [eI, A j (yh.1 z).1]; simp [hx]
 ·have hx := (oR (j := j) K).2 z
  rw [eI, A j (yh.1 z).1]; simp [hx]
def Gh.lend (G : Gh) (S : Nat → Nat → Prop) : Gh := { G with prot := fun β B o => G.prot β B o ∨ (β = true ∧ S B o) }
theorem d9.lend (G : Gh) (S : Nat → Nat → Prop) (hS : ∀ B o, S B o → G.mine B) : d9 G (G.lend S) := ⟨rfl, fun _ _ _ h => .inl h, fun _ _ _ h => h, fun _ B o h => h.imp id (fun h => hS B o h.2)⟩
section
variable {P : Program}
theorem LG {mem : a9} {n : Nat} {l : LK} {v : AV} {r : Bool × PV × List Nat} (h : bK P mem n l v = some r) (z : (∃ b g, v = .msw b g) ∨ (∃ b g o m, v = .ms b g o m)) : r.2.1.isSl = true := by
 have hI : ∀ {k : IntKind} {b : Nat} {w : aN} {r : Bool × PV × List Nat}, bK.treeInts k b w = some r → r.2.1.isSl = true := by
  intro k b w r h
  unfold bK.treeInts at h
  split at h
  ·rw [aB] at h; obtain ⟨_, h⟩ := h; obtain rfl := yb h; rfl
  ·rw [aB] at h; obtain ⟨_, h⟩ := h; obtain ⟨xs, _, rfl⟩ := yf.1 h; rfl
  ·simp at h
 have hS : ∀ {f : LK → AV → Option (Bool × PV × List Nat)} {t : TypeId} {e b : Nat} {w : aN} {r : Bool × PV × List Nat}, bK.treeSl P f t e b w = some r → r.2.1.isSl = true := by
  intro f t e b w r h
  unfold bK.treeSl at h
  split at h
  ·rw [aB] at h; obtain ⟨_, h⟩ := h; obtain rfl := yb h; rfl
  ·rw [aB] at h; obtain ⟨_, h⟩ := h
   rw [bind_some] at h; obtain ⟨_, _, h⟩ := h
   obtain ⟨xs, _, rfl⟩ := yf.1 h; rfl
  ·simp at h
 cases n with
 | zero => simp [bK] at h
 | succ n =>
  rcases z with ⟨b, g, rfl⟩ | ⟨b, g, o, m, rfl⟩
  ·cases l <;> simp only [bK] at h <;> first
    | (simp at h; done)
    | (rw [bind_some] at h; obtain ⟨x, _, h⟩ := h; exact hI h)
    | (rw [bind_some] at h; obtain ⟨x, _, h⟩ := h; exact hS h)
  ·cases l <;> simp only [bK] at h <;> first
    | (simp at h; done)
    | (rw [bind_some] at h; obtain ⟨x, _, h⟩ := h; rw [bind_some] at h; obtain ⟨y, _, h⟩ := h; exact hI h)
    | (rw [bind_some] at h; obtain ⟨x, _, h⟩ := h; rw [bind_some] at h; obtain ⟨y, _, h⟩ := h; exact hS h)
theorem l8 {G : Gh} {w : World} {mem : a9} {S : List Nat} {l : LK} {v : AV} {r : AV × List Nat} {cv : Value} (hM : aT G w mem) (h : gA P mem l v = some r) (M : VR G w v cv) (hS : ∀ b ∈ r.2, b ∈ S) :
  VR (G.lend (bH G mem S)) w r.1 cv := by
 have J : ∀ {q : Bool × PV × List Nat}, bK P mem iP l v = some q → r = (.imm true q.2.1, q.2.2) → ((∃ b g, v = .msw b g) ∨ (∃ b g o m, v = .ms b g o m)) → VR (G.lend (bH G mem S)) w r.1 cv := by
  intro q A K hm
  subst K
  obtain ⟨N, _, _⟩ := pO hM A M
  refine .imm true _ _ (N.mono (fun B o z => ?_) (fun _ _ _ => rfl)) (LG A hm)
  rcases z with z | z
  ·left
   cases H : q.1 with
   | true => rw [H] at z; exact z
   | false => rw [H] at z; exact hM.lab _ _ z
  ·exact .inr ⟨rfl, z.mono hS⟩
 unfold gA at h
 split at h
 ·obtain ⟨q, A, K⟩ := yf.1 h
  exact J A K.symm (.inl ⟨_, _, rfl⟩)
 ·obtain ⟨q, A, K⟩ := yf.1 h
  exact J A K.symm (.inr ⟨_, _, _, _, rfl⟩)
 ·obtain rfl := yb h
  exact M.mono (d9.lend G _ hM.inBoxes) (Ev.refl G w)
theorem p8 {G : Gh} {w : World} {mem : a9} {S : List Nat} (hM : aT G w mem) : ∀ {J : List LK} {vs : List AV} {r : List AV × List Nat} {us : List Value}, bP P mem J vs = some r → jH G w vs us → (∀ b ∈ r.2, b ∈ S) →
  jH (G.lend (bH G mem S)) w r.1 us
 | [], [], r, us, h, z, _ => by
  simp [bP] at h; subst h
  exact ⟨z.1, fun j y A => by simp at A⟩
 | [], v :: vs, r, us, h, _, _ => by simp [bP] at h
 | l :: J, [], r, us, h, _, _ => by simp [bP] at h
 | l :: J, v :: vs, r, [], h, z, _ => by simp [jH] at z
 | l :: J, v :: vs, r, u :: us, h, z, hS => by
  simp only [bP] at h
  rw [bind_some] at h; obtain ⟨a, K, h⟩ := h
  rw [bind_some] at h; obtain ⟨b, H, h⟩ := h
  obtain rfl := yb h
  have h1 := l8 hM K (z.2 0 v rfl) (fun b H => hS b (yr1 _ H))
  have h2 := p8 hM H (us := us) ⟨by simpa using z.1, fun j y A => by simpa using z.2 (j + 1) y (by simpa using A)⟩ (fun b H => hS b (ys1 _ H))
  refine ⟨by simp [h2.1], fun j y A => ?_⟩
  cases j with
  | zero => simp at A; subst A; exact h1
  | succ j => simpa using h2.2 j y (by simpa using A)
theorem JU {G : Gh} {w : World} {mem : a9} {S : List Nat} {t : TypeId} {v : AV} {r : AV × List Nat} {cv : Value} (hM : aT G w mem) (h : lend P mem t v = some r) (A : VR G w v cv) (hS : ∀ b ∈ r.2, b ∈ S) :
  VR (G.lend (bH G mem S)) w r.1 cv := by
 have z := fun {a : AV} {u : Value} (h : VR G w a u) => h.mono (d9.lend G _ (hM.inBoxes (ids := S))) (Ev.refl G w)
 unfold lend at h
 split at h
 ·rw [bind_some] at h; obtain ⟨l, hl, h⟩ := h
  exact l8 hM h A hS
 ·rw [bind_some] at h; obtain ⟨l, hl, h⟩ := h
  exact l8 hM h A hS
 ·rename_i cs
  cases H : FA cs with
  | true =>
   rw [H] at h; simp only [yg] at h
   rw [bind_some] at h; obtain ⟨ls, N, h⟩ := h
   obtain ⟨q, M, rfl⟩ := yf.1 h
   obtain ⟨cvs, rfl, K⟩ := A.agg_inv
   have := p8 (us := cvs.toList) hM M ⟨by simpa using K.1, fun j y J => by rw [dQ]; exact K.2 j y J⟩ hS
   exact .agg _ cvs (by simpa using this.1) (fun j y J => by rw [← dQ]; exact this.2 j y J)
  | false =>
   rw [H] at h; simp only [ye] at h
   obtain rfl := yb h
   exact z A
 ·obtain rfl := yb h
  exact z A
theorem vE {G : Gh} {w : World} {mem : a9} {S : List Nat} (hM : aT G w mem) : ∀ {ts : List TypeId} {vs : List AV} {r : List AV × List Nat} {us : List Value}, fQ P mem ts vs = some r → jH G w vs us → (∀ b ∈ r.2, b ∈ S) →
  jH (G.lend (bH G mem S)) w r.1 us
 | [], [], r, us, h, z, _ => by
  simp [fQ] at h; subst h
  exact ⟨z.1, fun j y A => by simp at A⟩
 | [], v :: vs, r, us, h, _, _ => by simp [fQ] at h
 | l :: J, [], r, us, h, _, _ => by simp [fQ] at h
 | l :: J, v :: vs, r, [], h, z, _ => by simp [jH] at z
 | l :: J, v :: vs, r, u :: us, h, z, hS => by
  simp only [fQ] at h
  rw [bind_some] at h; obtain ⟨a, K, h⟩ := h
  rw [bind_some] at h; obtain ⟨b, H, h⟩ := h
  obtain rfl := yb h
  have h1 := JU hM K (z.2 0 v rfl) (fun b H => hS b (yr1 _ H))
  have h2 := vE hM H (us := us) ⟨by simpa using z.1, fun j y A => by simpa using z.2 (j + 1) y (by simpa using A)⟩ (fun b H => hS b (ys1 _ H))
  refine ⟨by simp [h2.1], fun j y A => ?_⟩
  cases j with
  | zero => simp at A; subst A; exact h1
  | succ j => simpa using h2.2 j y (by simpa using A)
theorem I1 {G : Gh} {w : World} {mem : a9} {S : List Nat} (hM : aT G w mem) {keep : Bool} {ts : List TypeId} {vs : List AV} {r : List AV × List Nat} {us : List Value} (h : HP P keep mem ts vs = some r) (z : jH G w vs us) (hS : ∀ b ∈ r.2, b ∈ S) :
  jH (G.lend (bH G mem S)) w r.1 us := by
 cases keep with
 | true =>
  obtain rfl := yb h
  exact ⟨z.1, fun j y A => (z.2 j y A).mono (d9.lend G (bH G mem S) hM.inBoxes) (Ev.refl G w)⟩
 | false => exact vE hM h z hS
structure Pa (G : Gh) (w : World) (mem : a9) (r : AV × a9) (G' : Gh) (w' : World) (cv : Value) : Prop where
 v : VR G' w' r.1 cv
 ev : Ev G w w'
 mine : G'.mine = G.mine
 prot : ∀ β B o, G.prot β B o → G'.prot β B o
 new : ∀ β B o, G'.prot β B o → G.prot β B o ∨ G.mine B
 memR : aT G' w' r.2
 gens : ∀ (j : Nat) (y : d8), r.2[j]? = some (some y) → y.gen = 0
 kept : ∀ (j : Nat) (x : d8), mem[j]? = some (some x) → ∃ y : d8, r.2[j]? = some (some y) ∧ y.row.isCells = x.row.isCells ∧ (x.row.isCells = true → ∀ L, G.loc j 0 = some L → G'.loc j 0 = some L)
 nones : ∀ j : Nat, mem[j]? = some none → r.2[j]? = some none
def iU (P : Program) (C : bZ) : Prop := ∀ g args mem r, C g args mem = some r → ∀ G w vargs, aT G w mem → (∀ (j : Nat) (x : d8), mem[j]? = some (some x) → x.gen = 0) → pX G w args vargs →
 (callFunc g vargs).run P w = .ok (.enter g vargs) w ∧ Calls P g vargs w fun e w' => ∃ G' cv, e = .returned cv ∧ Pa G w mem r G' w' cv
def l7 (G : Gh) (mem : a9) (m : Nat) (B _o : Nat) : Prop := ∃ (b : Nat) (x : d8) (L : wZ), m ≤ b ∧ mem[b]? = some (some x) ∧ G.loc b x.gen = some L ∧ L.blk = some B
theorem n8 {G : Gh} {w : World} {mem : a9} {m : Nat} {v : AV} {cv : Value} (hM : aT G w mem) (N : VR G w v cv) : VR (G.frz (l7 G mem m)) w (v.frz m mem) cv := by
 have hg : d9 G (G.frz (l7 G mem m)) := d9.frz G _ (by rintro B o ⟨b, x, L, _, hx, hl, hB⟩; exact hM.mine hx hl hB)
 have A := fun {a : AV} {u : Value} (h : VR G w a u) => h.mono hg (Ev.refl G w)
 unfold AV.frz
 split
 ·rename_i b g
  cases Y : Nat.ble m b with
  | false => simp only [ye]; exact A N
  | true =>
   simp only [yg]
   split
   ·rename_i x hx
    obtain ⟨hm, rfl⟩ := box?_some hx
    have M := hM.box b x hm
    split
    ·rename_i k xs H
     cases N with
     | msw _ _ cap L B hl U hn hf =>
      obtain ⟨o, z, K⟩ := M.loc
      have J := hl
      rw [z] at J
      obtain rfl := yb J
      simp only at U; subst U
      have Z := K.2.2.2.1
      rw [H] at Z hn ⊢
      refine .imm false _ _ (.ints k xs B 0 cap hn fun i x' hx' => ?_) rfl
      rw [yj1]
      exact ⟨Z i x' hx', .inr ⟨b, x, _, eT.1 Y, hm, z, rfl⟩⟩
     | mswNil _ _ L hl U hn =>
      obtain ⟨o, z, K⟩ := M.loc
      rw [hl] at z
      obtain rfl := yb z
      rw [H] at hn
      obtain rfl := yp hn
      exact .imm false _ _ (.intsNil k _) rfl
    ·rename_i β e xs H
     cases N with
     | msw _ _ cap L B hl U hn hf =>
      obtain ⟨o, z, K⟩ := M.loc
      have J := hl
      rw [z] at J
      obtain rfl := yb J
      simp only at U; subst U
      have Z := K.2.2.2.1
      have he := M.e
      rw [H] at Z hn he ⊢
      obtain ⟨W, V⟩ := Z
      have O : ∀ (i : Nat) (x : PV) (c : Nat) (y : PV), xs[i]? = some x → x.cells[c]? = some y → cl w B (i * e + c) = some ((cl w B (i * e + c)).getD undef) ∧ ((cl w B (i * e + c)).getD undef).oneCell' = true ∧ PR w (G.prot β) y ((cl w B (i * e + c)).getD undef) := by
       intro i x c y h1 h2
       obtain ⟨v, N, hv1, hv2⟩ := V i x c y h1 h2
       rw [N]; exact ⟨rfl, hv1, hv2⟩
      refine .imm β _ _ (.sl e xs B 0 cap (fun i c => (cl w B (i * e + c)).getD undef) he hn W (fun i x' c y h1 h2 => ?_) (fun i x' c y h1 h2 => (O i x' c y h1 h2).2.1) (fun i x' c y h1 h2 => (O i x' c y h1 h2).2.2.mono (fun _ _ h => .inl h) (fun _ _ _ => rfl))) rfl
      rw [yj1]
      exact ⟨(O i x' c y h1 h2).1, .inr ⟨b, x, _, eT.1 Y, hm, z, rfl⟩⟩
     | mswNil _ _ L hl U hn =>
      obtain ⟨o, z, K⟩ := M.loc
      rw [hl] at z
      obtain rfl := yb z
      rw [H] at hn
      obtain rfl := yp hn
      exact .imm β _ _ (.slNil e _) rfl
    ·exact A N
   ·exact A N
 ·exact A N
theorem iK (m : Nat) (mem : a9) : ∀ vs : List AV, AV.frzAll m mem vs = vs.map (·.frz m mem)
 | [] => rfl
 | v :: vs => by simp [AV.frzAll, iK m mem vs]
theorem G5 {G : Gh} {w : World} {mem : a9} {m : Nat} {v : AV} {cv : Value} (hM : aT G w mem) (H : VR G w v cv) : VR (G.frz (l7 G mem m)) w (kT m mem v) cv := by
 unfold kT
 split
 ·rename_i vs
  cases H with
  | tup _ cvs z h =>
   refine .tup _ cvs (by rw [iK]; simpa using z) (fun j y A => ?_)
   rw [iK, yh1] at A
   obtain ⟨x, hx, rfl⟩ := yf.1 A
   exact n8 hM (h j x hx)
 ·rename_i vs
  cases H with
  | agg _ cvs z h =>
   refine .agg _ cvs (by rw [iK]; simpa using z) (fun j y A => ?_)
   rw [iK, yh1] at A
   obtain ⟨x, hx, rfl⟩ := yf.1 A
   exact n8 hM (h j x hx)
 ·exact n8 hM H
theorem Ew {mem : a9} {m : Nat} {v : AV} (h1 : gL mem = false) (h2 : v.lent = false) : (v.frz m mem).lent = false := by
 unfold AV.frz
 split
 ·rename_i b g
  cases Nat.ble m b with
  | false => exact h2
  | true =>
   simp only [yg]
   split
   ·rename_i x hx
    obtain ⟨hm, _⟩ := box?_some hx
    split
    ·rfl
    ·rename_i β e xs h
     simp only [AV.lent]
     cases β with
     | false => rfl
     | true => have := nC hm (by rw [h]; rfl); rw [h1] at this; cases this
    ·rfl
   ·rfl
 ·exact h2
theorem nP : ∀ {cs : List AV}, AV.lentAny cs = false ↔ ∀ y ∈ cs, y.lent = false
 | [] => by simp [AV.lentAny]
 | c :: cs => by simp [AV.lentAny, nP (cs := cs)]
theorem IP {mem : a9} {m : Nat} {v : AV} (h1 : gL mem = false) (h2 : v.lent = false) : (kT m mem v).lent = false := by
 unfold kT
 split
 ·rename_i vs
  simp only [AV.lent] at h2 ⊢
  rw [nP] at h2 ⊢
  intro y h
  rw [iK] at h
  obtain ⟨x, hx, rfl⟩ := yc3.1 h
  exact Ew h1 (h2 x hx)
 ·rename_i vs
  simp only [AV.lent] at h2 ⊢
  rw [nP] at h2 ⊢
  intro y h
  rw [iK] at h
  obtain ⟨x, hx, rfl⟩ := yc3.1 h
  exact Ew h1 (h2 x hx)
 ·exact Ew h1 h2
end
end Go.Ab
end
