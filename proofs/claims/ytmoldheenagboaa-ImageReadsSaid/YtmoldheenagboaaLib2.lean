/- The evaluator. -/
import Derived.Test.YtmoldheenagboaaLib1
import Derived.Laws.AppendOwn
import Derived.Deep.Upon
import Derived.Laws.MakeOwn
import Derived.Great.BuildSlice
import Derived.Laws.BytesString
import Derived.Laws.Cells
import Derived.Lib.AppendZeros
set_option linter.unusedVariables false
set_option linter.unusedSectionVars false
set_option linter.unusedSimpArgs false
section
namespace Go.Ab
variable [b8]
def bA (G : Gh) (mem : aW) (ids : List Nat) (B o : Nat) : Prop := ∃ b ∈ ids, ∃ (x : c7) (L : rO), mem[b]? = some (some x) ∧ G.loc b x.gen = some L ∧ L.blk = some B
def Gh.frz (G : Gh) (S : Nat → Nat → Prop) : Gh := { G with prot := fun β B o => G.prot β B o ∨ S B o }
theorem dA.frz (G : Gh) (S : Nat → Nat → Prop) (z : ∀ B o, S B o → G.mine B) : dA G (G.frz S) := ⟨rfl, fun _ _ _ h => .inl h, fun _ _ _ h => h, fun _ B o h => h.imp id (z B o)⟩
theorem aQ.mine {G : Gh} {w : World} {mem : aW} (K : aQ G w mem) {b : Nat} {x : c7} {L : rO} {B : Nat} (N : mem[b]? = some (some x)) (J : G.loc b x.gen = some L) (H : L.blk = some B) : G.mine B := by
 obtain ⟨o, z, O⟩ := (K.box b x N).loc
 rw [J] at z
 obtain rfl := ya z
 simp only at H; subst H
 exact O.1
theorem aQ.inBoxes {G : Gh} {w : World} {mem : aW} (H : aQ G w mem) {ids : List Nat} : ∀ B o, bA G mem ids B o → G.mine B := by
 rintro B o ⟨b, _, x, L, J, z, K⟩
 exact H.mine J z K
theorem bA.mono {G : Gh} {mem : aW} {ids z : List Nat} (h : ∀ b ∈ ids, b ∈ z) {B o : Nat} (H : bA G mem ids B o) : bA G mem z B o := by
 obtain ⟨b, J, r⟩ := H; exact ⟨b, h b J, r⟩
theorem dI (mem : aW) : ∀ (ids : List Nat) (m : aW) (b : Nat), m.length = mem.length →
  (∀ x, mem[b]? = some (some x) → b ∈ ids → (aN m (bS mem ids))[b]? = some (some { x with frz := true })) ∧
  ((b ∉ ids ∨ ∀ x, mem[b]? ≠ some (some x)) → (aN m (bS mem ids))[b]? = m[b]?) ∧ (aN m (bS mem ids)).length = mem.length
 | [], m, b, K => ⟨fun x _ h => by simp at h, fun _ => rfl, K⟩
 | a :: r, m, b, K => by
  unfold bS
  split
  ·rename_i x U
   have Z : a < m.length := by rw [K]; exact (yf.1 U).1
   obtain ⟨W, N, Y⟩ := dI mem r (m.set a (some { x with frz := true })) b (by simpa using K)
   simp only [aN]
   refine ⟨fun y J z => ?_, fun z => ?_, Y⟩
   ·by_cases H : b ∈ r
    ·exact W y J H
    ·have : b = a := by simp at z; exact z.resolve_right H
     subst this
     rw [N (.inl H), ye1 Z]
     rw [U] at J; simp at J; subst J; rfl
   ·have V : a ≠ b := by
     rintro rfl
     rcases z with z | z
     ·exact z (ym ..)
     ·exact z x U
    rw [N (z.imp (fun h H => h (yi _ H)) id), yd1 V]
  ·rename_i O
   obtain ⟨W, N, Y⟩ := dI mem r m b K
   refine ⟨fun y J z => ?_, fun z => N (z.imp (fun h H => h (yi _ H)) id), Y⟩
   have : b ≠ a := by rintro rfl; exact O y J
   exact W y J (by simp at z; exact z.resolve_left this)
theorem aQ.freeze {G : Gh} {w : World} {mem : aW} (N : aQ G w mem) (ids : List Nat) : aQ (G.frz (bA G mem ids)) w (aN mem (bS mem ids)) := by
 have hg := dA.frz G (bA G mem ids) N.inBoxes
 have K : ∀ (b : Nat) (y : c7), (aN mem (bS mem ids))[b]? = some (some y) → ∃ x, mem[b]? = some (some x) ∧ y.gen = x.gen ∧ y.row = x.row ∧ ((b ∈ ids ∧ y.frz = true) ∨ (b ∉ ids ∧ y = x)) := by
  intro b y h
  obtain ⟨i1, Z, _⟩ := dI mem ids mem b rfl
  by_cases U : ∃ x, mem[b]? = some (some x)
  ·obtain ⟨x, H⟩ := U
   by_cases O : b ∈ ids
   ·rw [i1 x H O] at h; simp at h; subst h; exact ⟨x, H, rfl, rfl, .inl ⟨O, rfl⟩⟩
   ·rw [Z (.inl O), H] at h; simp at h; subst h; exact ⟨x, H, rfl, rfl, .inr ⟨O, rfl⟩⟩
  ·rw [Z (.inr (fun x H => U ⟨x, H⟩))] at h; exact absurd ⟨y, h⟩ U
 refine ⟨fun b y h => ?_, fun b g h => ?_, fun b y g h hlt => ?_, fun b b' y y' L L' B h h' l l' k k' => ?_, N.own, fun B o h => ?_, fun β B o h => ?_, N.glob.mono (hg.prot true) fun _ _ _ => rfl⟩
 ·obtain ⟨x, H, J, z, V⟩ := K b y h
  have O := N.box b x H
  obtain ⟨o, U, hm⟩ := O.loc
  refine ⟨by rw [z]; exact O.e, o, by rw [J, z]; exact U, ?_⟩
  cases o with
  | none => rw [z]; exact hm
  | some B =>
   obtain ⟨h1, h2, h3, h4, h5⟩ := hm
   refine ⟨h1, h2, h3, by rw [z]; exact h4.mono hg (Ev.refl G w) (fun _ _ => rfl), fun hf β o hp => ?_⟩
   rcases V with ⟨_, V⟩ | ⟨V, rfl⟩
   ·rw [V] at hf; cases hf
   ·rcases hp with hp | ⟨b2, hb2, x2, L2, hx2, hl2, hk2⟩
    ·exact h5 hf β o hp
    ·have := N.apart b2 b x2 y L2 _ B hx2 H hl2 U hk2 rfl
     subst this; exact V hb2
 ·refine N.unset b g fun x H => ?_
  obtain ⟨i1, Z, _⟩ := dI mem ids mem b rfl
  by_cases O : b ∈ ids
  ·exact h _ (i1 x H O)
  ·exact h x (by rw [Z (.inl O)]; exact H)
 ·obtain ⟨x, H, J, z, V⟩ := K b y h
  exact N.gens b x g H (by rw [← J]; exact hlt)
 ·obtain ⟨x, H, J, z, V⟩ := K b y h
  obtain ⟨x', hx', W, hrow', hc'⟩ := K b' y' h'
  rw [J] at l; rw [W] at l'
  exact N.apart b b' x x' L L' B H hx' l l' k k'
 ·rcases h with h | h
  ·exact .inl (N.lab B o h)
  ·exact .inr h
 ·rcases h with h | ⟨b, O, x, L, H, U, hk⟩
  ·exact N.away β B o h
  ·obtain ⟨o', Y, hm⟩ := (N.box b x H).loc
   rw [U] at Y
   obtain rfl := ya Y
   simp only at hk; subst hk
   exact hm.2.1
section
variable {P : Program}
theorem oB {α β : Type} {f : α → Option (Bool × β × List Nat)} : ∀ {xs : List α} {r : Bool × List β × List Nat}, eN f xs = some r →
  r.2.1.length = xs.length ∧ ∀ (i : Nat) (x : α), xs[i]? = some x → ∃ q, f x = some q ∧ r.2.1[i]? = some q.2.1 ∧ (∀ b ∈ q.2.2, b ∈ r.2.2) ∧ (r.1 = false → q.1 = false)
 | [], r, h => by simp [eN] at h; subst h; exact ⟨rfl, fun i x z => by simp at z⟩
 | v :: xs, r, h => by
  simp only [eN] at h
  rw [bind_some] at h; obtain ⟨a, J, h⟩ := h
  rw [bind_some] at h; obtain ⟨q, U, h⟩ := h
  obtain rfl := ya h
  obtain ⟨K, O⟩ := oB U
  refine ⟨by simp [K], fun i x z => ?_⟩
  cases i with
  | zero => simp at z; subst z; exact ⟨a, J, rfl, fun b H => yk1 _ H, fun h => by simp at h; exact h.1⟩
  | succ i =>
   obtain ⟨W, V, Y, Z, N⟩ := O i x (by simpa using z)
   exact ⟨W, V, by simpa using Y, fun b H => yl1 _ (Z b H), fun h => N (by simp at h; exact h.2)⟩
theorem o7 {α β γ : Type} {f : γ → α → Option (Bool × β × List Nat)} : ∀ {H : List γ} {xs : List α} {r : Bool × List β × List Nat}, cG f H xs = some r →
  r.2.1.length = xs.length ∧ H.length = xs.length ∧ ∀ (i : Nat) (x : α), xs[i]? = some x → ∃ l q, H[i]? = some l ∧ f l x = some q ∧ r.2.1[i]? = some q.2.1 ∧ (∀ b ∈ q.2.2, b ∈ r.2.2) ∧ (r.1 = false → q.1 = false)
 | [], [], r, h => by simp [cG] at h; subst h; exact ⟨rfl, rfl, fun i x z => by simp at z⟩
 | l :: H, v :: xs, r, h => by
  simp only [cG] at h
  rw [bind_some] at h; obtain ⟨a, N, h⟩ := h
  rw [bind_some] at h; obtain ⟨q, W, h⟩ := h
  obtain rfl := ya h
  obtain ⟨O, K, V⟩ := o7 W
  refine ⟨by simp [O], by simp [K], fun i x z => ?_⟩
  cases i with
  | zero => simp at z; subst z; exact ⟨l, a, rfl, N, rfl, fun b J => yk1 _ J, fun h => by simp at h; exact h.1⟩
  | succ i =>
   obtain ⟨l', Z, h0, Y, h2, h3, U⟩ := V i x (by simpa using z)
   exact ⟨l', Z, by simpa using h0, Y, by simpa using h2, fun b J => yl1 _ (h3 b J), fun h => U (by simp at h; exact h.2)⟩
 | [], _ :: _, r, h => by simp [cG] at h
 | _ :: _, [], r, h => by simp [cG] at h
theorem BZ {α : Type} {e : Nat} : ∀ {n : Nat} {cs : List α} {i : Nat}, i < n → (gY e n cs)[i]? = some ((cs.drop (i * e)).take e)
 | n + 1, cs, 0, h => by simp [gY]
 | n + 1, cs, i + 1, h => by
  simp only [gY, ys1]
  rw [BZ (by omega), List.drop_drop]
  congr 3; rw [yn1]; omega
theorem rW {α : Type} {e : Nat} : ∀ {n : Nat} {cs : List α}, (gY e n cs).length = n
 | 0, cs => rfl
 | n + 1, cs => by simp [gY, rW]
theorem sub_zero {r : Row} {o : Nat} {v : aM} (h : r.sub o 0 = some v) : (∃ k, v = .ints k []) ∨ (∃ β e, v = .pvs β e []) ∨ (∃ e, v = .avs e []) := by
 cases r <;> simp only [Row.sub] at h <;> rw [aA] at h <;> obtain ⟨_, h⟩ := h <;> obtain rfl := ya h <;> simp
theorem PR.intsZ {w : World} {J : Nat → Nat → Prop} (k : IntKind) (a : Option Addr) (z : ∀ x, a = some x → x.spot = none) : PR w J (.ints k []) (.slice a 0 0) := by
 cases a with
 | none => exact .intsNil k _
 | some a => obtain ⟨B, o, s⟩ := a; obtain rfl := z _ rfl; exact .ints k [] B o 0 (by simp) (fun i x H => by simp at H)
theorem PR.slZ {w : World} {K : Nat → Nat → Prop} {e : Nat} (J : 1 ≤ e) (a : Option Addr) (H : ∀ x, a = some x → x.spot = none) : PR w K (.sl e []) (.slice a 0 0) := by
 cases a with
 | none => exact .slNil e _
 | some a => obtain ⟨B, o, s⟩ := a; obtain rfl := H _ rfl; exact .sl e [] B o 0 (fun _ _ => undef) J (by simp) (fun x z => by simp at z) (fun i x c y z => by simp at z) (fun i x c y z => by simp at z) (fun i x c y z => by simp at z)
theorem Kx {r : Row} {o n : Nat} {v : aM} (h : r.sub o n = some v) : v.e = r.e := by
 cases r <;> simp only [Row.sub] at h <;> rw [aA] at h <;> obtain ⟨_, h⟩ := h <;> obtain rfl := ya h <;> rfl
theorem r9 {k : IntKind} {b : Nat} {v : aM} {r : Bool × PV × List Nat} (h : bD.treeInts k b v = some r) (H : (∃ k, v = .ints k []) ∨ (∃ β e, v = .pvs β e []) ∨ (∃ e, v = .avs e [])) :
  ∃ z, True ∧ r = (false, .ints z [], [b]) := by
 rcases H with ⟨z, rfl⟩ | ⟨β, e, rfl⟩ | ⟨e, rfl⟩
 ·simp only [bD.treeInts] at h
  rw [aA] at h; obtain ⟨_, h⟩ := h
  exact ⟨z, trivial, (ya h).symm⟩
 ·simp [bD.treeInts] at h
 ·simp only [bD.treeInts] at h
  rw [aA] at h; obtain ⟨_, h⟩ := h
  simp [d4] at h
  exact ⟨k, trivial, h.symm⟩
theorem zS {f : LK → AV → Option (Bool × PV × List Nat)} {t : TypeId} {e b : Nat} {v : aM} {r : Bool × PV × List Nat} (h : bD.treeSl P f t e b v = some r) (J : (∃ k, v = .ints k []) ∨ (∃ β e, v = .pvs β e []) ∨ (∃ e, v = .avs e [])) :
  ∃ β, v.e = e ∧ r = (β, .sl e [], [b]) := by
 rcases J with ⟨k', rfl⟩ | ⟨β, H, rfl⟩ | ⟨H, rfl⟩
 ·simp [bD.treeSl] at h
 ·simp only [bD.treeSl] at h
  rw [aA] at h; obtain ⟨z, h⟩ := h
  obtain rfl := cN.1 z
  exact ⟨β, rfl, (ya h).symm⟩
 ·simp only [bD.treeSl] at h
  rw [aA] at h; obtain ⟨z, h⟩ := h
  simp only [yc] at z
  obtain rfl := cN.1 z.1
  rw [bind_some] at h; obtain ⟨ls, _, h⟩ := h
  have : a6 e ([] : List AV).length = 0 := by
   have := e6 (n := 0) (d5.1 z.2) 0; simpa using this
  rw [this] at h
  simp [gY, eN] at h
  exact ⟨false, rfl, h.symm⟩
theorem nX {G : Gh} {w : World} {mem : aW} (hM : aQ G w mem) : ∀ {n : Nat} {l : LK} {v : AV} {r : Bool × PV × List Nat} {cv : Value}, bD P mem n l v = some r → VR G w v cv →
  PR w ((G.frz (bA G mem r.2.2)).prot r.1) r.2.1 cv ∧ cv.oneCell' = true ∧ r.2.1.cells = [r.2.1]
 | 0, l, v, r, cv, h, hv => by simp [bD] at h
 | n + 1, l, v, r, cv, h, hv => by
  have frzPR : ∀ {ids : List Nat} {β : Bool} {p : PV} {u : Value}, PR w (G.prot β) p u → PR w ((G.frz (bA G mem ids)).prot β) p u := fun Z => Z.mono (fun _ _ h => .inl h) (fun _ _ _ => rfl)
  have hints : ∀ {k : IntKind} {b : Nat} {x : c7} {wv : aM} {q : Bool × PV × List Nat} {vs : List Value} {B o cap : Nat}, mem[b]? = some (some x) → G.loc b x.gen = some ⟨some B, x.row.e, x.row.len⟩ → bD.treeInts k b wv = some q →
    bC G w wv vs → (∀ j u, vs[j]? = some u → cl w B (o + j) = some u) → wv.len ≤ cap →
    PR w ((G.frz (bA G mem q.2.2)).prot q.1) q.2.1 (.slice (some ⟨B, o, none⟩) wv.len cap) ∧ q.2.1.cells = [q.2.1] := by
   intro k b x wv q vs B o cap K hl O V N hcap
   have hin : ∀ o', bA G mem [b] B o' := fun o' => ⟨b, yb1.2 rfl, x, _, K, hl, rfl⟩
   unfold bD.treeInts at O
   split at O
   ·rename_i k' xs
    rw [aA] at O; obtain ⟨hk, O⟩ := O
    obtain rfl := ya O
    obtain ⟨hlen, _, hh⟩ := V
    exact ⟨.ints k' xs B o cap hcap (fun i y U => ⟨N _ _ (hh i y U), .inr (hin _)⟩), rfl⟩
   ·rename_i e cs
    rw [aA] at O; obtain ⟨he, O⟩ := O
    obtain rfl := cN.1 he
    obtain ⟨xs, hxs, rfl⟩ := yd.1 O
    obtain ⟨hlen, _, hcnt, hh⟩ := V
    have key : ∀ {cs : List AV} {xs : List Int}, d4 k cs = some xs → xs.length = cs.length ∧ ∀ (i : Nat) (y : Int), xs[i]? = some y → cs[i]? = some (.lit (.int k y)) := by
     intro cs
     induction cs with
     | nil => intro xs h; simp [d4] at h; subst h; exact ⟨rfl, fun i y U => by simp at U⟩
     | cons c cs ih =>
      intro xs h
      have hc : ∃ k' z, c = .lit (.int k' z) := by
       cases c with
       | lit v => cases v with
        | int k' z => exact ⟨k', z, rfl⟩
        | _ => simp [d4] at h
       | _ => simp [d4] at h
      obtain ⟨k', z, rfl⟩ := hc
      simp only [d4] at h
      cases hk : f6 k k' with
      | false => rw [hk] at h; simp at h
      | true =>
       rw [hk] at h
       rw [i9] at hk; subst hk
       simp only [yg] at h
       obtain ⟨xs', h1, rfl⟩ := yd.1 h
       obtain ⟨i1, i2⟩ := ih h1
       refine ⟨by simp [i1], fun i y U => ?_⟩
       cases i with
       | zero => simp at U; subst U; rfl
       | succ i => simpa using i2 i y (by simpa using U)
    obtain ⟨k1, k2⟩ := key hxs
    have hle : aM.len (.avs 1 cs) = xs.length := by rw [k1]; rfl
    rw [hle]
    refine ⟨.ints k xs B o cap (by rw [← hle]; exact hcap) (fun i y U => ?_), rfl⟩
    obtain ⟨u, H, Z⟩ := hh i _ (k2 i y U)
    obtain rfl := Z.lit_inv
    exact ⟨N _ _ H, .inr (hin _)⟩
   ·simp at O
  have hsl : ∀ {t : TypeId} {e b : Nat} {x : c7} {wv : aM} {q : Bool × PV × List Nat} {vs : List Value} {B o cap : Nat}, mem[b]? = some (some x) → G.loc b x.gen = some ⟨some B, x.row.e, x.row.len⟩ → bD.treeSl P (bD P mem n) t e b wv = some q →
    1 ≤ wv.e → bC G w wv vs → (∀ j u, vs[j]? = some u → cl w B (o + j) = some u) → wv.len ≤ cap →
    PR w ((G.frz (bA G mem q.2.2)).prot q.1) q.2.1 (.slice (some ⟨B, o, none⟩) wv.len cap) ∧ q.2.1.cells = [q.2.1] := by
   intro t e b x wv q vs B o cap K hl O he1 V N hcap
   have hin : ∀ ids o', b ∈ ids → bA G mem ids B o' := fun ids o' hb => ⟨b, hb, x, _, K, hl, rfl⟩
   unfold bD.treeSl at O
   split at O
   ·rename_i β e' xs
    rw [aA] at O; obtain ⟨he, O⟩ := O
    obtain rfl := cN.1 he
    obtain rfl := ya O
    obtain ⟨hlen, h1, hh1, hh2⟩ := V
    refine ⟨.sl e xs B o cap (fun i c => vs.getD (i * e + c) undef) he1 hcap hh1 (fun i x c y K U => ?_) (fun i x c y K U => ?_) (fun i x c y K U => ?_), rfl⟩
    ·obtain ⟨u, H, Z⟩ := hh2 i x c y K U
     rw [yl, H]
     exact ⟨by rw [yb3]; exact N _ _ H, .inr (hin _ _ (yb1.2 rfl))⟩
    ·obtain ⟨u, H, Z⟩ := hh2 i x c y K U
     rw [yl, H]
     exact h1 u (yt H)
    ·obtain ⟨u, H, Z⟩ := hh2 i x c y K U
     rw [yl, H]
     exact frzPR Z
   ·rename_i e' cs
    rw [aA] at O; obtain ⟨he, O⟩ := O
    simp only [yc] at he
    obtain rfl := cN.1 he.1
    rw [bind_some] at O; obtain ⟨ls, hls, O⟩ := O
    obtain ⟨r0, hr0, rfl⟩ := yd.1 O
    obtain ⟨hlen, h1, hcnt, hh⟩ := V
    obtain ⟨fl, ff⟩ := oB hr0
    rw [rW] at fl
    have hcs : cs.length = a6 e cs.length * e := by rw [yg2]; exact hcnt
    -- element i
    have hel : ∀ i p, r0.2.1[i]? = some p → i < a6 e cs.length ∧ p.cells.length = e ∧ ∀ c y, p.cells[c]? = some y → ∃ u, vs[i * e + c]? = some u ∧ PR w ((G.frz (bA G mem (b :: r0.2.2))).prot r0.1) y u := by
     intro i p Z
     have hi : i < a6 e cs.length := by rw [← fl]; exact (yf.1 Z).1
     obtain ⟨q1, hq1, hp1, hb1, hlab1⟩ := ff i _ (BZ hi)
     rw [Z] at hp1
     obtain rfl := ya hp1
     rw [bind_some] at hq1; obtain ⟨q2, hq2, hq1⟩ := hq1
     obtain ⟨p', hp', rfl⟩ := yd.1 hq1
     obtain ⟨zl, zl2, zz⟩ := o7 hq2
     have hchl : ((cs.drop (i * e)).take e).length = e := by
      have h2 : i * e + e ≤ cs.length := by
       rw [hcs]
       calc i * e + e = (i + 1) * e := by rw [yn1]; simp
        _ ≤ _ := yo1 _ hi
      simp; omega
     have Y : p'.cells = q2.2.1 := by
      unfold BR at hp'
      split at hp'
      ·obtain rfl := ya hp'; rfl
      ·split at hp'
       ·rename_i c heq
        obtain rfl := ya hp'
        -- a single cell: what bD answers is no struct
        have hlen1 : ((cs.drop (i * e)).take e).length = 1 := by rw [← zl, heq]; rfl
        obtain ⟨lk, q3, _, h3, h4, _⟩ := zz 0 (((cs.drop (i * e)).take e)[0]'(by omega)) (ye _)
        have hcell0 : cs[i * e]? = some (((cs.drop (i * e)).take e)[0]'(by omega)) := by
         have := ye (l := (cs.drop (i * e)).take e) (i := 0) (by omega)
         rw [yg1 (by omega), ya1] at this; simp
        obtain ⟨u, H, hvr⟩ := hh _ _ hcell0
        have hone := (nX hM h3 hvr).2.2
        rw [heq] at h4
        simp only [yn2, Option.some.injEq] at h4
        rw [heq, h4]; exact hone
       ·simp at hp'
      ·simp at hp'
     refine ⟨hi, by rw [Y, zl, hchl], fun c y U => ?_⟩
     rw [Y] at U
     have hc : c < e := by have := (yf.1 U).1; rw [zl, hchl] at this; exact this
     obtain ⟨lk, q3, _, h3, h4, h5, h6⟩ := zz c (((cs.drop (i * e)).take e)[c]'(by omega)) (ye _)
     have hcell : cs[i * e + c]? = some (((cs.drop (i * e)).take e)[c]'(by omega)) := by
      have := ye (l := (cs.drop (i * e)).take e) (i := c) (by omega)
      rw [yg1 (by omega), ya1] at this; simp
     obtain ⟨u, H, hvr⟩ := hh _ _ hcell
     have hpr := (nX hM h3 hvr).1
     rw [U] at h4
     obtain rfl := ya h4
     refine ⟨u, H, hpr.mono (fun B' o' hh => ?_) (fun _ _ _ => rfl)⟩
     rcases hh with hh | hh
     ·left
      cases hb : r0.1 with
      | false => rw [h6 (hlab1 hb)] at hh; exact hh
      | true =>
       cases hq3 : q3.1 with
       | false => rw [hq3] at hh; exact hM.lab _ _ hh
       | true => rw [hq3] at hh; exact hh
     ·exact .inr (hh.mono fun b' hb' => yi _ (hb1 b' (h5 b' hb')))
    have hwl : aM.len (.avs e cs) = r0.2.1.length := by rw [fl]; rfl
    rw [hwl]
    refine ⟨.sl e r0.2.1 B o cap (fun i c => vs.getD (i * e + c) undef) he1 (by rw [← hwl]; exact hcap) (fun x K => ?_) (fun i x c y K U => ?_) (fun i x c y K U => ?_) (fun i x c y K U => ?_), rfl⟩
    ·obtain ⟨i, hi, rfl⟩ := yw1 K
     exact (hel i _ (ye hi)).2.1
    ·obtain ⟨u, H, Z⟩ := (hel i x K).2.2 c y U
     rw [yl, H]
     exact ⟨by rw [yb3]; exact N _ _ H, .inr (hin _ _ (ym ..))⟩
    ·obtain ⟨u, H, Z⟩ := (hel i x K).2.2 c y U
     rw [yl, H]
     exact h1 u (yt H)
    ·obtain ⟨u, H, Z⟩ := (hel i x K).2.2 c y U
     rw [yl, H]
     exact Z
   ·simp at O
  unfold bD at h
  split at h
  ·rename_i k k' x
   rw [aA] at h; obtain ⟨hk, h⟩ := h
   obtain rfl := ya h
   obtain rfl := hv.lit_inv
   exact ⟨.lit _ rfl, rfl, rfl⟩
  ·obtain rfl := ya h
   obtain rfl := hv.lit_inv
   exact ⟨.lit _ rfl, rfl, rfl⟩
  ·obtain rfl := ya h
   obtain rfl := hv.lit_inv
   exact ⟨.lit _ rfl, rfl, rfl⟩
  ·rename_i k β k' xs
   rw [aA] at h; obtain ⟨hk, h⟩ := h
   obtain rfl := ya h
   cases hv with
   | imm _ _ _ Z hs => exact ⟨frzPR Z, by cases Z <;> rfl, rfl⟩
  ·rename_i k
   obtain rfl := ya h
   obtain rfl := hv.lit_inv
   exact ⟨.intsNil k _, rfl, rfl⟩
  ·rename_i k b g
   rw [bind_some] at h; obtain ⟨x, K, h⟩ := h
   have J := (box?_some K)
   have he := (hM.box b x J.1).e
   rcases hM.at_msw K hv with ⟨B, cap, rfl, hn, hl, hf, _, _, _, W, _⟩ | ⟨rfl, hz, hnc, hl⟩
   ·obtain ⟨vs, hvs, N⟩ := W.toList he
    have := hints (o := 0) (cap := cap) J.1 (by rw [J.2]; exact hl) h hvs (fun j u H => by rw [yh1]; rw [N _ (yf.1 H).1]; exact H) (by rw [cP]; exact hn)
    rw [cP] at this
    exact ⟨this.1, rfl, this.2⟩
   ·unfold bD.treeInts at h
    obtain ⟨gen, frz, row⟩ := x
    cases row with
    | ints k' xs =>
     simp only [Row.len] at hz
     have := yp hz; subst this
     simp only [Row.all] at h
     rw [aA] at h; obtain ⟨hk, h⟩ := h
     obtain rfl := ya h
     exact ⟨.intsNil _ _, rfl, rfl⟩
    | pvs β e xs => simp [Row.all] at h
    | cells e cs => simp [Row.isCells] at hnc
  ·rename_i k b g o m
   rw [bind_some] at h; obtain ⟨x, K, h⟩ := h
   rw [bind_some] at h; obtain ⟨wv, hwv, h⟩ := h
   have J := (box?_some K)
   have he := (hM.box b x J.1).e
   rcases hM.at_ms K hv with ⟨B, cap, rfl, hn, hon, hl, hf, _, _, _, W, _⟩ | ⟨rfl, rfl, rfl, hz, hl⟩ | ⟨B, oo, rfl, ho, rfl, hon, hl⟩
   ·obtain ⟨vs, hvs, N⟩ := W.toList he
    obtain ⟨hv', hve, hvl, _⟩ := qI he hwv hvs
    have := hints (o := o * x.row.e) (cap := cap) J.1 (by rw [J.2]; exact hl) h hv' (fun j u H => by
     have hj : j < m * x.row.e := by have := (yf.1 H).1; rw [hv'.1, hve, hvl] at this; exact this
     rw [yg1 hj, ya1] at H
     rw [N _ (yf.1 H).1]; exact H) (by rw [hvl]; exact hn)
    rw [hvl] at this
    exact ⟨this.1, rfl, this.2⟩
   ·obtain ⟨k', hk', hr⟩ := r9 h (sub_zero hwv); rw [hr]; exact ⟨PR.intsZ k' none (by simp), rfl, rfl⟩
   ·obtain ⟨k', hk', hr⟩ := r9 h (sub_zero hwv); rw [hr]; exact ⟨PR.intsZ k' (some ⟨B, oo, none⟩) (by simp), rfl, rfl⟩
  ·rename_i t e β e' xs
   rw [aA] at h; obtain ⟨hk, h⟩ := h
   obtain rfl := ya h
   cases hv with
   | imm _ _ _ Z hs => exact ⟨frzPR Z, by cases Z <;> rfl, rfl⟩
  ·rename_i t e
   obtain rfl := ya h
   obtain rfl := hv.lit_inv
   exact ⟨.slNil e _, rfl, rfl⟩
  ·rename_i t e b g
   rw [bind_some] at h; obtain ⟨x, K, h⟩ := h
   have J := (box?_some K)
   have he := (hM.box b x J.1).e
   rcases hM.at_msw K hv with ⟨B, cap, rfl, hn, hl, hf, _, _, _, W, _⟩ | ⟨rfl, hz, hnc, hl⟩
   ·obtain ⟨vs, hvs, N⟩ := W.toList he
    have := hsl (o := 0) (cap := cap) J.1 (by rw [J.2]; exact hl) h (by rw [nA]; exact he) hvs (fun j u H => by rw [yh1]; rw [N _ (yf.1 H).1]; exact H) (by rw [cP]; exact hn)
    rw [cP] at this
    exact ⟨this.1, rfl, this.2⟩
   ·unfold bD.treeSl at h
    obtain ⟨gen, frz, row⟩ := x
    cases row with
    | ints k' xs => simp [Row.all] at h
    | pvs β e' xs =>
     simp only [Row.len] at hz
     have := yp hz; subst this
     simp only [Row.all] at h
     rw [aA] at h; obtain ⟨hk, h⟩ := h
     obtain rfl := ya h
     exact ⟨.slNil _ _, rfl, rfl⟩
    | cells e cs => simp [Row.isCells] at hnc
  ·rename_i t e b g o m
   rw [bind_some] at h; obtain ⟨x, K, h⟩ := h
   rw [bind_some] at h; obtain ⟨wv, hwv, h⟩ := h
   have J := (box?_some K)
   have he := (hM.box b x J.1).e
   rcases hM.at_ms K hv with ⟨B, cap, rfl, hn, hon, hl, hf, _, _, _, W, _⟩ | ⟨rfl, rfl, rfl, hz, hl⟩ | ⟨B, oo, rfl, ho, rfl, hon, hl⟩
   ·obtain ⟨vs, hvs, N⟩ := W.toList he
    obtain ⟨hv', hve, hvl, _⟩ := qI he hwv hvs
    have := hsl (o := o * x.row.e) (cap := cap) J.1 (by rw [J.2]; exact hl) h (by rw [hve]; exact he) hv' (fun j u H => by
     have hj : j < m * x.row.e := by have := (yf.1 H).1; rw [hv'.1, hve, hvl] at this; exact this
     rw [yg1 hj, ya1] at H
     rw [N _ (yf.1 H).1]; exact H) (by rw [hvl]; exact hn)
    rw [hvl] at this
    exact ⟨this.1, rfl, this.2⟩
   ·have he' := Kx hwv
    obtain ⟨e', hk', hr⟩ := zS h (sub_zero hwv); rw [hr]; exact ⟨PR.slZ (by omega) none (by simp), rfl, rfl⟩
   ·have he' := Kx hwv
    obtain ⟨e', hk', hr⟩ := zS h (sub_zero hwv); rw [hr]; exact ⟨PR.slZ (by omega) (some ⟨B, oo, none⟩) (by simp), rfl, rfl⟩
  ·simp at h
end
end Go.Ab
end
section
namespace Go.Ab
variable [b8]
section
variable {P : Program}
theorem iP {mem : aW} {v : AV} {rd : List Nat} {b : Nat} {x : c7} : ({ v, rd, wr := [(b, x)] } : dX).apply mem = mem.set b (some x) := by simp [dX.apply, aN]
theorem l9 (mem : aW) : ∀ (a b : List (Nat × c7)), aN mem (a ++ b) = aN (aN mem a) b
 | [], b => rfl
 | (i, x) :: a, b => by simp only [yx2, aN]; exact l9 (mem.set i (some x)) a b
theorem JG {mem : aW} {v : AV} {rd ids : List Nat} {b : Nat} {x : c7} : ({ v, rd, wr := bS mem ids ++ [(b, x)] } : dX).apply mem = (aN mem (bS mem ids)).set b (some x) := by
 simp [dX.apply, l9, aN]
theorem nP {G : Gh} {w : World} {mem : aW} (hM : aQ G w mem) {t : TypeId} {v : AV} {r : Bool × PV × List Nat} {cv : Value} (h : oZ P mem t v = some r) (hv : VR G w v cv) :
  r.2.1.cells.length = v.cells.length ∧ ∀ (j : Nat) (y : PV), r.2.1.cells[j]? = some y → ∃ u, cv.cells.toList[j]? = some u ∧ PR w ((G.frz (bA G mem r.2.2)).prot r.1) y u ∧ u.oneCell' = true := by
 unfold oZ at h
 rw [bind_some] at h; obtain ⟨ls, hls, h⟩ := h
 rw [bind_some] at h; obtain ⟨q, hq, h⟩ := h
 obtain ⟨p, J, rfl⟩ := yd.1 h
 obtain ⟨zl, zl2, zz⟩ := o7 hq
 have hc := hv.cells
 have V : ∀ (j : Nat) (y : PV), q.2.1[j]? = some y → ∃ u, cv.cells.toList[j]? = some u ∧ PR w ((G.frz (bA G mem q.2.2)).prot q.1) y u ∧ u.oneCell' = true ∧ y.cells = [y] := by
  intro j y W
  have Y : j < v.cells.length := by rw [← zl]; exact (yf.1 W).1
  obtain ⟨lk, q3, _, Z, h4, h5, h6⟩ := zz j (v.cells[j]) (ye Y)
  rw [W] at h4
  obtain rfl := ya h4
  have U : j < cv.cells.toList.length := by rw [← hc.1]; exact Y
  have N := hc.2 j _ (ye Y)
  rw [yl, ye U] at N
  obtain ⟨t1, t2, t3⟩ := nX hM Z N
  refine ⟨_, ye U, t1.mono (fun B' o' z => ?_) (fun _ _ _ => rfl), t2, t3⟩
  rcases z with z | z
  ·left
   cases hb : q.1 with
   | false => rw [h6 hb] at z; exact z
   | true =>
    cases K : q3.1 with
    | false => rw [K] at z; exact hM.lab _ _ z
    | true => rw [K] at z; exact z
  ·exact .inr (z.mono h5)
 have H : p.cells = q.2.1 := by
  unfold BR at J
  split at J
  ·obtain rfl := ya J; rfl
  ·split at J
   ·rename_i c O
    obtain rfl := ya J
    obtain ⟨u, _, _, _, h⟩ := V 0 c (by rw [O]; rfl)
    rw [O]; exact h
   ·simp at J
  ·simp at J
 simp only
 rw [H]
 exact ⟨zl, fun j y W => by obtain ⟨u, h1, h2, Z, _⟩ := V j y W; exact ⟨u, h1, h2, Z⟩⟩
theorem bC.ofLRs {G : Gh} {w : World} {e : Nat} {cs : List AV} {vs : List Value} (h : iK G w cs vs) (K : jG cs = true) (J : cs.length = a6 e cs.length * e) : bC G w (.avs e cs) vs := by
 refine ⟨by rw [← h.1]; exact J, h.ones K, by rw [yg2]; exact J, fun j y z => ?_⟩
 have H : j < vs.length := by rw [← h.1]; exact (yf.1 z).1
 have := h.2 j y z
 rw [yl, ye H] at this
 exact ⟨_, ye H, this⟩
theorem CE {G : Gh} {w : World} {mem : aW} {b : Nat} {row : Row} {vs : List Value} {rest : Array Value} {t : TypeId} (K : aQ G w mem) (V : mem[b]? = some none) (W : 1 ≤ row.e)
  (Z : bC G w row.all vs) : ∃ H, H = G.put b 0 ⟨some w.heap.size, row.e, row.len⟩ ∧ dA G H ∧ Ev G w (w.alloc (.cells (vs.toArray ++ rest) t)) ∧
   aQ H (w.alloc (.cells (vs.toArray ++ rest) t)) (mem.set b (some { gen := 0, frz := false, row })) ∧ H.loc b 0 = some ⟨some w.heap.size, row.e, row.len⟩ := by
 have J : G.loc b 0 = none := K.unset b 0 (fun x N => by rw [V] at N; cases N)
 have U : dA G (G.put b 0 ⟨some w.heap.size, row.e, row.len⟩) := dA.put (.inl J)
 have z := Ev.alloc G w (.cells (vs.toArray ++ rest) t) K.away
 refine ⟨_, rfl, U, z, K.make V W (nF.ofList (Z.mono U z) (fun j u O => ?_)), Gh.put_self ..⟩
 rw [j2]
 have Y := (yf.1 O).1
 rw [yl2 (by simpa using Y)]
 simpa using O
theorem Ca (t : TypeId) (c : Array Value) (w : World) : (newRow t c).run P w = .ok ⟨w.heap.size, 0, none⟩ (w.alloc (.cells c t)) := by
 simp [newRow]
theorem IM {G : Gh} {w : World} {mem : aW} {b n : Nat} {v : AV} {cv : Value} {t : TypeId} (U : aQ G w mem) (Y : mem[b]? = some none) (W : VR G w v cv) (hn : v.cells.length = n) (h1 : 1 ≤ n) (N : jG v.cells = true) :
  ∃ J, dA G J ∧ Ev G w (w.alloc (.cells cv.cells t)) ∧ aQ J (w.alloc (.cells cv.cells t)) (mem.set b (some { gen := 0, frz := false, row := .cells 1 v.cells })) ∧
   VR J (w.alloc (.cells cv.cells t)) (.ptr b 0 0 0) (.pointer (some ⟨w.heap.size, 0, none⟩)) := by
 have O : v.cells.length = a6 1 v.cells.length * 1 := by simp [a6, Nat.beq]
 obtain ⟨J, rfl, V, z, H, K⟩ := CE (row := .cells 1 v.cells) (vs := cv.cells.toList) (rest := #[]) (t := t) U Y (yu 1) (bC.ofLRs W.cells N O)
 simp only [yo2, Array.append_empty] at z H
 refine ⟨_, V, z, H, ?_⟩
 have := VR.ptr (G := G.put b 0 ⟨some w.heap.size, (Row.cells 1 v.cells).e, (Row.cells 1 v.cells).len⟩) (w := w.alloc (.cells cv.cells t)) b 0 0 0 _ w.heap.size K rfl
 simpa using this
theorem If {G : Gh} {w : World} {mem : aW} {o : Oper} {a : Act} {t : TypeId} {rs : Nat} {z : AV} (Y : aQ G w mem) (V : o.op = .alloc t) (K : mem[rs]? = some none) (hz : zero? P t = some z)
  (W : 1 ≤ z.cells.length) (H : jG z.cells = true) :
  k5 P G w mem o a { v := .ptr rs 0 0 0, wr := [(rs, { gen := 0, frz := false, row := .cells 1 z.cells })] } := by
 obtain ⟨zv, O, U, _⟩ := Gk hz G w
 obtain ⟨Z, hg, J, N, hv⟩ := IM (t := t) Y K U rfl W H
 refine ⟨Z, _, _, _, ?_, .inl rfl, hv, hg, J, by rw [iP]; exact N⟩
 simp [execOp, V, Instr.alloc, O, newVar, Ca]
theorem Le {G : Gh} {w : World} {mem : aW} {o : Oper} {a : Act} {t : TypeId} {x : Operand} {rs n : Nat} {v : AV} (W : aQ G w mem) (U : o.op = .box t x) (J : mem[rs]? = some none) (hv : VR G w v (a.eval x))
  (O : v.cells.length = n) (V : 1 ≤ n) (z : jG v.cells = true) :
  k5 P G w mem o a { v := .ptr rs 0 0 0, wr := [(rs, { gen := 0, frz := false, row := .cells 1 v.cells })] } := by
 obtain ⟨Y, Z, H, N, K⟩ := IM (t := t) W J hv O V z
 refine ⟨Y, _, _, _, ?_, .inl rfl, K, Z, H, by rw [iP]; exact N⟩
 simp [execOp, U, Instr.box, newVar, Ca]
theorem Fp {t : TypeId} {n B o : Nat} {cv : Value} {w : World} (J : j0 P t = some n) (z : cv.cells.size = n) (N : ∀ j, j < n → (cl w B (o + j)).isSome = true) (O : ∀ j, j < n → w.frozen? ⟨B, o + j, none⟩ = false)
  (K : ∀ u ∈ cv.cells.toList, u.oneCell' = true) : (storeVar t ⟨B, o, none⟩ cv).run P w = .ok () (w.setCells B o cv.cells.toList) := by
 have H := run_storeCells_cells (P := P) B o cv.cells.toList 0 w (by simpa [z] using N) (by simpa [z] using O) K
 rw [yf2] at H
 simp only [storeVar, Sem.run_bind, c8 J, Result.andThen_ok, Sem.run_ite, z, ne_eq, not_true_eq_false, if_false, Sem.run_pure, H]
theorem i5 : ∀ {xs vs : List Value} {o j : Nat}, o + xs.length ≤ vs.length → (a7 vs o xs)[j]? = if o ≤ j ∧ j < o + xs.length then xs[j - o]? else vs[j]?
 | [], vs, o, j, h => by simp [a7]; omega
 | x :: xs, vs, o, j, h => by
  simp only [a7]
  simp only [yw] at h
  rw [i5 (xs := xs) (by simp; omega)]
  by_cases z : o + 1 ≤ j ∧ j < o + 1 + xs.length
  ·rw [if_pos z, if_pos (by simp; omega), show j - o = (j - (o + 1)) + 1 by omega, ys1]
  ·rw [if_neg z]
   by_cases H : j = o
   ·subst H
    rw [if_pos (by simp), ye1 (by omega)]; simp
   ·rw [yd1 (by omega), if_neg (by simp; omega)]
theorem yY {G : Gh} {w : World} {mem : aW} {b : Nat} {x : c7} {B : Nat} {row' : Row} {vs : List Value} {o : Nat} {xs : List Value} (Y : aQ G w mem) (V : mem[b]? = some (some x)) (U : G.loc b x.gen = some ⟨some B, x.row.e, x.row.len⟩)
  (hfrz : x.frz = false) (hvs : ∀ j, j < vs.length → cl w B j = vs[j]?) (ho : o + xs.length ≤ vs.length) (he : row'.e = x.row.e) (hlen : row'.len = x.row.len)
  (hv : bC G w row'.all (a7 vs o xs)) :
  Ev G w (w.setCells B o xs) ∧ aQ G (w.setCells B o xs) (mem.set b (some { x with row := row' })) := by
 have hb := Y.box b x V
 obtain ⟨oo, Z, hm⟩ := hb.loc
 rw [U] at Z
 obtain rfl : some B = oo := by simpa using Z
 obtain ⟨h1, h2, h3, h4, h5⟩ := hm
 have z : ∀ j, j < xs.length → (cl w B (o + j)).isSome = true := by
  intro j hj; rw [hvs _ (by omega), ye (by omega)]; rfl
 have J := Ev.setCells (G := G) (vs := xs) h1 z (h5 hfrz)
 have hbl : b < mem.length := (yf.1 V).1
 refine ⟨J, ?_⟩
 have H : G.put b x.gen ⟨some B, x.row.e, x.row.len⟩ = G := by
  unfold Gh.put
  congr 1
  funext b' g'
  split
  ·rename_i hh; obtain ⟨rfl, rfl⟩ := hh; exact U.symm
  ·rfl
 have := Y.upd (x' := { x with row := row' }) (L := ⟨some B, x.row.e, x.row.len⟩) J hbl (.inr U) ?_ ?_ ?_ ?_
 ·rw [H] at this; exact this
 ·intro b' y Lb B' K hy O hk
  refine c5 (w := w) (fun hB => ?_) xs o w
  subst hB
  exact K (Y.apart b' b y x Lb _ B' hy V O U hk rfl)
 ·intro B' W b' y Lb K hy O hk
  simp only [Option.some.injEq] at W; subst W
  exact K (Y.apart b' b y x Lb _ B hy V O U hk rfl)
 ·exact fun g hg => Y.gens b x g V hg
 ·rw [H]
  refine ⟨by show 1 ≤ row'.e; rw [he]; exact hb.e, some B, by show G.loc b x.gen = some ⟨some B, row'.e, row'.len⟩; rw [he, hlen]; exact U, h1, by rw [jB]; exact h2, h3.setCells, ?_, h5⟩
  ·refine nF.ofList (hv.mono (dA.refl G) J) (fun j u N => ?_)
   rw [i5 ho] at N
   by_cases hh : o ≤ j ∧ j < o + xs.length
   ·rw [if_pos hh] at N
    obtain ⟨k, rfl⟩ : ∃ k, j = o + k := ⟨j - o, by omega⟩
    rw [kH z (by omega)]
    rw [ye3, ye (by omega)] at N; exact N
   ·rw [if_neg hh] at N
    rw [jV (by omega), hvs _ (yf.1 N).1]; exact N
end
end Go.Ab
end
section
namespace Go.Ab
variable [b8]
theorem m8 {b : Nat} : ∀ {l : List Nat}, f7 b l = true ↔ b ∈ l
 | [] => by simp [f7]
 | m :: r => by simp only [f7, yx1, cN, yf1, m8 (l := r)]; constructor <;> rintro (h | h) <;> first | exact .inl h.symm | exact .inr h
theorem Bg : ∀ {xs vs : List PV} {o j : Nat}, o + xs.length ≤ vs.length → (mC vs o xs)[j]? = if o ≤ j ∧ j < o + xs.length then xs[j - o]? else vs[j]?
 | [], vs, o, j, h => by simp [mC]; omega
 | x :: xs, vs, o, j, h => by
  simp only [mC]
  simp only [yw] at h
  rw [Bg (xs := xs) (by simp; omega)]
  by_cases z : o + 1 ≤ j ∧ j < o + 1 + xs.length
  ·rw [if_pos z, if_pos (by simp; omega), show j - o = (j - (o + 1)) + 1 by omega, ys1]
  ·rw [if_neg z]
   by_cases H : j = o
   ·subst H
    rw [if_pos (by simp), ye1 (by omega)]; simp
   ·rw [yd1 (by omega), if_neg (by simp; omega)]
section
variable {P : Program}
theorem Fg {G : Gh} {w : World} {mem : aW} {t : TypeId} {a x : AV} {out : dX} {ca cx : Value} (hM : aQ G w mem) (h : iT P t mem a x = some out) (ha : VR G w a ca) (hx : VR G w x cx) :
  out.v = .lit undef ∧ ∃ G' w', (Instr.storeAt t ca cx).run P w = .ok () w' ∧ dA G G' ∧ Ev G w w' ∧ aQ G' w' (out.apply mem) := by
 unfold iT at h
 split at h
 ·rename_i b g i c
  rw [bind_some] at h; obtain ⟨bx, hbx, h⟩ := h
  rw [bind_some] at h; obtain ⟨n, hn, h⟩ := h
  rw [aA] at h; obtain ⟨hg, h⟩ := h
  simp only [yc, yz] at hg
  obtain ⟨W, N⟩ := hg
  have N := cN.1 N
  obtain ⟨hm, hgen⟩ := box?_some hbx
  obtain ⟨B, rfl, hl, hmine, hB, hfz, hrow, hpr⟩ := hM.at_ptr hbx ha
  have he := (hM.box b bx hm).e
  obtain ⟨vs, hvs, hcl⟩ := hrow.toList he
  have hxc := hx.cells
  have hsz : cx.cells.size = n := by rw [← N]; simpa using hxc.1.symm
  have hrun : ∀ o, o + n ≤ vs.length → (∀ u ∈ cx.cells.toList, u.oneCell' = true) → (Instr.storeAt t (.pointer (some ⟨B, o, none⟩)) cx).run P w = .ok () (w.setCells B o cx.cells.toList) := by
   intro o ho h1
   have hsome : ∀ j, j < n → (cl w B (o + j)).isSome = true := fun j O => by rw [hcl _ (by omega), ye (by omega)]; rfl
   have := Fp (P := P) hn hsz hsome (fun j O => hfz.cell (hsome j O)) h1
   simp [Instr.storeAt, Instr.sureAddr, this]
  obtain ⟨gen, frz, row⟩ := bx
  simp only at W hgen hl hvs hcl he; subst hgen
  split at h
  ·rename_i e cs U
   simp only at U; subst U
   rw [aA] at h; obtain ⟨hc, h⟩ := h
   simp only [yc] at hc
   have hle := d5.1 hc.1
   obtain rfl := ya h
   refine ⟨rfl, ?_⟩
   obtain ⟨V, hv1, hcnt, hvv⟩ := hvs
   have hcl2 : vs.length = cs.length := by rw [V]; show a6 e cs.length * e = cs.length; rw [yg2]; exact hcnt.symm
   have hL : iK G w cs vs := ⟨hcl2.symm, fun j y K => by obtain ⟨u, Z, hp⟩ := hvv j y K; rw [yl, Z]; exact hp⟩
   have H := hxc.ones hc.2
   have hnew := hL.setCells (i := i * e + c) hxc
   have J : bC G w (.avs e (setCells cs (i * e + c) x.cells)) (a7 vs (i * e + c) cx.cells.toList) := by
    have hsl : (setCells cs (i * e + c) x.cells).length = cs.length := jX (as := cs)
    refine ⟨?_, fun u Z => ?_, by rw [hsl]; exact hcnt, fun j y K => ?_⟩
    ·show _ = a6 e (setCells cs (i * e + c) x.cells).length * e
     rw [fQ, hsl, hcl2, yg2]; exact hcnt
    ·obtain ⟨j, O, rfl⟩ := yw1 Z
     have hg := i5 (xs := cx.cells.toList) (vs := vs) (o := i * e + c) (j := j) (by simp [hsz]; omega)
     rw [ye O] at hg
     split at hg
     ·exact H _ (yt hg.symm)
     ·exact hv1 _ (yt hg.symm)
    ·have O : j < (a7 vs (i * e + c) cx.cells.toList).length := by rw [← hnew.1]; exact (yf.1 K).1
     have := hnew.2 j y K
     rw [yl, ye O] at this
     exact ⟨_, ye O, this⟩
   have hsl : (setCells cs (i * e + c) x.cells).length = cs.length := jX (as := cs)
   obtain ⟨hev, hM'⟩ := yY (row' := .cells e (setCells cs (i * e + c) x.cells)) (o := i * e + c) (xs := cx.cells.toList) hM hm hl W hcl (by simp [hsz]; omega) rfl (by simp only [Row.len]; rw [hsl]) J
   exact ⟨G, _, hrun _ (by show i * e + c + n ≤ _; omega) H, dA.refl G, hev, by rw [iP]; exact hM'⟩
  ·rename_i k xs U
   simp only at U; subst U
   split at h
   ·rename_i k' z _
    rw [aA] at h; obtain ⟨hc, h⟩ := h
    simp only [yc] at hc
    obtain ⟨⟨hk, hc0⟩, hi⟩ := hc
    rw [i9] at hk; subst hk
    obtain rfl := cN.1 hc0
    have hi := d5.1 hi
    obtain rfl := ya h
    refine ⟨rfl, ?_⟩
    obtain rfl := hx.lit_inv
    obtain ⟨V, hv1, hvv⟩ := hvs
    simp only [Row.all, aM.len, aM.e, yy2] at V
    have hcells : (Value.int k z).cells.toList = [Value.int k z] := rfl
    have J : bC G w (.ints k (xs.set i z)) (a7 vs i [Value.int k z]) := by
     refine ⟨by simp [aM.len, aM.e, fQ, V], fun u Z => ?_, fun j y K => ?_⟩
     ·simp only [a7] at Z
      rcases yr2 Z with h | h
      ·exact hv1 u h
      ·rw [h]; rfl
     ·simp only [a7]
      by_cases e : j = i
      ·subst e
       rw [ye1 (by omega)] at K ⊢
       simp at K; rw [K]
      ·rw [yd1 (fun x => e x.symm)] at K ⊢
       exact hvv j y K
    have hn1 : n = 1 := by rw [← N]; rfl
    subst hn1
    obtain ⟨hev, hM'⟩ := yY (row' := .ints k (xs.set i z)) (o := i) (xs := [Value.int k z]) hM hm hl W hcl (by simp; omega) rfl (by simp [Row.len]) J
    refine ⟨G, _, ?_, dA.refl G, hev, by rw [iP]; exact hM'⟩
    have := hrun i (by omega) (by simp [hcells, Value.oneCell'])
    rw [hcells] at this
    have e0 : i * (Row.ints k xs).e + 0 = i := by simp [Row.e]
    rw [e0]; exact this
   ·simp at h
  ·rename_i β e xs U
   simp only at U; subst U
   rw [bind_some] at h; obtain ⟨p, hp, h⟩ := h
   rw [bind_some] at h; obtain ⟨q, hq, h⟩ := h
   rw [aA] at h; obtain ⟨hc, h⟩ := h
   simp only [yc, yz] at hc
   obtain ⟨⟨hce, hpl⟩, hnb⟩ := hc
   have hce := d5.1 hce
   have hpl := cN.1 hpl
   have hnb : b ∉ q.2.2 := fun hh => by rw [m8.2 hh] at hnb; cases hnb
   obtain rfl := ya h
   refine ⟨rfl, ?_⟩
   obtain ⟨ql, qq⟩ := nP hM hq hx
   have hM1 := hM.freeze q.2.2
   have hg1 := dA.frz G (bA G mem q.2.2) hM.inBoxes
   have hm1 : (aN mem (bS mem q.2.2))[b]? = some (some ⟨gen, frz, .pvs β e xs⟩) := by
    rw [(dI mem q.2.2 mem b rfl).2.1 (.inl hnb)]; exact hm
   have hvs1 : bC (G.frz (bA G mem q.2.2)) w (.pvs β e xs) vs := hvs.mono hg1 (Ev.refl G w)
   obtain ⟨V, hv1, hxl, hvv⟩ := hvs1
   simp only [aM.len, aM.e] at V
   simp only [Row.e] at he
   have hi := (yf.1 hp).1
   have hpos : i * e + c + n ≤ vs.length := by
    rw [V]
    calc i * e + c + n ≤ i * e + e := by omega
     _ = (i + 1) * e := by rw [yn1]; simp
     _ ≤ xs.length * e := yo1 _ hi
   have H : ∀ u ∈ cx.cells.toList, u.oneCell' = true := by
    intro u Z
    obtain ⟨j, O, rfl⟩ := yw1 Z
    have hj2 : j < q.2.1.cells.length := by rw [ql, hxc.1]; exact O
    obtain ⟨u', hu', _, h1⟩ := qq j _ (ye hj2)
    rw [ye O] at hu'
    obtain rfl := ya hu'; exact h1
   generalize hp' : (bif n.beq e && c.beq 0 then q.2.1 else PV.agg (mC p.cells c q.2.1.cells)) = p'
   have hp'c : ∀ (j : Nat), p'.cells[j]? = if c ≤ j ∧ j < c + n then q.2.1.cells[j - c]? else p.cells[j]? := by
    intro j
    have hqn : q.2.1.cells.length = n := by rw [ql, N]
    cases Y : (n.beq e && c.beq 0) with
    | true =>
     rw [Y] at hp'; simp only [yg] at hp'; subst hp'
     simp only [yc] at Y
     obtain rfl := cN.1 Y.1
     obtain rfl := cN.1 Y.2
     by_cases O : j < n
     ·rw [if_pos (by omega)]; simp
     ·rw [if_neg (by omega), yy (by omega), yy (by omega)]
    | false =>
     rw [Y] at hp'; simp only [yh] at hp'; subst hp'
     show (mC p.cells c q.2.1.cells)[j]? = _
     rw [Bg (by omega), hqn]
   have hp'l : p'.cells.length = e := by
    have h1 : p'.cells[e]? = none := by rw [hp'c, if_neg (by omega), yy (by omega)]
    have h2 : ∃ y, p'.cells[e - 1]? = some y := by
     rw [hp'c]
     split
     ·rename_i hh; exact ⟨_, ye (by rw [ql, N]; omega)⟩
     ·exact ⟨_, ye (by omega)⟩
    obtain ⟨y, K⟩ := h2
    have := (yf.1 K).1
    have := List.getElem?_eq_none_iff.1 h1
    omega
   have J : bC (G.frz (bA G mem q.2.2)) w (.pvs (β || q.1) e (xs.set i p')) (a7 vs (i * e + c) cx.cells.toList) := by
    have hg := fun j => i5 (xs := cx.cells.toList) (vs := vs) (o := i * e + c) (j := j) (by simp [hsz]; omega)
    have hlab1 := hM1.lab
    refine ⟨by simp [aM.len, aM.e, fQ, V], fun u Z => ?_, fun x hx => ?_, fun i' x c' y hx K => ?_⟩
    ·obtain ⟨j, O, rfl⟩ := yw1 Z
     have hg := hg j
     rw [ye O] at hg
     split at hg
     ·exact H _ (yt hg.symm)
     ·exact hv1 _ (yt hg.symm)
    ·rcases yr2 hx with h | h
     ·exact hxl x h
     ·rw [h]; exact hp'l
    ·have hc'e : c' < e := by
      have h0 := (yf.1 K).1
      have : x.cells.length = e := by
       rcases yr2 (yt hx) with h | h
       ·exact hxl x h
       ·rw [h]; exact hp'l
      omega
     rw [hg]
     simp only [yv1, hsz]
     by_cases hii : i' = i
     ·subst hii
      rw [ye1 hi] at hx
      obtain rfl := ya hx
      rw [hp'c] at K
      by_cases Y : c ≤ c' ∧ c' < c + n
      ·rw [if_pos Y] at K
       rw [if_pos (by omega), show i' * e + c' - (i' * e + c) = c' - c by omega]
       obtain ⟨u, Z, hpu, _⟩ := qq _ y K
       exact ⟨u, Z, hpu.weak' hlab1⟩
      ·rw [if_neg Y] at K
       rw [if_neg (by omega)]
       obtain ⟨u, Z, hpu⟩ := hvv i' p c' y hp K
       exact ⟨u, Z, hpu.weak hlab1⟩
     ·rw [yd1 (fun x => hii x.symm)] at hx
      obtain ⟨u, Z, hpu⟩ := hvv i' x c' y hx K
      refine ⟨u, ?_, hpu.weak hlab1⟩
      rw [if_neg ?_]
      ·exact Z
      ·rintro ⟨h1, h2⟩
       rcases Nat.lt_or_gt_of_ne hii with hlt | hlt
       ·have : i' * e + e ≤ i * e := by
         calc i' * e + e = (i' + 1) * e := by rw [yn1]; simp
          _ ≤ i * e := yo1 _ hlt
        omega
       ·have : i * e + e ≤ i' * e := by
         calc i * e + e = (i + 1) * e := by rw [yn1]; simp
          _ ≤ i' * e := yo1 _ hlt
        omega
   obtain ⟨hev, hM'⟩ := yY (row' := .pvs (β || q.1) e (xs.set i p')) (o := i * e + c) (xs := cx.cells.toList) hM1 hm1 hl W hcl (by simp [hsz]; omega) rfl (by simp [Row.len]) J
   refine ⟨_, _, hrun _ (by show i * e + c + n ≤ _; omega) H, hg1, ?_, by rw [JG]; exact hM'⟩
   have hjj : ∀ j, j < cx.cells.toList.length → i * e + c + j < vs.length := fun j O => by simp [hsz] at O; omega
   exact Ev.setCells hmine (fun j O => by show (cl w B (i * e + c + j)).isSome = true; rw [hcl _ (hjj j O), ye (hjj j O)]; rfl) (hpr W)
 ·simp at h
end
end Go.Ab
end
section
namespace Go.Ab
variable [b8]
section
variable {P : Program}
structure Bb (P : Program) (t et : TypeId) (s : Nat) (i : TypeInfo) (z : Value) : Prop where
 under : P.underlying t = some (.slice et)
 info : P.info? et = some i
 size : i.size = s
 zero : i.zero = some z
 zsize : z.cells.size = s
 bytes : i.bytes ≤ 4096
 one : 1 ≤ s
theorem vC {n bytes : Nat} (H : n ≤ cJ) (z : bytes ≤ 4096) : n * bytes ≤ 140737488355328 := by
 have : n * bytes ≤ n * 4096 := Nat.mul_le_mul_left n z
 unfold cJ at H
 omega
theorem GO {G : Gh} {w U : World} {mem : aW} {b g' : Nat} {row' : Row} {B' : Nat} {vs : List Value} (hM : aQ G w mem) (hb : b < mem.length) (V : Ev G w U) (J : ∀ g, g' ≤ g → G.loc b g = none)
  (he : 1 ≤ row'.e) (N : G.mine B') (hB : B' < U.heap.size) (hfz : iH U B') (hpr : ∀ β o, ¬ G.prot β B' o)
  (z : ∀ (H : Nat) (y : c7) (O : rO) (B : Nat), H ≠ b → mem[H]? = some (some y) → G.loc H y.gen = some O → O.blk = some B → U.heap[B]? = w.heap[B]? ∧ B ≠ B')
  (hv : bC G w row'.all vs) (hcl : ∀ j u, vs[j]? = some u → cl U B' j = some u) :
  ∃ G', dA G G' ∧ G'.loc b g' = some ⟨some B', row'.e, row'.len⟩ ∧ aQ G' U (mem.set b (some { gen := g', frz := false, row := row' })) := by
 have Y : dA G (G.put b g' ⟨some B', row'.e, row'.len⟩) := dA.put (.inl (J g' (yu _)))
 refine ⟨_, Y, Gh.put_self .., hM.upd (x' := { gen := g', frz := false, row := row' }) V hb (.inl (J g' (yu _))) (fun H y O B K hy Z hk => (z H y O B K hy Z hk).1) ?_ (fun g Y => J g (Nat.le_of_lt Y)) ?_⟩
 ·intro B W H y O K hy Z hk
  simp only [Option.some.injEq] at W; subst W
  exact (z H y O B' K hy Z hk).2 rfl
 ·exact ⟨he, some B', Gh.put_self .., N, hB, hfz, nF.ofList (hv.mono Y V) hcl, fun _ => hpr⟩
theorem D5 {G : Gh} {w : World} {mem : aW} {b g' : Nat} {row' : Row} (U : aQ G w mem) (Y : b < mem.length) (z : ∀ g, g' ≤ g → G.loc b g = none)
  (N : 1 ≤ row'.e) (W : row'.len = 0) (O : row'.isCells = false) :
  ∃ J, dA G J ∧ J.loc b g' = some ⟨none, row'.e, row'.len⟩ ∧ aQ J w (mem.set b (some { gen := g', frz := false, row := row' })) := by
 have K : dA G (G.put b g' ⟨none, row'.e, row'.len⟩) := dA.put (.inl (z g' (yu _)))
 refine ⟨_, K, Gh.put_self .., U.upd (x' := { gen := g', frz := false, row := row' }) (Ev.refl G w) Y (.inl (z g' (yu _))) (fun b' y Lb B V hy hl hk => rfl) ?_ (fun g K => z g (Nat.le_of_lt K)) ?_⟩
 ·intro B H; cases H
 ·exact ⟨N, none, Gh.put_self .., W, O⟩
theorem mY (w : World) (c : Array Value) (t : TypeId) : (∀ B, B < w.heap.size → (w.drew.alloc (.cells c t)).heap[B]? = w.heap[B]?) ∧ (w.drew.alloc (.cells c t)).heap.size = w.heap.size + 1 ∧
  (∀ j, cl (w.drew.alloc (.cells c t)) w.heap.size j = c[j]?) ∧ iH (w.drew.alloc (.cells c t)) w.heap.size := by
 refine ⟨fun B z => ?_, by simp, fun j => ?_, ?_⟩
 ·have := eL (w := w.drew) (o := .cells c t) (B := B) (by simpa using z)
  rw [this]; rfl
 ·have := j2 (w := w.drew) (c := c) (t := t) (fr := (0, 0)) (j := j)
  simpa using this
 ·exact iH.alloc (w := w.drew)
theorem Ev.drew_alloc (G : Gh) (w : World) (o : Obj) (z : ∀ β B x, G.prot β B x → B < w.heap.size) (H : ∃ c t, o = .cells c t := by exact ⟨_, _, rfl⟩) : Ev G w (w.drew.alloc o) :=
 (Ev.drew G w).trans (dA.refl G) (Ev.alloc G w.drew o z H)
theorem GZ {G : Gh} {w : World} {mem : aW} {b g' : Nat} {row' : Row} {t N ty tx : TypeId} {s : Nat} {i : TypeInfo} {z : Value} {base : Option Addr} {len cap n : Nat} {olds H : List Value} {y : Value}
    (hM : aQ G w mem) (hb : b < mem.length) (hno : ∀ g, g' ≤ g → G.loc b g = none) (W : Bb P t N s i z)
    (hold : (Builtin.firstCells i.size len (.slice base len cap)).run P w.drew = .ok olds.toArray w.drew) (hol : olds.length = len * s) (hs : Src P s tx y n H w)
    (J : cap < len + n) (K : len + n ≤ cJ) (he : row'.e = s) (V : row'.len = len + n) (hv : bC G w row'.all (olds ++ H)) :
    ∃ Y w1 cv, (Builtin.append_ #[t, tx] ty #[.slice base len cap, y]).run P w = .ok cv w1 ∧ VR Y w1 (.msw b g') cv ∧ dA G Y ∧ Ev G w w1 ∧ aQ Y w1 (mem.set b (some { gen := g', frz := false, row := row' })) := by
  have hfit := growslice_fits (bytes := i.bytes) J (vC K W.bytes)
  have O := run_append_grow_src (P := P) w t tx ty N i z W.under W.info W.zero base len cap olds hold y n H (by rw [W.size]; exact hs) J (by unfold cJ at K; omega) hfit
  generalize hc : (olds ++ H).toArray ++ Builtin.zeroCells z.cells (grownCap w (len + n) cap N - (len + n)) = c at O
  obtain ⟨f1, f2, f3, f4⟩ := mY w c N
  have Z := Ev.drew_alloc G w (.cells c N) hM.away
  have U : len + n ≤ grownCap w (len + n) cap N := grownCap_ge w _ _ _
  have hcl : ∀ j u, (olds ++ H)[j]? = some u → cl (w.drew.alloc (.cells c N)) w.heap.size j = some u := by
    intro j u hu
    rw [f3, ← hc, yl2 (by simpa using (yf.1 hu).1)]
    simpa using hu
  obtain ⟨Y, hg, hl, hM'⟩ := GO (row' := row') (B' := w.heap.size) (vs := olds ++ H) hM hb Z hno (by rw [he]; exact W.one) (hM.own _ (yu _)) (by rw [f2]; omega) f4
    (fun β o hp => absurd (hM.away β _ o hp) (Nat.lt_irrefl _)) (fun b' y' Lb B hne hy hl hk => by
      obtain ⟨o, hl', hm⟩ := (hM.box b' y' hy).loc
      rw [hl] at hl'
      obtain rfl := ya hl'
      simp only at hk; subst hk
      exact ⟨f1 B hm.2.1, Nat.ne_of_lt hm.2.1⟩) hv hcl
  refine ⟨Y, _, _, O, ?_, hg, Z, hM'⟩
  generalize grownCap w (len + n) cap N = C at hc U ⊢
  have hk : VR Y (w.drew.alloc (.cells c N)) (.msw b g') (.slice (some ⟨w.heap.size, 0, none⟩) row'.len C) := by
   refine .msw b g' _ _ w.heap.size hl rfl (by simp only; rw [V]; exact U) (fun j hj => ?_)
   simp only [he] at hj
   rw [f3, ← hc]
   have hn := hs.newsLen
   rw [yi1 (by
    simp only [Array.size_append, List.size_toArray, yj, size_zeroCells, hol, hn, W.zsize]
    rw [← yn1, ← yn1]
    exact yr1 hj (yo1 _ (by omega)))]
   rfl
  rw [V] at hk; exact hk
theorem Cx {G : Gh} {w : World} {mem : aW} {b : Nat} {x : c7} {xv yv zv : aM} {B cap : Nat} {K H : List Value} {t et ty tx : TypeId} {s : Nat} {i : TypeInfo} {z : Value} {y : Value}
  (hM : aQ G w mem) (hx : mem[b]? = some (some x)) (hl : G.loc b x.gen = some ⟨some B, x.row.e, x.row.len⟩) (hfrz : x.frz = false) (V : Bb P t et s i z) (hse : s = x.row.e)
  (O : xv.e = s) (hx0 : bC G w xv K) (hcl0 : ∀ j u, K[j]? = some u → cl w B j = some u) (hcap : xv.len ≤ cap) (hfit : BH w B (cap * s))
  (hs : Src P s tx y yv.len H w) (hnews : bC G w yv H) (happ : xv.app P et yv = some zv) (hmost : zv.len ≤ cJ) :
  ∃ G' w1 cv, (Builtin.append_ #[t, tx] ty #[.slice (some ⟨B, 0, none⟩) xv.len cap, y]).run P w = .ok cv w1 ∧ VR G' w1 (.msw b (x.gen + 1)) cv ∧ dA G G' ∧ Ev G w w1 ∧
   aQ G' w1 (mem.set b (some { gen := x.gen + 1, frz := false, row := zv.row })) := by
 have hbl : b < mem.length := (yf.1 hx).1
 have hno : ∀ g, x.gen + 1 ≤ g → G.loc b g = none := fun g hg => hM.gens b x g hx hg
 obtain ⟨hz, hze, hze2, Y⟩ := Dl hM.lab happ hx0 hnews
 have U : K.length = xv.len * s := by rw [hx0.1, O]
 have hnl := hs.newsLen
 by_cases N : xv.len + yv.len ≤ cap
 ·obtain ⟨oo, hl', hm⟩ := (hM.box b x hx).loc
  rw [hl] at hl'
  obtain rfl : some B = oo := by simpa using hl'
  obtain ⟨h1, h2, h3, h4, h5⟩ := hm
  have J : ∀ j, j < H.length → (cl w B (xv.len * s + j)).isSome = true := by
   intro j Z
   refine hfit _ ?_
   rw [hnl] at Z
   calc xv.len * s + j < xv.len * s + yv.len * s := by omega
    _ = (xv.len + yv.len) * s := by rw [yn1]
    _ ≤ cap * s := yo1 _ N
  have hrun := run_append_room_src (P := P) w t tx ty et i V.under V.info B 0 xv.len cap y yv.len H (by rw [V.size]; exact hs) N
   (fun j Z => by rw [V.size, yh1]; exact J j Z) (fun j Z => by rw [V.size, yh1]; exact h3.cell (J j Z))
  rw [V.size, yh1] at hrun
  have hev := Ev.setCells (G := G) (vs := H) h1 J (h5 hfrz)
  have hcl : ∀ j u, (K ++ H)[j]? = some u → cl (w.setCells B (xv.len * s) H) B j = some u := by
   intro j u W
   by_cases Z : j < K.length
   ·rw [yo Z] at W
    rw [jV (by rw [← U]; exact .inl Z)]; exact hcl0 j u W
   ·rw [yq (by omega)] at W
    obtain ⟨k, rfl⟩ : ∃ k, j = xv.len * s + k := ⟨j - K.length, by omega⟩
    rw [U, ye3] at W
    have hk := (yf.1 W).1
    rw [kH J hk]
    rw [ye hk] at W; exact W
  obtain ⟨G', hg, hl2, hM'⟩ := GO (row' := zv.row) (B' := B) (vs := K ++ H) hM hbl hev hno (by rw [gL, hze, O]; exact V.one) h1 (by rw [jB]; exact h2)
   h3.setCells
   (h5 hfrz) (fun b' y' Lb B2 hne hy hl3 hk => by
    have hneB : B2 ≠ B := fun hB => by subst hB; exact hne (hM.apart b' b y' x Lb _ B2 hy hx hl3 hl hk rfl)
    exact ⟨c5 (w := w) hneB H _ w, hneB⟩)
   (by rw [g7]; exact hz) hcl
  refine ⟨G', _, _, hrun, ?_, hg, hev, hM'⟩
  have hk : VR G' (w.setCells B (xv.len * s) H) (.msw b (x.gen + 1)) (.slice (some ⟨B, 0, none⟩) zv.row.len cap) := by
   refine .msw b (x.gen + 1) cap _ B hl2 rfl (by simp only; rw [d9, Y]; exact N) ?_
   simp only [gL, hze, O]
   exact hfit.mono hev
  rw [d9, Y] at hk; exact hk
 ·refine GZ (row' := zv.row) (olds := K) (s := s) hM hbl hno V ?_ U hs (by omega) (by rw [← Y]; exact hmost) (by rw [gL, hze, O]) (by rw [d9, Y]) (by rw [g7]; exact hz)
  rw [V.size]
  exact run_firstCells_some w.drew s xv.len ⟨B, 0, none⟩ xv.len cap K U (fun j u W => by rw [cT, yh1]; exact hcl0 j u W)
theorem zZ {G : Gh} {w : World} {mem : aW} {b g' : Nat} {row' : Row} {n : Nat} {H : List Value} {t et ty Y : TypeId} {s : Nat} {i : TypeInfo} {z : Value} {y : Value}
  (hM : aQ G w mem) (hb : b < mem.length) (N : ∀ g, g' ≤ g → G.loc b g = none) (O : Bb P t et s i z) (W : Src P s Y y n H w) (hn : n ≤ cJ) (he : row'.e = s) (J : row'.len = n) (hv : bC G w row'.all H)
  (hc : n = 0 → row'.isCells = false) :
  ∃ U V cv, (Builtin.append_ #[t, Y] ty #[.slice none 0 0, y]).run P w = .ok cv V ∧ VR U V (.msw b g') cv ∧ dA G U ∧ Ev G w V ∧
   aQ U V (mem.set b (some { gen := g', frz := false, row := row' })) := by
 by_cases h0 : n = 0
 ·subst h0
  have K : H = [] := yp (by rw [W.newsLen]; simp)
  subst K
  obtain ⟨U, hg, hl, Z⟩ := D5 (row' := row') hM hb N (by rw [he]; exact O.one) J (hc rfl)
  exact ⟨U, w, _, run_append_nothing (P := P) w t Y ty et i O.under O.info none 0 0 (yu _) y (by rw [O.size]; exact W), .mswNil b g' _ hl rfl J, hg, Ev.refl G w, Z⟩
 ·exact GZ (row' := row') (olds := []) (base := none) (len := 0) (cap := 0) hM hb N O (run_firstCells_none w.drew i.size 0 0 0) (by simp) W (by omega) (by omega) he (by omega) (by simpa using hv)
end
end Go.Ab
end
section
namespace Go.Ab
variable [b8]
theorem aQ.protect {G : Gh} {w : World} {mem : aW} (z : aQ G w mem) (S : Nat → Nat → Prop) (J : ∀ B o, S B o → B < w.heap.size ∧ G.mine B ∧ ∀ (b : Nat) (x : c7) (e n : Nat), mem[b]? = some (some x) → x.frz = false → G.loc b x.gen ≠ some ⟨some B, e, n⟩) :
  aQ (G.frz S) w mem := by
 refine ⟨fun b x h => ?_, z.unset, z.gens, z.apart, z.own, fun B o h => h.imp (z.lab B o) id, fun β B o h => h.elim (z.away β B o) (fun h => (J B o h).1), z.glob.mono (fun _ _ h => .inl h) fun _ _ _ => rfl⟩
 have O := z.box b x h
 obtain ⟨o, K, U⟩ := O.loc
 refine ⟨O.e, o, K, ?_⟩
 cases o with
 | none => exact U
 | some B =>
  obtain ⟨W, Z, h3, V, Y⟩ := U
  refine ⟨W, Z, h3, V.mono (dA.frz G S fun B o h => (J B o h).2.1) (Ev.refl G w) (fun _ _ => rfl), fun N β o H => ?_⟩
  rcases H with H | H
  ·exact Y N β o H
  ·exact (J B o H).2.2 b x _ _ h N K
theorem aQ.new_tree {G : Gh} {w J : World} {mem : aW} (K : aQ G w mem) (z : Ev G w J) (N : ∀ B, B < w.heap.size → J.heap[B]? = w.heap[B]?) (V : J.heap.size = w.heap.size + 1) :
  aQ (G.frz fun B _ => B = w.heap.size) J mem := by
 refine (K.ev z (.inr z.size) N).protect _ fun B o h => ?_
 subst h
 refine ⟨by omega, K.own _ (yu _), fun b x e n U _ O => ?_⟩
 obtain ⟨o, H, W⟩ := (K.box b x U).loc
 rw [O] at H
 have := congrArg rO.blk (ya H)
 simp only at this; subst this
 exact Nat.lt_irrefl _ W.2.1
theorem Ac {G : Gh} {w : World} {v : aM} {a : AV} {vs : List Value} {B cap : Nat} (V : bC G w v vs) (O : v.imm? = some a) (Y : 1 ≤ v.e) (N : ∀ j u, vs[j]? = some u → cl w B j = some u)
  (W : ∀ β o, G.prot β B o) (H : v.len ≤ cap) : VR G w a (.slice (some ⟨B, 0, none⟩) v.len cap) := by
 cases v with
 | ints k xs =>
  obtain rfl := ya O
  obtain ⟨_, _, h⟩ := V
  exact .imm _ _ _ (.ints k xs B 0 cap H fun i x z => by rw [yh1]; exact ⟨N _ _ (h i x z), W _ _⟩) rfl
 | pvs β e xs =>
  obtain rfl := ya O
  obtain ⟨_, Z, h2, h⟩ := V
  have K : ∀ (i : Nat) (x : PV) (c : Nat) (y : PV), xs[i]? = some x → x.cells[c]? = some y → vs[i * e + c]? = some (vs.getD (i * e + c) undef) ∧ PR w (G.prot β) y (vs.getD (i * e + c) undef) := by
   intro i x c y z J
   obtain ⟨u, hu, U⟩ := h i x c y z J
   rw [yl, hu]; exact ⟨rfl, U⟩
  exact .imm _ _ _ (.sl e xs B 0 cap (fun i c => vs.getD (i * e + c) undef) Y H h2 (fun i x c y z J => by rw [yh1]; exact ⟨N _ _ (K i x c y z J).1, W _ _⟩)
   (fun i x c y z J => Z _ (yt (K i x c y z J).1)) (fun i x c y z J => (K i x c y z J).2)) rfl
 | avs e cs => simp [aM.imm?] at O
theorem F8 {G : Gh} {w : World} {v : aM} {a : AV} (z : v.imm? = some a) (H : v.len = 0) : VR G w a (.slice none 0 0) := by
 cases v with
 | ints k xs =>
  obtain rfl := ya z
  obtain rfl := yp H
  exact .imm _ _ _ (.intsNil k _) rfl
 | pvs β e xs =>
  obtain rfl := ya z
  obtain rfl := yp H
  exact .imm _ _ _ (.slNil e _) rfl
 | avs e cs => simp [aM.imm?] at z
section
variable {P : Program}
theorem I1 {t H : TypeId} {s bytes : Nat} {z : AV} (J : elemOf? P t = some H) (V : j0 P H = some s) (W : kU P H = some bytes) (Y : zero? P H = some z) (h5 : bytes ≤ 4096) (h6 : 1 ≤ s) (h7 : z.cells.length = s) :
  ∃ i U, Bb P t H s i U := by
 obtain ⟨i, U, N, hz, O⟩ := mU Y
 have Z : P.underlying t = some (.slice H) := by
  unfold elemOf? at J
  split at J
  ·obtain rfl := ya J; assumption
  ·simp at J
 have K := (mV (G := ⟨fun _ _ => none, fun _ _ _ => False, fun _ => False⟩) (w := default) O).cells
 refine ⟨i, U, Z, N, ?_, hz, ?_, ?_, h6⟩
 ·unfold j0 at V; rw [N] at V; simpa using V
 ·rw [← h7, K.1]; simp
 ·unfold kU at W; rw [N] at W; simp at W; omega
theorem C1 {G : Gh} {w : World} {vars : Bool} {W : TypeId} {v : aM} {row : Row} {vs : List Value} (h : nD P vars W v = some row) (J : bC G w v vs) (O : 1 ≤ v.e) :
  row.e = v.e ∧ row.len = v.len ∧ bC G w row.all vs ∧ (v.len = 0 → row.isCells = false) := by
 unfold nD at h
 cases vars with
 | true =>
  simp only [yg] at h
  rw [aA] at h; obtain ⟨K, h⟩ := h
  have K := d5.1 K
  rw [bind_some] at h; obtain ⟨cs, H, h⟩ := h
  rw [aA] at h; obtain ⟨V, h⟩ := h
  obtain rfl := ya h
  have N := z6 H J
  have U : cs.length = v.len * v.e := by rw [N.1, J.1]
  refine ⟨rfl, ?_, bC.ofLRs N V ?_, fun h0 => by omega⟩
  ·show a6 v.e cs.length = v.len
   rw [U, e6 (n := 0) O]
  ·rw [U, e6 (n := 0) O]
 | false =>
  simp only [yh] at h
  split at h
  ·simp at h
  ·rename_i z
   obtain rfl := ya h
   refine ⟨gL _, d9 _, by rw [g7]; exact J, fun _ => ?_⟩
   cases v with
   | avs e cs => exact absurd rfl (z e cs)
   | ints k xs => rfl
   | pvs β e xs => rfl
theorem GN {J : TypeId} {x y z : aM} (h : x.app P J y = some z) (H : x.row.isCells = false) : z.row.isCells = false := by
 unfold aM.app at h
 split at h
 ·rw [aA] at h; obtain ⟨_, h⟩ := h; obtain rfl := ya h; rfl
 ·rw [aA] at h; obtain ⟨_, h⟩ := h; obtain rfl := ya h; rfl
 ·simp [aM.row, Row.isCells] at H
 ·simp at h
theorem Gl {r : Row} {o n : Nat} {v : aM} (h : r.sub o n = some v) (z : r.isCells = false) : v.row.isCells = false := by
 cases r with
 | ints k xs => simp only [Row.sub] at h; rw [aA] at h; obtain ⟨_, h⟩ := h; obtain rfl := ya h; rfl
 | pvs β e xs => simp only [Row.sub] at h; rw [aA] at h; obtain ⟨_, h⟩ := h; obtain rfl := ya h; rfl
 | cells e cs => simp [Row.isCells] at z
theorem GT {r : Row} (z : r.isCells = false) : r.all.row.isCells = false := by rw [Ho]; exact z
theorem o5 {G : Gh} {w : World} {mem : aW} {b : Nat} {x : c7} {xv U zv : aM} {J : List Value} {t et ty tx : TypeId} {s : Nat} {i : TypeInfo} {z : Value} {y : Value}
  (W : aQ G w mem) (hx : mem[b]? = some (some x)) (hE : Bb P t et s i z) (O : xv.e = s) (hx0 : xv.len = 0) (hxc : xv.row.isCells = false) (hvx : bC G w xv [])
  (hs : Src P s tx y U.len J w) (K : bC G w U J) (H : xv.app P et U = some zv) (V : zv.len ≤ cJ) :
  ∃ Y N cv, (Builtin.append_ #[t, tx] ty #[.slice none 0 0, y]).run P w = .ok cv N ∧ VR Y N (.msw b (x.gen + 1)) cv ∧ dA G Y ∧ Ev G w N ∧
   aQ Y N (mem.set b (some { gen := x.gen + 1, frz := false, row := zv.row })) := by
 obtain ⟨hz, Z, _, hzl⟩ := Dl W.lab H hvx K
 exact zZ W (yf.1 hx).1 (fun g hg => W.gens b x g hx hg) hE hs (by omega) (by rw [gL, Z, O]) (by rw [d9]; omega) (by rw [g7]; simpa using hz) (fun _ => GN H hxc)
theorem bC.nilOf {G : Gh} {w : World} {v : aM} (z : v.len = 0) (H : v.row.isCells = false) : bC G w v [] := by
 cases v with
 | ints k xs =>
  obtain rfl := yp z
  exact ⟨rfl, by simp, by simp⟩
 | pvs β e xs =>
  obtain rfl := yp z
  exact ⟨by simp [aM.len], by simp, by simp⟩
 | avs e cs => simp [aM.row, Row.isCells] at H
theorem Lx {r : Row} {o n : Nat} {v : aM} (H : 1 ≤ r.e) (h : r.sub o n = some v) : v.len = n := by
 cases r with
 | ints k xs =>
  simp only [Row.sub] at h; rw [aA] at h; obtain ⟨z, h⟩ := h; obtain rfl := ya h
  have := d5.1 z
  simp [aM.len]; omega
 | pvs β e xs =>
  simp only [Row.sub] at h; rw [aA] at h; obtain ⟨z, h⟩ := h; obtain rfl := ya h
  have := d5.1 z
  simp [aM.len]; omega
 | cells e cs =>
  simp only [Row.sub] at h; rw [aA] at h; obtain ⟨z, h⟩ := h; obtain rfl := ya h
  have z := d5.1 z
  rw [yn1] at z
  have : ((cs.drop (o * e)).take (n * e)).length = n * e := by simp; omega
  simp only [aM.len]
  rw [this]
  exact e6 (n := 0) H n
theorem CZ {G : Gh} {w : World} {mem : aW} {boxed vars : Bool} {t tx ty : TypeId} {rs : Nat} {x y : AV} {out : dX} {cx cy : Value} (U : aQ G w mem) (hrs : mem[rs]? = some none)
  (h : i7 P boxed vars t tx mem rs x y = some out) (hx : VR G w x cx) (hy : VR G w y cy) :
  ∃ G' w1 cv, (Builtin.append_ #[t, tx] ty #[cx, cy]).run P w = .ok cv w1 ∧ VR G' w1 out.v cv ∧ dA G G' ∧ Ev G w w1 ∧ aQ G' w1 (out.apply mem) := by
 unfold i7 at h
 rw [bind_some] at h; obtain ⟨et, het, h⟩ := h
 rw [bind_some] at h; obtain ⟨s, hs, h⟩ := h
 rw [bind_some] at h; obtain ⟨bytes, hby, h⟩ := h
 rw [bind_some] at h; obtain ⟨z, hz, h⟩ := h
 rw [bind_some] at h; obtain ⟨yv, hyv, h⟩ := h
 rw [aA] at h; obtain ⟨hg, h⟩ := h
 simp only [yc] at hg
 obtain ⟨⟨⟨⟨g1, g2⟩, g3⟩, g4⟩, g5⟩ := hg
 have g1 := cN.1 g1; have g3 := d5.1 g3; have g4 := d5.1 g4; have g5 := cN.1 g5
 obtain ⟨i, zv0, Y⟩ := I1 het hs hby hz g3 g4 g5
 obtain ⟨V, H, J⟩ := Bo U hyv hy (by rw [← g1]; exact hs) g2
 rw [← g1] at H
 split at h
 ·obtain rfl := hx.lit_inv
  rw [aA] at h; obtain ⟨hml, h⟩ := h
  have hml := d5.1 hml
  have hno : ∀ g, 0 ≤ g → G.loc rs g = none := fun g _ => U.unset rs g (fun x hx => by rw [hrs] at hx; cases hx)
  have hrl := (yf.1 hrs).1
  cases boxed with
  | true =>
   simp only [yg] at h
   obtain ⟨row, hrow, rfl⟩ := yd.1 h
   obtain ⟨r1, r2, r3, r4⟩ := C1 hrow J (by omega)
   rw [iP]
   exact zZ U hrl hno Y H hml (by rw [r1, g1]) r2 r3 r4
  | false =>
   simp only [yh] at h
   obtain ⟨v, hv, rfl⟩ := yd.1 h
   rw [Bw]
   by_cases h0 : yv.1.len = 0
   ·rw [h0] at H
    have hnn : V = [] := yp (by rw [H.newsLen]; simp)
    subst hnn
    exact ⟨G, w, _, run_append_nothing (P := P) w t tx ty et i Y.under Y.info none 0 0 (yu _) cy (by rw [Y.size]; exact H), F8 hv h0, dA.refl G, Ev.refl G w, U⟩
   ·have hrun := run_append_grow_src (P := P) w t tx ty et i zv0 Y.under Y.info Y.zero none 0 0 [] (run_firstCells_none w.drew i.size 0 0 0) cy yv.1.len V (by rw [Y.size]; exact H) (by omega)
     (by unfold cJ at hml; omega) (growslice_fits (bytes := i.bytes) (by omega) (vC (by omega) Y.bytes))
    generalize hc : ([] ++ V).toArray ++ Builtin.zeroCells zv0.cells (grownCap w (0 + yv.1.len) 0 et - (0 + yv.1.len)) = c at hrun
    obtain ⟨f1, f2, f3, f4⟩ := mY w c et
    have hev := Ev.drew_alloc G w (.cells c et) U.away
    have hM' := U.new_tree hev f1 f2
    have hg := dA.frz G (fun B _ => B = w.heap.size) (fun B _ h => by subst h; exact U.own _ (yu _))
    refine ⟨_, _, _, hrun, ?_, hg, hev, hM'⟩
    have hcap : 0 + yv.1.len ≤ grownCap w (0 + yv.1.len) 0 et := grownCap_ge w _ _ _
    generalize grownCap w (0 + yv.1.len) 0 et = C at hc hcap ⊢
    rw [yh1] at hcap ⊢
    refine Ac (vs := V) (J.mono hg hev) hv (by omega) (fun j u Z => ?_) (fun β o => .inr rfl) hcap
    rw [f3, ← hc, yl2 (by simpa using (yf.1 Z).1)]
    simpa using Z
 ·rename_i b g
  rw [bind_some] at h; obtain ⟨bx, hbx, h⟩ := h
  rw [bind_some] at h; obtain ⟨zv, hzv, h⟩ := h
  rw [aA] at h; obtain ⟨hc, h⟩ := h
  simp only [yc, yz] at hc
  obtain ⟨⟨c1, W⟩, c3⟩ := hc
  have W := cN.1 W; have c3 := d5.1 c3
  obtain rfl := ya h
  rw [iP]
  obtain ⟨hm, rfl⟩ := box?_some hbx
  have he := (U.box b bx hm).e
  cases hx with
  | msw _ _ cap L B hl hb hn hf =>
   obtain ⟨o, N, O⟩ := (U.box b bx hm).loc
   have K := hl
   rw [N] at K
   obtain rfl := ya K
   simp only at hb; subst hb
   obtain ⟨h1, h2, h3, h4, h5⟩ := O
   obtain ⟨vs, hvs, hcl'⟩ := h4.toList he
   have hcl : ∀ j u, vs[j]? = some u → cl w B j = some u := fun j u Z => by rw [hcl' j (yf.1 Z).1]; exact Z
   have := Cx (P := P) (ty := ty) (xv := bx.row.all) (cap := cap) U hm N c1 Y W (by rw [nA, W]) hvs hcl (by rw [cP]; exact hn) (by rw [W]; exact hf) H J hzv c3
   rw [cP] at this
   exact this
  | mswNil _ _ L hl hb hn =>
   obtain ⟨o, N, O⟩ := (U.box b bx hm).loc
   have K := hl
   rw [N] at K
   obtain rfl := ya K
   simp only at hb; subst hb
   have hc0 := GT O.2
   have hl0 : bx.row.all.len = 0 := by rw [cP]; exact O.1
   exact o5 U hm Y (by rw [nA, W]) hl0 hc0 (bC.nilOf hl0 hc0) H J hzv c3
 ·rename_i b g n
  rw [bind_some] at h; obtain ⟨bx, hbx, h⟩ := h
  rw [bind_some] at h; obtain ⟨xv, hxv, h⟩ := h
  rw [bind_some] at h; obtain ⟨zv, hzv, h⟩ := h
  rw [aA] at h; obtain ⟨hc, h⟩ := h
  simp only [yc, yz] at hc
  obtain ⟨⟨c1, W⟩, c3⟩ := hc
  have W := cN.1 W; have c3 := d5.1 c3
  obtain rfl := ya h
  rw [iP]
  obtain ⟨hm, rfl⟩ := box?_some hbx
  have he := (U.box b bx hm).e
  have hxl := Lx he hxv
  have hxe := Kx hxv
  cases hx with
  | ms _ _ _ _ cap L B hl hb hn hon hf =>
   obtain ⟨o, N, O⟩ := (U.box b bx hm).loc
   have K := hl
   rw [N] at K
   obtain rfl := ya K
   simp only at hb; subst hb
   obtain ⟨h1, h2, h3, h4, h5⟩ := O
   obtain ⟨vs, hvs, hcl'⟩ := h4.toList he
   have hcl : ∀ j u, vs[j]? = some u → cl w B j = some u := fun j u Z => by rw [hcl' j (yf.1 Z).1]; exact Z
   have hsub := qI he hxv hvs
   simp only [yh1] at hf
   have hw0 : bC G w xv (vs.take (n * bx.row.e)) := by simpa using hsub.1
   have := Cx (P := P) (ty := ty) (cap := cap) U hm N c1 Y W (by rw [hxe, W]) hw0
    (fun j u Z => by
     refine hcl j u ?_
     have hj := (yf.1 Z).1
     rw [ym2] at hj
     rw [yh2, if_pos (by omega)] at Z; exact Z) (by rw [hxl]; exact hn) (by rw [W]; exact hf) H J hzv c3
   rw [hxl] at this
   simp only [Nat.zero_mul]
   exact this
  | msNil _ _ L hl hb =>
   obtain ⟨o, N, O⟩ := (U.box b bx hm).loc
   have K := hl
   rw [N] at K
   obtain rfl := ya K
   simp only at hb; subst hb
   have hc0 := Gl hxv O.2
   exact o5 U hm Y (by rw [hxe, W]) hxl hc0 (bC.nilOf hxl hc0) H J hzv c3
  | msZ _ _ _ B oo L hl hb ho hon => omega
 ·simp at h
end
end Go.Ab
end
section
namespace Go.Ab
variable [b8]
def flat (us : List Value) : List Value := us.flatMap fun u => u.cells.toList
theorem fJ (u : Value) (us : List Value) : flat (u :: us) = u.cells.toList ++ flat us := by simp [flat]
theorem jO {e : Nat} : ∀ {us : List Value}, (∀ u ∈ us, u.cells.size = e) → (flat us).length = us.length * e
 | [], _ => by simp [flat]
 | u :: us, h => by
  rw [fJ, yj, jO (fun x z => h x (yi _ z)), yv1, h u (ym ..), yw, yn1]
  omega
theorem wP {e : Nat} : ∀ {us : List Value} {i c : Nat} {u : Value}, (∀ u ∈ us, u.cells.size = e) → us[i]? = some u → c < e → (flat us)[i * e + c]? = u.cells.toList[c]?
 | [], i, c, u, h, z, H => by simp at z
 | v :: us, 0, c, u, h, z, H => by
  simp at z; subst z
  rw [fJ, Nat.zero_mul, yh1, yo (by rw [yv1, h v (ym ..)]; exact H)]
 | v :: us, i + 1, c, u, h, z, H => by
  have J := h v (ym ..)
  rw [fJ, yq (by rw [yv1, J, yn1]; omega), yv1, J, show (i + 1) * e + c - e = i * e + c by rw [yn1]; omega]
  exact wP (fun x K => h x (yi _ K)) (by simpa using z) H
theorem pP {us : List Value} {x : Value} (h : x ∈ flat us) : ∃ u ∈ us, x ∈ u.cells.toList := yp2.1 h
theorem o3 : ∀ {xs a b : List Value} {k : Nat}, a7 (a ++ b) (a.length + k) xs = a ++ a7 b k xs
 | [], a, b, k => rfl
 | x :: xs, a, b, k => by
  simp only [a7]
  rw [List.set_append_right _ _ (by omega), ye3, yb3]
  exact o3
theorem qD : ∀ {xs a b : List Value} {p : List Value}, xs.length = a.length → a7 (p ++ (a ++ b)) p.length xs = p ++ (xs ++ b)
 | [], a, b, p, h => by
  have := yp h.symm
  subst this; simp [a7]
 | x :: xs, [], b, p, h => by simp at h
 | x :: xs, y :: a, b, p, h => by
  simp only [a7]
  rw [List.set_append_right _ _ (by omega), Nat.sub_self]
  simp only [yx2, List.set_cons_zero]
  have := qD (xs := xs) (a := a) (b := b) (p := p ++ [x]) (by simpa using h)
  simpa using this
theorem Gv {e : Nat} : ∀ {us : List Value} {i : Nat} {v : Value}, (∀ u ∈ us, u.cells.size = e) → v.cells.size = e → i < us.length → a7 (flat us) (i * e) v.cells.toList = flat (us.set i v)
 | [], i, v, h, z, H => by simp at H
 | u :: us, 0, v, h, z, H => by
  have := qD (xs := v.cells.toList) (a := u.cells.toList) (b := flat us) (p := []) (by simp [z, h u (ym ..)])
  rw [List.set_cons_zero, fJ, fJ, Nat.zero_mul]; exact this
 | u :: us, i + 1, v, h, z, H => by
  have J := h u (ym ..)
  rw [List.set_cons_succ, fJ, fJ, show (i + 1) * e = u.cells.toList.length + i * e by rw [yv1, J, yn1]; omega, o3,
   Gv (fun x K => h x (yi _ K)) z (by simpa using H)]
def qQ (us : List Value) : List (Nat × Value) → List Value
 | [] => us
 | (i, v) :: r => qQ (us.set i v) r
theorem rY {e : Nat} : ∀ {qs : List (Nat × Value)} {us : List Value}, (∀ u ∈ us, u.cells.size = e) → (∀ q ∈ qs, q.2.cells.size = e) → ∀ u ∈ qQ us qs, u.cells.size = e
 | [], us, h, _ => h
 | (i, v) :: r, us, h, J => by
  refine rY (qs := r) (us := us.set i v) (fun u K => ?_) (fun q z => J q (yi _ z))
  rcases yr2 K with H | H
  ·exact h u H
  ·rw [H]; exact J (i, v) (ym ..)
theorem D0 {s : Nat} : ∀ {qs : List (Nat × Value)} {us : List Value} {c : Array Value}, c.toList = flat us → (∀ u ∈ us, u.cells.size = s) → (∀ q ∈ qs, q.2.cells.size = s ∧ q.1 < us.length) →
  ∃ W, Instr.fill (fun i => some (i * s, s)) c qs = some W ∧ W.toList = flat (qQ us qs)
 | [], us, c, H, _, _ => ⟨c, rfl, H⟩
 | (i, v) :: r, us, c, H, O, K => by
  obtain ⟨J, N⟩ := K (i, v) (ym ..)
  simp only at J N
  have z : (v.cells.zipIdx.foldl (fun cs (c, j) => cs.setIfInBounds (i * s + j) c) c).toList = a7 c.toList (i * s) v.cells.toList := by
   have := yP v.cells.toList (i * s) 0 c
   rw [yf2] at this
   rw [← this, ← Array.foldl_toList]
   simp
  have U : c.size = us.length * s := by rw [← jO O, ← H]; simp
  have Y : i * s + v.cells.size ≤ c.size := by
   rw [U, J]
   calc i * s + s = (i + 1) * s := by rw [yn1]; omega
    _ ≤ us.length * s := yo1 _ N
  simp only [Instr.fill]
  rw [if_neg (by simp only [yx1, decide_eq_true_eq]; omega)]
  refine D0 (us := us.set i v) (by rw [z, H, Gv O J N]) (fun u h => ?_) (fun q h => ⟨(K q (yi _ h)).1, by simpa using (K q (yi _ h)).2⟩)
  rcases yr2 h with V | V
  ·exact O u V
  ·rw [V]; exact J
theorem lJ (z : Array Value) (K : 1 ≤ z.size) : ∀ n, ((Array.range (n * z.size)).map (z[· % z.size]!)).toList = (List.replicate n z.toList).flatten
 | 0 => by simp
 | n + 1 => by
  have J := lJ z K n
  simp only [Array.toList_map, Array.toList_range] at J ⊢
  rw [yn1, Nat.one_mul, List.range_add, List.map_append, J, List.replicate_succ', List.flatten_append]
  congr 1
  simp only [List.flatten_cons, List.flatten_nil, yp1, List.map_map]
  apply List.ext_getElem
  ·simp
  ·intro j H h2
   simp at H
   have : (n * z.size + j) % z.size = j := by
    rw [Nat.add_comm, Nat.add_mul_mod_self_right]; exact yf3 H
   simp [this, H]
theorem gZ (n : Nat) (z : Value) : flat (List.replicate n z) = (List.replicate n z.cells.toList).flatten := by
 induction n with
 | zero => rfl
 | succ n H => rw [List.replicate_succ, fJ, H, List.replicate_succ, List.flatten_cons]
theorem Mo {G : Gh} (z : ∀ B o, G.prot false B o → G.prot true B o) {β β' : Bool} (h : β' = false → β = false) {w : World} {p : PV} {v : Value} (J : PR w (G.prot β) p v) : PR w (G.prot β') p v := by
 refine J.mono (fun B o H => ?_) (fun _ _ _ => rfl)
 cases β' with
 | false => rw [h rfl] at H; exact H
 | true => cases β with
  | true => exact H
  | false => exact z _ _ H
section
variable {P : Program}
theorem Ba {G : Gh} {w : World} {mem : aW} {boxed : Bool} {rs : Nat} {v : aM} {vs : List Value} {out : dX} {t : TypeId} (N : aQ G w mem) (U : mem[rs]? = some none) (h : oT boxed rs v = some out)
  (W : bC G w v vs) (Y : 1 ≤ v.e) :
  ∃ O, dA G O ∧ Ev G w (w.alloc (.cells vs.toArray t)) ∧ aQ O (w.alloc (.cells vs.toArray t)) (aN mem out.wr) ∧ VR O (w.alloc (.cells vs.toArray t)) out.v (.slice (some ⟨w.heap.size, 0, none⟩) v.len v.len) ∧ out.push = [] := by
 have K : ∀ j u, vs[j]? = some u → cl (w.alloc (.cells vs.toArray t)) w.heap.size j = some u := fun j u hu => by
  rw [j2]; simpa using hu
 unfold oT at h
 cases boxed with
 | true =>
  simp only [yg] at h
  obtain rfl := ya h
  obtain ⟨O, rfl, hg, z, H, hl⟩ := CE (row := v.row) (vs := vs) (rest := #[]) (t := t) N U (by rw [gL]; exact Y) (by rw [g7]; exact W)
  rw [Array.append_empty] at z H
  refine ⟨_, hg, z, H, ?_, rfl⟩
  have Z : VR (G.put rs 0 ⟨some w.heap.size, v.row.e, v.row.len⟩) (w.alloc (.cells vs.toArray t)) (.msw rs 0) (.slice (some ⟨w.heap.size, 0, none⟩) v.row.len v.len) := by
   refine .msw rs 0 v.len _ w.heap.size hl rfl (by simp only [d9]; exact yu _) (fun j hj => ?_)
   simp only [gL] at hj
   have V : j < vs.length := by rw [W.1]; exact hj
   rw [K j _ (ye V)]; rfl
  rw [d9] at Z ⊢; exact Z
 | false =>
  simp only [yh] at h
  obtain ⟨a, ha, rfl⟩ := yd.1 h
  have z := Ev.alloc G w (.cells vs.toArray t) N.away
  have H := N.new_tree z (fun B hB => eL hB) (by simp)
  have J := dA.frz G (fun B _ => B = w.heap.size) (fun B _ h => by subst h; exact N.own _ (yu _))
  refine ⟨_, J, z, H, ?_, rfl⟩
  exact Ac (vs := vs) (W.mono J z) ha Y K (fun β o => .inr rfl) (yu _)
theorem vQ {G : Gh} {w : World} : ∀ {vs : List AV} {us : List Value}, iK G w vs us → iK G w (f0 vs) (flat us)
 | [], us, h => by
  have := yp h.1.symm
  subst this; exact ⟨rfl, fun j y z => by simp [f0] at z⟩
 | v :: vs, [], h => by simp [iK] at h
 | v :: vs, u :: us, h => by
  rw [f0, fJ]
  refine iK.append (h.2 0 v rfl).cells (vQ ⟨by simpa using h.1, fun j y z => by simpa using h.2 (j + 1) y (by simpa using z)⟩)
theorem iK.get {G : Gh} {w : World} {as : List AV} {vs : List Value} (h : iK G w as vs) {j : Nat} {a : AV} (z : as[j]? = some a) : ∃ u, vs[j]? = some u ∧ VR G w a u := by
 have H : j < vs.length := by rw [← h.1]; exact (yf.1 z).1
 have := h.2 j a z
 rw [yl, ye H] at this
 exact ⟨_, ye H, this⟩
theorem sZ {k : IntKind} : ∀ {vs : List AV} {xs : List Int}, d4 k vs = some xs → xs.length = vs.length ∧ ∀ (j : Nat) (x : Int), xs[j]? = some x → vs[j]? = some (.lit (.int k x))
 | [], xs, h => by simp [d4] at h; subst h; exact ⟨rfl, fun j x z => by simp at z⟩
 | v :: vs, xs, h => by
  unfold d4 at h
  split at h
  ·simp_all
  ·rename_i N x r K
   obtain ⟨rfl, rfl⟩ := yx K
   cases H : f6 k N with
   | false => rw [H] at h; simp at h
   | true =>
    rw [H] at h; simp only [yg] at h
    obtain ⟨ys, J, rfl⟩ := yd.1 h
    rw [i9] at H; subst H
    obtain ⟨O, U⟩ := sZ J
    refine ⟨by simp [O], fun j x z => ?_⟩
    cases j with
    | zero => simp at z; subst z; rfl
    | succ j => simpa using U j x (by simpa using z)
  ·simp at h
theorem FF {G : Gh} {w : World} {mem : aW} {vars : Bool} {t : TypeId} {vs : List AV} {us : List Value} {r : aM × List Nat} {s : Nat} (hM : aQ G w mem) (h : k7 P vars mem t vs = some r) (hL : iK G w vs us)
  (Y : ∀ u ∈ us, u.cells.size = s) (hs : 1 ≤ s) (K : r.1.e = s) : bC (G.frz (bA G mem r.2)) w r.1 (flat us) ∧ r.1.len = vs.length := by
 have Z := jO Y
 unfold k7 at h
 split at h
 ·rename_i k hk
  obtain ⟨xs, hxs, rfl⟩ := yd.1 h
  obtain ⟨N, hh⟩ := sZ hxs
  simp only [aM.e] at K; subst K
  have U : ∀ (i : Nat) (x : Int), xs[i]? = some x → (flat us)[i]? = some (.int k x) := by
   intro i x H
   obtain ⟨u, J, z⟩ := hL.get (hh i x H)
   obtain rfl := z.lit_inv
   have := wP Y J (c := 0) (by omega)
   rw [yy2, yf2] at this
   exact this
  refine ⟨⟨by simp only [aM.len, aM.e]; rw [Z, N, hL.1], fun u J => ?_, U⟩, by simpa [aM.len] using N⟩
  obtain ⟨j, hj, rfl⟩ := yw1 J
  have hj2 : j < xs.length := by rw [N, hL.1]; omega
  have := U j _ (ye hj2)
  rw [ye hj] at this
  rw [ya this]; rfl
 ·rw [bind_some] at h; obtain ⟨e, he, h⟩ := h
  cases vars with
  | true =>
   simp only [yg] at h
   rw [aA] at h; obtain ⟨hg, h⟩ := h
   simp only [yc] at hg
   obtain rfl := ya h
   simp only [aM.e] at K; subst K
   have hcs := vQ hL
   have N : (f0 vs).length = vs.length * e := by rw [hcs.1, Z, hL.1]
   have hcb : a6 e (f0 vs).length = vs.length := by rw [N, e6 (n := 0) hs]
   exact ⟨(bC.ofLRs hcs hg.2 (by rw [hcb]; exact N)).mono (dA.frz G _ hM.inBoxes) (Ev.refl G w), hcb⟩
  | false =>
   simp only [yh] at h
   obtain ⟨q, hq, rfl⟩ := yd.1 h
   simp only [aM.e] at K; subst K
   obtain ⟨N, hh⟩ := oB hq
   have hlab : ∀ B o, (G.frz (bA G mem q.2.2)).prot false B o → (G.frz (bA G mem q.2.2)).prot true B o := fun B o h => h.imp (hM.lab B o) id
   have U : ∀ (i : Nat) (x : PV), q.2.1[i]? = some x → ∃ v u q1, vs[i]? = some v ∧ us[i]? = some u ∧ VR G w v u ∧ oZ P mem t v = some q1 ∧ q1.2.1 = x ∧ (∀ b ∈ q1.2.2, b ∈ q.2.2) ∧ (q.1 = false → q1.1 = false) := by
    intro i x H
    have hi : i < vs.length := by rw [← N]; exact (yf.1 H).1
    obtain ⟨q1, h1, h2, h3, h4⟩ := hh i _ (ye hi)
    obtain ⟨u, J, z⟩ := hL.get (ye hi)
    rw [H] at h2
    exact ⟨_, u, q1, ye hi, J, z, h1, (ya h2).symm, h3, h4⟩
   have hsz : ∀ (i : Nat) (x : PV), q.2.1[i]? = some x → x.cells.length = e := by
    intro i x H
    obtain ⟨v, u, q1, hv, J, z, h1, rfl, h3, h4⟩ := U i x H
    obtain ⟨ql, _⟩ := nP hM h1 z
    rw [ql, z.cells.1, yv1]; exact Y u (yt J)
   have V : ∀ (i : Nat) (x : PV) (c : Nat) (y : PV), q.2.1[i]? = some x → x.cells[c]? = some y → ∃ u, (flat us)[i * e + c]? = some u ∧ PR w ((G.frz (bA G mem q.2.2)).prot q.1) y u ∧ u.oneCell' = true := by
    intro i x c y H hy
    have hce : c < e := by rw [← hsz i x H]; exact (yf.1 hy).1
    obtain ⟨v, u, q1, hv, J, z, h1, rfl, h3, h4⟩ := U i x H
    obtain ⟨ql, qq⟩ := nP hM h1 z
    obtain ⟨u', W, hpr, O⟩ := qq c y hy
    refine ⟨u', by rw [wP Y J hce]; exact W, Mo hlab h4 (hpr.mono (fun B o hb => hb.imp id (fun hi => hi.mono h3)) (fun _ _ _ => rfl)), O⟩
   refine ⟨⟨by simp only [aM.len, aM.e]; rw [Z, N, hL.1], fun u J => ?_, fun x H => ?_, fun i x c y H hy => ?_⟩, by simpa [aM.len] using N⟩
   ·obtain ⟨j, hj, rfl⟩ := yw1 J
    have hj' := hj
    rw [Z] at hj'
    have hi : j / e < us.length := Nat.div_lt_of_lt_mul (by rw [yg2]; exact hj')
    have hc : j % e < e := Nat.mod_lt _ hs
    have hi2 : j / e < q.2.1.length := by rw [N, hL.1]; exact hi
    have H := ye hi2
    have hy : j % e < (q.2.1[j / e]).cells.length := by rw [hsz _ _ H]; exact hc
    obtain ⟨u', W, _, O⟩ := V _ _ _ _ H (ye hy)
    have hjj : j / e * e + j % e = j := by rw [yg2]; exact Nat.div_add_mod j e
    rw [hjj, ye hj] at W
    rw [ya W]; exact O
   ·obtain ⟨j, hj, rfl⟩ := yw1 H
    exact hsz j _ (ye hj)
   ·obtain ⟨u, J, hpr, _⟩ := V i x c y H hy
    exact ⟨u, J, hpr⟩
theorem Bi {G : Gh} {w : World} : ∀ {ps : List (Nat × AV)} {qs : List (Nat × Value)} {vs : List AV} {us : List Value}, iK G w vs us → L9 G w ps qs → iK G w (pL vs ps) (qQ us qs)
 | [], qs, vs, us, h, z => by
  have := yp z.1.symm
  subst this; exact h
 | (i, v) :: r, [], vs, us, h, z => by simp [L9] at z
 | (i, v) :: r, (i', u) :: qs, vs, us, h, z => by
  obtain ⟨u', J, K⟩ := z.2 0 (i, v) rfl
  simp only [yn2, Option.some.injEq, Prod.mk.injEq] at J
  obtain ⟨rfl, rfl⟩ := J
  exact Bi (ps := r) (qs := qs) (h.set K) ⟨by simpa using z.1, fun j p H => by simpa using z.2 (j + 1) p (by simpa using H)⟩
theorem rQ : ∀ {ps : List (Nat × AV)} {vs : List AV}, (pL vs ps).length = vs.length
 | [], vs => rfl
 | (i, v) :: r, vs => by rw [pL, rQ]; simp
theorem Ai {e : Nat} : ∀ {vs : List AV}, lP e vs = true → ∀ v ∈ vs, v.cells.length = e
 | [], _ => by simp
 | v :: vs, h => by
  simp only [lP, yc] at h
  intro x z
  rcases yf1.1 z with rfl | z
  ·exact cN.1 h.1
  ·exact Ai h.2 x z
theorem zN {n : Nat} : ∀ {ps : List (Nat × AV)}, nT n ps = true → ∀ p ∈ ps, p.1 < n
 | [], _ => by simp
 | (i, v) :: r, h => by
  simp only [nT, yc] at h
  intro x z
  rcases yf1.1 z with rfl | z
  ·exact d5.1 h.1
  ·exact zN h.2 x z
end
end Go.Ab
end
section
namespace Go.Ab
variable [b8]
theorem oL : ∀ (l : List Int) (r : ByteArray), l.foldl (fun r n => r.push (UInt8.ofNat n.toNat)) r = ⟨r.data ++ (l.map fun n => UInt8.ofNat n.toNat).toArray⟩
 | [], r => by simp
 | b :: l, r => by
  simp only [List.foldl_cons]
  rw [oL l]
  simp [ByteArray.push]
theorem FH (xs : List Int) : xs.foldl (fun r n => r.push (UInt8.ofNat n.toNat)) ByteArray.empty = c4 xs := by
 rw [oL]
 have z : ByteArray.empty.data = #[] := rfl
 simp [c4, z]
section
variable {P : Program}
theorem Ay {G : Gh} {w : World} {mem : aW} {boxed vars : Bool} {t N : TypeId} {rs len s : Nat} {z : AV} {ps : List (Nat × AV)} {qs : Array (Nat × Value)} {wv : aM × List Nat} {o : dX} (hM : aQ G w mem) (hrs : mem[rs]? = some none)
  (J : elemOf? P t = some N) (hz : zero? P N = some z) (hs : j0 P N = some s) (hg : (nT len ps && Nat.ble len 4096 && Nat.ble 1 s && Nat.ble s 4096 && lP s (z :: ps.map (·.2))) = true)
  (hv : k7 P vars mem N (pL (List.replicate len z) ps) = some wv) (O : Nat.beq wv.1.e s = true) (ho : oT (boxed || Nat.beq len 0) rs wv.1 = some o) (hp : L9 G w ps qs.toList) :
  ∃ G' w' cv, (Instr.buildSlice t len qs).run P w = .ok cv w' ∧ VR G' w' o.v cv ∧ dA G G' ∧ Ev G w w' ∧ aQ G' w' (({ v := o.v, rd := wv.2, wr := bS mem wv.2 ++ o.wr } : dX).apply mem) := by
 simp only [yc] at hg
 obtain ⟨⟨⟨⟨g1, g2⟩, g3⟩, g4⟩, g5⟩ := hg
 have g2 := d5.1 g2; have g3 := d5.1 g3; have g4 := d5.1 g4; have O := cN.1 O
 have hu : P.underlying t = some (.slice N) := by
  unfold elemOf? at J
  split at J
  ·obtain rfl := ya J; assumption
  ·simp at J
 obtain ⟨i, H, hi, hzv, hov⟩ := mU hz
 have K : i.size = s := by unfold j0 at hs; rw [hi] at hs; simpa using hs
 have hzr : VR G w z H := mV hov
 have hsz := Ai g5
 have U : H.cells.size = s := by rw [← hsz z (ym ..)]; simpa using hzr.cells.1.symm
 have hL0 : iK G w (List.replicate len z) (List.replicate len H) := by
  refine ⟨by simp, fun j y hy => ?_⟩
  obtain ⟨hj, rfl⟩ : j < len ∧ z = y := by
   have Y := (yf.1 hy)
   obtain ⟨Y, h2⟩ := Y
   simp at Y h2; exact ⟨Y, h2⟩
  rw [yl, yd2, if_pos hj]; exact hzr
 have hL := Bi hL0 hp
 have Z : ∀ q ∈ qs.toList, q.2.cells.size = s ∧ q.1 < (List.replicate len H).length := by
  intro q Z
  obtain ⟨j, hj, rfl⟩ := yw1 Z
  have W : j < ps.length := by rw [hp.1]; exact hj
  obtain ⟨v, hv, hvr⟩ := hp.2 j _ (ye W)
  rw [ye hj] at hv
  have hqe := ya hv
  rw [hqe]
  refine ⟨?_, by simp only [yc3]; exact zN g1 _ (ya3 W)⟩
  rw [← hsz (ps[j].2) (yi _ (yu2.2 ⟨_, ya3 W, rfl⟩))]
  simpa using hvr.cells.1.symm
 have hz1 : ∀ u ∈ List.replicate len H, u.cells.size = s := fun u hu => by rw [(yd3.1 hu).2]; exact U
 have hus := rY hz1 (fun q h => (Z q h).1)
 obtain ⟨V, hvl⟩ := FF hM hv hL hus g3 O
 have hM1 := hM.freeze wv.2
 have hg1 := dA.frz G (bA G mem wv.2) hM.inBoxes
 have hrs1 : (aN mem (bS mem wv.2))[rs]? = some none := by
  rw [(dI mem wv.2 mem rs rfl).2.1 (.inr (fun y hy => by rw [hrs] at hy; cases hy))]; exact hrs
 obtain ⟨G', Y, h2, h3, h4, h5⟩ := Ba (t := N) hM1 hrs1 ho V (by omega)
 have hlen : wv.1.len = len := by rw [hvl, rQ]; simp
 rw [hlen] at h4
 refine ⟨G', _, _, ?_, h4, hg1.trans Y, ?_, ?_⟩
 ·by_cases h0 : len = 0
  ·subst h0
   have hq0 : qs.toList = [] := by
    cases hh : qs.toList with
    | nil => rfl
    | cons q r => have := (Z q (by rw [hh]; exact ym ..)).2; simp at this
   rw [hq0]
   simp [Instr.buildSlice, run_underlying hu, sizeOf, typeInfo, hi, hq0, Instr.fill, newRow, qQ, flat, Array.range_zero']
  ·have hlt : len * s ≤ 16777216 := yt1 (Nat.mul_le_mul g2 g4) (by decide)
   have hpos : 0 < len * s := Nat.mul_pos (by omega) (by omega)
   have hc0 : ((Array.range (len * i.size)).map (H.cells[· % H.cells.size]!)).toList = flat (List.replicate len H) := by
    rw [K, gZ]
    have := lJ H.cells (by omega) len
    rw [U] at this
    rw [U]; exact this
   obtain ⟨c', hf, hc'⟩ := D0 hc0 hz1 Z
   have hcc : c' = (flat (qQ (List.replicate len H) qs.toList)).toArray := by rw [← hc']
   rw [← hcc]
   exact run_buildSlice w t N len qs c' i H hu hi hzv (by rw [K]; omega) (by rw [K]; omega) (by rw [K] at hf ⊢; exact hf)
 ·exact (Ev.refl G w).trans hg1 h2
 ·simp only [dX.apply, yp1]
  rw [l9]; exact h3
theorem p9 {G : Gh} {w : World} {mem : aW} {boxed : Bool} {t K : TypeId} {rs n s : Nat} {H : Value} {v : aM} {i : TypeInfo} {out : dX} {kl kc : IntKind} (hM : aQ G w mem) (V : mem[rs]? = some none)
  (hu : P.underlying t = some (.slice K)) (hi : P.info? K = some i) (hz : i.zero = some H) (O : i.size = s) (hs1 : 1 ≤ s) (Y : i.bytes ≤ 4096) (Z : n ≤ cJ) (W : H.cells.size = s)
  (hv : bC G w v (flat (List.replicate n H))) (U : v.len = n) (hve : v.e = s) (ho : oT boxed rs v = some out) :
  ∃ J N cv, (Instr.makeSlice t (.int kl (n : Int)) (.int kc (n : Int))).run P w = .ok cv N ∧ VR J N out.v cv ∧ dA G J ∧ Ev G w N ∧ aQ J N (out.apply mem) := by
 obtain ⟨J, h1, h2, h3, h4, h5⟩ := Ba (t := K) hM V ho hv (by omega)
 have hfit := vC Z Y
 have z := run_make (P := P) w t K i H hu hi hz kl kc n n (by omega) (Int.le_refl _) (by
   have h : ((n * i.bytes : Nat) : Int) ≤ 281474976710656 := by omega
   rw [Int.natCast_mul, Int.mul_comm] at h; exact h) (by unfold cJ at Z; omega)
 simp only [yq2] at z
 have hc : madeCells H.cells (n * i.size) = (flat (List.replicate n H)).toArray := by
  have := lJ H.cells (by omega) n
  rw [← yo2 (xs := madeCells H.cells (n * i.size)), gZ, ← this, O]
  simp only [madeCells, W]
 rw [hc] at z
 rw [U] at h4
 refine ⟨J, _, _, z, h4, h1, h2, ?_⟩
 simp only [dX.apply, h5, yp1]; exact h3
theorem Ft {G : Gh} {w : World} {mem : aW} {e K dst : TypeId} {x : AV} {xs : List Int} {rd : List Nat} {cv : Value} (hM : aQ G w mem) (O : P.underlying K = some (.slice e)) (he : P.underlying e = some (.int .u8)) (hd : P.underlying dst = some .string)
  (hv : view P e mem x = some (.ints .u8 xs, rd)) (ht : j0 P e = some 1) (N : wH P K x = true) (hx : VR G w x cv) : (convert K dst cv).run P w = .ok (.string (c4 xs)) w := by
 obtain ⟨J, Y, hV⟩ := Bo hM hv hx ht N
 have H : J = xs.map (Value.int .u8) := by
  obtain ⟨W, h2, h3⟩ := hV
  simp only [aM.len, aM.e, yy2] at W
  refine List.ext_getElem (by simp [W]) (fun j V hj2 => ?_)
  have hj : j < xs.length := by omega
  have := h3 j _ (ye hj)
  rw [ye V] at this
  rw [ya this]; simp
 have U := Y.len w
 have z := Y.cells
 have hnl := Y.newsLen
 have Z : ∃ a c, cv = .slice a xs.length c := by
  cases cv <;> simp [Builtin.lenOf] at U
  ·cases hx with
   | lit v h =>
    unfold wH at N
    rw [O] at N
    simp at N
   | imm β p v h hs => cases h; simp [PV.isSl] at hs
   | dead v W h2 => simp [view] at hv
  ·exact ⟨_, _, by rw [U]; rfl⟩
 obtain ⟨a, c, rfl⟩ := Z
 rw [run_convert_bytes_string w K dst e a xs.length c O he hd]
 cases a with
 | none =>
  simp [Builtin.firstCells] at z
  have : J = [] := by
   cases J with
   | nil => rfl
   | cons => simp at z
  rw [this] at H
  have : xs = [] := List.map_eq_nil_iff.1 H.symm
  subst this; rfl
 | some a =>
  simp only [Builtin.firstCells, aM.e, aM.len, yy2] at z
  rw [run_bytesToString w a _ c xs (by rw [← H]; exact z), FH]
end
end Go.Ab
end
section
namespace Go.Ab
variable [b8]
theorem My {vs : Array Value} (h : vs.size = 1) : ∃ x, vs = #[x] := by
 obtain ⟨l⟩ := vs
 match l, h with
 | [x], _ => exact ⟨x, rfl⟩
theorem Mx {vs : Array Value} (h : vs.size = 2) : ∃ x y, vs = #[x, y] := by
 obtain ⟨l⟩ := vs
 match l, h with
 | [x, y], _ => exact ⟨x, y, rfl⟩
section
variable {P : Program}
def qH (P : Program) (G : Gh) (w : World) (mem : aW) (o : Oper) (a : Act) (out : dX) : Prop :=
 ∀ (K : Act → World → Prop) (Q : Exit → Act → World → Prop), (∀ G' w' cv, VR G' w' out.v cv → dA G G' → Ev G w w' → aQ G' w' (out.apply mem) → K (a.put o.dst cv) w') → o.wp P a w K Q
def K7 (P : Program) (G : Gh) (w : World) (mem : aW) (g : FuncId) (args : Array Value) (out : dX) : Prop :=
 (callFunc g args).run P w = .ok (.enter g args) w ∧
 Calls P g args w fun e w' => ∃ G' cv, e = .returned cv ∧ VR G' w' out.v cv ∧ dA G G' ∧ Ev G w w' ∧ aQ G' w' (out.apply mem)
variable {G : Gh} {w : World} {mem : aW} {o : Oper} {a : Act} {out : dX}
theorem k5.opW (h : k5 P G w mem o a out) : qH P G w mem o a out := by
 intro K Q Y
 obtain ⟨U, O, nx, cv, z, J, N, V, H, W⟩ := h
 unfold Oper.wp
 rw [z]
 rcases J with rfl | ⟨rfl, rfl⟩
 ·exact Y U O cv N V H W
 ·exact Y U O undef N V H W
theorem qH.value {s : Sem Value} (U : execOp a.eval o = (do pure (Next.value (← s))))
  (h : ∃ J z cv, s.run P w = .ok cv z ∧ VR J z out.v cv ∧ dA G J ∧ Ev G w z ∧ aQ J z (out.apply mem)) : qH P G w mem o a out := by
 obtain ⟨J, z, cv, H, N, O, K, V⟩ := h
 refine k5.opW ⟨J, z, .value cv, cv, ?_, .inl rfl, N, O, K, V⟩
 rw [U]
 simp only [Sem.run_bind, H, Result.andThen_ok, Sem.run_pure]
theorem qH.still {s : Sem Value} (O : aQ G w mem) (N : execOp a.eval o = (do pure (Next.value (← s)))) {cv : Value} (K : out.wr = []) (J : out.push = [])
  (z : s.run P w = .ok cv w) (H : VR G w out.v cv) : qH P G w mem o a out :=
 qH.value N ⟨G, w, cv, z, H, dA.refl G, Ev.refl G w, by simp only [dX.apply, K, J, aN, yp1]; exact O⟩
theorem qH.plain (N : aQ G w mem) {cv : Value} (K : execOp a.eval o = pure (Next.value cv)) (J : out.wr = []) (H : out.push = []) (z : VR G w out.v cv) : qH P G w mem o a out :=
 k5.opW ⟨G, w, .value cv, cv, by rw [K]; simp, .inl rfl, z, dA.refl G, Ev.refl G w, by simp only [dX.apply, J, H, aN, yp1]; exact N⟩
theorem y3 {ρ : Operand → Option AV} (J : Mh G w ρ a) {x : Option Operand} {r : Option Int} (h : A2 ρ x = some r) : n4 r (x.map a.eval) := by
 cases x with
 | none => simp [A2] at h; subst h; exact trivial
 | some x =>
  simp only [A2] at h
  rw [bind_some] at h; obtain ⟨v, H, h⟩ := h
  unfold HV at h
  split at h
  ·simp at *
  ·rename_i k n z
   obtain rfl := ya z
   obtain rfl := ya h
   have := (J x _ H).lit_inv
   exact ⟨k, by simp [this]⟩
  ·simp at h
theorem s1 {t z : TypeId} (h : elemOf? P t = some z) : P.underlying t = some (.slice z) := by
 unfold elemOf? at h
 split at h
 ·obtain rfl := ya h; assumption
 ·simp at h
theorem kM {l : List Nat} (h : eA l = true) : l = [] := by cases l <;> simp_all [eA]
theorem HW {k : IntKind} {z : AV} {K : Value} {J : List Int} {n : Nat} (h : d4 k [z] = some J) (Z : VR G w z K) : bC G w (.ints k (List.replicate n (J.headD 0))) (flat (List.replicate n K)) ∧ K.cells.size = 1 := by
 obtain ⟨N, O⟩ := sZ h
 obtain ⟨x, rfl⟩ : ∃ x, J = [x] := by
  match J, N with
  | [x], _ => exact ⟨x, rfl⟩
 have := O 0 x rfl
 simp at this
 subst this
 obtain rfl := Z.lit_inv
 have U : flat (List.replicate n (Value.int k x)) = List.replicate n (.int k x) := by
  rw [gZ]
  have V : (Value.int k x).cells.toList = [.int k x] := rfl
  rw [V]
  induction n with
  | zero => rfl
  | succ n W => rw [List.replicate_succ, List.flatten_cons, W, List.replicate_succ]; rfl
 rw [U]
 refine ⟨⟨by simp [aM.len, aM.e], fun u Y => by rw [(yd3.1 Y).2]; rfl, fun i y H => ?_⟩, rfl⟩
 simp only [List.headD_cons] at H
 rw [yd2] at H ⊢
 split at H
 ·rw [if_pos (by assumption)]; rw [← ya H]
 ·simp at H
theorem Ed {t : TypeId} {z : AV} {W : Value} {q : Bool × PV × List Nat} {n e : Nat} (hM : aQ G w mem) (h : oZ P mem t z = some q) (hz : VR G w z W) (Z : z.cells.length = e) (h1 : 1 ≤ e) (hq : q.2.2 = []) :
  bC G w (.pvs q.1 e (List.replicate n q.2.1)) (flat (List.replicate n W)) ∧ W.cells.size = e := by
 obtain ⟨ql, qq⟩ := nP hM h hz
 have V : W.cells.size = e := by rw [← Z]; simpa using hz.cells.1.symm
 have N : ∀ u ∈ List.replicate n W, u.cells.size = e := fun u H => by rw [(yd3.1 H).2]; exact V
 have hfl := jO N
 have O : ∀ (i : Nat) (x : PV) (c : Nat) (y : PV), (List.replicate n q.2.1)[i]? = some x → x.cells[c]? = some y → ∃ u, (flat (List.replicate n W))[i * e + c]? = some u ∧ PR w (G.prot q.1) y u ∧ u.oneCell' = true := by
  intro i x c y K hy
  rw [yd2] at K
  split at K
  ·rename_i hi
   obtain rfl := ya K
   have hce : c < e := by rw [← Z, ← ql]; exact (yf.1 hy).1
   obtain ⟨u, H, U, J⟩ := qq c y hy
   refine ⟨u, by rw [wP N (u := W) (by rw [yd2, if_pos hi]) hce]; exact H, U.mono (fun B o Y => ?_) (fun _ _ _ => rfl), J⟩
   rcases Y with Y | ⟨b, Y, _⟩
   ·exact Y
   ·rw [hq] at Y; simp at Y
  ·simp at K
 refine ⟨⟨by simp only [aM.len, aM.e]; rw [hfl]; simp, fun u H => ?_, fun x K => by rw [(yd3.1 K).2, ql, Z], fun i x c y K hy => ?_⟩, V⟩
 ·obtain ⟨v, hv, H⟩ := pP H
  rw [(yd3.1 hv).2] at H
  obtain ⟨j, hj, rfl⟩ := yw1 H
  have hj2 : j < q.2.1.cells.length := by rw [ql, Z, ← V]; simpa using hj
  obtain ⟨u, H, _, J⟩ := qq j _ (ye hj2)
  rw [ye hj] at H
  rw [ya H]; exact J
 ·obtain ⟨u, H, U, _⟩ := O i x c y K hy
  exact ⟨u, H, U⟩
theorem In {t tx ty : TypeId} {rs : Nat} {n : Int} {kn : IntKind} (hM : aQ G w mem) (hrs : mem[rs]? = some none) (h : Ah P t tx mem rs n = some out) :
  ∃ Y Z cv, (Builtin.append_ #[t, tx] ty #[.slice none 0 0, .int kn n]).run P w = .ok cv Z ∧ VR Y Z out.v cv ∧ dA G Y ∧ Ev G w Z ∧ aQ Y Z (out.apply mem) := by
 unfold Ah at h
 split at h
 ·rename_i kx hkx
  rw [bind_some] at h; obtain ⟨N, het, h⟩ := h
  rw [bind_some] at h; obtain ⟨z, hz, h⟩ := h
  split at h
  ·rw [bind_some] at h; obtain ⟨q, hq, h⟩ := h
   rw [bind_some] at h; obtain ⟨e, he, h⟩ := h
   rw [bind_some] at h; obtain ⟨bytes, O, h⟩ := h
   rw [aA] at h; obtain ⟨hg, h⟩ := h
   simp only [yc, decide_eq_true_eq] at hg
   obtain ⟨⟨g0, V⟩, ⟨⟨W, g2⟩, g3⟩, g4⟩ := hg
   have V := d5.1 V; have W := d5.1 W; have g2 := d5.1 g2; have g3 := cN.1 g3; have g4 := kM g4
   obtain rfl := ya h
   obtain ⟨i, H, hi, hzv, hov⟩ := mU hz
   have hzr : VR G w z H := mV hov
   obtain ⟨m, rfl⟩ : ∃ m : Nat, n = (m : Int) := ⟨n.toNat, by omega⟩
   rw [yq2] at V ⊢
   obtain ⟨hv, U⟩ := Ed (n := m) hM hq hzr g3 W g4
   have his : i.size = e := by unfold j0 at he; rw [hi] at he; simpa using he
   have hib : i.bytes ≤ 4096 := by unfold kU at O; rw [hi] at O; simp at O; omega
   have hfit := vC V hib
   have J := Lib.run_append_nil_zeros (P := P) w t tx ty N i H kn kx (s1 het) hkx hi hzv m (by omega) (by omega) (by unfold cJ at V; omega) (by omega)
   have hrc := lJ H.cells (by omega) m
   have hc : Builtin.zeroCells H.cells m = (flat (List.replicate m H)).toArray := by
    rw [← yo2 (xs := Builtin.zeroCells H.cells m), gZ, ← hrc]
    rfl
   have K : m ≤ grownCap w m 0 N := grownCap_ge w _ _ _
   rw [hc] at J
   have hMd := hM.ev (Ev.drew G w) (.inl rfl) (fun B _ => rfl)
   have hvd : bC G w.drew (Row.pvs q.1 e (List.replicate m q.2.1)).all (flat (List.replicate m H)) := hv.mono (dA.refl G) (Ev.drew G w)
   obtain ⟨Y, rfl, hg', hev, hM', hl⟩ := CE (row := .pvs q.1 e (List.replicate m q.2.1)) (vs := flat (List.replicate m H)) (rest := Builtin.zeroCells H.cells (grownCap w m 0 N - m)) (t := N) hMd hrs W hvd
   have hfl : (flat (List.replicate m H)).length = m * e := by
    rw [jO (e := e) (us := List.replicate m H) (fun u hu => by rw [(yd3.1 hu).2]; exact U)]; simp
   refine ⟨_, _, _, J, ?_, hg', (Ev.drew G w).trans (dA.refl G) hev, by simpa [dX.apply, aN] using hM'⟩
   generalize grownCap w m 0 N = C at K J ⊢
   have hk : VR (G.put rs 0 ⟨some w.drew.heap.size, (Row.pvs q.1 e (List.replicate m q.2.1)).e, (Row.pvs q.1 e (List.replicate m q.2.1)).len⟩) (w.drew.alloc (.cells ((flat (List.replicate m H)).toArray ++ Builtin.zeroCells H.cells (C - m)) N)) (.msw rs 0) (.slice (some ⟨w.heap.size, 0, none⟩) m C) := by
    have := VR.msw (G := G.put rs 0 ⟨some w.drew.heap.size, (Row.pvs q.1 e (List.replicate m q.2.1)).e, (Row.pvs q.1 e (List.replicate m q.2.1)).len⟩) (w := w.drew.alloc (.cells ((flat (List.replicate m H)).toArray ++ Builtin.zeroCells H.cells (C - m)) N)) rs 0 C _ w.drew.heap.size (Gh.put_self ..) rfl (by simp [Row.len]; exact K) (fun j hj => by
     rw [j2]
     simp only [Row.e] at hj
     have hjs : j < ((flat (List.replicate m H)).toArray ++ Builtin.zeroCells H.cells (C - m)).size := by
      simp only [Array.size_append, List.size_toArray, size_zeroCells, hfl, U]
      rw [← yn1]
      exact yr1 hj (yo1 _ (by omega))
     rw [yi1 hjs]; rfl)
    simpa [Row.len] using this
   exact hk
  ·cases h
 ·cases h
theorem BF {boxed vars : Bool} {b : Builtin} {ts : Array TypeId} {ty : TypeId} {consts : Array Bool} {rs : Nat} {args : List AV} {vs : Array Value} (V : aQ G w mem) (W : b = .append → mem[rs]? = some none)
  (h : dL P boxed vars b ts.toList mem rs args = some out) (H : nE G w args vs) :
  ∃ s : Sem Value, builtin b ts ty consts vs = (do pure (Next.value (← s))) ∧ ∃ G' Z cv, s.run P w = .ok cv Z ∧ VR G' Z out.v cv ∧ dA G G' ∧ Ev G w Z ∧ aQ G' Z (out.apply mem) := by
 have Y : ∀ j, vs.getD j undef = vs.toList.getD j undef := fun j => (cZ vs j).symm
 unfold dL at h
 split at h
 ·rename_i t x K
  obtain ⟨n, hn, rfl⟩ := yd.1 h
  have z : ts = #[t] := by rw [← K, yo2]
  obtain ⟨x', rfl⟩ := My H.1.symm
  have J := H.2 0 x rfl
  simp at J
  subst z
  exact ⟨_, rfl, G, w, _, GF V hn J, .lit _ rfl, dA.refl G, Ev.refl G w, by simpa [dX.apply, aN] using V⟩
 ·rename_i t tx kn n K
  have z : ts = #[t, tx] := by rw [← K, yo2]
  obtain ⟨x', y', rfl⟩ := Mx H.1.symm
  have J := H.2 0 _ rfl
  have O := H.2 1 _ rfl
  simp at J O
  obtain rfl := J.lit_inv
  obtain rfl := O.lit_inv
  subst z
  exact ⟨_, rfl, In V (W rfl) h⟩
 ·rename_i t tx x y hno K
  have z : ts = #[t, tx] := by rw [← K, yo2]
  obtain ⟨x', y', rfl⟩ := Mx H.1.symm
  have J := H.2 0 x rfl
  have O := H.2 1 y rfl
  simp at J O
  subst z
  exact ⟨_, rfl, CZ V (W rfl) h J O⟩
 ·rename_i t K
  have z : ts = #[t] := by rw [← K, yo2]
  obtain ⟨x', rfl⟩ := My H.1.symm
  have J := H.2 0 _ rfl
  simp at J
  obtain rfl := J.lit_inv
  subst z
  split at h
  ·rename_i et hu
   obtain rfl := ya h
   exact ⟨_, rfl, G, w, .int .i64 0, by simp [Builtin.cap_, run_underlying hu, goInt], .lit _ rfl, dA.refl G, Ev.refl G w, by simpa [dX.apply, aN] using V⟩
  ·cases h
 ·rename_i k a r
  obtain ⟨v, U, rfl⟩ := yd.1 h
  have J := H.2 0 _ rfl
  obtain ⟨x', N, hvs⟩ : ∃ x' N, vs.toList = x' :: N := by
   cases hh : vs.toList with
   | nil => have := H.1; rw [← yv1, hh] at this; simp at this
   | cons x' N => exact ⟨x', N, rfl⟩
  rw [Y, hvs] at J
  obtain rfl := J.lit_inv
  have := o6 (P := P) (G := G) (w := w) (op := Builtin.min2) (f := Lo k) (k := k) (fun a b => by simp [Builtin.min2, Lo, Bool.cond_decide]) U
   ⟨by have := H.1; rw [← yv1, hvs] at this; simpa using this, fun j y O => by have := H.2 (j + 1) y (by simpa using O); rw [Y, hvs] at this; simpa using this⟩
  refine ⟨_, rfl, G, w, .int k v, ?_, .lit _ rfl, dA.refl G, Ev.refl G w, by simpa [dX.apply, aN] using V⟩
  simp only [Builtin.min_, hvs]
  exact this
 ·rename_i k a r
  obtain ⟨v, U, rfl⟩ := yd.1 h
  have J := H.2 0 _ rfl
  obtain ⟨x', N, hvs⟩ : ∃ x' N, vs.toList = x' :: N := by
   cases hh : vs.toList with
   | nil => have := H.1; rw [← yv1, hh] at this; simp at this
   | cons x' N => exact ⟨x', N, rfl⟩
  rw [Y, hvs] at J
  obtain rfl := J.lit_inv
  have := o6 (P := P) (G := G) (w := w) (op := Builtin.max2) (f := Lr k) (k := k) (fun a b => by simp [Builtin.max2, Lr, Bool.cond_decide]) U
   ⟨by have := H.1; rw [← yv1, hvs] at this; simpa using this, fun j y O => by have := H.2 (j + 1) y (by simpa using O); rw [Y, hvs] at this; simpa using this⟩
  refine ⟨_, rfl, G, w, .int k v, ?_, .lit _ rfl, dA.refl G, Ev.refl G w, by simpa [dX.apply, aN] using V⟩
  simp only [Builtin.max_, hvs]
  exact this
 ·simp at h
theorem aQ.sameCells {G : Gh} {w J : World} {mem : aW} (z : aQ G w mem) (H : Ev G w J) (hc : ∀ B o, cl J B o = cl w B o) (K : J.heap.size = w.heap.size) (hf : ∀ B, iH w B → iH J B) : aQ G J mem where
 box b x h := by
  have Y := z.box b x h
  obtain ⟨o, hl, Z⟩ := Y.loc
  refine ⟨Y.e, o, hl, ?_⟩
  cases o with
  | none => exact Z
  | some B =>
   obtain ⟨W, N, V, O, U⟩ := Z
   exact ⟨W, by rw [K]; exact N, hf B V, O.mono (dA.refl G) H (fun o _ => hc B o), U⟩
 unset := z.unset
 gens := z.gens
 apart := z.apart
 own B h := z.own B (by rw [← K]; exact h)
 lab := z.lab
 away β B o h := by rw [K]; exact z.away β B o h
 glob := z.glob.mono (fun _ _ h => h) (H.prot true)
theorem Lu {w : World} {B : Nat} (O : iH w B) :
  ∃ z, (∀ k, (markStringish ⟨B, k, none⟩).run P w = .ok () z) ∧ (∀ B' o, cl z B' o = cl w B' o) ∧ z.heap.size = w.heap.size ∧ z.output = w.output ∧ z.os = w.os ∧ z.tape = w.tape ∧ (∀ B', B' ≠ B → z.heap[B']? = w.heap[B']?) ∧
   (∀ B', iH w B' → iH z B') := by
 obtain ⟨c, el, J, K, V, Y⟩ := O
 refine ⟨w.freeze ⟨B, c.size, none⟩ 1, fun k => ?_, ?_⟩
 ·simp [markStringish, World.shape?, V]
 have N : (w.freeze ⟨B, c.size, none⟩ 1).heap[B]? = some (.cells c el (if J == K then (c.size, c.size + 1) else (min J c.size, max K (c.size + 1)))) := by
  unfold World.freeze
  rw [if_neg (by decide)]
  simp only [yt2, if_true, V, yn]
 have H : ∀ B', B' ≠ B → (w.freeze ⟨B, c.size, none⟩ 1).heap[B']? = w.heap[B']? := fun B' e => by
  unfold World.freeze
  rw [if_neg (by decide)]
  simp only [yt2]
  rw [if_neg (fun h => e h.symm)]
 have U : (w.freeze ⟨B, c.size, none⟩ 1).heap.size = w.heap.size := by
  unfold World.freeze
  rw [if_neg (by decide)]
  simp
 refine ⟨fun B' o => ?_, U, rfl, rfl, rfl, H, fun B' O => ?_⟩
 ·by_cases e : B' = B
  ·subst e; unfold cl World.cell?; simp [N, V]
  ·exact dU (H B' e) o
 ·by_cases e : B' = B
  ·subst e
   by_cases h : J = K
   ·exact ⟨c, el, c.size, c.size + 1, by rw [N]; simp [h], .inr (yu _)⟩
   ·have W : c.size ≤ J := Y.resolve_left h
    exact ⟨c, el, min J c.size, max K (c.size + 1), by rw [N]; simp [h], .inr (by omega)⟩
  ·exact O.of_heap (H B' e)
theorem BT {boxed : Bool} {J dst : TypeId} {rs : Nat} {x : AV} {cv : Value} (hM : aQ G w mem) (h : jM P boxed J dst mem rs x = some out) (hx : VR G w x cv) :
  ∃ W K r, (convert J dst cv).run P w = .ok r K ∧ VR W K out.v r ∧ dA G W ∧ Ev G w K ∧ aQ W K (out.apply mem) := by
 have still : ∀ {o : dX} {r : Value}, o.wr = [] → o.push = [] → (convert J dst cv).run P w = .ok r w → VR G w o.v r →
   ∃ W K r, (convert J dst cv).run P w = .ok r K ∧ VR W K o.v r ∧ dA G W ∧ Ev G w K ∧ aQ W K (o.apply mem) :=
  fun h1 h2 hr hv => ⟨G, w, _, hr, hv, dA.refl G, Ev.refl G w, by simp only [dX.apply, h1, h2, aN, yp1]; exact hM⟩
 unfold jM at h
 split at h
 ·rename_i k1 k n kk H Z
  obtain rfl := ya h
  obtain rfl := hx.lit_inv
  exact still rfl rfl (by simp [convert, run_underlying H, run_underlying Z, Conv.intToInt]) (.lit _ rfl)
 ·rename_i s H Z
  obtain rfl := ya h
  obtain rfl := hx.lit_inv
  exact still rfl rfl (by simp [convert, run_underlying H, run_underlying Z]) (.lit _ rfl)
 ·rename_i e H Z
  split at h
  ·rename_i he
   rw [bind_some] at h; obtain ⟨v, hv, h⟩ := h
   rw [aA] at h; obtain ⟨hg, h⟩ := h
   simp only [yc] at hg
   obtain ⟨vw, rd⟩ := v
   simp only at h hv
   split at h
   ·rename_i xs
    obtain rfl := ya h
    have ht : j0 P e = some 1 := by
     have := hg.2
     split at this
     ·assumption
     ·simp at this
    exact still rfl rfl (Ft hM H he Z hv ht hg.1 hx) (.lit _ rfl)
   ·simp at h
  ·simp at h
 ·rename_i e0 e b g H Z
  split at h
  ·rename_i he
   rw [aA] at h; obtain ⟨V, h⟩ := h
   rw [bind_some] at h; obtain ⟨bx, hbx, h⟩ := h
   rw [aA] at h; obtain ⟨h1, h⟩ := h
   obtain rfl := ya h
   have V := cN.1 V
   have h1 := d5.1 h1
   have N := box?_some hbx
   obtain ⟨o, hl, hm⟩ := (hM.box b bx N.1).loc
   rw [N.2] at hl
   have Y : ∃ B cap, cv = .slice (some ⟨B, 0, none⟩) bx.row.len cap ∧ G.mine B ∧ iH w B := by
    cases hx with
    | msw _ _ cap L B z hb hn hf =>
     rw [hl] at z
     obtain rfl := ya z
     simp only at hb; subst hb
     exact ⟨B, cap, rfl, hm.1, hm.2.2.1⟩
    | mswNil _ _ L z hb hn =>
     rw [hl] at z
     obtain rfl := ya z
     simp only at hn; omega
   obtain ⟨B, cap, rfl, U, hF⟩ := Y
   obtain ⟨w1, hrun, hc, hsz, ho, hos, htp, hne, hfr⟩ := Lu (P := P) hF
   have O : Ev G w w1 := ⟨by rw [hsz]; exact yu _, ho, hos, fun B' _ hn => hne B' (fun e => hn (by rw [e]; exact U)), fun B' j H => by rw [hc]; exact H, fun _ B' j _ => hc B' j,
    fun B' j hj => by
     by_cases e : B' = B
     ·subst e; rw [hF.cell hj, (hfr _ hF).cell (by rw [hc]; exact hj)]
     ·exact pJ (hne B' e) j, htp⟩
   refine ⟨G, w1, _, ?_, hx.mono (dA.refl G) O, dA.refl G, O, by simp only [dX.apply, aN, yp1]; exact hM.sameCells O hc hsz hfr⟩
   subst V
   simp [convert, run_underlying H, run_underlying he, hrun] <;> simp_all [run_underlying]
  ·simp at h
 ·simp at h
end
end Go.Ab
end
section
namespace Go.Ab
variable [b8]
section
variable {P : Program}
variable {G : Gh} {w : World} {mem : aW} {o : Oper} {a : Act} {out : dX}
theorem FX {c x y r : AV} {H J N : Value} (h : Eh c x y = some r) (O : VR G w c H) (K : VR G w x J) (z : VR G w y N) :
  ∃ t, H = .bool t ∧ VR G w r (if t then J else N) := by
 unfold Eh at h
 split at h
 ·rename_i t
  obtain rfl := O.lit_inv
  refine ⟨t, rfl, ?_⟩
  split at h
  ·obtain rfl := ya h
   obtain rfl := K.lit_inv
   obtain rfl := z.lit_inv
   cases t <;> exact .lit _ rfl
  ·cases t with
   | true => simp only [yg] at h; obtain rfl := ya h; exact K
   | false => simp only [yh] at h; obtain rfl := ya h; exact z
 ·simp at h
theorem JL {x : Operand} (h : pI x = true) : x = .const (.slice none 0 0) := by
 unfold pI at h
 split at h
 ·rfl
 ·cases h
theorem wR {t : TypeId} {p : PV} (h : n6 P t = some p) : (∃ k, p = .ints k []) ∨ ∃ e, p = .sl e [] ∧ 1 ≤ e := by
 unfold n6 at h
 rw [bind_some] at h; obtain ⟨et, _, h⟩ := h
 split at h
 ·rename_i k _; exact .inl ⟨k, (ya h).symm⟩
 ·rw [bind_some] at h; obtain ⟨e, _, h⟩ := h
  rw [aA] at h
  exact .inr ⟨e, (ya h.2).symm, d5.1 h.1⟩
theorem CI {boxed vars : Bool} {ρ : Operand → Option AV} {rs : Nat} {t : TypeId} {x : Operand} (K : aQ G w mem) (V : pI x = true → mem[rs]? = some none) (hρ : Mh G w ρ a)
  (J : execOp a.eval o = pure (Next.value (a.eval x))) (h : pM P boxed vars ρ t rs x = some out) : qH P G w mem o a out := by
 unfold pM at h
 cases O : (pI x && boxed && !vars) with
 | true =>
  rw [O] at h; simp only [yg] at h
  simp only [yc] at O
  obtain rfl := JL O.1.1
  rw [bind_some] at h; obtain ⟨p, Z, h⟩ := h
  obtain ⟨row, z, rfl⟩ := yd.1 h
  have W := V rfl
  have U : rs < mem.length := by
   rcases yu1 rs mem.length with h | h
   ·exact h
   ·rw [yy h] at W; cases W
  have N : 1 ≤ row.e ∧ row.len = 0 ∧ row.isCells = false := by
   rcases wR Z with ⟨k, rfl⟩ | ⟨e, rfl, J⟩
   ·obtain rfl := ya z; exact ⟨yu _, rfl, rfl⟩
   ·obtain rfl := ya z; exact ⟨J, rfl, rfl⟩
  obtain ⟨G', hg, hl, Y⟩ := D5 (b := rs) (g' := 0) (row' := row) K U (fun g _ => K.unset rs g (fun y hy => by rw [W] at hy; cases hy)) N.1 N.2.1 N.2.2
  refine k5.opW ⟨G', w, .value (a.eval (.const (.slice none 0 0))), _, by rw [J]; simp, .inl rfl, ?_, hg, Ev.refl G w, by simpa [dX.apply, aN] using Y⟩
  exact .mswNil rs 0 _ hl rfl N.2.1
 | false =>
  rw [O] at h; simp only [yh] at h
  rw [bind_some] at h; obtain ⟨v, hv, h⟩ := h
  have H := hρ _ _ hv
  split at h
  ·cases boxed with
   | true => simp only [yg] at h; obtain rfl := ya h; exact qH.plain K J rfl rfl H
   | false =>
    simp only [yh] at h
    obtain ⟨p, Z, rfl⟩ := yd.1 h
    refine qH.plain K J rfl rfl ?_
    rw [H.lit_inv]
    rcases wR Z with ⟨k, rfl⟩ | ⟨e, rfl, _⟩
    ·exact .imm _ _ _ (.intsNil k _) rfl
    ·exact .imm _ _ _ (.slNil e _) rfl
  ·obtain rfl := ya h; exact qH.plain K J rfl rfl H
theorem FE {ρ : Operand → Option AV} {t : TypeId} {x ix : Operand} (hM : aQ G w mem) (hρ : Mh G w ρ a)
  (he : execOp a.eval o = (do pure (Next.value (← Instr.index t (a.eval x) (a.eval ix))))) (h : mW P ρ t x ix = some out) : qH P G w mem o a out := by
 unfold mW at h
 rw [bind_some] at h; obtain ⟨vx, hx, h⟩ := h
 rw [bind_some] at h; obtain ⟨vi, z, h⟩ := h
 have N := hρ _ _ hx
 have K := hρ _ _ z
 split at h
 ·rename_i cs k i
  split at h
  ·rename_i n e W
   rw [bind_some] at h; obtain ⟨ag, hag, h⟩ := h
   rw [bind_some] at h; obtain ⟨s, V, h⟩ := h
   rw [aA] at h; obtain ⟨hg, h⟩ := h
   simp only [yc, yz, decide_eq_true_eq] at hg
   obtain ⟨⟨⟨H, hs1⟩, h0⟩, hn⟩ := hg
   obtain rfl := cN.1 hs1
   obtain ⟨v, hv, rfl⟩ := yd.1 h
   obtain ⟨cvs, Z, J⟩ := N.agg_inv
   have Y := J.2 _ _ hv
   refine qH.still hM he rfl rfl (cv := cvs.getD i.toNat undef) ?_ Y
   rw [Z, K.lit_inv]
   have O : i.toNat < cvs.size := by
    rw [← J.1]; exact (yf.1 hv).1
   have := Gi (P := P) hag V (cs := cvs) (o := i.toNat) w (.inr O)
   rw [H] at this
   simp only [yy1, if_false] at this
   simp only [Instr.index, asIntOf, Sem.run_bind, Sem.run_pure, Result.andThen_ok, run_underlying W, h0, hn, and_self, if_true, c8 V, yy2, this]
  ·cases h
 ·rename_i s k i
  split at h
  ·rename_i W
   obtain ⟨b, U, rfl⟩ := yd.1 h
   refine qH.still hM he rfl rfl (cv := .int .u8 b) ?_ (.lit _ rfl)
   rw [N.lit_inv, K.lit_inv]
   obtain ⟨h0, O, U⟩ := yM U
   have V : s[i.toNat]?.map (fun c : UInt8 => (c.toNat : Int)) = some b := by
    unfold fR at U
    rw [yc1] at U
    rw [← U, ym1]
    by_cases z : i.toNat < s.size
    ·rw [getElem?_pos s _ z, getElem?_pos s.data _ z]; rfl
    ·rw [getElem?_neg s _ z, getElem?_neg s.data _ z]
   obtain ⟨c, hc, rfl⟩ := yd.1 V
   simp only [Instr.index, asIntOf, Sem.run_bind, Sem.run_pure, Result.andThen_ok, run_underlying W, h0, if_true, hc]
  ·cases h
 ·cases h
theorem JF {C : bZ} {boxed raw vars : Bool} {ρ : Operand → Option AV} {rs : Nat} (U : aQ G w mem) (hrs : dE o.op = true → mem[rs]? = some none) (O : Mh G w ρ a)
  (hcall : ∀ {raw keep : Bool} {g : FuncId} {ts : List TypeId} {fi args ca : List AV} {out : dX} {fv av cv : Array Value}, wM P C raw keep g ts fi args ca mem = some out → nE G w fi fv → nE G w args av → nE G w ca cv → K7 P G w mem g (fv ++ av ++ cv) out)
  (h : F1 P C boxed raw vars o ρ mem rs = some out) : qH P G w mem o a out := by
 unfold F1 BY s9 F5 u3 eC vA FM Gm Lc A3 yF wT jH u4 v6 mM CD at h
 split at h
 ·rename_i x H
  exact CI U (fun hn => hrs (by rw [H]; exact hn)) O (by simp only [execOp, H]) h
 ·rename_i x H
  exact CI U (fun hn => hrs (by rw [H]; exact hn)) O (by simp only [execOp, H]) h
 ·rename_i c x y H
  rw [bind_some] at h; obtain ⟨vc, hc, h⟩ := h
  rw [bind_some] at h; obtain ⟨vx, Y, h⟩ := h
  rw [bind_some] at h; obtain ⟨vy, hy, h⟩ := h
  obtain ⟨r, hr, rfl⟩ := yd.1 h
  obtain ⟨t, ht, W⟩ := FX hr (O _ _ hc) (O _ _ Y) (O _ _ hy)
  refine k5.opW ⟨G, w, _, _, ?_, .inl rfl, W, dA.refl G, Ev.refl G w, by simpa [dX.apply, aN] using U⟩
  simp only [execOp, H, ht, asBool]
  cases t <;> simp
 ·rename_i t H
  rw [bind_some] at h; obtain ⟨z, hz, h⟩ := h
  rw [aA] at h; obtain ⟨V, h⟩ := h
  simp only [yc] at V
  obtain rfl := ya h
  exact (If U H (hrs (by rw [H]; rfl)) hz (d5.1 V.1) V.2).opW
 ·rename_i t x H
  rw [bind_some] at h; obtain ⟨v, W, h⟩ := h
  rw [bind_some] at h; obtain ⟨n, hn, h⟩ := h
  rw [aA] at h; obtain ⟨V, h⟩ := h
  simp only [yc] at V
  obtain rfl := ya h
  exact (Le U H (hrs (by rw [H]; rfl)) (O _ _ W) (cN.1 V.1.1) (d5.1 V.1.2) V.2).opW
 ·rename_i t parts H
  rw [bind_some] at h; obtain ⟨ps, hps, h⟩ := h
  obtain ⟨v, W, rfl⟩ := yd.1 h
  obtain ⟨cv, N, J⟩ := FD W (Bv O hps)
  exact qH.still U (by simp only [execOp, H] <;> rfl) rfl rfl N J
 ·rename_i t len parts H
  rw [bind_some] at h; obtain ⟨et, het, h⟩ := h
  rw [bind_some] at h; obtain ⟨z, hz, h⟩ := h
  rw [bind_some] at h; obtain ⟨s, hs, h⟩ := h
  rw [bind_some] at h; obtain ⟨ps, hps, h⟩ := h
  rw [aA] at h; obtain ⟨V, h⟩ := h
  rw [bind_some] at h; obtain ⟨wv, hwv, h⟩ := h
  rw [aA] at h; obtain ⟨hwe, h⟩ := h
  obtain ⟨ov, hov, rfl⟩ := yd.1 h
  exact qH.value (by simp only [execOp, H] <;> rfl) (Ay U (hrs (by rw [H]; rfl)) het hz hs V hwv hwe hov (Bv O hps))
 ·rename_i t x H
  rw [bind_some] at h; obtain ⟨v, W, h⟩ := h
  obtain ⟨r, rd, rfl, cv, N, J⟩ := zP U h (O _ _ W)
  exact qH.still U (by simp only [execOp, H] <;> rfl) rfl rfl N J
 ·rename_i t x y H
  rw [bind_some] at h; obtain ⟨vx, Y, h⟩ := h
  rw [bind_some] at h; obtain ⟨vy, hy, h⟩ := h
  obtain ⟨hov, G', w', N, V, hev, hM'⟩ := Fg U h (O _ _ Y) (O _ _ hy)
  refine k5.opW ⟨G', w', .skip, undef, ?_, .inr ⟨rfl, rfl⟩, by rw [hov]; exact .lit _ rfl, V, hev, hM'⟩
  simp only [execOp, H, Sem.run_bind, N, Result.andThen_ok, Sem.run_pure]
 ·rename_i x H
  rw [bind_some] at h; obtain ⟨v, W, h⟩ := h
  have J := O _ _ W
  split at h
  ·obtain rfl := ya h
   refine qH.plain U (cv := a.eval x) ?_ rfl rfl J
   simp only [execOp, H]
   generalize a.eval x = cv at J
   cases J; simp only
  ·obtain rfl := ya h
   refine qH.plain U (cv := a.eval x) ?_ rfl rfl J
   simp only [execOp, H]
   generalize a.eval x = cv at J
   cases J; simp only
  ·obtain rfl := ya h
   refine qH.plain U (cv := a.eval x) ?_ rfl rfl J
   simp only [execOp, H]
   generalize a.eval x = cv at J
   cases J; simp only
  ·simp at h
 ·rename_i op t x y _ H
  rw [bind_some] at h; obtain ⟨vx, Y, h⟩ := h
  rw [bind_some] at h; obtain ⟨vy, hy, h⟩ := h
  obtain ⟨r, hr, rfl⟩ := yd.1 h
  obtain ⟨cv, h1, h2, J⟩ := KA (x := x) (y := y) hr (O _ _ Y) (O _ _ hy)
  refine qH.still U (s := do eqGuard op t x y (a.eval x) (a.eval y); binOp op t (a.eval x) (a.eval y)) (by simp only [execOp, H]) rfl rfl ?_ J
  simp only [Sem.run_bind, h1, Result.andThen_ok, h2]
 ·rename_i op _ x H
  rw [bind_some] at h; obtain ⟨vx, Y, h⟩ := h
  split at h
  ·obtain ⟨r, hr, rfl⟩ := yd.1 h
   have hvx := (O _ _ Y).lit_inv
   exact qH.still U (by simp only [execOp, H] <;> rfl) rfl rfl (by rw [hvx]; exact Ja hr) (.lit _ (FL hr))
  ·simp at h
 ·rename_i src dst x H
  rw [bind_some] at h; obtain ⟨vx, Y, h⟩ := h
  exact qH.value (by simp only [execOp, H] <;> rfl) (BT U h (O _ _ Y))
 ·rename_i fn first cap H
  rw [bind_some] at h; obtain ⟨fi, hfi, h⟩ := h
  obtain ⟨ca, hca, rfl⟩ := yd.1 h
  have h1 := Bx O hfi
  have h2 := Bx O hca
  exact qH.still U (by simp only [execOp, H] <;> rfl) rfl rfl (cv := .func fn (first.map a.eval) (cap.map a.eval)) (by simp [Instr.makeFunc]) (.fn fn fi ca _ _ h1.1 h2.1 h1.2 h2.2)
 ·rename_i t l c H
  rw [bind_some] at h; obtain ⟨et, het, h⟩ := h
  rw [bind_some] at h; obtain ⟨z, hz, h⟩ := h
  rw [bind_some] at h; obtain ⟨vl, hl, h⟩ := h
  rw [bind_some] at h; obtain ⟨vc, hc, h⟩ := h
  split at h
  ·rename_i k1 n k2 n'
   rw [aA] at h; obtain ⟨V, h⟩ := h
   simp only [yc, beq_iff_eq, decide_eq_true_eq] at V
   obtain ⟨⟨hnn, hn0⟩, hml⟩ := V
   subst hnn
   have hml := d5.1 hml
   obtain ⟨i, zv, hi, hzv, hov⟩ := mU hz
   have hzr : VR G w z zv := mV hov
   have el := (O _ _ hl).lit_inv
   have ec := (O _ _ hc).lit_inv
   obtain ⟨m, rfl⟩ : ∃ m : Nat, n = (m : Int) := ⟨n.toNat, by omega⟩
   rw [yq2] at hml h
   refine qH.value (s := Instr.makeSlice t (.int k1 (m : Int)) (.int k2 (m : Int))) (by simp only [execOp, H, el, ec]) ?_
   have hr := hrs (by rw [H]; rfl)
   split at h
   ·rename_i k hk
    rw [bind_some] at h; obtain ⟨e, he, h⟩ := h
    rw [bind_some] at h; obtain ⟨bytes, hby, h⟩ := h
    rw [bind_some] at h; obtain ⟨zs, hzs, h⟩ := h
    rw [aA] at h; obtain ⟨V, h⟩ := h
    simp only [yc] at V
    obtain rfl := cN.1 V.1
    have hb := d5.1 V.2
    obtain ⟨W, hsz⟩ := HW (n := m) hzs hzr
    exact p9 U hr (s1 het) hi hzv (by unfold j0 at he; rw [hi] at he; simpa using he) (yu _) (by unfold kU at hby; rw [hi] at hby; simp at hby; omega) hml hsz W (by simp [aM.len]) rfl h
   ·rw [bind_some] at h; obtain ⟨q, hq, h⟩ := h
    rw [bind_some] at h; obtain ⟨e, he, h⟩ := h
    rw [bind_some] at h; obtain ⟨bytes, hby, h⟩ := h
    rw [aA] at h; obtain ⟨V, h⟩ := h
    simp only [yc] at V
    obtain ⟨⟨⟨g1, g2⟩, g3⟩, g4⟩ := V
    have g1 := d5.1 g1; have g2 := d5.1 g2; have g3 := cN.1 g3; have g4 := kM g4
    obtain ⟨W, hsz⟩ := Ed (n := m) U hq hzr g3 g1 g4
    exact p9 U hr (s1 het) hi hzv (by unfold j0 at he; rw [hi] at he; simpa using he) g1 (by unfold kU at hby; rw [hi] at hby; simp at hby; omega) hml hsz W (by simp [aM.len]) rfl h
  ·simp at h
 ·rename_i t x lo hi mx H
  rw [bind_some] at h; obtain ⟨vx, Y, h⟩ := h
  rw [bind_some] at h; obtain ⟨vl, hl, h⟩ := h
  rw [bind_some] at h; obtain ⟨vh, hh, h⟩ := h
  rw [bind_some] at h; obtain ⟨vm, hm, h⟩ := h
  obtain ⟨h1, h2, cv, N, J⟩ := Fc U h (O _ _ Y) (y3 O hl) (y3 O hh) (y3 O hm)
  exact qH.still U (by simp only [execOp, H] <;> rfl) h1 h2 N J
 ·rename_i s x f H
  rw [bind_some] at h; obtain ⟨vx, Y, h⟩ := h
  rw [bind_some] at h; obtain ⟨q, hq, h⟩ := h
  have J := O _ _ Y
  split at h
  ·rename_i b g i c
   obtain rfl := ya h
   generalize Z : a.eval x = cv at J
   cases J with
   | ptr _ _ _ _ L B hl hb =>
    refine qH.still U (by simp only [execOp, H] <;> rfl) rfl rfl (by rw [Z]; exact z9 hq B _ w) ?_
    rw [yb3]
    exact .ptr b g i (c + q.1) L B hl hb
  ·rename_i β p c
   obtain rfl := ya h
   generalize Z : a.eval x = cv at J
   cases J with
   | el _ _ _ B o cv hh hr =>
    refine qH.still U (by simp only [execOp, H] <;> rfl) rfl rfl (by rw [Z]; exact z9 hq B _ w) ?_
    rw [yb3]
    exact .el β p (c + q.1) B o cv hh hr
  ·simp at h
 ·rename_i s x f H
  rw [bind_some] at h; obtain ⟨vx, Y, h⟩ := h
  rw [bind_some] at h; obtain ⟨q, hq, h⟩ := h
  split at h
  ·rename_i cs
   rw [bind_some] at h; obtain ⟨ag, hag, h⟩ := h
   have key : ∃ v, (bif ag then guardB (Nat.ble (q.1 + q.2.1) cs.length) (some (AV.agg ((cs.drop q.1).take q.2.1))) else cs[q.1]?) = some v ∧ out = { v } := by
    cases ag with
    | true =>
     simp only [yg] at h ⊢
     rw [aA] at h; obtain ⟨V, h⟩ := h
     exact ⟨_, by rw [V]; rfl, (ya h).symm⟩
    | false =>
     simp only [yh] at h ⊢
     obtain ⟨v, W, rfl⟩ := yd.1 h
     exact ⟨v, W, rfl⟩
   obtain ⟨v, W, rfl⟩ := key
   obtain ⟨cv, N, J⟩ := E6 hq hag (O _ _ Y) W
   exact qH.still U (by simp only [execOp, H] <;> rfl) rfl rfl N J
  ·simp at h
 ·rename_i t x ix H
  rw [bind_some] at h; obtain ⟨vx, Y, h⟩ := h
  rw [bind_some] at h; obtain ⟨vi, hi, h⟩ := h
  split at h
  ·rename_i k i
   have ei := (O _ _ hi).lit_inv
   obtain ⟨v, rd, rfl, cv, N, J⟩ := Fh (k := k) U h (O _ _ Y)
   exact qH.still U (by simp only [execOp, H] <;> rfl) rfl rfl (by rw [ei]; exact N) J
  ·simp at h
 ·rename_i t x ix H
  exact FE U O (by simp only [execOp, H] <;> rfl) h
 ·rename_i t ix H
  rw [bind_some] at h; obtain ⟨vt, ht, h⟩ := h
  split at h
  ·rename_i vs
   obtain ⟨v, W, rfl⟩ := yd.1 h
   have J := O _ _ ht
   generalize Z : a.eval t = cv at J
   cases J with
   | tup _ cvs hlen hh =>
    have hix : ix < cvs.size := by rw [← hlen]; exact (yf.1 W).1
    have := hh ix v W
    rw [yk, yi1 hix] at this
    refine qH.still U (by simp only [execOp, H] <;> rfl) rfl rfl (cv := cvs[ix]) ?_ this
    rw [Z]
    simp [Instr.extract, yi1 hix]
  ·simp at h
 ·rename_i c H
  rw [bind_some] at h; obtain ⟨args, hargs, h⟩ := h
  have hav := Bx O hargs
  split at h
  ·rename_i b hc
   obtain ⟨s, hs, hh⟩ := BF (ty := o.type) (consts := c.args.map fun | .const _ => true | _ => false) U (fun hb => hrs (by rw [H]; subst hb; unfold dE; obtain ⟨cc, _, _⟩ := c; simp only at hc; subst hc; rfl)) h hav
   refine qH.value (s := s) ?_ hh
   rw [← hs]
   simp only [execOp, H, resolve, hc, invoke]
   rfl
  ·rename_i f hc
   rw [bind_some] at h; obtain ⟨fv, hf, h⟩ := h
   split at h
   ·rename_i g fi ca
    have J := O _ _ hf
    generalize Z : a.eval f = cv at J
    cases J with
    | fn _ _ _ fvs cvs h1 h2 hff hcc =>
     obtain ⟨hen, hcl⟩ := hcall h ⟨h1, hff⟩ hav ⟨h2, hcc⟩
     intro K Q hK
     unfold Oper.wp
     have Y : (execOp a.eval o).run P w = .ok (.enter g (fvs ++ c.args.map a.eval ++ cvs)) w := by
      simp only [execOp, H, resolve, hc, Deferred.ofValue, Z, Sem.run_bind, Sem.run_pure, Result.andThen_ok, invoke]
      exact hen
     rw [Y]
     refine Calls.mono hcl fun e w' he => ?_
     obtain ⟨G', cv, rfl, W, V, hev, hM'⟩ := he
     exact hK G' w' cv W V hev hM'
   ·simp at h
  ·simp at h
 ·simp at h
end
end Go.Ab
end
section
namespace Go.Ab
variable [b8]
theorem dW (f : j8) : ∀ cs : List AV, AV.renAll f cs = cs.map (·.ren f)
 | [] => by simp [AV.renAll]
 | c :: cs => by simp [AV.renAll, dW f cs]
theorem gP : ∀ {cs : List AV} {j : Nat} {y : AV}, cs[j]? = some y → y.lent = true → AV.lentAny cs = true
 | [], j, y, h, _ => by simp at h
 | c :: cs, 0, y, h, z => by simp at h; subst h; simp [AV.lentAny, z]
 | c :: cs, j + 1, y, h, z => by simp [AV.lentAny, gP (cs := cs) (j := j) (by simpa using h) z]
def z2 (G G2 : Gh) (f : j8) : Prop := ∀ b g q L, f b g = some q → G.loc b g = some L → G2.loc q.1 q.2 = some L
theorem oD {f : j8} {cs : List AV} {j : Nat} {y : AV} (h : (AV.renAll f cs)[j]? = some y) : ∃ x, cs[j]? = some x ∧ y = x.ren f := by
 rw [dW, yc1] at h
 obtain ⟨x, z, rfl⟩ := yd.1 h
 exact ⟨x, z, rfl⟩
theorem VR.ren {G G2 : Gh} {w : World} {f : j8} {l : Bool} (V : z2 G G2 f) (hp : ∀ β B o, (β = true → l = true) → G.prot β B o → G2.prot β B o) {a : AV} {v : Value} (h : VR G w a v) :
  (a.lent = true → l = true) → VR G2 w (a.ren f) v := by
 induction h with
 | lit v h => intro _; simp only [AV.ren]; exact .lit v h
 | imm β p v h hs => intro z; simp only [AV.ren]; exact .imm β p v (h.mono (fun B o H => hp β B o (fun e => z (by simp [AV.lent, e])) H) (fun _ _ _ => rfl)) hs
 | unkB b => intro _; simp only [AV.ren]; exact .unkB b
 | dead v h1 h2 => intro _; simp only [AV.ren]; exact .dead v h1 h2
 | ptr b g i c L B z H =>
  intro _; simp only [AV.ren]
  split
  ·rename_i q N; exact .ptr q.1 q.2 i c L B (V b g q L N z) H
  ·exact .dead _ rfl rfl
 | ms b g o n cap L B z H W U Z =>
  intro _; simp only [AV.ren]
  split
  ·rename_i q N; exact .ms q.1 q.2 o n cap L B (V b g q L N z) H W U Z
  ·exact .dead _ rfl rfl
 | msNil b g L z H =>
  intro _; simp only [AV.ren]
  split
  ·rename_i q N; exact .msNil q.1 q.2 L (V b g q L N z) H
  ·exact .dead _ rfl rfl
 | msZ b g o B oo L z H ho U =>
  intro _; simp only [AV.ren]
  split
  ·rename_i q N; exact .msZ q.1 q.2 o B oo L (V b g q L N z) H ho U
  ·exact .dead _ rfl rfl
 | msw b g cap L B z H W Z =>
  intro _; simp only [AV.ren]
  split
  ·rename_i q N; exact .msw q.1 q.2 cap L B (V b g q L N z) H W Z
  ·exact .dead _ rfl rfl
 | mswNil b g L z H W =>
  intro _; simp only [AV.ren]
  split
  ·rename_i q N; exact .mswNil q.1 q.2 L (V b g q L N z) H W
  ·exact .dead _ rfl rfl
 | el β p c B o cv h hr' =>
  intro z; simp only [AV.ren]
  have Y : ∀ B o, G.prot β B o → G2.prot β B o := fun B o H => hp β B o (fun e => z (by simp [AV.lent, e])) H
  exact .el β p c B o cv (fun j y J => ⟨(h j y J).1, Y _ _ (h j y J).2⟩) (fun j y J => (hr' j y J).mono Y (fun _ _ _ => rfl))
 | fn f' fi ca fv cv h1 h2 Z hc ihf ihc =>
  intro z; simp only [AV.ren]
  refine .fn f' _ _ fv cv (by rw [dW]; simpa using h1) (by rw [dW]; simpa using h2) (fun j y J => ?_) (fun j y J => ?_)
  ·obtain ⟨x, K, rfl⟩ := oD J
   exact ihf j x K (fun e => z (by simp [AV.lent, gP K e]))
  ·obtain ⟨x, K, rfl⟩ := oD J
   exact ihc j x K (fun e => z (by simp [AV.lent, gP K e]))
 | agg cs cvs O h ih =>
  intro z; simp only [AV.ren]
  refine .agg _ cvs (by rw [dW]; simpa using O) (fun j y J => ?_)
  obtain ⟨x, K, rfl⟩ := oD J
  exact ih j x K (fun e => z (by simp [AV.lent, gP K e]))
 | tup cs cvs O h ih =>
  intro z; simp only [AV.ren]
  refine .tup _ cvs (by rw [dW]; simpa using O) (fun j y J => ?_)
  obtain ⟨x, K, rfl⟩ := oD J
  exact ih j x K (fun e => z (by simp [AV.lent, gP K e]))
def qW : Row → Bool
 | .cells _ cs => AV.lentAny cs
 | .pvs β _ _ => β
 | .ints _ _ => false
theorem lY : ∀ {mem : aW} {b : Nat} {x : c7}, mem[b]? = some (some x) → qW x.row = true → fL mem = true
 | [], b, x, h, _ => by simp at h
 | some y :: m, 0, x, h, z => by
  simp at h; subst h
  obtain ⟨g, fz, row⟩ := y
  cases row <;> simp_all [fL, qW]
 | none :: m, 0, x, h, z => by simp at h
 | some y :: m, b + 1, x, h, z => by simp [fL, lY (mem := m) (b := b) (by simpa using h) z]
 | none :: m, b + 1, x, h, z => by simp only [fL]; exact lY (mem := m) (b := b) (by simpa using h) z
theorem kA (f : j8) (r : Row) : (r.ren f).e = r.e := by cases r <;> rfl
theorem gS (f : j8) (r : Row) : (r.ren f).len = r.len := by cases r <;> simp [Row.ren, Row.len, dW]
theorem dH (f : j8) (r : Row) : (r.ren f).isCells = r.isCells := by cases r <;> rfl
theorem nF.ren {G O : Gh} {w : World} {f : j8} {l : Bool} (W : z2 G O f) (V : ∀ β B o, (β = true → l = true) → G.prot β B o → O.prot β B o) {B : Nat} {r : Row} (h : nF G w B r) (U : qW r = true → l = true) :
  nF O w B (r.ren f) := by
 cases r with
 | ints k xs => exact h
 | pvs β e xs => exact ⟨h.1, fun i x c y z J => by obtain ⟨v, H, K, N⟩ := h.2 i x c y z J; exact ⟨v, H, K, N.mono (fun B o Y => V β B o (fun e => U (by simp [qW, e])) Y) (fun _ _ _ => rfl)⟩⟩
 | cells e cs =>
  refine ⟨by simpa [dW] using h.1, fun j y J => ?_⟩
  obtain ⟨x, z, rfl⟩ := oD J
  obtain ⟨v, H, K, N⟩ := h.2 j x z
  exact ⟨v, H, K, N.ren W V (fun e => U (by simp [qW, gP z e]))⟩
theorem s8 : ∀ {ids : List Nat} {b n j : Nat}, pY b ids n = some j → ∃ i, j = n + i ∧ ids[i]? = some b
 | [], b, n, j, h => by simp [pY] at h
 | m :: r, b, n, j, h => by
  simp only [pY] at h
  cases z : Nat.beq m b with
  | true => rw [z] at h; simp at h; subst h; exact ⟨0, rfl, by simp [cN.1 z]⟩
  | false =>
   rw [z] at h; simp only [yh] at h
   obtain ⟨i, rfl, H⟩ := s8 h
   exact ⟨i + 1, by omega, by simpa using H⟩
theorem sQ : ∀ {ids : List Nat} {i j b : Nat}, cW ids = true → ids[i]? = some b → ids[j]? = some b → i = j
 | [], i, j, b, _, h, _ => by simp at h
 | m :: r, i, j, b, K, H, z => by
  simp only [cW, yc, yz] at K
  have J : ∀ k : Nat, r[k]? = some m → False := fun k N => by
   have := m8.2 (yt N)
   rw [this] at K; simp at K
  cases i with
  | zero =>
   cases j with
   | zero => rfl
   | succ j => simp at H z; subst H; exact (J j z).elim
  | succ i =>
   cases j with
   | zero => simp at H z; subst z; exact (J i H).elim
   | succ j => rw [sQ (ids := r) (i := i) (j := j) K.2 (by simpa using H) (by simpa using z)]
def rS (G : Gh) (mem : aW) (ids : List Nat) : Nat → Nat → Option rO := fun j g => if g = 0 then (ids[j]?).bind fun b => (lM mem b).bind (G.loc b) else none
theorem kL {mem : aW} {b g : Nat} : lM mem b = some g ↔ ∃ x, mem[b]? = some (some x) ∧ x.gen = g := by
 unfold lM
 split
 ·rename_i x J; constructor
  ·intro h; exact ⟨x, J, by simpa using h⟩
  ·rintro ⟨y, z, rfl⟩; rw [J] at z; simp at z; subst z; rfl
 ·rename_i H; constructor
  ·intro h; simp at h
  ·rintro ⟨y, z, _⟩; exact absurd z (H y)
theorem HG {mem : aW} {ids : List Nat} {b g : Nat} {q : Nat × Nat} (h : fB mem ids b g = some q) : ∃ j, q = (j, 0) ∧ ids[j]? = some b ∧ lM mem b = some g := by
 unfold fB at h
 split at h
 ·rename_i J K
  cases z : Nat.beq J g with
  | false => rw [z] at h; simp at h
  | true =>
   rw [z] at h; simp only [yg] at h
   obtain ⟨j, H, rfl⟩ := yd.1 h
   obtain ⟨i, rfl, N⟩ := s8 H
   rw [← cN.1 z]
   exact ⟨i, by simp, N, K⟩
 ·simp at h
theorem Cw {G z : Gh} {mem : aW} {ids : List Nat} (K : z.loc = rS G mem ids) : z2 G z (fB mem ids) := by
 intro b g q L H N
 obtain ⟨j, rfl, J, O⟩ := HG H
 rw [K]
 simp [rS, J, O, N]
theorem dO (f : j8) (mem : aW) : ∀ (ids : List Nat) (j : Nat), (dY f mem ids)[j]? = (ids[j]?).map fun b => match mem[b]? with | some (some x) => some { gen := 0, frz := x.frz, row := x.row.ren f } | _ => none
 | [], j => by simp [dY]
 | b :: r, 0 => by simp only [dY, yn2, yn]; rfl
 | b :: r, j + 1 => by simp [dY, dO f mem r j]
theorem fP {f : j8} {mem : aW} {ids : List Nat} {j : Nat} {y : c7} (h : (dY f mem ids)[j]? = some (some y)) : ∃ b x, ids[j]? = some b ∧ mem[b]? = some (some x) ∧ y = { gen := 0, frz := x.frz, row := x.row.ren f } := by
 rw [dO] at h
 obtain ⟨b, H, h⟩ := yd.1 h
 split at h
 ·rename_i x z; exact ⟨b, x, H, z, by simpa using h.symm⟩
 ·simp at h
theorem Bk {G J : Gh} {w : World} {mem : aW} {ids : List Nat} (hM : aQ G w mem) (hn : cW ids = true) (z : J.loc = rS G mem ids) (hp : ∀ β B o, G.prot β B o → J.prot β B o)
  (hnp : ∀ (b : Nat) (x : c7) (L : rO) (B : Nat), b ∈ ids → mem[b]? = some (some x) → x.frz = false → G.loc b x.gen = some L → L.blk = some B → ∀ β o, ¬ J.prot β B o)
  (V : ∀ (b : Nat) (x : c7) (L : rO) (B : Nat), b ∈ ids → mem[b]? = some (some x) → G.loc b x.gen = some L → L.blk = some B → J.mine B) (hown : ∀ B, w.heap.size ≤ B → J.mine B)
  (Z : ∀ B o, J.prot false B o → J.prot true B o) (K : ∀ β B o, J.prot β B o → B < w.heap.size) : aQ J w (dY (fB mem ids) mem ids) := by
 have hr := Cw z
 have l0 : ∀ {j b : Nat} {x : c7}, ids[j]? = some b → mem[b]? = some (some x) → J.loc j 0 = G.loc b x.gen := by
  intro j b x hj H
  rw [z]; simp [rS, hj, kL.2 ⟨x, H, rfl⟩]
 refine ⟨fun j y h => ?_, fun j g h => ?_, fun j y g h hlt => ?_, fun j j' y y' L L' B h h' N O hk hk' => ?_, hown, Z, K, hM.glob.mono (hp true) fun _ _ _ => rfl⟩
 ·obtain ⟨b, x, U, H, rfl⟩ := fP h
  have Y := hM.box b x H
  obtain ⟨o, N, hm⟩ := Y.loc
  refine ⟨by simp only [kA]; exact Y.e, o, ?_, ?_⟩
  ·simp only [kA, gS]; rw [l0 U H]; exact N
  ·cases o with
   | none => simp only [gS, dH]; exact hm
   | some B =>
    obtain ⟨h1, h2, h3, h4, h5⟩ := hm
    exact ⟨V b x _ B (yt U) H N rfl, h2, h3, h4.ren (l := true) hr (fun β B o _ => hp β B o) (fun _ => rfl), fun hf => hnp b x _ B (yt U) H hf N rfl⟩
 ·rw [z]; unfold rS
  split
  ·cases hj : ids[j]? with
   | none => rfl
   | some b =>
    simp only [yb]
    cases hg : lM mem b with
    | none => rfl
    | some g' =>
     obtain ⟨x, H, _⟩ := kL.1 hg
     exact absurd (by rw [dO, hj]; simp [H]) (h { gen := 0, frz := x.frz, row := x.row.ren (fB mem ids) })
  ·rfl
 ·obtain ⟨b, x, U, H, rfl⟩ := fP h
  rw [z]; unfold rS
  rw [if_neg (by simp only at hlt; omega)]
 ·obtain ⟨b, x, U, H, rfl⟩ := fP h
  obtain ⟨b', x', hb', W, rfl⟩ := fP h'
  simp only at N O
  rw [l0 U H] at N; rw [l0 hb' W] at O
  obtain rfl := hM.apart b b' x x' L L' B H W N O hk hk'
  exact sQ hn U hb'
end Go.Ab
end
section
namespace Go.Ab
variable [b8]
theorem zW : ∀ {n i : Nat} {ids : List Nat} {j : Nat}, qL i n ids = true → j < n → ids[j]? = some (i + j)
 | 0, i, ids, j, _, h => by omega
 | n + 1, i, [], j, h, _ => by simp [qL] at h
 | n + 1, i, b :: r, j, h, hj => by
  simp only [qL, yc] at h
  cases j with
  | zero => simp [cN.1 h.1]
  | succ j => rw [ys1, zW h.2 (by omega)]; congr 1; omega
theorem mR : ∀ {old : List (Option Bool)} {mem : aW} {j : Nat}, lU old mem = true →
  (∀ k, old[j]? = some (some k) → ∃ x, mem[j]? = some (some x) ∧ x.row.isCells = k ∧ (k = true → x.gen = 0)) ∧ (old[j]? = some none → mem[j]? = some none)
 | [], mem, j, h => by simp
 | some k :: r, [], j, h => by simp [lU] at h
 | none :: r, [], j, h => by simp [lU] at h
 | some k :: r, none :: m, j, h => by simp [lU] at h
 | none :: r, some x :: m, j, h => by simp [lU] at h
 | none :: r, none :: m, 0, h => by simp
 | none :: r, none :: m, j + 1, h => by
  simp only [lU] at h
  simpa using mR (j := j) h
 | some k :: r, some x :: m, 0, h => by
  simp only [lU, yc] at h
  refine ⟨fun k' z => ?_, by simp⟩
  simp at z; subst z
  refine ⟨x, rfl, ?_, fun z => ?_⟩
  ·cases k <;> simp_all
  ·subst z; simp at h; exact h.1.2
 | some k :: r, some x :: m, j + 1, h => by
  simp only [lU, yc] at h
  simpa using mR (j := j) h.2
theorem o0 {G : Gh} {w : World} {mem : aW} {old : List (Option Bool)} {vs : List AV} {r : List AV × aW} (K : aQ G w mem) (h : oU old vs mem = some r) :
  ∃ f O, r.1 = AV.renAll f vs ∧ O.mine = G.mine ∧ O.prot = G.prot ∧ aQ O w r.2 ∧ z2 G O f ∧ (∀ j, old[j]? = some (some true) → ∀ L, G.loc j 0 = some L → O.loc j 0 = some L) ∧
   (∀ (j : Nat) (y : c7), r.2[j]? = some (some y) → y.gen = 0) ∧ (∀ (j : Nat) (k : Bool), old[j]? = some (some k) → ∃ y : c7, r.2[j]? = some (some y) ∧ y.row.isCells = k) ∧ (∀ j : Nat, old[j]? = some none → r.2[j]? = some none) := by
 unfold oU at h
 generalize eT mem (cL mem (old.length + (AV.refsAll vs).length)) (gH 0 old.length ++ AV.refsAll vs) [] = ids at h
 simp only at h
 rw [aA] at h; obtain ⟨Y, h⟩ := h
 simp only [yc] at Y
 obtain ⟨⟨W, g2⟩, Z⟩ := Y
 obtain rfl := ya h
 have J : ∀ j, j < old.length → ids[j]? = some j := fun j z => by rw [zW Z z, yh1]
 refine ⟨fB mem ids, ⟨rS G mem ids, G.prot, G.mine⟩, rfl, rfl, rfl, ?_, Cw rfl, fun j z L hL => ?_, fun j y hy => ?_, fun j k z => ?_, fun j z => ?_⟩
 ·refine Bk K g2 rfl (fun _ _ _ h => h) (fun b x L B _ H hf V U => ?_) (fun b x L B _ H V U => K.mine H V U) K.own K.lab K.away
  obtain ⟨o, N, hm⟩ := (K.box b x H).loc
  rw [V] at N
  obtain rfl := ya N
  simp only at U; subst U
  exact hm.2.2.2.2 hf
 ·obtain ⟨x, H, _, h0⟩ := (mR (j := j) W).1 true z
  have := J j (yf.1 z).1
  simp [rS, this, kL.2 ⟨x, H, h0 rfl⟩, hL]
 ·obtain ⟨b, x, _, _, rfl⟩ := fP hy; rfl
 ·obtain ⟨x, H, hk, _⟩ := (mR (j := j) W).1 k z
  refine ⟨{ gen := 0, frz := x.frz, row := x.row.ren (fB mem ids) }, ?_, by simp only [dH]; exact hk⟩
  rw [dO, J j (yf.1 z).1]; simp [H]
 ·have H := (mR (j := j) W).2 z
  rw [dO, J j (yf.1 z).1]; simp [H]
def Gh.lend (G : Gh) (S : Nat → Nat → Prop) : Gh := { G with prot := fun β B o => G.prot β B o ∨ (β = true ∧ S B o) }
theorem dA.lend (G : Gh) (S : Nat → Nat → Prop) (z : ∀ B o, S B o → G.mine B) : dA G (G.lend S) := ⟨rfl, fun _ _ _ h => .inl h, fun _ _ _ h => h, fun _ B o h => h.imp id (fun h => z B o h.2)⟩
section
variable {P : Program}
theorem JS {mem : aW} {n : Nat} {l : LK} {v : AV} {r : Bool × PV × List Nat} (h : bD P mem n l v = some r) (J : (∃ b g, v = .msw b g) ∨ (∃ b g o m, v = .ms b g o m)) : r.2.1.isSl = true := by
 have H : ∀ {k : IntKind} {b : Nat} {w : aM} {r : Bool × PV × List Nat}, bD.treeInts k b w = some r → r.2.1.isSl = true := by
  intro k b w r h
  unfold bD.treeInts at h
  split at h
  ·rw [aA] at h; obtain ⟨_, h⟩ := h; obtain rfl := ya h; rfl
  ·rw [aA] at h; obtain ⟨_, h⟩ := h; obtain ⟨xs, _, rfl⟩ := yd.1 h; rfl
  ·simp at h
 have z : ∀ {f : LK → AV → Option (Bool × PV × List Nat)} {t : TypeId} {e b : Nat} {w : aM} {r : Bool × PV × List Nat}, bD.treeSl P f t e b w = some r → r.2.1.isSl = true := by
  intro f t e b w r h
  unfold bD.treeSl at h
  split at h
  ·rw [aA] at h; obtain ⟨_, h⟩ := h; obtain rfl := ya h; rfl
  ·rw [aA] at h; obtain ⟨_, h⟩ := h
   rw [bind_some] at h; obtain ⟨_, _, h⟩ := h
   obtain ⟨xs, _, rfl⟩ := yd.1 h; rfl
  ·simp at h
 cases n with
 | zero => simp [bD] at h
 | succ n =>
  rcases J with ⟨b, g, rfl⟩ | ⟨b, g, o, m, rfl⟩
  ·cases l <;> simp only [bD] at h <;> first
    | (simp at h; done)
    | (rw [bind_some] at h; obtain ⟨x, _, h⟩ := h; exact H h)
    | (rw [bind_some] at h; obtain ⟨x, _, h⟩ := h; exact z h)
  ·cases l <;> simp only [bD] at h <;> first
    | (simp at h; done)
    | (rw [bind_some] at h; obtain ⟨x, _, h⟩ := h; rw [bind_some] at h; obtain ⟨y, _, h⟩ := h; exact H h)
    | (rw [bind_some] at h; obtain ⟨x, _, h⟩ := h; rw [bind_some] at h; obtain ⟨y, _, h⟩ := h; exact z h)
theorem k4 {G : Gh} {w : World} {mem : aW} {S : List Nat} {l : LK} {v : AV} {r : AV × List Nat} {cv : Value} (O : aQ G w mem) (h : fD P mem l v = some r) (U : VR G w v cv) (V : ∀ b ∈ r.2, b ∈ S) :
  VR (G.lend (bA G mem S)) w r.1 cv := by
 have N : ∀ {q : Bool × PV × List Nat}, bD P mem gU l v = some q → r = (.imm true q.2.1, q.2.2) → ((∃ b g, v = .msw b g) ∨ (∃ b g o m, v = .ms b g o m)) → VR (G.lend (bA G mem S)) w r.1 cv := by
  intro q H J Y
  subst J
  obtain ⟨W, _, _⟩ := nX O H U
  refine .imm true _ _ (W.mono (fun B o z => ?_) (fun _ _ _ => rfl)) (JS H Y)
  rcases z with z | z
  ·left
   cases K : q.1 with
   | true => rw [K] at z; exact z
   | false => rw [K] at z; exact O.lab _ _ z
  ·exact .inr ⟨rfl, z.mono V⟩
 unfold fD at h
 split at h
 ·obtain ⟨q, H, J⟩ := yd.1 h
  exact N H J.symm (.inl ⟨_, _, rfl⟩)
 ·obtain ⟨q, H, J⟩ := yd.1 h
  exact N H J.symm (.inr ⟨_, _, _, _, rfl⟩)
 ·obtain rfl := ya h
  exact U.mono (dA.lend G _ O.inBoxes) (Ev.refl G w)
theorem oS {G : Gh} {w : World} {mem : aW} {S : List Nat} (N : aQ G w mem) : ∀ {K : List LK} {vs : List AV} {r : List AV × List Nat} {us : List Value}, bL P mem K vs = some r → iK G w vs us → (∀ b ∈ r.2, b ∈ S) →
  iK (G.lend (bA G mem S)) w r.1 us
 | [], [], r, us, h, z, _ => by
  simp [bL] at h; subst h
  exact ⟨z.1, fun j y H => by simp at H⟩
 | [], v :: vs, r, us, h, _, _ => by simp [bL] at h
 | l :: K, [], r, us, h, _, _ => by simp [bL] at h
 | l :: K, v :: vs, r, [], h, z, _ => by simp [iK] at z
 | l :: K, v :: vs, r, u :: us, h, z, O => by
  simp only [bL] at h
  rw [bind_some] at h; obtain ⟨a, V, h⟩ := h
  rw [bind_some] at h; obtain ⟨b, J, h⟩ := h
  obtain rfl := ya h
  have W := k4 N V (z.2 0 v rfl) (fun b J => O b (yk1 _ J))
  have U := oS N J (us := us) ⟨by simpa using z.1, fun j y H => by simpa using z.2 (j + 1) y (by simpa using H)⟩ (fun b J => O b (yl1 _ J))
  refine ⟨by simp [U.1], fun j y H => ?_⟩
  cases j with
  | zero => simp at H; subst H; exact W
  | succ j => simpa using U.2 j y (by simpa using H)
theorem H6 {G : Gh} {w : World} {mem : aW} {S : List Nat} {t : TypeId} {v : AV} {r : AV × List Nat} {cv : Value} (K : aQ G w mem) (h : lend P mem t v = some r) (J : VR G w v cv) (N : ∀ b ∈ r.2, b ∈ S) :
  VR (G.lend (bA G mem S)) w r.1 cv := by
 have z := fun {a : AV} {u : Value} (h : VR G w a u) => h.mono (dA.lend G _ (K.inBoxes (ids := S))) (Ev.refl G w)
 unfold lend at h
 split at h
 ·rw [bind_some] at h; obtain ⟨l, W, h⟩ := h
  exact k4 K h J N
 ·rw [bind_some] at h; obtain ⟨l, W, h⟩ := h
  exact k4 K h J N
 ·rename_i cs
  cases H : Ea cs with
  | true =>
   rw [H] at h; simp only [yg] at h
   rw [bind_some] at h; obtain ⟨ls, V, h⟩ := h
   obtain ⟨q, Y, rfl⟩ := yd.1 h
   obtain ⟨cvs, rfl, U⟩ := J.agg_inv
   have := oS (us := cvs.toList) K Y ⟨by simpa using U.1, fun j y O => by rw [cZ]; exact U.2 j y O⟩ N
   exact .agg _ cvs (by simpa using this.1) (fun j y O => by rw [← cZ]; exact this.2 j y O)
  | false =>
   rw [H] at h; simp only [yh] at h
   obtain rfl := ya h
   exact z J
 ·obtain rfl := ya h
  exact z J
theorem rX {G : Gh} {w : World} {mem : aW} {S : List Nat} (K : aQ G w mem) : ∀ {ts : List TypeId} {vs : List AV} {r : List AV × List Nat} {us : List Value}, eP P mem ts vs = some r → iK G w vs us → (∀ b ∈ r.2, b ∈ S) →
  iK (G.lend (bA G mem S)) w r.1 us
 | [], [], r, us, h, z, _ => by
  simp [eP] at h; subst h
  exact ⟨z.1, fun j y H => by simp at H⟩
 | [], v :: vs, r, us, h, _, _ => by simp [eP] at h
 | l :: O, [], r, us, h, _, _ => by simp [eP] at h
 | l :: O, v :: vs, r, [], h, z, _ => by simp [iK] at z
 | l :: O, v :: vs, r, u :: us, h, z, N => by
  simp only [eP] at h
  rw [bind_some] at h; obtain ⟨a, V, h⟩ := h
  rw [bind_some] at h; obtain ⟨b, J, h⟩ := h
  obtain rfl := ya h
  have W := H6 K V (z.2 0 v rfl) (fun b J => N b (yk1 _ J))
  have U := rX K J (us := us) ⟨by simpa using z.1, fun j y H => by simpa using z.2 (j + 1) y (by simpa using H)⟩ (fun b J => N b (yl1 _ J))
  refine ⟨by simp [U.1], fun j y H => ?_⟩
  cases j with
  | zero => simp at H; subst H; exact W
  | succ j => simpa using U.2 j y (by simpa using H)
theorem Hd {G : Gh} {w : World} {mem : aW} {S : List Nat} (H : aQ G w mem) {keep : Bool} {ts : List TypeId} {vs : List AV} {r : List AV × List Nat} {us : List Value} (h : G8 P keep mem ts vs = some r) (z : iK G w vs us) (K : ∀ b ∈ r.2, b ∈ S) :
  iK (G.lend (bA G mem S)) w r.1 us := by
 cases keep with
 | true =>
  obtain rfl := ya h
  exact ⟨z.1, fun j y J => (z.2 j y J).mono (dA.lend G (bA G mem S) H.inBoxes) (Ev.refl G w)⟩
 | false => exact rX H h z K
structure Ld (G : Gh) (w : World) (mem : aW) (r : AV × aW) (G' : Gh) (w' : World) (cv : Value) : Prop where
 v : VR G' w' r.1 cv
 ev : Ev G w w'
 mine : G'.mine = G.mine
 prot : ∀ β B o, G.prot β B o → G'.prot β B o
 new : ∀ β B o, G'.prot β B o → G.prot β B o ∨ G.mine B
 memR : aQ G' w' r.2
 gens : ∀ (j : Nat) (y : c7), r.2[j]? = some (some y) → y.gen = 0
 kept : ∀ (j : Nat) (x : c7), mem[j]? = some (some x) → ∃ y : c7, r.2[j]? = some (some y) ∧ y.row.isCells = x.row.isCells ∧ (x.row.isCells = true → ∀ L, G.loc j 0 = some L → G'.loc j 0 = some L)
 nones : ∀ j : Nat, mem[j]? = some none → r.2[j]? = some none
def g9 (P : Program) (C : bZ) : Prop := ∀ g args mem r, C g args mem = some r → ∀ G w vargs, aQ G w mem → (∀ (j : Nat) (x : c7), mem[j]? = some (some x) → x.gen = 0) → nE G w args vargs →
 (callFunc g vargs).run P w = .ok (.enter g vargs) w ∧ Calls P g vargs w fun e w' => ∃ G' cv, e = .returned cv ∧ Ld G w mem r G' w' cv
def kX (G : Gh) (mem : aW) (m : Nat) (B _o : Nat) : Prop := ∃ (b : Nat) (x : c7) (L : rO), m ≤ b ∧ mem[b]? = some (some x) ∧ G.loc b x.gen = some L ∧ L.blk = some B
theorem nC {G : Gh} {w : World} {mem : aW} {m : Nat} {v : AV} {cv : Value} (hM : aQ G w mem) (W : VR G w v cv) : VR (G.frz (kX G mem m)) w (v.frz m mem) cv := by
 have hg : dA G (G.frz (kX G mem m)) := dA.frz G _ (by rintro B o ⟨b, x, L, _, hx, V, hB⟩; exact hM.mine hx V hB)
 have H := fun {a : AV} {u : Value} (h : VR G w a u) => h.mono hg (Ev.refl G w)
 unfold AV.frz
 split
 ·rename_i b g
  cases hle : Nat.ble m b with
  | false => simp only [yh]; exact H W
  | true =>
   simp only [yg]
   split
   ·rename_i x hx
    obtain ⟨hm, rfl⟩ := box?_some hx
    have U := hM.box b x hm
    split
    ·rename_i k xs J
     cases W with
     | msw _ _ cap L B V hb K hf =>
      obtain ⟨o, z, N⟩ := U.loc
      have O := V
      rw [z] at O
      obtain rfl := ya O
      simp only at hb; subst hb
      have hr := N.2.2.2.1
      rw [J] at hr K ⊢
      refine .imm false _ _ (.ints k xs B 0 cap K fun i x' hx' => ?_) rfl
      rw [yh1]
      exact ⟨hr i x' hx', .inr ⟨b, x, _, d5.1 hle, hm, z, rfl⟩⟩
     | mswNil _ _ L V hb K =>
      obtain ⟨o, z, N⟩ := U.loc
      rw [V] at z
      obtain rfl := ya z
      rw [J] at K
      obtain rfl := yp K
      exact .imm false _ _ (.intsNil k _) rfl
    ·rename_i β e xs J
     cases W with
     | msw _ _ cap L B V hb K hf =>
      obtain ⟨o, z, N⟩ := U.loc
      have O := V
      rw [z] at O
      obtain rfl := ya O
      simp only at hb; subst hb
      have hr := N.2.2.2.1
      have he := U.e
      rw [J] at hr K he ⊢
      obtain ⟨hlen, Y⟩ := hr
      have key : ∀ (i : Nat) (x : PV) (c : Nat) (y : PV), xs[i]? = some x → x.cells[c]? = some y → cl w B (i * e + c) = some ((cl w B (i * e + c)).getD undef) ∧ ((cl w B (i * e + c)).getD undef).oneCell' = true ∧ PR w (G.prot β) y ((cl w B (i * e + c)).getD undef) := by
       intro i x c y Z h2
       obtain ⟨v, W, hv1, hv2⟩ := Y i x c y Z h2
       rw [W]; exact ⟨rfl, hv1, hv2⟩
      refine .imm β _ _ (.sl e xs B 0 cap (fun i c => (cl w B (i * e + c)).getD undef) he K hlen (fun i x' c y Z h2 => ?_) (fun i x' c y Z h2 => (key i x' c y Z h2).2.1) (fun i x' c y Z h2 => (key i x' c y Z h2).2.2.mono (fun _ _ h => .inl h) (fun _ _ _ => rfl))) rfl
      rw [yh1]
      exact ⟨(key i x' c y Z h2).1, .inr ⟨b, x, _, d5.1 hle, hm, z, rfl⟩⟩
     | mswNil _ _ L V hb K =>
      obtain ⟨o, z, N⟩ := U.loc
      rw [V] at z
      obtain rfl := ya z
      rw [J] at K
      obtain rfl := yp K
      exact .imm β _ _ (.slNil e _) rfl
    ·exact H W
   ·exact H W
 ·exact H W
theorem gE (m : Nat) (mem : aW) : ∀ vs : List AV, AV.frzAll m mem vs = vs.map (·.frz m mem)
 | [] => rfl
 | v :: vs => by simp [AV.frzAll, gE m mem vs]
theorem Es {G : Gh} {w : World} {mem : aW} {m : Nat} {v : AV} {cv : Value} (K : aQ G w mem) (N : VR G w v cv) : VR (G.frz (kX G mem m)) w (jR m mem v) cv := by
 unfold jR
 split
 ·rename_i vs
  cases N with
  | tup _ cvs z h =>
   refine .tup _ cvs (by rw [gE]; simpa using z) (fun j y H => ?_)
   rw [gE, yc1] at H
   obtain ⟨x, J, rfl⟩ := yd.1 H
   exact nC K (h j x J)
 ·rename_i vs
  cases N with
  | agg _ cvs z h =>
   refine .agg _ cvs (by rw [gE]; simpa using z) (fun j y H => ?_)
   rw [gE, yc1] at H
   obtain ⟨x, J, rfl⟩ := yd.1 H
   exact nC K (h j x J)
 ·exact nC K N
theorem CC {mem : aW} {m : Nat} {v : AV} (J : fL mem = false) (H : v.lent = false) : (v.frz m mem).lent = false := by
 unfold AV.frz
 split
 ·rename_i b g
  cases Nat.ble m b with
  | false => exact H
  | true =>
   simp only [yg]
   split
   ·rename_i x K
    obtain ⟨N, _⟩ := box?_some K
    split
    ·rfl
    ·rename_i β e xs z
     simp only [AV.lent]
     cases β with
     | false => rfl
     | true => have := lY N (by rw [z]; rfl); rw [J] at this; cases this
    ·rfl
   ·rfl
 ·exact H
theorem mK : ∀ {cs : List AV}, AV.lentAny cs = false ↔ ∀ y ∈ cs, y.lent = false
 | [] => by simp [AV.lentAny]
 | c :: cs => by simp [AV.lentAny, mK (cs := cs)]
theorem Gj {mem : aW} {m : Nat} {v : AV} (J : fL mem = false) (z : v.lent = false) : (jR m mem v).lent = false := by
 unfold jR
 split
 ·rename_i vs
  simp only [AV.lent] at z ⊢
  rw [mK] at z ⊢
  intro y H
  rw [gE] at H
  obtain ⟨x, K, rfl⟩ := yu2.1 H
  exact CC J (z x K)
 ·rename_i vs
  simp only [AV.lent] at z ⊢
  rw [mK] at z ⊢
  intro y H
  rw [gE] at H
  obtain ⟨x, K, rfl⟩ := yu2.1 H
  exact CC J (z x K)
 ·exact CC J z
end
end Go.Ab
end
