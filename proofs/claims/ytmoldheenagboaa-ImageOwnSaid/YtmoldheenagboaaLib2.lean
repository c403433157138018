/- The evaluator and its soundness (texts AbOps8, AbOps9, AbOps10, AbOps11, AbOps12, AbOps13, AbOps14, AbOps15, AbOps16, AbCall1, AbCall2). -/
import Derived.Test.YtmoldheenagboaaLib1
import Derived.Laws.AppendOwn
import Derived.Deep.Upon
import Derived.Laws.MakeOwn
import Derived.Great.BuildSlice
import Derived.Laws.BytesString
import Derived.Laws.Cells
import Derived.Lib.AppendZeros
section
/- Content that goes over into trees: boxes that are written no more. -/
set_option linter.unusedVariables false
set_option linter.unusedSectionVars false
set_option linter.unusedSimpArgs false
namespace Go.Ab
variable [GTab]
def InBoxes (G : Gh) (mem : Mem) (ids : List Nat) (B o : Nat) : Prop := ∃ b ∈ ids, ∃ (x : Box) (L : Loc), mem[b]? = some (some x) ∧ G.loc b x.gen = some L ∧ L.blk = some B
def Gh.frz (G : Gh) (S : Nat → Nat → Prop) : Gh := { G with prot := fun β B o => G.prot β B o ∨ S B o }
theorem Gle.frz (G : Gh) (S : Nat → Nat → Prop) (hS : ∀ B o, S B o → G.mine B) : Gle G (G.frz S) := ⟨rfl, fun _ _ _ h => .inl h, fun _ _ _ h => h, fun _ B o h => h.imp id (hS B o)⟩
theorem MemR.mine {G : Gh} {w : World} {mem : Mem} (hM : MemR G w mem) {b : Nat} {x : Box} {L : Loc} {B : Nat} (hx : mem[b]? = some (some x)) (hl : G.loc b x.gen = some L) (hB : L.blk = some B) : G.mine B := by
 obtain ⟨o, hl', hm⟩ := (hM.box b x hx).loc
 rw [hl] at hl'
 obtain rfl := Option.some.inj hl'
 simp only at hB; subst hB
 exact hm.1
theorem MemR.inBoxes {G : Gh} {w : World} {mem : Mem} (hM : MemR G w mem) {ids : List Nat} : ∀ B o, InBoxes G mem ids B o → G.mine B := by
 rintro B o ⟨b, _, x, L, hx, hl, hB⟩
 exact hM.mine hx hl hB
theorem InBoxes.mono {G : Gh} {mem : Mem} {ids ids' : List Nat} (h : ∀ b ∈ ids, b ∈ ids') {B o : Nat} (hi : InBoxes G mem ids B o) : InBoxes G mem ids' B o := by
 obtain ⟨b, hb, r⟩ := hi; exact ⟨b, h b hb, r⟩
theorem zO (mem : Mem) : ∀ (ids : List Nat) (m : Mem) (b : Nat), m.length = mem.length →
  (∀ x, mem[b]? = some (some x) → b ∈ ids → (setMem m (frozenAt mem ids))[b]? = some (some { x with frz := true })) ∧
  ((b ∉ ids ∨ ∀ x, mem[b]? ≠ some (some x)) → (setMem m (frozenAt mem ids))[b]? = m[b]?) ∧ (setMem m (frozenAt mem ids)).length = mem.length
 | [], m, b, hl => ⟨fun x _ h => by simp at h, fun _ => rfl, hl⟩
 | a :: r, m, b, hl => by
  unfold frozenAt
  split
  ·rename_i x hx
   have ha : a < m.length := by rw [hl]; exact (List.getElem?_eq_some_iff.1 hx).1
   obtain ⟨i1, i2, i3⟩ := zO mem r (m.set a (some { x with frz := true })) b (by simpa using hl)
   simp only [setMem]
   refine ⟨fun y hy hb => ?_, fun hb => ?_, i3⟩
   ·by_cases hr : b ∈ r
    ·exact i1 y hy hr
    ·have : b = a := by simp at hb; exact hb.resolve_right hr
     subst this
     rw [i2 (.inl hr), List.getElem?_set_self ha]
     rw [hx] at hy; simp at hy; subst hy; rfl
   ·have hne : a ≠ b := by
     rintro rfl
     rcases hb with hb | hb
     ·exact hb (List.mem_cons_self ..)
     ·exact hb x hx
    rw [i2 (hb.imp (fun h hr => h (List.mem_cons_of_mem _ hr)) id), List.getElem?_set_ne hne]
  ·rename_i hno
   obtain ⟨i1, i2, i3⟩ := zO mem r m b hl
   refine ⟨fun y hy hb => ?_, fun hb => i2 (hb.imp (fun h hr => h (List.mem_cons_of_mem _ hr)) id), i3⟩
   have : b ≠ a := by rintro rfl; exact hno y hy
   exact i1 y hy (by simp at hb; exact hb.resolve_left this)
theorem MemR.freeze {G : Gh} {w : World} {mem : Mem} (hM : MemR G w mem) (ids : List Nat) : MemR (G.frz (InBoxes G mem ids)) w (setMem mem (frozenAt mem ids)) := by
 have hg := Gle.frz G (InBoxes G mem ids) hM.inBoxes
 have hget : ∀ (b : Nat) (y : Box), (setMem mem (frozenAt mem ids))[b]? = some (some y) → ∃ x, mem[b]? = some (some x) ∧ y.gen = x.gen ∧ y.row = x.row ∧ ((b ∈ ids ∧ y.frz = true) ∨ (b ∉ ids ∧ y = x)) := by
  intro b y h
  obtain ⟨i1, i2, _⟩ := zO mem ids mem b rfl
  by_cases hl : ∃ x, mem[b]? = some (some x)
  ·obtain ⟨x, hx⟩ := hl
   by_cases hb : b ∈ ids
   ·rw [i1 x hx hb] at h; simp at h; subst h; exact ⟨x, hx, rfl, rfl, .inl ⟨hb, rfl⟩⟩
   ·rw [i2 (.inl hb), hx] at h; simp at h; subst h; exact ⟨x, hx, rfl, rfl, .inr ⟨hb, rfl⟩⟩
  ·rw [i2 (.inr (fun x hx => hl ⟨x, hx⟩))] at h; exact absurd ⟨y, h⟩ hl
 refine ⟨fun b y h => ?_, fun b g h => ?_, fun b y g h hlt => ?_, fun b b' y y' L L' B h h' l l' k k' => ?_, hM.own, fun B o h => ?_, fun β B o h => ?_, hM.glob.mono (hg.prot true) fun _ _ _ => rfl⟩
 ·obtain ⟨x, hx, hgen, hrow, hc⟩ := hget b y h
  have hb := hM.box b x hx
  obtain ⟨o, hl, hm⟩ := hb.loc
  refine ⟨by rw [hrow]; exact hb.e, o, by rw [hgen, hrow]; exact hl, ?_⟩
  cases o with
  | none => rw [hrow]; exact hm
  | some B =>
   obtain ⟨h1, h2, h3, h4, h5⟩ := hm
   refine ⟨h1, h2, h3, by rw [hrow]; exact h4.mono hg (Ev.refl G w) (fun _ _ => rfl), fun hf β o hp => ?_⟩
   rcases hc with ⟨_, hc⟩ | ⟨hc, rfl⟩
   ·rw [hc] at hf; cases hf
   ·rcases hp with hp | ⟨b2, hb2, x2, L2, hx2, hl2, hk2⟩
    ·exact h5 hf β o hp
    ·have := hM.apart b2 b x2 y L2 _ B hx2 hx hl2 hl hk2 rfl
     subst this; exact hc hb2
 ·refine hM.unset b g fun x hx => ?_
  obtain ⟨i1, i2, _⟩ := zO mem ids mem b rfl
  by_cases hb : b ∈ ids
  ·exact h _ (i1 x hx hb)
  ·exact h x (by rw [i2 (.inl hb)]; exact hx)
 ·obtain ⟨x, hx, hgen, hrow, hc⟩ := hget b y h
  exact hM.gens b x g hx (by rw [← hgen]; exact hlt)
 ·obtain ⟨x, hx, hgen, hrow, hc⟩ := hget b y h
  obtain ⟨x', hx', hgen', hrow', hc'⟩ := hget b' y' h'
  rw [hgen] at l; rw [hgen'] at l'
  exact hM.apart b b' x x' L L' B hx hx' l l' k k'
 ·rcases h with h | h
  ·exact .inl (hM.lab B o h)
  ·exact .inr h
 ·rcases h with h | ⟨b, hb, x, L, hx, hl, hk⟩
  ·exact hM.away β B o h
  ·obtain ⟨o', hl', hm⟩ := (hM.box b x hx).loc
   rw [hl] at hl'
   obtain rfl := Option.some.inj hl'
   simp only at hk; subst hk
   exact hm.2.1
section
variable {P : Program}
theorem zce {α β : Type} {f : α → Option (Bool × β × List Nat)} : ∀ {xs : List α} {r : Bool × List β × List Nat}, foldEls f xs = some r →
  r.2.1.length = xs.length ∧ ∀ (i : Nat) (x : α), xs[i]? = some x → ∃ q, f x = some q ∧ r.2.1[i]? = some q.2.1 ∧ (∀ b ∈ q.2.2, b ∈ r.2.2) ∧ (r.1 = false → q.1 = false)
 | [], r, h => by simp [foldEls] at h; subst h; exact ⟨rfl, fun i x hx => by simp at hx⟩
 | v :: xs, r, h => by
  simp only [foldEls] at h
  rw [bind_some] at h; obtain ⟨a, ha, h⟩ := h
  rw [bind_some] at h; obtain ⟨q, hq, h⟩ := h
  obtain rfl := Option.some.inj h
  obtain ⟨hl, hh⟩ := zce hq
  refine ⟨by simp [hl], fun i x hx => ?_⟩
  cases i with
  | zero => simp at hx; subst hx; exact ⟨a, ha, rfl, fun b hb => List.mem_append_left _ hb, fun h => by simp at h; exact h.1⟩
  | succ i =>
   obtain ⟨q', h1, h2, h3, h4⟩ := hh i x (by simpa using hx)
   exact ⟨q', h1, by simpa using h2, fun b hb => List.mem_append_right _ (h3 b hb), fun h => h4 (by simp at h; exact h.2)⟩
theorem zcX {α β γ : Type} {f : γ → α → Option (Bool × β × List Nat)} : ∀ {ls : List γ} {xs : List α} {r : Bool × List β × List Nat}, zipEls f ls xs = some r →
  r.2.1.length = xs.length ∧ ls.length = xs.length ∧ ∀ (i : Nat) (x : α), xs[i]? = some x → ∃ l q, ls[i]? = some l ∧ f l x = some q ∧ r.2.1[i]? = some q.2.1 ∧ (∀ b ∈ q.2.2, b ∈ r.2.2) ∧ (r.1 = false → q.1 = false)
 | [], [], r, h => by simp [zipEls] at h; subst h; exact ⟨rfl, rfl, fun i x hx => by simp at hx⟩
 | l :: ls, v :: xs, r, h => by
  simp only [zipEls] at h
  rw [bind_some] at h; obtain ⟨a, ha, h⟩ := h
  rw [bind_some] at h; obtain ⟨q, hq, h⟩ := h
  obtain rfl := Option.some.inj h
  obtain ⟨hl, hl2, hh⟩ := zcX hq
  refine ⟨by simp [hl], by simp [hl2], fun i x hx => ?_⟩
  cases i with
  | zero => simp at hx; subst hx; exact ⟨l, a, rfl, ha, rfl, fun b hb => List.mem_append_left _ hb, fun h => by simp at h; exact h.1⟩
  | succ i =>
   obtain ⟨l', q', h0, h1, h2, h3, h4⟩ := hh i x (by simpa using hx)
   exact ⟨l', q', by simpa using h0, h1, by simpa using h2, fun b hb => List.mem_append_right _ (h3 b hb), fun h => h4 (by simp at h; exact h.2)⟩
 | [], _ :: _, r, h => by simp [zipEls] at h
 | _ :: _, [], r, h => by simp [zipEls] at h
theorem zhf {α : Type} {e : Nat} : ∀ {n : Nat} {cs : List α} {i : Nat}, i < n → (chunks e n cs)[i]? = some ((cs.drop (i * e)).take e)
 | n + 1, cs, 0, h => by simp [chunks]
 | n + 1, cs, i + 1, h => by
  simp only [chunks, List.getElem?_cons_succ]
  rw [zhf (by omega), List.drop_drop]
  congr 3; rw [Nat.add_mul]; omega
theorem zdy {α : Type} {e : Nat} : ∀ {n : Nat} {cs : List α}, (chunks e n cs).length = n
 | 0, cs => rfl
 | n + 1, cs => by simp [chunks, zdy]
theorem sub_zero {r : Row} {o : Nat} {v : View} (h : r.sub o 0 = some v) : (∃ k, v = .ints k []) ∨ (∃ β e, v = .pvs β e []) ∨ (∃ e, v = .avs e []) := by
 cases r <;> simp only [Row.sub] at h <;> rw [za] at h <;> obtain ⟨_, h⟩ := h <;> obtain rfl := Option.some.inj h <;> simp
theorem PR.intsZ {w : World} {pr : Nat → Nat → Prop} (k : IntKind) (a : Option Addr) (ha : ∀ x, a = some x → x.spot = none) : PR w pr (.ints k []) (.slice a 0 0) := by
 cases a with
 | none => exact .intsNil k _
 | some a => obtain ⟨B, o, s⟩ := a; obtain rfl := ha _ rfl; exact .ints k [] B o 0 (by simp) (fun i x hx => by simp at hx)
theorem PR.slZ {w : World} {pr : Nat → Nat → Prop} {e : Nat} (he : 1 ≤ e) (a : Option Addr) (ha : ∀ x, a = some x → x.spot = none) : PR w pr (.sl e []) (.slice a 0 0) := by
 cases a with
 | none => exact .slNil e _
 | some a => obtain ⟨B, o, s⟩ := a; obtain rfl := ha _ rfl; exact .sl e [] B o 0 (fun _ _ => undef) he (by simp) (fun x hx => by simp at hx) (fun i x c y hx => by simp at hx) (fun i x c y hx => by simp at hx) (fun i x c y hx => by simp at hx)
theorem znN {r : Row} {o n : Nat} {v : View} (h : r.sub o n = some v) : v.e = r.e := by
 cases r <;> simp only [Row.sub] at h <;> rw [za] at h <;> obtain ⟨_, h⟩ := h <;> obtain rfl := Option.some.inj h <;> rfl
theorem zdC {k : IntKind} {b : Nat} {v : View} {r : Bool × PV × List Nat} (h : tree.treeInts k b v = some r) (hz : (∃ k, v = .ints k []) ∨ (∃ β e, v = .pvs β e []) ∨ (∃ e, v = .avs e [])) :
  ∃ k', True ∧ r = (false, .ints k' [], [b]) := by
 rcases hz with ⟨k', rfl⟩ | ⟨β, e, rfl⟩ | ⟨e, rfl⟩
 ·simp only [tree.treeInts] at h
  rw [za] at h; obtain ⟨_, h⟩ := h
  exact ⟨k', trivial, (Option.some.inj h).symm⟩
 ·simp [tree.treeInts] at h
 ·simp only [tree.treeInts] at h
  rw [za] at h; obtain ⟨_, h⟩ := h
  simp [intsOf] at h
  exact ⟨k, trivial, h.symm⟩
theorem zfv {f : LK → AV → Option (Bool × PV × List Nat)} {t : TypeId} {e b : Nat} {v : View} {r : Bool × PV × List Nat} (h : tree.treeSl P f t e b v = some r) (hz : (∃ k, v = .ints k []) ∨ (∃ β e, v = .pvs β e []) ∨ (∃ e, v = .avs e [])) :
  ∃ β, v.e = e ∧ r = (β, .sl e [], [b]) := by
 rcases hz with ⟨k', rfl⟩ | ⟨β, e', rfl⟩ | ⟨e', rfl⟩
 ·simp [tree.treeSl] at h
 ·simp only [tree.treeSl] at h
  rw [za] at h; obtain ⟨he, h⟩ := h
  obtain rfl := beqN.1 he
  exact ⟨β, rfl, (Option.some.inj h).symm⟩
 ·simp only [tree.treeSl] at h
  rw [za] at h; obtain ⟨he, h⟩ := h
  simp only [Bool.and_eq_true] at he
  obtain rfl := beqN.1 he.1
  rw [bind_some] at h; obtain ⟨ls, _, h⟩ := h
  have : countBy e ([] : List AV).length = 0 := by
   have := zai (n := 0) (bleN.1 he.2) 0; simpa using this
  rw [this] at h
  simp [chunks, foldEls] at h
  exact ⟨false, rfl, h.symm⟩
theorem zcn {G : Gh} {w : World} {mem : Mem} (hM : MemR G w mem) : ∀ {n : Nat} {l : LK} {v : AV} {r : Bool × PV × List Nat} {cv : Value}, tree P mem n l v = some r → VR G w v cv →
  PR w ((G.frz (InBoxes G mem r.2.2)).prot r.1) r.2.1 cv ∧ cv.oneCell' = true ∧ r.2.1.cells = [r.2.1]
 | 0, l, v, r, cv, h, hv => by simp [tree] at h
 | n + 1, l, v, r, cv, h, hv => by
  have frzPR : ∀ {ids : List Nat} {β : Bool} {p : PV} {u : Value}, PR w (G.prot β) p u → PR w ((G.frz (InBoxes G mem ids)).prot β) p u := fun hp => hp.mono (fun _ _ h => .inl h) (fun _ _ _ => rfl)
  have hints : ∀ {k : IntKind} {b : Nat} {x : Box} {wv : View} {q : Bool × PV × List Nat} {vs : List Value} {B o cap : Nat}, mem[b]? = some (some x) → G.loc b x.gen = some ⟨some B, x.row.e, x.row.len⟩ → tree.treeInts k b wv = some q →
    ViewR G w wv vs → (∀ j u, vs[j]? = some u → cl w B (o + j) = some u) → wv.len ≤ cap →
    PR w ((G.frz (InBoxes G mem q.2.2)).prot q.1) q.2.1 (.slice (some ⟨B, o, none⟩) wv.len cap) ∧ q.2.1.cells = [q.2.1] := by
   intro k b x wv q vs B o cap hx hl hq hview hcl hcap
   have hin : ∀ o', InBoxes G mem [b] B o' := fun o' => ⟨b, List.mem_singleton.2 rfl, x, _, hx, hl, rfl⟩
   unfold tree.treeInts at hq
   split at hq
   ·rename_i k' xs
    rw [za] at hq; obtain ⟨hk, hq⟩ := hq
    obtain rfl := Option.some.inj hq
    obtain ⟨hlen, _, hh⟩ := hview
    exact ⟨.ints k' xs B o cap hcap (fun i y hy => ⟨hcl _ _ (hh i y hy), .inr (hin _)⟩), rfl⟩
   ·rename_i e cs
    rw [za] at hq; obtain ⟨he, hq⟩ := hq
    obtain rfl := beqN.1 he
    obtain ⟨xs, hxs, rfl⟩ := Option.map_eq_some_iff.1 hq
    obtain ⟨hlen, _, hcnt, hh⟩ := hview
    have key : ∀ {cs : List AV} {xs : List Int}, intsOf k cs = some xs → xs.length = cs.length ∧ ∀ (i : Nat) (y : Int), xs[i]? = some y → cs[i]? = some (.lit (.int k y)) := by
     intro cs
     induction cs with
     | nil => intro xs h; simp [intsOf] at h; subst h; exact ⟨rfl, fun i y hy => by simp at hy⟩
     | cons c cs ih =>
      intro xs h
      have hc : ∃ k' z, c = .lit (.int k' z) := by
       cases c with
       | lit v => cases v with
        | int k' z => exact ⟨k', z, rfl⟩
        | _ => simp [intsOf] at h
       | _ => simp [intsOf] at h
      obtain ⟨k', z, rfl⟩ := hc
      simp only [intsOf] at h
      cases hk : kEq k k' with
      | false => rw [hk] at h; simp at h
      | true =>
       rw [hk] at h
       rw [zaR] at hk; subst hk
       simp only [cond_true] at h
       obtain ⟨xs', h1, rfl⟩ := Option.map_eq_some_iff.1 h
       obtain ⟨i1, i2⟩ := ih h1
       refine ⟨by simp [i1], fun i y hy => ?_⟩
       cases i with
       | zero => simp at hy; subst hy; rfl
       | succ i => simpa using i2 i y (by simpa using hy)
    obtain ⟨k1, k2⟩ := key hxs
    have hle : View.len (.avs 1 cs) = xs.length := by rw [k1]; rfl
    rw [hle]
    refine ⟨.ints k xs B o cap (by rw [← hle]; exact hcap) (fun i y hy => ?_), rfl⟩
    obtain ⟨u, hu, hp⟩ := hh i _ (k2 i y hy)
    obtain rfl := hp.lit_inv
    exact ⟨hcl _ _ hu, .inr (hin _)⟩
   ·simp at hq
  have hsl : ∀ {t : TypeId} {e b : Nat} {x : Box} {wv : View} {q : Bool × PV × List Nat} {vs : List Value} {B o cap : Nat}, mem[b]? = some (some x) → G.loc b x.gen = some ⟨some B, x.row.e, x.row.len⟩ → tree.treeSl P (tree P mem n) t e b wv = some q →
    1 ≤ wv.e → ViewR G w wv vs → (∀ j u, vs[j]? = some u → cl w B (o + j) = some u) → wv.len ≤ cap →
    PR w ((G.frz (InBoxes G mem q.2.2)).prot q.1) q.2.1 (.slice (some ⟨B, o, none⟩) wv.len cap) ∧ q.2.1.cells = [q.2.1] := by
   intro t e b x wv q vs B o cap hx hl hq he1 hview hcl hcap
   have hin : ∀ ids o', b ∈ ids → InBoxes G mem ids B o' := fun ids o' hb => ⟨b, hb, x, _, hx, hl, rfl⟩
   unfold tree.treeSl at hq
   split at hq
   ·rename_i β e' xs
    rw [za] at hq; obtain ⟨he, hq⟩ := hq
    obtain rfl := beqN.1 he
    obtain rfl := Option.some.inj hq
    obtain ⟨hlen, h1, hh1, hh2⟩ := hview
    refine ⟨.sl e xs B o cap (fun i c => vs.getD (i * e + c) undef) he1 hcap hh1 (fun i x c y hx hy => ?_) (fun i x c y hx hy => ?_) (fun i x c y hx hy => ?_), rfl⟩
    ·obtain ⟨u, hu, hp⟩ := hh2 i x c y hx hy
     rw [List.getD_eq_getElem?_getD, hu]
     exact ⟨by rw [Nat.add_assoc]; exact hcl _ _ hu, .inr (hin _ _ (List.mem_singleton.2 rfl))⟩
    ·obtain ⟨u, hu, hp⟩ := hh2 i x c y hx hy
     rw [List.getD_eq_getElem?_getD, hu]
     exact h1 u (List.mem_of_getElem? hu)
    ·obtain ⟨u, hu, hp⟩ := hh2 i x c y hx hy
     rw [List.getD_eq_getElem?_getD, hu]
     exact frzPR hp
   ·rename_i e' cs
    rw [za] at hq; obtain ⟨he, hq⟩ := hq
    simp only [Bool.and_eq_true] at he
    obtain rfl := beqN.1 he.1
    rw [bind_some] at hq; obtain ⟨ls, hls, hq⟩ := hq
    obtain ⟨r0, hr0, rfl⟩ := Option.map_eq_some_iff.1 hq
    obtain ⟨hlen, h1, hcnt, hh⟩ := hview
    obtain ⟨fl, ff⟩ := zce hr0
    rw [zdy] at fl
    have hcs : cs.length = countBy e cs.length * e := by rw [Nat.mul_comm]; exact hcnt
    -- element i
    have hel : ∀ i p, r0.2.1[i]? = some p → i < countBy e cs.length ∧ p.cells.length = e ∧ ∀ c y, p.cells[c]? = some y → ∃ u, vs[i * e + c]? = some u ∧ PR w ((G.frz (InBoxes G mem (b :: r0.2.2))).prot r0.1) y u := by
     intro i p hp
     have hi : i < countBy e cs.length := by rw [← fl]; exact (List.getElem?_eq_some_iff.1 hp).1
     obtain ⟨q1, hq1, hp1, hb1, hlab1⟩ := ff i _ (zhf hi)
     rw [hp] at hp1
     obtain rfl := Option.some.inj hp1
     rw [bind_some] at hq1; obtain ⟨q2, hq2, hq1⟩ := hq1
     obtain ⟨p', hp', rfl⟩ := Option.map_eq_some_iff.1 hq1
     obtain ⟨zl, zl2, zz⟩ := zcX hq2
     have hchl : ((cs.drop (i * e)).take e).length = e := by
      have h2 : i * e + e ≤ cs.length := by
       rw [hcs]
       calc i * e + e = (i + 1) * e := by rw [Nat.add_mul]; simp
        _ ≤ _ := Nat.mul_le_mul_right _ hi
      simp; omega
     have hcellsEq : p'.cells = q2.2.1 := by
      unfold oneEl at hp'
      split at hp'
      ·obtain rfl := Option.some.inj hp'; rfl
      ·split at hp'
       ·rename_i c heq
        obtain rfl := Option.some.inj hp'
        -- a single cell: what tree answers is no struct
        have hlen1 : ((cs.drop (i * e)).take e).length = 1 := by rw [← zl, heq]; rfl
        obtain ⟨lk, q3, _, h3, h4, _⟩ := zz 0 (((cs.drop (i * e)).take e)[0]'(by omega)) (List.getElem?_eq_getElem _)
        have hcell0 : cs[i * e]? = some (((cs.drop (i * e)).take e)[0]'(by omega)) := by
         have := List.getElem?_eq_getElem (l := (cs.drop (i * e)).take e) (i := 0) (by omega)
         rw [List.getElem?_take_of_lt (by omega), List.getElem?_drop] at this; simp
        obtain ⟨u, hu, hvr⟩ := hh _ _ hcell0
        have hone := (zcn hM h3 hvr).2.2
        rw [heq] at h4
        simp only [List.getElem?_cons_zero, Option.some.injEq] at h4
        rw [heq, h4]; exact hone
       ·simp at hp'
      ·simp at hp'
     refine ⟨hi, by rw [hcellsEq, zl, hchl], fun c y hy => ?_⟩
     rw [hcellsEq] at hy
     have hc : c < e := by have := (List.getElem?_eq_some_iff.1 hy).1; rw [zl, hchl] at this; exact this
     obtain ⟨lk, q3, _, h3, h4, h5, h6⟩ := zz c (((cs.drop (i * e)).take e)[c]'(by omega)) (List.getElem?_eq_getElem _)
     have hcell : cs[i * e + c]? = some (((cs.drop (i * e)).take e)[c]'(by omega)) := by
      have := List.getElem?_eq_getElem (l := (cs.drop (i * e)).take e) (i := c) (by omega)
      rw [List.getElem?_take_of_lt (by omega), List.getElem?_drop] at this; simp
     obtain ⟨u, hu, hvr⟩ := hh _ _ hcell
     have hpr := (zcn hM h3 hvr).1
     rw [hy] at h4
     obtain rfl := Option.some.inj h4
     refine ⟨u, hu, hpr.mono (fun B' o' hh => ?_) (fun _ _ _ => rfl)⟩
     rcases hh with hh | hh
     ·left
      cases hb : r0.1 with
      | false => rw [h6 (hlab1 hb)] at hh; exact hh
      | true =>
       cases hq3 : q3.1 with
       | false => rw [hq3] at hh; exact hM.lab _ _ hh
       | true => rw [hq3] at hh; exact hh
     ·exact .inr (hh.mono fun b' hb' => List.mem_cons_of_mem _ (hb1 b' (h5 b' hb')))
    have hwl : View.len (.avs e cs) = r0.2.1.length := by rw [fl]; rfl
    rw [hwl]
    refine ⟨.sl e r0.2.1 B o cap (fun i c => vs.getD (i * e + c) undef) he1 (by rw [← hwl]; exact hcap) (fun x hx => ?_) (fun i x c y hx hy => ?_) (fun i x c y hx hy => ?_) (fun i x c y hx hy => ?_), rfl⟩
    ·obtain ⟨i, hi, rfl⟩ := List.getElem_of_mem hx
     exact (hel i _ (List.getElem?_eq_getElem hi)).2.1
    ·obtain ⟨u, hu, hp⟩ := (hel i x hx).2.2 c y hy
     rw [List.getD_eq_getElem?_getD, hu]
     exact ⟨by rw [Nat.add_assoc]; exact hcl _ _ hu, .inr (hin _ _ (List.mem_cons_self ..))⟩
    ·obtain ⟨u, hu, hp⟩ := (hel i x hx).2.2 c y hy
     rw [List.getD_eq_getElem?_getD, hu]
     exact h1 u (List.mem_of_getElem? hu)
    ·obtain ⟨u, hu, hp⟩ := (hel i x hx).2.2 c y hy
     rw [List.getD_eq_getElem?_getD, hu]
     exact hp
   ·simp at hq
  unfold tree at h
  split at h
  ·rename_i k k' x
   rw [za] at h; obtain ⟨hk, h⟩ := h
   obtain rfl := Option.some.inj h
   obtain rfl := hv.lit_inv
   exact ⟨.lit _ rfl, rfl, rfl⟩
  ·obtain rfl := Option.some.inj h
   obtain rfl := hv.lit_inv
   exact ⟨.lit _ rfl, rfl, rfl⟩
  ·obtain rfl := Option.some.inj h
   obtain rfl := hv.lit_inv
   exact ⟨.lit _ rfl, rfl, rfl⟩
  ·rename_i k β k' xs
   rw [za] at h; obtain ⟨hk, h⟩ := h
   obtain rfl := Option.some.inj h
   cases hv with
   | imm _ _ _ hp hs => exact ⟨frzPR hp, by cases hp <;> rfl, rfl⟩
  ·rename_i k
   obtain rfl := Option.some.inj h
   obtain rfl := hv.lit_inv
   exact ⟨.intsNil k _, rfl, rfl⟩
  ·rename_i k b g
   rw [bind_some] at h; obtain ⟨x, hx, h⟩ := h
   have hx' := (box?_some hx)
   have he := (hM.box b x hx'.1).e
   rcases hM.at_msw hx hv with ⟨B, cap, rfl, hn, hl, hf, _, _, _, hrow, _⟩ | ⟨rfl, hz, hnc, hl⟩
   ·obtain ⟨vs, hvs, hcl⟩ := hrow.toList he
    have := hints (o := 0) (cap := cap) hx'.1 (by rw [hx'.2]; exact hl) h hvs (fun j u hu => by rw [Nat.zero_add]; rw [hcl _ (List.getElem?_eq_some_iff.1 hu).1]; exact hu) (by rw [zD]; exact hn)
    rw [zD] at this
    exact ⟨this.1, rfl, this.2⟩
   ·unfold tree.treeInts at h
    obtain ⟨gen, frz, row⟩ := x
    cases row with
    | ints k' xs =>
     simp only [Row.len] at hz
     have := List.eq_nil_of_length_eq_zero hz; subst this
     simp only [Row.all] at h
     rw [za] at h; obtain ⟨hk, h⟩ := h
     obtain rfl := Option.some.inj h
     exact ⟨.intsNil _ _, rfl, rfl⟩
    | pvs β e xs => simp [Row.all] at h
    | cells e cs => simp [Row.isCells] at hnc
  ·rename_i k b g o m
   rw [bind_some] at h; obtain ⟨x, hx, h⟩ := h
   rw [bind_some] at h; obtain ⟨wv, hwv, h⟩ := h
   have hx' := (box?_some hx)
   have he := (hM.box b x hx'.1).e
   rcases hM.at_ms hx hv with ⟨B, cap, rfl, hn, hon, hl, hf, _, _, _, hrow, _⟩ | ⟨rfl, rfl, rfl, hz, hl⟩ | ⟨B, oo, rfl, ho, rfl, hon, hl⟩
   ·obtain ⟨vs, hvs, hcl⟩ := hrow.toList he
    obtain ⟨hv', hve, hvl, _⟩ := zdl he hwv hvs
    have := hints (o := o * x.row.e) (cap := cap) hx'.1 (by rw [hx'.2]; exact hl) h hv' (fun j u hu => by
     have hj : j < m * x.row.e := by have := (List.getElem?_eq_some_iff.1 hu).1; rw [hv'.1, hve, hvl] at this; exact this
     rw [List.getElem?_take_of_lt hj, List.getElem?_drop] at hu
     rw [hcl _ (List.getElem?_eq_some_iff.1 hu).1]; exact hu) (by rw [hvl]; exact hn)
    rw [hvl] at this
    exact ⟨this.1, rfl, this.2⟩
   ·obtain ⟨k', hk', hr⟩ := zdC h (sub_zero hwv); rw [hr]; exact ⟨PR.intsZ k' none (by simp), rfl, rfl⟩
   ·obtain ⟨k', hk', hr⟩ := zdC h (sub_zero hwv); rw [hr]; exact ⟨PR.intsZ k' (some ⟨B, oo, none⟩) (by simp), rfl, rfl⟩
  ·rename_i t e β e' xs
   rw [za] at h; obtain ⟨hk, h⟩ := h
   obtain rfl := Option.some.inj h
   cases hv with
   | imm _ _ _ hp hs => exact ⟨frzPR hp, by cases hp <;> rfl, rfl⟩
  ·rename_i t e
   obtain rfl := Option.some.inj h
   obtain rfl := hv.lit_inv
   exact ⟨.slNil e _, rfl, rfl⟩
  ·rename_i t e b g
   rw [bind_some] at h; obtain ⟨x, hx, h⟩ := h
   have hx' := (box?_some hx)
   have he := (hM.box b x hx'.1).e
   rcases hM.at_msw hx hv with ⟨B, cap, rfl, hn, hl, hf, _, _, _, hrow, _⟩ | ⟨rfl, hz, hnc, hl⟩
   ·obtain ⟨vs, hvs, hcl⟩ := hrow.toList he
    have := hsl (o := 0) (cap := cap) hx'.1 (by rw [hx'.2]; exact hl) h (by rw [zbZ]; exact he) hvs (fun j u hu => by rw [Nat.zero_add]; rw [hcl _ (List.getElem?_eq_some_iff.1 hu).1]; exact hu) (by rw [zD]; exact hn)
    rw [zD] at this
    exact ⟨this.1, rfl, this.2⟩
   ·unfold tree.treeSl at h
    obtain ⟨gen, frz, row⟩ := x
    cases row with
    | ints k' xs => simp [Row.all] at h
    | pvs β e' xs =>
     simp only [Row.len] at hz
     have := List.eq_nil_of_length_eq_zero hz; subst this
     simp only [Row.all] at h
     rw [za] at h; obtain ⟨hk, h⟩ := h
     obtain rfl := Option.some.inj h
     exact ⟨.slNil _ _, rfl, rfl⟩
    | cells e cs => simp [Row.isCells] at hnc
  ·rename_i t e b g o m
   rw [bind_some] at h; obtain ⟨x, hx, h⟩ := h
   rw [bind_some] at h; obtain ⟨wv, hwv, h⟩ := h
   have hx' := (box?_some hx)
   have he := (hM.box b x hx'.1).e
   rcases hM.at_ms hx hv with ⟨B, cap, rfl, hn, hon, hl, hf, _, _, _, hrow, _⟩ | ⟨rfl, rfl, rfl, hz, hl⟩ | ⟨B, oo, rfl, ho, rfl, hon, hl⟩
   ·obtain ⟨vs, hvs, hcl⟩ := hrow.toList he
    obtain ⟨hv', hve, hvl, _⟩ := zdl he hwv hvs
    have := hsl (o := o * x.row.e) (cap := cap) hx'.1 (by rw [hx'.2]; exact hl) h (by rw [hve]; exact he) hv' (fun j u hu => by
     have hj : j < m * x.row.e := by have := (List.getElem?_eq_some_iff.1 hu).1; rw [hv'.1, hve, hvl] at this; exact this
     rw [List.getElem?_take_of_lt hj, List.getElem?_drop] at hu
     rw [hcl _ (List.getElem?_eq_some_iff.1 hu).1]; exact hu) (by rw [hvl]; exact hn)
    rw [hvl] at this
    exact ⟨this.1, rfl, this.2⟩
   ·have he' := znN hwv
    obtain ⟨e', hk', hr⟩ := zfv h (sub_zero hwv); rw [hr]; exact ⟨PR.slZ (by omega) none (by simp), rfl, rfl⟩
   ·have he' := znN hwv
    obtain ⟨e', hk', hr⟩ := zfv h (sub_zero hwv); rw [hr]; exact ⟨PR.slZ (by omega) (some ⟨B, oo, none⟩) (by simp), rfl, rfl⟩
  ·simp at h
end
end Go.Ab
end
section
/- Operations that make boxes and write them. -/
set_option linter.unusedVariables false
set_option linter.unusedSectionVars false
set_option linter.unusedSimpArgs false
namespace Go.Ab
variable [GTab]
section
variable {P : Program}
theorem zaI {mem : Mem} {v : AV} {rd : List Nat} {b : Nat} {x : Box} : ({ v, rd, wr := [(b, x)] } : Out).apply mem = mem.set b (some x) := by simp [Out.apply, setMem]
theorem zbN (mem : Mem) : ∀ (a b : List (Nat × Box)), setMem mem (a ++ b) = setMem (setMem mem a) b
 | [], b => rfl
 | (i, x) :: a, b => by simp only [List.cons_append, setMem]; exact zbN (mem.set i (some x)) a b
theorem zmj {mem : Mem} {v : AV} {rd ids : List Nat} {b : Nat} {x : Box} : ({ v, rd, wr := frozenAt mem ids ++ [(b, x)] } : Out).apply mem = (setMem mem (frozenAt mem ids)).set b (some x) := by
 simp [Out.apply, zbN, setMem]
theorem zcs {G : Gh} {w : World} {mem : Mem} (hM : MemR G w mem) {t : TypeId} {v : AV} {r : Bool × PV × List Nat} {cv : Value} (h : toPV P mem t v = some r) (hv : VR G w v cv) :
  r.2.1.cells.length = v.cells.length ∧ ∀ (j : Nat) (y : PV), r.2.1.cells[j]? = some y → ∃ u, cv.cells.toList[j]? = some u ∧ PR w ((G.frz (InBoxes G mem r.2.2)).prot r.1) y u ∧ u.oneCell' = true := by
 unfold toPV at h
 rw [bind_some] at h; obtain ⟨ls, hls, h⟩ := h
 rw [bind_some] at h; obtain ⟨q, hq, h⟩ := h
 obtain ⟨p, hp, rfl⟩ := Option.map_eq_some_iff.1 h
 obtain ⟨zl, zl2, zz⟩ := zcX hq
 have hc := hv.cells
 have key : ∀ (j : Nat) (y : PV), q.2.1[j]? = some y → ∃ u, cv.cells.toList[j]? = some u ∧ PR w ((G.frz (InBoxes G mem q.2.2)).prot q.1) y u ∧ u.oneCell' = true ∧ y.cells = [y] := by
  intro j y hy
  have hj : j < v.cells.length := by rw [← zl]; exact (List.getElem?_eq_some_iff.1 hy).1
  obtain ⟨lk, q3, _, h3, h4, h5, h6⟩ := zz j (v.cells[j]) (List.getElem?_eq_getElem hj)
  rw [hy] at h4
  obtain rfl := Option.some.inj h4
  have hj' : j < cv.cells.toList.length := by rw [← hc.1]; exact hj
  have hvr := hc.2 j _ (List.getElem?_eq_getElem hj)
  rw [List.getD_eq_getElem?_getD, List.getElem?_eq_getElem hj'] at hvr
  obtain ⟨t1, t2, t3⟩ := zcn hM h3 hvr
  refine ⟨_, List.getElem?_eq_getElem hj', t1.mono (fun B' o' hh => ?_) (fun _ _ _ => rfl), t2, t3⟩
  rcases hh with hh | hh
  ·left
   cases hb : q.1 with
   | false => rw [h6 hb] at hh; exact hh
   | true =>
    cases hq3 : q3.1 with
    | false => rw [hq3] at hh; exact hM.lab _ _ hh
    | true => rw [hq3] at hh; exact hh
  ·exact .inr (hh.mono h5)
 have hcells : p.cells = q.2.1 := by
  unfold oneEl at hp
  split at hp
  ·obtain rfl := Option.some.inj hp; rfl
  ·split at hp
   ·rename_i c heq
    obtain rfl := Option.some.inj hp
    obtain ⟨u, _, _, _, h⟩ := key 0 c (by rw [heq]; rfl)
    rw [heq]; exact h
   ·simp at hp
  ·simp at hp
 simp only
 rw [hcells]
 exact ⟨zl, fun j y hy => by obtain ⟨u, h1, h2, h3, _⟩ := key j y hy; exact ⟨u, h1, h2, h3⟩⟩
theorem ViewR.ofLRs {G : Gh} {w : World} {e : Nat} {cs : List AV} {vs : List Value} (h : LRs G w cs vs) (h1 : onesA cs = true) (hc : cs.length = countBy e cs.length * e) : ViewR G w (.avs e cs) vs := by
 refine ⟨by rw [← h.1]; exact hc, h.ones h1, by rw [Nat.mul_comm]; exact hc, fun j y hy => ?_⟩
 have hj : j < vs.length := by rw [← h.1]; exact (List.getElem?_eq_some_iff.1 hy).1
 have := h.2 j y hy
 rw [List.getD_eq_getElem?_getD, List.getElem?_eq_getElem hj] at this
 exact ⟨_, List.getElem?_eq_getElem hj, this⟩
theorem zhn {G : Gh} {w : World} {mem : Mem} {b : Nat} {row : Row} {vs : List Value} {rest : Array Value} {t : TypeId} (hM : MemR G w mem) (hb : mem[b]? = some none) (he : 1 ≤ row.e)
  (hv : ViewR G w row.all vs) : ∃ G', G' = G.put b 0 ⟨some w.heap.size, row.e, row.len⟩ ∧ Gle G G' ∧ Ev G w (w.alloc (.cells (vs.toArray ++ rest) t)) ∧
   MemR G' (w.alloc (.cells (vs.toArray ++ rest) t)) (mem.set b (some { gen := 0, frz := false, row })) ∧ G'.loc b 0 = some ⟨some w.heap.size, row.e, row.len⟩ := by
 have hno : G.loc b 0 = none := hM.unset b 0 (fun x hx => by rw [hb] at hx; cases hx)
 have hg : Gle G (G.put b 0 ⟨some w.heap.size, row.e, row.len⟩) := Gle.put (.inl hno)
 have hev := Ev.alloc G w (.cells (vs.toArray ++ rest) t) hM.away
 refine ⟨_, rfl, hg, hev, hM.make hb he (RowR.ofList (hv.mono hg hev) (fun j u hu => ?_)), Gh.put_self ..⟩
 rw [zbc]
 have hj := (List.getElem?_eq_some_iff.1 hu).1
 rw [Array.getElem?_append_left (by simpa using hj)]
 simpa using hu
theorem zgA (t : TypeId) (c : Array Value) (w : World) : (newRow t c).run P w = .ok ⟨w.heap.size, 0, none⟩ (w.alloc (.cells c t)) := by
 simp [newRow]
theorem zlT {G : Gh} {w : World} {mem : Mem} {b n : Nat} {v : AV} {cv : Value} {t : TypeId} (hM : MemR G w mem) (hb : mem[b]? = some none) (hv : VR G w v cv) (hn : v.cells.length = n) (h1 : 1 ≤ n) (ho : onesA v.cells = true) :
  ∃ G', Gle G G' ∧ Ev G w (w.alloc (.cells cv.cells t)) ∧ MemR G' (w.alloc (.cells cv.cells t)) (mem.set b (some { gen := 0, frz := false, row := .cells 1 v.cells })) ∧
   VR G' (w.alloc (.cells cv.cells t)) (.ptr b 0 0 0) (.pointer (some ⟨w.heap.size, 0, none⟩)) := by
 have hc : v.cells.length = countBy 1 v.cells.length * 1 := by simp [countBy, Nat.beq]
 obtain ⟨G', rfl, hg, hev, hM', hl⟩ := zhn (row := .cells 1 v.cells) (vs := cv.cells.toList) (rest := #[]) (t := t) hM hb (Nat.le_refl 1) (ViewR.ofLRs hv.cells ho hc)
 simp only [Array.toArray_toList, Array.append_empty] at hev hM'
 refine ⟨_, hg, hev, hM', ?_⟩
 have := VR.ptr (G := G.put b 0 ⟨some w.heap.size, (Row.cells 1 v.cells).e, (Row.cells 1 v.cells).len⟩) (w := w.alloc (.cells cv.cells t)) b 0 0 0 _ w.heap.size hl rfl
 simpa using this
theorem zls {G : Gh} {w : World} {mem : Mem} {o : Oper} {a : Act} {t : TypeId} {rs : Nat} {z : AV} (hM : MemR G w mem) (ho : o.op = .alloc t) (hrs : mem[rs]? = some none) (hz : zero? P t = some z)
  (h1 : 1 ≤ z.cells.length) (hones : onesA z.cells = true) :
  OpDone P G w mem o a { v := .ptr rs 0 0 0, wr := [(rs, { gen := 0, frz := false, row := .cells 1 z.cells })] } := by
 obtain ⟨zv, hzr, hzv, _⟩ := zjS hz G w
 obtain ⟨G', hg, hev, hM', hv⟩ := zlT (t := t) hM hrs hzv rfl h1 hones
 refine ⟨G', _, _, _, ?_, .inl rfl, hv, hg, hev, by rw [zaI]; exact hM'⟩
 simp [execOp, ho, Instr.alloc, hzr, newVar, zgA]
theorem znM {G : Gh} {w : World} {mem : Mem} {o : Oper} {a : Act} {t : TypeId} {x : Operand} {rs n : Nat} {v : AV} (hM : MemR G w mem) (ho : o.op = .box t x) (hrs : mem[rs]? = some none) (hv : VR G w v (a.eval x))
  (hn : v.cells.length = n) (h1 : 1 ≤ n) (hones : onesA v.cells = true) :
  OpDone P G w mem o a { v := .ptr rs 0 0 0, wr := [(rs, { gen := 0, frz := false, row := .cells 1 v.cells })] } := by
 obtain ⟨G', hg, hev, hM', hv'⟩ := zlT (t := t) hM hrs hv hn h1 hones
 refine ⟨G', _, _, _, ?_, .inl rfl, hv', hg, hev, by rw [zaI]; exact hM'⟩
 simp [execOp, ho, Instr.box, newVar, zgA]
theorem ziZ {t : TypeId} {n B o : Nat} {cv : Value} {w : World} (hn : tsz P t = some n) (hsz : cv.cells.size = n) (hc : ∀ j, j < n → (cl w B (o + j)).isSome = true) (hf : ∀ j, j < n → w.frozen? ⟨B, o + j, none⟩ = false)
  (h1 : ∀ u ∈ cv.cells.toList, u.oneCell' = true) : (storeVar t ⟨B, o, none⟩ cv).run P w = .ok () (w.setCells B o cv.cells.toList) := by
 have hst := run_storeCells_cells (P := P) B o cv.cells.toList 0 w (by simpa [hsz] using hc) (by simpa [hsz] using hf) h1
 rw [Nat.add_zero] at hst
 simp only [storeVar, Sem.run_bind, zL hn, Result.andThen_ok, Sem.run_ite, hsz, ne_eq, not_true_eq_false, if_false, Sem.run_pure, hst]
theorem zaT : ∀ {xs vs : List Value} {o j : Nat}, o + xs.length ≤ vs.length → (setCellsV vs o xs)[j]? = if o ≤ j ∧ j < o + xs.length then xs[j - o]? else vs[j]?
 | [], vs, o, j, h => by simp [setCellsV]; omega
 | x :: xs, vs, o, j, h => by
  simp only [setCellsV]
  simp only [List.length_cons] at h
  rw [zaT (xs := xs) (by simp; omega)]
  by_cases h1 : o + 1 ≤ j ∧ j < o + 1 + xs.length
  ·rw [if_pos h1, if_pos (by simp; omega), show j - o = (j - (o + 1)) + 1 by omega, List.getElem?_cons_succ]
  ·rw [if_neg h1]
   by_cases h2 : j = o
   ·subst h2
    rw [if_pos (by simp), List.getElem?_set_self (by omega)]; simp
   ·rw [List.getElem?_set_ne (by omega), if_neg (by simp; omega)]
theorem zfj {G : Gh} {w : World} {mem : Mem} {b : Nat} {x : Box} {B : Nat} {row' : Row} {vs : List Value} {o : Nat} {xs : List Value} (hM : MemR G w mem) (hx : mem[b]? = some (some x)) (hl : G.loc b x.gen = some ⟨some B, x.row.e, x.row.len⟩)
  (hfrz : x.frz = false) (hvs : ∀ j, j < vs.length → cl w B j = vs[j]?) (ho : o + xs.length ≤ vs.length) (he : row'.e = x.row.e) (hlen : row'.len = x.row.len)
  (hv : ViewR G w row'.all (setCellsV vs o xs)) :
  Ev G w (w.setCells B o xs) ∧ MemR G (w.setCells B o xs) (mem.set b (some { x with row := row' })) := by
 have hb := hM.box b x hx
 obtain ⟨oo, hl', hm⟩ := hb.loc
 rw [hl] at hl'
 obtain rfl : some B = oo := by simpa using hl'
 obtain ⟨h1, h2, h3, h4, h5⟩ := hm
 have hsome : ∀ j, j < xs.length → (cl w B (o + j)).isSome = true := by
  intro j hj; rw [hvs _ (by omega), List.getElem?_eq_getElem (by omega)]; rfl
 have hev := Ev.setCells (G := G) (vs := xs) h1 hsome (h5 hfrz)
 have hbl : b < mem.length := (List.getElem?_eq_some_iff.1 hx).1
 refine ⟨hev, ?_⟩
 have hput : G.put b x.gen ⟨some B, x.row.e, x.row.len⟩ = G := by
  unfold Gh.put
  congr 1
  funext b' g'
  split
  ·rename_i hh; obtain ⟨rfl, rfl⟩ := hh; exact hl.symm
  ·rfl
 have := hM.upd (x' := { x with row := row' }) (L := ⟨some B, x.row.e, x.row.len⟩) hev hbl (.inr hl) ?_ ?_ ?_ ?_
 ·rw [hput] at this; exact this
 ·intro b' y Lb B' hne hy hl2 hk
  refine zK (w := w) (fun hB => ?_) xs o w
  subst hB
  exact hne (hM.apart b' b y x Lb _ B' hy hx hl2 hl hk rfl)
 ·intro B' hB' b' y Lb hne hy hl2 hk
  simp only [Option.some.injEq] at hB'; subst hB'
  exact hne (hM.apart b' b y x Lb _ B hy hx hl2 hl hk rfl)
 ·exact fun g hg => hM.gens b x g hx hg
 ·rw [hput]
  refine ⟨by show 1 ≤ row'.e; rw [he]; exact hb.e, some B, by show G.loc b x.gen = some ⟨some B, row'.e, row'.len⟩; rw [he, hlen]; exact hl, h1, by rw [zaQ]; exact h2, h3.setCells, ?_, h5⟩
  ·refine RowR.ofList (hv.mono (Gle.refl G) hev) (fun j u hu => ?_)
   rw [zaT ho] at hu
   by_cases hh : o ≤ j ∧ j < o + xs.length
   ·rw [if_pos hh] at hu
    obtain ⟨k, rfl⟩ : ∃ k, j = o + k := ⟨j - o, by omega⟩
    rw [zbk hsome (by omega)]
    rw [Nat.add_sub_cancel_left, List.getElem?_eq_getElem (by omega)] at hu; exact hu
   ·rw [if_neg hh] at hu
    rw [zaZ (by omega), hvs _ (List.getElem?_eq_some_iff.1 hu).1]; exact hu
end
end Go.Ab
end
section
/- Stores and appends. -/
set_option linter.unusedVariables false
set_option linter.unusedSectionVars false
set_option linter.unusedSimpArgs false
namespace Go.Ab
variable [GTab]
theorem zbO {b : Nat} : ∀ {l : List Nat}, memN b l = true ↔ b ∈ l
 | [] => by simp [memN]
 | m :: r => by simp only [memN, Bool.or_eq_true, beqN, List.mem_cons, zbO (l := r)]; constructor <;> rintro (h | h) <;> first | exact .inl h.symm | exact .inr h
theorem zgm : ∀ {xs vs : List PV} {o j : Nat}, o + xs.length ≤ vs.length → (setPVs vs o xs)[j]? = if o ≤ j ∧ j < o + xs.length then xs[j - o]? else vs[j]?
 | [], vs, o, j, h => by simp [setPVs]; omega
 | x :: xs, vs, o, j, h => by
  simp only [setPVs]
  simp only [List.length_cons] at h
  rw [zgm (xs := xs) (by simp; omega)]
  by_cases h1 : o + 1 ≤ j ∧ j < o + 1 + xs.length
  ·rw [if_pos h1, if_pos (by simp; omega), show j - o = (j - (o + 1)) + 1 by omega, List.getElem?_cons_succ]
  ·rw [if_neg h1]
   by_cases h2 : j = o
   ·subst h2
    rw [if_pos (by simp), List.getElem?_set_self (by omega)]; simp
   ·rw [List.getElem?_set_ne (by omega), if_neg (by simp; omega)]
section
variable {P : Program}
theorem zji {G : Gh} {w : World} {mem : Mem} {t : TypeId} {a x : AV} {out : Out} {ca cx : Value} (hM : MemR G w mem) (h : storeA P t mem a x = some out) (ha : VR G w a ca) (hx : VR G w x cx) :
  out.v = .lit undef ∧ ∃ G' w', (Instr.storeAt t ca cx).run P w = .ok () w' ∧ Gle G G' ∧ Ev G w w' ∧ MemR G' w' (out.apply mem) := by
 unfold storeA at h
 split at h
 ·rename_i b g i c
  rw [bind_some] at h; obtain ⟨bx, hbx, h⟩ := h
  rw [bind_some] at h; obtain ⟨n, hn, h⟩ := h
  rw [za] at h; obtain ⟨hg, h⟩ := h
  simp only [Bool.and_eq_true, Bool.not_eq_true'] at hg
  obtain ⟨hfrz, hlen⟩ := hg
  have hlen := beqN.1 hlen
  obtain ⟨hm, hgen⟩ := box?_some hbx
  obtain ⟨B, rfl, hl, hmine, hB, hfz, hrow, hpr⟩ := hM.at_ptr hbx ha
  have he := (hM.box b bx hm).e
  obtain ⟨vs, hvs, hcl⟩ := hrow.toList he
  have hxc := hx.cells
  have hsz : cx.cells.size = n := by rw [← hlen]; simpa using hxc.1.symm
  have hrun : ∀ o, o + n ≤ vs.length → (∀ u ∈ cx.cells.toList, u.oneCell' = true) → (Instr.storeAt t (.pointer (some ⟨B, o, none⟩)) cx).run P w = .ok () (w.setCells B o cx.cells.toList) := by
   intro o ho h1
   have hsome : ∀ j, j < n → (cl w B (o + j)).isSome = true := fun j hj => by rw [hcl _ (by omega), List.getElem?_eq_getElem (by omega)]; rfl
   have := ziZ (P := P) hn hsz hsome (fun j hj => hfz.cell (hsome j hj)) h1
   simp [Instr.storeAt, Instr.sureAddr, this]
  obtain ⟨gen, frz, row⟩ := bx
  simp only at hfrz hgen hl hvs hcl he; subst hgen
  split at h
  ·rename_i e cs hrw
   simp only at hrw; subst hrw
   rw [za] at h; obtain ⟨hc, h⟩ := h
   simp only [Bool.and_eq_true] at hc
   have hle := bleN.1 hc.1
   obtain rfl := Option.some.inj h
   refine ⟨rfl, ?_⟩
   obtain ⟨hvl, hv1, hcnt, hvv⟩ := hvs
   have hcl2 : vs.length = cs.length := by rw [hvl]; show countBy e cs.length * e = cs.length; rw [Nat.mul_comm]; exact hcnt.symm
   have hL : LRs G w cs vs := ⟨hcl2.symm, fun j y hy => by obtain ⟨u, hu, hp⟩ := hvv j y hy; rw [List.getD_eq_getElem?_getD, hu]; exact hp⟩
   have hones := hxc.ones hc.2
   have hnew := hL.setCells (i := i * e + c) hxc
   have hview : ViewR G w (.avs e (setCells cs (i * e + c) x.cells)) (setCellsV vs (i * e + c) cx.cells.toList) := by
    have hsl : (setCells cs (i * e + c) x.cells).length = cs.length := zaY (as := cs)
    refine ⟨?_, fun u hu => ?_, by rw [hsl]; exact hcnt, fun j y hy => ?_⟩
    ·show _ = countBy e (setCells cs (i * e + c) x.cells).length * e
     rw [zas, hsl, hcl2, Nat.mul_comm]; exact hcnt
    ·obtain ⟨j, hj, rfl⟩ := List.getElem_of_mem hu
     have hg := zaT (xs := cx.cells.toList) (vs := vs) (o := i * e + c) (j := j) (by simp [hsz]; omega)
     rw [List.getElem?_eq_getElem hj] at hg
     split at hg
     ·exact hones _ (List.mem_of_getElem? hg.symm)
     ·exact hv1 _ (List.mem_of_getElem? hg.symm)
    ·have hj : j < (setCellsV vs (i * e + c) cx.cells.toList).length := by rw [← hnew.1]; exact (List.getElem?_eq_some_iff.1 hy).1
     have := hnew.2 j y hy
     rw [List.getD_eq_getElem?_getD, List.getElem?_eq_getElem hj] at this
     exact ⟨_, List.getElem?_eq_getElem hj, this⟩
   have hsl : (setCells cs (i * e + c) x.cells).length = cs.length := zaY (as := cs)
   obtain ⟨hev, hM'⟩ := zfj (row' := .cells e (setCells cs (i * e + c) x.cells)) (o := i * e + c) (xs := cx.cells.toList) hM hm hl hfrz hcl (by simp [hsz]; omega) rfl (by simp only [Row.len]; rw [hsl]) hview
   exact ⟨G, _, hrun _ (by show i * e + c + n ≤ _; omega) hones, Gle.refl G, hev, by rw [zaI]; exact hM'⟩
  ·rename_i k xs hrw
   simp only at hrw; subst hrw
   split at h
   ·rename_i k' z _
    rw [za] at h; obtain ⟨hc, h⟩ := h
    simp only [Bool.and_eq_true] at hc
    obtain ⟨⟨hk, hc0⟩, hi⟩ := hc
    rw [zaR] at hk; subst hk
    obtain rfl := beqN.1 hc0
    have hi := bleN.1 hi
    obtain rfl := Option.some.inj h
    refine ⟨rfl, ?_⟩
    obtain rfl := hx.lit_inv
    obtain ⟨hvl, hv1, hvv⟩ := hvs
    simp only [Row.all, View.len, View.e, Nat.mul_one] at hvl
    have hcells : (Value.int k z).cells.toList = [Value.int k z] := rfl
    have hview : ViewR G w (.ints k (xs.set i z)) (setCellsV vs i [Value.int k z]) := by
     refine ⟨by simp [View.len, View.e, zas, hvl], fun u hu => ?_, fun j y hy => ?_⟩
     ·simp only [setCellsV] at hu
      rcases List.mem_or_eq_of_mem_set hu with h | h
      ·exact hv1 u h
      ·rw [h]; rfl
     ·simp only [setCellsV]
      by_cases e : j = i
      ·subst e
       rw [List.getElem?_set_self (by omega)] at hy ⊢
       simp at hy; rw [hy]
      ·rw [List.getElem?_set_ne (fun x => e x.symm)] at hy ⊢
       exact hvv j y hy
    have hn1 : n = 1 := by rw [← hlen]; rfl
    subst hn1
    obtain ⟨hev, hM'⟩ := zfj (row' := .ints k (xs.set i z)) (o := i) (xs := [Value.int k z]) hM hm hl hfrz hcl (by simp; omega) rfl (by simp [Row.len]) hview
    refine ⟨G, _, ?_, Gle.refl G, hev, by rw [zaI]; exact hM'⟩
    have := hrun i (by omega) (by simp [hcells, Value.oneCell'])
    rw [hcells] at this
    have e0 : i * (Row.ints k xs).e + 0 = i := by simp [Row.e]
    rw [e0]; exact this
   ·simp at h
  ·rename_i β e xs hrw
   simp only at hrw; subst hrw
   rw [bind_some] at h; obtain ⟨p, hp, h⟩ := h
   rw [bind_some] at h; obtain ⟨q, hq, h⟩ := h
   rw [za] at h; obtain ⟨hc, h⟩ := h
   simp only [Bool.and_eq_true, Bool.not_eq_true'] at hc
   obtain ⟨⟨hce, hpl⟩, hnb⟩ := hc
   have hce := bleN.1 hce
   have hpl := beqN.1 hpl
   have hnb : b ∉ q.2.2 := fun hh => by rw [zbO.2 hh] at hnb; cases hnb
   obtain rfl := Option.some.inj h
   refine ⟨rfl, ?_⟩
   obtain ⟨ql, qq⟩ := zcs hM hq hx
   have hM1 := hM.freeze q.2.2
   have hg1 := Gle.frz G (InBoxes G mem q.2.2) hM.inBoxes
   have hm1 : (setMem mem (frozenAt mem q.2.2))[b]? = some (some ⟨gen, frz, .pvs β e xs⟩) := by
    rw [(zO mem q.2.2 mem b rfl).2.1 (.inl hnb)]; exact hm
   have hvs1 : ViewR (G.frz (InBoxes G mem q.2.2)) w (.pvs β e xs) vs := hvs.mono hg1 (Ev.refl G w)
   obtain ⟨hvl, hv1, hxl, hvv⟩ := hvs1
   simp only [View.len, View.e] at hvl
   simp only [Row.e] at he
   have hi := (List.getElem?_eq_some_iff.1 hp).1
   have hpos : i * e + c + n ≤ vs.length := by
    rw [hvl]
    calc i * e + c + n ≤ i * e + e := by omega
     _ = (i + 1) * e := by rw [Nat.add_mul]; simp
     _ ≤ xs.length * e := Nat.mul_le_mul_right _ hi
   have hones : ∀ u ∈ cx.cells.toList, u.oneCell' = true := by
    intro u hu
    obtain ⟨j, hj, rfl⟩ := List.getElem_of_mem hu
    have hj2 : j < q.2.1.cells.length := by rw [ql, hxc.1]; exact hj
    obtain ⟨u', hu', _, h1⟩ := qq j _ (List.getElem?_eq_getElem hj2)
    rw [List.getElem?_eq_getElem hj] at hu'
    obtain rfl := Option.some.inj hu'; exact h1
   generalize hp' : (bif n.beq e && c.beq 0 then q.2.1 else PV.agg (setPVs p.cells c q.2.1.cells)) = p'
   have hp'c : ∀ (j : Nat), p'.cells[j]? = if c ≤ j ∧ j < c + n then q.2.1.cells[j - c]? else p.cells[j]? := by
    intro j
    have hqn : q.2.1.cells.length = n := by rw [ql, hlen]
    cases hcc : (n.beq e && c.beq 0) with
    | true =>
     rw [hcc] at hp'; simp only [cond_true] at hp'; subst hp'
     simp only [Bool.and_eq_true] at hcc
     obtain rfl := beqN.1 hcc.1
     obtain rfl := beqN.1 hcc.2
     by_cases hj : j < n
     ·rw [if_pos (by omega)]; simp
     ·rw [if_neg (by omega), List.getElem?_eq_none (by omega), List.getElem?_eq_none (by omega)]
    | false =>
     rw [hcc] at hp'; simp only [cond_false] at hp'; subst hp'
     show (setPVs p.cells c q.2.1.cells)[j]? = _
     rw [zgm (by omega), hqn]
   have hp'l : p'.cells.length = e := by
    have h1 : p'.cells[e]? = none := by rw [hp'c, if_neg (by omega), List.getElem?_eq_none (by omega)]
    have h2 : ∃ y, p'.cells[e - 1]? = some y := by
     rw [hp'c]
     split
     ·rename_i hh; exact ⟨_, List.getElem?_eq_getElem (by rw [ql, hlen]; omega)⟩
     ·exact ⟨_, List.getElem?_eq_getElem (by omega)⟩
    obtain ⟨y, hy⟩ := h2
    have := (List.getElem?_eq_some_iff.1 hy).1
    have := List.getElem?_eq_none_iff.1 h1
    omega
   have hview : ViewR (G.frz (InBoxes G mem q.2.2)) w (.pvs (β || q.1) e (xs.set i p')) (setCellsV vs (i * e + c) cx.cells.toList) := by
    have hg := fun j => zaT (xs := cx.cells.toList) (vs := vs) (o := i * e + c) (j := j) (by simp [hsz]; omega)
    have hlab1 := hM1.lab
    refine ⟨by simp [View.len, View.e, zas, hvl], fun u hu => ?_, fun x hx => ?_, fun i' x c' y hx hy => ?_⟩
    ·obtain ⟨j, hj, rfl⟩ := List.getElem_of_mem hu
     have hg := hg j
     rw [List.getElem?_eq_getElem hj] at hg
     split at hg
     ·exact hones _ (List.mem_of_getElem? hg.symm)
     ·exact hv1 _ (List.mem_of_getElem? hg.symm)
    ·rcases List.mem_or_eq_of_mem_set hx with h | h
     ·exact hxl x h
     ·rw [h]; exact hp'l
    ·have hc'e : c' < e := by
      have h0 := (List.getElem?_eq_some_iff.1 hy).1
      have : x.cells.length = e := by
       rcases List.mem_or_eq_of_mem_set (List.mem_of_getElem? hx) with h | h
       ·exact hxl x h
       ·rw [h]; exact hp'l
      omega
     rw [hg]
     simp only [Array.length_toList, hsz]
     by_cases hii : i' = i
     ·subst hii
      rw [List.getElem?_set_self hi] at hx
      obtain rfl := Option.some.inj hx
      rw [hp'c] at hy
      by_cases hcc : c ≤ c' ∧ c' < c + n
      ·rw [if_pos hcc] at hy
       rw [if_pos (by omega), show i' * e + c' - (i' * e + c) = c' - c by omega]
       obtain ⟨u, hu, hpu, _⟩ := qq _ y hy
       exact ⟨u, hu, hpu.weak' hlab1⟩
      ·rw [if_neg hcc] at hy
       rw [if_neg (by omega)]
       obtain ⟨u, hu, hpu⟩ := hvv i' p c' y hp hy
       exact ⟨u, hu, hpu.weak hlab1⟩
     ·rw [List.getElem?_set_ne (fun x => hii x.symm)] at hx
      obtain ⟨u, hu, hpu⟩ := hvv i' x c' y hx hy
      refine ⟨u, ?_, hpu.weak hlab1⟩
      rw [if_neg ?_]
      ·exact hu
      ·rintro ⟨h1, h2⟩
       rcases Nat.lt_or_gt_of_ne hii with hlt | hlt
       ·have : i' * e + e ≤ i * e := by
         calc i' * e + e = (i' + 1) * e := by rw [Nat.add_mul]; simp
          _ ≤ i * e := Nat.mul_le_mul_right _ hlt
        omega
       ·have : i * e + e ≤ i' * e := by
         calc i * e + e = (i + 1) * e := by rw [Nat.add_mul]; simp
          _ ≤ i' * e := Nat.mul_le_mul_right _ hlt
        omega
   obtain ⟨hev, hM'⟩ := zfj (row' := .pvs (β || q.1) e (xs.set i p')) (o := i * e + c) (xs := cx.cells.toList) hM1 hm1 hl hfrz hcl (by simp [hsz]; omega) rfl (by simp [Row.len]) hview
   refine ⟨_, _, hrun _ (by show i * e + c + n ≤ _; omega) hones, hg1, ?_, by rw [zmj]; exact hM'⟩
   have hjj : ∀ j, j < cx.cells.toList.length → i * e + c + j < vs.length := fun j hj => by simp [hsz] at hj; omega
   exact Ev.setCells hmine (fun j hj => by show (cl w B (i * e + c + j)).isSome = true; rw [hcl _ (hjj j hj), List.getElem?_eq_getElem (hjj j hj)]; rfl) (hpr hfrz)
 ·simp at h
end
end Go.Ab
end
section
/- Appends. -/
set_option linter.unusedVariables false
set_option linter.unusedSectionVars false
set_option linter.unusedSimpArgs false
namespace Go.Ab
variable [GTab]
section
variable {P : Program}
structure ElemOk (P : Program) (t et : TypeId) (s : Nat) (i : TypeInfo) (z : Value) : Prop where
 under : P.underlying t = some (.slice et)
 info : P.info? et = some i
 size : i.size = s
 zero : i.zero = some z
 zsize : z.cells.size = s
 bytes : i.bytes ≤ 4096
 one : 1 ≤ s
theorem zeq {n bytes : Nat} (hn : n ≤ mostLen) (hb : bytes ≤ 4096) : n * bytes ≤ 140737488355328 := by
 have : n * bytes ≤ n * 4096 := Nat.mul_le_mul_left n hb
 unfold mostLen at hn
 omega
theorem zkF {G : Gh} {w w1 : World} {mem : Mem} {b g' : Nat} {row' : Row} {B' : Nat} {vs : List Value} (hM : MemR G w mem) (hb : b < mem.length) (hev : Ev G w w1) (hno : ∀ g, g' ≤ g → G.loc b g = none)
  (he : 1 ≤ row'.e) (hmine : G.mine B') (hB : B' < w1.heap.size) (hfz : Free w1 B') (hpr : ∀ β o, ¬ G.prot β B' o)
  (hother : ∀ (b' : Nat) (y : Box) (Lb : Loc) (B : Nat), b' ≠ b → mem[b']? = some (some y) → G.loc b' y.gen = some Lb → Lb.blk = some B → w1.heap[B]? = w.heap[B]? ∧ B ≠ B')
  (hv : ViewR G w row'.all vs) (hcl : ∀ j u, vs[j]? = some u → cl w1 B' j = some u) :
  ∃ G', Gle G G' ∧ G'.loc b g' = some ⟨some B', row'.e, row'.len⟩ ∧ MemR G' w1 (mem.set b (some { gen := g', frz := false, row := row' })) := by
 have hg : Gle G (G.put b g' ⟨some B', row'.e, row'.len⟩) := Gle.put (.inl (hno g' (Nat.le_refl _)))
 refine ⟨_, hg, Gh.put_self .., hM.upd (x' := { gen := g', frz := false, row := row' }) hev hb (.inl (hno g' (Nat.le_refl _))) (fun b' y Lb B hne hy hl hk => (hother b' y Lb B hne hy hl hk).1) ?_ (fun g hg => hno g (Nat.le_of_lt hg)) ?_⟩
 ·intro B hB' b' y Lb hne hy hl hk
  simp only [Option.some.injEq] at hB'; subst hB'
  exact (hother b' y Lb B' hne hy hl hk).2 rfl
 ·exact ⟨he, some B', Gh.put_self .., hmine, hB, hfz, RowR.ofList (hv.mono hg hev) hcl, fun _ => hpr⟩
theorem ziq {G : Gh} {w : World} {mem : Mem} {b g' : Nat} {row' : Row} (hM : MemR G w mem) (hb : b < mem.length) (hno : ∀ g, g' ≤ g → G.loc b g = none)
  (he : 1 ≤ row'.e) (hz : row'.len = 0) (hc : row'.isCells = false) :
  ∃ G', Gle G G' ∧ G'.loc b g' = some ⟨none, row'.e, row'.len⟩ ∧ MemR G' w (mem.set b (some { gen := g', frz := false, row := row' })) := by
 have hg : Gle G (G.put b g' ⟨none, row'.e, row'.len⟩) := Gle.put (.inl (hno g' (Nat.le_refl _)))
 refine ⟨_, hg, Gh.put_self .., hM.upd (x' := { gen := g', frz := false, row := row' }) (Ev.refl G w) hb (.inl (hno g' (Nat.le_refl _))) (fun b' y Lb B hne hy hl hk => rfl) ?_ (fun g hg => hno g (Nat.le_of_lt hg)) ?_⟩
 ·intro B hB'; cases hB'
 ·exact ⟨he, none, Gh.put_self .., hz, hc⟩
theorem zbX (w : World) (c : Array Value) (t : TypeId) : (∀ B, B < w.heap.size → (w.drew.alloc (.cells c t)).heap[B]? = w.heap[B]?) ∧ (w.drew.alloc (.cells c t)).heap.size = w.heap.size + 1 ∧
  (∀ j, cl (w.drew.alloc (.cells c t)) w.heap.size j = c[j]?) ∧ Free (w.drew.alloc (.cells c t)) w.heap.size := by
 refine ⟨fun B hB => ?_, by simp, fun j => ?_, ?_⟩
 ·have := zaa (w := w.drew) (o := .cells c t) (B := B) (by simpa using hB)
  rw [this]; rfl
 ·have := zbc (w := w.drew) (c := c) (t := t) (fr := (0, 0)) (j := j)
  simpa using this
 ·exact Free.alloc (w := w.drew)
theorem Ev.drew_alloc (G : Gh) (w : World) (o : Obj) (hp : ∀ β B x, G.prot β B x → B < w.heap.size) (ho : ∃ c t, o = .cells c t := by exact ⟨_, _, rfl⟩) : Ev G w (w.drew.alloc o) :=
 (Ev.drew G w).trans (Gle.refl G) (Ev.alloc G w.drew o hp ho)
theorem zkW {G : Gh} {w : World} {mem : Mem} {b g' : Nat} {row' : Row} {t et ty tx : TypeId} {s : Nat} {i : TypeInfo} {z : Value} {base : Option Addr} {len cap n : Nat} {olds news : List Value} {y : Value}
    (hM : MemR G w mem) (hb : b < mem.length) (hno : ∀ g, g' ≤ g → G.loc b g = none) (hE : ElemOk P t et s i z)
    (hold : (Builtin.firstCells i.size len (.slice base len cap)).run P w.drew = .ok olds.toArray w.drew) (hol : olds.length = len * s) (hs : Src P s tx y n news w)
    (hgrow : cap < len + n) (hmost : len + n ≤ mostLen) (he : row'.e = s) (hlen : row'.len = len + n) (hv : ViewR G w row'.all (olds ++ news)) :
    ∃ G' w1 cv, (Builtin.append_ #[t, tx] ty #[.slice base len cap, y]).run P w = .ok cv w1 ∧ VR G' w1 (.msw b g') cv ∧ Gle G G' ∧ Ev G w w1 ∧ MemR G' w1 (mem.set b (some { gen := g', frz := false, row := row' })) := by
  have hfit := growslice_fits (bytes := i.bytes) hgrow (zeq hmost hE.bytes)
  have hrun := run_append_grow_src (P := P) w t tx ty et i z hE.under hE.info hE.zero base len cap olds hold y n news (by rw [hE.size]; exact hs) hgrow (by unfold mostLen at hmost; omega) hfit
  generalize hc : (olds ++ news).toArray ++ Builtin.zeroCells z.cells (grownCap w (len + n) cap et - (len + n)) = c at hrun
  obtain ⟨f1, f2, f3, f4⟩ := zbX w c et
  have hev := Ev.drew_alloc G w (.cells c et) hM.away
  have hcap : len + n ≤ grownCap w (len + n) cap et := grownCap_ge w _ _ _
  have hcl : ∀ j u, (olds ++ news)[j]? = some u → cl (w.drew.alloc (.cells c et)) w.heap.size j = some u := by
    intro j u hu
    rw [f3, ← hc, Array.getElem?_append_left (by simpa using (List.getElem?_eq_some_iff.1 hu).1)]
    simpa using hu
  obtain ⟨G', hg, hl, hM'⟩ := zkF (row' := row') (B' := w.heap.size) (vs := olds ++ news) hM hb hev hno (by rw [he]; exact hE.one) (hM.own _ (Nat.le_refl _)) (by rw [f2]; omega) f4
    (fun β o hp => absurd (hM.away β _ o hp) (Nat.lt_irrefl _)) (fun b' y' Lb B hne hy hl hk => by
      obtain ⟨o, hl', hm⟩ := (hM.box b' y' hy).loc
      rw [hl] at hl'
      obtain rfl := Option.some.inj hl'
      simp only at hk; subst hk
      exact ⟨f1 B hm.2.1, Nat.ne_of_lt hm.2.1⟩) hv hcl
  refine ⟨G', _, _, hrun, ?_, hg, hev, hM'⟩
  generalize grownCap w (len + n) cap et = C at hc hcap ⊢
  have hk : VR G' (w.drew.alloc (.cells c et)) (.msw b g') (.slice (some ⟨w.heap.size, 0, none⟩) row'.len C) := by
   refine .msw b g' _ _ w.heap.size hl rfl (by simp only; rw [hlen]; exact hcap) (fun j hj => ?_)
   simp only [he] at hj
   rw [f3, ← hc]
   have hn := hs.newsLen
   rw [Array.getElem?_eq_getElem (by
    simp only [Array.size_append, List.size_toArray, List.length_append, size_zeroCells, hol, hn, hE.zsize]
    rw [← Nat.add_mul, ← Nat.add_mul]
    exact Nat.lt_of_lt_of_le hj (Nat.mul_le_mul_right _ (by omega)))]
   rfl
  rw [hlen] at hk; exact hk
theorem zhj {G : Gh} {w : World} {mem : Mem} {b : Nat} {x : Box} {xv yv zv : View} {B cap : Nat} {vs0 news : List Value} {t et ty tx : TypeId} {s : Nat} {i : TypeInfo} {z : Value} {y : Value}
  (hM : MemR G w mem) (hx : mem[b]? = some (some x)) (hl : G.loc b x.gen = some ⟨some B, x.row.e, x.row.len⟩) (hfrz : x.frz = false) (hE : ElemOk P t et s i z) (hse : s = x.row.e)
  (hxe : xv.e = s) (hx0 : ViewR G w xv vs0) (hcl0 : ∀ j u, vs0[j]? = some u → cl w B j = some u) (hcap : xv.len ≤ cap) (hfit : Fits w B (cap * s))
  (hs : Src P s tx y yv.len news w) (hnews : ViewR G w yv news) (happ : xv.app P et yv = some zv) (hmost : zv.len ≤ mostLen) :
  ∃ G' w1 cv, (Builtin.append_ #[t, tx] ty #[.slice (some ⟨B, 0, none⟩) xv.len cap, y]).run P w = .ok cv w1 ∧ VR G' w1 (.msw b (x.gen + 1)) cv ∧ Gle G G' ∧ Ev G w w1 ∧
   MemR G' w1 (mem.set b (some { gen := x.gen + 1, frz := false, row := zv.row })) := by
 have hbl : b < mem.length := (List.getElem?_eq_some_iff.1 hx).1
 have hno : ∀ g, x.gen + 1 ≤ g → G.loc b g = none := fun g hg => hM.gens b x g hx hg
 obtain ⟨hz, hze, hze2, hzl⟩ := ziI hM.lab happ hx0 hnews
 have hv0 : vs0.length = xv.len * s := by rw [hx0.1, hxe]
 have hnl := hs.newsLen
 by_cases hroom : xv.len + yv.len ≤ cap
 ·obtain ⟨oo, hl', hm⟩ := (hM.box b x hx).loc
  rw [hl] at hl'
  obtain rfl : some B = oo := by simpa using hl'
  obtain ⟨h1, h2, h3, h4, h5⟩ := hm
  have hsome : ∀ j, j < news.length → (cl w B (xv.len * s + j)).isSome = true := by
   intro j hj
   refine hfit _ ?_
   rw [hnl] at hj
   calc xv.len * s + j < xv.len * s + yv.len * s := by omega
    _ = (xv.len + yv.len) * s := by rw [Nat.add_mul]
    _ ≤ cap * s := Nat.mul_le_mul_right _ hroom
  have hrun := run_append_room_src (P := P) w t tx ty et i hE.under hE.info B 0 xv.len cap y yv.len news (by rw [hE.size]; exact hs) hroom
   (fun j hj => by rw [hE.size, Nat.zero_add]; exact hsome j hj) (fun j hj => by rw [hE.size, Nat.zero_add]; exact h3.cell (hsome j hj))
  rw [hE.size, Nat.zero_add] at hrun
  have hev := Ev.setCells (G := G) (vs := news) h1 hsome (h5 hfrz)
  have hcl : ∀ j u, (vs0 ++ news)[j]? = some u → cl (w.setCells B (xv.len * s) news) B j = some u := by
   intro j u hu
   by_cases hj : j < vs0.length
   ·rw [List.getElem?_append_left hj] at hu
    rw [zaZ (by rw [← hv0]; exact .inl hj)]; exact hcl0 j u hu
   ·rw [List.getElem?_append_right (by omega)] at hu
    obtain ⟨k, rfl⟩ : ∃ k, j = xv.len * s + k := ⟨j - vs0.length, by omega⟩
    rw [hv0, Nat.add_sub_cancel_left] at hu
    have hk := (List.getElem?_eq_some_iff.1 hu).1
    rw [zbk hsome hk]
    rw [List.getElem?_eq_getElem hk] at hu; exact hu
  obtain ⟨G', hg, hl2, hM'⟩ := zkF (row' := zv.row) (B' := B) (vs := vs0 ++ news) hM hbl hev hno (by rw [zaw, hze, hxe]; exact hE.one) h1 (by rw [zaQ]; exact h2)
   h3.setCells
   (h5 hfrz) (fun b' y' Lb B2 hne hy hl3 hk => by
    have hneB : B2 ≠ B := fun hB => by subst hB; exact hne (hM.apart b' b y' x Lb _ B2 hy hx hl3 hl hk rfl)
    exact ⟨zK (w := w) hneB news _ w, hneB⟩)
   (by rw [zaG]; exact hz) hcl
  refine ⟨G', _, _, hrun, ?_, hg, hev, hM'⟩
  have hk : VR G' (w.setCells B (xv.len * s) news) (.msw b (x.gen + 1)) (.slice (some ⟨B, 0, none⟩) zv.row.len cap) := by
   refine .msw b (x.gen + 1) cap _ B hl2 rfl (by simp only; rw [zY, hzl]; exact hroom) ?_
   simp only [zaw, hze, hxe]
   exact hfit.mono hev
  rw [zY, hzl] at hk; exact hk
 ·refine zkW (row' := zv.row) (olds := vs0) (s := s) hM hbl hno hE ?_ hv0 hs (by omega) (by rw [← hzl]; exact hmost) (by rw [zaw, hze, hxe]) (by rw [zY, hzl]) (by rw [zaG]; exact hz)
  rw [hE.size]
  exact run_firstCells_some w.drew s xv.len ⟨B, 0, none⟩ xv.len cap vs0 hv0 (fun j u hu => by rw [zH, Nat.zero_add]; exact hcl0 j u hu)
theorem zfM {G : Gh} {w : World} {mem : Mem} {b g' : Nat} {row' : Row} {n : Nat} {news : List Value} {t et ty tx : TypeId} {s : Nat} {i : TypeInfo} {z : Value} {y : Value}
  (hM : MemR G w mem) (hb : b < mem.length) (hno : ∀ g, g' ≤ g → G.loc b g = none) (hE : ElemOk P t et s i z) (hs : Src P s tx y n news w) (hn : n ≤ mostLen) (he : row'.e = s) (hlen : row'.len = n) (hv : ViewR G w row'.all news)
  (hc : n = 0 → row'.isCells = false) :
  ∃ G' w1 cv, (Builtin.append_ #[t, tx] ty #[.slice none 0 0, y]).run P w = .ok cv w1 ∧ VR G' w1 (.msw b g') cv ∧ Gle G G' ∧ Ev G w w1 ∧
   MemR G' w1 (mem.set b (some { gen := g', frz := false, row := row' })) := by
 by_cases h0 : n = 0
 ·subst h0
  have hnews : news = [] := List.eq_nil_of_length_eq_zero (by rw [hs.newsLen]; simp)
  subst hnews
  obtain ⟨G', hg, hl, hM'⟩ := ziq (row' := row') hM hb hno (by rw [he]; exact hE.one) hlen (hc rfl)
  exact ⟨G', w, _, run_append_nothing (P := P) w t tx ty et i hE.under hE.info none 0 0 (Nat.le_refl _) y (by rw [hE.size]; exact hs), .mswNil b g' _ hl rfl hlen, hg, Ev.refl G w, hM'⟩
 ·exact zkW (row' := row') (olds := []) (base := none) (len := 0) (cap := 0) hM hb hno hE (run_firstCells_none w.drew i.size 0 0 0) (by simp) hs (by omega) (by omega) he (by omega) (by simpa using hv)
end
end Go.Ab
end
section
/- Slices in new blocks that are never written again; appends as they stand. -/
set_option linter.unusedVariables false
set_option linter.unusedSectionVars false
set_option linter.unusedSimpArgs false
namespace Go.Ab
variable [GTab]
theorem MemR.protect {G : Gh} {w : World} {mem : Mem} (hM : MemR G w mem) (S : Nat → Nat → Prop) (hS : ∀ B o, S B o → B < w.heap.size ∧ G.mine B ∧ ∀ (b : Nat) (x : Box) (e n : Nat), mem[b]? = some (some x) → x.frz = false → G.loc b x.gen ≠ some ⟨some B, e, n⟩) :
  MemR (G.frz S) w mem := by
 refine ⟨fun b x h => ?_, hM.unset, hM.gens, hM.apart, hM.own, fun B o h => h.imp (hM.lab B o) id, fun β B o h => h.elim (hM.away β B o) (fun h => (hS B o h).1), hM.glob.mono (fun _ _ h => .inl h) fun _ _ _ => rfl⟩
 have hx := hM.box b x h
 obtain ⟨o, hl, hm⟩ := hx.loc
 refine ⟨hx.e, o, hl, ?_⟩
 cases o with
 | none => exact hm
 | some B =>
  obtain ⟨h1, h2, h3, h4, h5⟩ := hm
  refine ⟨h1, h2, h3, h4.mono (Gle.frz G S fun B o h => (hS B o h).2.1) (Ev.refl G w) (fun _ _ => rfl), fun hf β o hp => ?_⟩
  rcases hp with hp | hp
  ·exact h5 hf β o hp
  ·exact (hS B o hp).2.2 b x _ _ h hf hl
theorem MemR.new_tree {G : Gh} {w w1 : World} {mem : Mem} (hM : MemR G w mem) (hev : Ev G w w1) (hlt : ∀ B, B < w.heap.size → w1.heap[B]? = w.heap[B]?) (hsz : w1.heap.size = w.heap.size + 1) :
  MemR (G.frz fun B _ => B = w.heap.size) w1 mem := by
 refine (hM.ev hev (.inr hev.size) hlt).protect _ fun B o h => ?_
 subst h
 refine ⟨by omega, hM.own _ (Nat.le_refl _), fun b x e n hx _ hl => ?_⟩
 obtain ⟨o, hl', hm⟩ := (hM.box b x hx).loc
 rw [hl] at hl'
 have := congrArg Loc.blk (Option.some.inj hl')
 simp only at this; subst this
 exact Nat.lt_irrefl _ hm.2.1
theorem zfz {G : Gh} {w : World} {v : View} {a : AV} {vs : List Value} {B cap : Nat} (hv : ViewR G w v vs) (ha : v.imm? = some a) (he : 1 ≤ v.e) (hcl : ∀ j u, vs[j]? = some u → cl w B j = some u)
  (hp : ∀ β o, G.prot β B o) (hcap : v.len ≤ cap) : VR G w a (.slice (some ⟨B, 0, none⟩) v.len cap) := by
 cases v with
 | ints k xs =>
  obtain rfl := Option.some.inj ha
  obtain ⟨_, _, h⟩ := hv
  exact .imm _ _ _ (.ints k xs B 0 cap hcap fun i x hx => by rw [Nat.zero_add]; exact ⟨hcl _ _ (h i x hx), hp _ _⟩) rfl
 | pvs β e xs =>
  obtain rfl := Option.some.inj ha
  obtain ⟨_, h1, h2, h⟩ := hv
  have key : ∀ (i : Nat) (x : PV) (c : Nat) (y : PV), xs[i]? = some x → x.cells[c]? = some y → vs[i * e + c]? = some (vs.getD (i * e + c) undef) ∧ PR w (G.prot β) y (vs.getD (i * e + c) undef) := by
   intro i x c y hx hy
   obtain ⟨u, hu, hpr⟩ := h i x c y hx hy
   rw [List.getD_eq_getElem?_getD, hu]; exact ⟨rfl, hpr⟩
  exact .imm _ _ _ (.sl e xs B 0 cap (fun i c => vs.getD (i * e + c) undef) he hcap h2 (fun i x c y hx hy => by rw [Nat.zero_add]; exact ⟨hcl _ _ (key i x c y hx hy).1, hp _ _⟩)
   (fun i x c y hx hy => h1 _ (List.mem_of_getElem? (key i x c y hx hy).1)) (fun i x c y hx hy => (key i x c y hx hy).2)) rfl
 | avs e cs => simp [View.imm?] at ha
theorem zkQ {G : Gh} {w : World} {v : View} {a : AV} (ha : v.imm? = some a) (hz : v.len = 0) : VR G w a (.slice none 0 0) := by
 cases v with
 | ints k xs =>
  obtain rfl := Option.some.inj ha
  obtain rfl := List.eq_nil_of_length_eq_zero hz
  exact .imm _ _ _ (.intsNil k _) rfl
 | pvs β e xs =>
  obtain rfl := Option.some.inj ha
  obtain rfl := List.eq_nil_of_length_eq_zero hz
  exact .imm _ _ _ (.slNil e _) rfl
 | avs e cs => simp [View.imm?] at ha
section
variable {P : Program}
theorem zmw {t et : TypeId} {s bytes : Nat} {z : AV} (h1 : elemOf? P t = some et) (h2 : tsz P et = some s) (h3 : tbytes P et = some bytes) (h4 : zero? P et = some z) (h5 : bytes ≤ 4096) (h6 : 1 ≤ s) (h7 : z.cells.length = s) :
  ∃ i zv, ElemOk P t et s i zv := by
 obtain ⟨i, zv, hi, hz, hov⟩ := zbR h4
 have hu : P.underlying t = some (.slice et) := by
  unfold elemOf? at h1
  split at h1
  ·obtain rfl := Option.some.inj h1; assumption
  ·simp at h1
 have hvr := (zbT (G := ⟨fun _ _ => none, fun _ _ _ => False, fun _ => False⟩) (w := default) hov).cells
 refine ⟨i, zv, hu, hi, ?_, hz, ?_, ?_, h6⟩
 ·unfold tsz at h2; rw [hi] at h2; simpa using h2
 ·rw [← h7, hvr.1]; simp
 ·unfold tbytes at h3; rw [hi] at h3; simp at h3; omega
theorem zhY {G : Gh} {w : World} {vars : Bool} {et : TypeId} {v : View} {row : Row} {vs : List Value} (h : newRowOf P vars et v = some row) (hv : ViewR G w v vs) (he : 1 ≤ v.e) :
  row.e = v.e ∧ row.len = v.len ∧ ViewR G w row.all vs ∧ (v.len = 0 → row.isCells = false) := by
 unfold newRowOf at h
 cases vars with
 | true =>
  simp only [cond_true] at h
  rw [za] at h; obtain ⟨hl, h⟩ := h
  have hl := bleN.1 hl
  rw [bind_some] at h; obtain ⟨cs, hcs, h⟩ := h
  rw [za] at h; obtain ⟨h1, h⟩ := h
  obtain rfl := Option.some.inj h
  have hL := zfO hcs hv
  have hc : cs.length = v.len * v.e := by rw [hL.1, hv.1]
  refine ⟨rfl, ?_, ViewR.ofLRs hL h1 ?_, fun h0 => by omega⟩
  ·show countBy v.e cs.length = v.len
   rw [hc, zai (n := 0) he]
  ·rw [hc, zai (n := 0) he]
 | false =>
  simp only [cond_false] at h
  split at h
  ·simp at h
  ·rename_i hne
   obtain rfl := Option.some.inj h
   refine ⟨zaw _, zY _, by rw [zaG]; exact hv, fun _ => ?_⟩
   cases v with
   | avs e cs => exact absurd rfl (hne e cs)
   | ints k xs => rfl
   | pvs β e xs => rfl
theorem zkS {et : TypeId} {x y z : View} (h : x.app P et y = some z) (hx : x.row.isCells = false) : z.row.isCells = false := by
 unfold View.app at h
 split at h
 ·rw [za] at h; obtain ⟨_, h⟩ := h; obtain rfl := Option.some.inj h; rfl
 ·rw [za] at h; obtain ⟨_, h⟩ := h; obtain rfl := Option.some.inj h; rfl
 ·simp [View.row, Row.isCells] at hx
 ·simp at h
theorem zka {r : Row} {o n : Nat} {v : View} (h : r.sub o n = some v) (hr : r.isCells = false) : v.row.isCells = false := by
 cases r with
 | ints k xs => simp only [Row.sub] at h; rw [za] at h; obtain ⟨_, h⟩ := h; obtain rfl := Option.some.inj h; rfl
 | pvs β e xs => simp only [Row.sub] at h; rw [za] at h; obtain ⟨_, h⟩ := h; obtain rfl := Option.some.inj h; rfl
 | cells e cs => simp [Row.isCells] at hr
theorem zjN {r : Row} (hr : r.isCells = false) : r.all.row.isCells = false := by rw [zkR]; exact hr
theorem zdb {G : Gh} {w : World} {mem : Mem} {b : Nat} {x : Box} {xv yv zv : View} {news : List Value} {t et ty tx : TypeId} {s : Nat} {i : TypeInfo} {z : Value} {y : Value}
  (hM : MemR G w mem) (hx : mem[b]? = some (some x)) (hE : ElemOk P t et s i z) (hxe : xv.e = s) (hx0 : xv.len = 0) (hxc : xv.row.isCells = false) (hvx : ViewR G w xv [])
  (hs : Src P s tx y yv.len news w) (hnews : ViewR G w yv news) (happ : xv.app P et yv = some zv) (hmost : zv.len ≤ mostLen) :
  ∃ G' w1 cv, (Builtin.append_ #[t, tx] ty #[.slice none 0 0, y]).run P w = .ok cv w1 ∧ VR G' w1 (.msw b (x.gen + 1)) cv ∧ Gle G G' ∧ Ev G w w1 ∧
   MemR G' w1 (mem.set b (some { gen := x.gen + 1, frz := false, row := zv.row })) := by
 obtain ⟨hz, hze, _, hzl⟩ := ziI hM.lab happ hvx hnews
 exact zfM hM (List.getElem?_eq_some_iff.1 hx).1 (fun g hg => hM.gens b x g hx hg) hE hs (by omega) (by rw [zaw, hze, hxe]) (by rw [zY]; omega) (by rw [zaG]; simpa using hz) (fun _ => zkS happ hxc)
theorem ViewR.nilOf {G : Gh} {w : World} {v : View} (h0 : v.len = 0) (hc : v.row.isCells = false) : ViewR G w v [] := by
 cases v with
 | ints k xs =>
  obtain rfl := List.eq_nil_of_length_eq_zero h0
  exact ⟨rfl, by simp, by simp⟩
 | pvs β e xs =>
  obtain rfl := List.eq_nil_of_length_eq_zero h0
  exact ⟨by simp [View.len], by simp, by simp⟩
 | avs e cs => simp [View.row, Row.isCells] at hc
theorem zoT {r : Row} {o n : Nat} {v : View} (he : 1 ≤ r.e) (h : r.sub o n = some v) : v.len = n := by
 cases r with
 | ints k xs =>
  simp only [Row.sub] at h; rw [za] at h; obtain ⟨hl, h⟩ := h; obtain rfl := Option.some.inj h
  have := bleN.1 hl
  simp [View.len]; omega
 | pvs β e xs =>
  simp only [Row.sub] at h; rw [za] at h; obtain ⟨hl, h⟩ := h; obtain rfl := Option.some.inj h
  have := bleN.1 hl
  simp [View.len]; omega
 | cells e cs =>
  simp only [Row.sub] at h; rw [za] at h; obtain ⟨hl, h⟩ := h; obtain rfl := Option.some.inj h
  have hl := bleN.1 hl
  rw [Nat.add_mul] at hl
  have : ((cs.drop (o * e)).take (n * e)).length = n * e := by simp; omega
  simp only [View.len]
  rw [this]
  exact zai (n := 0) he n
theorem zhZ {G : Gh} {w : World} {mem : Mem} {boxed vars : Bool} {t tx ty : TypeId} {rs : Nat} {x y : AV} {out : Out} {cx cy : Value} (hM : MemR G w mem) (hrs : mem[rs]? = some none)
  (h : appendA P boxed vars t tx mem rs x y = some out) (hx : VR G w x cx) (hy : VR G w y cy) :
  ∃ G' w1 cv, (Builtin.append_ #[t, tx] ty #[cx, cy]).run P w = .ok cv w1 ∧ VR G' w1 out.v cv ∧ Gle G G' ∧ Ev G w w1 ∧ MemR G' w1 (out.apply mem) := by
 unfold appendA at h
 rw [bind_some] at h; obtain ⟨et, het, h⟩ := h
 rw [bind_some] at h; obtain ⟨s, hs, h⟩ := h
 rw [bind_some] at h; obtain ⟨bytes, hby, h⟩ := h
 rw [bind_some] at h; obtain ⟨z, hz, h⟩ := h
 rw [bind_some] at h; obtain ⟨yv, hyv, h⟩ := h
 rw [za] at h; obtain ⟨hg, h⟩ := h
 simp only [Bool.and_eq_true] at hg
 obtain ⟨⟨⟨⟨g1, g2⟩, g3⟩, g4⟩, g5⟩ := hg
 have g1 := beqN.1 g1; have g3 := bleN.1 g3; have g4 := bleN.1 g4; have g5 := beqN.1 g5
 obtain ⟨i, zv0, hE⟩ := zmw het hs hby hz g3 g4 g5
 obtain ⟨news, hsrc, hnews⟩ := zhR hM hyv hy (by rw [← g1]; exact hs) g2
 rw [← g1] at hsrc
 split at h
 ·obtain rfl := hx.lit_inv
  rw [za] at h; obtain ⟨hml, h⟩ := h
  have hml := bleN.1 hml
  have hno : ∀ g, 0 ≤ g → G.loc rs g = none := fun g _ => hM.unset rs g (fun x hx => by rw [hrs] at hx; cases hx)
  have hrl := (List.getElem?_eq_some_iff.1 hrs).1
  cases boxed with
  | true =>
   simp only [cond_true] at h
   obtain ⟨row, hrow, rfl⟩ := Option.map_eq_some_iff.1 h
   obtain ⟨r1, r2, r3, r4⟩ := zhY hrow hnews (by omega)
   rw [zaI]
   exact zfM hM hrl hno hE hsrc hml (by rw [r1, g1]) r2 r3 r4
  | false =>
   simp only [cond_false] at h
   obtain ⟨v, hv, rfl⟩ := Option.map_eq_some_iff.1 h
   rw [zhU]
   by_cases h0 : yv.1.len = 0
   ·rw [h0] at hsrc
    have hnn : news = [] := List.eq_nil_of_length_eq_zero (by rw [hsrc.newsLen]; simp)
    subst hnn
    exact ⟨G, w, _, run_append_nothing (P := P) w t tx ty et i hE.under hE.info none 0 0 (Nat.le_refl _) cy (by rw [hE.size]; exact hsrc), zkQ hv h0, Gle.refl G, Ev.refl G w, hM⟩
   ·have hrun := run_append_grow_src (P := P) w t tx ty et i zv0 hE.under hE.info hE.zero none 0 0 [] (run_firstCells_none w.drew i.size 0 0 0) cy yv.1.len news (by rw [hE.size]; exact hsrc) (by omega)
     (by unfold mostLen at hml; omega) (growslice_fits (bytes := i.bytes) (by omega) (zeq (by omega) hE.bytes))
    generalize hc : ([] ++ news).toArray ++ Builtin.zeroCells zv0.cells (grownCap w (0 + yv.1.len) 0 et - (0 + yv.1.len)) = c at hrun
    obtain ⟨f1, f2, f3, f4⟩ := zbX w c et
    have hev := Ev.drew_alloc G w (.cells c et) hM.away
    have hM' := hM.new_tree hev f1 f2
    have hg := Gle.frz G (fun B _ => B = w.heap.size) (fun B _ h => by subst h; exact hM.own _ (Nat.le_refl _))
    refine ⟨_, _, _, hrun, ?_, hg, hev, hM'⟩
    have hcap : 0 + yv.1.len ≤ grownCap w (0 + yv.1.len) 0 et := grownCap_ge w _ _ _
    generalize grownCap w (0 + yv.1.len) 0 et = C at hc hcap ⊢
    rw [Nat.zero_add] at hcap ⊢
    refine zfz (vs := news) (hnews.mono hg hev) hv (by omega) (fun j u hu => ?_) (fun β o => .inr rfl) hcap
    rw [f3, ← hc, Array.getElem?_append_left (by simpa using (List.getElem?_eq_some_iff.1 hu).1)]
    simpa using hu
 ·rename_i b g
  rw [bind_some] at h; obtain ⟨bx, hbx, h⟩ := h
  rw [bind_some] at h; obtain ⟨zv, hzv, h⟩ := h
  rw [za] at h; obtain ⟨hc, h⟩ := h
  simp only [Bool.and_eq_true, Bool.not_eq_true'] at hc
  obtain ⟨⟨c1, c2⟩, c3⟩ := hc
  have c2 := beqN.1 c2; have c3 := bleN.1 c3
  obtain rfl := Option.some.inj h
  rw [zaI]
  obtain ⟨hm, rfl⟩ := box?_some hbx
  have he := (hM.box b bx hm).e
  cases hx with
  | msw _ _ cap L B hl hb hn hf =>
   obtain ⟨o, hl', hmm⟩ := (hM.box b bx hm).loc
   have hLL := hl
   rw [hl'] at hLL
   obtain rfl := Option.some.inj hLL
   simp only at hb; subst hb
   obtain ⟨h1, h2, h3, h4, h5⟩ := hmm
   obtain ⟨vs, hvs, hcl'⟩ := h4.toList he
   have hcl : ∀ j u, vs[j]? = some u → cl w B j = some u := fun j u hu => by rw [hcl' j (List.getElem?_eq_some_iff.1 hu).1]; exact hu
   have := zhj (P := P) (ty := ty) (xv := bx.row.all) (cap := cap) hM hm hl' c1 hE c2 (by rw [zbZ, c2]) hvs hcl (by rw [zD]; exact hn) (by rw [c2]; exact hf) hsrc hnews hzv c3
   rw [zD] at this
   exact this
  | mswNil _ _ L hl hb hn =>
   obtain ⟨o, hl', hmm⟩ := (hM.box b bx hm).loc
   have hLL := hl
   rw [hl'] at hLL
   obtain rfl := Option.some.inj hLL
   simp only at hb; subst hb
   have hc0 := zjN hmm.2
   have hl0 : bx.row.all.len = 0 := by rw [zD]; exact hmm.1
   exact zdb hM hm hE (by rw [zbZ, c2]) hl0 hc0 (ViewR.nilOf hl0 hc0) hsrc hnews hzv c3
 ·rename_i b g n
  rw [bind_some] at h; obtain ⟨bx, hbx, h⟩ := h
  rw [bind_some] at h; obtain ⟨xv, hxv, h⟩ := h
  rw [bind_some] at h; obtain ⟨zv, hzv, h⟩ := h
  rw [za] at h; obtain ⟨hc, h⟩ := h
  simp only [Bool.and_eq_true, Bool.not_eq_true'] at hc
  obtain ⟨⟨c1, c2⟩, c3⟩ := hc
  have c2 := beqN.1 c2; have c3 := bleN.1 c3
  obtain rfl := Option.some.inj h
  rw [zaI]
  obtain ⟨hm, rfl⟩ := box?_some hbx
  have he := (hM.box b bx hm).e
  have hxl := zoT he hxv
  have hxe := znN hxv
  cases hx with
  | ms _ _ _ _ cap L B hl hb hn hon hf =>
   obtain ⟨o, hl', hmm⟩ := (hM.box b bx hm).loc
   have hLL := hl
   rw [hl'] at hLL
   obtain rfl := Option.some.inj hLL
   simp only at hb; subst hb
   obtain ⟨h1, h2, h3, h4, h5⟩ := hmm
   obtain ⟨vs, hvs, hcl'⟩ := h4.toList he
   have hcl : ∀ j u, vs[j]? = some u → cl w B j = some u := fun j u hu => by rw [hcl' j (List.getElem?_eq_some_iff.1 hu).1]; exact hu
   have hsub := zdl he hxv hvs
   simp only [Nat.zero_add] at hf
   have hw0 : ViewR G w xv (vs.take (n * bx.row.e)) := by simpa using hsub.1
   have := zhj (P := P) (ty := ty) (cap := cap) hM hm hl' c1 hE c2 (by rw [hxe, c2]) hw0
    (fun j u hu => by
     refine hcl j u ?_
     have hj := (List.getElem?_eq_some_iff.1 hu).1
     rw [List.length_take] at hj
     rw [List.getElem?_take, if_pos (by omega)] at hu; exact hu) (by rw [hxl]; exact hn) (by rw [c2]; exact hf) hsrc hnews hzv c3
   rw [hxl] at this
   simp only [Nat.zero_mul]
   exact this
  | msNil _ _ L hl hb =>
   obtain ⟨o, hl', hmm⟩ := (hM.box b bx hm).loc
   have hLL := hl
   rw [hl'] at hLL
   obtain rfl := Option.some.inj hLL
   simp only at hb; subst hb
   have hc0 := zka hxv hmm.2
   exact zdb hM hm hE (by rw [hxe, c2]) hxl hc0 (ViewR.nilOf hxl hc0) hsrc hnews hzv c3
  | msZ _ _ _ B oo L hl hb ho hon => omega
 ·simp at h
end
end Go.Ab
end
section
/- Slices made and built. -/
set_option linter.unusedVariables false
set_option linter.unusedSectionVars false
set_option linter.unusedSimpArgs false
namespace Go.Ab
variable [GTab]
def flat (us : List Value) : List Value := us.flatMap fun u => u.cells.toList
theorem zap (u : Value) (us : List Value) : flat (u :: us) = u.cells.toList ++ flat us := by simp [flat]
theorem zaX {e : Nat} : ∀ {us : List Value}, (∀ u ∈ us, u.cells.size = e) → (flat us).length = us.length * e
 | [], _ => by simp [flat]
 | u :: us, h => by
  rw [zap, List.length_append, zaX (fun x hx => h x (List.mem_cons_of_mem _ hx)), Array.length_toList, h u (List.mem_cons_self ..), List.length_cons, Nat.add_mul]
  omega
theorem zec {e : Nat} : ∀ {us : List Value} {i c : Nat} {u : Value}, (∀ u ∈ us, u.cells.size = e) → us[i]? = some u → c < e → (flat us)[i * e + c]? = u.cells.toList[c]?
 | [], i, c, u, h, hi, hc => by simp at hi
 | v :: us, 0, c, u, h, hi, hc => by
  simp at hi; subst hi
  rw [zap, Nat.zero_mul, Nat.zero_add, List.getElem?_append_left (by rw [Array.length_toList, h v (List.mem_cons_self ..)]; exact hc)]
 | v :: us, i + 1, c, u, h, hi, hc => by
  have hv := h v (List.mem_cons_self ..)
  rw [zap, List.getElem?_append_right (by rw [Array.length_toList, hv, Nat.add_mul]; omega), Array.length_toList, hv, show (i + 1) * e + c - e = i * e + c by rw [Nat.add_mul]; omega]
  exact zec (fun x hx => h x (List.mem_cons_of_mem _ hx)) (by simpa using hi) hc
theorem zok {us : List Value} {x : Value} (h : x ∈ flat us) : ∃ u ∈ us, x ∈ u.cells.toList := List.mem_flatMap.1 h
theorem zcN : ∀ {xs a b : List Value} {k : Nat}, setCellsV (a ++ b) (a.length + k) xs = a ++ setCellsV b k xs
 | [], a, b, k => rfl
 | x :: xs, a, b, k => by
  simp only [setCellsV]
  rw [List.set_append_right _ _ (by omega), Nat.add_sub_cancel_left, Nat.add_assoc]
  exact zcN
theorem zcT : ∀ {xs a b : List Value} {p : List Value}, xs.length = a.length → setCellsV (p ++ (a ++ b)) p.length xs = p ++ (xs ++ b)
 | [], a, b, p, h => by
  have := List.eq_nil_of_length_eq_zero h.symm
  subst this; simp [setCellsV]
 | x :: xs, [], b, p, h => by simp at h
 | x :: xs, y :: a, b, p, h => by
  simp only [setCellsV]
  rw [List.set_append_right _ _ (by omega), Nat.sub_self]
  simp only [List.cons_append, List.set_cons_zero]
  have := zcT (xs := xs) (a := a) (b := b) (p := p ++ [x]) (by simpa using h)
  simpa using this
theorem zkX {e : Nat} : ∀ {us : List Value} {i : Nat} {v : Value}, (∀ u ∈ us, u.cells.size = e) → v.cells.size = e → i < us.length → setCellsV (flat us) (i * e) v.cells.toList = flat (us.set i v)
 | [], i, v, h, hv, hi => by simp at hi
 | u :: us, 0, v, h, hv, hi => by
  have := zcT (xs := v.cells.toList) (a := u.cells.toList) (b := flat us) (p := []) (by simp [hv, h u (List.mem_cons_self ..)])
  rw [List.set_cons_zero, zap, zap, Nat.zero_mul]; exact this
 | u :: us, i + 1, v, h, hv, hi => by
  have hu := h u (List.mem_cons_self ..)
  rw [List.set_cons_succ, zap, zap, show (i + 1) * e = u.cells.toList.length + i * e by rw [Array.length_toList, hu, Nat.add_mul]; omega, zcN,
   zkX (fun x hx => h x (List.mem_cons_of_mem _ hx)) hv (by simpa using hi)]
def setElsV (us : List Value) : List (Nat × Value) → List Value
 | [] => us
 | (i, v) :: r => setElsV (us.set i v) r
theorem zdv {e : Nat} : ∀ {qs : List (Nat × Value)} {us : List Value}, (∀ u ∈ us, u.cells.size = e) → (∀ q ∈ qs, q.2.cells.size = e) → ∀ u ∈ setElsV us qs, u.cells.size = e
 | [], us, h, _ => h
 | (i, v) :: r, us, h, hq => by
  refine zdv (qs := r) (us := us.set i v) (fun u hu => ?_) (fun q hq' => hq q (List.mem_cons_of_mem _ hq'))
  rcases List.mem_or_eq_of_mem_set hu with h' | h'
  ·exact h u h'
  ·rw [h']; exact hq (i, v) (List.mem_cons_self ..)
theorem zit {s : Nat} : ∀ {qs : List (Nat × Value)} {us : List Value} {c : Array Value}, c.toList = flat us → (∀ u ∈ us, u.cells.size = s) → (∀ q ∈ qs, q.2.cells.size = s ∧ q.1 < us.length) →
  ∃ c', Instr.fill (fun i => some (i * s, s)) c qs = some c' ∧ c'.toList = flat (setElsV us qs)
 | [], us, c, hc, _, _ => ⟨c, rfl, hc⟩
 | (i, v) :: r, us, c, hc, hu, hq => by
  obtain ⟨hv, hi⟩ := hq (i, v) (List.mem_cons_self ..)
  simp only at hv hi
  have hset : (v.cells.zipIdx.foldl (fun cs (c, j) => cs.setIfInBounds (i * s + j) c) c).toList = setCellsV c.toList (i * s) v.cells.toList := by
   have := zeQ v.cells.toList (i * s) 0 c
   rw [Nat.add_zero] at this
   rw [← this, ← Array.foldl_toList]
   simp
  have hsz : c.size = us.length * s := by rw [← zaX hu, ← hc]; simp
  have hle : i * s + v.cells.size ≤ c.size := by
   rw [hsz, hv]
   calc i * s + s = (i + 1) * s := by rw [Nat.add_mul]; omega
    _ ≤ us.length * s := Nat.mul_le_mul_right _ hi
  simp only [Instr.fill]
  rw [if_neg (by simp only [Bool.or_eq_true, decide_eq_true_eq]; omega)]
  refine zit (us := us.set i v) (by rw [hset, hc, zkX hu hv hi]) (fun u h => ?_) (fun q h => ⟨(hq q (List.mem_cons_of_mem _ h)).1, by simpa using (hq q (List.mem_cons_of_mem _ h)).2⟩)
  rcases List.mem_or_eq_of_mem_set h with h' | h'
  ·exact hu u h'
  ·rw [h']; exact hv
theorem zby (z : Array Value) (hz : 1 ≤ z.size) : ∀ n, ((Array.range (n * z.size)).map (z[· % z.size]!)).toList = (List.replicate n z.toList).flatten
 | 0 => by simp
 | n + 1 => by
  have ih := zby z hz n
  simp only [Array.toList_map, Array.toList_range] at ih ⊢
  rw [Nat.add_mul, Nat.one_mul, List.range_add, List.map_append, ih, List.replicate_succ', List.flatten_append]
  congr 1
  simp only [List.flatten_cons, List.flatten_nil, List.append_nil, List.map_map]
  apply List.ext_getElem
  ·simp
  ·intro j h1 h2
   simp at h1
   have : (n * z.size + j) % z.size = j := by
    rw [Nat.add_comm, Nat.add_mul_mod_self_right]; exact Nat.mod_eq_of_lt h1
   simp [this, h1]
theorem zaF (n : Nat) (z : Value) : flat (List.replicate n z) = (List.replicate n z.cells.toList).flatten := by
 induction n with
 | zero => rfl
 | succ n ih => rw [List.replicate_succ, zap, ih, List.replicate_succ, List.flatten_cons]
theorem zpc {G : Gh} (hlab : ∀ B o, G.prot false B o → G.prot true B o) {β β' : Bool} (h : β' = false → β = false) {w : World} {p : PV} {v : Value} (hp : PR w (G.prot β) p v) : PR w (G.prot β') p v := by
 refine hp.mono (fun B o hb => ?_) (fun _ _ _ => rfl)
 cases β' with
 | false => rw [h rfl] at hb; exact hb
 | true => cases β with
  | true => exact hb
  | false => exact hlab _ _ hb
section
variable {P : Program}
theorem zgw {G : Gh} {w : World} {mem : Mem} {boxed : Bool} {rs : Nat} {v : View} {vs : List Value} {out : Out} {t : TypeId} (hM : MemR G w mem) (hrs : mem[rs]? = some none) (h : madeA boxed rs v = some out)
  (hv : ViewR G w v vs) (he : 1 ≤ v.e) :
  ∃ G', Gle G G' ∧ Ev G w (w.alloc (.cells vs.toArray t)) ∧ MemR G' (w.alloc (.cells vs.toArray t)) (setMem mem out.wr) ∧ VR G' (w.alloc (.cells vs.toArray t)) out.v (.slice (some ⟨w.heap.size, 0, none⟩) v.len v.len) ∧ out.push = [] := by
 have hcl : ∀ j u, vs[j]? = some u → cl (w.alloc (.cells vs.toArray t)) w.heap.size j = some u := fun j u hu => by
  rw [zbc]; simpa using hu
 unfold madeA at h
 cases boxed with
 | true =>
  simp only [cond_true] at h
  obtain rfl := Option.some.inj h
  obtain ⟨G', rfl, hg, hev, hM', hl⟩ := zhn (row := v.row) (vs := vs) (rest := #[]) (t := t) hM hrs (by rw [zaw]; exact he) (by rw [zaG]; exact hv)
  rw [Array.append_empty] at hev hM'
  refine ⟨_, hg, hev, hM', ?_, rfl⟩
  have hk : VR (G.put rs 0 ⟨some w.heap.size, v.row.e, v.row.len⟩) (w.alloc (.cells vs.toArray t)) (.msw rs 0) (.slice (some ⟨w.heap.size, 0, none⟩) v.row.len v.len) := by
   refine .msw rs 0 v.len _ w.heap.size hl rfl (by simp only [zY]; exact Nat.le_refl _) (fun j hj => ?_)
   simp only [zaw] at hj
   have hj2 : j < vs.length := by rw [hv.1]; exact hj
   rw [hcl j _ (List.getElem?_eq_getElem hj2)]; rfl
  rw [zY] at hk ⊢; exact hk
 | false =>
  simp only [cond_false] at h
  obtain ⟨a, ha, rfl⟩ := Option.map_eq_some_iff.1 h
  have hev := Ev.alloc G w (.cells vs.toArray t) hM.away
  have hM' := hM.new_tree hev (fun B hB => zaa hB) (by simp)
  have hgf := Gle.frz G (fun B _ => B = w.heap.size) (fun B _ h => by subst h; exact hM.own _ (Nat.le_refl _))
  refine ⟨_, hgf, hev, hM', ?_, rfl⟩
  exact zfz (vs := vs) (hv.mono hgf hev) ha he hcl (fun β o => .inr rfl) (Nat.le_refl _)
theorem zea {G : Gh} {w : World} : ∀ {vs : List AV} {us : List Value}, LRs G w vs us → LRs G w (cellsAll vs) (flat us)
 | [], us, h => by
  have := List.eq_nil_of_length_eq_zero h.1.symm
  subst this; exact ⟨rfl, fun j y hy => by simp [cellsAll] at hy⟩
 | v :: vs, [], h => by simp [LRs] at h
 | v :: vs, u :: us, h => by
  rw [cellsAll, zap]
  refine LRs.append (h.2 0 v rfl).cells (zea ⟨by simpa using h.1, fun j y hy => by simpa using h.2 (j + 1) y (by simpa using hy)⟩)
theorem LRs.get {G : Gh} {w : World} {as : List AV} {vs : List Value} (h : LRs G w as vs) {j : Nat} {a : AV} (ha : as[j]? = some a) : ∃ u, vs[j]? = some u ∧ VR G w a u := by
 have hj : j < vs.length := by rw [← h.1]; exact (List.getElem?_eq_some_iff.1 ha).1
 have := h.2 j a ha
 rw [List.getD_eq_getElem?_getD, List.getElem?_eq_getElem hj] at this
 exact ⟨_, List.getElem?_eq_getElem hj, this⟩
theorem zdX {k : IntKind} : ∀ {vs : List AV} {xs : List Int}, intsOf k vs = some xs → xs.length = vs.length ∧ ∀ (j : Nat) (x : Int), xs[j]? = some x → vs[j]? = some (.lit (.int k x))
 | [], xs, h => by simp [intsOf] at h; subst h; exact ⟨rfl, fun j x hx => by simp at hx⟩
 | v :: vs, xs, h => by
  unfold intsOf at h
  split at h
  ·simp_all
  ·rename_i k' x r heq
   obtain ⟨rfl, rfl⟩ := List.cons.inj heq
   cases hk : kEq k k' with
   | false => rw [hk] at h; simp at h
   | true =>
    rw [hk] at h; simp only [cond_true] at h
    obtain ⟨ys, hys, rfl⟩ := Option.map_eq_some_iff.1 h
    rw [zaR] at hk; subst hk
    obtain ⟨hl, hh⟩ := zdX hys
    refine ⟨by simp [hl], fun j x hx => ?_⟩
    cases j with
    | zero => simp at hx; subst hx; rfl
    | succ j => simpa using hh j x (by simpa using hx)
  ·simp at h
theorem zjs {G : Gh} {w : World} {mem : Mem} {vars : Bool} {t : TypeId} {vs : List AV} {us : List Value} {r : View × List Nat} {s : Nat} (hM : MemR G w mem) (h : toView P vars mem t vs = some r) (hL : LRs G w vs us)
  (hus : ∀ u ∈ us, u.cells.size = s) (hs : 1 ≤ s) (hre : r.1.e = s) : ViewR (G.frz (InBoxes G mem r.2)) w r.1 (flat us) ∧ r.1.len = vs.length := by
 have hfl := zaX hus
 unfold toView at h
 split at h
 ·rename_i k hk
  obtain ⟨xs, hxs, rfl⟩ := Option.map_eq_some_iff.1 h
  obtain ⟨hl, hh⟩ := zdX hxs
  simp only [View.e] at hre; subst hre
  have key : ∀ (i : Nat) (x : Int), xs[i]? = some x → (flat us)[i]? = some (.int k x) := by
   intro i x hx
   obtain ⟨u, hu, hvr⟩ := hL.get (hh i x hx)
   obtain rfl := hvr.lit_inv
   have := zec hus hu (c := 0) (by omega)
   rw [Nat.mul_one, Nat.add_zero] at this
   exact this
  refine ⟨⟨by simp only [View.len, View.e]; rw [hfl, hl, hL.1], fun u hu => ?_, key⟩, by simpa [View.len] using hl⟩
  obtain ⟨j, hj, rfl⟩ := List.getElem_of_mem hu
  have hj2 : j < xs.length := by rw [hl, hL.1]; omega
  have := key j _ (List.getElem?_eq_getElem hj2)
  rw [List.getElem?_eq_getElem hj] at this
  rw [Option.some.inj this]; rfl
 ·rw [bind_some] at h; obtain ⟨e, he, h⟩ := h
  cases vars with
  | true =>
   simp only [cond_true] at h
   rw [za] at h; obtain ⟨hg, h⟩ := h
   simp only [Bool.and_eq_true] at hg
   obtain rfl := Option.some.inj h
   simp only [View.e] at hre; subst hre
   have hcs := zea hL
   have hl : (cellsAll vs).length = vs.length * e := by rw [hcs.1, hfl, hL.1]
   have hcb : countBy e (cellsAll vs).length = vs.length := by rw [hl, zai (n := 0) hs]
   exact ⟨(ViewR.ofLRs hcs hg.2 (by rw [hcb]; exact hl)).mono (Gle.frz G _ hM.inBoxes) (Ev.refl G w), hcb⟩
  | false =>
   simp only [cond_false] at h
   obtain ⟨q, hq, rfl⟩ := Option.map_eq_some_iff.1 h
   simp only [View.e] at hre; subst hre
   obtain ⟨hl, hh⟩ := zce hq
   have hlab : ∀ B o, (G.frz (InBoxes G mem q.2.2)).prot false B o → (G.frz (InBoxes G mem q.2.2)).prot true B o := fun B o h => h.imp (hM.lab B o) id
   have key : ∀ (i : Nat) (x : PV), q.2.1[i]? = some x → ∃ v u q1, vs[i]? = some v ∧ us[i]? = some u ∧ VR G w v u ∧ toPV P mem t v = some q1 ∧ q1.2.1 = x ∧ (∀ b ∈ q1.2.2, b ∈ q.2.2) ∧ (q.1 = false → q1.1 = false) := by
    intro i x hx
    have hi : i < vs.length := by rw [← hl]; exact (List.getElem?_eq_some_iff.1 hx).1
    obtain ⟨q1, h1, h2, h3, h4⟩ := hh i _ (List.getElem?_eq_getElem hi)
    obtain ⟨u, hu, hvr⟩ := hL.get (List.getElem?_eq_getElem hi)
    rw [hx] at h2
    exact ⟨_, u, q1, List.getElem?_eq_getElem hi, hu, hvr, h1, (Option.some.inj h2).symm, h3, h4⟩
   have hsz : ∀ (i : Nat) (x : PV), q.2.1[i]? = some x → x.cells.length = e := by
    intro i x hx
    obtain ⟨v, u, q1, hv, hu, hvr, h1, rfl, h3, h4⟩ := key i x hx
    obtain ⟨ql, _⟩ := zcs hM h1 hvr
    rw [ql, hvr.cells.1, Array.length_toList]; exact hus u (List.mem_of_getElem? hu)
   have hcell : ∀ (i : Nat) (x : PV) (c : Nat) (y : PV), q.2.1[i]? = some x → x.cells[c]? = some y → ∃ u, (flat us)[i * e + c]? = some u ∧ PR w ((G.frz (InBoxes G mem q.2.2)).prot q.1) y u ∧ u.oneCell' = true := by
    intro i x c y hx hy
    have hce : c < e := by rw [← hsz i x hx]; exact (List.getElem?_eq_some_iff.1 hy).1
    obtain ⟨v, u, q1, hv, hu, hvr, h1, rfl, h3, h4⟩ := key i x hx
    obtain ⟨ql, qq⟩ := zcs hM h1 hvr
    obtain ⟨u', hu', hpr, hone⟩ := qq c y hy
    refine ⟨u', by rw [zec hus hu hce]; exact hu', zpc hlab h4 (hpr.mono (fun B o hb => hb.imp id (fun hi => hi.mono h3)) (fun _ _ _ => rfl)), hone⟩
   refine ⟨⟨by simp only [View.len, View.e]; rw [hfl, hl, hL.1], fun u hu => ?_, fun x hx => ?_, fun i x c y hx hy => ?_⟩, by simpa [View.len] using hl⟩
   ·obtain ⟨j, hj, rfl⟩ := List.getElem_of_mem hu
    have hj' := hj
    rw [hfl] at hj'
    have hi : j / e < us.length := Nat.div_lt_of_lt_mul (by rw [Nat.mul_comm]; exact hj')
    have hc : j % e < e := Nat.mod_lt _ hs
    have hi2 : j / e < q.2.1.length := by rw [hl, hL.1]; exact hi
    have hx := List.getElem?_eq_getElem hi2
    have hy : j % e < (q.2.1[j / e]).cells.length := by rw [hsz _ _ hx]; exact hc
    obtain ⟨u', hu', _, hone⟩ := hcell _ _ _ _ hx (List.getElem?_eq_getElem hy)
    have hjj : j / e * e + j % e = j := by rw [Nat.mul_comm]; exact Nat.div_add_mod j e
    rw [hjj, List.getElem?_eq_getElem hj] at hu'
    rw [Option.some.inj hu']; exact hone
   ·obtain ⟨j, hj, rfl⟩ := List.getElem_of_mem hx
    exact hsz j _ (List.getElem?_eq_getElem hj)
   ·obtain ⟨u, hu, hpr, _⟩ := hcell i x c y hx hy
    exact ⟨u, hu, hpr⟩
theorem zhp {G : Gh} {w : World} : ∀ {ps : List (Nat × AV)} {qs : List (Nat × Value)} {vs : List AV} {us : List Value}, LRs G w vs us → PRs G w ps qs → LRs G w (setEls vs ps) (setElsV us qs)
 | [], qs, vs, us, h, hp => by
  have := List.eq_nil_of_length_eq_zero hp.1.symm
  subst this; exact h
 | (i, v) :: r, [], vs, us, h, hp => by simp [PRs] at hp
 | (i, v) :: r, (i', u) :: qs, vs, us, h, hp => by
  obtain ⟨u', hu, hv⟩ := hp.2 0 (i, v) rfl
  simp only [List.getElem?_cons_zero, Option.some.injEq, Prod.mk.injEq] at hu
  obtain ⟨rfl, rfl⟩ := hu
  exact zhp (ps := r) (qs := qs) (h.set hv) ⟨by simpa using hp.1, fun j p hpj => by simpa using hp.2 (j + 1) p (by simpa using hpj)⟩
theorem zdq : ∀ {ps : List (Nat × AV)} {vs : List AV}, (setEls vs ps).length = vs.length
 | [], vs => rfl
 | (i, v) :: r, vs => by rw [setEls, zdq]; simp
theorem zfP {e : Nat} : ∀ {vs : List AV}, sizesOk e vs = true → ∀ v ∈ vs, v.cells.length = e
 | [], _ => by simp
 | v :: vs, h => by
  simp only [sizesOk, Bool.and_eq_true] at h
  intro x hx
  rcases List.mem_cons.1 hx with rfl | hx
  ·exact beqN.1 h.1
  ·exact zfP h.2 x hx
theorem zfQ {n : Nat} : ∀ {ps : List (Nat × AV)}, partsLt n ps = true → ∀ p ∈ ps, p.1 < n
 | [], _ => by simp
 | (i, v) :: r, h => by
  simp only [partsLt, Bool.and_eq_true] at h
  intro x hx
  rcases List.mem_cons.1 hx with rfl | hx
  ·exact bleN.1 h.1
  ·exact zfQ h.2 x hx
end
end Go.Ab
end
section
/- Every operation that is no call of a function. -/
set_option linter.unusedVariables false
set_option linter.unusedSectionVars false
set_option linter.unusedSimpArgs false
namespace Go.Ab
variable [GTab]
theorem zcB : ∀ (l : List Int) (r : ByteArray), l.foldl (fun r n => r.push (UInt8.ofNat n.toNat)) r = ⟨r.data ++ (l.map fun n => UInt8.ofNat n.toNat).toArray⟩
 | [], r => by simp
 | b :: l, r => by
  simp only [List.foldl_cons]
  rw [zcB l]
  simp [ByteArray.push]
theorem ziY (xs : List Int) : xs.foldl (fun r n => r.push (UInt8.ofNat n.toNat)) ByteArray.empty = intsBytes xs := by
 rw [zcB]
 have he0 : ByteArray.empty.data = #[] := rfl
 simp [intsBytes, he0]
section
variable {P : Program}
theorem zfW {G : Gh} {w : World} {mem : Mem} {boxed vars : Bool} {t et : TypeId} {rs len s : Nat} {z : AV} {ps : List (Nat × AV)} {qs : Array (Nat × Value)} {wv : View × List Nat} {o : Out} (hM : MemR G w mem) (hrs : mem[rs]? = some none)
  (het : elemOf? P t = some et) (hz : zero? P et = some z) (hs : tsz P et = some s) (hg : (partsLt len ps && Nat.ble len 4096 && Nat.ble 1 s && Nat.ble s 4096 && sizesOk s (z :: ps.map (·.2))) = true)
  (hv : toView P vars mem et (setEls (List.replicate len z) ps) = some wv) (hwe : Nat.beq wv.1.e s = true) (ho : madeA (boxed || Nat.beq len 0) rs wv.1 = some o) (hp : PRs G w ps qs.toList) :
  ∃ G' w' cv, (Instr.buildSlice t len qs).run P w = .ok cv w' ∧ VR G' w' o.v cv ∧ Gle G G' ∧ Ev G w w' ∧ MemR G' w' (({ v := o.v, rd := wv.2, wr := frozenAt mem wv.2 ++ o.wr } : Out).apply mem) := by
 simp only [Bool.and_eq_true] at hg
 obtain ⟨⟨⟨⟨g1, g2⟩, g3⟩, g4⟩, g5⟩ := hg
 have g2 := bleN.1 g2; have g3 := bleN.1 g3; have g4 := bleN.1 g4; have hwe := beqN.1 hwe
 have hu : P.underlying t = some (.slice et) := by
  unfold elemOf? at het
  split at het
  ·obtain rfl := Option.some.inj het; assumption
  ·simp at het
 obtain ⟨i, zv, hi, hzv, hov⟩ := zbR hz
 have his : i.size = s := by unfold tsz at hs; rw [hi] at hs; simpa using hs
 have hzr : VR G w z zv := zbT hov
 have hsz := zfP g5
 have hzs : zv.cells.size = s := by rw [← hsz z (List.mem_cons_self ..)]; simpa using hzr.cells.1.symm
 have hL0 : LRs G w (List.replicate len z) (List.replicate len zv) := by
  refine ⟨by simp, fun j y hy => ?_⟩
  obtain ⟨hj, rfl⟩ : j < len ∧ z = y := by
   have h1 := (List.getElem?_eq_some_iff.1 hy)
   obtain ⟨h1, h2⟩ := h1
   simp at h1 h2; exact ⟨h1, h2⟩
  rw [List.getD_eq_getElem?_getD, List.getElem?_replicate, if_pos hj]; exact hzr
 have hL := zhp hL0 hp
 have hq : ∀ q ∈ qs.toList, q.2.cells.size = s ∧ q.1 < (List.replicate len zv).length := by
  intro q hq
  obtain ⟨j, hj, rfl⟩ := List.getElem_of_mem hq
  have hj2 : j < ps.length := by rw [hp.1]; exact hj
  obtain ⟨v, hv, hvr⟩ := hp.2 j _ (List.getElem?_eq_getElem hj2)
  rw [List.getElem?_eq_getElem hj] at hv
  have hqe := Option.some.inj hv
  rw [hqe]
  refine ⟨?_, by simp only [List.length_replicate]; exact zfQ g1 _ (List.getElem_mem hj2)⟩
  rw [← hsz (ps[j].2) (List.mem_cons_of_mem _ (List.mem_map.2 ⟨_, List.getElem_mem hj2, rfl⟩))]
  simpa using hvr.cells.1.symm
 have hz1 : ∀ u ∈ List.replicate len zv, u.cells.size = s := fun u hu => by rw [(List.mem_replicate.1 hu).2]; exact hzs
 have hus := zdv hz1 (fun q h => (hq q h).1)
 obtain ⟨hview, hvl⟩ := zjs hM hv hL hus g3 hwe
 have hM1 := hM.freeze wv.2
 have hg1 := Gle.frz G (InBoxes G mem wv.2) hM.inBoxes
 have hrs1 : (setMem mem (frozenAt mem wv.2))[rs]? = some none := by
  rw [(zO mem wv.2 mem rs rfl).2.1 (.inr (fun y hy => by rw [hrs] at hy; cases hy))]; exact hrs
 obtain ⟨G', h1, h2, h3, h4, h5⟩ := zgw (t := et) hM1 hrs1 ho hview (by omega)
 have hlen : wv.1.len = len := by rw [hvl, zdq]; simp
 rw [hlen] at h4
 refine ⟨G', _, _, ?_, h4, hg1.trans h1, ?_, ?_⟩
 ·by_cases h0 : len = 0
  ·subst h0
   have hq0 : qs.toList = [] := by
    cases hh : qs.toList with
    | nil => rfl
    | cons q r => have := (hq q (by rw [hh]; exact List.mem_cons_self ..)).2; simp at this
   rw [hq0]
   simp [Instr.buildSlice, run_underlying hu, sizeOf, typeInfo, hi, hq0, Instr.fill, newRow, setElsV, flat, Array.range_zero']
  ·have hlt : len * s ≤ 16777216 := Nat.le_trans (Nat.mul_le_mul g2 g4) (by decide)
   have hpos : 0 < len * s := Nat.mul_pos (by omega) (by omega)
   have hc0 : ((Array.range (len * i.size)).map (zv.cells[· % zv.cells.size]!)).toList = flat (List.replicate len zv) := by
    rw [his, zaF]
    have := zby zv.cells (by omega) len
    rw [hzs] at this
    rw [hzs]; exact this
   obtain ⟨c', hf, hc'⟩ := zit hc0 hz1 hq
   have hcc : c' = (flat (setElsV (List.replicate len zv) qs.toList)).toArray := by rw [← hc']
   rw [← hcc]
   exact run_buildSlice w t et len qs c' i zv hu hi hzv (by rw [his]; omega) (by rw [his]; omega) (by rw [his] at hf ⊢; exact hf)
 ·exact (Ev.refl G w).trans hg1 h2
 ·simp only [Out.apply, List.append_nil]
  rw [zbN]; exact h3
theorem zcZ {G : Gh} {w : World} {mem : Mem} {boxed : Bool} {t et : TypeId} {rs n s : Nat} {zv : Value} {v : View} {i : TypeInfo} {out : Out} {kl kc : IntKind} (hM : MemR G w mem) (hrs : mem[rs]? = some none)
  (hu : P.underlying t = some (.slice et)) (hi : P.info? et = some i) (hz : i.zero = some zv) (his : i.size = s) (hs1 : 1 ≤ s) (hib : i.bytes ≤ 4096) (hn : n ≤ mostLen) (hzs : zv.cells.size = s)
  (hv : ViewR G w v (flat (List.replicate n zv))) (hvl : v.len = n) (hve : v.e = s) (ho : madeA boxed rs v = some out) :
  ∃ G' w' cv, (Instr.makeSlice t (.int kl (n : Int)) (.int kc (n : Int))).run P w = .ok cv w' ∧ VR G' w' out.v cv ∧ Gle G G' ∧ Ev G w w' ∧ MemR G' w' (out.apply mem) := by
 obtain ⟨G', h1, h2, h3, h4, h5⟩ := zgw (t := et) hM hrs ho hv (by omega)
 have hfit := zeq hn hib
 have hrun := run_make (P := P) w t et i zv hu hi hz kl kc n n (by omega) (Int.le_refl _) (by
   have h : ((n * i.bytes : Nat) : Int) ≤ 281474976710656 := by omega
   rw [Int.natCast_mul, Int.mul_comm] at h; exact h) (by unfold mostLen at hn; omega)
 simp only [Int.toNat_natCast] at hrun
 have hc : madeCells zv.cells (n * i.size) = (flat (List.replicate n zv)).toArray := by
  have := zby zv.cells (by omega) n
  rw [← Array.toArray_toList (xs := madeCells zv.cells (n * i.size)), zaF, ← this, his]
  simp only [madeCells, hzs]
 rw [hc] at hrun
 rw [hvl] at h4
 refine ⟨G', _, _, hrun, h4, h1, h2, ?_⟩
 simp only [Out.apply, h5, List.append_nil]; exact h3
theorem ziV {G : Gh} {w : World} {mem : Mem} {e src dst : TypeId} {x : AV} {xs : List Int} {rd : List Nat} {cv : Value} (hM : MemR G w mem) (hsrc : P.underlying src = some (.slice e)) (he : P.underlying e = some (.int .u8)) (hd : P.underlying dst = some .string)
  (hv : view P e mem x = some (.ints .u8 xs, rd)) (ht : tsz P e = some 1) (hok : srcOk P src x = true) (hx : VR G w x cv) : (convert src dst cv).run P w = .ok (.string (intsBytes xs)) w := by
 obtain ⟨news, hS, hV⟩ := zhR hM hv hx ht hok
 have hnews : news = xs.map (Value.int .u8) := by
  obtain ⟨h1, h2, h3⟩ := hV
  simp only [View.len, View.e, Nat.mul_one] at h1
  refine List.ext_getElem (by simp [h1]) (fun j hj1 hj2 => ?_)
  have hj : j < xs.length := by omega
  have := h3 j _ (List.getElem?_eq_getElem hj)
  rw [List.getElem?_eq_getElem hj1] at this
  rw [Option.some.inj this]; simp
 have hlen := hS.len w
 have hcells := hS.cells
 have hnl := hS.newsLen
 have hcv : ∃ a c, cv = .slice a xs.length c := by
  cases cv <;> simp [Builtin.lenOf] at hlen
  ·cases hx with
   | lit v h =>
    unfold srcOk at hok
    rw [hsrc] at hok
    simp at hok
   | imm β p v h hs => cases h; simp [PV.isSl] at hs
   | dead v h1 h2 => simp [view] at hv
  ·exact ⟨_, _, by rw [hlen]; rfl⟩
 obtain ⟨a, c, rfl⟩ := hcv
 rw [run_convert_bytes_string w src dst e a xs.length c hsrc he hd]
 cases a with
 | none =>
  simp [Builtin.firstCells] at hcells
  have : news = [] := by
   cases news with
   | nil => rfl
   | cons => simp at hcells
  rw [this] at hnews
  have : xs = [] := List.map_eq_nil_iff.1 hnews.symm
  subst this; rfl
 | some a =>
  simp only [Builtin.firstCells, View.e, View.len, Nat.mul_one] at hcells
  rw [run_bytesToString w a _ c xs (by rw [← hnews]; exact hcells), ziY]
end
end Go.Ab
end
section
/- Every operation: what the evaluator says of it, the machine does, whatever comes after. -/
set_option linter.unusedVariables false
set_option linter.unusedSectionVars false
set_option linter.unusedSimpArgs false
namespace Go.Ab
variable [GTab]
theorem arr1 {vs : Array Value} (h : vs.size = 1) : ∃ x, vs = #[x] := by
 obtain ⟨l⟩ := vs
 match l, h with
 | [x], _ => exact ⟨x, rfl⟩
theorem arr2 {vs : Array Value} (h : vs.size = 2) : ∃ x y, vs = #[x, y] := by
 obtain ⟨l⟩ := vs
 match l, h with
 | [x, y], _ => exact ⟨x, y, rfl⟩
section
variable {P : Program}
def OpW (P : Program) (G : Gh) (w : World) (mem : Mem) (o : Oper) (a : Act) (out : Out) : Prop :=
 ∀ (K : Act → World → Prop) (Q : Exit → Act → World → Prop), (∀ G' w' cv, VR G' w' out.v cv → Gle G G' → Ev G w w' → MemR G' w' (out.apply mem) → K (a.put o.dst cv) w') → o.wp P a w K Q
def CallsW (P : Program) (G : Gh) (w : World) (mem : Mem) (g : FuncId) (args : Array Value) (out : Out) : Prop :=
 (callFunc g args).run P w = .ok (.enter g args) w ∧
 Calls P g args w fun e w' => ∃ G' cv, e = .returned cv ∧ VR G' w' out.v cv ∧ Gle G G' ∧ Ev G w w' ∧ MemR G' w' (out.apply mem)
variable {G : Gh} {w : World} {mem : Mem} {o : Oper} {a : Act} {out : Out}
theorem OpDone.opW (h : OpDone P G w mem o a out) : OpW P G w mem o a out := by
 intro K Q hK
 obtain ⟨G', w', nx, cv, hrun, hnx, hv, hg, hev, hM⟩ := h
 unfold Oper.wp
 rw [hrun]
 rcases hnx with rfl | ⟨rfl, rfl⟩
 ·exact hK G' w' cv hv hg hev hM
 ·exact hK G' w' undef hv hg hev hM
theorem OpW.value {s : Sem Value} (he : execOp a.eval o = (do pure (Next.value (← s))))
  (h : ∃ G' w' cv, s.run P w = .ok cv w' ∧ VR G' w' out.v cv ∧ Gle G G' ∧ Ev G w w' ∧ MemR G' w' (out.apply mem)) : OpW P G w mem o a out := by
 obtain ⟨G', w', cv, hrun, hv, hg, hev, hM⟩ := h
 refine OpDone.opW ⟨G', w', .value cv, cv, ?_, .inl rfl, hv, hg, hev, hM⟩
 rw [he]
 simp only [Sem.run_bind, hrun, Result.andThen_ok, Sem.run_pure]
theorem OpW.still {s : Sem Value} (hM : MemR G w mem) (he : execOp a.eval o = (do pure (Next.value (← s)))) {cv : Value} (hw : out.wr = []) (hp : out.push = [])
  (hrun : s.run P w = .ok cv w) (hv : VR G w out.v cv) : OpW P G w mem o a out :=
 OpW.value he ⟨G, w, cv, hrun, hv, Gle.refl G, Ev.refl G w, by simp only [Out.apply, hw, hp, setMem, List.append_nil]; exact hM⟩
theorem OpW.plain (hM : MemR G w mem) {cv : Value} (he : execOp a.eval o = pure (Next.value cv)) (hw : out.wr = []) (hp : out.push = []) (hv : VR G w out.v cv) : OpW P G w mem o a out :=
 OpDone.opW ⟨G, w, .value cv, cv, by rw [he]; simp, .inl rfl, hv, Gle.refl G, Ev.refl G w, by simp only [Out.apply, hw, hp, setMem, List.append_nil]; exact hM⟩
theorem zeJ {ρ : Operand → Option AV} (hρ : EvR G w ρ a) {x : Option Operand} {r : Option Int} (h : optA ρ x = some r) : OptR r (x.map a.eval) := by
 cases x with
 | none => simp [optA] at h; subst h; exact trivial
 | some x =>
  simp only [optA] at h
  rw [bind_some] at h; obtain ⟨v, hv, h⟩ := h
  unfold optInt at h
  split at h
  ·simp at *
  ·rename_i k n heq
   obtain rfl := Option.some.inj heq
   obtain rfl := Option.some.inj h
   have := (hρ x _ hv).lit_inv
   exact ⟨k, by simp [this]⟩
  ·simp at h
theorem zdP {t et : TypeId} (h : elemOf? P t = some et) : P.underlying t = some (.slice et) := by
 unfold elemOf? at h
 split at h
 ·obtain rfl := Option.some.inj h; assumption
 ·simp at h
theorem zbu {l : List Nat} (h : emptyN l = true) : l = [] := by cases l <;> simp_all [emptyN]
theorem zlr {k : IntKind} {z : AV} {zv : Value} {zs : List Int} {n : Nat} (h : intsOf k [z] = some zs) (hz : VR G w z zv) : ViewR G w (.ints k (List.replicate n (zs.headD 0))) (flat (List.replicate n zv)) ∧ zv.cells.size = 1 := by
 obtain ⟨hl, hh⟩ := zdX h
 obtain ⟨x, rfl⟩ : ∃ x, zs = [x] := by
  match zs, hl with
  | [x], _ => exact ⟨x, rfl⟩
 have := hh 0 x rfl
 simp at this
 subst this
 obtain rfl := hz.lit_inv
 have hf : flat (List.replicate n (Value.int k x)) = List.replicate n (.int k x) := by
  rw [zaF]
  have hc : (Value.int k x).cells.toList = [.int k x] := rfl
  rw [hc]
  induction n with
  | zero => rfl
  | succ n ih => rw [List.replicate_succ, List.flatten_cons, ih, List.replicate_succ]; rfl
 rw [hf]
 refine ⟨⟨by simp [View.len, View.e], fun u hu => by rw [(List.mem_replicate.1 hu).2]; rfl, fun i y hy => ?_⟩, rfl⟩
 simp only [List.headD_cons] at hy
 rw [List.getElem?_replicate] at hy ⊢
 split at hy
 ·rw [if_pos (by assumption)]; rw [← Option.some.inj hy]
 ·simp at hy
theorem ziy {t : TypeId} {z : AV} {zv : Value} {q : Bool × PV × List Nat} {n e : Nat} (hM : MemR G w mem) (h : toPV P mem t z = some q) (hz : VR G w z zv) (he : z.cells.length = e) (h1 : 1 ≤ e) (hq : q.2.2 = []) :
  ViewR G w (.pvs q.1 e (List.replicate n q.2.1)) (flat (List.replicate n zv)) ∧ zv.cells.size = e := by
 obtain ⟨ql, qq⟩ := zcs hM h hz
 have hsz : zv.cells.size = e := by rw [← he]; simpa using hz.cells.1.symm
 have hall : ∀ u ∈ List.replicate n zv, u.cells.size = e := fun u hu => by rw [(List.mem_replicate.1 hu).2]; exact hsz
 have hfl := zaX hall
 have hcell : ∀ (i : Nat) (x : PV) (c : Nat) (y : PV), (List.replicate n q.2.1)[i]? = some x → x.cells[c]? = some y → ∃ u, (flat (List.replicate n zv))[i * e + c]? = some u ∧ PR w (G.prot q.1) y u ∧ u.oneCell' = true := by
  intro i x c y hx hy
  rw [List.getElem?_replicate] at hx
  split at hx
  ·rename_i hi
   obtain rfl := Option.some.inj hx
   have hce : c < e := by rw [← he, ← ql]; exact (List.getElem?_eq_some_iff.1 hy).1
   obtain ⟨u, hu, hpr, hone⟩ := qq c y hy
   refine ⟨u, by rw [zec hall (u := zv) (by rw [List.getElem?_replicate, if_pos hi]) hce]; exact hu, hpr.mono (fun B o hb => ?_) (fun _ _ _ => rfl), hone⟩
   rcases hb with hb | ⟨b, hb, _⟩
   ·exact hb
   ·rw [hq] at hb; simp at hb
  ·simp at hx
 refine ⟨⟨by simp only [View.len, View.e]; rw [hfl]; simp, fun u hu => ?_, fun x hx => by rw [(List.mem_replicate.1 hx).2, ql, he], fun i x c y hx hy => ?_⟩, hsz⟩
 ·obtain ⟨v, hv, hu⟩ := zok hu
  rw [(List.mem_replicate.1 hv).2] at hu
  obtain ⟨j, hj, rfl⟩ := List.getElem_of_mem hu
  have hj2 : j < q.2.1.cells.length := by rw [ql, he, ← hsz]; simpa using hj
  obtain ⟨u, hu, _, hone⟩ := qq j _ (List.getElem?_eq_getElem hj2)
  rw [List.getElem?_eq_getElem hj] at hu
  rw [Option.some.inj hu]; exact hone
 ·obtain ⟨u, hu, hpr, _⟩ := hcell i x c y hx hy
  exact ⟨u, hu, hpr⟩
theorem zlC {t tx ty : TypeId} {rs : Nat} {n : Int} {kn : IntKind} (hM : MemR G w mem) (hrs : mem[rs]? = some none) (h : zappA P t tx mem rs n = some out) :
  ∃ G' w' cv, (Builtin.append_ #[t, tx] ty #[.slice none 0 0, .int kn n]).run P w = .ok cv w' ∧ VR G' w' out.v cv ∧ Gle G G' ∧ Ev G w w' ∧ MemR G' w' (out.apply mem) := by
 unfold zappA at h
 split at h
 ·rename_i kx hkx
  rw [bind_some] at h; obtain ⟨et, het, h⟩ := h
  rw [bind_some] at h; obtain ⟨z, hz, h⟩ := h
  split at h
  ·rw [bind_some] at h; obtain ⟨q, hq, h⟩ := h
   rw [bind_some] at h; obtain ⟨e, he, h⟩ := h
   rw [bind_some] at h; obtain ⟨bytes, hby, h⟩ := h
   rw [za] at h; obtain ⟨hg, h⟩ := h
   simp only [Bool.and_eq_true, decide_eq_true_eq] at hg
   obtain ⟨⟨g0, gm⟩, ⟨⟨g1, g2⟩, g3⟩, g4⟩ := hg
   have gm := bleN.1 gm; have g1 := bleN.1 g1; have g2 := bleN.1 g2; have g3 := beqN.1 g3; have g4 := zbu g4
   obtain rfl := Option.some.inj h
   obtain ⟨i, zv, hi, hzv, hov⟩ := zbR hz
   have hzr : VR G w z zv := zbT hov
   obtain ⟨m, rfl⟩ : ∃ m : Nat, n = (m : Int) := ⟨n.toNat, by omega⟩
   rw [Int.toNat_natCast] at gm ⊢
   obtain ⟨hv, hsz⟩ := ziy (n := m) hM hq hzr g3 g1 g4
   have his : i.size = e := by unfold tsz at he; rw [hi] at he; simpa using he
   have hib : i.bytes ≤ 4096 := by unfold tbytes at hby; rw [hi] at hby; simp at hby; omega
   have hfit := zeq gm hib
   have hrun := Lib.run_append_nil_zeros (P := P) w t tx ty et i zv kn kx (zdP het) hkx hi hzv m (by omega) (by omega) (by unfold mostLen at gm; omega) (by omega)
   have hrc := zby zv.cells (by omega) m
   have hc : Builtin.zeroCells zv.cells m = (flat (List.replicate m zv)).toArray := by
    rw [← Array.toArray_toList (xs := Builtin.zeroCells zv.cells m), zaF, ← hrc]
    rfl
   have hcap : m ≤ grownCap w m 0 et := grownCap_ge w _ _ _
   rw [hc] at hrun
   have hMd := hM.ev (Ev.drew G w) (.inl rfl) (fun B _ => rfl)
   have hvd : ViewR G w.drew (Row.pvs q.1 e (List.replicate m q.2.1)).all (flat (List.replicate m zv)) := hv.mono (Gle.refl G) (Ev.drew G w)
   obtain ⟨G', rfl, hg', hev, hM', hl⟩ := zhn (row := .pvs q.1 e (List.replicate m q.2.1)) (vs := flat (List.replicate m zv)) (rest := Builtin.zeroCells zv.cells (grownCap w m 0 et - m)) (t := et) hMd hrs g1 hvd
   have hfl : (flat (List.replicate m zv)).length = m * e := by
    rw [zaX (e := e) (us := List.replicate m zv) (fun u hu => by rw [(List.mem_replicate.1 hu).2]; exact hsz)]; simp
   refine ⟨_, _, _, hrun, ?_, hg', (Ev.drew G w).trans (Gle.refl G) hev, by simpa [Out.apply, setMem] using hM'⟩
   generalize grownCap w m 0 et = C at hcap hrun ⊢
   have hk : VR (G.put rs 0 ⟨some w.drew.heap.size, (Row.pvs q.1 e (List.replicate m q.2.1)).e, (Row.pvs q.1 e (List.replicate m q.2.1)).len⟩) (w.drew.alloc (.cells ((flat (List.replicate m zv)).toArray ++ Builtin.zeroCells zv.cells (C - m)) et)) (.msw rs 0) (.slice (some ⟨w.heap.size, 0, none⟩) m C) := by
    have := VR.msw (G := G.put rs 0 ⟨some w.drew.heap.size, (Row.pvs q.1 e (List.replicate m q.2.1)).e, (Row.pvs q.1 e (List.replicate m q.2.1)).len⟩) (w := w.drew.alloc (.cells ((flat (List.replicate m zv)).toArray ++ Builtin.zeroCells zv.cells (C - m)) et)) rs 0 C _ w.drew.heap.size (Gh.put_self ..) rfl (by simp [Row.len]; exact hcap) (fun j hj => by
     rw [zbc]
     simp only [Row.e] at hj
     have hjs : j < ((flat (List.replicate m zv)).toArray ++ Builtin.zeroCells zv.cells (C - m)).size := by
      simp only [Array.size_append, List.size_toArray, size_zeroCells, hfl, hsz]
      rw [← Nat.add_mul]
      exact Nat.lt_of_lt_of_le hj (Nat.mul_le_mul_right _ (by omega))
     rw [Array.getElem?_eq_getElem hjs]; rfl)
    simpa [Row.len] using this
   exact hk
  ·cases h
 ·cases h
theorem zhK {boxed vars : Bool} {b : Builtin} {ts : Array TypeId} {ty : TypeId} {consts : Array Bool} {rs : Nat} {args : List AV} {vs : Array Value} (hM : MemR G w mem) (hrs : b = .append → mem[rs]? = some none)
  (h : builtinA P boxed vars b ts.toList mem rs args = some out) (hv : VRs G w args vs) :
  ∃ s : Sem Value, builtin b ts ty consts vs = (do pure (Next.value (← s))) ∧ ∃ G' w' cv, s.run P w = .ok cv w' ∧ VR G' w' out.v cv ∧ Gle G G' ∧ Ev G w w' ∧ MemR G' w' (out.apply mem) := by
 have gd : ∀ j, vs.getD j undef = vs.toList.getD j undef := fun j => (zJ vs j).symm
 unfold builtinA at h
 split at h
 ·rename_i t x hts
  obtain ⟨n, hn, rfl⟩ := Option.map_eq_some_iff.1 h
  have hts' : ts = #[t] := by rw [← hts, Array.toArray_toList]
  obtain ⟨x', rfl⟩ := arr1 hv.1.symm
  have hx := hv.2 0 x rfl
  simp at hx
  subst hts'
  exact ⟨_, rfl, G, w, _, zkE hM hn hx, .lit _ rfl, Gle.refl G, Ev.refl G w, by simpa [Out.apply, setMem] using hM⟩
 ·rename_i t tx kn n hts
  have hts' : ts = #[t, tx] := by rw [← hts, Array.toArray_toList]
  obtain ⟨x', y', rfl⟩ := arr2 hv.1.symm
  have hx := hv.2 0 _ rfl
  have hy := hv.2 1 _ rfl
  simp at hx hy
  obtain rfl := hx.lit_inv
  obtain rfl := hy.lit_inv
  subst hts'
  exact ⟨_, rfl, zlC hM (hrs rfl) h⟩
 ·rename_i t tx x y hno hts
  have hts' : ts = #[t, tx] := by rw [← hts, Array.toArray_toList]
  obtain ⟨x', y', rfl⟩ := arr2 hv.1.symm
  have hx := hv.2 0 x rfl
  have hy := hv.2 1 y rfl
  simp at hx hy
  subst hts'
  exact ⟨_, rfl, zhZ hM (hrs rfl) h hx hy⟩
 ·rename_i t hts
  have hts' : ts = #[t] := by rw [← hts, Array.toArray_toList]
  obtain ⟨x', rfl⟩ := arr1 hv.1.symm
  have hx := hv.2 0 _ rfl
  simp at hx
  obtain rfl := hx.lit_inv
  subst hts'
  split at h
  ·rename_i et hu
   obtain rfl := Option.some.inj h
   exact ⟨_, rfl, G, w, .int .i64 0, by simp [Builtin.cap_, run_underlying hu, goInt], .lit _ rfl, Gle.refl G, Ev.refl G w, by simpa [Out.apply, setMem] using hM⟩
  ·cases h
 ·rename_i k a r
  obtain ⟨v, hv1, rfl⟩ := Option.map_eq_some_iff.1 h
  have hx := hv.2 0 _ rfl
  obtain ⟨x', vr, hvs⟩ : ∃ x' vr, vs.toList = x' :: vr := by
   cases hh : vs.toList with
   | nil => have := hv.1; rw [← Array.length_toList, hh] at this; simp at this
   | cons x' vr => exact ⟨x', vr, rfl⟩
  rw [gd, hvs] at hx
  obtain rfl := hx.lit_inv
  have := zcS (P := P) (G := G) (w := w) (op := Builtin.min2) (f := minA k) (k := k) (fun a b => by simp [Builtin.min2, minA, Bool.cond_decide]) hv1
   ⟨by have := hv.1; rw [← Array.length_toList, hvs] at this; simpa using this, fun j y hy => by have := hv.2 (j + 1) y (by simpa using hy); rw [gd, hvs] at this; simpa using this⟩
  refine ⟨_, rfl, G, w, .int k v, ?_, .lit _ rfl, Gle.refl G, Ev.refl G w, by simpa [Out.apply, setMem] using hM⟩
  simp only [Builtin.min_, hvs]
  exact this
 ·rename_i k a r
  obtain ⟨v, hv1, rfl⟩ := Option.map_eq_some_iff.1 h
  have hx := hv.2 0 _ rfl
  obtain ⟨x', vr, hvs⟩ : ∃ x' vr, vs.toList = x' :: vr := by
   cases hh : vs.toList with
   | nil => have := hv.1; rw [← Array.length_toList, hh] at this; simp at this
   | cons x' vr => exact ⟨x', vr, rfl⟩
  rw [gd, hvs] at hx
  obtain rfl := hx.lit_inv
  have := zcS (P := P) (G := G) (w := w) (op := Builtin.max2) (f := maxA k) (k := k) (fun a b => by simp [Builtin.max2, maxA, Bool.cond_decide]) hv1
   ⟨by have := hv.1; rw [← Array.length_toList, hvs] at this; simpa using this, fun j y hy => by have := hv.2 (j + 1) y (by simpa using hy); rw [gd, hvs] at this; simpa using this⟩
  refine ⟨_, rfl, G, w, .int k v, ?_, .lit _ rfl, Gle.refl G, Ev.refl G w, by simpa [Out.apply, setMem] using hM⟩
  simp only [Builtin.max_, hvs]
  exact this
 ·simp at h
theorem MemR.sameCells {G : Gh} {w w1 : World} {mem : Mem} (hM : MemR G w mem) (hev : Ev G w w1) (hc : ∀ B o, cl w1 B o = cl w B o) (hs : w1.heap.size = w.heap.size) (hf : ∀ B, Free w B → Free w1 B) : MemR G w1 mem where
 box b x h := by
  have hx := hM.box b x h
  obtain ⟨o, hl, hm⟩ := hx.loc
  refine ⟨hx.e, o, hl, ?_⟩
  cases o with
  | none => exact hm
  | some B =>
   obtain ⟨hm1, hm2, hm3, hm4, hm5⟩ := hm
   exact ⟨hm1, by rw [hs]; exact hm2, hf B hm3, hm4.mono (Gle.refl G) hev (fun o _ => hc B o), hm5⟩
 unset := hM.unset
 gens := hM.gens
 apart := hM.apart
 own B h := hM.own B (by rw [← hs]; exact h)
 lab := hM.lab
 away β B o h := by rw [hs]; exact hM.away β B o h
 glob := hM.glob.mono (fun _ _ h => h) (hev.prot true)
theorem markEnd {w : World} {B : Nat} (hf : Free w B) :
  ∃ w1, (∀ k, (markStringish ⟨B, k, none⟩).run P w = .ok () w1) ∧ (∀ B' o, cl w1 B' o = cl w B' o) ∧ w1.heap.size = w.heap.size ∧ w1.output = w.output ∧ w1.os = w.os ∧ w1.tape = w.tape ∧ (∀ B', B' ≠ B → w1.heap[B']? = w.heap[B']?) ∧
   (∀ B', Free w B' → Free w1 B') := by
 obtain ⟨c, el, lo, hi, hb, hr⟩ := hf
 refine ⟨w.freeze ⟨B, c.size, none⟩ 1, fun k => ?_, ?_⟩
 ·simp [markStringish, World.shape?, hb]
 have hh : (w.freeze ⟨B, c.size, none⟩ 1).heap[B]? = some (.cells c el (if lo == hi then (c.size, c.size + 1) else (min lo c.size, max hi (c.size + 1)))) := by
  unfold World.freeze
  rw [if_neg (by decide)]
  simp only [Array.getElem?_modify, if_true, hb, Option.map_some]
 have hne : ∀ B', B' ≠ B → (w.freeze ⟨B, c.size, none⟩ 1).heap[B']? = w.heap[B']? := fun B' e => by
  unfold World.freeze
  rw [if_neg (by decide)]
  simp only [Array.getElem?_modify]
  rw [if_neg (fun h => e h.symm)]
 have hsz : (w.freeze ⟨B, c.size, none⟩ 1).heap.size = w.heap.size := by
  unfold World.freeze
  rw [if_neg (by decide)]
  simp
 refine ⟨fun B' o => ?_, hsz, rfl, rfl, rfl, hne, fun B' hf => ?_⟩
 ·by_cases e : B' = B
  ·subst e; unfold cl World.cell?; simp [hh, hb]
  ·exact zT (hne B' e) o
 ·by_cases e : B' = B
  ·subst e
   by_cases h : lo = hi
   ·exact ⟨c, el, c.size, c.size + 1, by rw [hh]; simp [h], .inr (Nat.le_refl _)⟩
   ·have hle : c.size ≤ lo := hr.resolve_left h
    exact ⟨c, el, min lo c.size, max hi (c.size + 1), by rw [hh]; simp [h], .inr (by omega)⟩
  ·exact hf.of_heap (hne B' e)
theorem zhT {boxed : Bool} {src dst : TypeId} {rs : Nat} {x : AV} {cv : Value} (hM : MemR G w mem) (h : convertA P boxed src dst mem rs x = some out) (hx : VR G w x cv) :
  ∃ G' w' r, (convert src dst cv).run P w = .ok r w' ∧ VR G' w' out.v r ∧ Gle G G' ∧ Ev G w w' ∧ MemR G' w' (out.apply mem) := by
 have still : ∀ {o : Out} {r : Value}, o.wr = [] → o.push = [] → (convert src dst cv).run P w = .ok r w → VR G w o.v r →
   ∃ G' w' r, (convert src dst cv).run P w = .ok r w' ∧ VR G' w' o.v r ∧ Gle G G' ∧ Ev G w w' ∧ MemR G' w' (o.apply mem) :=
  fun h1 h2 hr hv => ⟨G, w, _, hr, hv, Gle.refl G, Ev.refl G w, by simp only [Out.apply, h1, h2, setMem, List.append_nil]; exact hM⟩
 unfold convertA at h
 split at h
 ·rename_i k1 k n kk hs hd
  obtain rfl := Option.some.inj h
  obtain rfl := hx.lit_inv
  exact still rfl rfl (by simp [convert, run_underlying hs, run_underlying hd, Conv.intToInt]) (.lit _ rfl)
 ·rename_i s hs hd
  obtain rfl := Option.some.inj h
  obtain rfl := hx.lit_inv
  exact still rfl rfl (by simp [convert, run_underlying hs, run_underlying hd]) (.lit _ rfl)
 ·rename_i e hs hd
  split at h
  ·rename_i he
   rw [bind_some] at h; obtain ⟨v, hv, h⟩ := h
   rw [za] at h; obtain ⟨hg, h⟩ := h
   simp only [Bool.and_eq_true] at hg
   obtain ⟨vw, rd⟩ := v
   simp only at h hv
   split at h
   ·rename_i xs
    obtain rfl := Option.some.inj h
    have ht : tsz P e = some 1 := by
     have := hg.2
     split at this
     ·assumption
     ·simp at this
    exact still rfl rfl (ziV hM hs he hd hv ht hg.1 hx) (.lit _ rfl)
   ·simp at h
  ·simp at h
 ·rename_i e0 e b g hs hd
  split at h
  ·rename_i he
   rw [za] at h; obtain ⟨hsd, h⟩ := h
   rw [bind_some] at h; obtain ⟨bx, hbx, h⟩ := h
   rw [za] at h; obtain ⟨h1, h⟩ := h
   obtain rfl := Option.some.inj h
   have hsd := beqN.1 hsd
   have h1 := bleN.1 h1
   have hbx' := box?_some hbx
   obtain ⟨o, hl, hm⟩ := (hM.box b bx hbx'.1).loc
   rw [hbx'.2] at hl
   have hfree : ∃ B cap, cv = .slice (some ⟨B, 0, none⟩) bx.row.len cap ∧ G.mine B ∧ Free w B := by
    cases hx with
    | msw _ _ cap L B hl2 hb hn hf =>
     rw [hl] at hl2
     obtain rfl := Option.some.inj hl2
     simp only at hb; subst hb
     exact ⟨B, cap, rfl, hm.1, hm.2.2.1⟩
    | mswNil _ _ L hl2 hb hn =>
     rw [hl] at hl2
     obtain rfl := Option.some.inj hl2
     simp only at hn; omega
   obtain ⟨B, cap, rfl, hmine, hF⟩ := hfree
   obtain ⟨w1, hrun, hc, hsz, ho, hos, htp, hne, hfr⟩ := markEnd (P := P) hF
   have hev : Ev G w w1 := ⟨by rw [hsz]; exact Nat.le_refl _, ho, hos, fun B' _ hn => hne B' (fun e => hn (by rw [e]; exact hmine)), fun B' j hs => by rw [hc]; exact hs, fun _ B' j _ => hc B' j,
    fun B' j hj => by
     by_cases e : B' = B
     ·subst e; rw [hF.cell hj, (hfr _ hF).cell (by rw [hc]; exact hj)]
     ·exact zcR (hne B' e) j, htp⟩
   refine ⟨G, w1, _, ?_, hx.mono (Gle.refl G) hev, Gle.refl G, hev, by simp only [Out.apply, setMem, List.append_nil]; exact hM.sameCells hev hc hsz hfr⟩
   subst hsd
   simp [convert, run_underlying hs, run_underlying he, hrun] <;> simp_all [run_underlying]
  ·simp at h
 ·simp at h
end
end Go.Ab
end
section
/- Every operation, as the evaluator takes it. -/
set_option linter.unusedVariables false
set_option linter.unusedSectionVars false
set_option linter.unusedSimpArgs false
namespace Go.Ab
variable [GTab]
section
variable {P : Program}
variable {G : Gh} {w : World} {mem : Mem} {o : Oper} {a : Act} {out : Out}
theorem zjK {c x y r : AV} {cc cx cy : Value} (h : pickA c x y = some r) (hc : VR G w c cc) (hx : VR G w x cx) (hy : VR G w y cy) :
  ∃ t, cc = .bool t ∧ VR G w r (if t then cx else cy) := by
 unfold pickA at h
 split at h
 ·rename_i t
  obtain rfl := hc.lit_inv
  refine ⟨t, rfl, ?_⟩
  split at h
  ·obtain rfl := Option.some.inj h
   obtain rfl := hx.lit_inv
   obtain rfl := hy.lit_inv
   cases t <;> exact .lit _ rfl
  ·cases t with
   | true => simp only [cond_true] at h; obtain rfl := Option.some.inj h; exact hx
   | false => simp only [cond_false] at h; obtain rfl := Option.some.inj h; exact hy
 ·simp at h
theorem zmA {x : Operand} (h : isNilC x = true) : x = .const (.slice none 0 0) := by
 unfold isNilC at h
 split at h
 ·rfl
 ·cases h
theorem zey {t : TypeId} {p : PV} (h : emptyPV P t = some p) : (∃ k, p = .ints k []) ∨ ∃ e, p = .sl e [] ∧ 1 ≤ e := by
 unfold emptyPV at h
 rw [bind_some] at h; obtain ⟨et, _, h⟩ := h
 split at h
 ·rename_i k _; exact .inl ⟨k, (Option.some.inj h).symm⟩
 ·rw [bind_some] at h; obtain ⟨e, _, h⟩ := h
  rw [za] at h
  exact .inr ⟨e, (Option.some.inj h.2).symm, bleN.1 h.1⟩
theorem zgH {boxed vars : Bool} {ρ : Operand → Option AV} {rs : Nat} {t : TypeId} {x : Operand} (hM : MemR G w mem) (hrs : isNilC x = true → mem[rs]? = some none) (hρ : EvR G w ρ a)
  (he : execOp a.eval o = pure (Next.value (a.eval x))) (h : opMove P boxed vars ρ t rs x = some out) : OpW P G w mem o a out := by
 unfold opMove at h
 cases hc : (isNilC x && boxed && !vars) with
 | true =>
  rw [hc] at h; simp only [cond_true] at h
  simp only [Bool.and_eq_true] at hc
  obtain rfl := zmA hc.1.1
  rw [bind_some] at h; obtain ⟨p, hp, h⟩ := h
  obtain ⟨row, hrow, rfl⟩ := Option.map_eq_some_iff.1 h
  have hm := hrs rfl
  have hbl : rs < mem.length := by
   rcases Nat.lt_or_ge rs mem.length with h | h
   ·exact h
   ·rw [List.getElem?_eq_none h] at hm; cases hm
  have hr : 1 ≤ row.e ∧ row.len = 0 ∧ row.isCells = false := by
   rcases zey hp with ⟨k, rfl⟩ | ⟨e, rfl, he⟩
   ·obtain rfl := Option.some.inj hrow; exact ⟨Nat.le_refl _, rfl, rfl⟩
   ·obtain rfl := Option.some.inj hrow; exact ⟨he, rfl, rfl⟩
  obtain ⟨G', hg, hl, hM'⟩ := ziq (b := rs) (g' := 0) (row' := row) hM hbl (fun g _ => hM.unset rs g (fun y hy => by rw [hm] at hy; cases hy)) hr.1 hr.2.1 hr.2.2
  refine OpDone.opW ⟨G', w, .value (a.eval (.const (.slice none 0 0))), _, by rw [he]; simp, .inl rfl, ?_, hg, Ev.refl G w, by simpa [Out.apply, setMem] using hM'⟩
  exact .mswNil rs 0 _ hl rfl hr.2.1
 | false =>
  rw [hc] at h; simp only [cond_false] at h
  rw [bind_some] at h; obtain ⟨v, hv, h⟩ := h
  have hvr := hρ _ _ hv
  split at h
  ·cases boxed with
   | true => simp only [cond_true] at h; obtain rfl := Option.some.inj h; exact OpW.plain hM he rfl rfl hvr
   | false =>
    simp only [cond_false] at h
    obtain ⟨p, hp, rfl⟩ := Option.map_eq_some_iff.1 h
    refine OpW.plain hM he rfl rfl ?_
    rw [hvr.lit_inv]
    rcases zey hp with ⟨k, rfl⟩ | ⟨e, rfl, _⟩
    ·exact .imm _ _ _ (.intsNil k _) rfl
    ·exact .imm _ _ _ (.slNil e _) rfl
  ·obtain rfl := Option.some.inj h; exact OpW.plain hM he rfl rfl hvr
theorem zjq {ρ : Operand → Option AV} {t : TypeId} {x ix : Operand} (hM : MemR G w mem) (hρ : EvR G w ρ a)
  (he : execOp a.eval o = (do pure (Next.value (← Instr.index t (a.eval x) (a.eval ix))))) (h : opIndexV P ρ t x ix = some out) : OpW P G w mem o a out := by
 unfold opIndexV at h
 rw [bind_some] at h; obtain ⟨vx, hx, h⟩ := h
 rw [bind_some] at h; obtain ⟨vi, hi, h⟩ := h
 have hxr := hρ _ _ hx
 have hir := hρ _ _ hi
 split at h
 ·rename_i cs k i
  split at h
  ·rename_i n e hu
   rw [bind_some] at h; obtain ⟨ag, hag, h⟩ := h
   rw [bind_some] at h; obtain ⟨s, hs, h⟩ := h
   rw [za] at h; obtain ⟨hg, h⟩ := h
   simp only [Bool.and_eq_true, Bool.not_eq_true', decide_eq_true_eq] at hg
   obtain ⟨⟨⟨hag0, hs1⟩, h0⟩, hn⟩ := hg
   obtain rfl := beqN.1 hs1
   obtain ⟨v, hv, rfl⟩ := Option.map_eq_some_iff.1 h
   obtain ⟨cvs, hcv, hvr⟩ := hxr.agg_inv
   have hel := hvr.2 _ _ hv
   refine OpW.still hM he rfl rfl (cv := cvs.getD i.toNat undef) ?_ hel
   rw [hcv, hir.lit_inv]
   have hlt : i.toNat < cvs.size := by
    rw [← hvr.1]; exact (List.getElem?_eq_some_iff.1 hv).1
   have := zkx (P := P) hag hs (cs := cvs) (o := i.toNat) w (.inr hlt)
   rw [hag0] at this
   simp only [Bool.false_eq_true, if_false] at this
   simp only [Instr.index, asIntOf, Sem.run_bind, Sem.run_pure, Result.andThen_ok, run_underlying hu, h0, hn, and_self, if_true, zL hs, Nat.mul_one, this]
  ·cases h
 ·rename_i s k i
  split at h
  ·rename_i hu
   obtain ⟨b, hb, rfl⟩ := Option.map_eq_some_iff.1 h
   refine OpW.still hM he rfl rfl (cv := .int .u8 b) ?_ (.lit _ rfl)
   rw [hxr.lit_inv, hir.lit_inv]
   obtain ⟨h0, hlt, hb⟩ := zfk hb
   have hs : s[i.toNat]?.map (fun c : UInt8 => (c.toNat : Int)) = some b := by
    unfold bytesInts at hb
    rw [List.getElem?_map] at hb
    rw [← hb, Array.getElem?_toList]
    by_cases hi : i.toNat < s.size
    ·rw [getElem?_pos s _ hi, getElem?_pos s.data _ hi]; rfl
    ·rw [getElem?_neg s _ hi, getElem?_neg s.data _ hi]
   obtain ⟨c, hc, rfl⟩ := Option.map_eq_some_iff.1 hs
   simp only [Instr.index, asIntOf, Sem.run_bind, Sem.run_pure, Result.andThen_ok, run_underlying hu, h0, if_true, hc]
  ·cases h
 ·cases h
theorem zmB {C : Oracle} {boxed raw vars : Bool} {ρ : Operand → Option AV} {rs : Nat} (hM : MemR G w mem) (hrs : makes o.op = true → mem[rs]? = some none) (hρ : EvR G w ρ a)
  (hcall : ∀ {raw keep : Bool} {g : FuncId} {ts : List TypeId} {fi args ca : List AV} {out : Out} {fv av cv : Array Value}, callA P C raw keep g ts fi args ca mem = some out → VRs G w fi fv → VRs G w args av → VRs G w ca cv → CallsW P G w mem g (fv ++ av ++ cv) out)
  (h : opA P C boxed raw vars o ρ mem rs = some out) : OpW P G w mem o a out := by
 unfold opA opPick opAlloc opBox opBuild opBuildSlice opStore opNil opBin opUn opFunc opMake opSlice opFieldAddr opField opIndex opExtract opCall at h
 split at h
 ·rename_i x hop
  exact zgH hM (fun hn => hrs (by rw [hop]; exact hn)) hρ (by simp only [execOp, hop]) h
 ·rename_i x hop
  exact zgH hM (fun hn => hrs (by rw [hop]; exact hn)) hρ (by simp only [execOp, hop]) h
 ·rename_i c x y hop
  rw [bind_some] at h; obtain ⟨vc, hc, h⟩ := h
  rw [bind_some] at h; obtain ⟨vx, hx, h⟩ := h
  rw [bind_some] at h; obtain ⟨vy, hy, h⟩ := h
  obtain ⟨r, hr, rfl⟩ := Option.map_eq_some_iff.1 h
  obtain ⟨t, ht, hv⟩ := zjK hr (hρ _ _ hc) (hρ _ _ hx) (hρ _ _ hy)
  refine OpDone.opW ⟨G, w, _, _, ?_, .inl rfl, hv, Gle.refl G, Ev.refl G w, by simpa [Out.apply, setMem] using hM⟩
  simp only [execOp, hop, ht, asBool]
  cases t <;> simp
 ·rename_i t hop
  rw [bind_some] at h; obtain ⟨z, hz, h⟩ := h
  rw [za] at h; obtain ⟨hg, h⟩ := h
  simp only [Bool.and_eq_true] at hg
  obtain rfl := Option.some.inj h
  exact (zls hM hop (hrs (by rw [hop]; rfl)) hz (bleN.1 hg.1) hg.2).opW
 ·rename_i t x hop
  rw [bind_some] at h; obtain ⟨v, hv, h⟩ := h
  rw [bind_some] at h; obtain ⟨n, hn, h⟩ := h
  rw [za] at h; obtain ⟨hg, h⟩ := h
  simp only [Bool.and_eq_true] at hg
  obtain rfl := Option.some.inj h
  exact (znM hM hop (hrs (by rw [hop]; rfl)) (hρ _ _ hv) (beqN.1 hg.1.1) (bleN.1 hg.1.2) hg.2).opW
 ·rename_i t parts hop
  rw [bind_some] at h; obtain ⟨ps, hps, h⟩ := h
  obtain ⟨v, hv, rfl⟩ := Option.map_eq_some_iff.1 h
  obtain ⟨cv, hrun, hvr⟩ := zjB hv (zhx hρ hps)
  exact OpW.still hM (by simp only [execOp, hop] <;> rfl) rfl rfl hrun hvr
 ·rename_i t len parts hop
  rw [bind_some] at h; obtain ⟨et, het, h⟩ := h
  rw [bind_some] at h; obtain ⟨z, hz, h⟩ := h
  rw [bind_some] at h; obtain ⟨s, hs, h⟩ := h
  rw [bind_some] at h; obtain ⟨ps, hps, h⟩ := h
  rw [za] at h; obtain ⟨hg, h⟩ := h
  rw [bind_some] at h; obtain ⟨wv, hwv, h⟩ := h
  rw [za] at h; obtain ⟨hwe, h⟩ := h
  obtain ⟨ov, hov, rfl⟩ := Option.map_eq_some_iff.1 h
  exact OpW.value (by simp only [execOp, hop] <;> rfl) (zfW hM (hrs (by rw [hop]; rfl)) het hz hs hg hwv hwe hov (zhx hρ hps))
 ·rename_i t x hop
  rw [bind_some] at h; obtain ⟨v, hv, h⟩ := h
  obtain ⟨r, rd, rfl, cv, hrun, hvr⟩ := zfL hM h (hρ _ _ hv)
  exact OpW.still hM (by simp only [execOp, hop] <;> rfl) rfl rfl hrun hvr
 ·rename_i t x y hop
  rw [bind_some] at h; obtain ⟨vx, hx, h⟩ := h
  rw [bind_some] at h; obtain ⟨vy, hy, h⟩ := h
  obtain ⟨hov, G', w', hrun, hg, hev, hM'⟩ := zji hM h (hρ _ _ hx) (hρ _ _ hy)
  refine OpDone.opW ⟨G', w', .skip, undef, ?_, .inr ⟨rfl, rfl⟩, by rw [hov]; exact .lit _ rfl, hg, hev, hM'⟩
  simp only [execOp, hop, Sem.run_bind, hrun, Result.andThen_ok, Sem.run_pure]
 ·rename_i x hop
  rw [bind_some] at h; obtain ⟨v, hv, h⟩ := h
  have hvr := hρ _ _ hv
  split at h
  ·obtain rfl := Option.some.inj h
   refine OpW.plain hM (cv := a.eval x) ?_ rfl rfl hvr
   simp only [execOp, hop]
   generalize a.eval x = cv at hvr
   cases hvr; simp only
  ·obtain rfl := Option.some.inj h
   refine OpW.plain hM (cv := a.eval x) ?_ rfl rfl hvr
   simp only [execOp, hop]
   generalize a.eval x = cv at hvr
   cases hvr; simp only
  ·obtain rfl := Option.some.inj h
   refine OpW.plain hM (cv := a.eval x) ?_ rfl rfl hvr
   simp only [execOp, hop]
   generalize a.eval x = cv at hvr
   cases hvr; simp only
  ·simp at h
 ·rename_i op t x y _ hop
  rw [bind_some] at h; obtain ⟨vx, hx, h⟩ := h
  rw [bind_some] at h; obtain ⟨vy, hy, h⟩ := h
  obtain ⟨r, hr, rfl⟩ := Option.map_eq_some_iff.1 h
  obtain ⟨cv, h1, h2, hvr⟩ := zoi (x := x) (y := y) hr (hρ _ _ hx) (hρ _ _ hy)
  refine OpW.still hM (s := do eqGuard op t x y (a.eval x) (a.eval y); binOp op t (a.eval x) (a.eval y)) (by simp only [execOp, hop]) rfl rfl ?_ hvr
  simp only [Sem.run_bind, h1, Result.andThen_ok, h2]
 ·rename_i op _ x hop
  rw [bind_some] at h; obtain ⟨vx, hx, h⟩ := h
  split at h
  ·obtain ⟨r, hr, rfl⟩ := Option.map_eq_some_iff.1 h
   have hvx := (hρ _ _ hx).lit_inv
   exact OpW.still hM (by simp only [execOp, hop] <;> rfl) rfl rfl (by rw [hvx]; exact zmY hr) (.lit _ (ziU hr))
  ·simp at h
 ·rename_i src dst x hop
  rw [bind_some] at h; obtain ⟨vx, hx, h⟩ := h
  exact OpW.value (by simp only [execOp, hop] <;> rfl) (zhT hM h (hρ _ _ hx))
 ·rename_i fn first cap hop
  rw [bind_some] at h; obtain ⟨fi, hfi, h⟩ := h
  obtain ⟨ca, hca, rfl⟩ := Option.map_eq_some_iff.1 h
  have h1 := zhd hρ hfi
  have h2 := zhd hρ hca
  exact OpW.still hM (by simp only [execOp, hop] <;> rfl) rfl rfl (cv := .func fn (first.map a.eval) (cap.map a.eval)) (by simp [Instr.makeFunc]) (.fn fn fi ca _ _ h1.1 h2.1 h1.2 h2.2)
 ·rename_i t l c hop
  rw [bind_some] at h; obtain ⟨et, het, h⟩ := h
  rw [bind_some] at h; obtain ⟨z, hz, h⟩ := h
  rw [bind_some] at h; obtain ⟨vl, hl, h⟩ := h
  rw [bind_some] at h; obtain ⟨vc, hc, h⟩ := h
  split at h
  ·rename_i k1 n k2 n'
   rw [za] at h; obtain ⟨hg, h⟩ := h
   simp only [Bool.and_eq_true, beq_iff_eq, decide_eq_true_eq] at hg
   obtain ⟨⟨hnn, hn0⟩, hml⟩ := hg
   subst hnn
   have hml := bleN.1 hml
   obtain ⟨i, zv, hi, hzv, hov⟩ := zbR hz
   have hzr : VR G w z zv := zbT hov
   have el := (hρ _ _ hl).lit_inv
   have ec := (hρ _ _ hc).lit_inv
   obtain ⟨m, rfl⟩ : ∃ m : Nat, n = (m : Int) := ⟨n.toNat, by omega⟩
   rw [Int.toNat_natCast] at hml h
   refine OpW.value (s := Instr.makeSlice t (.int k1 (m : Int)) (.int k2 (m : Int))) (by simp only [execOp, hop, el, ec]) ?_
   have hr := hrs (by rw [hop]; rfl)
   split at h
   ·rename_i k hk
    rw [bind_some] at h; obtain ⟨e, he, h⟩ := h
    rw [bind_some] at h; obtain ⟨bytes, hby, h⟩ := h
    rw [bind_some] at h; obtain ⟨zs, hzs, h⟩ := h
    rw [za] at h; obtain ⟨hg, h⟩ := h
    simp only [Bool.and_eq_true] at hg
    obtain rfl := beqN.1 hg.1
    have hb := bleN.1 hg.2
    obtain ⟨hv, hsz⟩ := zlr (n := m) hzs hzr
    exact zcZ hM hr (zdP het) hi hzv (by unfold tsz at he; rw [hi] at he; simpa using he) (Nat.le_refl _) (by unfold tbytes at hby; rw [hi] at hby; simp at hby; omega) hml hsz hv (by simp [View.len]) rfl h
   ·rw [bind_some] at h; obtain ⟨q, hq, h⟩ := h
    rw [bind_some] at h; obtain ⟨e, he, h⟩ := h
    rw [bind_some] at h; obtain ⟨bytes, hby, h⟩ := h
    rw [za] at h; obtain ⟨hg, h⟩ := h
    simp only [Bool.and_eq_true] at hg
    obtain ⟨⟨⟨g1, g2⟩, g3⟩, g4⟩ := hg
    have g1 := bleN.1 g1; have g2 := bleN.1 g2; have g3 := beqN.1 g3; have g4 := zbu g4
    obtain ⟨hv, hsz⟩ := ziy (n := m) hM hq hzr g3 g1 g4
    exact zcZ hM hr (zdP het) hi hzv (by unfold tsz at he; rw [hi] at he; simpa using he) g1 (by unfold tbytes at hby; rw [hi] at hby; simp at hby; omega) hml hsz hv (by simp [View.len]) rfl h
  ·simp at h
 ·rename_i t x lo hi mx hop
  rw [bind_some] at h; obtain ⟨vx, hx, h⟩ := h
  rw [bind_some] at h; obtain ⟨vl, hl, h⟩ := h
  rw [bind_some] at h; obtain ⟨vh, hh, h⟩ := h
  rw [bind_some] at h; obtain ⟨vm, hm, h⟩ := h
  obtain ⟨h1, h2, cv, hrun, hvr⟩ := zjv hM h (hρ _ _ hx) (zeJ hρ hl) (zeJ hρ hh) (zeJ hρ hm)
  exact OpW.still hM (by simp only [execOp, hop] <;> rfl) h1 h2 hrun hvr
 ·rename_i s x f hop
  rw [bind_some] at h; obtain ⟨vx, hx, h⟩ := h
  rw [bind_some] at h; obtain ⟨q, hq, h⟩ := h
  have hvr := hρ _ _ hx
  split at h
  ·rename_i b g i c
   obtain rfl := Option.some.inj h
   generalize hcx : a.eval x = cv at hvr
   cases hvr with
   | ptr _ _ _ _ L B hl hb =>
    refine OpW.still hM (by simp only [execOp, hop] <;> rfl) rfl rfl (by rw [hcx]; exact zft hq B _ w) ?_
    rw [Nat.add_assoc]
    exact .ptr b g i (c + q.1) L B hl hb
  ·rename_i β p c
   obtain rfl := Option.some.inj h
   generalize hcx : a.eval x = cv at hvr
   cases hvr with
   | el _ _ _ B o cv hh hr =>
    refine OpW.still hM (by simp only [execOp, hop] <;> rfl) rfl rfl (by rw [hcx]; exact zft hq B _ w) ?_
    rw [Nat.add_assoc]
    exact .el β p (c + q.1) B o cv hh hr
  ·simp at h
 ·rename_i s x f hop
  rw [bind_some] at h; obtain ⟨vx, hx, h⟩ := h
  rw [bind_some] at h; obtain ⟨q, hq, h⟩ := h
  split at h
  ·rename_i cs
   rw [bind_some] at h; obtain ⟨ag, hag, h⟩ := h
   have key : ∃ v, (bif ag then guardB (Nat.ble (q.1 + q.2.1) cs.length) (some (AV.agg ((cs.drop q.1).take q.2.1))) else cs[q.1]?) = some v ∧ out = { v } := by
    cases ag with
    | true =>
     simp only [cond_true] at h ⊢
     rw [za] at h; obtain ⟨hg, h⟩ := h
     exact ⟨_, by rw [hg]; rfl, (Option.some.inj h).symm⟩
    | false =>
     simp only [cond_false] at h ⊢
     obtain ⟨v, hv, rfl⟩ := Option.map_eq_some_iff.1 h
     exact ⟨v, hv, rfl⟩
   obtain ⟨v, hv, rfl⟩ := key
   obtain ⟨cv, hrun, hvr⟩ := zjp hq hag (hρ _ _ hx) hv
   exact OpW.still hM (by simp only [execOp, hop] <;> rfl) rfl rfl hrun hvr
  ·simp at h
 ·rename_i t x ix hop
  rw [bind_some] at h; obtain ⟨vx, hx, h⟩ := h
  rw [bind_some] at h; obtain ⟨vi, hi, h⟩ := h
  split at h
  ·rename_i k i
   have ei := (hρ _ _ hi).lit_inv
   obtain ⟨v, rd, rfl, cv, hrun, hvr⟩ := zjh (k := k) hM h (hρ _ _ hx)
   exact OpW.still hM (by simp only [execOp, hop] <;> rfl) rfl rfl (by rw [ei]; exact hrun) hvr
  ·simp at h
 ·rename_i t x ix hop
  exact zjq hM hρ (by simp only [execOp, hop] <;> rfl) h
 ·rename_i t ix hop
  rw [bind_some] at h; obtain ⟨vt, ht, h⟩ := h
  split at h
  ·rename_i vs
   obtain ⟨v, hv, rfl⟩ := Option.map_eq_some_iff.1 h
   have hvr := hρ _ _ ht
   generalize hcx : a.eval t = cv at hvr
   cases hvr with
   | tup _ cvs hlen hh =>
    have hix : ix < cvs.size := by rw [← hlen]; exact (List.getElem?_eq_some_iff.1 hv).1
    have := hh ix v hv
    rw [Array.getD_eq_getD_getElem?, Array.getElem?_eq_getElem hix] at this
    refine OpW.still hM (by simp only [execOp, hop] <;> rfl) rfl rfl (cv := cvs[ix]) ?_ this
    rw [hcx]
    simp [Instr.extract, Array.getElem?_eq_getElem hix]
  ·simp at h
 ·rename_i c hop
  rw [bind_some] at h; obtain ⟨args, hargs, h⟩ := h
  have hav := zhd hρ hargs
  split at h
  ·rename_i b hc
   obtain ⟨s, hs, hh⟩ := zhK (ty := o.type) (consts := c.args.map fun | .const _ => true | _ => false) hM (fun hb => hrs (by rw [hop]; subst hb; unfold makes; obtain ⟨cc, _, _⟩ := c; simp only at hc; subst hc; rfl)) h hav
   refine OpW.value (s := s) ?_ hh
   rw [← hs]
   simp only [execOp, hop, resolve, hc, invoke]
   rfl
  ·rename_i f hc
   rw [bind_some] at h; obtain ⟨fv, hf, h⟩ := h
   split at h
   ·rename_i g fi ca
    have hvr := hρ _ _ hf
    generalize hcx : a.eval f = cv at hvr
    cases hvr with
    | fn _ _ _ fvs cvs h1 h2 hff hcc =>
     obtain ⟨hen, hcl⟩ := hcall h ⟨h1, hff⟩ hav ⟨h2, hcc⟩
     intro K Q hK
     unfold Oper.wp
     have hx : (execOp a.eval o).run P w = .ok (.enter g (fvs ++ c.args.map a.eval ++ cvs)) w := by
      simp only [execOp, hop, resolve, hc, Deferred.ofValue, hcx, Sem.run_bind, Sem.run_pure, Result.andThen_ok, invoke]
      exact hen
     rw [hx]
     refine Calls.mono hcl fun e w' he => ?_
     obtain ⟨G', cv, rfl, hv, hg, hev, hM'⟩ := he
     exact hK G' w' cv hv hg hev hM'
   ·simp at h
  ·simp at h
 ·simp at h
end
end Go.Ab
end
section
/- Values and boxes told under other numbers. -/
set_option linter.unusedVariables false
set_option linter.unusedSectionVars false
set_option linter.unusedSimpArgs false
namespace Go.Ab
variable [GTab]
theorem zV (f : Ren) : ∀ cs : List AV, AV.renAll f cs = cs.map (·.ren f)
 | [] => by simp [AV.renAll]
 | c :: cs => by simp [AV.renAll, zV f cs]
theorem zaz : ∀ {cs : List AV} {j : Nat} {y : AV}, cs[j]? = some y → y.lent = true → AV.lentAny cs = true
 | [], j, y, h, _ => by simp at h
 | c :: cs, 0, y, h, hl => by simp at h; subst h; simp [AV.lentAny, hl]
 | c :: cs, j + 1, y, h, hl => by simp [AV.lentAny, zaz (cs := cs) (j := j) (by simpa using h) hl]
def RenOk (G G2 : Gh) (f : Ren) : Prop := ∀ b g q L, f b g = some q → G.loc b g = some L → G2.loc q.1 q.2 = some L
theorem zcd {f : Ren} {cs : List AV} {j : Nat} {y : AV} (h : (AV.renAll f cs)[j]? = some y) : ∃ x, cs[j]? = some x ∧ y = x.ren f := by
 rw [zV, List.getElem?_map] at h
 obtain ⟨x, hx, rfl⟩ := Option.map_eq_some_iff.1 h
 exact ⟨x, hx, rfl⟩
theorem VR.ren {G G2 : Gh} {w : World} {f : Ren} {l : Bool} (hr : RenOk G G2 f) (hp : ∀ β B o, (β = true → l = true) → G.prot β B o → G2.prot β B o) {a : AV} {v : Value} (h : VR G w a v) :
  (a.lent = true → l = true) → VR G2 w (a.ren f) v := by
 induction h with
 | lit v h => intro _; simp only [AV.ren]; exact .lit v h
 | imm β p v h hs => intro hl; simp only [AV.ren]; exact .imm β p v (h.mono (fun B o hb => hp β B o (fun e => hl (by simp [AV.lent, e])) hb) (fun _ _ _ => rfl)) hs
 | unkB b => intro _; simp only [AV.ren]; exact .unkB b
 | dead v h1 h2 => intro _; simp only [AV.ren]; exact .dead v h1 h2
 | ptr b g i c L B hl hb =>
  intro _; simp only [AV.ren]
  split
  ·rename_i q hq; exact .ptr q.1 q.2 i c L B (hr b g q L hq hl) hb
  ·exact .dead _ rfl rfl
 | ms b g o n cap L B hl hb hn hon hf =>
  intro _; simp only [AV.ren]
  split
  ·rename_i q hq; exact .ms q.1 q.2 o n cap L B (hr b g q L hq hl) hb hn hon hf
  ·exact .dead _ rfl rfl
 | msNil b g L hl hb =>
  intro _; simp only [AV.ren]
  split
  ·rename_i q hq; exact .msNil q.1 q.2 L (hr b g q L hq hl) hb
  ·exact .dead _ rfl rfl
 | msZ b g o B oo L hl hb ho hon =>
  intro _; simp only [AV.ren]
  split
  ·rename_i q hq; exact .msZ q.1 q.2 o B oo L (hr b g q L hq hl) hb ho hon
  ·exact .dead _ rfl rfl
 | msw b g cap L B hl hb hn hf =>
  intro _; simp only [AV.ren]
  split
  ·rename_i q hq; exact .msw q.1 q.2 cap L B (hr b g q L hq hl) hb hn hf
  ·exact .dead _ rfl rfl
 | mswNil b g L hl hb hn =>
  intro _; simp only [AV.ren]
  split
  ·rename_i q hq; exact .mswNil q.1 q.2 L (hr b g q L hq hl) hb hn
  ·exact .dead _ rfl rfl
 | el β p c B o cv h hr' =>
  intro hl; simp only [AV.ren]
  have hp' : ∀ B o, G.prot β B o → G2.prot β B o := fun B o hb => hp β B o (fun e => hl (by simp [AV.lent, e])) hb
  exact .el β p c B o cv (fun j y hy => ⟨(h j y hy).1, hp' _ _ (h j y hy).2⟩) (fun j y hy => (hr' j y hy).mono hp' (fun _ _ _ => rfl))
 | fn f' fi ca fv cv h1 h2 hf hc ihf ihc =>
  intro hl; simp only [AV.ren]
  refine .fn f' _ _ fv cv (by rw [zV]; simpa using h1) (by rw [zV]; simpa using h2) (fun j y hy => ?_) (fun j y hy => ?_)
  ·obtain ⟨x, hx, rfl⟩ := zcd hy
   exact ihf j x hx (fun e => hl (by simp [AV.lent, zaz hx e]))
  ·obtain ⟨x, hx, rfl⟩ := zcd hy
   exact ihc j x hx (fun e => hl (by simp [AV.lent, zaz hx e]))
 | agg cs cvs hlen h ih =>
  intro hl; simp only [AV.ren]
  refine .agg _ cvs (by rw [zV]; simpa using hlen) (fun j y hy => ?_)
  obtain ⟨x, hx, rfl⟩ := zcd hy
  exact ih j x hx (fun e => hl (by simp [AV.lent, zaz hx e]))
 | tup cs cvs hlen h ih =>
  intro hl; simp only [AV.ren]
  refine .tup _ cvs (by rw [zV]; simpa using hlen) (fun j y hy => ?_)
  obtain ⟨x, hx, rfl⟩ := zcd hy
  exact ih j x hx (fun e => hl (by simp [AV.lent, zaz hx e]))
def rowLent : Row → Bool
 | .cells _ cs => AV.lentAny cs
 | .pvs β _ _ => β
 | .ints _ _ => false
theorem zbE : ∀ {mem : Mem} {b : Nat} {x : Box}, mem[b]? = some (some x) → rowLent x.row = true → memLent mem = true
 | [], b, x, h, _ => by simp at h
 | some y :: m, 0, x, h, hl => by
  simp at h; subst h
  obtain ⟨g, fz, row⟩ := y
  cases row <;> simp_all [memLent, rowLent]
 | none :: m, 0, x, h, hl => by simp at h
 | some y :: m, b + 1, x, h, hl => by simp [memLent, zbE (mem := m) (b := b) (by simpa using h) hl]
 | none :: m, b + 1, x, h, hl => by simp only [memLent]; exact zbE (mem := m) (b := b) (by simpa using h) hl
theorem zbg (f : Ren) (r : Row) : (r.ren f).e = r.e := by cases r <;> rfl
theorem zaB (f : Ren) (r : Row) : (r.ren f).len = r.len := by cases r <;> simp [Row.ren, Row.len, zV]
theorem zN (f : Ren) (r : Row) : (r.ren f).isCells = r.isCells := by cases r <;> rfl
theorem RowR.ren {G G2 : Gh} {w : World} {f : Ren} {l : Bool} (hr : RenOk G G2 f) (hp : ∀ β B o, (β = true → l = true) → G.prot β B o → G2.prot β B o) {B : Nat} {r : Row} (h : RowR G w B r) (hl : rowLent r = true → l = true) :
  RowR G2 w B (r.ren f) := by
 cases r with
 | ints k xs => exact h
 | pvs β e xs => exact ⟨h.1, fun i x c y hx hy => by obtain ⟨v, h1, h2, h3⟩ := h.2 i x c y hx hy; exact ⟨v, h1, h2, h3.mono (fun B o hb => hp β B o (fun e => hl (by simp [rowLent, e])) hb) (fun _ _ _ => rfl)⟩⟩
 | cells e cs =>
  refine ⟨by simpa [zV] using h.1, fun j y hy => ?_⟩
  obtain ⟨x, hx, rfl⟩ := zcd hy
  obtain ⟨v, h1, h2, h3⟩ := h.2 j x hx
  exact ⟨v, h1, h2, h3.ren hr hp (fun e => hl (by simp [rowLent, zaz hx e]))⟩
theorem zeb : ∀ {ids : List Nat} {b n j : Nat}, idx b ids n = some j → ∃ i, j = n + i ∧ ids[i]? = some b
 | [], b, n, j, h => by simp [idx] at h
 | m :: r, b, n, j, h => by
  simp only [idx] at h
  cases hb : Nat.beq m b with
  | true => rw [hb] at h; simp at h; subst h; exact ⟨0, rfl, by simp [beqN.1 hb]⟩
  | false =>
   rw [hb] at h; simp only [cond_false] at h
   obtain ⟨i, rfl, hi⟩ := zeb h
   exact ⟨i + 1, by omega, by simpa using hi⟩
theorem zdJ : ∀ {ids : List Nat} {i j b : Nat}, nodupN ids = true → ids[i]? = some b → ids[j]? = some b → i = j
 | [], i, j, b, _, h, _ => by simp at h
 | m :: r, i, j, b, hn, hi, hj => by
  simp only [nodupN, Bool.and_eq_true, Bool.not_eq_true'] at hn
  have hno : ∀ k : Nat, r[k]? = some m → False := fun k hk => by
   have := zbO.2 (List.mem_of_getElem? hk)
   rw [this] at hn; simp at hn
  cases i with
  | zero =>
   cases j with
   | zero => rfl
   | succ j => simp at hi hj; subst hi; exact (hno j hj).elim
  | succ i =>
   cases j with
   | zero => simp at hi hj; subst hj; exact (hno i hi).elim
   | succ j => rw [zdJ (ids := r) (i := i) (j := j) hn.2 (by simpa using hi) (by simpa using hj)]
def locIn (G : Gh) (mem : Mem) (ids : List Nat) : Nat → Nat → Option Loc := fun j g => if g = 0 then (ids[j]?).bind fun b => (genOf mem b).bind (G.loc b) else none
theorem zbl {mem : Mem} {b g : Nat} : genOf mem b = some g ↔ ∃ x, mem[b]? = some (some x) ∧ x.gen = g := by
 unfold genOf
 split
 ·rename_i x hx; constructor
  ·intro h; exact ⟨x, hx, by simpa using h⟩
  ·rintro ⟨y, hy, rfl⟩; rw [hx] at hy; simp at hy; subst hy; rfl
 ·rename_i hne; constructor
  ·intro h; simp at h
  ·rintro ⟨y, hy, _⟩; exact absurd hy (hne y)
theorem zlx {mem : Mem} {ids : List Nat} {b g : Nat} {q : Nat × Nat} (h : renTo mem ids b g = some q) : ∃ j, q = (j, 0) ∧ ids[j]? = some b ∧ genOf mem b = some g := by
 unfold renTo at h
 split at h
 ·rename_i h' hg
  cases hb : Nat.beq h' g with
  | false => rw [hb] at h; simp at h
  | true =>
   rw [hb] at h; simp only [cond_true] at h
   obtain ⟨j, hj, rfl⟩ := Option.map_eq_some_iff.1 h
   obtain ⟨i, rfl, hi⟩ := zeb hj
   rw [← beqN.1 hb]
   exact ⟨i, by simp, hi, hg⟩
 ·simp at h
theorem zgu {G G2 : Gh} {mem : Mem} {ids : List Nat} (hl : G2.loc = locIn G mem ids) : RenOk G G2 (renTo mem ids) := by
 intro b g q L hq hL
 obtain ⟨j, rfl, hj, hg⟩ := zlx hq
 rw [hl]
 simp [locIn, hj, hg, hL]
theorem zP (f : Ren) (mem : Mem) : ∀ (ids : List Nat) (j : Nat), (pickMem f mem ids)[j]? = (ids[j]?).map fun b => match mem[b]? with | some (some x) => some { gen := 0, frz := x.frz, row := x.row.ren f } | _ => none
 | [], j => by simp [pickMem]
 | b :: r, 0 => by simp only [pickMem, List.getElem?_cons_zero, Option.map_some]; rfl
 | b :: r, j + 1 => by simp [pickMem, zP f mem r j]
theorem zan {f : Ren} {mem : Mem} {ids : List Nat} {j : Nat} {y : Box} (h : (pickMem f mem ids)[j]? = some (some y)) : ∃ b x, ids[j]? = some b ∧ mem[b]? = some (some x) ∧ y = { gen := 0, frz := x.frz, row := x.row.ren f } := by
 rw [zP] at h
 obtain ⟨b, hb, h⟩ := Option.map_eq_some_iff.1 h
 split at h
 ·rename_i x hx; exact ⟨b, x, hb, hx, by simpa using h.symm⟩
 ·simp at h
theorem zhw {G G2 : Gh} {w : World} {mem : Mem} {ids : List Nat} (hM : MemR G w mem) (hn : nodupN ids = true) (hloc : G2.loc = locIn G mem ids) (hp : ∀ β B o, G.prot β B o → G2.prot β B o)
  (hnp : ∀ (b : Nat) (x : Box) (L : Loc) (B : Nat), b ∈ ids → mem[b]? = some (some x) → x.frz = false → G.loc b x.gen = some L → L.blk = some B → ∀ β o, ¬ G2.prot β B o)
  (hmine : ∀ (b : Nat) (x : Box) (L : Loc) (B : Nat), b ∈ ids → mem[b]? = some (some x) → G.loc b x.gen = some L → L.blk = some B → G2.mine B) (hown : ∀ B, w.heap.size ≤ B → G2.mine B)
  (hlab : ∀ B o, G2.prot false B o → G2.prot true B o) (haway : ∀ β B o, G2.prot β B o → B < w.heap.size) : MemR G2 w (pickMem (renTo mem ids) mem ids) := by
 have hr := zgu hloc
 have l0 : ∀ {j b : Nat} {x : Box}, ids[j]? = some b → mem[b]? = some (some x) → G2.loc j 0 = G.loc b x.gen := by
  intro j b x hj hx
  rw [hloc]; simp [locIn, hj, zbl.2 ⟨x, hx, rfl⟩]
 refine ⟨fun j y h => ?_, fun j g h => ?_, fun j y g h hlt => ?_, fun j j' y y' L L' B h h' hl hl' hk hk' => ?_, hown, hlab, haway, hM.glob.mono (hp true) fun _ _ _ => rfl⟩
 ·obtain ⟨b, x, hb, hx, rfl⟩ := zan h
  have hbx := hM.box b x hx
  obtain ⟨o, hl, hm⟩ := hbx.loc
  refine ⟨by simp only [zbg]; exact hbx.e, o, ?_, ?_⟩
  ·simp only [zbg, zaB]; rw [l0 hb hx]; exact hl
  ·cases o with
   | none => simp only [zaB, zN]; exact hm
   | some B =>
    obtain ⟨h1, h2, h3, h4, h5⟩ := hm
    exact ⟨hmine b x _ B (List.mem_of_getElem? hb) hx hl rfl, h2, h3, h4.ren (l := true) hr (fun β B o _ => hp β B o) (fun _ => rfl), fun hf => hnp b x _ B (List.mem_of_getElem? hb) hx hf hl rfl⟩
 ·rw [hloc]; unfold locIn
  split
  ·cases hj : ids[j]? with
   | none => rfl
   | some b =>
    simp only [Option.bind_some]
    cases hg : genOf mem b with
    | none => rfl
    | some g' =>
     obtain ⟨x, hx, _⟩ := zbl.1 hg
     exact absurd (by rw [zP, hj]; simp [hx]) (h { gen := 0, frz := x.frz, row := x.row.ren (renTo mem ids) })
  ·rfl
 ·obtain ⟨b, x, hb, hx, rfl⟩ := zan h
  rw [hloc]; unfold locIn
  rw [if_neg (by simp only at hlt; omega)]
 ·obtain ⟨b, x, hb, hx, rfl⟩ := zan h
  obtain ⟨b', x', hb', hx', rfl⟩ := zan h'
  simp only at hl hl'
  rw [l0 hb hx] at hl; rw [l0 hb' hx'] at hl'
  obtain rfl := hM.apart b b' x x' L L' B hx hx' hl hl' hk hk'
  exact zdJ hn hb hb'
end Go.Ab
end
section
/- The state told anew; arguments lent. -/
set_option linter.unusedVariables false
set_option linter.unusedSectionVars false
set_option linter.unusedSimpArgs false
namespace Go.Ab
variable [GTab]
theorem zfS : ∀ {n i : Nat} {ids : List Nat} {j : Nat}, startsN i n ids = true → j < n → ids[j]? = some (i + j)
 | 0, i, ids, j, _, h => by omega
 | n + 1, i, [], j, h, _ => by simp [startsN] at h
 | n + 1, i, b :: r, j, h, hj => by
  simp only [startsN, Bool.and_eq_true] at h
  cases j with
  | zero => simp [beqN.1 h.1]
  | succ j => rw [List.getElem?_cons_succ, zfS h.2 (by omega)]; congr 1; omega
theorem zbS : ∀ {old : List (Option Bool)} {mem : Mem} {j : Nat}, oldOk old mem = true →
  (∀ k, old[j]? = some (some k) → ∃ x, mem[j]? = some (some x) ∧ x.row.isCells = k ∧ (k = true → x.gen = 0)) ∧ (old[j]? = some none → mem[j]? = some none)
 | [], mem, j, h => by simp
 | some k :: r, [], j, h => by simp [oldOk] at h
 | none :: r, [], j, h => by simp [oldOk] at h
 | some k :: r, none :: m, j, h => by simp [oldOk] at h
 | none :: r, some x :: m, j, h => by simp [oldOk] at h
 | none :: r, none :: m, 0, h => by simp
 | none :: r, none :: m, j + 1, h => by
  simp only [oldOk] at h
  simpa using zbS (j := j) h
 | some k :: r, some x :: m, 0, h => by
  simp only [oldOk, Bool.and_eq_true] at h
  refine ⟨fun k' hk => ?_, by simp⟩
  simp at hk; subst hk
  refine ⟨x, rfl, ?_, fun hk => ?_⟩
  ·cases k <;> simp_all
  ·subst hk; simp at h; exact h.1.2
 | some k :: r, some x :: m, j + 1, h => by
  simp only [oldOk, Bool.and_eq_true] at h
  simpa using zbS (j := j) h.2
theorem zcQ {G : Gh} {w : World} {mem : Mem} {old : List (Option Bool)} {vs : List AV} {r : List AV × Mem} (hM : MemR G w mem) (h : canon old vs mem = some r) :
  ∃ f G2, r.1 = AV.renAll f vs ∧ G2.mine = G.mine ∧ G2.prot = G.prot ∧ MemR G2 w r.2 ∧ RenOk G G2 f ∧ (∀ j, old[j]? = some (some true) → ∀ L, G.loc j 0 = some L → G2.loc j 0 = some L) ∧
   (∀ (j : Nat) (y : Box), r.2[j]? = some (some y) → y.gen = 0) ∧ (∀ (j : Nat) (k : Bool), old[j]? = some (some k) → ∃ y : Box, r.2[j]? = some (some y) ∧ y.row.isCells = k) ∧ (∀ j : Nat, old[j]? = some none → r.2[j]? = some none) := by
 unfold canon at h
 generalize reach mem (reachFuel mem (old.length + (AV.refsAll vs).length)) (rangeN 0 old.length ++ AV.refsAll vs) [] = ids at h
 simp only at h
 rw [za] at h; obtain ⟨hg, h⟩ := h
 simp only [Bool.and_eq_true] at hg
 obtain ⟨⟨g1, g2⟩, g3⟩ := hg
 obtain rfl := Option.some.inj h
 have hid : ∀ j, j < old.length → ids[j]? = some j := fun j hj => by rw [zfS g3 hj, Nat.zero_add]
 refine ⟨renTo mem ids, ⟨locIn G mem ids, G.prot, G.mine⟩, rfl, rfl, rfl, ?_, zgu rfl, fun j hj L hL => ?_, fun j y hy => ?_, fun j k hj => ?_, fun j hj => ?_⟩
 ·refine zhw hM g2 rfl (fun _ _ _ h => h) (fun b x L B _ hx hf hl hB => ?_) (fun b x L B _ hx hl hB => hM.mine hx hl hB) hM.own hM.lab hM.away
  obtain ⟨o, hl', hm⟩ := (hM.box b x hx).loc
  rw [hl] at hl'
  obtain rfl := Option.some.inj hl'
  simp only at hB; subst hB
  exact hm.2.2.2.2 hf
 ·obtain ⟨x, hx, _, h0⟩ := (zbS (j := j) g1).1 true hj
  have := hid j (List.getElem?_eq_some_iff.1 hj).1
  simp [locIn, this, zbl.2 ⟨x, hx, h0 rfl⟩, hL]
 ·obtain ⟨b, x, _, _, rfl⟩ := zan hy; rfl
 ·obtain ⟨x, hx, hk, _⟩ := (zbS (j := j) g1).1 k hj
  refine ⟨{ gen := 0, frz := x.frz, row := x.row.ren (renTo mem ids) }, ?_, by simp only [zN]; exact hk⟩
  rw [zP, hid j (List.getElem?_eq_some_iff.1 hj).1]; simp [hx]
 ·have hx := (zbS (j := j) g1).2 hj
  rw [zP, hid j (List.getElem?_eq_some_iff.1 hj).1]; simp [hx]
def Gh.lend (G : Gh) (S : Nat → Nat → Prop) : Gh := { G with prot := fun β B o => G.prot β B o ∨ (β = true ∧ S B o) }
theorem Gle.lend (G : Gh) (S : Nat → Nat → Prop) (hS : ∀ B o, S B o → G.mine B) : Gle G (G.lend S) := ⟨rfl, fun _ _ _ h => .inl h, fun _ _ _ h => h, fun _ B o h => h.imp id (fun h => hS B o h.2)⟩
section
variable {P : Program}
theorem znh {mem : Mem} {n : Nat} {l : LK} {v : AV} {r : Bool × PV × List Nat} (h : tree P mem n l v = some r) (hv : (∃ b g, v = .msw b g) ∨ (∃ b g o m, v = .ms b g o m)) : r.2.1.isSl = true := by
 have hI : ∀ {k : IntKind} {b : Nat} {w : View} {r : Bool × PV × List Nat}, tree.treeInts k b w = some r → r.2.1.isSl = true := by
  intro k b w r h
  unfold tree.treeInts at h
  split at h
  ·rw [za] at h; obtain ⟨_, h⟩ := h; obtain rfl := Option.some.inj h; rfl
  ·rw [za] at h; obtain ⟨_, h⟩ := h; obtain ⟨xs, _, rfl⟩ := Option.map_eq_some_iff.1 h; rfl
  ·simp at h
 have hS : ∀ {f : LK → AV → Option (Bool × PV × List Nat)} {t : TypeId} {e b : Nat} {w : View} {r : Bool × PV × List Nat}, tree.treeSl P f t e b w = some r → r.2.1.isSl = true := by
  intro f t e b w r h
  unfold tree.treeSl at h
  split at h
  ·rw [za] at h; obtain ⟨_, h⟩ := h; obtain rfl := Option.some.inj h; rfl
  ·rw [za] at h; obtain ⟨_, h⟩ := h
   rw [bind_some] at h; obtain ⟨_, _, h⟩ := h
   obtain ⟨xs, _, rfl⟩ := Option.map_eq_some_iff.1 h; rfl
  ·simp at h
 cases n with
 | zero => simp [tree] at h
 | succ n =>
  rcases hv with ⟨b, g, rfl⟩ | ⟨b, g, o, m, rfl⟩
  ·cases l <;> simp only [tree] at h <;> first
    | (simp at h; done)
    | (rw [bind_some] at h; obtain ⟨x, _, h⟩ := h; exact hI h)
    | (rw [bind_some] at h; obtain ⟨x, _, h⟩ := h; exact hS h)
  ·cases l <;> simp only [tree] at h <;> first
    | (simp at h; done)
    | (rw [bind_some] at h; obtain ⟨x, _, h⟩ := h; rw [bind_some] at h; obtain ⟨y, _, h⟩ := h; exact hI h)
    | (rw [bind_some] at h; obtain ⟨x, _, h⟩ := h; rw [bind_some] at h; obtain ⟨y, _, h⟩ := h; exact hS h)
theorem zbv {G : Gh} {w : World} {mem : Mem} {S : List Nat} {l : LK} {v : AV} {r : AV × List Nat} {cv : Value} (hM : MemR G w mem) (h : lendLeaf P mem l v = some r) (hv : VR G w v cv) (hS : ∀ b ∈ r.2, b ∈ S) :
  VR (G.lend (InBoxes G mem S)) w r.1 cv := by
 have key : ∀ {q : Bool × PV × List Nat}, tree P mem treeDepth l v = some q → r = (.imm true q.2.1, q.2.2) → ((∃ b g, v = .msw b g) ∨ (∃ b g o m, v = .ms b g o m)) → VR (G.lend (InBoxes G mem S)) w r.1 cv := by
  intro q hq hr hm
  subst hr
  obtain ⟨hp, _, _⟩ := zcn hM hq hv
  refine .imm true _ _ (hp.mono (fun B o hb => ?_) (fun _ _ _ => rfl)) (znh hq hm)
  rcases hb with hb | hb
  ·left
   cases hq1 : q.1 with
   | true => rw [hq1] at hb; exact hb
   | false => rw [hq1] at hb; exact hM.lab _ _ hb
  ·exact .inr ⟨rfl, hb.mono hS⟩
 unfold lendLeaf at h
 split at h
 ·obtain ⟨q, hq, hr⟩ := Option.map_eq_some_iff.1 h
  exact key hq hr.symm (.inl ⟨_, _, rfl⟩)
 ·obtain ⟨q, hq, hr⟩ := Option.map_eq_some_iff.1 h
  exact key hq hr.symm (.inr ⟨_, _, _, _, rfl⟩)
 ·obtain rfl := Option.some.inj h
  exact hv.mono (Gle.lend G _ hM.inBoxes) (Ev.refl G w)
theorem zcz {G : Gh} {w : World} {mem : Mem} {S : List Nat} (hM : MemR G w mem) : ∀ {ls : List LK} {vs : List AV} {r : List AV × List Nat} {us : List Value}, lendCells P mem ls vs = some r → LRs G w vs us → (∀ b ∈ r.2, b ∈ S) →
  LRs (G.lend (InBoxes G mem S)) w r.1 us
 | [], [], r, us, h, hv, _ => by
  simp [lendCells] at h; subst h
  exact ⟨hv.1, fun j y hy => by simp at hy⟩
 | [], v :: vs, r, us, h, _, _ => by simp [lendCells] at h
 | l :: ls, [], r, us, h, _, _ => by simp [lendCells] at h
 | l :: ls, v :: vs, r, [], h, hv, _ => by simp [LRs] at hv
 | l :: ls, v :: vs, r, u :: us, h, hv, hS => by
  simp only [lendCells] at h
  rw [bind_some] at h; obtain ⟨a, ha, h⟩ := h
  rw [bind_some] at h; obtain ⟨b, hb, h⟩ := h
  obtain rfl := Option.some.inj h
  have h1 := zbv hM ha (hv.2 0 v rfl) (fun b hb => hS b (List.mem_append_left _ hb))
  have h2 := zcz hM hb (us := us) ⟨by simpa using hv.1, fun j y hy => by simpa using hv.2 (j + 1) y (by simpa using hy)⟩ (fun b hb => hS b (List.mem_append_right _ hb))
  refine ⟨by simp [h2.1], fun j y hy => ?_⟩
  cases j with
  | zero => simp at hy; subst hy; exact h1
  | succ j => simpa using h2.2 j y (by simpa using hy)
theorem zlJ {G : Gh} {w : World} {mem : Mem} {S : List Nat} {t : TypeId} {v : AV} {r : AV × List Nat} {cv : Value} (hM : MemR G w mem) (h : lend P mem t v = some r) (hv : VR G w v cv) (hS : ∀ b ∈ r.2, b ∈ S) :
  VR (G.lend (InBoxes G mem S)) w r.1 cv := by
 have hmono := fun {a : AV} {u : Value} (h : VR G w a u) => h.mono (Gle.lend G _ (hM.inBoxes (ids := S))) (Ev.refl G w)
 unfold lend at h
 split at h
 ·rw [bind_some] at h; obtain ⟨l, hl, h⟩ := h
  exact zbv hM h hv hS
 ·rw [bind_some] at h; obtain ⟨l, hl, h⟩ := h
  exact zbv hM h hv hS
 ·rename_i cs
  cases hms : hasMs cs with
  | true =>
   rw [hms] at h; simp only [cond_true] at h
   rw [bind_some] at h; obtain ⟨ls, hls, h⟩ := h
   obtain ⟨q, hq, rfl⟩ := Option.map_eq_some_iff.1 h
   obtain ⟨cvs, rfl, hc⟩ := hv.agg_inv
   have := zcz (us := cvs.toList) hM hq ⟨by simpa using hc.1, fun j y hy => by rw [zJ]; exact hc.2 j y hy⟩ hS
   exact .agg _ cvs (by simpa using this.1) (fun j y hy => by rw [← zJ]; exact this.2 j y hy)
  | false =>
   rw [hms] at h; simp only [cond_false] at h
   obtain rfl := Option.some.inj h
   exact hmono hv
 ·obtain rfl := Option.some.inj h
  exact hmono hv
theorem zds {G : Gh} {w : World} {mem : Mem} {S : List Nat} (hM : MemR G w mem) : ∀ {ts : List TypeId} {vs : List AV} {r : List AV × List Nat} {us : List Value}, lendAll P mem ts vs = some r → LRs G w vs us → (∀ b ∈ r.2, b ∈ S) →
  LRs (G.lend (InBoxes G mem S)) w r.1 us
 | [], [], r, us, h, hv, _ => by
  simp [lendAll] at h; subst h
  exact ⟨hv.1, fun j y hy => by simp at hy⟩
 | [], v :: vs, r, us, h, _, _ => by simp [lendAll] at h
 | l :: ls, [], r, us, h, _, _ => by simp [lendAll] at h
 | l :: ls, v :: vs, r, [], h, hv, _ => by simp [LRs] at hv
 | l :: ls, v :: vs, r, u :: us, h, hv, hS => by
  simp only [lendAll] at h
  rw [bind_some] at h; obtain ⟨a, ha, h⟩ := h
  rw [bind_some] at h; obtain ⟨b, hb, h⟩ := h
  obtain rfl := Option.some.inj h
  have h1 := zlJ hM ha (hv.2 0 v rfl) (fun b hb => hS b (List.mem_append_left _ hb))
  have h2 := zds hM hb (us := us) ⟨by simpa using hv.1, fun j y hy => by simpa using hv.2 (j + 1) y (by simpa using hy)⟩ (fun b hb => hS b (List.mem_append_right _ hb))
  refine ⟨by simp [h2.1], fun j y hy => ?_⟩
  cases j with
  | zero => simp at hy; subst hy; exact h1
  | succ j => simpa using h2.2 j y (by simpa using hy)
theorem zkt {G : Gh} {w : World} {mem : Mem} {S : List Nat} (hM : MemR G w mem) {keep : Bool} {ts : List TypeId} {vs : List AV} {r : List AV × List Nat} {us : List Value} (h : lends P keep mem ts vs = some r) (hv : LRs G w vs us) (hS : ∀ b ∈ r.2, b ∈ S) :
  LRs (G.lend (InBoxes G mem S)) w r.1 us := by
 cases keep with
 | true =>
  obtain rfl := Option.some.inj h
  exact ⟨hv.1, fun j y hy => (hv.2 j y hy).mono (Gle.lend G (InBoxes G mem S) hM.inBoxes) (Ev.refl G w)⟩
 | false => exact zds hM h hv hS
structure Ret (G : Gh) (w : World) (mem : Mem) (r : AV × Mem) (G' : Gh) (w' : World) (cv : Value) : Prop where
 v : VR G' w' r.1 cv
 ev : Ev G w w'
 mine : G'.mine = G.mine
 prot : ∀ β B o, G.prot β B o → G'.prot β B o
 new : ∀ β B o, G'.prot β B o → G.prot β B o ∨ G.mine B
 memR : MemR G' w' r.2
 gens : ∀ (j : Nat) (y : Box), r.2[j]? = some (some y) → y.gen = 0
 kept : ∀ (j : Nat) (x : Box), mem[j]? = some (some x) → ∃ y : Box, r.2[j]? = some (some y) ∧ y.row.isCells = x.row.isCells ∧ (x.row.isCells = true → ∀ L, G.loc j 0 = some L → G'.loc j 0 = some L)
 nones : ∀ j : Nat, mem[j]? = some none → r.2[j]? = some none
def OracleOK (P : Program) (C : Oracle) : Prop := ∀ g args mem r, C g args mem = some r → ∀ G w vargs, MemR G w mem → (∀ (j : Nat) (x : Box), mem[j]? = some (some x) → x.gen = 0) → VRs G w args vargs →
 (callFunc g vargs).run P w = .ok (.enter g vargs) w ∧ Calls P g vargs w fun e w' => ∃ G' cv, e = .returned cv ∧ Ret G w mem r G' w' cv
def NewBlk (G : Gh) (mem : Mem) (m : Nat) (B _o : Nat) : Prop := ∃ (b : Nat) (x : Box) (L : Loc), m ≤ b ∧ mem[b]? = some (some x) ∧ G.loc b x.gen = some L ∧ L.blk = some B
theorem zbP {G : Gh} {w : World} {mem : Mem} {m : Nat} {v : AV} {cv : Value} (hM : MemR G w mem) (hv : VR G w v cv) : VR (G.frz (NewBlk G mem m)) w (v.frz m mem) cv := by
 have hg : Gle G (G.frz (NewBlk G mem m)) := Gle.frz G _ (by rintro B o ⟨b, x, L, _, hx, hl, hB⟩; exact hM.mine hx hl hB)
 have hmono := fun {a : AV} {u : Value} (h : VR G w a u) => h.mono hg (Ev.refl G w)
 unfold AV.frz
 split
 ·rename_i b g
  cases hle : Nat.ble m b with
  | false => simp only [cond_false]; exact hmono hv
  | true =>
   simp only [cond_true]
   split
   ·rename_i x hx
    obtain ⟨hm, rfl⟩ := box?_some hx
    have hbx := hM.box b x hm
    split
    ·rename_i k xs hrow
     cases hv with
     | msw _ _ cap L B hl hb hn hf =>
      obtain ⟨o, hl', hmm⟩ := hbx.loc
      have hLL := hl
      rw [hl'] at hLL
      obtain rfl := Option.some.inj hLL
      simp only at hb; subst hb
      have hr := hmm.2.2.2.1
      rw [hrow] at hr hn ⊢
      refine .imm false _ _ (.ints k xs B 0 cap hn fun i x' hx' => ?_) rfl
      rw [Nat.zero_add]
      exact ⟨hr i x' hx', .inr ⟨b, x, _, bleN.1 hle, hm, hl', rfl⟩⟩
     | mswNil _ _ L hl hb hn =>
      obtain ⟨o, hl', hmm⟩ := hbx.loc
      rw [hl] at hl'
      obtain rfl := Option.some.inj hl'
      rw [hrow] at hn
      obtain rfl := List.eq_nil_of_length_eq_zero hn
      exact .imm false _ _ (.intsNil k _) rfl
    ·rename_i β e xs hrow
     cases hv with
     | msw _ _ cap L B hl hb hn hf =>
      obtain ⟨o, hl', hmm⟩ := hbx.loc
      have hLL := hl
      rw [hl'] at hLL
      obtain rfl := Option.some.inj hLL
      simp only at hb; subst hb
      have hr := hmm.2.2.2.1
      have he := hbx.e
      rw [hrow] at hr hn he ⊢
      obtain ⟨hlen, hcell⟩ := hr
      have key : ∀ (i : Nat) (x : PV) (c : Nat) (y : PV), xs[i]? = some x → x.cells[c]? = some y → cl w B (i * e + c) = some ((cl w B (i * e + c)).getD undef) ∧ ((cl w B (i * e + c)).getD undef).oneCell' = true ∧ PR w (G.prot β) y ((cl w B (i * e + c)).getD undef) := by
       intro i x c y h1 h2
       obtain ⟨v, hv, hv1, hv2⟩ := hcell i x c y h1 h2
       rw [hv]; exact ⟨rfl, hv1, hv2⟩
      refine .imm β _ _ (.sl e xs B 0 cap (fun i c => (cl w B (i * e + c)).getD undef) he hn hlen (fun i x' c y h1 h2 => ?_) (fun i x' c y h1 h2 => (key i x' c y h1 h2).2.1) (fun i x' c y h1 h2 => (key i x' c y h1 h2).2.2.mono (fun _ _ h => .inl h) (fun _ _ _ => rfl))) rfl
      rw [Nat.zero_add]
      exact ⟨(key i x' c y h1 h2).1, .inr ⟨b, x, _, bleN.1 hle, hm, hl', rfl⟩⟩
     | mswNil _ _ L hl hb hn =>
      obtain ⟨o, hl', hmm⟩ := hbx.loc
      rw [hl] at hl'
      obtain rfl := Option.some.inj hl'
      rw [hrow] at hn
      obtain rfl := List.eq_nil_of_length_eq_zero hn
      exact .imm β _ _ (.slNil e _) rfl
    ·exact hmono hv
   ·exact hmono hv
 ·exact hmono hv
theorem zax (m : Nat) (mem : Mem) : ∀ vs : List AV, AV.frzAll m mem vs = vs.map (·.frz m mem)
 | [] => rfl
 | v :: vs => by simp [AV.frzAll, zax m mem vs]
theorem ziX {G : Gh} {w : World} {mem : Mem} {m : Nat} {v : AV} {cv : Value} (hM : MemR G w mem) (hv : VR G w v cv) : VR (G.frz (NewBlk G mem m)) w (frzRes m mem v) cv := by
 unfold frzRes
 split
 ·rename_i vs
  cases hv with
  | tup _ cvs hlen h =>
   refine .tup _ cvs (by rw [zax]; simpa using hlen) (fun j y hy => ?_)
   rw [zax, List.getElem?_map] at hy
   obtain ⟨x, hx, rfl⟩ := Option.map_eq_some_iff.1 hy
   exact zbP hM (h j x hx)
 ·rename_i vs
  cases hv with
  | agg _ cvs hlen h =>
   refine .agg _ cvs (by rw [zax]; simpa using hlen) (fun j y hy => ?_)
   rw [zax, List.getElem?_map] at hy
   obtain ⟨x, hx, rfl⟩ := Option.map_eq_some_iff.1 hy
   exact zbP hM (h j x hx)
 ·exact zbP hM hv
theorem zhV {mem : Mem} {m : Nat} {v : AV} (h1 : memLent mem = false) (h2 : v.lent = false) : (v.frz m mem).lent = false := by
 unfold AV.frz
 split
 ·rename_i b g
  cases Nat.ble m b with
  | false => exact h2
  | true =>
   simp only [cond_true]
   split
   ·rename_i x hx
    obtain ⟨hm, _⟩ := box?_some hx
    split
    ·rfl
    ·rename_i β e xs hrow
     simp only [AV.lent]
     cases β with
     | false => rfl
     | true => have := zbE hm (by rw [hrow]; rfl); rw [h1] at this; cases this
    ·rfl
   ·rfl
 ·exact h2
theorem zbK : ∀ {cs : List AV}, AV.lentAny cs = false ↔ ∀ y ∈ cs, y.lent = false
 | [] => by simp [AV.lentAny]
 | c :: cs => by simp [AV.lentAny, zbK (cs := cs)]
theorem zkA {mem : Mem} {m : Nat} {v : AV} (h1 : memLent mem = false) (h2 : v.lent = false) : (frzRes m mem v).lent = false := by
 unfold frzRes
 split
 ·rename_i vs
  simp only [AV.lent] at h2 ⊢
  rw [zbK] at h2 ⊢
  intro y hy
  rw [zax] at hy
  obtain ⟨x, hx, rfl⟩ := List.mem_map.1 hy
  exact zhV h1 (h2 x hx)
 ·rename_i vs
  simp only [AV.lent] at h2 ⊢
  rw [zbK] at h2 ⊢
  intro y hy
  rw [zax] at hy
  obtain ⟨x, hx, rfl⟩ := List.mem_map.1 hy
  exact zhV h1 (h2 x hx)
 ·exact zhV h1 h2
end
end Go.Ab
end
