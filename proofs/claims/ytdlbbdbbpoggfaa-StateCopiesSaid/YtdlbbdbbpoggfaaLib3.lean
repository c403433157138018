/- The evaluator. -/
import Derived.Test.YtdlbbdbbpoggfaaLib2
set_option linter.unusedVariables false
set_option linter.unusedSectionVars false
set_option linter.unusedSimpArgs false
section
namespace Go.Ab
variable [GTab]
theorem zK {i c : Nat} : ∀ {hs : List (Nat × Nat × AV)}, findC c hs = none → holeFor i c hs = none
 | [], _ => rfl
 | (i', c', v) :: r, h => by
  simp only [findC] at h
  cases hb : Nat.beq c c' with
  | true => rw [hb] at h; cases h
  | false =>
   rw [hb] at h; simp only [yh] at h
   have hne : ¬ (i' = i ∧ c' = c) := fun hh => by rw [beqN.2 hh.2.symm] at hb; cases hb
   simp only [holeFor, if_neg hne]
   exact zK h
theorem zeB {i c : Nat} {v : AV} : ∀ {hs : List (Nat × Nat × AV)}, findC c hs = some (i, v) → holeFor i c hs = some v
 | [], h => by cases h
 | (i', c', u) :: r, h => by
  simp only [findC] at h
  cases hb : Nat.beq c c' with
  | true =>
   rw [hb] at h; simp only [yg, Option.some.injEq, Prod.mk.injEq] at h
   obtain ⟨rfl, rfl⟩ := h
   simp [holeFor, beqN.1 hb]
  | false =>
   rw [hb] at h; simp only [yh] at h
   have hne : ¬ (i' = i ∧ c' = c) := fun hh => by rw [beqN.2 hh.2.symm] at hb; cases hb
   simp only [holeFor, if_neg hne]
   exact zeB h
theorem zmY {y : PV} {row : Row} (h : leafRow y = some row) : 1 ≤ row.e ∧ row.isCells = false ∧ row.isOwn = false := by
 cases y with
 | ints k ys => obtain rfl := ya h; exact ⟨yx _, rfl, rfl⟩
 | sl e ys => simp only [leafRow] at h; rw [za] at h; obtain ⟨he, h⟩ := h; obtain rfl := ya h; exact ⟨bleN.1 he, rfl, rfl⟩
 | lit u => cases h
 | agg cs => cases h
theorem RowP.row {G : Gh} {w : World} {B : Nat} {r : Row} (h : RowP G w B r) : RowR G w B r := by
 cases r with
 | ints k xs => exact h
 | pvs β e xs => exact h
 | cells e cs => cases h
 | own e xs hs => cases h
theorem zlW {G : Gh} {w : World} {B : Nat} {e : Nat} {xs : List PV} {hs : List (Nat × Nat × AV)} (h : RowR G w B (.own e xs hs)) {i c : Nat} {p y : PV} (hp : xs[i]? = some p) (hy : p.cells[c]? = some y) :
  ∃ v, cl w B (i * e + c) = some v ∧ v.oneCell' = true ∧ HR G w (holeFor i c hs) y v := h.2.2 i p c y hp hy
theorem zic {m n : Mem} {b : Nat} {x : Box} (h : (m ++ n)[b]? = some (some x)) : (b < m.length ∧ m[b]? = some (some x)) ∨ (m.length ≤ b ∧ n[b - m.length]? = some (some x)) := by
 by_cases hb : b < m.length
 ·rw [yp hb] at h; exact .inl ⟨hb, h⟩
 ·rw [yu (by omega)] at h; exact .inr ⟨by omega, h⟩
def hdrBlk : Value → Option Nat
 | .slice (some a) _ _ => some a.block
 | _ => none
def hdrLoc (v : Value) (row : Row) : Loc := ⟨hdrBlk v, row.e, row.len⟩
theorem znr {G : Gh} {w : World} {mem : Mem} {b : Nat} {bx : Box} {B e i c : Nat} {xs : List PV} {hs : List (Nat × Nat × AV)} {p y : PV} {row : Row} (hM : MemR G w mem) (hx : mem[b]? = some (some bx)) (hrow : bx.row = .own e xs hs) (hB : Blk G b bx B)
  (hp : xs[i]? = some p) (hy : p.cells[c]? = some y) (hh : holeFor i c hs = none) (hl : leafRow y = some row) :
  ∃ G' v, G' = G.put mem.length 0 (hdrLoc v row) ∧ cl w B (i * e + c) = some v ∧ Gle G G' ∧ VR G' w (.msw mem.length 0) v ∧
   MemR G' w (mem.set b (some { bx with row := .own e xs ((i, c, .msw mem.length 0) :: hs) }) ++ [some { gen := 0, frz := false, row }]) := by
 obtain ⟨hl1, hmi, hlt, hfr, hr, hpr⟩ := hM.blk hx hB
 rw [hrow] at hr hl1
 obtain ⟨v, hv, hv1, hor⟩ := zlW hr hp hy
 rw [hh] at hor
 obtain ⟨g1, g2, g3⟩ := zmY hl
 have hnb : ∀ g, G.loc mem.length g = none := fun g => hM.unset _ g (fun x hx => by rw [ya1 (yx _)] at hx; cases hx)
 have hbl : b < mem.length := (ye.1 hx).1
 obtain ⟨L, hL⟩ : ∃ L, hdrLoc v row = L := ⟨_, rfl⟩
 have hg : Gle G (G.put mem.length 0 L) := Gle.put (.inl (hnb 0))
 have hev := Ev.refl G w
 -- what the header says
 have key : VR (G.put mem.length 0 L) w (.msw mem.length 0) v ∧ L.e = row.e ∧ L.n = row.len ∧ (L.blk = none → row.len = 0) ∧
   (∀ B', L.blk = some B' → InnB w B bx.row i c B' ∧ G.mine B' ∧ B' < w.heap.size ∧ Free w B' ∧ RowP G w B' row ∧ ∀ β o, ¬ G.prot β B' o) := by
  rcases hor with ⟨u, rfl, _⟩ | ⟨row', hrow', hor⟩
  ·cases hl
  ·rw [hl] at hrow'
   obtain rfl := ya hrow'
   rcases hor with ⟨rfl, h0⟩ | ⟨B', cap, rfl, k1, k2, k3, k4, k5, k6, k7⟩
   ·subst hL
    exact ⟨.mswNil _ _ _ (Gh.put_self ..) rfl h0, rfl, rfl, fun _ => h0, fun B' h => (nomatch h)⟩
   ·subst hL
    refine ⟨.msw _ _ cap _ B' (Gh.put_self ..) rfl k1 k2, rfl, rfl, fun h => (nomatch h), fun B2 h => ?_⟩
    obtain rfl : B' = B2 := ya h
    refine ⟨?_, k3, k4, k5, k6, k7⟩
    rw [hrow]
    exact ⟨⟨p, y, row, hp, hy, hl⟩, hh, row.len, cap, hv⟩
 obtain ⟨hvr, hLe, hLn, hLz, hLB⟩ := key
 -- the new memory
 have hget : ∀ {b' : Nat} {z : Box}, (mem.set b (some { bx with row := .own e xs ((i, c, .msw mem.length 0) :: hs) }) ++ [some { gen := 0, frz := false, row }])[b']? = some (some z) →
   (b' = b ∧ z = { bx with row := .own e xs ((i, c, .msw mem.length 0) :: hs) }) ∨ (b' ≠ b ∧ b' < mem.length ∧ mem[b']? = some (some z)) ∨ (b' = mem.length ∧ z = { gen := 0, frz := false, row }) := by
  intro b' z h
  rcases zic h with ⟨h1, h2⟩ | ⟨h1, h2⟩
  ·rw [ym2] at h1
   by_cases e : b' = b
   ·subst e; rw [yw hbl] at h2; exact .inl ⟨rfl, by simpa using h2.symm⟩
   ·rw [yq (fun x => e x.symm)] at h2; exact .inr (.inl ⟨e, h1, h2⟩)
  ·rw [ym2] at h1 h2
   have h0 : b' - mem.length = 0 := by
    have := (ye.1 h2).1; simp at this; omega
   rw [h0] at h2
   exact .inr (.inr ⟨by omega, by simpa using h2.symm⟩)
 have hne : ∀ {b' g : Nat}, b' < mem.length → (G.put mem.length 0 L).loc b' g = G.loc b' g := fun h => Gh.put_ne _ _ (fun x => by omega)
 have hblk : ∀ {b' : Nat} {z z' : Box} {C : Nat}, b' < mem.length → z.gen = z'.gen → Blk (G.put mem.length 0 L) b' z C → Blk G b' z' C := by
  rintro b' z z' C h1 h2 ⟨L', l', k'⟩
  rw [hne h1, h2] at l'; exact ⟨L', l', k'⟩
 have hblkN : ∀ {z : Box} {C : Nat}, z.gen = 0 → Blk (G.put mem.length 0 L) mem.length z C → L.blk = some C := by
  rintro z C h0 ⟨L', l', k'⟩
  rw [h0, Gh.put_self] at l'
  obtain rfl := ya l'; exact k'
 have hinn : ∀ {i' c' B' C : Nat}, InnB w C (Row.own e xs ((i, c, .msw mem.length 0) :: hs)) i' c' B' → InnB w C bx.row i' c' B' ∧ ¬ (i' = i ∧ c' = c) := by
  rintro i' c' B' C ⟨h1, h2, h3⟩
  simp only [holeFor] at h2
  split at h2
  ·cases h2
  ·rename_i hn; rw [hrow]; exact ⟨⟨h1, h2, h3⟩, fun hh => hn ⟨hh.1.symm, hh.2.symm⟩⟩
 have hrowmono : ∀ {C : Nat} {r : Row} {b' : Nat} {z : Box}, mem[b']? = some (some z) → z.row = r → Blk G b' z C → RowR G w C r → RowR (G.put mem.length 0 L) w C r := by
  intro C r b' z hz hzr hC h
  exact h.mono hg hev (fun _ _ => rfl) fun i c B' hi => ⟨.of rfl, (hM.inn hz hC (by rw [hzr]; exact hi)).2.2.2⟩
 refine ⟨_, v, by rw [hL], hv, hg, hvr, ⟨fun b' z h => ?_, fun b' g h => ?_, fun b' z g h hlt' => ?_, fun b1 b2 z1 z2 L1 L2 C h1 h2 l1 l2 k1 k2 => ?_, fun b1 b2 z1 z2 C i' c' B' h1 k1 hi h2 k2 => ?_, fun b1 b2 z1 z2 C D i' c' i2 c2 B' h1 k1 hi h2 k2 hi2 => ?_, hM.own, hM.lab, hM.away, hM.glob.mono (hg.prot true) (hev.prot true)⟩⟩
 ·rcases hget h with ⟨rfl, rfl⟩ | ⟨hn, hl', hz⟩ | ⟨rfl, rfl⟩
  ·have hb := hM.box _ _ hx
   refine ⟨by have := hb.e; rw [hrow] at this; exact this, some B, by rw [hne hbl]; exact hl1, hmi, hlt, hfr, ?_, hpr⟩
   refine ⟨fun h hh => ?_, hr.2.1, fun i' x' c' y' h1 h2 => ?_⟩
   ·rcases yn1.1 hh with rfl | hh
    ·exact (ye.1 hp).1
    ·exact hr.1 h hh
   ·obtain ⟨v', hv', hv1', hp'⟩ := hr.2.2 i' x' c' y' h1 h2
    refine ⟨v', hv', hv1', ?_⟩
    by_cases hcc : i = i' ∧ c = c'
    ·obtain ⟨rfl, rfl⟩ := hcc
     rw [hv] at hv'
     obtain rfl := ya hv'
     simp only [holeFor, and_self, if_true, HR]; exact hvr
    ·simp only [holeFor, if_neg hcc]
     cases ho : holeFor i' c' hs with
     | some a => rw [ho] at hp'; exact VR.mono hg hev hp'
     | none =>
      rw [ho] at hp'
      refine OR.mono hg hev hp' fun B' n cap hrow2 hvv => ⟨.of rfl, ?_⟩
      obtain ⟨row2, hrow2⟩ := hrow2
      exact (hM.inn hx hB (i := i') (c := c') (by rw [hrow]; exact ⟨⟨x', y', row2, h1, h2, hrow2⟩, ho, n, cap, by rw [hv', hvv]⟩)).2.2.2
  ·have hb := hM.box b' z hz
   obtain ⟨o, hlo, hm⟩ := hb.loc
   refine ⟨hb.e, o, by rw [hne hl']; exact hlo, ?_⟩
   cases o with
   | none => exact hm
   | some C =>
    obtain ⟨m1, m2, m3, m4, m5⟩ := hm
    exact ⟨m1, m2, m3, hrowmono hz rfl ⟨_, hlo, rfl⟩ m4, m5⟩
  ·refine ⟨g1, L.blk, by rw [Gh.put_self, ← hLe, ← hLn], ?_⟩
   cases hLb : L.blk with
   | none => exact ⟨hLz hLb, g2⟩
   | some B' =>
    obtain ⟨_, m1, m2, m3, m4, m5⟩ := hLB B' hLb
    exact ⟨m1, m2, m3, (m4.mono hg hev (fun _ _ => rfl)).row, fun _ => m5⟩
 ·have hn : b' ≠ mem.length := by
   rintro rfl
   exact h { gen := 0, frz := false, row } (by rw [yu (by simp)]; simp)
  rw [Gh.put_ne _ _ (fun x => hn x.1)]
  refine hM.unset b' g fun x hx' => ?_
  have hbl' := (ye.1 hx').1
  by_cases e : b' = b
  ·subst e
   exact h _ (by rw [yp (by simpa using hbl'), yw hbl'])
  ·exact h x (by rw [yp (by simpa using hbl'), yq (fun x => e x.symm)]; exact hx')
 ·rcases hget h with ⟨rfl, rfl⟩ | ⟨hn, hl', hz⟩ | ⟨rfl, rfl⟩
  ·rw [hne hbl]; exact hM.gens _ _ g hx hlt'
  ·rw [hne hl']; exact hM.gens _ _ g hz hlt'
  ·rw [Gh.put_ne _ _ (fun x => by simp only at hlt'; omega)]; exact hnb g
 ·have hN : ∀ {b' : Nat} {z : Box}, mem[b']? = some (some z) → Blk G b' z C → L.blk = some C → False := fun hz hC hLC => hM.inA b _ bx _ B i c C hx hB (hLB C hLC).1 hz hC
  rcases hget h1 with ⟨rfl, rfl⟩ | ⟨hn1, hl1', hz1⟩ | ⟨rfl, rfl⟩ <;> rcases hget h2 with ⟨rfl, rfl⟩ | ⟨hn2, hl2', hz2⟩ | ⟨rfl, rfl⟩
  ·rfl
  ·rw [hne hbl] at l1; rw [hne hl2'] at l2; exact hM.apart _ _ bx z2 L1 L2 C hx hz2 l1 l2 k1 k2
  ·exact (hN hx (hblk (z' := bx) hbl rfl ⟨L1, l1, k1⟩) (hblkN rfl ⟨L2, l2, k2⟩)).elim
  ·rw [hne hl1'] at l1; rw [hne hbl] at l2; exact hM.apart _ _ z1 bx L1 L2 C hz1 hx l1 l2 k1 k2
  ·rw [hne hl1'] at l1; rw [hne hl2'] at l2; exact hM.apart _ _ z1 z2 L1 L2 C hz1 hz2 l1 l2 k1 k2
  ·exact (hN hz1 (hblk (z' := z1) hl1' rfl ⟨L1, l1, k1⟩) (hblkN rfl ⟨L2, l2, k2⟩)).elim
  ·exact (hN hx (hblk (z' := bx) hbl rfl ⟨L2, l2, k2⟩) (hblkN rfl ⟨L1, l1, k1⟩)).elim
  ·exact (hN hz2 (hblk (z' := z2) hl2' rfl ⟨L2, l2, k2⟩) (hblkN rfl ⟨L1, l1, k1⟩)).elim
  ·rfl
 ·have hb1 : ∃ z0 C0, mem[b1]? = some (some z0) ∧ Blk G b1 z0 C ∧ InnB w C z0.row i' c' B' ∧ (b1 = b → ¬ (i' = i ∧ c' = c)) ∧ C0 = C := by
   rcases hget h1 with ⟨rfl, rfl⟩ | ⟨hn1, hl1', hz1⟩ | ⟨rfl, rfl⟩
   ·exact ⟨bx, C, hx, hblk hbl rfl k1, (hinn hi).1, fun _ => (hinn hi).2, rfl⟩
   ·exact ⟨z1, C, hz1, hblk hl1' rfl k1, hi, fun h => absurd h hn1, rfl⟩
   ·have := hi.own; rw [g3] at this; cases this
  obtain ⟨z0, _, hz0, hC0, hi0, hne0, _⟩ := hb1
  rcases hget h2 with ⟨rfl, rfl⟩ | ⟨hn2, hl2', hz2⟩ | ⟨rfl, rfl⟩
  ·exact hM.inA _ _ z0 bx C i' c' B' hz0 hC0 hi0 hx (hblk hbl rfl k2)
  ·exact hM.inA _ _ z0 z2 C i' c' B' hz0 hC0 hi0 hz2 (hblk hl2' rfl k2)
  ·have hLC := hblkN rfl k2
   obtain ⟨e1, e2, e3⟩ := hM.inB _ _ z0 bx C B i' c' i c B' hz0 hC0 hi0 hx hB (hLB B' hLC).1
   exact hne0 e1 ⟨e2, e3⟩
 ·have hb1 : ∀ {b1 : Nat} {z1 : Box} {C i' c' : Nat}, (mem.set b (some { bx with row := .own e xs ((i, c, .msw mem.length 0) :: hs) }) ++ [some { gen := 0, frz := false, row }])[b1]? = some (some z1) → Blk (G.put mem.length 0 L) b1 z1 C → InnB w C z1.row i' c' B' →
    ∃ z0, mem[b1]? = some (some z0) ∧ Blk G b1 z0 C ∧ InnB w C z0.row i' c' B' := by
   intro b1 z1 C i' c' h1 k1 hi
   rcases hget h1 with ⟨rfl, rfl⟩ | ⟨hn1, hl1', hz1⟩ | ⟨rfl, rfl⟩
   ·exact ⟨bx, hx, hblk hbl rfl k1, (hinn hi).1⟩
   ·exact ⟨z1, hz1, hblk hl1' rfl k1, hi⟩
   ·have := hi.own; rw [g3] at this; cases this
  obtain ⟨y1, a1, a2, a3⟩ := hb1 h1 k1 hi
  obtain ⟨y2, d1, d2, d3⟩ := hb1 h2 k2 hi2
  exact hM.inB _ _ y1 y2 C D i' c' i2 c2 B' a1 a2 a3 d1 d2 d3
end Go.Ab
end
section
namespace Go.Ab
variable [GTab]
theorem zhh : ∀ {a b : List Row}, newOnes (a ++ b) = newOnes a ++ newOnes b
 | [], b => rfl
 | r :: a, b => by simp [newOnes, zhh (a := a)]
theorem zhf : ∀ {a : List Row}, (newOnes a).length = a.length
 | [] => rfl
 | r :: a => by simp [newOnes, zhf (a := a)]
theorem zqm {m n : Mem} {b : Nat} {x : Option Box} (h : b < m.length) : (m ++ n).set b x = m.set b x ++ n := List.set_append_left _ _ h
theorem zcQ {m : Mem} {b : Nat} {x : Option Box} (h : m[b]? = some x) : m.set b x = m := by
 have hl := (ye.1 h).1
 apply List.ext_getElem?
 intro j
 by_cases e : b = j
 ·subst e; rw [yw hl, h]
 ·rw [yq e]
section
variable {P : Program}
theorem zoH {l : LK} {y : PV} {a : AV} (hf : flatLK l = true) (h : rdLeaf true l y = some a) : ∃ u, y = .lit u ∧ a = .lit u ∧ notAgg u = true := by
 cases l with
 | int k =>
  simp only [rdLeaf] at h; rw [bind_some] at h; obtain ⟨x, hx, h⟩ := h
  obtain rfl := ya h
  unfold PV.int? at hx
  split at hx
  ·rename_i k' n
   cases hk : kEq k k' with
   | true => rw [hk] at hx; obtain rfl := ya hx; rw [zaR] at hk; subst hk; exact ⟨_, rfl, rfl, rfl⟩
   | false => rw [hk] at hx; cases hx
  ·cases hx
 | bool =>
  simp only [rdLeaf] at h; rw [bind_some] at h; obtain ⟨x, hx, h⟩ := h
  obtain rfl := ya h
  unfold PV.bool? at hx
  split at hx
  ·obtain rfl := ya hx; exact ⟨_, rfl, rfl, rfl⟩
  ·cases hx
 | str =>
  simp only [rdLeaf] at h; rw [bind_some] at h; obtain ⟨x, hx, h⟩ := h
  obtain rfl := ya h
  unfold PV.str? at hx
  split at hx
  ·obtain rfl := ya hx; exact ⟨_, rfl, rfl, rfl⟩
  ·cases hx
 | ints k => cases hf
 | sl t e => cases hf
structure Took (G : Gh) (w : World) (mem : Mem) (b : Nat) (bx : Box) (e : Nat) (xs : List PV) (hs' : List (Nat × Nat × AV)) (rows : List Row) (G' : Gh) : Prop where
 gle : Gle G G'
 memr : MemR G' w (mem.set b (some { bx with row := .own e xs hs' }) ++ newOnes rows)
theorem zdV {G : Gh} {w : World} {mem : Mem} {b : Nat} {bx : Box} {B e i c : Nat} {xs : List PV} {hs : List (Nat × Nat × AV)} {tk : Bool} {l : LK} {r : AV × List (Nat × Nat × AV) × List Row} (hM : MemR G w mem)
  (hx : mem[b]? = some (some bx)) (hrow : bx.row = .own e xs hs) (hB : Blk G b bx B) (h : readO tk xs i c l hs mem.length = some r) :
  ∃ G' v, cl w B (i * e + c) = some v ∧ VR G' w r.1 v ∧ Took G w mem b bx e xs r.2.1 r.2.2 G' ∧ (r.2.2 = [] → r.2.1 = hs) := by
 unfold readO at h
 rw [bind_some] at h; obtain ⟨p, hp, h⟩ := h
 rw [bind_some] at h; obtain ⟨y, hy, h⟩ := h
 have hr := (hM.blk hx hB).2.2.2.2.1
 rw [hrow] at hr
 obtain ⟨v, hv, hv1, hor⟩ := zlW hr hp hy
 have same : Took G w mem b bx e xs hs [] G := by
  refine ⟨Gle.refl G, ?_⟩
  simp only [newOnes, yh1]
  have : (some { bx with row := .own e xs hs } : Option Box) = some bx := by rw [← hrow]
  rw [this, zcQ hx]; exact hM
 split at h
 ·rename_i hh hf
  rw [za] at h; obtain ⟨hi, h⟩ := h
  obtain rfl := ya h
  obtain rfl := beqN.1 hi
  rw [zeB hf] at hor
  exact ⟨G, v, hv, hor, same, fun _ => rfl⟩
 ·rename_i hf
  rw [zK hf] at hor
  cases hfl : flatLK l with
  | true =>
   rw [hfl] at h; simp only [yg] at h
   obtain ⟨a, ha, rfl⟩ := yd.1 h
   obtain ⟨u, rfl, rfl, hu⟩ := zoH hfl ha
   refine ⟨G, v, hv, ?_, same, fun _ => rfl⟩
   rcases hor with ⟨u', hu', rfl⟩ | ⟨row, hrow', _⟩
   ·obtain rfl : u = v := by simpa using hu'
    exact .lit u hu
   ·cases hrow'
  | false =>
   rw [hfl] at h; simp only [yh] at h
   rw [za] at h; obtain ⟨_, h⟩ := h
   obtain ⟨row, hrow', rfl⟩ := yd.1 h
   obtain ⟨G', v', _, hv', hg, hvr, hM'⟩ := znr hM hx hrow hB hp hy (zK hf) hrow'
   exact ⟨G', v', hv', hvr, ⟨hg, hM'⟩, fun h => by cases h⟩
theorem zfx {w : World} {b : Nat} {B e i : Nat} {xs : List PV} {tk : Bool} : ∀ {ls : List LK} {c : Nat} {G : Gh} {mem : Mem} {bx : Box} {hs : List (Nat × Nat × AV)} {r : List AV × List (Nat × Nat × AV) × List Row}, MemR G w mem →
  mem[b]? = some (some bx) → bx.row = .own e xs hs → Blk G b bx B → readsO tk xs i ls c hs mem.length = some r →
  ∃ G', Took G w mem b bx e xs r.2.1 r.2.2 G' ∧ (r.2.2 = [] → r.2.1 = hs) ∧ r.1.length = ls.length ∧ ∀ (j : Nat) (a : AV), r.1[j]? = some a → ∃ v, cl w B (i * e + c + j) = some v ∧ VR G' w a v
 | [], c, G, mem, bx, hs, r, hM, hx, hrow, hB, h => by
  obtain rfl := ya h
  refine ⟨G, ⟨Gle.refl G, ?_⟩, fun _ => rfl, rfl, fun j a ha => by simp at ha⟩
  simp only [newOnes, yh1]
  have : (some { bx with row := .own e xs hs } : Option Box) = some bx := by rw [← hrow]
  rw [this, zcQ hx]; exact hM
 | l :: ls, c, G, mem, bx, hs, r, hM, hx, hrow, hB, h => by
  simp only [readsO] at h
  rw [bind_some] at h; obtain ⟨a, ha, h⟩ := h
  obtain ⟨q, hq, rfl⟩ := yd.1 h
  obtain ⟨G1, v, hv, hvr, ⟨hg1, hM1⟩, hsame⟩ := zdV hM hx hrow hB ha
  have hbl := (ye.1 hx).1
  have hx1 : (mem.set b (some { bx with row := .own e xs a.2.1 }) ++ newOnes a.2.2)[b]? = some (some { bx with row := .own e xs a.2.1 }) := by
   rw [yp (by simpa using hbl), yw hbl]
  have hB1 : Blk G1 b { bx with row := .own e xs a.2.1 } B := by
   obtain ⟨L, hl, hk⟩ := hB; exact ⟨L, hg1.loc _ _ _ hl, hk⟩
  obtain ⟨G2, ⟨hg2, hM2⟩, hsame2, hlen, hvs⟩ := zfx (ls := ls) (c := c + 1) hM1 hx1 rfl hB1 (by rw [yi1, ym2, zhf]; exact hq)
  refine ⟨G2, ⟨hg1.trans hg2, ?_⟩, fun hn => ?_, by simp [hlen], fun j a' ha' => ?_⟩
  ·rw [zqm (by simpa using hbl), List.set_set] at hM2
   rw [zhh, ← List.append_assoc]; exact hM2
  ·have hn' := List.append_eq_nil_iff.1 hn
   rw [hsame2 hn'.2, hsame hn'.1]
  ·cases j with
   | zero => simp at ha'; subst ha'; exact ⟨v, by simpa using hv, hvr.mono hg2 (Ev.refl _ _)⟩
   | succ j =>
    simp only [ye1] at ha'
    obtain ⟨u, hu, hur⟩ := hvs j a' ha'
    exact ⟨u, by rw [← hu]; congr 1; omega, hur⟩
theorem zhM {mem : Mem} {b e : Nat} {bx : Box} {xs : List PV} {v : AV} {hs hs' : List (Nat × Nat × AV)} {rows : List Row} (hx : mem[b]? = some (some bx)) (hrow : bx.row = .own e xs hs) (hn : rows = [] → hs' = hs) :
  (tookO b e bx xs v (hs', rows)).apply mem = mem.set b (some { bx with row := .own e xs hs' }) ++ newOnes rows := by
 unfold tookO
 cases rows with
 | nil =>
  simp only [Out.apply, setMem, newOnes, yh1]
  obtain rfl := hn rfl
  have : (some { bx with row := .own e xs hs' } : Option Box) = some bx := by rw [← hrow]
  rw [this, zcQ hx]
 | cons r rows => simp only [Out.apply, setMem]
theorem znR {b e : Nat} {bx : Box} {xs : List PV} {v : AV} {q : List (Nat × Nat × AV) × List Row} : (tookO b e bx xs v q).v = v := by
 unfold tookO; split <;> rfl
theorem zlb {G : Gh} {w : World} {mem : Mem} {tk : Bool} {t : TypeId} {a : AV} {out : Out} {cv : Value} (hM : MemR G w mem) (h : loadO P tk t mem a = some out) (ha : VR G w a cv) :
  ∃ G' cv', (Instr.loadAt t cv).run P w = .ok cv' w ∧ VR G' w out.v cv' ∧ Gle G G' ∧ MemR G' w (out.apply mem) := by
 unfold loadO at h
 split at h
 ·rename_i b g i c
  rw [bind_some] at h; obtain ⟨bx, hbx, h⟩ := h
  obtain ⟨hm, hge, hown⟩ := boxO?_some hbx
  split at h
  ·rename_i e xs hs hrow
   obtain ⟨B, rfl, hl, _⟩ := hM.at_ptr' hm hge ha
   have hB : Blk G b bx B := ⟨_, by rw [hge]; exact hl, rfl⟩
   rw [show bx.row.e = e by rw [hrow]; rfl]
   have hsa : ∀ cv', (loadVar t ⟨B, i * e + c, none⟩).run P w = .ok cv' w → (Instr.loadAt t (.pointer (some ⟨B, i * e + c, none⟩))).run P w = .ok cv' w := by
    intro cv' hh; simp [Instr.loadAt, Instr.sureAddr, hh]
   split at h
   ·rename_i hag
    rw [bind_some] at h; obtain ⟨l, hl', h⟩ := h
    obtain ⟨q, hq, rfl⟩ := yd.1 h
    obtain ⟨G', v, hv, hvr, ⟨hg, hM'⟩, hsame⟩ := zdV hM hm hrow hB hq
    refine ⟨G', v, hsa _ (zaG hag hv), by rw [znR]; exact hvr, hg, ?_⟩
    rw [zhM hm hrow hsame]; exact hM'
   ·rename_i hag
    rw [bind_some] at h; obtain ⟨ls, hls, h⟩ := h
    rw [bind_some] at h; obtain ⟨n, hn, h⟩ := h
    rw [za] at h; obtain ⟨hnl, h⟩ := h
    obtain ⟨q, hq, rfl⟩ := yd.1 h
    obtain rfl := beqN.1 hnl
    obtain ⟨G', ⟨hg, hM'⟩, hsame, hlen, hvs⟩ := zfx hM hm hrow hB hq
    have hcell : ∀ j, j < ls.length → cl w B (i * e + c + j) = some ((cl w B (i * e + c + j)).getD undef) := by
     intro j hj
     obtain ⟨v, hv, _⟩ := hvs j _ (yf (by rw [hlen]; exact hj))
     rw [hv]; rfl
    refine ⟨G', _, hsa _ (zbm hag hn (fun j => (cl w B (i * e + c + j)).getD undef) hcell), ?_, hg, ?_⟩
    ·rw [znR]
     refine .agg _ _ (by simp [hlen]) fun j y hy => ?_
     have hj : j < ls.length := by rw [← hlen]; exact (ye.1 hy).1
     obtain ⟨v, hv, hvr⟩ := hvs j y hy
     simp only [ym]
     simp [hj, hv, hvr]
    ·rw [zhM hm hrow hsame]; exact hM'
   ·cases h
  ·cases h
 ·cases h
theorem zmH {G : Gh} {w : World} {mem : Mem} {t ty : TypeId} {x : AV} {out : Out} {cv : Value} (hM : MemR G w mem) (h : lenO P t mem x = some out) (hx : VR G w x cv) :
  out.wr = [] ∧ out.push = [] ∧ ∃ n : Nat, out.v = .lit (.int .i64 (n : Int)) ∧ ((∃ e, P.underlying t = some (.slice e)) ∧ ∃ a cap, cv = .slice a n cap) := by
 unfold lenO at h
 split at h
 ·rename_i e b g hu
  obtain ⟨bx, hbx, rfl⟩ := yd.1 h
  obtain ⟨hm, hge, hown⟩ := boxO?_some hbx
  subst hge
  refine ⟨rfl, rfl, bx.row.len, rfl, ⟨_, hu⟩, ?_⟩
  obtain ⟨o, hl', hmm⟩ := (hM.box b bx hm).loc
  cases hx with
  | msw _ _ cap L B hl hb hn hf =>
   rw [hl'] at hl
   obtain rfl := ya hl
   exact ⟨_, _, rfl⟩
  | mswNil _ _ L hl hb hn =>
   rw [hl'] at hl
   obtain rfl := ya hl
   simp only at hn
   rw [hn]; exact ⟨_, _, rfl⟩
 ·cases h
theorem zkw {G : Gh} {w : World} {mem : Mem} {t : TypeId} {x : AV} {k : IntKind} {i : Int} {out : Out} {cv : Value} (hM : MemR G w mem) (h : indexO P t mem x i = some out) (hx : VR G w x cv) :
  out.wr = [] ∧ out.push = [] ∧ ∃ cv', (Instr.indexAt t cv (.int k i)).run P w = .ok cv' w ∧ VR G w out.v cv' := by
 unfold indexO at h
 split at h
 ·rename_i et hu
  rw [bind_some] at h; obtain ⟨s, hs, h⟩ := h
  split at h
  ·rename_i b g o n
   rw [bind_some] at h; obtain ⟨bx, hbx, h⟩ := h
   obtain ⟨hm, hge, hown⟩ := boxO?_some hbx
   subst hge
   rw [za] at h; obtain ⟨hg, h⟩ := h
   simp only [yb, decide_eq_true_eq] at hg
   obtain ⟨⟨g1, g2⟩, g3⟩ := hg
   have g1 := beqN.1 g1
   obtain rfl := ya h
   obtain ⟨oo, hl', hmm⟩ := (hM.box b bx hm).loc
   refine ⟨rfl, rfl, ?_⟩
   cases hx with
   | ms _ _ _ _ cap L B hl hb hn hon hf =>
    have hLL := hl
    rw [hl'] at hLL
    obtain rfl := ya hLL
    refine ⟨_, zM hu hs g2 g3 w, ?_⟩
    have := VR.ptr (w := w) b bx.gen (o + i.toNat) 0 _ B hl hb
    simp only at this
    rw [g1, ← yk1]
    simpa using this
   | msNil => omega
   | msZ => omega
  ·rename_i b g
   rw [bind_some] at h; obtain ⟨bx, hbx, h⟩ := h
   obtain ⟨hm, hge, hown⟩ := boxO?_some hbx
   subst hge
   rw [za] at h; obtain ⟨hg, h⟩ := h
   simp only [yb, decide_eq_true_eq] at hg
   obtain ⟨⟨g1, g2⟩, g3⟩ := hg
   have g1 := beqN.1 g1
   obtain rfl := ya h
   obtain ⟨oo, hl', hmm⟩ := (hM.box b bx hm).loc
   refine ⟨rfl, rfl, ?_⟩
   cases hx with
   | msw _ _ cap L B hl hb hn hf =>
    have hLL := hl
    rw [hl'] at hLL
    obtain rfl := ya hLL
    refine ⟨_, zM hu hs g2 g3 w, ?_⟩
    have := VR.ptr (w := w) b bx.gen i.toNat 0 _ B hl hb
    simp only at this
    rw [g1, yy]
    simpa using this
   | mswNil _ _ L hl hb hn =>
    rw [hl'] at hl
    obtain rfl := ya hl
    simp only at hn
    omega
  ·cases h
 ·cases h
theorem zkc {G : Gh} {w : World} {mem : Mem} {t : TypeId} {x : AV} {lo hi mx : Option Int} {vl vh vm : Option Value} {out : Out} {cv : Value} (hM : MemR G w mem) (h : sliceO P t mem x lo hi mx = some out) (hx : VR G w x cv)
  (hl : OptR lo vl) (hh : OptR hi vh) (hm : OptR mx vm) : Still G w P (Instr.sliceAt t cv vl vh vm) out := by
 unfold sliceO at h
 split at h
 ·rename_i et hu
  rw [bind_some] at h; obtain ⟨s, hs, h⟩ := h
  split at h
  ·rename_i b g o n
   rw [bind_some] at h; obtain ⟨bx, hbx, h⟩ := h
   obtain ⟨hmm, hge, hown⟩ := boxO?_some hbx
   subst hge
   rw [za] at h; obtain ⟨hg, h⟩ := h
   have hg := beqN.1 hg
   subst hg
   obtain ⟨⟨l, h'⟩, hb, rfl⟩ := yd.1 h
   obtain ⟨oo, hl', hmm'⟩ := (hM.box b bx hmm).loc
   cases hx with
   | ms _ _ _ _ cap L B hL hB hn hon hf =>
    have hLL := hL
    rw [hl'] at hLL
    obtain rfl := ya hLL
    simp only at hB hon hf ⊢; subst hB
    obtain ⟨m, hr, h1, h2, h3, h4⟩ := zq (P := P) (isSlice := true) (cap := cap) hb hn hl hh hm w
    have := zfK (o := o) (n := n) hL hf hon h1 h2 h3 h4
    exact ⟨rfl, rfl, _, ze hu hs hr, by simpa [zB] using this⟩
   | msNil _ _ L hL hB =>
    rw [hl'] at hL
    obtain rfl := ya hL
    simp only at hB; subst hB
    obtain ⟨m, hr, h1, h2, h3, h4⟩ := zq (P := P) (isSlice := true) (cap := 0) hb (by simp) hl hh hm w
    refine ⟨rfl, rfl, _, ze hu hs (a := none) hr, ?_⟩
    obtain rfl : l = 0 := by omega
    obtain rfl : h' = 0 := by omega
    obtain rfl : m = 0 := by omega
    exact .msNil b _ _ hl' rfl
   | msZ _ _ _ B oo2 L hL hB ho hon =>
    obtain ⟨m, hr, h1, h2, h3, h4⟩ := zq (P := P) (isSlice := true) (cap := 0) hb (by simp) hl hh hm w
    refine ⟨rfl, rfl, _, ze hu hs (a := some ⟨B, oo2, none⟩) hr, ?_⟩
    obtain rfl : l = 0 := by omega
    obtain rfl : h' = 0 := by omega
    obtain rfl : m = 0 := by omega
    simpa [zB] using VR.msZ (w := w) b bx.gen o B oo2 L hL hB ho hon
  ·rename_i b g
   rw [bind_some] at h; obtain ⟨bx, hbx, h⟩ := h
   obtain ⟨hmm, hge, hown⟩ := boxO?_some hbx
   subst hge
   rw [za] at h; obtain ⟨hg, h⟩ := h
   have hg := beqN.1 hg
   subst hg
   obtain ⟨⟨l, h'⟩, hb, rfl⟩ := yd.1 h
   obtain ⟨oo, hl', hmm'⟩ := (hM.box b bx hmm).loc
   cases hx with
   | msw _ _ cap L B hL hB hn hf =>
    have hLL := hL
    rw [hl'] at hLL
    obtain rfl := ya hLL
    simp only at hB hn hf ⊢; subst hB
    obtain ⟨m, hr, h1, h2, h3, h4⟩ := zq (P := P) (isSlice := true) (cap := cap) hb hn hl hh hm w
    have := zfK (o := 0) (n := bx.row.len) hL (by simpa using hf) (by simp) h1 h2 h3 h4
    exact ⟨rfl, rfl, _, ze hu hs hr, by simpa [zB] using this⟩
   | mswNil _ _ L hL hB hn =>
    rw [hl'] at hL
    obtain rfl := ya hL
    simp only at hB hn; subst hB
    rw [hn] at hb
    obtain ⟨m, hr, h1, h2, h3, h4⟩ := zq (P := P) (isSlice := true) (cap := 0) hb (by simp) hl hh hm w
    refine ⟨rfl, rfl, _, ze hu hs (a := none) hr, ?_⟩
    obtain rfl : l = 0 := by omega
    obtain rfl : h' = 0 := by omega
    obtain rfl : m = 0 := by omega
    exact .msNil b _ _ hl' rfl
  ·cases h
 ·cases h
end
end Go.Ab
end
section
namespace Go.Ab
variable [GTab]
theorem zof {v : Value} (h : v.oneCell' = true) : v.cells.toList = [v] := by
 cases v <;> first | rfl | cases h
theorem zdH {p z y : PV} {c : Nat} (hc : p.cells[c]? = some y) (hz : z.cells = [z]) (j : Nat) : (putPV p c z).cells[j]? = (if j = c then some z else p.cells[j]?) := by
 have hl := (ye.1 hc).1
 cases p with
 | agg cs =>
  show (cs.set c z)[j]? = _
  by_cases e : j = c
  ·subst e; rw [if_pos rfl, yw (show j < cs.length from hl)]
  ·rw [if_neg e, yq (fun x => e x.symm)]; rfl
 | _ =>
  have h0 : c = 0 := by simp [PV.cells] at hl; exact hl
  subst h0
  show z.cells[j]? = _
  rw [hz]
  by_cases e : j = 0
  ·subst e; rfl
  ·rw [if_neg e]
   obtain ⟨k, rfl⟩ : ∃ k, j = k + 1 := ⟨j - 1, by omega⟩
   simp [PV.cells]
theorem zjQ {p z y : PV} {c : Nat} (hc : p.cells[c]? = some y) (hz : z.cells = [z]) : (putPV p c z).cells.length = p.cells.length := by
 cases p with
 | agg cs => show (cs.set c z).length = cs.length; simp
 | _ => show z.cells.length = 1; rw [hz]; rfl
theorem zjW {α : Type} {xs : List α} {i j : Nat} {v x : α} (h : (xs.set i v)[j]? = some x) : (j = i ∧ x = v) ∨ (j ≠ i ∧ xs[j]? = some x) := by
 by_cases e : j = i
 ·subst e
  have hl := (ye.1 h).1
  rw [yw (by simpa using hl)] at h
  exact .inl ⟨rfl, by simpa using h.symm⟩
 ·rw [yq (fun x => e x.symm)] at h; exact .inr ⟨e, h⟩
def NewCell (G : Gh) (w : World) (o : Option AV) (y : PV) (u : Value) : Prop :=
 (∃ a, o = some a ∧ VR G w a u) ∨ (o = none ∧ ((∃ z, y = .lit z ∧ u = z) ∨ ∃ row, leafRow y = some row ∧ u = .slice none 0 0 ∧ row.len = 0))
theorem NewCell.hr {G G' : Gh} {w w' : World} {o : Option AV} {y : PV} {u : Value} (hg : Gle G G') (he : Ev G w w') (h : NewCell G w o y u) : HR G' w' o y u := by
 rcases h with ⟨a, rfl, h⟩ | ⟨rfl, ⟨z, rfl, rfl⟩ | ⟨row, h1, h2, h3⟩⟩
 ·exact h.mono hg he
 ·exact .inl ⟨_, rfl, rfl⟩
 ·exact .inr ⟨row, h1, .inl ⟨h2, h3⟩⟩
theorem NewCell.out {G : Gh} {w : World} {y : PV} {u : Value} {row : Row} {a : Addr} {n cap : Nat} (h : NewCell G w none y u) (hl : leafRow y = some row) : u ≠ .slice (some a) n cap := by
 rcases h with ⟨a, h, _⟩ | ⟨_, ⟨z, rfl, rfl⟩ | ⟨row, h1, h2, h3⟩⟩
 ·cases h
 ·cases hl
 ·rw [h2]; intro h; cases h
theorem zfR {G : Gh} {w : World} {mem : Mem} {b : Nat} {bx : Box} {B e i c : Nat} {xs xs' : List PV} {hs hs' : List (Nat × Nat × AV)} {p y : PV} {cx : Value} (hM : MemR G w mem) (hx : mem[b]? = some (some bx)) (hrow : bx.row = .own e xs hs) (hB : Blk G b bx B)
  (hfrz : bx.frz = false) (hp : xs[i]? = some p) (hy : p.cells[c]? = some y) (h1 : cx.oneCell' = true) (hlen : xs'.length = xs.length) (hbnd : ∀ h ∈ hs', h.1 < xs.length) (hel : ∀ x ∈ xs', x.cells.length = e)
  (hA : ∀ i' x' c' y', xs'[i']? = some x' → x'.cells[c']? = some y' → ¬ (i' = i ∧ c' = c) → ∃ x0, xs[i']? = some x0 ∧ x0.cells[c']? = some y' ∧ holeFor i' c' hs' = holeFor i' c' hs)
  (hC : ∀ x' y', xs'[i]? = some x' → x'.cells[c]? = some y' → NewCell G w (holeFor i c hs') y' cx) :
  Ev G w (w.setCells B (i * e + c) [cx]) ∧ MemR G (w.setCells B (i * e + c) [cx]) (mem.set b (some { bx with row := .own e xs' hs' })) := by
 obtain ⟨hl, hmi, hlt, hfr, hr, hpr⟩ := hM.blk hx hB
 rw [hrow] at hr
 have hr0 := hr
 obtain ⟨r1, r2, r3⟩ := hr
 have hce : c < e := by rw [← r2 p (yj hp)]; exact (ye.1 hy).1
 obtain ⟨v0, hv0, _⟩ := r3 i p c y hp hy
 have hsome : ∀ j, j < [cx].length → (cl w B (i * e + c + j)).isSome = true := fun j hj => by
  have : j = 0 := by simpa using hj
  subst this; rw [ym1, hv0]; rfl
 have hat : cl (w.setCells B (i * e + c) [cx]) B (i * e + c) = some cx := by
  have := zaN (w := w) (B := B) (o := i * e + c) (vs := [cx]) hsome (j := 0) (by simp)
  simpa using this
 have hoff : ∀ i' c', c' < e → ¬ (i' = i ∧ c' = c) → cl (w.setCells B (i * e + c) [cx]) B (i' * e + c') = cl w B (i' * e + c') := by
  intro i' c' hc' hne
  refine zaF ?_
  have hd := zge (i := i) hce
  have hd' := zge (i := i') hc'
  have : i' * e + c' ≠ i * e + c := fun h => hne ⟨by rw [← hd'.1, ← hd.1, h], by rw [← hd'.2, ← hd.2, h]⟩
  simp; omega
 have := zjI (row' := .own e xs' hs') (o := i * e + c) (xs := [cx]) hM hx (by rw [hrow]; rw [hrow] at hl; exact hl) hfrz hsome (by rw [hrow]; rfl) (by rw [hrow]; exact hlen)
  (fun hev => ⟨fun h hh => by rw [hlen]; exact hbnd h hh, hel, fun i' x' c' y' g1 g2 => ?_⟩) (fun i' c' X hi => ?_)
 ·exact this
 ·have hc'e : c' < e := by rw [← hel x' (yj g1)]; exact (ye.1 g2).1
  by_cases hh : i' = i ∧ c' = c
  ·obtain ⟨rfl, rfl⟩ := hh
   exact ⟨cx, hat, h1, (hC x' y' g1 g2).hr (Gle.refl G) hev⟩
  ·obtain ⟨x0, k1, k2, k3⟩ := hA i' x' c' y' g1 g2 hh
   obtain ⟨v, hv, hv1, hp'⟩ := r3 i' x0 c' y' k1 k2
   refine ⟨v, by rw [hoff i' c' hc'e hh]; exact hv, hv1, ?_⟩
   rw [k3]
   cases ho : holeFor i' c' hs with
   | some a => rw [ho] at hp'; exact VR.mono (Gle.refl G) hev hp'
   | none =>
    rw [ho] at hp'
    refine OR.mono (Gle.refl G) hev hp' fun X n cap hrow2 hvv => ?_
    obtain ⟨row2, hrow2⟩ := hrow2
    have hi : InnB w B bx.row i' c' X := by rw [hrow]; exact ⟨⟨x0, y', row2, k1, k2, hrow2⟩, ho, n, cap, by rw [hv, hvv]⟩
    have hne : X ≠ B := fun h => hM.inA b b bx bx B i' c' X hx hB hi hx (by rw [h]; exact hB)
    exact ⟨.of (zF (w := w) hne _ _ w), (hM.inn hx hB hi).2.2.2⟩
 ·obtain ⟨⟨x', y', row, g1, g2, g3⟩, ho, n, cap, hcell⟩ := hi
  have hc'e : c' < e := by rw [← hel x' (yj g1)]; exact (ye.1 g2).1
  by_cases hh : i' = i ∧ c' = c
  ·obtain ⟨rfl, rfl⟩ := hh
   rw [hat] at hcell
   have hn := hC x' y' g1 g2
   rw [ho] at hn
   exact absurd (ya hcell) (hn.out g3)
  ·obtain ⟨x0, k1, k2, k3⟩ := hA i' x' c' y' g1 g2 hh
   rw [hoff i' c' hc'e hh] at hcell
   rw [hrow]
   exact ⟨⟨x0, y', row, k1, k2, g3⟩, by rw [← k3]; exact ho, n, cap, hcell⟩
theorem ziR {c i : Nat} {v : AV} : ∀ {hs : List (Nat × Nat × AV)}, findC c hs = some (i, v) → ∀ i' c', ¬ (i' = i ∧ c' = c) → holeFor i' c' (dropC c hs) = holeFor i' c' hs
 | [], h => by cases h
 | (j, c', u) :: r, h => by
  intro i2 c2 hne
  simp only [findC] at h
  simp only [dropC]
  cases hb : Nat.beq c c' with
  | true =>
   rw [hb] at h; simp only [yg, Option.some.injEq, Prod.mk.injEq] at h
   obtain ⟨rfl, rfl⟩ := h
   obtain rfl := beqN.1 hb
   simp only [yg, holeFor]
   rw [if_neg (fun hh => hne ⟨hh.1.symm, hh.2.symm⟩)]
  | false =>
   rw [hb] at h; simp only [yh] at h
   simp only [yh, holeFor]
   split
   ·rfl
   ·exact ziR h i2 c2 hne
theorem zju {c : Nat} : ∀ {hs : List (Nat × Nat × AV)}, ∀ h ∈ dropC c hs, h ∈ hs
 | [], h, hh => by cases hh
 | (j, c', u) :: r, h, hh => by
  simp only [dropC] at hh
  cases hb : Nat.beq c c' with
  | true => rw [hb] at hh; exact yi _ hh
  | false =>
   rw [hb] at hh; simp only [yh] at hh
   rcases yn1.1 hh with rfl | hh
   ·exact yn ..
   ·exact yi _ (zju h hh)
theorem ziO {i c : Nat} {hs hs' : List (Nat × Nat × AV)} (h : freeC i c hs = some hs') : (∀ i' c', ¬ (i' = i ∧ c' = c) → holeFor i' c' hs' = holeFor i' c' hs) ∧ holeFor i c hs' = none ∧ ∀ x ∈ hs', x ∈ hs := by
 unfold freeC at h
 split at h
 ·rename_i hf
  obtain rfl := ya h
  exact ⟨fun _ _ _ => rfl, zK hf, fun _ h => h⟩
 ·rename_i q hf
  rw [za] at h; obtain ⟨hg, h⟩ := h
  simp only [yb] at hg
  obtain rfl := beqN.1 hg.1
  obtain rfl := ya h
  obtain ⟨i0, v⟩ := q
  exact ⟨ziR hf, zK (Option.isNone_iff_eq_none.1 hg.2), zju⟩
section
variable {P : Program}
theorem zkm {G : Gh} {w : World} {mem : Mem} {t : TypeId} {a x : AV} {out : Out} {ca cx : Value} (hM : MemR G w mem) (h : storeO P t mem a x = some out) (ha : VR G w a ca) (hx : VR G w x cx) :
  out.v = .lit undef ∧ ∃ w', (Instr.storeAt t ca cx).run P w = .ok () w' ∧ Ev G w w' ∧ MemR G w' (out.apply mem) := by
 unfold storeO at h
 split at h
 ·rename_i b g i c
  rw [bind_some] at h; obtain ⟨bx, hbx, h⟩ := h
  obtain ⟨hm, hge, hown⟩ := boxO?_some hbx
  split at h
  ·rename_i e xs hs hrow
   rw [bind_some] at h; obtain ⟨n, hn, h⟩ := h
   rw [za] at h; obtain ⟨hg, h⟩ := h
   simp only [yb, yt] at hg
   obtain ⟨⟨g1, g2⟩, g3⟩ := hg
   obtain rfl := beqN.1 g1
   rw [bind_some] at h; obtain ⟨p, hp, h⟩ := h
   rw [bind_some] at h; obtain ⟨y, hy, h⟩ := h
   obtain ⟨B, rfl, hl, hmine, hB0, hfz, hr, hpr⟩ := hM.at_ptr' hm hge ha
   have hB : Blk G b bx B := ⟨_, by rw [hge]; exact hl, rfl⟩
   rw [show bx.row.e = e by rw [hrow]; rfl]
   rw [hrow] at hr
   have h1 := zlq hx g3
   have hcc := zof h1
   have hel := hr.2.1
   have hlen := hr.1
   have hrun : (Instr.storeAt t (.pointer (some ⟨B, i * e + c, none⟩)) cx).run P w = .ok () (w.setCells B (i * e + c) [cx]) := by
    obtain ⟨v0, hv0, _⟩ := hr.2.2 i p c y hp hy
    have hs1 : ∀ j, j < 1 → (cl w B (i * e + c + j)).isSome = true := fun j hj => by
     have : j = 0 := by omega
     subst this; rw [ym1, hv0]; rfl
    have := zft (P := P) (cv := cx) (B := B) (o := i * e + c) (w := w) hn (by rw [← yt1, hcc]; rfl) hs1 (fun j hj => hfz.cell (hs1 j hj)) (by rw [hcc]; simpa using h1)
    rw [hcc] at this
    simp [Instr.storeAt, Instr.sureAddr, this]
   have hset : ∀ z : PV, z.cells = [z] → (∀ x ∈ xs.set i (putPV p c z), x.cells.length = e) ∧ (xs.set i (putPV p c z)).length = xs.length ∧
     (∀ i' x' c' y', (xs.set i (putPV p c z))[i']? = some x' → x'.cells[c']? = some y' → ¬ (i' = i ∧ c' = c) → ∃ x0, xs[i']? = some x0 ∧ x0.cells[c']? = some y') ∧
     (∀ x' y', (xs.set i (putPV p c z))[i]? = some x' → x'.cells[c]? = some y' → y' = z) := by
    intro z hz
    refine ⟨fun x hx => ?_, by simp, fun i' x' c' y' k1 k2 hne => ?_, fun x' y' k1 k2 => ?_⟩
    ·rcases ye2 hx with h | h
     ·exact hel x h
     ·rw [h, zjQ hy hz]; exact hel p (yj hp)
    ·rcases zjW k1 with ⟨rfl, rfl⟩ | ⟨hn, k1⟩
     ·rw [zdH hy hz, if_neg (fun h => hne ⟨rfl, h⟩)] at k2
      exact ⟨p, hp, k2⟩
     ·exact ⟨x', k1, k2⟩
    ·rcases zjW k1 with ⟨_, rfl⟩ | ⟨hn, _⟩
     ·rw [zdH hy hz, if_pos rfl] at k2; exact (ya k2).symm
     ·exact absurd rfl hn
   split at h
   ·rename_i u v
    rw [za] at h; obtain ⟨hg, h⟩ := h
    simp only [yb] at hg
    obtain rfl := ya h
    obtain rfl := hx.lit_inv
    obtain ⟨s1, s2, s3, s4⟩ := hset (.lit cx) rfl
    have ho := zK (i := i) (Option.isNone_iff_eq_none.1 hg.2)
    obtain ⟨hev, hM'⟩ := zfR hM hm hrow hB g2 hp hy h1 s2 hlen s1 (fun i' x' c' y' k1 k2 hne => by obtain ⟨x0, q1, q2⟩ := s3 i' x' c' y' k1 k2 hne; exact ⟨x0, q1, q2, rfl⟩) (fun x' y' k1 k2 => .inr ⟨ho, .inl ⟨cx, s4 x' y' k1 k2, rfl⟩⟩)
    exact ⟨rfl, _, hrun, hev, by rw [zH]; exact hM'⟩
   ·cases h
   ·rename_i hny
    rw [bind_some] at h; obtain ⟨y', hy', h⟩ := h
    obtain ⟨hs', hfr, rfl⟩ := yd.1 h
    obtain rfl := hx.lit_inv
    obtain ⟨f1, f2, f3⟩ := ziO hfr
    have hz : y'.cells = [y'] ∧ ∃ row', leafRow y' = some row' ∧ row'.len = 0 := by
     cases y with
     | ints k ys => obtain rfl := ya hy'; exact ⟨rfl, _, rfl, rfl⟩
     | sl e' ys =>
      simp only [emptyOf] at hy'; rw [za] at hy'; obtain ⟨he, hy'⟩ := hy'
      obtain rfl := ya hy'
      exact ⟨rfl, .pvs false e' [], by simp only [leafRow, guardB, he, yg], rfl⟩
     | lit u => cases hy'
     | agg cs => cases hy'
    obtain ⟨hz, row', hl', h0'⟩ := hz
    obtain ⟨s1, s2, s3, s4⟩ := hset y' hz
    obtain ⟨hev, hM'⟩ := zfR hM hm hrow hB g2 hp hy h1 s2 (fun h hh => hlen h (f3 h hh)) s1 (fun i' x' c' y' k1 k2 hne => by obtain ⟨x0, q1, q2⟩ := s3 i' x' c' y' k1 k2 hne; exact ⟨x0, q1, q2, f1 i' c' hne⟩)
     (fun x' y2 k1 k2 => .inr ⟨f2, .inr ⟨row', by rw [s4 x' y2 k1 k2]; exact hl', rfl, h0'⟩⟩)
    exact ⟨rfl, _, hrun, hev, by rw [zH]; exact hM'⟩
   ·cases h
   ·obtain ⟨hs', hfr, rfl⟩ := yd.1 h
    obtain ⟨f1, f2, f3⟩ := ziO hfr
    have hhead : ∀ i' c', ¬ (i' = i ∧ c' = c) → holeFor i' c' ((i, c, x) :: hs') = holeFor i' c' hs := by
     intro i' c' hne
     simp only [holeFor]
     rw [if_neg (fun hh => hne ⟨hh.1.symm, hh.2.symm⟩)]; exact f1 i' c' hne
    obtain ⟨hev, hM'⟩ := zfR (hs' := (i, c, x) :: hs') hM hm hrow hB g2 hp hy h1 rfl (fun h hh => by
      rcases yn1.1 hh with rfl | hh
      ·exact (ye.1 hp).1
      ·exact hlen h (f3 h hh)) hel (fun i' x' c' y' k1 k2 hne => ⟨x', k1, k2, hhead i' c' hne⟩)
     (fun x' y2 k1 k2 => .inl ⟨x, by simp [holeFor], hx⟩)
    exact ⟨rfl, _, hrun, hev, by rw [zH]; exact hM'⟩
  ·cases h
 ·cases h
theorem zat {i c : Nat} : ∀ {a b : List (Nat × Nat × AV)}, holeFor i c (a ++ b) = (match holeFor i c a with | some v => some v | none => holeFor i c b)
 | [], b => rfl
 | (i', c', v) :: a, b => by
  simp only [yv2, holeFor]
  split
  ·rfl
  ·exact zat
theorem zaj {i c : Nat} : ∀ {hs : List (Nat × Nat × AV)}, (∀ h ∈ hs, ¬ (h.1 = i ∧ h.2.1 = c)) → holeFor i c hs = none
 | [], _ => rfl
 | (i', c', v) :: r, h => by
  simp only [holeFor]
  rw [if_neg (h _ (yn ..))]
  exact zaj fun x hx => h x (yi _ hx)
theorem zlQ {G : Gh} {w : World} {l : LK} {v : AV} {j c : Nat} {q : PV × List (Nat × Nat × AV)} {u : Value} (h : cellO l v j c = some q) (hv : VR G w v u) :
  NewCell G w (holeFor j c q.2) q.1 u ∧ q.1.cells = [q.1] ∧ ∀ x ∈ q.2, x.1 = j ∧ x.2.1 = c := by
 unfold cellO at h
 have hole : ∀ {p : PV}, q = (p, [(j, c, v)]) → p.cells = [p] → NewCell G w (holeFor j c q.2) q.1 u ∧ q.1.cells = [q.1] ∧ ∀ x ∈ q.2, x.1 = j ∧ x.2.1 = c := by
  rintro p rfl hp
  exact ⟨.inl ⟨v, by simp [holeFor], hv⟩, hp, fun x hx => by simp at hx; subst hx; exact ⟨rfl, rfl⟩⟩
 split at h
 ·rw [za] at h; obtain ⟨_, h⟩ := h; obtain rfl := ya h
  obtain rfl := hv.lit_inv
  exact ⟨.inr ⟨rfl, .inl ⟨_, rfl, rfl⟩⟩, rfl, fun x hx => by cases hx⟩
 ·obtain rfl := ya h
  obtain rfl := hv.lit_inv
  exact ⟨.inr ⟨rfl, .inl ⟨_, rfl, rfl⟩⟩, rfl, fun x hx => by cases hx⟩
 ·obtain rfl := ya h
  obtain rfl := hv.lit_inv
  exact ⟨.inr ⟨rfl, .inl ⟨_, rfl, rfl⟩⟩, rfl, fun x hx => by cases hx⟩
 ·obtain rfl := ya h
  obtain rfl := hv.lit_inv
  exact ⟨.inr ⟨rfl, .inr ⟨_, rfl, rfl, rfl⟩⟩, rfl, fun x hx => by cases hx⟩
 ·rename_i t e
  rw [za] at h; obtain ⟨he, h⟩ := h; obtain rfl := ya h
  obtain rfl := hv.lit_inv
  exact ⟨.inr ⟨rfl, .inr ⟨.pvs false e [], by simp only [leafRow, guardB, he, yg], rfl, rfl⟩⟩, rfl, fun x hx => by cases hx⟩
 ·exact hole (ya h).symm rfl
 ·exact hole (ya h).symm rfl
 ·rw [za] at h; obtain ⟨_, h⟩ := h; exact hole (ya h).symm rfl
 ·rw [za] at h; obtain ⟨_, h⟩ := h; exact hole (ya h).symm rfl
 ·cases h
theorem zgw {G : Gh} {w : World} {j : Nat} : ∀ {ls : List LK} {vs : List AV} {c : Nat} {q : List PV × List (Nat × Nat × AV)} {us : List Value}, elO ls vs j c = some q → LRs G w vs us →
  q.1.length = vs.length ∧ (∀ x ∈ q.2, x.1 = j ∧ c ≤ x.2.1) ∧ ∀ (k : Nat) (y : PV), q.1[k]? = some y → ∃ u, us[k]? = some u ∧ NewCell G w (holeFor j (c + k) q.2) y u ∧ y.cells = [y]
 | [], [], c, q, us, h, hv => by
  obtain rfl := ya h
  exact ⟨rfl, fun x hx => (nomatch hx), fun k y hy => by simp at hy⟩
 | [], v :: vs, c, q, us, h, _ => by simp [elO] at h
 | l :: ls, [], c, q, us, h, _ => by simp [elO] at h
 | l :: ls, v :: vs, c, q, [], h, hv => by simp [LRs] at hv
 | l :: ls, v :: vs, c, q, u :: us, h, hv => by
  simp only [elO] at h
  rw [bind_some] at h; obtain ⟨a, ha, h⟩ := h
  obtain ⟨r, hr, rfl⟩ := yd.1 h
  obtain ⟨a1, a2, a3⟩ := zlQ ha (hv.2 0 v rfl)
  obtain ⟨r1, r2, r3⟩ := zgw (us := us) hr ⟨by simpa using hv.1, fun j y hy => by simpa using hv.2 (j + 1) y (by simpa using hy)⟩
  refine ⟨by simp [r1], fun x hx => ?_, fun k y hy => ?_⟩
  ·rcases yl1.1 hx with hx | hx
   ·obtain ⟨h1, h2⟩ := a3 x hx; exact ⟨h1, by omega⟩
   ·obtain ⟨h1, h2⟩ := r2 x hx; exact ⟨h1, by omega⟩
  ·cases k with
   | zero =>
    simp at hy; subst hy
    refine ⟨u, rfl, ?_, a2⟩
    simp only [ym1]
    rw [zat]
    have : holeFor j c r.2 = none := zaj fun x hx hh => by have := (r2 x hx).2; omega
    rw [this]
    cases ho : holeFor j c a.2 with
    | some v' => rw [ho] at a1; exact a1
    | none => rw [ho] at a1; exact a1
   | succ k =>
    simp only [ye1] at hy
    obtain ⟨u', hu', hn, hc⟩ := r3 k y hy
    refine ⟨u', by simpa using hu', ?_, hc⟩
    have : holeFor j (c + (k + 1)) a.2 = none := zaj fun x hx hh => by have := (a3 x hx).2; omega
    simp only
    rw [zat, this, show c + (k + 1) = c + 1 + k by omega]; exact hn
theorem zhi {t : TypeId} {cs : List PV} {p : PV} (h : oneEl P t cs = some p) (hc : ∀ (k : Nat) (y : PV), cs[k]? = some y → y.cells = [y]) : p.cells = cs := by
 unfold oneEl at h
 split at h
 ·obtain rfl := ya h; rfl
 ·split at h
  ·rename_i c _
   obtain rfl := ya h
   exact hc 0 _ rfl
  ·cases h
 ·cases h
structure NewEls (G : Gh) (w : World) (e j n : Nat) (us : List Value) (q : List PV × List (Nat × Nat × AV)) : Prop where
 len : q.1.length = n
 ix : ∀ x ∈ q.2, j ≤ x.1 ∧ x.1 < j + n
 size : ∀ x ∈ q.1, x.cells.length = e
 cell : ∀ (k c : Nat) (p y : PV), q.1[k]? = some p → p.cells[c]? = some y → ∃ u, us[k * e + c]? = some u ∧ NewCell G w (holeFor (j + k) c q.2) y u
theorem zbH {G : Gh} {w : World} {t : TypeId} {ls : List LK} {e : Nat} (hls : ls.length = e) : ∀ {css : List (List AV)} {j : Nat} {q : List PV × List (Nat × Nat × AV)} {us : List Value}, elsO P t ls css j = some q →
  (∀ (k : Nat) (cs : List AV), css[k]? = some cs → LRs G w cs ((us.drop (k * e)).take e)) → NewEls G w e j css.length us q
 | [], j, q, us, h, hv => by
  obtain rfl := ya h
  exact ⟨rfl, fun x hx => (nomatch hx), fun x hx => (nomatch hx), fun k c p y hp => by simp at hp⟩
 | cs :: css, j, q, us, h, hv => by
  simp only [elsO] at h
  rw [bind_some] at h; obtain ⟨a, ha, h⟩ := h
  rw [bind_some] at h; obtain ⟨p, hp, h⟩ := h
  obtain ⟨r, hr, rfl⟩ := yd.1 h
  have h0 := hv 0 cs rfl
  simp only [yd3, yf3] at h0
  obtain ⟨a1, a2, a3⟩ := zgw ha h0
  have hpc := zhi hp (fun k y hy => by obtain ⟨_, _, _, h⟩ := a3 k y hy; exact h)
  have hcl : cs.length = e := by
   have : ∀ {ls : List LK} {vs : List AV} {c : Nat} {q : List PV × List (Nat × Nat × AV)}, elO ls vs j c = some q → ls.length = vs.length := by
    intro ls
    induction ls with
    | nil => intro vs c q h; cases vs with | nil => rfl | cons v vs => simp [elO] at h
    | cons l ls ih =>
     intro vs c q h
     cases vs with
     | nil => simp [elO] at h
     | cons v vs =>
      simp only [elO] at h
      rw [bind_some] at h; obtain ⟨_, _, h⟩ := h
      obtain ⟨r, hr, _⟩ := yd.1 h
      simp [ih hr]
   rw [← this ha, hls]
  obtain ⟨r1, r2, r3, r4⟩ := zbH hls (us := us.drop e) hr (fun k cs hk => by
   have := hv (k + 1) cs (by simpa using hk)
   rw [List.drop_drop, show e + k * e = (k + 1) * e by rw [yk1]; omega]; exact this)
  refine ⟨by simp [r1], fun x hx => ?_, fun x hx => ?_, fun k c p' y hp' hy => ?_⟩
  ·rcases yl1.1 hx with hx | hx
   ·have := (a2 x hx).1; simp; omega
   ·have := r2 x hx; simp; omega
  ·rcases yn1.1 hx with rfl | hx
   ·rw [hpc, a1, hcl]
   ·exact r3 x hx
  ·cases k with
   | zero =>
    simp at hp'; subst hp'
    rw [hpc] at hy
    obtain ⟨u, hu, hn, _⟩ := a3 c y hy
    have hce : c < e := by have := (ye.1 hy).1; omega
    rw [yj1, if_pos hce] at hu
    refine ⟨u, by simpa using hu, ?_⟩
    simp only [ym1]
    rw [zat]
    have : holeFor j c r.2 = none := zaj fun x hx hh => by have := (r2 x hx).1; omega
    rw [this]
    rw [yy] at hn
    cases ho : holeFor j c a.2 with
    | some v' => rw [ho] at hn; exact hn
    | none => rw [ho] at hn; exact hn
   | succ k =>
    simp only [ye1] at hp'
    obtain ⟨u, hu, hn⟩ := r4 k c p' y hp' hy
    rw [yb1] at hu
    refine ⟨u, by rw [← hu]; congr 1; rw [yk1]; omega, ?_⟩
    have : holeFor (j + (k + 1)) c a.2 = none := zaj fun x hx hh => by have := (a2 x hx).1; omega
    simp only
    rw [zat, this, show j + (k + 1) = j + 1 + k by omega]; exact hn
def OldEls (G : Gh) (w : World) (mem : Mem) (b e : Nat) (Bold : Option Nat) (xs0 : List PV) (hs : List (Nat × Nat × AV)) (vs0 : List Value) : Prop :=
 ∀ (i : Nat) (x : PV) (c : Nat) (y : PV), xs0[i]? = some x → x.cells[c]? = some y → ∃ v, vs0[i * e + c]? = some v ∧ v.oneCell' = true ∧
  ((∃ a, holeFor i c hs = some a ∧ VR G w a v) ∨ (holeFor i c hs = none ∧ OR G w y v ∧ ∀ X n cap, (∃ row, leafRow y = some row) → v = .slice (some ⟨X, 0, none⟩) n cap →
   (∃ (x : Box) (B : Nat), mem[b]? = some (some x) ∧ Blk G b x B ∧ InnB w B x.row i c X) ∧ Bold ≠ some X))
theorem zgy {n : Nat} : ∀ {hs : List (Nat × Nat × AV)}, holesLt n hs = true → ∀ h ∈ hs, h.1 < n
 | [], _, h, hh => by cases hh
 | (i, c, v) :: r, h, x, hx => by
  simp only [holesLt, yb] at h
  rcases yn1.1 hx with rfl | hx
  ·have := h.1; simp [Nat.blt] at this; exact this
  ·exact zgy h.2 x hx
theorem zbJ {G : Gh} {w : World} {mem : Mem} {b g' e n : Nat} {Bold : Option Nat} {xs0 : List PV} {hs : List (Nat × Nat × AV)} {vs0 us : List Value} {q : List PV × List (Nat × Nat × AV)} (hM : MemR G w mem) (hno : G.loc b g' = none)
  (hlt : holesLt xs0.length hs = true) (hsz : ∀ x ∈ xs0, x.cells.length = e) (hv0 : vs0.length = xs0.length * e) (hold : OldEls G w mem b e Bold xs0 hs vs0) (hnew : NewEls G w e xs0.length n us q) (h1 : ∀ u ∈ us, u.oneCell' = true) :
  GrowOk G w mem b g' (.own e (xs0 ++ q.1) (hs ++ q.2)) Bold (vs0 ++ us) := by
 have hlt := zgy hlt
 have hoL : ∀ i c, i < xs0.length → holeFor i c (hs ++ q.2) = holeFor i c hs := by
  intro i c hi
  rw [zat]
  have : holeFor i c q.2 = none := zaj fun x hx hh => by have := (hnew.ix x hx).1; omega
  rw [this]; cases holeFor i c hs <;> rfl
 have hoR : ∀ k c, holeFor (xs0.length + k) c (hs ++ q.2) = holeFor (xs0.length + k) c q.2 := by
  intro k c
  rw [zat]
  have : holeFor (xs0.length + k) c hs = none := zaj fun x hx hh => by have := hlt x hx; omega
  rw [this]
 have hsplit : ∀ {i : Nat} {x : PV}, (xs0 ++ q.1)[i]? = some x → (i < xs0.length ∧ xs0[i]? = some x) ∨ (∃ k, i = xs0.length + k ∧ q.1[k]? = some x) := by
  intro i x h
  by_cases hi : i < xs0.length
  ·rw [yp hi] at h; exact .inl ⟨hi, h⟩
  ·rw [yu (by omega)] at h; exact .inr ⟨i - xs0.length, by omega, h⟩
 have hsz2 : ∀ x ∈ xs0 ++ q.1, x.cells.length = e := fun x hx => (yl1.1 hx).elim (hsz x) (hnew.size x)
 have hL : ∀ {i c : Nat} {x y : PV} {v : Value}, xs0[i]? = some x → x.cells[c]? = some y → vs0[i * e + c]? = some v → (vs0 ++ us)[i * e + c]? = some v := fun _ _ hv => by rw [yp (ye.1 hv).1]; exact hv
 have hR : ∀ {k c : Nat} {u : Value}, us[k * e + c]? = some u → (vs0 ++ us)[(xs0.length + k) * e + c]? = some u := by
  intro k c u hu
  rw [yu (by rw [hv0, yk1]; omega), hv0, show (xs0.length + k) * e + c - xs0.length * e = k * e + c by rw [yk1]; omega]; exact hu
 refine ⟨fun w1 B' hev hsame hcl => ?_, fun w1 B' i c X hcl hi => ?_⟩
 ·generalize hL' : (⟨some B', (Row.own e (xs0 ++ q.1) (hs ++ q.2)).e, (Row.own e (xs0 ++ q.1) (hs ++ q.2)).len⟩ : Loc) = L
  have hg : Gle G (G.put b g' L) := Gle.put (.inl hno)
  refine ⟨fun h hh => ?_, hsz2, fun i x c y hx hy => ?_⟩
  ·rw [yi1, hnew.len]
   rcases yl1.1 hh with hh | hh
   ·have := hlt h hh; omega
   ·exact (hnew.ix h hh).2
  ·rcases hsplit hx with ⟨hi, hx⟩ | ⟨k, rfl, hx'⟩
   ·obtain ⟨v, hv, hv1, hor⟩ := hold i x c y hx hy
    refine ⟨v, hcl _ _ (hL hx hy hv), hv1, ?_⟩
    rw [hoL i c hi]
    rcases hor with ⟨a, ho, ha⟩ | ⟨ho, hor, hin⟩
    ·rw [ho]; exact ha.mono hg hev
    ·rw [ho]
     refine OR.mono hg hev hor fun X m cap hrow hvv => ?_
     obtain ⟨⟨z, C, hz, hC, hiz⟩, hne⟩ := hin X m cap hrow hvv
     obtain ⟨_, k2, _, k4⟩ := hM.inn hz hC hiz
     exact ⟨.of (hsame X k2 hne), k4⟩
   ·obtain ⟨u, hu, hn⟩ := hnew.cell k c x y hx' hy
    refine ⟨u, hcl _ _ (hR hu), h1 u (yj hu), ?_⟩
    rw [hoR]; exact hn.hr hg hev
 ·obtain ⟨⟨x, y, row, hx, hy, hrow⟩, ho, m, cap, hcell⟩ := hi
  rcases hsplit hx with ⟨hi, hx⟩ | ⟨k, rfl, hx'⟩
  ·obtain ⟨v, hv, hv1, hor⟩ := hold i x c y hx hy
   rw [hcl _ _ (hL hx hy hv)] at hcell
   rw [hoL i c hi] at ho
   rcases hor with ⟨a, ho', ha⟩ | ⟨_, hor, hin⟩
   ·rw [ho] at ho'; cases ho'
   ·exact (hin X m cap ⟨row, hrow⟩ (ya hcell)).1
  ·obtain ⟨u, hu, hn⟩ := hnew.cell k c x y hx' hy
   rw [hcl _ _ (hR hu)] at hcell
   rw [hoR] at ho
   rw [ho] at hn
   exact absurd (ya hcell) (hn.out hrow)
theorem znW {G : Gh} {w : World} {mem : Mem} {b : Nat} {bx : Box} {B e n : Nat} {xs : List PV} {hs : List (Nat × Nat × AV)} (hM : MemR G w mem) (hx : mem[b]? = some (some bx)) (hrow : bx.row = .own e xs hs) (hB : Blk G b bx B) (he : 1 ≤ e) (hn : n ≤ xs.length) :
  ∃ vs0 : List Value, vs0.length = n * e ∧ OldEls G w mem b e (some B) (xs.take n) hs vs0 ∧ (∀ j u, vs0[j]? = some u → cl w B j = some u) ∧ ∀ x ∈ xs.take n, x.cells.length = e := by
 obtain ⟨hl, hmi, hlt, hfr, hr, hpr⟩ := hM.blk hx hB
 rw [hrow] at hr
 obtain ⟨r1, r2, r3⟩ := hr
 have hce : ∀ {i c : Nat} {x y : PV}, xs[i]? = some x → x.cells[c]? = some y → c < e := fun h1 h2 => by rw [← r2 _ (yj h1)]; exact (ye.1 h2).1
 refine ⟨(List.range (n * e)).map (fun j => (cl w B j).getD undef), by simp, fun i x c y h1 h2 => ?_, fun j u hu => ?_, fun x hx => r2 x (yy2 hx)⟩
 ·have hi : i < n := by have := (ye.1 h1).1; simp at this; omega
  rw [yj1, if_pos hi] at h1
  obtain ⟨v, hv, hv1, hp⟩ := r3 i x c y h1 h2
  refine ⟨v, by simp [zfT (hce h1 h2) hi, hv], hv1, ?_⟩
  cases ho : holeFor i c hs with
  | some a => rw [ho] at hp; exact .inl ⟨a, rfl, hp⟩
  | none =>
   rw [ho] at hp
   refine .inr ⟨rfl, hp, fun X m cap hrow2 hvv => ?_⟩
   obtain ⟨row2, hrow2⟩ := hrow2
   have hi : InnB w B bx.row i c X := by rw [hrow]; exact ⟨⟨x, y, row2, h1, h2, hrow2⟩, ho, m, cap, by rw [hv, hvv]⟩
   exact ⟨⟨bx, B, hx, hB, hi⟩, fun h => by
    obtain rfl := ya h
    exact hM.inA b b bx bx _ i c _ hx hB hi hx hB⟩
 ·have hj : j < n * e := by have := (ye.1 hu).1; simpa using this
  simp [hj] at hu
  have hi : j / e < n := by rw [Nat.div_lt_iff_lt_mul (by omega)]; exact hj
  have hc : j % e < (xs[j / e]'(by omega)).cells.length := by rw [r2 _ (yr2 _)]; exact Nat.mod_lt _ (by omega)
  obtain ⟨v, hv, _⟩ := r3 (j / e) _ (j % e) _ (yf (by omega)) (yf hc)
  rw [show j / e * e + j % e = j by rw [yj2]; exact Nat.div_add_mod j e] at hv
  rw [hv] at hu ⊢
  simp at hu; rw [hu]
end
end Go.Ab
end
section
namespace Go.Ab
variable [GTab]
theorem LRs.chunks {G : Gh} {w : World} {cs : List AV} {us : List Value} (h : LRs G w cs us) {e n k : Nat} {c : List AV} (hk : (chunks e n cs)[k]? = some c) : LRs G w c ((us.drop (k * e)).take e) := by
 have hkn : k < n := by have := (ye.1 hk).1; rwa [zam] at this
 rw [zfb hkn] at hk
 obtain rfl := ya hk
 refine ⟨by simp [h.1], fun j y hy => ?_⟩
 have hje : j < e := by have := (ye.1 hy).1; simp at this; omega
 rw [yj1, if_pos hje, yb1] at hy
 have hj := (ye.1 hy).1
 have := h.2 _ y hy
 rw [yl, yj1, if_pos hje, yb1, ← yl]; exact this
theorem ViewR.avs {G : Gh} {w : World} {e : Nat} {cs : List AV} {us : List Value} (h : ViewR G w (.avs e cs) us) : LRs G w cs us ∧ us.length = countBy e cs.length * e ∧ ∀ u ∈ us, u.oneCell' = true := by
 obtain ⟨h1, h2, h3, h4⟩ := h
 refine ⟨⟨by rw [h1]; show cs.length = countBy e cs.length * e; rw [yj2]; exact h3, fun j y hy => ?_⟩, h1, h2⟩
 obtain ⟨u, hu, hv⟩ := h4 j y hy
 rw [yl, hu]; exact hv
theorem zmt {G : Gh} {w : World} {mem : Mem} {b : Nat} {row : Row} {vs : List Value} {t : TypeId} (hM : MemR G w mem) (hb : mem[b]? = some none) (he : 1 ≤ row.e) (hok : GrowOk G w mem b 0 row none vs) :
  ∃ G', Gle G G' ∧ Ev G w (w.alloc (.cells vs.toArray t)) ∧ MemR G' (w.alloc (.cells vs.toArray t)) (mem.set b (some { gen := 0, frz := false, row })) ∧ G'.loc b 0 = some ⟨some w.heap.size, row.e, row.len⟩ ∧
   ∀ j u, vs[j]? = some u → cl (w.alloc (.cells vs.toArray t)) w.heap.size j = some u := by
 have hno : G.loc b 0 = none := hM.unset b 0 (fun x hx => by rw [hb] at hx; cases hx)
 have hg : Gle G (G.put b 0 ⟨some w.heap.size, row.e, row.len⟩) := Gle.put (.inl hno)
 have hev := Ev.alloc G w (.cells vs.toArray t) hM.away
 have hcl : ∀ j u, vs[j]? = some u → cl (w.alloc (.cells vs.toArray t)) w.heap.size j = some u := fun j u hu => by rw [zaS]; simpa using hu
 refine ⟨_, hg, hev, hM.make hb he (hok.row _ _ hev (fun X hX _ => zZ hX) hcl) (fun i c B' hi => ?_), Gh.put_self .., hcl⟩
 obtain ⟨x, _, hx, _⟩ := hok.inn _ _ i c B' hcl hi
 rw [hb] at hx; cases hx
section
variable {P : Program} {G : Gh} {w : World} {mem : Mem} {o : Oper} {a : Act} {out : Out}
theorem zje {own : Bool} {t tx ty : TypeId} {rs : Nat} {x y : AV} {cx cy : Value} (hM : MemR G w mem) (hrs : mem[rs]? = some none)
  (h : appendO P own t tx mem rs x y = some out) (hx : VR G w x cx) (hy : VR G w y cy) :
  ∃ G' w1 cv, (Builtin.append_ #[t, tx] ty #[cx, cy]).run P w = .ok cv w1 ∧ VR G' w1 out.v cv ∧ Gle G G' ∧ Ev G w w1 ∧ MemR G' w1 (out.apply mem) := by
 unfold appendO at h
 rw [bind_some] at h; obtain ⟨et, het, h⟩ := h
 rw [bind_some] at h; obtain ⟨s, hs, h⟩ := h
 rw [bind_some] at h; obtain ⟨bytes, hby, h⟩ := h
 rw [bind_some] at h; obtain ⟨z, hz, h⟩ := h
 rw [bind_some] at h; obtain ⟨ls, hls, h⟩ := h
 rw [bind_some] at h; obtain ⟨yv, hyv, h⟩ := h
 obtain ⟨yv1, yrd⟩ := yv
 simp only at h
 split at h
 ·rename_i e cs
  rw [za] at h; obtain ⟨hg, h⟩ := h
  simp only [yb] at hg
  obtain ⟨⟨⟨⟨⟨⟨g1, g2⟩, g3⟩, g4⟩, g5⟩, g6⟩, g7⟩ := hg
  obtain rfl := beqN.1 g1
  have g3 := bleN.1 g3; have g4 := bleN.1 g4; have g5 := beqN.1 g5; have g6 := beqN.1 g6
  obtain ⟨i, zv0, hE⟩ := zjw het hs hby hz g3 g4 g5
  obtain ⟨news, hsrc, hnews⟩ := zfc hM hyv hy hs g2
  obtain ⟨hL, hnl, hones⟩ := hnews.avs
  have hch : ∀ (k : Nat) (c : List AV), (chunks s (countBy s cs.length) cs)[k]? = some c → LRs G w c ((news.drop (k * s)).take s) := fun k c hk => hL.chunks hk
  split at h
  ·obtain rfl := hx.lit_inv
   rw [za] at h; obtain ⟨_, h⟩ := h
   rw [bind_some] at h; obtain ⟨q, hq, h⟩ := h
   rw [za] at h; obtain ⟨hml, h⟩ := h
   simp only [yb] at hml
   obtain rfl := ya h
   have hne := zbH g6 hq hch
   rw [zam] at hne
   have hno : ∀ g, 0 ≤ g → G.loc rs g = none := fun g _ => hM.unset rs g (fun x hx => by rw [hrs] at hx; cases hx)
   have hok := zbJ (Bold := none) (xs0 := []) (hs := []) (vs0 := []) hM (hno 0 (yx _)) rfl (fun x hx => by cases hx) (by simp) (fun i x c y h1 => by simp at h1) hne hones
   simp only [ya3] at hok
   rw [zH]
   exact zbj hM (ye.1 hrs).1 hno hE hsrc (by have := bleN.1 hml.2; rw [hne.len] at this; exact this) rfl hne.len hok (fun _ => rfl)
  ·rename_i b g
   rw [bind_some] at h; obtain ⟨bx, hbx, h⟩ := h
   obtain ⟨hm, hge, hown⟩ := boxO?_some hbx
   subst hge
   split at h
   ·rename_i e' xs hs' hrow
    rw [bind_some] at h; obtain ⟨q, hq, h⟩ := h
    rw [za] at h; obtain ⟨hg, h⟩ := h
    simp only [yb, yt] at hg
    obtain ⟨⟨⟨c1, c2⟩, c3⟩, c4⟩ := hg
    obtain rfl := beqN.1 c2
    have c4 := bleN.1 c4
    obtain rfl := ya h
    have hne := zbH g6 hq hch
    rw [zam] at hne
    rw [zH]
    have hno := fun g hg => hM.gens b bx g hm hg
    have hlen' : (xs ++ q.1).length = xs.length + countBy s cs.length := by rw [yi1, hne.len]
    cases hx with
    | msw _ _ cap L B hl hb hn hf =>
     have hB : Blk G b bx B := ⟨L, hl, hb⟩
     obtain ⟨hl', _⟩ := hM.blk hm hB
     have hLL := hl
     rw [hl'] at hLL
     obtain rfl := ya hLL
     obtain ⟨vs0, v1, v2, v3, v4⟩ := znW hM hm hrow hB g4 (yx _)
     rw [yx2] at v2 v4
     have hok := zbJ (g' := bx.gen + 1) hM (hno _ (yw2 _)) c3 v4 v1 v2 hne hones
     rw [hrow] at hn hf ⊢
     exact zeT (row' := .own s (xs ++ q.1) (hs' ++ q.2)) hM hm hl' c1 hE v1 v3 hn hf hsrc rfl hlen' hok c4
    | mswNil _ _ L hl hb hn =>
     obtain ⟨oo, hl', hmm⟩ := (hM.box b bx hm).loc
     rw [hl] at hl'
     obtain rfl := ya hl'
     rw [hrow] at hn
     have hx0 : xs = [] := yo hn
     subst hx0
     have hok := zbJ (g' := bx.gen + 1) (Bold := none) (xs0 := []) (vs0 := []) hM (hno _ (yw2 _)) c3 (fun x hx => by cases hx) (by simp) (fun i x c y h1 => by simp at h1) hne hones
     simp only [ya3] at hok hlen' c4
     exact zbj (row' := .own s (q.1) (hs' ++ q.2)) hM (ye.1 hm).1 (fun g hg => hno g hg) hE hsrc (by rw [hne.len] at c4; exact c4) rfl hne.len hok (fun _ => rfl)
   ·cases h
  ·rename_i b g n
   rw [bind_some] at h; obtain ⟨bx, hbx, h⟩ := h
   obtain ⟨hm, hge, hown⟩ := boxO?_some hbx
   subst hge
   split at h
   ·rename_i e' xs hs' hrow
    rw [bind_some] at h; obtain ⟨q, hq, h⟩ := h
    rw [za] at h; obtain ⟨hg, h⟩ := h
    simp only [yb, yt] at hg
    obtain ⟨⟨⟨⟨c1, c2⟩, c0⟩, c3⟩, c4⟩ := hg
    obtain rfl := beqN.1 c2
    have c4 := bleN.1 c4; have c0 := bleN.1 c0
    obtain rfl := ya h
    have hne := zbH g6 hq hch
    rw [zam] at hne
    rw [zH]
    have hno := fun g hg => hM.gens b bx g hm hg
    have htl : (xs.take n).length = n := by simp; omega
    have hlen' : (xs.take n ++ q.1).length = n + countBy s cs.length := by rw [yi1, hne.len, htl]
    cases hx with
    | ms _ _ _ _ cap L B hl hb hn hon hf =>
     have hB : Blk G b bx B := ⟨L, hl, hb⟩
     obtain ⟨hl', _⟩ := hM.blk hm hB
     have hLL := hl
     rw [hl'] at hLL
     obtain rfl := ya hLL
     obtain ⟨vs0, v1, v2, v3, v4⟩ := znW hM hm hrow hB g4 c0
     have hok := zbJ (g' := bx.gen + 1) hM (hno _ (yw2 _)) (by rw [htl]; exact c3) v4 (by rw [htl]; exact v1) v2 (by rw [htl]; exact hne) hones
     simp only [yy] at hf
     rw [hrow] at hf
     simp only [yd3]
     exact zeT (row' := .own s (xs.take n ++ q.1) (hs' ++ q.2)) hM hm hl' c1 hE v1 v3 hn hf hsrc rfl hlen' hok c4
    | msNil _ _ L hl hb =>
     obtain ⟨oo, hl', hmm⟩ := (hM.box b bx hm).loc
     rw [hl] at hl'
     obtain rfl := ya hl'
     simp only [List.take_zero, ya3] at hlen' c4 hq ⊢
     have hok := zbJ (g' := bx.gen + 1) (Bold := none) (xs0 := []) (vs0 := []) hM (hno _ (yw2 _)) c3 (fun x hx => by cases hx) (by simp) (fun i x c y h1 => by simp at h1) hne hones
     simp only [ya3] at hok
     exact zbj (row' := .own s (q.1) (hs' ++ q.2)) hM (ye.1 hm).1 (fun g hg => hno g hg) hE hsrc (by rw [hne.len] at c4; exact c4) rfl hne.len hok (fun _ => rfl)
    | msZ _ _ _ B oo L hl hb ho hon => omega
   ·cases h
  ·cases h
 ·cases h
theorem zgY {t : TypeId} {rs : Nat} {x : Operand} (hM : MemR G w mem) (hm : mem[rs]? = some none) (hx : x = .const (.slice none 0 0)) (he : execOp a.eval o = pure (Next.value (a.eval x))) (h : moveO P t rs = some out) : OpW P G w mem o a out := by
 unfold moveO at h
 rw [bind_some] at h; obtain ⟨et, het, h⟩ := h
 rw [bind_some] at h; obtain ⟨e, hes, h⟩ := h
 rw [za] at h; obtain ⟨h1, h⟩ := h
 obtain rfl := ya h
 have h1 := bleN.1 h1
 subst hx
 obtain ⟨G', hg, hl, hM'⟩ := zga (b := rs) (g' := 0) (row' := .own e [] []) hM (ye.1 hm).1 (fun g _ => hM.unset rs g (fun y hy => by rw [hm] at hy; cases hy)) h1 rfl rfl
 refine OpDone.opW ⟨G', w, .value (a.eval (.const (.slice none 0 0))), _, by rw [he]; simp, .inl rfl, ?_, hg, Ev.refl G w, by simpa [Out.apply, setMem] using hM'⟩
 exact .mswNil rs 0 _ hl rfl rfl
theorem zlh {ρ : Operand → Option AV} {rs : Nat} {t : TypeId} {l c : Operand} (hM : MemR G w mem) (hrs : mem[rs]? = some none) (hρ : EvR G w ρ a) (h : makeO P ρ mem rs t l c = some out) :
  ∃ G' w' cv, (Instr.makeSlice t (a.eval l) (a.eval c)).run P w = .ok cv w' ∧ VR G' w' out.v cv ∧ Gle G G' ∧ Ev G w w' ∧ MemR G' w' (out.apply mem) := by
 unfold makeO at h
 rw [bind_some] at h; obtain ⟨et, het, h⟩ := h
 rw [bind_some] at h; obtain ⟨z, hz, h⟩ := h
 rw [bind_some] at h; obtain ⟨vl, hl, h⟩ := h
 rw [bind_some] at h; obtain ⟨vc, hc, h⟩ := h
 rw [bind_some] at h; obtain ⟨ls, hls, h⟩ := h
 split at h
 ·rename_i k1 n k2 n'
  rw [za] at h; obtain ⟨hg, h⟩ := h
  simp only [yb, beq_iff_eq, decide_eq_true_eq] at hg
  obtain ⟨⟨hnn, hn0⟩, hml⟩ := hg
  subst hnn
  have hml := bleN.1 hml
  rw [bind_some] at h; obtain ⟨q, hq, h⟩ := h
  rw [bind_some] at h; obtain ⟨p, hp, h⟩ := h
  rw [bind_some] at h; obtain ⟨e, he, h⟩ := h
  rw [bind_some] at h; obtain ⟨bytes, hby, h⟩ := h
  rw [za] at h; obtain ⟨hg, h⟩ := h
  simp only [yb] at hg
  obtain ⟨⟨⟨⟨g1, g2⟩, g3⟩, g5⟩, g4⟩ := hg
  have g1 := bleN.1 g1; have g2 := bleN.1 g2; have g3 := beqN.1 g3
  have g4 : q.2 = [] := by cases hh : q.2 with | nil => rfl | cons _ _ => rw [hh] at g4; cases g4
  obtain ⟨i, zv, hi, hzv, hov⟩ := zaU hz
  have hzr : VR G w z zv := zbh hov
  have el := (hρ _ _ hl).lit_inv
  have ec := (hρ _ _ hc).lit_inv
  obtain ⟨m, rfl⟩ : ∃ m : Nat, n = (m : Int) := ⟨n.toNat, by omega⟩
  rw [yd1] at hml h
  obtain rfl := ya h
  have his : i.size = e := by unfold tsz at he; rw [hi] at he; simpa using he
  have hib : i.bytes ≤ 4096 := by unfold tbytes at hby; rw [hi] at hby; simp at hby; omega
  have hzs : zv.cells.size = e := by rw [← g3]; simpa using hzr.cells.1.symm
  obtain ⟨a1, a2, a3⟩ := zgw hq hzr.cells
  have hpc := zhi hp (fun k y hy => by obtain ⟨_, _, _, h⟩ := a3 k y hy; exact h)
  have hno : G.loc rs 0 = none := hM.unset rs 0 (fun x hx => by rw [hrs] at hx; cases hx)
  have hfl : ∀ k c, k < m → c < e → (flat (List.replicate m zv))[k * e + c]? = zv.cells.toList[c]? := fun k c hk hc => zcG (fun u hu => by rw [(yi2.1 hu).2]; exact hzs) (by rw [yz1, if_pos hk]) hc
  have hone : ∀ u ∈ flat (List.replicate m zv), u.oneCell' = true := by
   intro u hu
   obtain ⟨z', hz', hu⟩ := zli hu
   rw [(yi2.1 hz').2] at hu
   obtain ⟨j, hj, rfl⟩ := ys1 hu
   exact hzr.cells.ones g5 _ (yr2 hj)
  have hne : NewEls G w e ([] : List PV).length m (flat (List.replicate m zv)) (List.replicate m p, []) := by
   refine ⟨by simp, fun x hx => (nomatch hx), fun x hx => ?_, fun k c p' y hp' hy => ?_⟩
   ·rw [(yi2.1 hx).2, hpc, a1, g3]
   ·have hk : k < m := by have := (ye.1 hp').1; simpa using this
    simp only [yz1, if_pos hk, Option.some.injEq] at hp'
    subst hp'
    rw [hpc] at hy
    obtain ⟨u, hu, hn, _⟩ := a3 c y hy
    have hce : c < e := by rw [← g3, ← a1]; exact (ye.1 hy).1
    rw [g4] at hn
    exact ⟨u, by rw [hfl k c hk hce]; exact hu, hn⟩
  have hok := zbJ (Bold := none) (xs0 := []) (hs := []) (vs0 := []) hM hno rfl (fun x hx => by cases hx) (by simp) (fun i x c y h1 => by simp at h1) hne hone
  simp only [ya3] at hok
  obtain ⟨G', hg', hev, hM', hl', hcl⟩ := zmt (t := et) (row := .own e (List.replicate m p) []) hM hrs g1 hok
  have hfit := zdU hml hib
  have hrun := run_make (P := P) w t et i zv (zbI het) hi hzv k1 k2 m m (by omega) (Int.le_refl _) (by
    have h : ((m * i.bytes : Nat) : Int) ≤ 281474976710656 := by omega
    rw [Int.natCast_mul, Int.mul_comm] at h; exact h) (by unfold mostLen at hml; omega)
  simp only [yd1] at hrun
  have hc' : madeCells zv.cells (m * i.size) = (flat (List.replicate m zv)).toArray := by
   have := zaL zv.cells (by omega) m
   rw [← yg2 (xs := madeCells zv.cells (m * i.size)), zae, ← this, his]
   simp only [madeCells, hzs]
  rw [hc'] at hrun
  rw [el, ec]
  refine ⟨G', _, _, hrun, ?_, hg', hev, by rw [zH]; exact hM'⟩
  have hk : VR G' (w.alloc (.cells (flat (List.replicate m zv)).toArray et)) (.msw rs 0) (.slice (some ⟨w.heap.size, 0, none⟩) (Row.own e (List.replicate m p) []).len m) := by
   refine .msw rs 0 m _ w.heap.size hl' rfl (by simp [Row.len]) (fun j hj => ?_)
   simp only [Row.e] at hj
   have hj2 : j < (flat (List.replicate m zv)).length := by rw [zaq (e := e) (fun u hu => by rw [(yi2.1 hu).2]; exact hzs)]; simpa using hj
   rw [hcl j _ (yf hj2)]; rfl
  simpa [Row.len] using hk
 ·cases h
theorem zku {ρ : Operand → Option AV} {rs : Nat} {t : TypeId} {len : Nat} {parts : Array (Nat × Operand)} (hM : MemR G w mem) (hrs : mem[rs]? = some none) (hρ : EvR G w ρ a) (h : buildO P ρ mem rs t len parts = some out) :
  ∃ G' w' cv, (Instr.buildSlice t len (parts.map fun p => (p.1, a.eval p.2))).run P w = .ok cv w' ∧ VR G' w' out.v cv ∧ Gle G G' ∧ Ev G w w' ∧ MemR G' w' (out.apply mem) := by
 unfold buildO at h
 rw [bind_some] at h; obtain ⟨et, het, h⟩ := h
 rw [bind_some] at h; obtain ⟨z, hz, h⟩ := h
 rw [bind_some] at h; obtain ⟨s, hs, h⟩ := h
 rw [bind_some] at h; obtain ⟨ps, hps, h⟩ := h
 rw [bind_some] at h; obtain ⟨ls, hls, h⟩ := h
 rw [za] at h; obtain ⟨hg, h⟩ := h
 rw [bind_some] at h; obtain ⟨q, hq, h⟩ := h
 rw [za] at h; obtain ⟨hones, h⟩ := h
 obtain rfl := ya h
 simp only [yb] at hg
 obtain ⟨⟨⟨⟨⟨⟨g1, g2⟩, g3⟩, g4⟩, g5⟩, g6⟩, g7⟩ := hg
 have g2 := bleN.1 g2; have g3 := bleN.1 g3; have g4 := bleN.1 g4; have g6 := beqN.1 g6; have g7 := bleN.1 g7
 have hp := zeS hρ hps
 generalize (parts.map fun p => (p.1, a.eval p.2)) = qs at hp ⊢
 have hu := zbI het
 obtain ⟨i, zv, hi, hzv, hov⟩ := zaU hz
 have his : i.size = s := by unfold tsz at hs; rw [hi] at hs; simpa using hs
 have hzr : VR G w z zv := zbh hov
 have hsz := zdP g5
 have hzs : zv.cells.size = s := by rw [← hsz z (yn ..)]; simpa using hzr.cells.1.symm
 have hL0 : LRs G w (List.replicate len z) (List.replicate len zv) := by
  refine ⟨by simp, fun j y hy => ?_⟩
  obtain ⟨hj, rfl⟩ : j < len ∧ z = y := by
   have h1 := (ye.1 hy)
   obtain ⟨h1, h2⟩ := h1
   simp at h1 h2; exact ⟨h1, h2⟩
  rw [yl, yz1, if_pos hj]; exact hzr
 have hL := zeV hL0 hp
 have hqs : ∀ q ∈ qs.toList, q.2.cells.size = s ∧ q.1 < (List.replicate len zv).length := by
  intro q hq
  obtain ⟨j, hj, rfl⟩ := ys1 hq
  have hj2 : j < ps.length := by rw [hp.1]; exact hj
  obtain ⟨v, hv, hvr⟩ := hp.2 j _ (yf hj2)
  rw [yf hj] at hv
  have hqe := ya hv
  rw [hqe]
  refine ⟨?_, by simp only [List.length_replicate]; exact zdN g1 _ (yr2 hj2)⟩
  rw [← hsz (ps[j].2) (yi _ (yu2.2 ⟨_, yr2 hj2, rfl⟩))]
  simpa using hvr.cells.1.symm
 have hz1 : ∀ u ∈ List.replicate len zv, u.cells.size = s := fun u hu => by rw [(yi2.1 hu).2]; exact hzs
 have hus := zcg hz1 (fun q h => (hqs q h).1)
 have hlen : (setEls (List.replicate len z) ps).length = len := by rw [zcd]; simp
 have hone : ∀ u ∈ flat (setElsV (List.replicate len zv) qs.toList), u.oneCell' = true := (zdd hL).ones hones
 have hne : NewEls G w s ([] : List PV).length len (flat (setElsV (List.replicate len zv) qs.toList)) q := by
  have := zbH g6 hq (us := flat (setElsV (List.replicate len zv) qs.toList)) (fun k cs hk => by
   rw [yc1] at hk
   obtain ⟨v, hv, rfl⟩ := yd.1 hk
   obtain ⟨u, hu, hvr⟩ := hL.get hv
   have : ((flat (setElsV (List.replicate len zv) qs.toList)).drop (k * s)).take s = u.cells.toList := by
    have hcs := hus u (yj hu)
    apply List.ext_getElem?
    intro c
    rw [yj1]
    by_cases hc : c < s
    ·rw [if_pos hc, yb1, zcG hus hu hc]
    ·rw [if_neg hc, ya1 (by simp [hcs]; omega)]
   rw [this]; exact hvr.cells)
  rw [yf1, hlen] at this; exact this
 have hno : G.loc rs 0 = none := hM.unset rs 0 (fun x hx => by rw [hrs] at hx; cases hx)
 have hok := zbJ (Bold := none) (xs0 := []) (hs := []) (vs0 := []) hM hno rfl (fun x hx => by cases hx) (by simp) (fun i x c y h1 => by simp at h1) hne hone
 simp only [ya3] at hok
 obtain ⟨G', hg', hev, hM', hl', hcl⟩ := zmt (t := et) (row := .own s q.1 q.2) hM hrs g3 hok
 have hlt : len * s ≤ 16777216 := yb2 (Nat.mul_le_mul g2 g4) (by decide)
 have hpos : 0 < len * s := Nat.mul_pos (by omega) (by omega)
 have hc0 : ((Array.range (len * i.size)).map (zv.cells[· % zv.cells.size]!)).toList = flat (List.replicate len zv) := by
  rw [his, zae]
  have := zaL zv.cells (by omega) len
  rw [hzs] at this
  rw [hzs]; exact this
 obtain ⟨c', hf, hc'⟩ := zgm hc0 hz1 hqs
 have hcc : c' = (flat (setElsV (List.replicate len zv) qs.toList)).toArray := by rw [← hc']
 refine ⟨G', _, _, run_buildSlice w t et len qs c' i zv hu hi hzv (by rw [his]; omega) (by rw [his]; omega) (by rw [his] at hf ⊢; exact hf), ?_, hg', by rw [hcc]; exact hev, by rw [zH, hcc]; exact hM'⟩
 rw [hcc]
 have hk : VR G' (w.alloc (.cells (flat (setElsV (List.replicate len zv) qs.toList)).toArray et)) (.msw rs 0) (.slice (some ⟨w.heap.size, 0, none⟩) (Row.own s q.1 q.2).len len) := by
  refine .msw rs 0 len _ w.heap.size hl' rfl (by simp only [Row.len]; rw [hne.len]; exact yx _) (fun j hj => ?_)
  simp only [Row.e] at hj
  have hj2 : j < (flat (setElsV (List.replicate len zv) qs.toList)).length := by rw [zaq (e := s) hus, zdS]; simpa using hj
  rw [hcl j _ (yf hj2)]; rfl
 simp only [Row.len] at hk
 rw [hne.len] at hk; exact hk
theorem zhE {own : Bool} {b : Builtin} {ts : Array TypeId} {ty : TypeId} {consts : Array Bool} {rs : Nat} {args : List AV} {vs : Array Value} (hM : MemR G w mem) (hrs : b = .append → mem[rs]? = some none)
  (h : builtinO P own b ts.toList mem rs args = some out) (hv : VRs G w args vs) :
  ∃ s : Sem Value, builtin b ts ty consts vs = (do pure (Next.value (← s))) ∧ ∃ G' w' cv, s.run P w = .ok cv w' ∧ VR G' w' out.v cv ∧ Gle G G' ∧ Ev G w w' ∧ MemR G' w' (out.apply mem) := by
 unfold builtinO at h
 split at h
 ·rename_i t x hts
  have hts' : ts = #[t] := by rw [← hts, yg2]
  obtain ⟨x', rfl⟩ := arr1 hv.1.symm
  have hx := hv.2 0 x rfl
  simp at hx
  subst hts'
  obtain ⟨h1, h2, n, hn, ⟨e, hu⟩, ad, cap, rfl⟩ := zmH (ty := ty) hM h hx
  exact ⟨_, rfl, G, w, .int .i64 (n : Int), by simp [Builtin.len_, Builtin.lenOf, run_underlying hu, goInt], by rw [hn]; exact .lit _ rfl, Gle.refl G, Ev.refl G w, by simpa only [Out.apply, h1, h2, setMem, yh1] using hM⟩
 ·rename_i t tx x y hts
  have hts' : ts = #[t, tx] := by rw [← hts, yg2]
  obtain ⟨x', y', rfl⟩ := arr2 hv.1.symm
  have hx := hv.2 0 x rfl
  have hy := hv.2 1 y rfl
  simp at hx hy
  subst hts'
  exact ⟨_, rfl, zje hM (hrs rfl) h hx hy⟩
 ·cases h
theorem zpf {own tk : Bool} {ρ : Operand → Option AV} {rs : Nat} (hM : MemR G w mem) (hrs : makes o.op = true → mem[rs]? = some none) (hρ : EvR G w ρ a) (hown : isOwnOp own ρ mem o.op = true)
  (h : opO P own tk o ρ mem rs = some out) : OpW P G w mem o a out := by
 unfold opO at h
 split at h
 ·rename_i x hop
  rw [hop] at hown
  simp only [isOwnOp, yb] at hown
  exact zgY hM (hrs (by rw [hop]; exact hown.2)) (zgo hown.2) (by simp only [execOp, hop]) h
 ·rename_i x hop
  rw [hop] at hown
  simp only [isOwnOp, yb] at hown
  exact zgY hM (hrs (by rw [hop]; exact hown.2)) (zgo hown.2) (by simp only [execOp, hop]) h
 ·rename_i t len parts hop
  exact OpW.value (by simp only [execOp, hop] <;> rfl) (zku hM (hrs (by rw [hop]; rfl)) hρ h)
 ·rename_i t l c hop
  exact OpW.value (by simp only [execOp, hop] <;> rfl) (zlh hM (hrs (by rw [hop]; rfl)) hρ h)
 ·rename_i t x hop
  rw [bind_some] at h; obtain ⟨v, hv, h⟩ := h
  obtain ⟨G', cv, hrun, hvr, hg, hM'⟩ := zlb hM h (hρ _ _ hv)
  exact OpW.value (by simp only [execOp, hop] <;> rfl) ⟨G', w, cv, hrun, hvr, hg, Ev.refl G w, hM'⟩
 ·rename_i t x y hop
  rw [bind_some] at h; obtain ⟨vx, hx, h⟩ := h
  rw [bind_some] at h; obtain ⟨vy, hy, h⟩ := h
  obtain ⟨hov, w', hrun, hev, hM'⟩ := zkm hM h (hρ _ _ hx) (hρ _ _ hy)
  refine OpDone.opW ⟨G, w', .skip, undef, ?_, .inr ⟨rfl, rfl⟩, by rw [hov]; exact .lit _ rfl, Gle.refl G, hev, hM'⟩
  simp only [execOp, hop, Sem.run_bind, hrun, Result.andThen_ok, Sem.run_pure]
 ·rename_i t x lo hi mx hop
  rw [bind_some] at h; obtain ⟨vx, hx, h⟩ := h
  rw [bind_some] at h; obtain ⟨vl, hl, h⟩ := h
  rw [bind_some] at h; obtain ⟨vh, hh, h⟩ := h
  rw [bind_some] at h; obtain ⟨vm, hm, h⟩ := h
  obtain ⟨h1, h2, cv, hrun, hvr⟩ := zkc hM h (hρ _ _ hx) (zbz hρ hl) (zbz hρ hh) (zbz hρ hm)
  exact OpW.still hM (by simp only [execOp, hop] <;> rfl) h1 h2 hrun hvr
 ·rename_i t x ix hop
  rw [bind_some] at h; obtain ⟨vx, hx, h⟩ := h
  rw [bind_some] at h; obtain ⟨vi, hi, h⟩ := h
  split at h
  ·rename_i k i
   have ei := (hρ _ _ hi).lit_inv
   obtain ⟨h1, h2, cv, hrun, hvr⟩ := zkw (k := k) hM h (hρ _ _ hx)
   exact OpW.still hM (by simp only [execOp, hop] <;> rfl) h1 h2 (by rw [ei]; exact hrun) hvr
  ·cases h
 ·rename_i c hop
  rw [bind_some] at h; obtain ⟨args, hargs, h⟩ := h
  have hav := zfD hρ hargs
  split at h
  ·rename_i b hc
   obtain ⟨s, hs, hh⟩ := zhE (ty := o.type) (consts := c.args.map fun | .const _ => true | _ => false) hM (fun hb => hrs (by rw [hop]; subst hb; unfold makes; obtain ⟨cc, _, _⟩ := c; simp only at hc; subst hc; rfl)) h hav
   refine OpW.value (s := s) ?_ hh
   rw [← hs]
   simp only [execOp, hop, resolve, hc, invoke]
   rfl
  ·cases h
 ·cases h
theorem zoq {C : Oracle} {own tk boxed raw vars : Bool} {ρ : Operand → Option AV} {rs : Nat} (hM : MemR G w mem) (hrs : makes o.op = true → mem[rs]? = some none) (hρ : EvR G w ρ a)
  (hcall : ∀ {raw keep : Bool} {g : FuncId} {ts : List TypeId} {fi args ca : List AV} {out : Out} {fv av cv : Array Value}, callA P C raw keep g ts fi args ca mem = some out → VRs G w fi fv → VRs G w args av → VRs G w ca cv → CallsW P G w mem g (fv ++ av ++ cv) out)
  (h : opX P C own tk boxed raw vars o ρ mem rs = some out) : OpW P G w mem o a out := by
 unfold opX at h
 cases ho : isOwnOp own ρ mem o.op with
 | true => rw [ho] at h; exact zpf hM hrs hρ ho h
 | false => rw [ho] at h; exact zoX hM hrs hρ hcall h
end
end Go.Ab
end
section
namespace Go.Ab
variable [GTab]
theorem zac (f : Ren) : ∀ cs : List AV, AV.renAll f cs = cs.map (·.ren f)
 | [] => by simp [AV.renAll]
 | c :: cs => by simp [AV.renAll, zac f cs]
theorem zaJ : ∀ {cs : List AV} {j : Nat} {y : AV}, cs[j]? = some y → y.lent = true → AV.lentAny cs = true
 | [], j, y, h, _ => by simp at h
 | c :: cs, 0, y, h, hl => by simp at h; subst h; simp [AV.lentAny, hl]
 | c :: cs, j + 1, y, h, hl => by simp [AV.lentAny, zaJ (cs := cs) (j := j) (by simpa using h) hl]
def RenOk (G G2 : Gh) (f : Ren) : Prop := ∀ b g q L, f b g = some q → G.loc b g = some L → G2.loc q.1 q.2 = some L
theorem zcO {f : Ren} {cs : List AV} {j : Nat} {y : AV} (h : (AV.renAll f cs)[j]? = some y) : ∃ x, cs[j]? = some x ∧ y = x.ren f := by
 rw [zac, yc1] at h
 obtain ⟨x, hx, rfl⟩ := yd.1 h
 exact ⟨x, hx, rfl⟩
theorem VR.ren {G G2 : Gh} {w : World} {f : Ren} {l : Bool} (hr : RenOk G G2 f) (hp : ∀ β B o, (β = true → l = true) → G.prot β B o → G2.prot β B o) {a : AV} {v : Value} (h : VR G w a v) :
  (a.lent = true → l = true) → VR G2 w (a.ren f) v := by
 induction h with
 | lit v h => intro _; simp only [AV.ren]; exact .lit v h
 | imm β p v h hs => intro hl; simp only [AV.ren]; exact .imm β p v (h.mono (fun B o hb => hp β B o (fun e => hl (by simp [AV.lent, e])) hb) (fun _ _ _ => rfl)) hs
 | unkB b => intro _; simp only [AV.ren]; exact .unkB b
 | dead v h1 h2 => intro _; simp only [AV.ren]; exact .dead v h1 h2
 | ptr b g i c L B hl hb =>
  intro _; simp only [AV.ren]
  split
  ·rename_i q hq; exact .ptr q.1 q.2 i c L B (hr b g q L hq hl) hb
  ·exact .dead _ rfl rfl
 | ms b g o n cap L B hl hb hn hon hf =>
  intro _; simp only [AV.ren]
  split
  ·rename_i q hq; exact .ms q.1 q.2 o n cap L B (hr b g q L hq hl) hb hn hon hf
  ·exact .dead _ rfl rfl
 | msNil b g L hl hb =>
  intro _; simp only [AV.ren]
  split
  ·rename_i q hq; exact .msNil q.1 q.2 L (hr b g q L hq hl) hb
  ·exact .dead _ rfl rfl
 | msZ b g o B oo L hl hb ho hon =>
  intro _; simp only [AV.ren]
  split
  ·rename_i q hq; exact .msZ q.1 q.2 o B oo L (hr b g q L hq hl) hb ho hon
  ·exact .dead _ rfl rfl
 | msw b g cap L B hl hb hn hf =>
  intro _; simp only [AV.ren]
  split
  ·rename_i q hq; exact .msw q.1 q.2 cap L B (hr b g q L hq hl) hb hn hf
  ·exact .dead _ rfl rfl
 | mswNil b g L hl hb hn =>
  intro _; simp only [AV.ren]
  split
  ·rename_i q hq; exact .mswNil q.1 q.2 L (hr b g q L hq hl) hb hn
  ·exact .dead _ rfl rfl
 | el β p c B o cv h hr' =>
  intro hl; simp only [AV.ren]
  have hp' : ∀ B o, G.prot β B o → G2.prot β B o := fun B o hb => hp β B o (fun e => hl (by simp [AV.lent, e])) hb
  exact .el β p c B o cv (fun j y hy => ⟨(h j y hy).1, hp' _ _ (h j y hy).2⟩) (fun j y hy => (hr' j y hy).mono hp' (fun _ _ _ => rfl))
 | fn f' fi ca fv cv h1 h2 hf hc ihf ihc =>
  intro hl; simp only [AV.ren]
  refine .fn f' _ _ fv cv (by rw [zac]; simpa using h1) (by rw [zac]; simpa using h2) (fun j y hy => ?_) (fun j y hy => ?_)
  ·obtain ⟨x, hx, rfl⟩ := zcO hy
   exact ihf j x hx (fun e => hl (by simp [AV.lent, zaJ hx e]))
  ·obtain ⟨x, hx, rfl⟩ := zcO hy
   exact ihc j x hx (fun e => hl (by simp [AV.lent, zaJ hx e]))
 | agg cs cvs hlen h ih =>
  intro hl; simp only [AV.ren]
  refine .agg _ cvs (by rw [zac]; simpa using hlen) (fun j y hy => ?_)
  obtain ⟨x, hx, rfl⟩ := zcO hy
  exact ih j x hx (fun e => hl (by simp [AV.lent, zaJ hx e]))
 | tup cs cvs hlen h ih =>
  intro hl; simp only [AV.ren]
  refine .tup _ cvs (by rw [zac]; simpa using hlen) (fun j y hy => ?_)
  obtain ⟨x, hx, rfl⟩ := zcO hy
  exact ih j x hx (fun e => hl (by simp [AV.lent, zaJ hx e]))
def rowLent : Row → Bool
 | .cells _ cs => AV.lentAny cs
 | .pvs β _ _ => β
 | .ints _ _ => false
 | .own _ _ hs => holeLent hs
theorem zbY : ∀ {mem : Mem} {b : Nat} {x : Box}, mem[b]? = some (some x) → rowLent x.row = true → memLent mem = true
 | [], b, x, h, _ => by simp at h
 | some y :: m, 0, x, h, hl => by
  simp at h; subst h
  obtain ⟨g, fz, row⟩ := y
  cases row <;> simp_all [memLent, rowLent]
 | none :: m, 0, x, h, hl => by simp at h
 | some y :: m, b + 1, x, h, hl => by simp [memLent, zbY (mem := m) (b := b) (by simpa using h) hl]
 | none :: m, b + 1, x, h, hl => by simp only [memLent]; exact zbY (mem := m) (b := b) (by simpa using h) hl
theorem zbA (f : Ren) (r : Row) : (r.ren f).e = r.e := by cases r <;> rfl
theorem zaM (f : Ren) (r : Row) : (r.ren f).len = r.len := by cases r <;> simp [Row.ren, Row.len, zac]
theorem zD (f : Ren) (r : Row) : (r.ren f).isCells = r.isCells := by cases r <;> rfl
theorem zca (f : Ren) {i c : Nat} : ∀ {hs : List (Nat × Nat × AV)}, holeFor i c (holeRen f hs) = (holeFor i c hs).map (·.ren f)
 | [] => rfl
 | (i', c', v) :: r => by
  simp only [holeRen, holeFor]
  split
  ·rfl
  ·exact zca f
theorem zlk {y : PV} {β : Bool} {e : Nat} {xs : List PV} (h : leafRow y = some (.pvs β e xs)) : β = false := by
 cases y with
 | ints k ys => cases h
 | sl e ys => simp only [leafRow] at h; rw [za] at h; obtain ⟨_, h⟩ := h; cases h; rfl
 | lit u => cases h
 | agg cs => cases h
theorem zha (f : Ren) : ∀ {hs : List (Nat × Nat × AV)} {x : Nat × Nat × AV}, x ∈ holeRen f hs → ∃ y ∈ hs, x.1 = y.1
 | [], x, h => by cases h
 | (i', c', v) :: r, x, h => by
  simp only [holeRen] at h
  rcases yn1.1 h with rfl | h
  ·exact ⟨_, yn .., rfl⟩
  ·obtain ⟨y, hy, he⟩ := zha f h; exact ⟨y, yi _ hy, he⟩
theorem zfs : ∀ {hs : List (Nat × Nat × AV)} {i c : Nat} {a : AV}, holeFor i c hs = some a → a.lent = true → holeLent hs = true
 | [], i, c, a, h, _ => by cases h
 | (i', c', v) :: r, i, c, a, h, hl => by
  simp only [holeFor] at h
  simp only [holeLent, yw1]
  split at h
  ·obtain rfl := ya h; exact .inl hl
  ·exact .inr (zfs h hl)
theorem InnB.ren {w : World} {B : Nat} {f : Ren} {r : Row} {i c B' : Nat} : InnB w B (r.ren f) i c B' ↔ InnB w B r i c B' := by
 cases r with
 | own e xs hs =>
  constructor
  ·rintro ⟨h1, h2, h3⟩; rw [zca, Option.map_eq_none_iff] at h2; exact ⟨h1, h2, h3⟩
  ·rintro ⟨h1, h2, h3⟩; exact ⟨h1, by rw [zca, h2]; rfl, h3⟩
 | _ => exact Iff.rfl
theorem RowR.ren {G G2 : Gh} {w : World} {f : Ren} {l : Bool} (hr : RenOk G G2 f) (hp : ∀ β B o, (β = true → l = true) → G.prot β B o → G2.prot β B o) {B : Nat} {r : Row} (h : RowR G w B r) (hl : rowLent r = true → l = true)
  (hin : ∀ i c B', InnB w B r i c B' → G2.mine B' ∧ ∀ β o, ¬ G2.prot β B' o) : RowR G2 w B (r.ren f) := by
 cases r with
 | ints k xs => exact h
 | pvs β e xs => exact ⟨h.1, fun i x c y hx hy => by obtain ⟨v, h1, h2, h3⟩ := h.2 i x c y hx hy; exact ⟨v, h1, h2, h3.mono (fun B o hb => hp β B o (fun e => hl (by simp [rowLent, e])) hb) (fun _ _ _ => rfl)⟩⟩
 | cells e cs =>
  refine ⟨by simpa [zac] using h.1, fun j y hy => ?_⟩
  obtain ⟨x, hx, rfl⟩ := zcO hy
  obtain ⟨v, h1, h2, h3⟩ := h.2 j x hx
  exact ⟨v, h1, h2, h3.ren hr hp (fun e => hl (by simp [rowLent, zaJ hx e]))⟩
 | own e xs hs =>
  obtain ⟨h1, h2, h3⟩ := h
  refine ⟨fun x hx => by obtain ⟨y, hy, he⟩ := zha f hx; rw [he]; exact h1 y hy, h2, fun i x c y hx hy => ?_⟩
  obtain ⟨v, hv, hv1, ho⟩ := h3 i x c y hx hy
  refine ⟨v, hv, hv1, ?_⟩
  rw [zca]
  cases hh : holeFor i c hs with
  | some a => rw [hh] at ho; exact VR.ren hr hp ho (fun e => hl (by simp only [rowLent]; exact zfs hh e))
  | none =>
   rw [hh] at ho
   rcases ho with ho | ⟨row, hrow, ho⟩
   ·exact .inl ho
   ·refine .inr ⟨row, hrow, ?_⟩
    rcases ho with ho | ⟨B', cap, rfl, k1, k2, k3, k4, k5, k6, k7⟩
    ·exact .inl ho
    ·obtain ⟨m1, m2⟩ := hin i c B' ⟨⟨x, y, row, hx, hy, hrow⟩, hh, _, _, hv⟩
     refine .inr ⟨B', cap, rfl, k1, k2, m1, k4, k5, ?_, m2⟩
     cases row with
     | ints k xs => exact k6
     | pvs β e xs =>
      refine ⟨k6.1, fun i x c y hx hy => ?_⟩
      obtain ⟨v, h1, h2, h3⟩ := k6.2 i x c y hx hy
      refine ⟨v, h1, h2, h3.mono (fun B o hb => hp β B o (fun e => ?_) hb) (fun _ _ _ => rfl)⟩
      subst e
      have := zlk hrow; cases this
     | cells e cs => cases k6
     | own e xs hs => cases k6
theorem zfJ : ∀ {ids : List Nat} {b n j : Nat}, idx b ids n = some j → ∃ i, j = n + i ∧ ids[i]? = some b
 | [], b, n, j, h => by simp [idx] at h
 | m :: r, b, n, j, h => by
  simp only [idx] at h
  cases hb : Nat.beq m b with
  | true => rw [hb] at h; simp at h; subst h; exact ⟨0, rfl, by simp [beqN.1 hb]⟩
  | false =>
   rw [hb] at h; simp only [yh] at h
   obtain ⟨i, rfl, hi⟩ := zfJ h
   exact ⟨i + 1, by omega, by simpa using hi⟩
theorem zdg : ∀ {ids : List Nat} {i j b : Nat}, nodupN ids = true → ids[i]? = some b → ids[j]? = some b → i = j
 | [], i, j, b, _, h, _ => by simp at h
 | m :: r, i, j, b, hn, hi, hj => by
  simp only [nodupN, yb, yt] at hn
  have hno : ∀ k : Nat, r[k]? = some m → False := fun k hk => by
   have := zcz.2 (yj hk)
   rw [this] at hn; simp at hn
  cases i with
  | zero =>
   cases j with
   | zero => rfl
   | succ j => simp at hi hj; subst hi; exact (hno j hj).elim
  | succ i =>
   cases j with
   | zero => simp at hi hj; subst hj; exact (hno i hi).elim
   | succ j => rw [zdg (ids := r) (i := i) (j := j) hn.2 (by simpa using hi) (by simpa using hj)]
def locIn (m : Nat) (keep : Bool) (G : Gh) (mem : Mem) (ids : List Nat) : Nat → Nat → Option Loc := fun j g => (ids[j]?).bind fun b => (genOf mem b).bind fun h => if g = newGen m keep (cellsAt mem b) j h then G.loc b h else if j < m ∧ g = 0 then G.loc b 0 else none
theorem zaZ {mem : Mem} {b g : Nat} : genOf mem b = some g ↔ ∃ x, mem[b]? = some (some x) ∧ x.gen = g := by
 unfold genOf
 split
 ·rename_i x hx; constructor
  ·intro h; exact ⟨x, hx, by simpa using h⟩
  ·rintro ⟨y, hy, rfl⟩; rw [hx] at hy; simp at hy; subst hy; rfl
 ·rename_i hne; constructor
  ·intro h; simp at h
  ·rintro ⟨y, hy, _⟩; exact absurd hy (hne y)
theorem zbr {mem : Mem} {b : Nat} {x : Box} (h : mem[b]? = some (some x)) : cellsAt mem b = x.row.isCells := by unfold cellsAt; rw [h]
theorem zmN {m : Nat} {keep : Bool} {mem : Mem} {ids : List Nat} {b g : Nat} {q : Nat × Nat} (h : renTo m keep mem ids b g = some q) : ∃ j, q = (j, newGen m keep (cellsAt mem b) j g) ∧ ids[j]? = some b ∧ genOf mem b = some g := by
 unfold renTo at h
 split at h
 ·rename_i h' hg
  cases hb : Nat.beq h' g with
  | false => rw [hb] at h; simp at h
  | true =>
   rw [hb] at h; simp only [yg] at h
   obtain ⟨j, hj, rfl⟩ := yd.1 h
   obtain ⟨i, rfl, hi⟩ := zfJ hj
   rw [← beqN.1 hb]
   exact ⟨i, by simp, hi, hg⟩
 ·simp at h
theorem ziC {m : Nat} {keep : Bool} {G G2 : Gh} {mem : Mem} {ids : List Nat} (hl : G2.loc = locIn m keep G mem ids) : RenOk G G2 (renTo m keep mem ids) := by
 intro b g q L hq hL
 obtain ⟨j, rfl, hj, hg⟩ := zmN hq
 rw [hl]
 simp [locIn, hj, hg, hL]
theorem zY (m : Nat) (keep : Bool) (f : Ren) (mem : Mem) : ∀ (ids : List Nat) (n j : Nat), (pickMem m keep f mem n ids)[j]? = (ids[j]?).map fun b => match mem[b]? with | some (some x) => some { gen := newGen m keep x.row.isCells (n + j) x.gen, frz := x.frz, row := x.row.ren f } | _ => none
 | [], n, j => by simp [pickMem]
 | b :: r, n, 0 => by simp only [pickMem, yp2, yk, ym1]; rfl
 | b :: r, n, j + 1 => by simp only [pickMem, ye1]; rw [zY m keep f mem r (n + 1) j]; simp only [show n + 1 + j = n + (j + 1) by omega]
theorem zJ {m : Nat} {keep : Bool} {f : Ren} {mem : Mem} {ids : List Nat} {j : Nat} {y : Box} (h : (pickMem m keep f mem 0 ids)[j]? = some (some y)) :
  ∃ b x, ids[j]? = some b ∧ mem[b]? = some (some x) ∧ y = { gen := newGen m keep x.row.isCells j x.gen, frz := x.frz, row := x.row.ren f } := by
 rw [zY] at h
 obtain ⟨b, hb, h⟩ := yd.1 h
 split at h
 ·rename_i x hx; exact ⟨b, x, hb, hx, by simpa using h.symm⟩
 ·simp at h
theorem ziq {m : Nat} {keep : Bool} {G G2 : Gh} {w : World} {mem : Mem} {ids : List Nat} (hM : MemR G w mem) (hn : nodupN ids = true) (hloc : G2.loc = locIn m keep G mem ids) (hp : ∀ β B o, G.prot β B o → G2.prot β B o)
  (hnp : ∀ (b : Nat) (x : Box) (B : Nat), b ∈ ids → mem[b]? = some (some x) → x.frz = false → Blk G b x B → ∀ β o, ¬ G2.prot β B o)
  (hmine : ∀ (b : Nat) (x : Box) (B : Nat), b ∈ ids → mem[b]? = some (some x) → Blk G b x B → G2.mine B)
  (hinn : ∀ (b : Nat) (x : Box) (B i c B' : Nat), b ∈ ids → mem[b]? = some (some x) → Blk G b x B → InnB w B x.row i c B' → G2.mine B' ∧ ∀ β o, ¬ G2.prot β B' o) (hown : ∀ B, w.heap.size ≤ B → G2.mine B)
  (hlab : ∀ B o, G2.prot false B o → G2.prot true B o) (haway : ∀ β B o, G2.prot β B o → B < w.heap.size) : MemR G2 w (pickMem m keep (renTo m keep mem ids) mem 0 ids) := by
 have hr := ziC hloc
 have l0 : ∀ {j b : Nat} {x : Box}, ids[j]? = some b → mem[b]? = some (some x) → G2.loc j (newGen m keep x.row.isCells j x.gen) = G.loc b x.gen := by
  intro j b x hj hx
  rw [hloc]; simp [locIn, hj, zaZ.2 ⟨x, hx, rfl⟩, zbr hx]
 have hblk : ∀ {j b : Nat} {x : Box} {B : Nat}, ids[j]? = some b → mem[b]? = some (some x) → Blk G2 j { gen := newGen m keep x.row.isCells j x.gen, frz := x.frz, row := x.row.ren (renTo m keep mem ids) } B → Blk G b x B := by
  rintro j b x B hj hx ⟨L, hl, hB⟩
  simp only at hl; rw [l0 hj hx] at hl; exact ⟨L, hl, hB⟩
 refine ⟨fun j y h => ?_, fun j g h => ?_, fun j y g h hlt => ?_, fun j j' y y' L L' B h h' hl hl' hk hk' => ?_, fun j j' y y' B i c B' h k hi h' k' => ?_, fun j j' y y' B C i c i' c' B' h k hi h' k' hi' => ?_, hown, hlab, haway, hM.glob.mono (hp true) fun _ _ _ => rfl⟩
 ·obtain ⟨b, x, hb, hx, rfl⟩ := zJ h
  have hbx := hM.box b x hx
  obtain ⟨o, hl, hm⟩ := hbx.loc
  refine ⟨by simp only [zbA]; exact hbx.e, o, ?_, ?_⟩
  ·simp only [zbA, zaM]; rw [l0 hb hx]; exact hl
  ·cases o with
   | none => simp only [zaM, zD]; exact hm
   | some B =>
    obtain ⟨h1, h2, h3, h4, h5⟩ := hm
    have hB : Blk G b x B := ⟨_, hl, rfl⟩
    have hmem := yj hb
    exact ⟨hmine b x B hmem hx hB, h2, h3, h4.ren (l := true) hr (fun β B o _ => hp β B o) (fun _ => rfl) (fun i c B' hi => hinn b x B i c B' hmem hx hB hi), fun hf => hnp b x B hmem hx hf hB⟩
 ·rw [hloc]; unfold locIn
  cases hj : ids[j]? with
  | none => rfl
  | some b =>
   simp only [yc]
   cases hg : genOf mem b with
   | none => rfl
   | some g' =>
    obtain ⟨x, hx, _⟩ := zaZ.1 hg
    exact absurd (by rw [zY, hj]; simp [hx]) (h { gen := newGen m keep x.row.isCells j x.gen, frz := x.frz, row := x.row.ren (renTo m keep mem ids) })
 ·obtain ⟨b, x, hb, hx, rfl⟩ := zJ h
  rw [hloc]; unfold locIn
  simp only [hb, yc, zaZ.2 ⟨x, hx, rfl⟩, zbr hx]
  rw [if_neg (by simp only at hlt; omega), if_neg (by omega)]
 ·obtain ⟨b, x, hb, hx, rfl⟩ := zJ h
  obtain ⟨b', x', hb', hx', rfl⟩ := zJ h'
  simp only at hl hl'
  rw [l0 hb hx] at hl; rw [l0 hb' hx'] at hl'
  obtain rfl := hM.apart b b' x x' L L' B hx hx' hl hl' hk hk'
  exact zdg hn hb hb'
 ·obtain ⟨b, x, hb, hx, rfl⟩ := zJ h
  obtain ⟨b', x', hb', hx', rfl⟩ := zJ h'
  exact hM.inA b b' x x' B i c B' hx (hblk hb hx k) (InnB.ren.1 hi) hx' (hblk hb' hx' k')
 ·obtain ⟨b, x, hb, hx, rfl⟩ := zJ h
  obtain ⟨b', x', hb', hx', rfl⟩ := zJ h'
  obtain ⟨rfl, h2⟩ := hM.inB b b' x x' B C i c i' c' B' hx (hblk hb hx k) (InnB.ren.1 hi) hx' (hblk hb' hx' k') (InnB.ren.1 hi')
  exact ⟨zdg hn hb hb', h2⟩
def Gh.drop (G : Gh) (b0 : Nat) : Gh := { G with loc := fun b g => if b = b0 then none else G.loc b g }
theorem zah : ∀ {cs : List AV} {j : Nat} {y : AV} {b : Nat}, cs[j]? = some y → b ∈ y.refs → b ∈ AV.refsAll cs
 | [], j, y, b, h, _ => by simp at h
 | c :: cs, 0, y, b, h, hb => by simp at h; subst h; simp [AV.refsAll, hb]
 | c :: cs, j + 1, y, b, h, hb => by simp [AV.refsAll, zah (cs := cs) (j := j) (by simpa using h) hb]
theorem Gh.drop_loc {G : Gh} {b0 b g : Nat} (h : b ≠ b0) : (G.drop b0).loc b g = G.loc b g := by simp [Gh.drop, h]
theorem VR.drop {G : Gh} {w : World} {b0 : Nat} {a : AV} {v : Value} (h : VR G w a v) : b0 ∉ a.refs → VR (G.drop b0) w a v := by
 induction h with
 | lit v h => intro _; exact .lit v h
 | imm β p v h hs => intro _; exact .imm β p v h hs
 | unkB b => intro _; exact .unkB b
 | dead v h1 h2 => intro _; exact .dead v h1 h2
 | ptr b g i c L B hl hb => intro hn; exact .ptr b g i c L B (by rw [Gh.drop_loc (by rintro rfl; exact hn (by simp [AV.refs]))]; exact hl) hb
 | ms b g o n cap L B hl hb hn hon hf => intro hn'; exact .ms b g o n cap L B (by rw [Gh.drop_loc (by rintro rfl; exact hn' (by simp [AV.refs]))]; exact hl) hb hn hon hf
 | msNil b g L hl hb => intro hn; exact .msNil b g L (by rw [Gh.drop_loc (by rintro rfl; exact hn (by simp [AV.refs]))]; exact hl) hb
 | msZ b g o B oo L hl hb ho hon => intro hn; exact .msZ b g o B oo L (by rw [Gh.drop_loc (by rintro rfl; exact hn (by simp [AV.refs]))]; exact hl) hb ho hon
 | msw b g cap L B hl hb hn hf => intro hn'; exact .msw b g cap L B (by rw [Gh.drop_loc (by rintro rfl; exact hn' (by simp [AV.refs]))]; exact hl) hb hn hf
 | mswNil b g L hl hb hn => intro hn'; exact .mswNil b g L (by rw [Gh.drop_loc (by rintro rfl; exact hn' (by simp [AV.refs]))]; exact hl) hb hn
 | el β p c B o cv h hr' => intro _; exact .el β p c B o cv h hr'
 | fn f' fi ca fv cv h1 h2 hf hc ihf ihc =>
  intro hn
  simp only [AV.refs, yl1, not_or] at hn
  exact .fn f' _ _ fv cv h1 h2 (fun j y hy => ihf j y hy (fun h => hn.1 (zah hy h))) (fun j y hy => ihc j y hy (fun h => hn.2 (zah hy h)))
 | agg cs cvs hlen h ih => intro hn; simp only [AV.refs] at hn; exact .agg _ cvs hlen (fun j y hy => ih j y hy (fun h => hn (zah hy h)))
 | tup cs cvs hlen h ih => intro hn; simp only [AV.refs] at hn; exact .tup _ cvs hlen (fun j y hy => ih j y hy (fun h => hn (zah hy h)))
theorem zcR {b i c : Nat} {a : AV} : ∀ {hs : List (Nat × Nat × AV)}, holeFor i c hs = some a → b ∈ a.refs → b ∈ holeRefs hs
 | [], h, _ => by cases h
 | (i', c', v) :: r, h, hb => by
  simp only [holeFor] at h
  simp only [holeRefs, yl1]
  split at h
  ·obtain rfl := ya h; exact .inl hb
  ·exact .inr (zcR h hb)
theorem RowR.drop {G : Gh} {w : World} {b0 B : Nat} {r : Row} (h : RowR G w B r) (hn : b0 ∉ r.refs) : RowR (G.drop b0) w B r := by
 cases r with
 | ints k xs => exact h
 | pvs β e xs => exact h
 | cells e cs => exact ⟨h.1, fun j y hy => by obtain ⟨v, h1, h2, h3⟩ := h.2 j y hy; exact ⟨v, h1, h2, h3.drop (fun hb => hn (zah hy hb))⟩⟩
 | own e xs hs =>
  refine ⟨h.1, h.2.1, fun i x c y hx hy => ?_⟩
  obtain ⟨v, hv, hv1, ho⟩ := h.2.2 i x c y hx hy
  refine ⟨v, hv, hv1, ?_⟩
  cases hh : holeFor i c hs with
  | some a => rw [hh] at ho; exact VR.drop ho (fun hb => hn (zcR hh hb))
  | none =>
   rw [hh] at ho
   rcases ho with ho | ⟨row, hrow, ho⟩
   ·exact .inl ho
   ·refine .inr ⟨row, hrow, ?_⟩
    rcases ho with ho | ⟨B', cap, rfl, k1, k2, k3, k4, k5, k6, k7⟩
    ·exact .inl ho
    ·refine .inr ⟨B', cap, rfl, k1, k2, k3, k4, k5, ?_, k7⟩
     cases row with
     | ints k xs => exact k6
     | pvs β e xs => exact k6
     | cells e cs => cases k6
     | own e xs hs => cases k6
end Go.Ab
end
section
namespace Go.Ab
variable [GTab]
theorem zU {b : Nat} : ∀ {l r : List Nat}, countN b (l ++ r) = countN b l + countN b r
 | [], r => by simp [countN]
 | m :: l, r => by
  simp only [yv2, countN]
  cases Nat.beq m b with
  | true => simp only [yg]; rw [zU (l := l)]; omega
  | false => simp only [yh]; exact zU (l := l)
theorem zaH {b : Nat} : ∀ {l : List Nat}, b ∈ l → 1 ≤ countN b l
 | [], h => by cases h
 | m :: l, h => by
  simp only [countN]
  cases hb : Nat.beq m b with
  | true => simp only [yg]; omega
  | false =>
   simp only [yh]
   rcases yn1.1 h with rfl | h
   ·simp at hb
   ·exact zaH h
theorem zaT {b : Nat} : ∀ {mem : Mem} {j : Nat} {x : Box}, mem[j]? = some (some x) → countN b x.row.refs ≤ countN b (memRefs mem)
 | [], j, x, h => by simp at h
 | some y :: m, 0, x, h => by simp at h; subst h; simp only [memRefs, zU]; omega
 | none :: m, 0, x, h => by simp at h
 | some y :: m, j + 1, x, h => by have := zaT (b := b) (mem := m) (j := j) (by simpa using h); simp only [memRefs, zU]; omega
 | none :: m, j + 1, x, h => by have := zaT (b := b) (mem := m) (j := j) (by simpa using h); simpa only [memRefs] using this
theorem zeX {b : Nat} : ∀ {mem : Mem} {j j' : Nat} {x x' : Box}, mem[j]? = some (some x) → mem[j']? = some (some x') → j ≠ j' → countN b x.row.refs + countN b x'.row.refs ≤ countN b (memRefs mem)
 | [], j, j', x, x', h, _, _ => by simp at h
 | some y :: m, 0, 0, x, x', h, h', hn => absurd rfl hn
 | none :: m, 0, j', x, x', h, h', hn => by simp at h
 | none :: m, j + 1, 0, x, x', h, h', hn => by simp at h'
 | some y :: m, 0, j' + 1, x, x', h, h', hn => by
  simp at h; subst h
  have := zaT (b := b) (mem := m) (j := j') (by simpa using h'); simp only [memRefs, zU]; omega
 | some y :: m, j + 1, 0, x, x', h, h', hn => by
  simp at h'; subst h'
  have := zaT (b := b) (mem := m) (j := j) (by simpa using h); simp only [memRefs, zU]; omega
 | some y :: m, j + 1, j' + 1, x, x', h, h', hn => by
  have := zeX (b := b) (mem := m) (j := j) (j' := j') (by simpa using h) (by simpa using h') (by omega); simp only [memRefs, zU]; omega
 | none :: m, j + 1, j' + 1, x, x', h, h', hn => by
  have := zeX (b := b) (mem := m) (j := j) (j' := j') (by simpa using h) (by simpa using h') (by omega); simpa only [memRefs] using this
theorem zgD {b : Nat} : ∀ {hs : List (Nat × Nat × AV)} {k : Nat} {h : Nat × Nat × AV}, hs[k]? = some h → countN b (holeRefs hs) = countN b h.2.2.refs + countN b (holeRefs (dropAt hs k))
 | [], k, h, hk => by simp at hk
 | (i, c, v) :: r, 0, h, hk => by simp at hk; subst hk; simp only [holeRefs, dropAt, zU]
 | (i, c, v) :: r, k + 1, h, hk => by
  have := zgD (b := b) (hs := r) (k := k) (h := h) (by simpa using hk)
  simp only [holeRefs, dropAt, zU]; omega
theorem zij {α : Type} : ∀ {l : List α} {k : Nat}, ∀ x ∈ dropAt l k, x ∈ l
 | [], k, x, h => by simp [dropAt] at h
 | a :: r, 0, x, h => yi _ h
 | a :: r, k + 1, x, h => by
  simp only [dropAt] at h
  rcases yn1.1 h with rfl | h
  ·exact yn ..
  ·exact yi _ (zij x h)
theorem zfq {c i : Nat} {v : AV} : ∀ {hs : List (Nat × Nat × AV)} {k : Nat}, hs[k]? = some (i, c, v) → findC c (dropAt hs k) = none →
  holeFor i c hs = some v ∧ (∀ i', i' ≠ i → holeFor i' c hs = none) ∧ ∀ i' c', c' ≠ c → holeFor i' c' (dropAt hs k) = holeFor i' c' hs
 | [], k, hk, _ => by simp at hk
 | (i2, c2, v2) :: r, 0, hk, hf => by
  simp at hk; obtain ⟨rfl, rfl, rfl⟩ := hk
  simp only [dropAt] at hf
  refine ⟨by simp [holeFor], fun i' hi => ?_, fun i' c' hc => ?_⟩
  ·simp only [holeFor]; rw [if_neg (fun h => hi h.1.symm)]; exact zK hf
  ·simp only [dropAt, holeFor]; rw [if_neg (fun h => hc h.2.symm)]
 | (i2, c2, v2) :: r, k + 1, hk, hf => by
  simp only [dropAt, findC] at hf
  cases hb : Nat.beq c c2 with
  | true => rw [hb] at hf; cases hf
  | false =>
   rw [hb] at hf; simp only [yh] at hf
   have hne : c2 ≠ c := by rintro rfl; simp at hb
   obtain ⟨h1, h2, h3⟩ := zfq (hs := r) (k := k) (by simpa using hk) hf
   refine ⟨?_, fun i' hi => ?_, fun i' c' hc => ?_⟩
   ·simp only [holeFor]; rw [if_neg (fun h => hne h.2)]; exact h1
   ·simp only [holeFor]; rw [if_neg (fun h => hne h.2)]; exact h2 i' hi
   ·simp only [dropAt, holeFor]
    split
    ·rfl
    ·exact h3 i' c' hc
theorem OR.drop {G : Gh} {w : World} {b0 : Nat} {y : PV} {v : Value} (h : OR G w y v) : OR (G.drop b0) w y v := by
 rcases h with ho | ⟨row, hrow, ho⟩
 ·exact .inl ho
 ·refine .inr ⟨row, hrow, ?_⟩
  rcases ho with ho | ⟨B', cap, rfl, k1, k2, k3, k4, k5, k6, k7⟩
  ·exact .inl ho
  ·refine .inr ⟨B', cap, rfl, k1, k2, k3, k4, k5, ?_, k7⟩
   cases row with
   | ints k xs => exact k6
   | pvs β e xs => exact k6
   | cells e cs => cases k6
   | own e xs hs => cases k6
theorem zky {G : Gh} {w : World} {mem : Mem} {v : AV} {q : Nat × PV} {u : Value} (hM : MemR G w mem) (h : holePV mem v = some q) (hv : VR G w v u) :
  q.2.cells = [q.2] ∧ q.1 ∈ v.refs ∧ OR G w q.2 u ∧ ∃ x, mem[q.1]? = some (some x) ∧ ∀ B' n cap, u = .slice (some ⟨B', 0, none⟩) n cap → Blk G q.1 x B' := by
 have whole : ∀ {b g : Nat} {x : Box} {z : PV} {row : Row}, mem[b]? = some (some x) → x.gen = g → x.frz = false → x.row = row → leafRow z = some row → RowP G w 0 row = RowP G w 0 row → (∀ B, RowR G w B row → RowP G w B row) → VR G w (.msw b g) u →
   OR G w z u ∧ ∀ B' n cap, u = .slice (some ⟨B', 0, none⟩) n cap → Blk G b x B' := by
  intro b g x z row hm hg hf hrow hz _ hP hv
  subst hg
  cases hv with
  | msw _ _ cap L B hl hb hn hff =>
   have hB : Blk G b x B := ⟨L, hl, hb⟩
   obtain ⟨hl', h1, h2, h3, h4, h5⟩ := hM.blk hm hB
   rw [hl] at hl'
   obtain rfl := ya hl'
   rw [hrow] at h4 hn hff ⊢
   refine ⟨.inr ⟨row, hz, .inr ⟨B, cap, rfl, hn, hff, h1, h2, h3, hP B h4, h5 hf⟩⟩, fun B' n cap' h => ?_⟩
   simp only [Value.slice.injEq, Option.some.injEq, Addr.mk.injEq, and_true] at h
   obtain ⟨rfl, _⟩ := h; exact hB
  | mswNil _ _ L hl hb hn =>
   obtain ⟨oo, hl', hmm⟩ := (hM.box b x hm).loc
   rw [hl] at hl'
   obtain rfl := ya hl'
   rw [hrow] at hn
   exact ⟨.inr ⟨row, hz, .inl ⟨rfl, hn⟩⟩, fun B' n cap' h => by cases h⟩
 have part : ∀ {b g n : Nat} {x : Box} {z : PV} {row row' : Row}, mem[b]? = some (some x) → x.gen = g → x.frz = false → x.row = row → row'.len = n → row'.e = row.e → leafRow z = some row' → (∀ B, RowR G w B row → RowP G w B row') → VR G w (.ms b g 0 n) u →
   OR G w z u ∧ ∀ B' n cap, u = .slice (some ⟨B', 0, none⟩) n cap → Blk G b x B' := by
  intro b g n x z row row' hm hg hf hrow hlen he hz hP hv
  subst hg
  cases hv with
  | ms _ _ _ _ cap L B hl hb hn hon hff =>
   have hB : Blk G b x B := ⟨L, hl, hb⟩
   obtain ⟨hl', h1, h2, h3, h4, h5⟩ := hM.blk hm hB
   rw [hl] at hl'
   obtain rfl := ya hl'
   rw [hrow] at h4 hff ⊢
   simp only [yd3, yy] at hff ⊢
   refine ⟨.inr ⟨row', hz, .inr ⟨B, cap, by rw [hlen], by rw [hlen]; exact hn, by rw [he]; exact hff, h1, h2, h3, hP B h4, h5 hf⟩⟩, fun B' n cap' h => ?_⟩
   simp only [Value.slice.injEq, Option.some.injEq, Addr.mk.injEq, and_true] at h
   obtain ⟨rfl, _⟩ := h; exact hB
  | msNil _ _ L hl hb => exact ⟨.inr ⟨row', hz, .inl ⟨rfl, hlen⟩⟩, fun B' n cap' h => by cases h⟩
  | msZ _ _ _ B oo L hl hb ho hon => omega
 have hle : ∀ {e : Nat} {xs : List PV} {b : Nat} {x : Box}, mem[b]? = some (some x) → x.row = .pvs false e xs → ∀ ys, leafRow (.sl e ys) = some (.pvs false e ys) := by
  intro e xs b x hm hrow ys
  have := (hM.box b x hm).e
  rw [hrow] at this
  simp only [leafRow, guardB, bleN.2 (show 1 ≤ e from this), yg]
 unfold holePV at h
 split at h
 ·rename_i b g
  rw [bind_some] at h; obtain ⟨x, hx, h⟩ := h
  obtain ⟨hm, hg⟩ := box?_some hx
  cases hf : x.frz with
  | true => rw [hf] at h; cases h
  | false =>
   rw [hf] at h; simp only [yh] at h
   split at h
   ·rename_i k xs hrow
    obtain rfl := ya h
    obtain ⟨h1, h2⟩ := whole (z := .ints k xs) hm hg hf hrow rfl rfl (fun B h => h) hv
    exact ⟨rfl, by simp [AV.refs], h1, x, hm, h2⟩
   ·rename_i e xs hrow
    obtain rfl := ya h
    obtain ⟨h1, h2⟩ := whole (z := .sl e xs) hm hg hf hrow (hle hm hrow xs) rfl (fun B h => h) hv
    exact ⟨rfl, by simp [AV.refs], h1, x, hm, h2⟩
   ·cases h
 ·rename_i b g n
  rw [bind_some] at h; obtain ⟨x, hx, h⟩ := h
  obtain ⟨hm, hg⟩ := box?_some hx
  cases hf : x.frz with
  | true => rw [hf] at h; cases h
  | false =>
   rw [hf] at h; simp only [yh] at h
   split at h
   ·rename_i k xs hrow
    rw [za] at h; obtain ⟨hn, h⟩ := h
    have hn := bleN.1 hn
    obtain rfl := ya h
    obtain ⟨h1, h2⟩ := part (z := .ints k (xs.take n)) (row' := .ints k (xs.take n)) hm hg hf hrow (by simp [Row.len]; omega) rfl rfl (fun B h i x hi => by
     have hi2 := (ye.1 hi).1
     rw [yj1, if_pos (by simp at hi2; omega)] at hi
     exact h i x hi) hv
    exact ⟨rfl, by simp [AV.refs], h1, x, hm, h2⟩
   ·rename_i e xs hrow
    rw [za] at h; obtain ⟨hn, h⟩ := h
    have hn := bleN.1 hn
    obtain rfl := ya h
    obtain ⟨h1, h2⟩ := part (z := .sl e (xs.take n)) (row' := .pvs false e (xs.take n)) hm hg hf hrow (by simp [Row.len]; omega) rfl (hle hm hrow _) (fun B h => ⟨fun x hx => h.1 x (yy2 hx), fun i x c y hi hy => by
     have hi2 := (ye.1 hi).1
     rw [yj1, if_pos (by simp at hi2; omega)] at hi
     exact h.2 i x c y hi hy⟩) hv
    exact ⟨rfl, by simp [AV.refs], h1, x, hm, h2⟩
   ·cases h
 ·cases h
theorem znv {G : Gh} {w : World} {mem mem' : Mem} {b k : Nat} {vs : List AV} (hM : MemR G w mem) (h : giveBack mem b k = some mem')
  (hcnt : ∀ e xs hs gen frz hh b0, mem[b]? = some (some { gen, frz, row := .own e xs hs }) → hs[k]? = some hh → holeBox hh.2.2 = some b0 → countN b0 (AV.refsAll vs ++ memRefs mem) = 1) :
  ∃ b0, MemR (G.drop b0) w mem' ∧ b0 ∉ AV.refsAll vs ∧ b0 ≠ b ∧ (∀ b' : Nat, b' ≠ b0 → (∀ x : Box, mem[b']? = some (some x) → ∃ x' : Box, mem'[b']? = some (some x') ∧ x'.gen = x.gen ∧ x'.frz = x.frz ∧ x'.row.isCells = x.row.isCells) ∧ (mem[b']? = some none → mem'[b']? = some none)) ∧
   (∃ (hh : Nat × Nat × AV) (e : Nat) (xs : List PV) (hs : List (Nat × Nat × AV)) (gen : Nat) (frz : Bool), mem[b]? = some (some { gen, frz, row := .own e xs hs }) ∧ hs[k]? = some hh ∧ holeBox hh.2.2 = some b0) := by
 unfold giveBack at h
 split at h
 ·rename_i gen frz e xs hs hm
  rw [bind_some] at h; obtain ⟨hh, hk, h⟩ := h
  obtain ⟨i, c, v⟩ := hh
  simp only at h
  rw [bind_some] at h; obtain ⟨p, hp, h⟩ := h
  rw [bind_some] at h; obtain ⟨y, hy, h⟩ := h
  rw [bind_some] at h; obtain ⟨q, hq, h⟩ := h
  rw [za] at h; obtain ⟨hg, h⟩ := h
  obtain rfl := ya h
  simp only [yb, yt] at hg
  obtain ⟨⟨g1, g2⟩, g3⟩ := hg
  have g3 := Option.isNone_iff_eq_none.1 g3
  obtain ⟨b0, z⟩ := q
  simp only at g1 g2 ⊢
  have hbox : holeBox v = some b0 := by
   unfold holePV at hq
   split at hq
   ·rw [bind_some] at hq; obtain ⟨x, _, hq⟩ := hq
    cases hf : x.frz <;> rw [hf] at hq
    ·simp only [yh] at hq
     split at hq
     ·cases hq; rfl
     ·cases hq; rfl
     ·cases hq
    ·cases hq
   ·rw [bind_some] at hq; obtain ⟨x, _, hq⟩ := hq
    cases hf : x.frz <;> rw [hf] at hq
    ·simp only [yh] at hq
     split at hq
     ·rw [za] at hq; cases hq.2; rfl
     ·rw [za] at hq; cases hq.2; rfl
     ·cases hq
    ·cases hq
   ·cases hq
  have hcnt := hcnt e xs hs gen frz _ b0 hm hk hbox
  obtain ⟨o1, o2, o3⟩ := zfq hk g3
  have hne : b0 ≠ b := fun h => by rw [beqN.2 h] at g2; cases g2
  have hbl : b < mem.length := (ye.1 hm).1
  -- the hole
  have hbx := hM.box b _ hm
  have hrefs : b0 ∈ v.refs := by
   unfold holeBox at hbox
   split at hbox
   ·cases hbox; simp [AV.refs]
   ·cases hbox; simp [AV.refs]
   ·cases hbox
  have hc1 := zaH hrefs
  have hdrop := zgD (b := b0) hk
  simp only at hdrop
  rw [zU] at hcnt
  have hbm : countN b0 (holeRefs hs) ≤ countN b0 (memRefs mem) := zaT (b := b0) hm
  have hnv : b0 ∉ AV.refsAll vs := fun h => by have := zaH h; omega
  have hnd : b0 ∉ holeRefs (dropAt hs k) := fun h => by have := zaH h; omega
  have hno : ∀ {b' : Nat} {x : Box}, b' ≠ b → mem[b']? = some (some x) → b0 ∉ x.row.refs := by
   intro b' x hb hx h
   have := zaH h
   have h2 : countN b0 (holeRefs hs) + countN b0 x.row.refs ≤ countN b0 (memRefs mem) := zeX (b := b0) hm hx (fun h => hb h.symm)
   omega
  -- where the row stands: it has an element, hence a block
  obtain ⟨oo, hl, hmm⟩ := hbx.loc
  have hxl : i < xs.length := (ye.1 hp).1
  cases oo with
  | none => simp only [Row.len] at hmm; omega
  | some B =>
   obtain ⟨m1, m2, m3, hr, m5⟩ := hmm
   have hB : Blk G b { gen, frz, row := .own e xs hs } B := ⟨_, hl, rfl⟩
   obtain ⟨r1, r2, r3⟩ := hr
   obtain ⟨u, hu, hu1, hor⟩ := r3 i p c y hp hy
   rw [o1] at hor
   obtain ⟨z1, z2, z3, x0, hx0, hzB⟩ := zky hM hq hor
   simp only at z1 z2 z3 hx0 hzB
   have hcell : ∀ {i' : Nat} {x' : PV} {c' : Nat} {y' : PV}, (xs.set i (putPV p c z))[i']? = some x' → x'.cells[c']? = some y' → (i' = i ∧ c' = c ∧ y' = z) ∨ (¬ (i' = i ∧ c' = c) ∧ ∃ x1, xs[i']? = some x1 ∧ x1.cells[c']? = some y') := by
    intro i' x' c' y' h1 h2
    rcases zjW h1 with ⟨rfl, rfl⟩ | ⟨hn, h1⟩
    ·rw [zdH hy z1] at h2
     by_cases hcc : c' = c
     ·rw [if_pos hcc] at h2; exact .inl ⟨rfl, hcc, (ya h2).symm⟩
     ·rw [if_neg hcc] at h2; exact .inr ⟨fun h => hcc h.2, p, hp, h2⟩
    ·exact .inr ⟨fun h => hn h.1, x', h1, h2⟩
   have hget : ∀ {b' : Nat} {zz : Box}, ((mem.set b (some { gen, frz, row := .own e (xs.set i (putPV p c z)) (dropAt hs k) })).set b0 none)[b']? = some (some zz) →
     b' ≠ b0 ∧ ((b' = b ∧ zz = { gen, frz, row := .own e (xs.set i (putPV p c z)) (dropAt hs k) }) ∨ (b' ≠ b ∧ mem[b']? = some (some zz))) := by
    intro b' zz h
    by_cases e0 : b' = b0
    ·subst e0
     by_cases hl0 : b' < (mem.set b (some { gen, frz, row := .own e (xs.set i (putPV p c z)) (dropAt hs k) })).length
     ·rw [yw hl0] at h; cases h
     ·rw [ya1 (by simp at hl0 ⊢; omega)] at h; cases h
    ·rw [yq (fun x => e0 x.symm)] at h
     refine ⟨e0, ?_⟩
     by_cases e1 : b' = b
     ·subst e1; rw [yw hbl] at h; exact .inl ⟨rfl, by simpa using h.symm⟩
     ·rw [yq (fun x => e1 x.symm)] at h; exact .inr ⟨e1, h⟩
   have hblk : ∀ {b' : Nat} {zz : Box} {C : Nat}, b' ≠ b0 → Blk (G.drop b0) b' zz C → Blk G b' zz C := by
    rintro b' zz C hn ⟨L, l1, k1⟩
    rw [Gh.drop_loc hn] at l1; exact ⟨L, l1, k1⟩
   have hblkb : ∀ {C : Nat}, Blk (G.drop b0) b { gen, frz, row := .own e (xs.set i (putPV p c z)) (dropAt hs k) } C → C = B := by
    intro C h
    obtain ⟨L, l1, k1⟩ := hblk (fun h => hne h.symm) h
    simp only at l1
    rw [hl] at l1
    obtain rfl := ya l1
    exact (ya k1).symm
   -- inner blocks
   have hinn : ∀ {i' c' B' : Nat}, InnB w B (Row.own e (xs.set i (putPV p c z)) (dropAt hs k)) i' c' B' → (i' = i ∧ c' = c ∧ Blk G b0 x0 B') ∨ InnB w B (Row.own e xs hs) i' c' B' := by
    rintro i' c' B' ⟨⟨x', y', row, h1, h2, h3⟩, ho, n, cap, hcl⟩
    rcases hcell h1 h2 with ⟨rfl, rfl, rfl⟩ | ⟨hn, x1, h1, h2⟩
    ·rw [hu] at hcl
     exact .inl ⟨rfl, rfl, hzB B' n cap (ya hcl)⟩
    ·refine .inr ⟨⟨x1, y', row, h1, h2, h3⟩, ?_, n, cap, hcl⟩
     by_cases hcc : c' = c
     ·subst hcc; exact o2 i' (fun h => hn ⟨h, rfl⟩)
     ·rw [← o3 i' c' hcc]; exact ho
   have hin0 : ∀ {b' : Nat} {zz : Box} {C i' c' B' : Nat}, ((mem.set b (some { gen, frz, row := .own e (xs.set i (putPV p c z)) (dropAt hs k) })).set b0 none)[b']? = some (some zz) → Blk (G.drop b0) b' zz C → InnB w C zz.row i' c' B' →
     (b' = b ∧ i' = i ∧ c' = c ∧ Blk G b0 x0 B') ∨ (∃ z0, mem[b']? = some (some z0) ∧ Blk G b' z0 C ∧ InnB w C z0.row i' c' B') := by
    intro b' zz C i' c' B' h hC hi
    obtain ⟨hn, h⟩ := hget h
    rcases h with ⟨rfl, rfl⟩ | ⟨hn1, h⟩
    ·obtain rfl := hblkb hC
     rcases hinn hi with ⟨h1, h2, h3⟩ | hi
     ·exact .inl ⟨rfl, h1, h2, h3⟩
     ·exact .inr ⟨_, hm, hB, hi⟩
    ·exact .inr ⟨zz, h, hblk hn hC, hi⟩
   have hbk0 : ∀ {b' : Nat} {zz : Box} {C : Nat}, ((mem.set b (some { gen, frz, row := .own e (xs.set i (putPV p c z)) (dropAt hs k) })).set b0 none)[b']? = some (some zz) → Blk (G.drop b0) b' zz C → b' ≠ b0 ∧ ∃ z0, mem[b']? = some (some z0) ∧ Blk G b' z0 C := by
    intro b' zz C h hC
    obtain ⟨hn, h⟩ := hget h
    rcases h with ⟨rfl, rfl⟩ | ⟨hn1, h⟩
    ·obtain rfl := hblkb hC; exact ⟨hn, _, hm, hB⟩
    ·exact ⟨hn, zz, h, hblk hn hC⟩
   refine ⟨b0, ⟨fun b' zz h => ?_, fun b' g h => ?_, fun b' zz g h hlt => ?_, fun b1 b2 z1 z2 L1 L2 C h1 h2 l1 l2 k1 k2 => ?_, fun b1 b2 z1 z2 C i' c' B' h1 k1 hi h2 k2 => ?_, fun b1 b2 z1 z2 C D i' c' i2 c2 B' h1 k1 hi h2 k2 hi2 => ?_, hM.own, hM.lab, hM.away, hM.glob⟩, hnv, hne, fun b' hb' => ⟨fun x hx => ?_, fun hx => ?_⟩, ⟨_, _, _, _, _, _, hm, hk, hbox⟩⟩
   ·obtain ⟨hn, h⟩ := hget h
    rcases h with ⟨rfl, rfl⟩ | ⟨hn1, h⟩
    ·refine ⟨hbx.e, some B, by rw [Gh.drop_loc hn]; simpa [Row.e, Row.len] using hl, m1, m2, m3, ?_, m5⟩
     refine ⟨fun x hx => by rw [ym2]; exact r1 x (zij x hx), fun x hx => ?_, fun i' x' c' y' h1 h2 => ?_⟩
     ·rcases ye2 hx with h | h
      ·exact r2 x h
      ·rw [h, zjQ hy z1]; exact r2 p (yj hp)
     ·rcases hcell h1 h2 with ⟨rfl, rfl, rfl⟩ | ⟨hn', x1, h1, h2⟩
      ·refine ⟨u, hu, hu1, ?_⟩
       rw [zK g3]
       exact OR.drop z3
      ·obtain ⟨v', hv', hv1', ho'⟩ := r3 i' x1 c' y' h1 h2
       refine ⟨v', hv', hv1', ?_⟩
       by_cases hcc : c' = c
       ·subst hcc
        rw [zK g3]
        rw [o2 i' (fun h => hn' ⟨h, rfl⟩)] at ho'
        exact OR.drop ho'
       ·rw [o3 i' c' hcc]
        cases hq2 : holeFor i' c' hs with
        | some a =>
         rw [hq2] at ho'
         exact VR.drop ho' (fun hb => hnd (zcR (i := i') (c := c') (by rw [o3 i' c' hcc]; exact hq2) hb))
        | none => rw [hq2] at ho'; exact OR.drop ho'
    ·have hb := hM.box b' zz h
     obtain ⟨o', hlo, hmo⟩ := hb.loc
     refine ⟨hb.e, o', by rw [Gh.drop_loc hn]; exact hlo, ?_⟩
     cases o' with
     | none => exact hmo
     | some C => exact ⟨hmo.1, hmo.2.1, hmo.2.2.1, hmo.2.2.2.1.drop (hno hn1 h), hmo.2.2.2.2⟩
   ·by_cases e0 : b' = b0
    ·subst e0; simp [Gh.drop]
    ·rw [Gh.drop_loc e0]
     refine hM.unset b' g fun x hx => ?_
     by_cases e1 : b' = b
     ·subst e1
      exact h _ (by rw [yq (fun x => e0 x.symm), yw hbl])
     ·exact h x (by rw [yq (fun x => e0 x.symm), yq (fun x => e1 x.symm)]; exact hx)
   ·obtain ⟨hn, h⟩ := hget h
    rw [Gh.drop_loc hn]
    rcases h with ⟨rfl, rfl⟩ | ⟨hn1, h⟩
    ·exact hM.gens _ _ g hm hlt
    ·exact hM.gens _ _ g h hlt
   ·obtain ⟨n1, y1, a1, d1⟩ := hbk0 h1 ⟨L1, l1, k1⟩
    obtain ⟨n2, y2, a2, d2⟩ := hbk0 h2 ⟨L2, l2, k2⟩
    obtain ⟨M1, d1, e1⟩ := d1
    obtain ⟨M2, d2, e2⟩ := d2
    exact hM.apart _ _ y1 y2 M1 M2 C a1 a2 d1 d2 e1 e2
   ·obtain ⟨n2, y2, a2, d2⟩ := hbk0 h2 k2
    rcases hin0 h1 k1 hi with ⟨rfl, rfl, rfl, hb0⟩ | ⟨z0, a1, d1, hi⟩
    ·obtain ⟨M1, d1, e1⟩ := hb0
     obtain ⟨M2, d2, e2⟩ := d2
     exact n2 (hM.apart _ _ x0 y2 M1 M2 B' hx0 a2 d1 d2 e1 e2).symm
    ·exact hM.inA _ _ z0 y2 C i' c' B' a1 d1 hi a2 d2
   ·rcases hin0 h1 k1 hi with ⟨rfl, rfl, rfl, hb0⟩ | ⟨z0, a1, d1, hi⟩ <;> rcases hin0 h2 k2 hi2 with ⟨rfl, rfl, rfl, hb0'⟩ | ⟨z0', a2, d2, hi2⟩
    ·exact ⟨rfl, rfl, rfl⟩
    ·exact absurd hb0 (hM.inA _ _ z0' x0 D i2 c2 B' a2 d2 hi2 hx0)
    ·exact absurd hb0' (hM.inA _ _ z0 x0 C i' c' B' a1 d1 hi hx0)
    ·exact hM.inB _ _ z0 z0' C D i' c' i2 c2 B' a1 d1 hi a2 d2 hi2
   ·by_cases e1 : b' = b
    ·subst e1
     rw [hm] at hx; simp at hx; subst hx
     exact ⟨{ gen, frz, row := .own e (xs.set i (putPV p c z)) (dropAt hs k) }, by rw [yq (fun x => hb' x.symm), yw hbl], rfl, rfl, rfl⟩
    ·exact ⟨x, by rw [yq (fun x => hb' x.symm), yq (fun x => e1 x.symm)]; exact hx, rfl, rfl, rfl⟩
   ·have e1 : b' ≠ b := by rintro rfl; rw [hm] at hx; cases hx
    rw [yq (fun x => hb' x.symm), yq (fun x => e1 x.symm)]; exact hx
 ·cases h
theorem zdv {m : Nat} {refs : List Nat} {mem : Mem} {all : List (Nat × Nat × AV)} : ∀ {hs : List (Nat × Nat × AV)} {n k : Nat}, firstHole m refs mem all hs n = some k → ∃ j h, k = n + j ∧ hs[j]? = some h ∧ givable m refs mem h.2.2 = true
 | [], n, k, h => by cases h
 | (i, c, v) :: r, n, k, h => by
  simp only [firstHole] at h
  cases hg : (givable m refs mem v && (findC c (dropAt all n)).isNone) with
  | true =>
   rw [hg] at h; obtain rfl := ya h
   simp only [yb] at hg
   exact ⟨0, _, rfl, rfl, hg.1⟩
  | false =>
   rw [hg] at h; simp only [yh] at h
   obtain ⟨j, q, rfl, hj, hq⟩ := zdv h
   exact ⟨j + 1, q, by omega, by simpa using hj, hq⟩
theorem zes {m : Nat} {refs : List Nat} {mem : Mem} : ∀ {l : Mem} {n : Nat} {q : Nat × Nat}, findHole m refs mem l n = some q →
  ∃ j gen frz e xs hs h, q.1 = n + j ∧ l[j]? = some (some { gen, frz, row := .own e xs hs }) ∧ hs[q.2]? = some h ∧ givable m refs mem h.2.2 = true
 | [], n, q, h => by cases h
 | x :: r, n, q, h => by
  have next : findHole m refs mem r (n + 1) = some q → ∃ j gen frz e xs hs h, q.1 = n + j ∧ (x :: r)[j]? = some (some { gen, frz, row := .own e xs hs }) ∧ hs[q.2]? = some h ∧ givable m refs mem h.2.2 = true := by
   intro h
   obtain ⟨j, gen, frz, e, xs, hs, hh, h1, h2, h3, h4⟩ := zes h
   exact ⟨j + 1, gen, frz, e, xs, hs, hh, by omega, by simpa using h2, h3, h4⟩
  simp only [findHole] at h
  split at h
  ·rename_i gen frz e xs hs
   split at h
   ·rename_i k hk
    obtain rfl := ya h
    obtain ⟨j, hh, rfl, hj, hg⟩ := zdv hk
    exact ⟨0, gen, frz, e, xs, hs, hh, rfl, rfl, by simpa using hj, hg⟩
   ·exact next h
  ·exact next h
structure Given (G : Gh) (w : World) (mem : Mem) (m : Nat) (vs : List AV) (G' : Gh) (mem' : Mem) : Prop where
 memr : MemR G' w mem'
 mine : G'.mine = G.mine
 prot : G'.prot = G.prot
 loc : ∀ b g, b < m → G'.loc b g = G.loc b g
 vals : ∀ (j : Nat) (y : AV) (v : Value), vs[j]? = some y → VR G w y v → VR G' w y v
 old : ∀ b' : Nat, b' < m → (∀ x : Box, mem[b']? = some (some x) → ∃ x' : Box, mem'[b']? = some (some x') ∧ x'.gen = x.gen ∧ x'.frz = x.frz ∧ x'.row.isCells = x.row.isCells) ∧ (mem[b']? = some none → mem'[b']? = some none)
theorem zeG {w : World} {m : Nat} {vs : List AV} : ∀ {n : Nat} {G : Gh} {mem mem' : Mem}, MemR G w mem → settleH m vs n mem = some mem' → ∃ G', Given G w mem m vs G' mem'
 | 0, G, mem, mem', hM, h => by
  obtain rfl := ya h
  exact ⟨G, hM, rfl, rfl, fun _ _ _ => rfl, fun _ _ _ _ h => h, fun b' _ => ⟨fun x hx => ⟨x, hx, rfl, rfl, rfl⟩, fun h => h⟩⟩
 | n + 1, G, mem, mem', hM, h => by
  simp only [settleH] at h
  split at h
  ·obtain rfl := ya h
   exact ⟨G, hM, rfl, rfl, fun _ _ _ => rfl, fun _ _ _ _ h => h, fun b' _ => ⟨fun x hx => ⟨x, hx, rfl, rfl, rfl⟩, fun h => h⟩⟩
  ·rename_i q hq
   rw [bind_some] at h; obtain ⟨mem1, hg, h⟩ := h
   obtain ⟨j, gen, frz, e, xs, hs, hh, h1, h2, h3, h4⟩ := zes hq
   rw [yy] at h1
   subst h1
   -- the box that is given up
   have hgv : ∀ b0, holeBox hh.2.2 = some b0 → m ≤ b0 ∧ countN b0 (AV.refsAll vs ++ memRefs mem) = 1 := by
    intro b0 hb
    unfold givable at h4
    rw [hb] at h4
    simp only [yb] at h4
    exact ⟨bleN.1 h4.1.1, beqN.1 h4.1.2⟩
   obtain ⟨b0, hM1, n1, n2, n3, ⟨hh', e', xs', hs', gen', frz', k1, k2, k3⟩⟩ := znv (vs := vs) hM hg (fun e2 xs2 hs2 gen2 frz2 hh2 b0 a1 a2 a3 => by
    rw [h2] at a1
    simp only [Option.some.injEq, Box.mk.injEq, Row.own.injEq] at a1
    obtain ⟨_, _, _, _, rfl⟩ := a1
    rw [h3] at a2; obtain rfl := ya a2
    exact (hgv b0 a3).2)
   rw [h2] at k1
   simp only [Option.some.injEq, Box.mk.injEq, Row.own.injEq] at k1
   obtain ⟨_, _, _, _, rfl⟩ := k1
   rw [h3] at k2; obtain rfl := ya k2
   have hm0 := (hgv b0 k3).1
   obtain ⟨G', hG⟩ := zeG hM1 h
   refine ⟨G', hG.memr, hG.mine, hG.prot, fun b g hb => ?_, fun j y v hy hv => hG.vals j y v hy (hv.drop (fun hr => n1 (zah hy hr))), fun b' hb' => ?_⟩
   ·rw [hG.loc b g hb, Gh.drop_loc (by omega)]
   ·obtain ⟨p1, p2⟩ := n3 b' (by omega)
    obtain ⟨r1, r2⟩ := hG.old b' hb'
    refine ⟨fun x hx => ?_, fun hx => r2 (p2 hx)⟩
    obtain ⟨x1, a1, a2, a3, a4⟩ := p1 x hx
    obtain ⟨x2, c1, c2, c3, c4⟩ := r1 x1 a1
    exact ⟨x2, c1, by rw [c2, a2], by rw [c3, a3], by rw [c4, a4]⟩
theorem MemR.drop {G : Gh} {w : World} {mem : Mem} {b0 : Nat} (hM : MemR G w mem) (h0 : countN b0 (memRefs mem) = 0) : MemR (G.drop b0) w (mem.set b0 none) := by
 have hget : ∀ {b : Nat} {x : Box}, (mem.set b0 none)[b]? = some (some x) → b ≠ b0 ∧ mem[b]? = some (some x) := by
  intro b x h
  by_cases e : b = b0
  ·subst e
   by_cases hb : b < mem.length
   ·rw [yw hb] at h; cases h
   ·rw [ya1 (by rw [ym2]; omega)] at h; cases h
  ·rw [yq (fun x => e x.symm)] at h; exact ⟨e, h⟩
 have hblk : ∀ {b : Nat} {x : Box} {B : Nat}, b ≠ b0 → Blk (G.drop b0) b x B → Blk G b x B := by
  rintro b x B hb ⟨L, hl, hB⟩
  rw [Gh.drop_loc hb] at hl; exact ⟨L, hl, hB⟩
 have hrefs : ∀ {b : Nat} {x : Box}, mem[b]? = some (some x) → b0 ∉ x.row.refs := by
  intro b x hx hr
  have h1 := zaT (b := b0) hx
  have h2 := zaH hr
  omega
 refine ⟨fun b x h => ?_, fun b g h => ?_, fun b x g h hlt => ?_, fun b b' x x' L L' B h h' hl hl' hk hk' => ?_, fun b b' x x' B i c B' h k hi h' k' => ?_, fun b b' x x' B C i c i' c' B' h k hi h' k' hi' => ?_, hM.own, hM.lab, hM.away, hM.glob.mono (fun _ _ h => h) fun _ _ _ => rfl⟩
 ·obtain ⟨hb, hx⟩ := hget h
  have hbx := hM.box b x hx
  obtain ⟨o, hl, hm⟩ := hbx.loc
  refine ⟨hbx.e, o, by rw [Gh.drop_loc hb]; exact hl, ?_⟩
  cases o with
  | none => exact hm
  | some B =>
   obtain ⟨h1, h2, h3, h4, h5⟩ := hm
   exact ⟨h1, h2, h3, h4.drop (hrefs hx), h5⟩
 ·by_cases e : b = b0
  ·subst e; simp [Gh.drop]
  ·rw [Gh.drop_loc e]
   refine hM.unset b g fun x hx => h x ?_
   rw [yq (fun x => e x.symm)]; exact hx
 ·obtain ⟨hb, hx⟩ := hget h
  rw [Gh.drop_loc hb]; exact hM.gens b x g hx hlt
 ·obtain ⟨hb, hx⟩ := hget h
  obtain ⟨hb', hx'⟩ := hget h'
  rw [Gh.drop_loc hb] at hl
  rw [Gh.drop_loc hb'] at hl'
  exact hM.apart b b' x x' L L' B hx hx' hl hl' hk hk'
 ·obtain ⟨hb, hx⟩ := hget h
  obtain ⟨hb', hx'⟩ := hget h'
  exact hM.inA b b' x x' B i c B' hx (hblk hb k) hi hx' (hblk hb' k')
 ·obtain ⟨hb, hx⟩ := hget h
  obtain ⟨hb', hx'⟩ := hget h'
  exact hM.inB b b' x x' B C i c i' c' B' hx (hblk hb k) hi hx' (hblk hb' k') hi'
theorem Given.refl {G : Gh} {w : World} {mem : Mem} {m : Nat} {vs : List AV} (hM : MemR G w mem) : Given G w mem m vs G mem :=
 ⟨hM, rfl, rfl, fun _ _ _ => rfl, fun _ _ _ _ h => h, fun b' _ => ⟨fun x hx => ⟨x, hx, rfl, rfl, rfl⟩, fun h => h⟩⟩
theorem Given.trans {G G1 G2 : Gh} {w : World} {mem mem1 mem2 : Mem} {m : Nat} {vs : List AV} (h1 : Given G w mem m vs G1 mem1) (h2 : Given G1 w mem1 m vs G2 mem2) : Given G w mem m vs G2 mem2 := by
 refine ⟨h2.memr, h2.mine.trans h1.mine, h2.prot.trans h1.prot, fun b g hb => (h2.loc b g hb).trans (h1.loc b g hb), fun j y v hy hv => h2.vals j y v hy (h1.vals j y v hy hv), fun b' hb' => ?_⟩
 obtain ⟨p1, p2⟩ := h1.old b' hb'
 obtain ⟨r1, r2⟩ := h2.old b' hb'
 refine ⟨fun x hx => ?_, fun hx => r2 (p2 hx)⟩
 obtain ⟨x1, a1, a2, a3, a4⟩ := p1 x hx
 obtain ⟨x2, c1, c2, c3, c4⟩ := r1 x1 a1
 exact ⟨x2, c1, by rw [c2, a2], by rw [c3, a3], by rw [c4, a4]⟩
theorem zdi {w : World} {m : Nat} {vs : List AV} : ∀ {n : Nat} {G : Gh} {mem : Mem}, MemR G w mem → ∃ G', Given G w mem m vs G' (sweepH m vs n mem)
 | 0, G, mem, hM => ⟨G, .refl hM⟩
 | b + 1, G, mem, hM => by
  simp only [sweepH]
  cases hc : (Nat.ble m b && isBox mem b && Nat.beq (countN b (AV.refsAll vs ++ memRefs mem)) 0) with
  | false => exact zdi hM
  | true =>
   simp only [yg]
   simp only [yb] at hc
   have hmb := bleN.1 hc.1.1
   have h0 := beqN.1 hc.2
   rw [zU] at h0
   have hM1 := hM.drop (b0 := b) (by omega)
   have h1 : Given G w mem m vs (G.drop b) (mem.set b none) := by
    refine ⟨hM1, rfl, rfl, fun b' g hb' => Gh.drop_loc (by omega), fun j y v hy hv => hv.drop (fun hr => ?_), fun b' hb' => ?_⟩
    ·have := zaH (zah hy hr); omega
    ·have hne : b ≠ b' := by omega
     exact ⟨fun x hx => ⟨x, by rw [yq hne]; exact hx, rfl, rfl, rfl⟩, fun hx => by rw [yq hne]; exact hx⟩
   obtain ⟨G', h2⟩ := zdi (n := b) hM1
   exact ⟨G', h1.trans h2⟩
theorem zgZ {w : World} {m : Nat} {vs : List AV} {G : Gh} {mem mem' : Mem} (hM : MemR G w mem) (h : tidyH m vs mem = some mem') : ∃ G', Given G w mem m vs G' mem' := by
 obtain ⟨G1, h1⟩ := zdi (m := m) (vs := vs) (n := mem.length) hM
 obtain ⟨G2, h2⟩ := zeG h1.memr h
 exact ⟨G2, h1.trans h2⟩
end Go.Ab
end
section
namespace Go.Ab
variable [GTab]
theorem zgK : ∀ {n i : Nat} {ids : List Nat} {j : Nat}, startsN i n ids = true → j < n → ids[j]? = some (i + j)
 | 0, i, ids, j, _, h => by omega
 | n + 1, i, [], j, h, _ => by simp [startsN] at h
 | n + 1, i, b :: r, j, h, hj => by
  simp only [startsN, yb] at h
  cases j with
  | zero => simp [beqN.1 h.1]
  | succ j => rw [ye1, zgK h.2 (by omega)]; congr 1; omega
theorem zeb : ∀ {old : List (Option Bool)} {mem : Mem} {j : Nat}, oldOk old mem = true →
  (∀ k, old[j]? = some (some k) → ∃ x, mem[j]? = some (some x) ∧ x.row.isCells = k ∧ (k = true → x.gen = 0)) ∧ (old[j]? = some none → mem[j]? = some none)
 | [], mem, j, h => by simp
 | some k :: r, [], j, h => by simp [oldOk] at h
 | none :: r, [], j, h => by simp [oldOk] at h
 | some k :: r, none :: m, j, h => by simp [oldOk] at h
 | none :: r, some x :: m, j, h => by simp [oldOk] at h
 | none :: r, none :: m, 0, h => by simp
 | none :: r, none :: m, j + 1, h => by
  simp only [oldOk] at h
  simpa using zeb (j := j) h
 | some k :: r, some x :: m, 0, h => by
  simp only [oldOk, yb] at h
  refine ⟨fun k' hk => ?_, by simp⟩
  simp at hk; subst hk
  refine ⟨x, rfl, ?_, fun hk => ?_⟩
  ·cases k <;> simp_all
  ·subst hk; simp at h; exact h.1.2
 | some k :: r, some x :: m, j + 1, h => by
  simp only [oldOk, yb] at h
  simpa using zeb (j := j) h.2
theorem zeJ {j n : Nat} (h : n ≤ j) : Nat.blt j n = false := by
 cases hb : Nat.blt j n with
 | false => rfl
 | true => have := bleN.1 (show Nat.ble (j + 1) n = true from hb); omega
theorem zgC {keep : Bool} {G : Gh} {w : World} {mem : Mem} {old : List (Option Bool)} {vs : List AV} {r : List AV × Mem} (hM : MemR G w mem) (h : canon keep old vs mem = some r) :
  ∃ f G1 G2, r.1 = AV.renAll f vs ∧ G2.mine = G.mine ∧ G2.prot = G.prot ∧ G1.prot = G.prot ∧ MemR G2 w r.2 ∧ RenOk G1 G2 f ∧ (∀ (j : Nat) (y : AV) (v : Value), vs[j]? = some y → VR G w y v → VR G1 w y v) ∧
   (∀ (j : Nat) (k : Bool), old[j]? = some (some k) → ∃ y : Box, r.2[j]? = some (some y) ∧ y.row.isCells = k ∧ ∀ L, G.loc j 0 = some L → G2.loc j 0 = some L) ∧
   (∀ (j : Nat) (y : Box), old.length ≤ j ∨ y.row.isCells = true → r.2[j]? = some (some y) → y.gen = 0) ∧ (∀ j : Nat, old[j]? = some none → r.2[j]? = some none) := by
 unfold canon at h
 rw [bind_some] at h; obtain ⟨mem1, hset, h⟩ := h
 obtain ⟨G1, hG⟩ := zgZ hM hset
 have hM1 := hG.memr
 generalize reach mem1 (reachFuel mem1 (old.length + (AV.refsAll vs).length)) (rangeN 0 old.length ++ AV.refsAll vs) [] = ids at h
 simp only at h
 rw [za] at h; obtain ⟨hg, h⟩ := h
 simp only [yb] at hg
 obtain ⟨⟨g1, g2⟩, g3⟩ := hg
 obtain rfl := ya h
 have hid : ∀ j, j < old.length → ids[j]? = some j := fun j hj => by rw [zgK g3 hj, yy]
 refine ⟨renTo old.length keep mem1 ids, G1, ⟨locIn old.length keep G1 mem1 ids, G1.prot, G1.mine⟩, rfl, hG.mine, hG.prot, hG.prot, ?_, ziC rfl, hG.vals, fun j k hj => ?_, fun j y hjy hy => ?_, fun j hj => ?_⟩
 ·refine ziq hM1 g2 rfl (fun _ _ _ h => h) (fun b x B _ hx hf hB => (hM1.blk hx hB).2.2.2.2.2 hf) (fun b x B _ hx hB => (hM1.blk hx hB).2.1) (fun b x B i c B' _ hx hB hi => ⟨(hM1.inn hx hB hi).1, (hM1.inn hx hB hi).2.2.2⟩) hM1.own hM1.lab hM1.away
 ·have hjl := (ye.1 hj).1
  obtain ⟨x, hx, hk, h0⟩ := (zeb (j := j) g1).1 k hj
  refine ⟨{ gen := newGen old.length keep x.row.isCells j x.gen, frz := x.frz, row := x.row.ren (renTo old.length keep mem1 ids) }, ?_, by simp only [zD]; exact hk, fun L hL => ?_⟩
  ·rw [zY, hid j hjl]; simp [hx]
  ·rw [← hG.loc j 0 hjl] at hL
   show locIn old.length keep G1 mem1 ids j 0 = some L
   simp only [locIn, hid j hjl, yc, zaZ.2 ⟨x, hx, rfl⟩, zbr hx]
   split
   ·rename_i hz
    have hgen : x.gen = 0 := by
     cases hc : x.row.isCells with
     | true => exact h0 (by rw [← hk]; exact hc)
     | false =>
      rw [hc] at hz
      simp only [newGen, show Nat.blt j old.length = true from bleN.2 hjl, Bool.not_false, yi3, yg] at hz
      cases hkk : (keep && Nat.beq x.gen 0) with
      | true => simp only [yb] at hkk; exact beqN.1 hkk.2
      | false => rw [hkk] at hz; cases hz
    rw [hgen]; exact hL
   ·rw [if_pos (by simp [hjl])]; exact hL
 ·obtain ⟨b, x, _, _, rfl⟩ := zJ hy
  simp only [zD] at hjy
  simp only [newGen]
  rcases hjy with h | h
  ·rw [zeJ h]; rfl
  ·rw [h]; simp
 ·have hx := (zeb (j := j) g1).2 hj
  rw [zY, hid j (ye.1 hj).1]; simp [hx]
def Gh.lend (G : Gh) (S : Nat → Nat → Prop) : Gh := { G with prot := fun β B o => G.prot β B o ∨ (β = true ∧ S B o) }
theorem Gle.lend (G : Gh) (S : Nat → Nat → Prop) (hS : ∀ B o, S B o → G.mine B) : Gle G (G.lend S) := ⟨rfl, fun _ _ _ h => .inl h, fun _ _ _ h => h, fun _ B o h => h.imp id (fun h => hS B o h.2)⟩
section
variable {P : Program}
theorem zoO {mem : Mem} {n : Nat} {l : LK} {v : AV} {r : Bool × PV × List Nat} (h : tree P mem n l v = some r) (hv : (∃ b g, v = .msw b g) ∨ (∃ b g o m, v = .ms b g o m)) : r.2.1.isSl = true := by
 have hI : ∀ {k : IntKind} {b : Nat} {w : View} {r : Bool × PV × List Nat}, tree.treeInts k b w = some r → r.2.1.isSl = true := by
  intro k b w r h
  unfold tree.treeInts at h
  split at h
  ·rw [za] at h; obtain ⟨_, h⟩ := h; obtain rfl := ya h; rfl
  ·rw [za] at h; obtain ⟨_, h⟩ := h; obtain ⟨xs, _, rfl⟩ := yd.1 h; rfl
  ·simp at h
 have hS : ∀ {f : LK → AV → Option (Bool × PV × List Nat)} {t : TypeId} {e b : Nat} {w : View} {r : Bool × PV × List Nat}, tree.treeSl P f t e b w = some r → r.2.1.isSl = true := by
  intro f t e b w r h
  unfold tree.treeSl at h
  split at h
  ·rw [za] at h; obtain ⟨_, h⟩ := h; obtain rfl := ya h; rfl
  ·rw [za] at h; obtain ⟨_, h⟩ := h
   rw [bind_some] at h; obtain ⟨_, _, h⟩ := h
   obtain ⟨xs, _, rfl⟩ := yd.1 h; rfl
  ·simp at h
 cases n with
 | zero => simp [tree] at h
 | succ n =>
  rcases hv with ⟨b, g, rfl⟩ | ⟨b, g, o, m, rfl⟩
  ·cases l <;> simp only [tree] at h <;> first
    | (simp at h; done)
    | (rw [bind_some] at h; obtain ⟨x, _, h⟩ := h; exact hI h)
    | (rw [bind_some] at h; obtain ⟨x, _, h⟩ := h; exact hS h)
  ·cases l <;> simp only [tree] at h <;> first
    | (simp at h; done)
    | (rw [bind_some] at h; obtain ⟨x, _, h⟩ := h; rw [bind_some] at h; obtain ⟨y, _, h⟩ := h; exact hI h)
    | (rw [bind_some] at h; obtain ⟨x, _, h⟩ := h; rw [bind_some] at h; obtain ⟨y, _, h⟩ := h; exact hS h)
theorem znF {mem : Mem} {l : LK} {v : AV} {r : Bool × PV × List Nat} (h : treeX P mem l v = some r) (hv : (∃ b g, v = .msw b g) ∨ (∃ b g o m, v = .ms b g o m)) : r.2.1.isSl = true := by
 unfold treeX at h
 split at h
 ·split at h
  ·rw [za] at h; obtain ⟨_, h⟩ := h; obtain rfl := ya h; rfl
  ·cases h
 ·exact zoO h hv
theorem zbG {G : Gh} {w : World} {mem : Mem} {S : List Nat} {l : LK} {v : AV} {r : AV × List Nat} {cv : Value} (hM : MemR G w mem) (h : lendLeaf P mem l v = some r) (hv : VR G w v cv) (hS : ∀ b ∈ r.2, b ∈ S) :
  VR (G.lend (InBoxes G w mem S)) w r.1 cv := by
 have key : ∀ {q : Bool × PV × List Nat}, treeX P mem l v = some q → r = (.imm true q.2.1, q.2.2) → ((∃ b g, v = .msw b g) ∨ (∃ b g o m, v = .ms b g o m)) → VR (G.lend (InBoxes G w mem S)) w r.1 cv := by
  intro q hq hr hm
  subst hr
  obtain ⟨hp, _, _⟩ := zgE hM hq hv
  refine .imm true _ _ (hp.mono (fun B o hb => ?_) (fun _ _ _ => rfl)) (znF hq hm)
  rcases hb with hb | hb
  ·left
   cases hq1 : q.1 with
   | true => rw [hq1] at hb; exact hb
   | false => rw [hq1] at hb; exact hM.lab _ _ hb
  ·exact .inr ⟨rfl, hb.mono hS⟩
 unfold lendLeaf at h
 split at h
 ·obtain ⟨q, hq, hr⟩ := yd.1 h
  exact key hq hr.symm (.inl ⟨_, _, rfl⟩)
 ·obtain ⟨q, hq, hr⟩ := yd.1 h
  exact key hq hr.symm (.inr ⟨_, _, _, _, rfl⟩)
 ·obtain rfl := ya h
  exact hv.mono (Gle.lend G _ hM.inBoxes) (Ev.refl G w)
theorem zdq {G : Gh} {w : World} {mem : Mem} {S : List Nat} (hM : MemR G w mem) : ∀ {ls : List LK} {vs : List AV} {r : List AV × List Nat} {us : List Value}, lendCells P mem ls vs = some r → LRs G w vs us → (∀ b ∈ r.2, b ∈ S) →
  LRs (G.lend (InBoxes G w mem S)) w r.1 us
 | [], [], r, us, h, hv, _ => by
  simp [lendCells] at h; subst h
  exact ⟨hv.1, fun j y hy => by simp at hy⟩
 | [], v :: vs, r, us, h, _, _ => by simp [lendCells] at h
 | l :: ls, [], r, us, h, _, _ => by simp [lendCells] at h
 | l :: ls, v :: vs, r, [], h, hv, _ => by simp [LRs] at hv
 | l :: ls, v :: vs, r, u :: us, h, hv, hS => by
  simp only [lendCells] at h
  rw [bind_some] at h; obtain ⟨a, ha, h⟩ := h
  rw [bind_some] at h; obtain ⟨b, hb, h⟩ := h
  obtain rfl := ya h
  have h1 := zbG hM ha (hv.2 0 v rfl) (fun b hb => hS b (yq1 _ hb))
  have h2 := zdq hM hb (us := us) ⟨by simpa using hv.1, fun j y hy => by simpa using hv.2 (j + 1) y (by simpa using hy)⟩ (fun b hb => hS b (yr1 _ hb))
  refine ⟨by simp [h2.1], fun j y hy => ?_⟩
  cases j with
  | zero => simp at hy; subst hy; exact h1
  | succ j => simpa using h2.2 j y (by simpa using hy)
theorem znE {G : Gh} {w : World} {mem : Mem} {S : List Nat} {t : TypeId} {v : AV} {r : AV × List Nat} {cv : Value} (hM : MemR G w mem) (h : lend P mem t v = some r) (hv : VR G w v cv) (hS : ∀ b ∈ r.2, b ∈ S) :
  VR (G.lend (InBoxes G w mem S)) w r.1 cv := by
 have hmono := fun {a : AV} {u : Value} (h : VR G w a u) => h.mono (Gle.lend G _ (hM.inBoxes (ids := S))) (Ev.refl G w)
 unfold lend at h
 split at h
 ·rw [bind_some] at h; obtain ⟨l, hl, h⟩ := h
  exact zbG hM h hv hS
 ·rw [bind_some] at h; obtain ⟨l, hl, h⟩ := h
  exact zbG hM h hv hS
 ·rename_i cs
  cases hms : hasMs cs with
  | true =>
   rw [hms] at h; simp only [yg] at h
   rw [bind_some] at h; obtain ⟨ls, hls, h⟩ := h
   obtain ⟨q, hq, rfl⟩ := yd.1 h
   obtain ⟨cvs, rfl, hc⟩ := hv.agg_inv
   have := zdq (us := cvs.toList) hM hq ⟨by simpa using hc.1, fun j y hy => by rw [zS]; exact hc.2 j y hy⟩ hS
   exact .agg _ cvs (by simpa using this.1) (fun j y hy => by rw [← zS]; exact this.2 j y hy)
  | false =>
   rw [hms] at h; simp only [yh] at h
   obtain rfl := ya h
   exact hmono hv
 ·obtain rfl := ya h
  exact hmono hv
theorem zew {G : Gh} {w : World} {mem : Mem} {S : List Nat} (hM : MemR G w mem) : ∀ {ts : List TypeId} {vs : List AV} {r : List AV × List Nat} {us : List Value}, lendAll P mem ts vs = some r → LRs G w vs us → (∀ b ∈ r.2, b ∈ S) →
  LRs (G.lend (InBoxes G w mem S)) w r.1 us
 | [], [], r, us, h, hv, _ => by
  simp [lendAll] at h; subst h
  exact ⟨hv.1, fun j y hy => by simp at hy⟩
 | [], v :: vs, r, us, h, _, _ => by simp [lendAll] at h
 | l :: ls, [], r, us, h, _, _ => by simp [lendAll] at h
 | l :: ls, v :: vs, r, [], h, hv, _ => by simp [LRs] at hv
 | l :: ls, v :: vs, r, u :: us, h, hv, hS => by
  simp only [lendAll] at h
  rw [bind_some] at h; obtain ⟨a, ha, h⟩ := h
  rw [bind_some] at h; obtain ⟨b, hb, h⟩ := h
  obtain rfl := ya h
  have h1 := znE hM ha (hv.2 0 v rfl) (fun b hb => hS b (yq1 _ hb))
  have h2 := zew hM hb (us := us) ⟨by simpa using hv.1, fun j y hy => by simpa using hv.2 (j + 1) y (by simpa using hy)⟩ (fun b hb => hS b (yr1 _ hb))
  refine ⟨by simp [h2.1], fun j y hy => ?_⟩
  cases j with
  | zero => simp at hy; subst hy; exact h1
  | succ j => simpa using h2.2 j y (by simpa using hy)
theorem zls {G : Gh} {w : World} {mem : Mem} {S : List Nat} (hM : MemR G w mem) {keep : Bool} {ts : List TypeId} {vs : List AV} {r : List AV × List Nat} {us : List Value} (h : lends P keep mem ts vs = some r) (hv : LRs G w vs us) (hS : ∀ b ∈ r.2, b ∈ S) :
  LRs (G.lend (InBoxes G w mem S)) w r.1 us := by
 cases keep with
 | true =>
  obtain rfl := ya h
  exact ⟨hv.1, fun j y hy => (hv.2 j y hy).mono (Gle.lend G (InBoxes G w mem S) hM.inBoxes) (Ev.refl G w)⟩
 | false => exact zew hM h hv hS
structure Ret (G : Gh) (w : World) (mem : Mem) (r : AV × Mem) (G' : Gh) (w' : World) (cv : Value) : Prop where
 v : VR G' w' r.1 cv
 ev : Ev G w w'
 mine : G'.mine = G.mine
 prot : ∀ β B o, G.prot β B o → G'.prot β B o
 new : ∀ β B o, G'.prot β B o → G.prot β B o ∨ G.mine B
 memR : MemR G' w' r.2
 gens : ∀ (j : Nat) (y : Box), mem.length ≤ j ∨ y.row.isCells = true → r.2[j]? = some (some y) → y.gen = 0
 kept : ∀ (j : Nat) (x : Box), mem[j]? = some (some x) → ∃ y : Box, r.2[j]? = some (some y) ∧ y.row.isCells = x.row.isCells ∧ ∀ L, G.loc j 0 = some L → G'.loc j 0 = some L
 nones : ∀ j : Nat, mem[j]? = some none → r.2[j]? = some none
def OracleOK (P : Program) (C : Oracle) : Prop := ∀ g args mem r, C g args mem = some r → ∀ G w vargs, MemR G w mem → (∀ (j : Nat) (x : Box), mem[j]? = some (some x) → x.gen = 0) → VRs G w args vargs →
 (callFunc g vargs).run P w = .ok (.enter g vargs) w ∧ Calls P g vargs w fun e w' => ∃ G' cv, e = .returned cv ∧ Ret G w mem r G' w' cv
def NewBlk (G : Gh) (mem : Mem) (m : Nat) (B _o : Nat) : Prop := ∃ (b : Nat) (x : Box) (L : Loc), m ≤ b ∧ mem[b]? = some (some x) ∧ G.loc b x.gen = some L ∧ L.blk = some B
theorem zcC {G : Gh} {w : World} {mem : Mem} {m : Nat} {v : AV} {cv : Value} (hM : MemR G w mem) (hv : VR G w v cv) : VR (G.frz (NewBlk G mem m)) w (v.frz m mem) cv := by
 have hg : Gle G (G.frz (NewBlk G mem m)) := Gle.frz G _ (by rintro B o ⟨b, x, L, _, hx, hl, hB⟩; exact hM.mine hx hl hB)
 have hmono := fun {a : AV} {u : Value} (h : VR G w a u) => h.mono hg (Ev.refl G w)
 unfold AV.frz
 split
 ·rename_i b g
  cases hle : Nat.ble m b with
  | false => simp only [yh]; exact hmono hv
  | true =>
   simp only [yg]
   split
   ·rename_i x hx
    obtain ⟨hm, rfl⟩ := box?_some hx
    have hbx := hM.box b x hm
    split
    ·rename_i k xs hrow
     cases hv with
     | msw _ _ cap L B hl hb hn hf =>
      obtain ⟨o, hl', hmm⟩ := hbx.loc
      have hLL := hl
      rw [hl'] at hLL
      obtain rfl := ya hLL
      simp only at hb; subst hb
      have hr := hmm.2.2.2.1
      rw [hrow] at hr hn ⊢
      refine .imm false _ _ (.ints k xs B 0 cap hn fun i x' hx' => ?_) rfl
      rw [yy]
      exact ⟨hr i x' hx', .inr ⟨b, x, _, bleN.1 hle, hm, hl', rfl⟩⟩
     | mswNil _ _ L hl hb hn =>
      obtain ⟨o, hl', hmm⟩ := hbx.loc
      rw [hl] at hl'
      obtain rfl := ya hl'
      rw [hrow] at hn
      obtain rfl := yo hn
      exact .imm false _ _ (.intsNil k _) rfl
    ·rename_i β e xs hrow
     cases hv with
     | msw _ _ cap L B hl hb hn hf =>
      obtain ⟨o, hl', hmm⟩ := hbx.loc
      have hLL := hl
      rw [hl'] at hLL
      obtain rfl := ya hLL
      simp only at hb; subst hb
      have hr := hmm.2.2.2.1
      have he := hbx.e
      rw [hrow] at hr hn he ⊢
      obtain ⟨hlen, hcell⟩ := hr
      have key : ∀ (i : Nat) (x : PV) (c : Nat) (y : PV), xs[i]? = some x → x.cells[c]? = some y → cl w B (i * e + c) = some ((cl w B (i * e + c)).getD undef) ∧ ((cl w B (i * e + c)).getD undef).oneCell' = true ∧ PR w (G.prot β) y ((cl w B (i * e + c)).getD undef) := by
       intro i x c y h1 h2
       obtain ⟨v, hv, hv1, hv2⟩ := hcell i x c y h1 h2
       rw [hv]; exact ⟨rfl, hv1, hv2⟩
      refine .imm β _ _ (.sl e xs B 0 cap (fun i c => (cl w B (i * e + c)).getD undef) he hn hlen (fun i x' c y h1 h2 => ?_) (fun i x' c y h1 h2 => (key i x' c y h1 h2).2.1) (fun i x' c y h1 h2 => (key i x' c y h1 h2).2.2.mono (fun _ _ h => .inl h) (fun _ _ _ => rfl))) rfl
      rw [yy]
      exact ⟨(key i x' c y h1 h2).1, .inr ⟨b, x, _, bleN.1 hle, hm, hl', rfl⟩⟩
     | mswNil _ _ L hl hb hn =>
      obtain ⟨o, hl', hmm⟩ := hbx.loc
      rw [hl] at hl'
      obtain rfl := ya hl'
      rw [hrow] at hn
      obtain rfl := yo hn
      exact .imm β _ _ (.slNil e _) rfl
    ·exact hmono hv
    ·exact hmono hv
   ·exact hmono hv
 ·exact hmono hv
theorem zaI (m : Nat) (mem : Mem) : ∀ vs : List AV, AV.frzAll m mem vs = vs.map (·.frz m mem)
 | [] => rfl
 | v :: vs => by simp [AV.frzAll, zaI m mem vs]
theorem zkk {G : Gh} {w : World} {mem : Mem} {m : Nat} {v : AV} {cv : Value} (hM : MemR G w mem) (hv : VR G w v cv) : VR (G.frz (NewBlk G mem m)) w (frzRes m mem v) cv := by
 unfold frzRes
 split
 ·rename_i vs
  cases hv with
  | tup _ cvs hlen h =>
   refine .tup _ cvs (by rw [zaI]; simpa using hlen) (fun j y hy => ?_)
   rw [zaI, yc1] at hy
   obtain ⟨x, hx, rfl⟩ := yd.1 hy
   exact zcC hM (h j x hx)
 ·rename_i vs
  cases hv with
  | agg _ cvs hlen h =>
   refine .agg _ cvs (by rw [zaI]; simpa using hlen) (fun j y hy => ?_)
   rw [zaI, yc1] at hy
   obtain ⟨x, hx, rfl⟩ := yd.1 hy
   exact zcC hM (h j x hx)
 ·exact zcC hM hv
theorem zir {mem : Mem} {m : Nat} {v : AV} (h1 : memLent mem = false) (h2 : v.lent = false) : (v.frz m mem).lent = false := by
 unfold AV.frz
 split
 ·rename_i b g
  cases Nat.ble m b with
  | false => exact h2
  | true =>
   simp only [yg]
   split
   ·rename_i x hx
    obtain ⟨hm, _⟩ := box?_some hx
    split
    ·rfl
    ·rename_i β e xs hrow
     simp only [AV.lent]
     cases β with
     | false => rfl
     | true => have := zbY hm (by rw [hrow]; rfl); rw [h1] at this; cases this
    ·rfl
    ·rfl
   ·rfl
 ·exact h2
theorem zcm : ∀ {cs : List AV}, AV.lentAny cs = false ↔ ∀ y ∈ cs, y.lent = false
 | [] => by simp [AV.lentAny]
 | c :: cs => by simp [AV.lentAny, zcm (cs := cs)]
theorem zlz {mem : Mem} {m : Nat} {v : AV} (h1 : memLent mem = false) (h2 : v.lent = false) : (frzRes m mem v).lent = false := by
 unfold frzRes
 split
 ·rename_i vs
  simp only [AV.lent] at h2 ⊢
  rw [zcm] at h2 ⊢
  intro y hy
  rw [zaI] at hy
  obtain ⟨x, hx, rfl⟩ := yu2.1 hy
  exact zir h1 (h2 x hx)
 ·rename_i vs
  simp only [AV.lent] at h2 ⊢
  rw [zcm] at h2 ⊢
  intro y hy
  rw [zaI] at hy
  obtain ⟨x, hx, rfl⟩ := yu2.1 hy
  exact zir h1 (h2 x hx)
 ·exact zir h1 h2
end
end Go.Ab
end
section
namespace Go.Ab
variable [GTab]
def backBox (f : Ren) (mem : Mem) (a : Nat) (x : Box) : Box :=
 { gen := (match genOf mem a with | some h => h + x.gen | none => 0), frz := x.frz, row := x.row.ren f }
theorem zk : ∀ {wr : List (Nat × Box)} {mem : Mem}, (setMem mem wr).length = mem.length
 | [], mem => rfl
 | (b, x) :: r, mem => by rw [setMem, zk]; simp
theorem zbE {f : Ren} {mem : Mem} : ∀ {ids : List Nat} {q mem0 : Mem} {b : Nat}, (∀ (j : Nat) (y : Box), ids[j]? = some b → q[j]? = some (some y) → False) → (setMem mem0 (backBoxes f mem ids q))[b]? = mem0[b]?
 | [], q, mem0, b, h => by simp [backBoxes, setMem]
 | a :: ids, [], mem0, b, h => by simp [backBoxes, setMem]
 | a :: ids, none :: q, mem0, b, h => by
  simp only [backBoxes]
  exact zbE (fun j y h1 h2 => h (j + 1) y (by simpa using h1) (by simpa using h2))
 | a :: ids, some x :: q, mem0, b, h => by
  simp only [backBoxes, setMem]
  rw [zbE (ids := ids) (q := q) (fun j y h1 h2 => h (j + 1) y (by simpa using h1) (by simpa using h2))]
  rw [yq (fun e => h 0 x (by simp [e]) (by simp))]
theorem zdQ {f : Ren} {mem : Mem} : ∀ {ids : List Nat} {q mem0 : Mem} {b j : Nat} {y : Box}, nodupN ids = true → ids[j]? = some b → q[j]? = some (some y) → b < mem0.length →
  (setMem mem0 (backBoxes f mem ids q))[b]? = some (some (backBox f mem b y))
 | [], q, mem0, b, j, y, _, h, _, _ => by simp at h
 | a :: ids, [], mem0, b, j, y, _, _, h, _ => by simp at h
 | a :: ids, none :: q, mem0, b, 0, y, _, _, h, _ => by simp at h
 | a :: ids, none :: q, mem0, b, j + 1, y, hn, h1, h2, hb => by
  simp only [backBoxes]
  simp only [nodupN, yb] at hn
  exact zdQ hn.2 (by simpa using h1) (by simpa using h2) hb
 | a :: ids, some x :: q, mem0, b, 0, y, hn, h1, h2, hb => by
  simp only [backBoxes, setMem]
  simp at h1 h2; subst h1 h2
  simp only [nodupN, yb, yt] at hn
  rw [zbE (fun j y h1 _ => by rw [zcz.2 (yj h1)] at hn; simp at hn), yw hb]; rfl
 | a :: ids, some x :: q, mem0, b, j + 1, y, hn, h1, h2, hb => by
  simp only [backBoxes, setMem]
  simp only [nodupN, yb] at hn
  exact zdQ hn.2 (by simpa using h1) (by simpa using h2) (by simpa using hb)
theorem zbx {f : Ren} : ∀ {m : Mem} {i : Nat}, (newBoxes f m)[i]? = (m[i]?).map fun o => o.map fun x => { gen := 0, frz := x.frz, row := x.row.ren f }
 | [], i => by simp [newBoxes]
 | some x :: r, 0 => by simp [newBoxes]
 | none :: r, 0 => by simp [newBoxes]
 | some x :: r, i + 1 => by simp [newBoxes, zbx (m := r)]
 | none :: r, i + 1 => by simp [newBoxes, zbx (m := r)]
theorem zei {a b : List Nat} : disjN a b = true → ∀ x ∈ a, x ∉ b := by
 induction a with
 | nil => simp
 | cons m r ih =>
  intro h x hx hb
  simp only [disjN, yb, yt] at h
  rcases yn1.1 hx with rfl | hx
  ·rw [zcz.2 hb] at h; simp at h
  ·exact ih h.2 x hx hb
section
variable {P : Program}
def Come (G : Gh) (w : World) (mem : Mem) (ids : List Nat) (B : Nat) : Prop :=
 w.heap.size ≤ B ∨ ∃ (b : Nat) (x : Box) (C : Nat), b ∈ ids ∧ mem[b]? = some (some x) ∧ Blk G b x C ∧ (B = C ∨ ∃ i c, InnB w C x.row i c B)
def callG (G : Gh) (w : World) (mem : Mem) (ids lent : List Nat) : Gh := { loc := locIn 0 true G mem ids, prot := (G.lend (InBoxes G w mem lent)).prot, mine := Come G w mem ids }
theorem Come.mine {G : Gh} {w : World} {mem : Mem} {ids : List Nat} {B : Nat} (hM : MemR G w mem) (h : Come G w mem ids B) : G.mine B := by
 rcases h with h | ⟨b, x, C, _, hx, hC, rfl | ⟨i, c, hi⟩⟩
 ·exact hM.own B h
 ·exact (hM.blk hx hC).2.1
 ·exact (hM.inn hx hC hi).1
theorem MemR.blk_lt {G : Gh} {w : World} {mem : Mem} (hM : MemR G w mem) {b : Nat} {x : Box} {L : Loc} {B : Nat} (hx : mem[b]? = some (some x)) (hl : G.loc b x.gen = some L) (hB : L.blk = some B) : B < w.heap.size := (hM.blk hx ⟨L, hl, hB⟩).2.2.1
theorem MemR.lent_apart {G : Gh} {w : World} {mem : Mem} {ids lent : List Nat} (hM : MemR G w mem) (hd : disjN lent ids = true) {b : Nat} {x : Box} {C B : Nat} (hb : b ∈ ids) (hx : mem[b]? = some (some x)) (hC : Blk G b x C) (hB : B = C ∨ ∃ i c, InnB w C x.row i c B) (o : Nat) : ¬ InBoxes G w mem lent B o := by
 rintro ⟨b2, hb2, x2, C2, hx2, _, hC2, h2⟩
 have hne : b2 ≠ b := by rintro rfl; exact zei hd b2 hb2 hb
 have hO : Other G w mem b B := ⟨b2, x2, C2, hne, hx2, hC2, h2⟩
 rcases hB with rfl | ⟨i, c, hi⟩
 ·exact hM.other_ne hx hC hO rfl
 ·exact hM.other_inn hx hC hi hO
theorem zqc {G : Gh} {w : World} {mem : Mem} {ids lent : List Nat} (hM : MemR G w mem) (hn : nodupN ids = true) (hd : disjN lent ids = true) : MemR (callG G w mem ids lent) w (pickMem 0 true (renTo 0 true mem ids) mem 0 ids) := by
 refine ziq hM hn rfl (fun _ _ _ h => .inl h) (fun b x B hb hx hf hB β o hp => ?_) (fun b x B hb hx hB => .inr ⟨b, x, B, hb, hx, hB, .inl rfl⟩) (fun b x B i c B' hb hx hB hi => ⟨.inr ⟨b, x, B, hb, hx, hB, .inr ⟨i, c, hi⟩⟩, fun β o hp => ?_⟩) (fun B h => .inl h) (fun B o h => ?_) (fun β B o h => ?_)
 ·rcases hp with hp | ⟨_, hp⟩
  ·exact (hM.blk hx hB).2.2.2.2.2 hf β o hp
  ·exact hM.lent_apart hd hb hx hB (.inl rfl) o hp
 ·rcases hp with hp | ⟨_, hp⟩
  ·exact (hM.inn hx hB hi).2.2.2 β o hp
  ·exact hM.lent_apart hd hb hx hB (.inr ⟨i, c, hi⟩) o hp
 ·rcases h with h | ⟨h, _⟩
  ·exact .inl (hM.lab B o h)
  ·cases h
 ·rcases h with h | ⟨_, h⟩
  ·exact hM.away β B o h
  ·exact hM.inBoxes_lt B o h
def locOut (G G3 : Gh) (mem q : Mem) (ids : List Nat) (len : Nat) : Nat → Nat → Option Loc := fun a g =>
 if a < mem.length then
  match idx a ids 0 with
  | some j => match q[j]? with
   | some (some y) => if g = (backBox (fun _ _ => none) mem a y).gen then G3.loc j y.gen else G.loc a g
   | _ => G.loc a g
  | none => G.loc a g
 else if g = 0 ∧ ids.length + (a - mem.length) < len then G3.loc (ids.length + (a - mem.length)) 0 else none
theorem zcV : ∀ {ids : List Nat} {b n j : Nat}, nodupN ids = true → ids[j]? = some b → idx b ids n = some (n + j)
 | [], b, n, j, _, h => by simp at h
 | m :: r, b, n, 0, _, h => by simp at h; subst h; simp [idx]
 | m :: r, b, n, j + 1, hn, h => by
  have hne : m ≠ b := by
   rintro rfl
   have := zdg (i := 0) (j := j + 1) hn (by simp) h
   omega
  simp only [nodupN, yb] at hn
  simp only [idx]
  have hb : Nat.beq m b = false := by
   cases hb : Nat.beq m b with
   | false => rfl
   | true => exact absurd (beqN.1 hb) hne
  rw [hb]; simp only [yh]
  rw [zcV hn.2 (by simpa using h)]; congr 1; omega
theorem zlO {G G3 G4 : Gh} {w w' : World} {mem q sub : Mem} {ids lent : List Nat} {r : AV} {cv qv : Value} {qr : AV} (hM : MemR G w mem) (hn : nodupN ids = true) (hd : disjN lent ids = true)
  (hR : Ret (callG G w mem ids lent) w (pickMem 0 true (renTo 0 true mem ids) mem 0 ids) (qr, q) G3 w' qv) (hlent : emptyN lent = true ∨ (r.lent = false ∧ memLent q = false))
  (hv : VR G4 w' r cv) (h4m : G4.mine = G3.mine) (h4l : G4.loc = G3.loc) (h4p : ∀ β B o, G3.prot β B o → G4.prot β B o) (h4n : ∀ β B o, G4.prot β B o → G3.prot β B o ∨ NewBlk G3 q sub.length B o) (h4lab : ∀ B o, G4.prot false B o → G4.prot true B o)
  (hsub : ∀ j : Nat, j < sub.length → sub[j]? = q[j]?) (hsl : ids.length ≤ sub.length) (hql : sub.length ≤ q.length) :
  ∃ G' : Gh, VR G' w' (r.ren (renBack mem sub ids)) cv ∧ Gle G G' ∧ Ev G w w' ∧ MemR G' w' (setMem mem (backBoxes (renBack mem sub ids) mem ids q) ++ newBoxes (renBack mem sub ids) (sub.drop ids.length)) := by
 obtain ⟨hv3, hev, hmine3, hprot3, hnew3, hM3, hgens, hkept, hnones⟩ := hR
 simp only at hM3 hgens hkept hnones
 have hpl : (pickMem 0 true (renTo 0 true mem ids) mem 0 ids).length = ids.length := by
  have h1 : ∀ (l : List Nat) (n : Nat), (pickMem 0 true (renTo 0 true mem ids) mem n l).length = l.length := by
   intro l
   induction l with
   | nil => intro n; rfl
   | cons b l ih => intro n; simp only [pickMem, yh2, ih]
  exact h1 ids 0
 rw [hpl] at hgens
 -- a box of ids
 have hq : ∀ {j a : Nat} {y : Box}, ids[j]? = some a → q[j]? = some (some y) → ∃ x, mem[a]? = some (some x) ∧ y.row.isCells = x.row.isCells ∧ ∀ L, G.loc a x.gen = some L → G3.loc j 0 = some L := by
  intro j a y hj hy
  cases hx : mem[a]? with
  | none =>
   have := hnones j (by rw [zY, hj]; simp [hx])
   rw [hy] at this; cases this
  | some o =>
   cases o with
   | none =>
    have := hnones j (by rw [zY, hj]; simp [hx])
    rw [hy] at this; cases this
   | some x =>
    obtain ⟨y', hy', hk, hl⟩ := hkept j { gen := newGen 0 true x.row.isCells j x.gen, frz := x.frz, row := x.row.ren (renTo 0 true mem ids) } (by rw [zY, hj]; simp [hx])
    rw [hy] at hy'
    obtain rfl : y = y' := by simpa using hy'
    simp only [zD] at hk hl
    refine ⟨x, rfl, hk, fun L hL => hl L ?_⟩
    have h0 : newGen 0 true x.row.isCells j x.gen = 0 := by simp [newGen, zeJ]
    simp [callG, locIn, hj, zaZ.2 ⟨x, hx, rfl⟩, zbr hx, h0, hL]
 have hq2 : ∀ {j a : Nat} {x : Box}, ids[j]? = some a → mem[a]? = some (some x) → ∃ y, q[j]? = some (some y) := by
  intro j a x hj hx
  obtain ⟨y', hy', _⟩ := hkept j { gen := newGen 0 true x.row.isCells j x.gen, frz := x.frz, row := x.row.ren (renTo 0 true mem ids) } (by rw [zY, hj]; simp [hx])
  exact ⟨y', hy'⟩
 have hbgen : ∀ {a : Nat} {x y : Box} {f : Ren}, mem[a]? = some (some x) → (backBox f mem a y).gen = x.gen + y.gen := by
  intro a x y f hx
  simp [backBox, zaZ.2 ⟨x, hx, rfl⟩]
 have hcome : ∀ B, G3.mine B → Come G w mem ids B := fun B h => by rw [hmine3] at h; exact h
 have hEv : Ev G w w' := ⟨hev.size, hev.out, hev.os, fun B hB hm => hev.away B hB (fun h => hm (Come.mine hM h)), hev.some, fun β B o h => hev.prot β B o (.inl h), hev.fz, hev.tape⟩
 -- the protection
 let pr : Bool → Nat → Nat → Prop := fun β B o => if β = true then (if emptyN lent = true then G4.prot true B o else G.prot true B o ∨ G4.prot false B o) else G4.prot false B o
 have hnbc : ∀ {b : Nat} {x : Box} {L : Loc} {B : Nat}, q[b]? = some (some x) → G3.loc b x.gen = some L → L.blk = some B → Come G w mem ids B := fun hx hl hB => hcome _ (hM3.mine hx hl hB)
 have hnb4 : ∀ β B o, G4.prot β B o → G3.prot β B o ∨ Come G w mem ids B := fun β B o h => (h4n β B o h).imp id (by rintro ⟨b, x, L, _, hx, hl, hB⟩; exact hnbc hx hl hB)
 have hsem : ∀ B o, emptyN lent = true → ¬ InBoxes G w mem lent B o := by
  rintro B o he ⟨b, hb, _⟩
  rw [zbO he] at hb; cases hb
 have hprle : ∀ β B o, pr β B o → (∃ β', G.prot β' B o) ∨ Come G w mem ids B := by
  intro β B o h
  have h3 : ∀ β, (β = true → emptyN lent = true) → G4.prot β B o → (∃ β', G.prot β' B o) ∨ Come G w mem ids B := by
   intro β hβ h
   rcases hnb4 β B o h with h | h
   ·rcases hnew3 β B o h with h | h
    ·rcases h with h | ⟨h, h'⟩
     ·exact .inl ⟨_, h⟩
     ·exact absurd h' (hsem B o (hβ h))
    ·exact .inr h
   ·exact .inr h
  simp only [pr] at h
  split at h
  ·split at h
   ·rename_i he; exact h3 true (fun _ => he) h
   ·rcases h with h | h
    ·exact .inl ⟨_, h⟩
    ·exact h3 false (fun h => by cases h) h
  ·exact h3 false (fun h => by cases h) h
 have hG4 : ∀ β B o, G.prot β B o → G4.prot β B o := fun β B o h => h4p β B o (hprot3 β B o (.inl h))
 have hprG : ∀ β B o, G.prot β B o → pr β B o := by
  intro β B o h
  simp only [pr]
  cases β with
  | true => simp only [if_true]; split; exact hG4 _ _ _ h; exact .inl h
  | false => simp only [yk2, if_false]; exact hG4 _ _ _ h
 have hpr4 : ∀ β B o, pr β B o → ∃ β', G4.prot β' B o := by
  intro β B o h
  simp only [pr] at h
  split at h
  ·split at h
   ·exact ⟨_, h⟩
   ·rcases h with h | h
    ·exact ⟨_, hG4 _ _ _ h⟩
    ·exact ⟨_, h⟩
  ·exact ⟨_, h⟩
 have hprnew : ∀ β B o, pr β B o → G.prot β B o ∨ G.mine B := by
  intro β B o h
  have h3 : ∀ β, (β = true → emptyN lent = true) → G4.prot β B o → G.prot β B o ∨ G.mine B := by
   intro β hβ h
   rcases hnb4 β B o h with h | h
   ·rcases hnew3 β B o h with h | h
    ·rcases h with h | ⟨h, h'⟩
     ·exact .inl h
     ·exact absurd h' (hsem B o (hβ h))
    ·exact .inr (Come.mine hM h)
   ·exact .inr (Come.mine hM h)
  simp only [pr] at h
  split at h
  ·rename_i hβ; subst hβ
   split at h
   ·rename_i he; exact h3 true (fun _ => he) h
   ·rcases h with h | h
    ·exact .inl h
    ·rcases h3 false (fun h => by cases h) h with h | h
     ·exact .inl (hM.lab _ _ h)
     ·exact .inr h
  ·rename_i hβ
   have : β = false := by simpa using hβ
   subst this
   exact h3 false (fun h => by cases h) h
 let G' : Gh := { mine := G.mine, prot := pr, loc := locOut G G3 mem q ids sub.length }
 have hlen : (setMem mem (backBoxes (renBack mem sub ids) mem ids q)).length = mem.length := zk
 -- where boxes stand
 have lB : ∀ {j a : Nat} {y : Box} {f : Ren}, ids[j]? = some a → q[j]? = some (some y) → G'.loc a (backBox f mem a y).gen = G3.loc j y.gen := by
  intro j a y f hj hy
  obtain ⟨x, hx, _⟩ := hq hj hy
  have ha : a < mem.length := (ye.1 hx).1
  show locOut G G3 mem q ids sub.length a _ = _
  unfold locOut
  rw [if_pos ha, zcV hn hj]
  simp only [yy, hy]
  rw [if_pos (by rfl)]
 have lO : ∀ {a g : Nat}, a < mem.length → a ∉ ids → G'.loc a g = G.loc a g := by
  intro a g ha hni
  show locOut G G3 mem q ids sub.length a g = _
  unfold locOut
  rw [if_pos ha]
  cases hi : idx a ids 0 with
  | none => rfl
  | some j =>
   obtain ⟨i, rfl, hj⟩ := zfJ hi
   exact absurd (yj hj) hni
 have lN : ∀ {i : Nat}, ids.length + i < sub.length → G'.loc (mem.length + i) 0 = G3.loc (ids.length + i) 0 := by
  intro i hi
  show locOut G G3 mem q ids sub.length (mem.length + i) 0 = _
  unfold locOut
  rw [if_neg (by omega), yh3, if_pos ⟨rfl, hi⟩]
 have hGle : Gle G G' := by
  refine ⟨rfl, hprG, fun a g L hL => ?_, hprnew⟩
  by_cases ha : a < mem.length
  ·show locOut G G3 mem q ids sub.length a g = _
   unfold locOut
   rw [if_pos ha]
   cases hi : idx a ids 0 with
   | none => exact hL
   | some j =>
    obtain ⟨i, rfl, hj⟩ := zfJ hi
    simp only [yy]
    split
    ·rename_i y hy
     split
     ·rename_i hg
      obtain ⟨x, hx, hk, hc⟩ := hq hj hy
      rw [hbgen hx] at hg
      subst hg
      by_cases h0 : y.gen = 0
      ·rw [h0, ym1] at hL; rw [h0]; exact hc L hL
      ·rw [hM.gens a x _ hx (by omega)] at hL; cases hL
     ·exact hL
    ·exact hL
  ·rw [hM.unset a g (fun x hx => ha (ye.1 hx).1)] at hL; cases hL
 -- renaming back
 have hren : RenOk G4 G' (renBack mem sub ids) := by
  intro b g p L hp hL
  unfold renBack at hp
  rw [h4l] at hL
  split at hp
  ·rename_i a ha
   split at hp
   ·rename_i y h' hy hgen
    cases hge : Nat.beq y.gen g with
    | false => rw [hge] at hp; cases hp
    | true =>
     rw [hge] at hp; simp only [yg] at hp
     obtain rfl := ya hp
     obtain rfl := beqN.1 hge
     have hb : b < ids.length := (ye.1 ha).1
     rw [hsub b (by omega)] at hy
     have := lB (f := fun _ _ => none) ha hy
     simp only [backBox, hgen] at this
     simp only
     rw [this]; exact hL
   ·cases hp
  ·rename_i hno
   cases hlt : (Nat.beq g 0 && Nat.blt b sub.length) with
   | false => rw [hlt] at hp; simp at hp
   | true =>
    rw [hlt] at hp; simp only [yg] at hp
    obtain rfl := ya hp
    simp only [yb] at hlt
    obtain rfl := beqN.1 hlt.1
    have hb : b < sub.length := by have := hlt.2; simp [Nat.blt] at this; omega
    have hge := List.getElem?_eq_none_iff.1 hno
    have := lN (i := b - ids.length) (by omega)
    simp only
    rw [this, show ids.length + (b - ids.length) = b by omega]; exact hL
 have hp4 : ∀ {l : Bool}, l = emptyN lent → ∀ β B o, (β = true → l = true) → G4.prot β B o → G'.prot β B o := by
  intro l hl β B o hβ h
  show pr β B o
  simp only [pr]
  cases β with
  | true => simp only [if_true]; rw [if_pos (by rw [← hl]; exact hβ rfl)]; exact h
  | false => simp only [yk2, if_false]; exact h
 have hren3 : RenOk G3 G' (renBack mem sub ids) := fun b g p L hp hL => hren b g p L hp (by rw [h4l]; exact hL)
 have hrowlent : ∀ {j : Nat} {y : Box}, q[j]? = some (some y) → rowLent y.row = true → emptyN lent = true := by
  intro j y hy hl
  rcases hlent with h | ⟨_, h⟩
  ·exact h
  ·rw [zbY hy hl] at h; cases h
 have hin3 : ∀ {j : Nat} {y : Box} {C i c X : Nat}, q[j]? = some (some y) → Blk G3 j y C → InnB w' C y.row i c X → G.mine X ∧ ∀ β o, ¬ pr β X o := by
  intro j y C i c X hy hC hi
  obtain ⟨k1, _, _, k4⟩ := hM3.inn hy hC hi
  refine ⟨Come.mine hM (hcome X k1), fun β o hp => ?_⟩
  obtain ⟨β', hp'⟩ := hpr4 β X o hp
  rcases h4n β' X o hp' with hp' | ⟨b, x, L, hb, hx, hL, hB⟩
  ·exact k4 β' o hp'
  ·exact hM3.inA j b y x C i c X hy hC hi hx ⟨L, hL, hB⟩
 -- a box of the callee's, at its new number
 have hbox : ∀ {j a g : Nat} {y : Box}, j < sub.length → q[j]? = some (some y) → G'.loc a g = G3.loc j y.gen → BoxR G' w' a { gen := g, frz := y.frz, row := y.row.ren (renBack mem sub ids) } := by
  intro j a g y hjs hy hloc
  have hby := hM3.box j y hy
  obtain ⟨o, hl, hm⟩ := hby.loc
  refine ⟨by simp only [zbA]; exact hby.e, o, by simp only [zbA, zaM]; rw [hloc]; exact hl, ?_⟩
  cases o with
  | none => simp only [zaM, zD]; exact hm
  | some B =>
   obtain ⟨h1, h2, h3, h4, h5⟩ := hm
   have hmB : G.mine B := Come.mine hM (hcome B h1)
   refine ⟨hmB, h2, h3, h4.ren (l := emptyN lent) hren3 (fun β B o hβ h => hp4 rfl β B o hβ (h4p β B o h)) (hrowlent hy) (fun i c X hi => hin3 hy ⟨_, hl, rfl⟩ hi), fun hf β o hp => ?_⟩
   obtain ⟨β', hp'⟩ := hpr4 β B o hp
   rcases h4n β' B o hp' with hp' | ⟨b, x, L, hb, hx, hL, hB⟩
   ·exact h5 hf β' o hp'
   ·have := hM3.apart j b y x _ L B hy hx hl hL rfl hB
    omega
 -- entries
 have hent : ∀ (a : Nat) (z : Box), (setMem mem (backBoxes (renBack mem sub ids) mem ids q) ++ newBoxes (renBack mem sub ids) (sub.drop ids.length))[a]? = some (some z) →
   (a < mem.length ∧ a ∉ ids ∧ mem[a]? = some (some z)) ∨
   (∃ j y, j < sub.length ∧ q[j]? = some (some y) ∧ z = { gen := z.gen, frz := y.frz, row := y.row.ren (renBack mem sub ids) } ∧ G'.loc a z.gen = G3.loc j y.gen ∧ ((∃ x, ids[j]? = some a ∧ mem[a]? = some (some x) ∧ x.gen ≤ z.gen) ∨ (∃ i, j = ids.length + i ∧ a = mem.length + i ∧ z.gen = 0))) := by
  intro a z hz
  by_cases ha : a < mem.length
  ·rw [yp (by rw [hlen]; exact ha)] at hz
   by_cases hi : ∃ (j : Nat) (y : Box), ids[j]? = some a ∧ q[j]? = some (some y)
   ·obtain ⟨j, y, hj, hy⟩ := hi
    rw [zdQ hn hj hy ha] at hz
    obtain rfl : backBox (renBack mem sub ids) mem a y = z := by simpa using hz
    obtain ⟨x, hx, hk, _⟩ := hq hj hy
    have hjl := (ye.1 hj).1
    refine .inr ⟨j, y, by omega, hy, rfl, lB hj hy, .inl ⟨x, hj, hx, ?_⟩⟩
    rw [hbgen hx]; omega
   ·rw [zbE (fun j y h1 h2 => hi ⟨j, y, h1, h2⟩)] at hz
    refine .inl ⟨ha, fun hm => ?_, hz⟩
    obtain ⟨j, hj, rfl⟩ := ys1 hm
    obtain ⟨y, hy⟩ := hq2 (yf hj) hz
    exact hi ⟨j, y, yf hj, hy⟩
  ·rw [yu (by rw [hlen]; omega), hlen, zbx, yb1] at hz
   obtain ⟨o, ho, hz⟩ := yd.1 hz
   cases o with
   | none => simp at hz
   | some y =>
    simp only [yk, Option.some.injEq] at hz
    have hjl := (ye.1 ho).1
    rw [hsub _ hjl] at ho
    have hg0 := hgens _ y (.inl (by omega)) ho
    refine .inr ⟨_, y, hjl, ho, by rw [← hz], ?_, .inr ⟨a - mem.length, rfl, by omega, by rw [← hz]⟩⟩
    have := lN hjl
    rw [show mem.length + (a - mem.length) = a by omega] at this
    rw [← hz, hg0]; exact this
 have hblk3 : ∀ {a j : Nat} {z y : Box} {B : Nat}, G'.loc a z.gen = G3.loc j y.gen → Blk G' a z B → Blk G3 j y B := by
  rintro a j z y B hloc ⟨L, hl, hB⟩
  rw [hloc] at hl; exact ⟨L, hl, hB⟩
 have hblkO : ∀ {a : Nat} {z : Box} {B : Nat}, a < mem.length → a ∉ ids → Blk G' a z B → Blk G a z B := by
  rintro a z B ha hni ⟨L, hl, hB⟩
  rw [lO ha hni] at hl; exact ⟨L, hl, hB⟩
 have hc3 : ∀ {j : Nat} {y : Box} {C B : Nat}, q[j]? = some (some y) → Blk G3 j y C → (B = C ∨ ∃ i c, InnB w' C y.row i c B) → Come G w mem ids B := by
  rintro j y C B hy hC (rfl | ⟨i, c, hi⟩)
  ·exact hcome _ (hM3.blk hy hC).2.1
  ·exact hcome _ (hM3.inn hy hC hi).1
 have hother : ∀ {a : Nat} {z : Box} {C B : Nat}, a ∉ ids → mem[a]? = some (some z) → Blk G a z C → (B = C ∨ ∃ i c, InnB w C z.row i c B) → ¬ Come G w mem ids B := by
  intro a z C B ha hz hC hB hc
  rcases hc with hc | ⟨b, x, D, hb, hx, hD, hBD⟩
  ·rcases hB with rfl | ⟨i, c, hi⟩
   ·have := (hM.blk hz hC).2.2.1; omega
   ·have := (hM.inn hz hC hi).2.1; omega
  ·have hne : b ≠ a := by rintro rfl; exact ha hb
   have hO : Other G w mem a B := ⟨b, x, D, hne, hx, hD, hBD⟩
   rcases hB with rfl | ⟨i, c, hi⟩
   ·exact hM.other_ne hz hC hO rfl
   ·exact hM.other_inn hz hC hi hO
 have hsame : ∀ {a : Nat} {z : Box} {C B : Nat}, a ∉ ids → mem[a]? = some (some z) → Blk G a z C → (B = C ∨ ∃ i c, InnB w C z.row i c B) → w'.heap[B]? = w.heap[B]? := by
  intro a z C B ha hz hC hB
  have hlt : B < w.heap.size := by
   rcases hB with rfl | ⟨i, c, hi⟩
   ·exact (hM.blk hz hC).2.2.1
   ·exact (hM.inn hz hC hi).2.1
  exact hev.away B hlt (hother ha hz hC hB)
 have hinO : ∀ {a : Nat} {z : Box} {C i c X : Nat}, a ∉ ids → mem[a]? = some (some z) → Blk G a z C → InnB w' C z.row i c X → InnB w C z.row i c X := fun ha hz hC hi => hi.same fun o => zI (hsame ha hz hC (.inl rfl)) o
 refine ⟨G', hv.ren (l := emptyN lent) hren (hp4 rfl) (fun hl => ?_), hGle, hEv, ?_⟩
 ·rcases hlent with h | ⟨h, _⟩
  ·exact h
  ·rw [h] at hl; cases hl
 refine ⟨fun a z hz => ?_, fun a g hz => ?_, fun a z g hz hlt => ?_, fun a a' z z' L L' B hz hz' hl hl' hk hk' => ?_, fun a a' z z' B i c X hz hk hi hz' hk' => ?_, fun a a' z z' B C i c i' c' X hz hk hi hz' hk' hi' => ?_, fun B hB => hM.own B (yb2 hEv.size hB), fun B o h => ?_, fun β B o h => ?_, hM.glob.mono (hGle.prot true) (hEv.prot true)⟩
 ·rcases hent a z hz with ⟨ha, hni, hz⟩ | ⟨j, y, hjs, hy, hze, hloc, _⟩
  ·have hbz := hM.box a z hz
   obtain ⟨o, hl, hm⟩ := hbz.loc
   refine ⟨hbz.e, o, by rw [lO ha hni]; exact hl, ?_⟩
   cases o with
   | none => exact hm
   | some B =>
    obtain ⟨h1, h2, h3, h4, h5⟩ := hm
    have hB : Blk G a z B := ⟨_, hl, rfl⟩
    have hnc := hother hni hz hB (.inl rfl)
    have hh : w'.heap[B]? = w.heap[B]? := hsame hni hz hB (.inl rfl)
    refine ⟨h1, yx1 h2 hEv.size, h3.of_heap hh, h4.mono hGle hEv (fun o _ => zI hh o) (fun i c X hi => ⟨.of (hsame hni hz hB (.inr ⟨i, c, hi⟩)), fun β o hp => ?_⟩), fun hf β o hp => ?_⟩
    ·rcases hprle β X o hp with ⟨β', hp⟩ | hp
     ·exact (hM.inn hz hB hi).2.2.2 β' o hp
     ·exact hother hni hz hB (.inr ⟨i, c, hi⟩) hp
    ·rcases hprle β B o hp with ⟨β', hp⟩ | hp
     ·exact h5 hf β' o hp
     ·exact hnc hp
  ·rw [hze]; exact hbox hjs hy hloc
 ·by_cases ha : a < mem.length
  ·by_cases hni : a ∈ ids
   ·obtain ⟨j, hj, rfl⟩ := ys1 hni
    have hjj := yf hj
    cases hy : q[j]? with
    | none =>
     have := hql; have := (List.getElem?_eq_none_iff.1 hy); omega
    | some o =>
     cases o with
     | some y =>
      refine absurd ?_ (hz (backBox (renBack mem sub ids) mem ids[j] y))
      rw [yp (by rw [hlen]; exact ha)]
      exact zdQ hn hjj hy ha
     | none =>
      show locOut G G3 mem q ids sub.length _ g = none
      unfold locOut
      rw [if_pos ha, zcV hn hjj]
      simp only [yy, hy]
      refine hM.unset _ g (fun x hx => ?_)
      obtain ⟨y, hy'⟩ := hq2 hjj hx
      rw [hy] at hy'; cases hy'
   ·rw [lO ha hni]
    refine hM.unset a g (fun x hx => hz x ?_)
    rw [yp (by rw [hlen]; exact ha), zbE (fun j y h1 _ => hni (yj h1))]; exact hx
  ·show locOut G G3 mem q ids sub.length a g = none
   unfold locOut
   rw [if_neg ha]
   split
   ·rename_i hc
    refine hM3.unset _ 0 (fun x hx => ?_)
    refine hz { gen := 0, frz := x.frz, row := x.row.ren (renBack mem sub ids) } ?_
    rw [yu (by rw [hlen]; omega), hlen, zbx, yb1, hsub _ hc.2, hx]; rfl
   ·rfl
 ·rcases hent a z hz with ⟨ha, hni, hz⟩ | ⟨j, y, hjs, hy, hze, hloc, ⟨x, hj, hx, hge⟩ | ⟨i, rfl, rfl, h0⟩⟩
  ·rw [lO ha hni]; exact hM.gens a z g hz hlt
  ·have ha : a < mem.length := (ye.1 hx).1
   have hloc' := lB (f := fun _ _ => none) hj hy
   show locOut G G3 mem q ids sub.length a g = none
   unfold locOut
   rw [if_pos ha, zcV hn hj]
   simp only [yy, hy]
   have hzg : z.gen = (backBox (fun _ _ => none) mem a y).gen := by
    have hz2 := hz
    rw [yp (by rw [hlen]; exact ha), zdQ hn hj hy ha] at hz2
    obtain rfl : backBox (renBack mem sub ids) mem a y = z := by simpa using hz2
    rfl
   rw [if_neg (by omega)]
   exact hM.gens a x g hx (by omega)
  ·show locOut G G3 mem q ids sub.length _ g = none
   unfold locOut
   rw [if_neg (by omega), if_neg (by omega)]
 ·rcases hent a z hz with ⟨ha, hni, hz⟩ | ⟨j, y, hjs, hy, hze, hloc, hw⟩
  ·have hB := hblkO ha hni ⟨L, hl, hk⟩
   rw [lO ha hni] at hl
   rcases hent a' z' hz' with ⟨ha', hni', hz'⟩ | ⟨j', y', hjs', hy', hze', hloc', hw'⟩
   ·rw [lO ha' hni'] at hl'
    exact hM.apart a a' z z' L L' B hz hz' hl hl' hk hk'
   ·exact absurd (hc3 hy' (hblk3 hloc' ⟨L', hl', hk'⟩) (.inl rfl)) (hother hni hz hB (.inl rfl))
  ·have hB := hblk3 hloc ⟨L, hl, hk⟩
   rw [hloc] at hl
   rcases hent a' z' hz' with ⟨ha', hni', hz'⟩ | ⟨j', y', hjs', hy', hze', hloc', hw'⟩
   ·have hB' := hblkO ha' hni' ⟨L', hl', hk'⟩
    exact absurd (hc3 hy hB (.inl rfl)) (hother hni' hz' hB' (.inl rfl))
   ·rw [hloc'] at hl'
    have hjj := hM3.apart j j' y y' L L' B hy hy' hl hl' hk hk'
    subst hjj
    rcases hw with ⟨x, hj, _⟩ | ⟨i, hi, rfl, _⟩
    ·rcases hw' with ⟨x', hj', _⟩ | ⟨i', hi', rfl, _⟩
     ·rw [hj] at hj'; exact ya hj'
     ·have := (ye.1 hj).1; omega
    ·rcases hw' with ⟨x', hj', _⟩ | ⟨i', hi', rfl, _⟩
     ·have := (ye.1 hj').1; omega
     ·omega
 ·rcases hent a z hz with ⟨ha, hni, hz⟩ | ⟨j, y, hjs, hy, hze, hloc, hw⟩
  ·have hB := hblkO ha hni hk
   have hi := hinO hni hz hB hi
   rcases hent a' z' hz' with ⟨ha', hni', hz'⟩ | ⟨j', y', hjs', hy', hze', hloc', hw'⟩
   ·exact hM.inA a a' z z' B i c X hz hB hi hz' (hblkO ha' hni' hk')
   ·exact hother hni hz hB (.inr ⟨i, c, hi⟩) (hc3 hy' (hblk3 hloc' hk') (.inl rfl))
  ·have hB := hblk3 hloc hk
   rw [hze] at hi
   have hi := InnB.ren.1 hi
   rcases hent a' z' hz' with ⟨ha', hni', hz'⟩ | ⟨j', y', hjs', hy', hze', hloc', hw'⟩
   ·exact hother hni' hz' (hblkO ha' hni' hk') (.inl rfl) (hc3 hy hB (.inr ⟨i, c, hi⟩))
   ·exact hM3.inA j j' y y' B i c X hy hB hi hy' (hblk3 hloc' hk')
 ·rcases hent a z hz with ⟨ha, hni, hz⟩ | ⟨j, y, hjs, hy, hze, hloc, hw⟩
  ·have hB := hblkO ha hni hk
   have hi := hinO hni hz hB hi
   rcases hent a' z' hz' with ⟨ha', hni', hz'⟩ | ⟨j', y', hjs', hy', hze', hloc', hw'⟩
   ·have hB' := hblkO ha' hni' hk'
    exact hM.inB a a' z z' B C i c i' c' X hz hB hi hz' hB' (hinO hni' hz' hB' hi')
   ·rw [hze'] at hi'
    exact absurd (hc3 hy' (hblk3 hloc' hk') (.inr ⟨i', c', InnB.ren.1 hi'⟩)) (hother hni hz hB (.inr ⟨i, c, hi⟩))
  ·have hB := hblk3 hloc hk
   rw [hze] at hi
   have hi := InnB.ren.1 hi
   rcases hent a' z' hz' with ⟨ha', hni', hz'⟩ | ⟨j', y', hjs', hy', hze', hloc', hw'⟩
   ·have hB' := hblkO ha' hni' hk'
    exact absurd (hc3 hy hB (.inr ⟨i, c, hi⟩)) (hother hni' hz' hB' (.inr ⟨i', c', hinO hni' hz' hB' hi'⟩))
   ·rw [hze'] at hi'
    obtain ⟨hjj, h2⟩ := hM3.inB j j' y y' B C i c i' c' X hy hB hi hy' (hblk3 hloc' hk') (InnB.ren.1 hi')
    subst hjj
    refine ⟨?_, h2⟩
    rcases hw with ⟨x, hj, _⟩ | ⟨i, hi, rfl, _⟩
    ·rcases hw' with ⟨x', hj', _⟩ | ⟨i', hi', rfl, _⟩
     ·rw [hj] at hj'; exact ya hj'
     ·have := (ye.1 hj).1; omega
    ·rcases hw' with ⟨x', hj', _⟩ | ⟨i', hi', rfl, _⟩
     ·have := (ye.1 hj').1; omega
     ·omega
 ·show pr true B o
  have h' : pr false B o := h
  simp only [pr, yk2, if_false] at h'
  simp only [pr, if_true]
  split
  ·exact h4lab B o h'
  ·exact .inr h'
 ·obtain ⟨β', hp'⟩ := hpr4 β B o h
  rcases h4n β' B o hp' with hp' | ⟨b, x, L, hb, hx, hL, hB⟩
  ·exact hM3.away β' B o hp'
  ·exact hM3.blk_lt hx hL hB
end
end Go.Ab
end
section
namespace Go.Ab
variable [GTab]
section
variable {P : Program}
theorem VRs.append {G : Gh} {w : World} {a b : List AV} {u v : Array Value} (h : VRs G w a u) (h' : VRs G w b v) : VRs G w (a ++ b) (u ++ v) := by
 refine ⟨by simp [h.1, h'.1], fun j y hy => ?_⟩
 by_cases hj : j < a.length
 ·rw [yp hj] at hy
  have := h.2 j y hy
  rw [ym, yt2 (by rw [← h.1]; exact hj), ← ym]; exact this
 ·rw [yu (by omega)] at hy
  have := h'.2 _ y hy
  rw [ym, Array.getElem?_append_right (by rw [← h.1]; omega), ← h.1, ← ym]; exact this
theorem VRs.renAll {G G2 : Gh} {w : World} {f : Ren} {as : List AV} {vs : Array Value} (h : VRs G w as vs) (hr : RenOk G G2 f) (hp : ∀ β B o, G.prot β B o → G2.prot β B o) : VRs G2 w (AV.renAll f as) vs := by
 refine ⟨by rw [zac]; simpa using h.1, fun j y hy => ?_⟩
 obtain ⟨x, hx, rfl⟩ := zcO hy
 exact (h.2 j x hx).ren (l := true) hr (fun β B o _ => hp β B o) (fun _ => rfl)
theorem zlT {C : Oracle} (hC : OracleOK P C) {G : Gh} {w : World} {mem : Mem} (hM : MemR G w mem) {raw keep : Bool} {g : FuncId} {ts : List TypeId} {fi args ca : List AV} {out : Out} {fv av cv : Array Value}
  (h : callA P C raw keep g ts fi args ca mem = some out) (hf : VRs G w fi fv) (ha : VRs G w args av) (hc : VRs G w ca cv) : CallsW P G w mem g (fv ++ av ++ cv) out := by
 unfold callA at h
 rw [bind_some] at h; obtain ⟨la, hla, h⟩ := h
 simp only at h
 generalize hids : reach mem (reachFuel mem (AV.refsAll (fi ++ la.1 ++ ca)).length) (AV.refsAll (fi ++ la.1 ++ ca)) [] = ids at h
 rw [za] at h; obtain ⟨hg, h⟩ := h
 simp only [yb] at hg
 obtain ⟨hn, hd⟩ := hg
 rw [bind_some] at h; obtain ⟨q, hq, h⟩ := h
 rw [za] at h; obtain ⟨hg, h⟩ := h
 simp only [yb, yw1, yt, Bool.or_eq_false_iff] at hg
 obtain ⟨hml, hlent⟩ := hg
 have hml := bleN.1 hml
 have hgl := Gle.lend G (InBoxes G w mem la.2) hM.inBoxes
 have hla' := zls (us := av.toList) (S := la.2) hM hla ⟨by simpa using ha.1, fun j y hy => by rw [zS]; exact ha.2 j y hy⟩ (fun b h => h)
 have hall : VRs (G.lend (InBoxes G w mem la.2)) w (fi ++ la.1 ++ ca) (fv ++ av ++ cv) :=
  ((hf.mono hgl (Ev.refl G w)).append ⟨by simpa using hla'.1, fun j y hy => by rw [← zS]; exact hla'.2 j y hy⟩).append (hc.mono hgl (Ev.refl G w))
 have hM1 := zqc (lent := la.2) hM hn hd
 have hargs : VRs (callG G w mem ids la.2) w (AV.renAll (renTo 0 true mem ids) (fi ++ la.1 ++ ca)) (fv ++ av ++ cv) := hall.renAll (ziC (G := G.lend (InBoxes G w mem la.2)) rfl) (fun _ _ _ h => h)
 obtain ⟨hen, hcl⟩ := hC g _ _ q hq _ w _ hM1 (fun j x hx => by obtain ⟨b, y, _, _, rfl⟩ := zJ hx; simp [newGen, zeJ]) hargs
 refine ⟨hen, Calls.mono hcl fun e w' he => ?_⟩
 obtain ⟨G3, qv, rfl, hR⟩ := he
 obtain ⟨qr, qm⟩ := q
 simp only at h hlent hml hR
 have hR' := hR
 obtain ⟨hv3, hev, hmine3, hprot3, hnew3, hM3, hgens, hkept, hnones⟩ := hR'
 simp only at hv3 hM3
 have hl3 : ∀ B o, G3.prot false B o → G3.prot true B o := hM3.lab
 cases hcd : (allLt ids.length (bif raw then qr else frzRes ids.length qm qr).refs && allLt ids.length (memRefs (List.take ids.length qm))) with
 | true =>
  rw [hcd] at h; simp only [yg] at h
  obtain rfl := ya h
  have htl : (qm.take ids.length).length = ids.length := by simp; omega
  have key : ∃ r, r = (bif raw then qr else frzRes ids.length qm qr) ∧ VR (G3.frz (NewBlk G3 qm ids.length)) w' r qv ∧ (qr.lent = false ∧ memLent qm = false → r.lent = false) := by
   cases raw with
   | true => exact ⟨_, rfl, hv3.mono (Gle.frz G3 _ (by rintro B o ⟨b, x, L, _, hx, hl, hB⟩; exact hM3.mine hx hl hB)) (Ev.refl G3 w'), fun h => h.1⟩
   | false => exact ⟨_, rfl, zkk hM3 hv3, fun h => zlz h.2 h.1⟩
  obtain ⟨r, hr, hvr, hrl⟩ := key
  obtain ⟨G', hv', hgle, hEv, hM'⟩ := zlO (sub := qm.take ids.length) (lent := la.2) (r := r) (cv := qv) hM hn hd hR (hlent.imp id (fun h => ⟨hrl h, h.2⟩)) hvr rfl rfl (fun _ _ _ h => .inl h)
   (fun β B o h => by rw [htl]; exact h) (fun B o h => h.imp (hl3 B o) id) (fun j hj => by rw [htl] at hj; rw [yj1, if_pos hj]) (by omega) (by omega)
  refine ⟨G', qv, rfl, by rw [← hr]; exact hv', hgle, hEv, ?_⟩
  have hnil : (qm.take ids.length).drop ids.length = [] := List.drop_eq_nil_of_le (by omega)
  rw [hnil] at hM'
  exact hM'
 | false =>
  rw [hcd] at h; simp only [yh] at h
  obtain rfl := ya h
  obtain ⟨G', hv', hgle, hEv, hM'⟩ := zlO (sub := qm) (lent := la.2) (r := qr) (cv := qv) hM hn hd hR hlent hv3 rfl rfl (fun _ _ _ h => h)
   (fun β B o h => .inl h) hl3 (fun j hj => rfl) hml (yx _)
  exact ⟨G', qv, rfl, hv', hgle, hEv, hM'⟩
end
end Go.Ab
end
