/- The evaluator. -/
import Derived.Test.YtdlbbdbbpoggfaaLib2
set_option linter.unusedVariables false
set_option linter.unusedSectionVars false
set_option linter.unusedSimpArgs false
section
namespace Go.Ab
variable [b4]
theorem dK {i c : Nat} : ∀ {hs : List (Nat × Nat × AV)}, jR c hs = none → aE i c hs = none
 | [], _ => rfl
 | (M, J, v) :: r, h => by
  simp only [jR] at h
  cases H : Nat.beq c J with
  | true => rw [H] at h; cases h
  | false =>
   rw [H] at h; simp only [yk] at h
   have I : ¬ (M = i ∧ J = c) := fun K => by rw [bJ.2 K.2.symm] at H; cases H
   simp only [aE, if_neg I]
   exact dK h
theorem w6 {i c : Nat} {v : AV} : ∀ {hs : List (Nat × Nat × AV)}, jR c hs = some (i, v) → aE i c hs = some v
 | [], h => by cases h
 | (M, J, u) :: r, h => by
  simp only [jR] at h
  cases H : Nat.beq c J with
  | true =>
   rw [H] at h; simp only [yl, Option.some.injEq, Prod.mk.injEq] at h
   obtain ⟨rfl, rfl⟩ := h
   simp [aE, bJ.1 H]
  | false =>
   rw [H] at h; simp only [yk] at h
   have I : ¬ (M = i ∧ J = c) := fun K => by rw [bJ.2 K.2.symm] at H; cases H
   simp only [aE, if_neg I]
   exact w6 h
theorem Kt {y : PV} {row : Row} (h : cV y = some row) : 1 ≤ row.e ∧ row.isCells = false ∧ row.isOwn = false := by
 cases y with
 | ints k H => obtain rfl := ya h; exact ⟨yy _, rfl, rfl⟩
 | sl e H => simp only [cV] at h; rw [aA] at h; obtain ⟨I, h⟩ := h; obtain rfl := ya h; exact ⟨cU.1 I, rfl, rfl⟩
 | lit u => cases h
 | agg cs => cases h
theorem FO.row {G : Gh} {w : World} {B : Nat} {r : Row} (h : FO G w B r) : gI G w B r := by
 cases r with
 | ints k xs => exact h
 | pvs β e xs => exact h
 | cells e cs => cases h
 | own e xs hs => cases h
theorem Jg {G : Gh} {w : World} {B : Nat} {e : Nat} {xs : List PV} {hs : List (Nat × Nat × AV)} (h : gI G w B (.own e xs hs)) {i c : Nat} {p y : PV} (I : xs[i]? = some p) (H : p.cells[c]? = some y) :
  ∃ v, cl w B (i * e + c) = some v ∧ v.oneCell' = true ∧ HR G w (aE i c hs) y v := h.2.2 i p c y I H
theorem Fq {m n : aH} {b : Nat} {x : a9} (h : (m ++ n)[b]? = some (some x)) : (b < m.length ∧ m[b]? = some (some x)) ∨ (m.length ≤ b ∧ n[b - m.length]? = some (some x)) := by
 by_cases H : b < m.length
 ·rw [yn H] at h; exact .inl ⟨H, h⟩
 ·rw [yu (by omega)] at h; exact .inr ⟨by omega, h⟩
def Pi : Value → Option Nat
 | .slice (some a) _ _ => some a.block
 | _ => none
def NB (v : Value) (row : Row) : z4 := ⟨Pi v, row.e, row.len⟩
theorem Ld {G : Gh} {w : World} {mem : aH} {b : Nat} {Z : a9} {B e i c : Nat} {xs : List PV} {hs : List (Nat × Nat × AV)} {p y : PV} {row : Row} (hM : aF G w mem) (hx : mem[b]? = some (some Z)) (hrow : Z.row = .own e xs hs) (hB : eK G b Z B)
  (hp : xs[i]? = some p) (hy : p.cells[c]? = some y) (hh : aE i c hs = none) (hl : cV y = some row) :
  ∃ G' v, G' = G.put mem.length 0 (NB v row) ∧ cl w B (i * e + c) = some v ∧ c8 G G' ∧ VR G' w (.msw mem.length 0) v ∧
   aF G' w (mem.set b (some { Z with row := .own e xs ((i, c, .msw mem.length 0) :: hs) }) ++ [some { gen := 0, frz := false, row }]) := by
 obtain ⟨hl1, hmi, hlt, hfr, hr, hpr⟩ := hM.blk hx hB
 rw [hrow] at hr hl1
 obtain ⟨v, hv, hv1, hor⟩ := Jg hr hp hy
 rw [hh] at hor
 obtain ⟨g1, g2, g3⟩ := Kt hl
 have hnb : ∀ g, G.loc mem.length g = none := fun g => hM.unset _ g (fun x hx => by rw [ya1 (yy _)] at hx; cases hx)
 have V : b < mem.length := (yd.1 hx).1
 obtain ⟨L, hL⟩ : ∃ L, NB v row = L := ⟨_, rfl⟩
 have hg : c8 G (G.put mem.length 0 L) := c8.put (.inl (hnb 0))
 have hev := Ev.refl G w
 -- what the header says
 have key : VR (G.put mem.length 0 L) w (.msw mem.length 0) v ∧ L.e = row.e ∧ L.n = row.len ∧ (L.blk = none → row.len = 0) ∧
   (∀ B', L.blk = some B' → cP w B Z.row i c B' ∧ G.mine B' ∧ B' < w.heap.size ∧ fS w B' ∧ FO G w B' row ∧ ∀ β o, ¬ G.prot β B' o) := by
  rcases hor with ⟨u, rfl, _⟩ | ⟨row', hrow', hor⟩
  ·cases hl
  ·rw [hl] at hrow'
   obtain rfl := ya hrow'
   rcases hor with ⟨rfl, h0⟩ | ⟨B', cap, rfl, k1, k2, k3, k4, k5, k6, k7⟩
   ·subst hL
    exact ⟨.mswNil _ _ _ (Gh.put_self ..) rfl h0, rfl, rfl, fun _ => h0, fun B' h => (nomatch h)⟩
   ·subst hL
    refine ⟨.msw _ _ cap _ B' (Gh.put_self ..) rfl k1 k2, rfl, rfl, fun h => (nomatch h), fun B2 h => ?_⟩
    obtain rfl : B' = B2 := ya h
    refine ⟨?_, k3, k4, k5, k6, k7⟩
    rw [hrow]
    exact ⟨⟨p, y, row, hp, hy, hl⟩, hh, row.len, cap, hv⟩
 obtain ⟨hvr, hLe, hLn, hLz, hLB⟩ := key
 -- the new memory
 have M : ∀ {H : Nat} {z : a9}, (mem.set b (some { Z with row := .own e xs ((i, c, .msw mem.length 0) :: hs) }) ++ [some { gen := 0, frz := false, row }])[H]? = some (some z) →
   (H = b ∧ z = { Z with row := .own e xs ((i, c, .msw mem.length 0) :: hs) }) ∨ (H ≠ b ∧ H < mem.length ∧ mem[H]? = some (some z)) ∨ (H = mem.length ∧ z = { gen := 0, frz := false, row }) := by
  intro H z h
  rcases Fq h with ⟨Y, J⟩ | ⟨Y, J⟩
  ·rw [List.length_set] at Y
   by_cases e : H = b
   ·subst e; rw [yw V] at J; exact .inl ⟨rfl, by simpa using J.symm⟩
   ·rw [yp (fun x => e x.symm)] at J; exact .inr (.inl ⟨e, Y, J⟩)
  ·rw [List.length_set] at Y J
   have h0 : H - mem.length = 0 := by
    have := (yd.1 J).1; simp at this; omega
   rw [h0] at J
   exact .inr (.inr ⟨by omega, by simpa using J.symm⟩)
 have N : ∀ {H g : Nat}, H < mem.length → (G.put mem.length 0 L).loc H g = G.loc H g := fun h => Gh.put_ne _ _ (fun x => by omega)
 have I : ∀ {H : Nat} {z z' : a9} {C : Nat}, H < mem.length → z.gen = z'.gen → eK (G.put mem.length 0 L) H z C → eK G H z' C := by
  rintro H z z' C Y J ⟨L', l', k'⟩
  rw [N Y, J] at l'; exact ⟨L', l', k'⟩
 have K : ∀ {z : a9} {C : Nat}, z.gen = 0 → eK (G.put mem.length 0 L) mem.length z C → L.blk = some C := by
  rintro z C h0 ⟨L', l', k'⟩
  rw [h0, Gh.put_self] at l'
  obtain rfl := ya l'; exact k'
 have hinn : ∀ {U W B' C : Nat}, cP w C (Row.own e xs ((i, c, .msw mem.length 0) :: hs)) U W B' → cP w C Z.row U W B' ∧ ¬ (U = i ∧ W = c) := by
  rintro U W B' C ⟨Y, J, h3⟩
  simp only [aE] at J
  split at J
  ·cases J
  ·rename_i hn; rw [hrow]; exact ⟨⟨Y, J, h3⟩, fun hh => hn ⟨hh.1.symm, hh.2.symm⟩⟩
 have hrowmono : ∀ {C : Nat} {r : Row} {H : Nat} {z : a9}, mem[H]? = some (some z) → z.row = r → eK G H z C → gI G w C r → gI (G.put mem.length 0 L) w C r := by
  intro C r H z hz hzr hC h
  exact h.mono hg hev (fun _ _ => rfl) fun i c B' hi => ⟨.of rfl, (hM.inn hz hC (by rw [hzr]; exact hi)).2.2.2⟩
 refine ⟨_, v, by rw [hL], hv, hg, hvr, ⟨fun H z h => ?_, fun H g h => ?_, fun H z g h hlt' => ?_, fun b1 b2 z1 z2 L1 L2 C Y J l1 l2 k1 k2 => ?_, fun b1 b2 z1 z2 C U W B' Y k1 hi J k2 => ?_, fun b1 b2 z1 z2 C D U W i2 c2 B' Y k1 hi J k2 hi2 => ?_, hM.own, hM.lab, hM.away, hM.glob.mono (hg.prot true) (hev.prot true)⟩⟩
 ·rcases M h with ⟨rfl, rfl⟩ | ⟨hn, hl', hz⟩ | ⟨rfl, rfl⟩
  ·have hb := hM.box _ _ hx
   refine ⟨by have := hb.e; rw [hrow] at this; exact this, some B, by rw [N V]; exact hl1, hmi, hlt, hfr, ?_, hpr⟩
   refine ⟨fun h hh => ?_, hr.2.1, fun U x' W y' Y J => ?_⟩
   ·rcases yn1.1 hh with rfl | hh
    ·exact (yd.1 hp).1
    ·exact hr.1 h hh
   ·obtain ⟨v', hv', hv1', hp'⟩ := hr.2.2 U x' W y' Y J
    refine ⟨v', hv', hv1', ?_⟩
    by_cases hcc : i = U ∧ c = W
    ·obtain ⟨rfl, rfl⟩ := hcc
     rw [hv] at hv'
     obtain rfl := ya hv'
     simp only [aE, and_self, if_true, HR]; exact hvr
    ·simp only [aE, if_neg hcc]
     cases ho : aE U W hs with
     | some a => rw [ho] at hp'; exact VR.mono hg hev hp'
     | none =>
      rw [ho] at hp'
      refine OR.mono hg hev hp' fun B' n cap hrow2 hvv => ⟨.of rfl, ?_⟩
      obtain ⟨row2, hrow2⟩ := hrow2
      exact (hM.inn hx hB (i := U) (c := W) (by rw [hrow]; exact ⟨⟨x', y', row2, Y, J, hrow2⟩, ho, n, cap, by rw [hv', hvv]⟩)).2.2.2
  ·have hb := hM.box H z hz
   obtain ⟨o, hlo, hm⟩ := hb.loc
   refine ⟨hb.e, o, by rw [N hl']; exact hlo, ?_⟩
   cases o with
   | none => exact hm
   | some C =>
    obtain ⟨m1, m2, m3, m4, m5⟩ := hm
    exact ⟨m1, m2, m3, hrowmono hz rfl ⟨_, hlo, rfl⟩ m4, m5⟩
  ·refine ⟨g1, L.blk, by rw [Gh.put_self, ← hLe, ← hLn], ?_⟩
   cases hLb : L.blk with
   | none => exact ⟨hLz hLb, g2⟩
   | some B' =>
    obtain ⟨_, m1, m2, m3, m4, m5⟩ := hLB B' hLb
    exact ⟨m1, m2, m3, (m4.mono hg hev (fun _ _ => rfl)).row, fun _ => m5⟩
 ·have hn : H ≠ mem.length := by
   rintro rfl
   exact h { gen := 0, frz := false, row } (by rw [yu (by simp)]; simp)
  rw [Gh.put_ne _ _ (fun x => hn x.1)]
  refine hM.unset H g fun x hx' => ?_
  have hbl' := (yd.1 hx').1
  by_cases e : H = b
  ·subst e
   exact h _ (by rw [yn (by simpa using hbl'), yw hbl'])
  ·exact h x (by rw [yn (by simpa using hbl'), yp (fun x => e x.symm)]; exact hx')
 ·rcases M h with ⟨rfl, rfl⟩ | ⟨hn, hl', hz⟩ | ⟨rfl, rfl⟩
  ·rw [N V]; exact hM.gens _ _ g hx hlt'
  ·rw [N hl']; exact hM.gens _ _ g hz hlt'
  ·rw [Gh.put_ne _ _ (fun x => by simp only at hlt'; omega)]; exact hnb g
 ·have hN : ∀ {H : Nat} {z : a9}, mem[H]? = some (some z) → eK G H z C → L.blk = some C → False := fun hz hC hLC => hM.inA b _ Z _ B i c C hx hB (hLB C hLC).1 hz hC
  rcases M Y with ⟨rfl, rfl⟩ | ⟨hn1, O, hz1⟩ | ⟨rfl, rfl⟩ <;> rcases M J with ⟨rfl, rfl⟩ | ⟨hn2, hl2', hz2⟩ | ⟨rfl, rfl⟩
  ·rfl
  ·rw [N V] at l1; rw [N hl2'] at l2; exact hM.apart _ _ Z z2 L1 L2 C hx hz2 l1 l2 k1 k2
  ·exact (hN hx (I (z' := Z) V rfl ⟨L1, l1, k1⟩) (K rfl ⟨L2, l2, k2⟩)).elim
  ·rw [N O] at l1; rw [N V] at l2; exact hM.apart _ _ z1 Z L1 L2 C hz1 hx l1 l2 k1 k2
  ·rw [N O] at l1; rw [N hl2'] at l2; exact hM.apart _ _ z1 z2 L1 L2 C hz1 hz2 l1 l2 k1 k2
  ·exact (hN hz1 (I (z' := z1) O rfl ⟨L1, l1, k1⟩) (K rfl ⟨L2, l2, k2⟩)).elim
  ·exact (hN hx (I (z' := Z) V rfl ⟨L2, l2, k2⟩) (K rfl ⟨L1, l1, k1⟩)).elim
  ·exact (hN hz2 (I (z' := z2) hl2' rfl ⟨L2, l2, k2⟩) (K rfl ⟨L1, l1, k1⟩)).elim
  ·rfl
 ·have hb1 : ∃ z0 C0, mem[b1]? = some (some z0) ∧ eK G b1 z0 C ∧ cP w C z0.row U W B' ∧ (b1 = b → ¬ (U = i ∧ W = c)) ∧ C0 = C := by
   rcases M Y with ⟨rfl, rfl⟩ | ⟨hn1, O, hz1⟩ | ⟨rfl, rfl⟩
   ·exact ⟨Z, C, hx, I V rfl k1, (hinn hi).1, fun _ => (hinn hi).2, rfl⟩
   ·exact ⟨z1, C, hz1, I O rfl k1, hi, fun h => absurd h hn1, rfl⟩
   ·have := hi.own; rw [g3] at this; cases this
  obtain ⟨z0, _, hz0, hC0, hi0, hne0, _⟩ := hb1
  rcases M J with ⟨rfl, rfl⟩ | ⟨hn2, hl2', hz2⟩ | ⟨rfl, rfl⟩
  ·exact hM.inA _ _ z0 Z C U W B' hz0 hC0 hi0 hx (I V rfl k2)
  ·exact hM.inA _ _ z0 z2 C U W B' hz0 hC0 hi0 hz2 (I hl2' rfl k2)
  ·have hLC := K rfl k2
   obtain ⟨e1, e2, e3⟩ := hM.inB _ _ z0 Z C B U W i c B' hz0 hC0 hi0 hx hB (hLB B' hLC).1
   exact hne0 e1 ⟨e2, e3⟩
 ·have hb1 : ∀ {b1 : Nat} {z1 : a9} {C U W : Nat}, (mem.set b (some { Z with row := .own e xs ((i, c, .msw mem.length 0) :: hs) }) ++ [some { gen := 0, frz := false, row }])[b1]? = some (some z1) → eK (G.put mem.length 0 L) b1 z1 C → cP w C z1.row U W B' →
    ∃ z0, mem[b1]? = some (some z0) ∧ eK G b1 z0 C ∧ cP w C z0.row U W B' := by
   intro b1 z1 C U W Y k1 hi
   rcases M Y with ⟨rfl, rfl⟩ | ⟨hn1, O, hz1⟩ | ⟨rfl, rfl⟩
   ·exact ⟨Z, hx, I V rfl k1, (hinn hi).1⟩
   ·exact ⟨z1, hz1, I O rfl k1, hi⟩
   ·have := hi.own; rw [g3] at this; cases this
  obtain ⟨y1, a1, a2, a3⟩ := hb1 Y k1 hi
  obtain ⟨y2, d1, d2, d3⟩ := hb1 J k2 hi2
  exact hM.inB _ _ y1 y2 C D U W i2 c2 B' a1 a2 a3 d1 d2 d3
end Go.Ab
end
section
namespace Go.Ab
variable [b4]
theorem BX : ∀ {a b : List Row}, eS (a ++ b) = eS a ++ eS b
 | [], b => rfl
 | r :: a, b => by simp [eS, BX (a := a)]
theorem BZ : ∀ {a : List Row}, (eS a).length = a.length
 | [] => rfl
 | r :: a => by simp [eS, BZ (a := a)]
theorem OH {m n : aH} {b : Nat} {x : Option a9} (h : b < m.length) : (m ++ n).set b x = m.set b x ++ n := List.set_append_left _ _ h
theorem p7 {m : aH} {b : Nat} {x : Option a9} (h : m[b]? = some x) : m.set b x = m := by
 have H := (yd.1 h).1
 apply List.ext_getElem?
 intro j
 by_cases e : b = j
 ·subst e; rw [yw H, h]
 ·rw [yp e]
section
variable {P : Program}
theorem MX {l : LK} {y : PV} {a : AV} (J : y8 l = true) (h : fT true l y = some a) : ∃ u, y = .lit u ∧ a = .lit u ∧ j7 u = true := by
 cases l with
 | int k =>
  simp only [fT] at h; rw [bind_some] at h; obtain ⟨x, H, h⟩ := h
  obtain rfl := ya h
  unfold PV.int? at H
  split at H
  ·rename_i K n
   cases I : gK k K with
   | true => rw [I] at H; obtain rfl := ya H; rw [jL] at I; subst I; exact ⟨_, rfl, rfl, rfl⟩
   | false => rw [I] at H; cases H
  ·cases H
 | bool =>
  simp only [fT] at h; rw [bind_some] at h; obtain ⟨x, H, h⟩ := h
  obtain rfl := ya h
  unfold PV.bool? at H
  split at H
  ·obtain rfl := ya H; exact ⟨_, rfl, rfl, rfl⟩
  ·cases H
 | str =>
  simp only [fT] at h; rw [bind_some] at h; obtain ⟨x, H, h⟩ := h
  obtain rfl := ya h
  unfold PV.str? at H
  split at H
  ·obtain rfl := ya H; exact ⟨_, rfl, rfl, rfl⟩
  ·cases H
 | ints k => cases J
 | sl t e => cases J
structure Po (G : Gh) (w : World) (mem : aH) (b : Nat) (bx : a9) (e : Nat) (xs : List PV) (hs' : List (Nat × Nat × AV)) (rows : List Row) (G' : Gh) : Prop where
 gle : c8 G G'
 memr : aF G' w (mem.set b (some { bx with row := .own e xs hs' }) ++ eS rows)
theorem sD {G : Gh} {w : World} {mem : aH} {b : Nat} {M : a9} {B e i c : Nat} {xs : List PV} {hs : List (Nat × Nat × AV)} {tk : Bool} {l : LK} {r : AV × List (Nat × Nat × AV) × List Row} (hM : aF G w mem)
  (Z : mem[b]? = some (some M)) (I : M.row = .own e xs hs) (hB : eK G b M B) (h : nR tk xs i c l hs mem.length = some r) :
  ∃ O v, cl w B (i * e + c) = some v ∧ VR O w r.1 v ∧ Po G w mem b M e xs r.2.1 r.2.2 O ∧ (r.2.2 = [] → r.2.1 = hs) := by
 unfold nR at h
 rw [bind_some] at h; obtain ⟨p, hp, h⟩ := h
 rw [bind_some] at h; obtain ⟨y, hy, h⟩ := h
 have hr := (hM.blk Z hB).2.2.2.2.1
 rw [I] at hr
 obtain ⟨v, hv, hv1, J⟩ := Jg hr hp hy
 have same : Po G w mem b M e xs hs [] G := by
  refine ⟨c8.refl G, ?_⟩
  simp only [eS, yg1]
  have : (some { M with row := .own e xs hs } : Option a9) = some M := by rw [← I]
  rw [this, p7 Z]; exact hM
 split at h
 ·rename_i hh N
  rw [aA] at h; obtain ⟨hi, h⟩ := h
  obtain rfl := ya h
  obtain rfl := bJ.1 hi
  rw [w6 N] at J
  exact ⟨G, v, hv, J, same, fun _ => rfl⟩
 ·rename_i N
  rw [dK N] at J
  cases K : y8 l with
  | true =>
   rw [K] at h; simp only [yl] at h
   obtain ⟨a, ha, rfl⟩ := yc.1 h
   obtain ⟨u, rfl, rfl, hu⟩ := MX K ha
   refine ⟨G, v, hv, ?_, same, fun _ => rfl⟩
   rcases J with ⟨u', U, rfl⟩ | ⟨row, H, _⟩
   ·obtain rfl : u = v := by simpa using U
    exact .lit u hu
   ·cases H
  | false =>
   rw [K] at h; simp only [yk] at h
   rw [aA] at h; obtain ⟨_, h⟩ := h
   obtain ⟨row, H, rfl⟩ := yc.1 h
   obtain ⟨O, v', _, Y, hg, W, V⟩ := Ld hM Z I hB hp hy (dK N) H
   exact ⟨O, v', Y, W, ⟨hg, V⟩, fun h => by cases h⟩
theorem z5 {w : World} {b : Nat} {B e i : Nat} {xs : List PV} {tk : Bool} : ∀ {ls : List LK} {c : Nat} {G : Gh} {mem : aH} {I : a9} {hs : List (Nat × Nat × AV)} {r : List AV × List (Nat × Nat × AV) × List Row}, aF G w mem →
  mem[b]? = some (some I) → I.row = .own e xs hs → eK G b I B → n7 tk xs i ls c hs mem.length = some r →
  ∃ G', Po G w mem b I e xs r.2.1 r.2.2 G' ∧ (r.2.2 = [] → r.2.1 = hs) ∧ r.1.length = ls.length ∧ ∀ (j : Nat) (a : AV), r.1[j]? = some a → ∃ v, cl w B (i * e + c + j) = some v ∧ VR G' w a v
 | [], c, G, mem, I, hs, r, hM, Z, H, hB, h => by
  obtain rfl := ya h
  refine ⟨G, ⟨c8.refl G, ?_⟩, fun _ => rfl, rfl, fun j a ha => by simp at ha⟩
  simp only [eS, yg1]
  have : (some { I with row := .own e xs hs } : Option a9) = some I := by rw [← H]
  rw [this, p7 Z]; exact hM
 | l :: ls, c, G, mem, I, hs, r, hM, Z, H, hB, h => by
  simp only [n7] at h
  rw [bind_some] at h; obtain ⟨a, ha, h⟩ := h
  obtain ⟨q, hq, rfl⟩ := yc.1 h
  obtain ⟨G1, v, hv, hvr, ⟨Y, hM1⟩, M⟩ := sD hM Z H hB ha
  have N := (yd.1 Z).1
  have hx1 : (mem.set b (some { I with row := .own e xs a.2.1 }) ++ eS a.2.2)[b]? = some (some { I with row := .own e xs a.2.1 }) := by
   rw [yn (by simpa using N), yw N]
  have hB1 : eK G1 b { I with row := .own e xs a.2.1 } B := by
   obtain ⟨L, hl, hk⟩ := hB; exact ⟨L, Y.loc _ _ _ hl, hk⟩
  obtain ⟨G2, ⟨U, O⟩, J, W, hvs⟩ := z5 (ls := ls) (c := c + 1) hM1 hx1 rfl hB1 (by rw [yi1, List.length_set, BZ]; exact hq)
  refine ⟨G2, ⟨Y.trans U, ?_⟩, fun hn => ?_, by simp [W], fun j a' K => ?_⟩
  ·rw [OH (by simpa using N), List.set_set] at O
   rw [BX, ← List.append_assoc]; exact O
  ·have V := List.append_eq_nil_iff.1 hn
   rw [J V.2, M V.1]
  ·cases j with
   | zero => simp at K; subst K; exact ⟨v, by simpa using hv, hvr.mono U (Ev.refl _ _)⟩
   | succ j =>
    simp only [yd1] at K
    obtain ⟨u, hu, hur⟩ := hvs j a' K
    exact ⟨u, by rw [← hu]; congr 1; omega, hur⟩
theorem FF {mem : aH} {b e : Nat} {H : a9} {xs : List PV} {v : AV} {hs hs' : List (Nat × Nat × AV)} {rows : List Row} (J : mem[b]? = some (some H)) (I : H.row = .own e xs hs) (hn : rows = [] → hs' = hs) :
  (AC b e H xs v (hs', rows)).apply mem = mem.set b (some { H with row := .own e xs hs' }) ++ eS rows := by
 unfold AC
 cases rows with
 | nil =>
  simp only [dE.apply, aJ, eS, yg1]
  obtain rfl := hn rfl
  have : (some { H with row := .own e xs hs' } : Option a9) = some H := by rw [← I]
  rw [this, p7 J]
 | cons r rows => simp only [dE.apply, aJ]
theorem LD {b e : Nat} {H : a9} {xs : List PV} {v : AV} {q : List (Nat × Nat × AV) × List Row} : (AC b e H xs v q).v = v := by
 unfold AC; split <;> rfl
theorem Jw {G : Gh} {w : World} {mem : aH} {tk : Bool} {t : TypeId} {a : AV} {out : dE} {cv : Value} (hM : aF G w mem) (h : zS P tk t mem a = some out) (ha : VR G w a cv) :
  ∃ V J, (Instr.loadAt t cv).run P w = .ok J w ∧ VR V w out.v J ∧ c8 G V ∧ aF V w (out.apply mem) := by
 unfold zS at h
 split at h
 ·rename_i b g i c
  rw [bind_some] at h; obtain ⟨bx, hbx, h⟩ := h
  obtain ⟨hm, Z, hown⟩ := boxO?_some hbx
  split at h
  ·rename_i e xs hs H
   obtain ⟨B, rfl, hl, _⟩ := hM.at_ptr' hm Z ha
   have hB : eK G b bx B := ⟨_, by rw [Z]; exact hl, rfl⟩
   rw [show bx.row.e = e by rw [H]; rfl]
   have hsa : ∀ J, (loadVar t ⟨B, i * e + c, none⟩).run P w = .ok J w → (Instr.loadAt t (.pointer (some ⟨B, i * e + c, none⟩))).run P w = .ok J w := by
    intro J hh; simp [Instr.loadAt, Instr.sureAddr, hh]
   split at h
   ·rename_i M
    rw [bind_some] at h; obtain ⟨l, hl', h⟩ := h
    obtain ⟨q, hq, rfl⟩ := yc.1 h
    obtain ⟨V, v, Y, U, ⟨hg, N⟩, I⟩ := sD hM hm H hB hq
    refine ⟨V, v, hsa _ (iM M Y), by rw [LD]; exact U, hg, ?_⟩
    rw [FF hm H I]; exact N
   ·rename_i M
    rw [bind_some] at h; obtain ⟨ls, hls, h⟩ := h
    rw [bind_some] at h; obtain ⟨n, hn, h⟩ := h
    rw [aA] at h; obtain ⟨hnl, h⟩ := h
    obtain ⟨q, hq, rfl⟩ := yc.1 h
    obtain rfl := bJ.1 hnl
    obtain ⟨V, ⟨hg, N⟩, I, K, W⟩ := z5 hM hm H hB hq
    have O : ∀ j, j < ls.length → cl w B (i * e + c + j) = some ((cl w B (i * e + c + j)).getD undef) := by
     intro j hj
     obtain ⟨v, Y, _⟩ := W j _ (yf (by rw [K]; exact hj))
     rw [Y]; rfl
    refine ⟨V, _, hsa _ (lI M hn (fun j => (cl w B (i * e + c + j)).getD undef) O), ?_, hg, ?_⟩
    ·rw [LD]
     refine .agg _ _ (by simp [K]) fun j y hy => ?_
     have hj : j < ls.length := by rw [← K]; exact (yd.1 hy).1
     obtain ⟨v, Y, U⟩ := W j y hy
     simp only [yj]
     simp [hj, Y, U]
    ·rw [FF hm H I]; exact N
   ·cases h
  ·cases h
 ·cases h
theorem KP {G : Gh} {w : World} {mem : aH} {t ty : TypeId} {x : AV} {out : dE} {cv : Value} (hM : aF G w mem) (h : JZ P t mem x = some out) (V : VR G w x cv) :
  out.wr = [] ∧ out.push = [] ∧ ∃ n : Nat, out.v = .lit (.int .i64 (n : Int)) ∧ ((∃ e, P.underlying t = some (.slice e)) ∧ ∃ a cap, cv = .slice a n cap) := by
 unfold JZ at h
 split at h
 ·rename_i e b g U
  obtain ⟨N, J, rfl⟩ := yc.1 h
  obtain ⟨hm, K, M⟩ := boxO?_some J
  subst K
  refine ⟨rfl, rfl, N.row.len, rfl, ⟨_, U⟩, ?_⟩
  obtain ⟨o, I, W⟩ := (hM.box b N hm).loc
  cases V with
  | msw _ _ cap L B H O hn hf =>
   rw [I] at H
   obtain rfl := ya H
   exact ⟨_, _, rfl⟩
  | mswNil _ _ L H O hn =>
   rw [I] at H
   obtain rfl := ya H
   simp only at hn
   rw [hn]; exact ⟨_, _, rfl⟩
 ·cases h
theorem H4 {G : Gh} {w : World} {mem : aH} {t : TypeId} {x : AV} {k : IntKind} {i : Int} {out : dE} {cv : Value} (hM : aF G w mem) (h : qT P t mem x i = some out) (hx : VR G w x cv) :
  out.wr = [] ∧ out.push = [] ∧ ∃ O, (Instr.indexAt t cv (.int k i)).run P w = .ok O w ∧ VR G w out.v O := by
 unfold qT at h
 split at h
 ·rename_i et hu
  rw [bind_some] at h; obtain ⟨s, hs, h⟩ := h
  split at h
  ·rename_i b g o n
   rw [bind_some] at h; obtain ⟨V, M, h⟩ := h
   obtain ⟨hm, N, U⟩ := boxO?_some M
   subst N
   rw [aA] at h; obtain ⟨W, h⟩ := h
   simp only [yb, decide_eq_true_eq] at W
   obtain ⟨⟨K, Z⟩, g3⟩ := W
   have K := bJ.1 K
   obtain rfl := ya h
   obtain ⟨oo, I, hmm⟩ := (hM.box b V hm).loc
   refine ⟨rfl, rfl, ?_⟩
   cases hx with
   | ms _ _ _ _ cap L B J Y hn hon hf =>
    have H := J
    rw [I] at H
    obtain rfl := ya H
    refine ⟨_, dS hu hs Z g3 w, ?_⟩
    have := VR.ptr (w := w) b V.gen (o + i.toNat) 0 _ B J Y
    simp only at this
    rw [K, ← yk1]
    simpa using this
   | msNil => omega
   | msZ => omega
  ·rename_i b g
   rw [bind_some] at h; obtain ⟨V, M, h⟩ := h
   obtain ⟨hm, N, U⟩ := boxO?_some M
   subst N
   rw [aA] at h; obtain ⟨W, h⟩ := h
   simp only [yb, decide_eq_true_eq] at W
   obtain ⟨⟨K, Z⟩, g3⟩ := W
   have K := bJ.1 K
   obtain rfl := ya h
   obtain ⟨oo, I, hmm⟩ := (hM.box b V hm).loc
   refine ⟨rfl, rfl, ?_⟩
   cases hx with
   | msw _ _ cap L B J Y hn hf =>
    have H := J
    rw [I] at H
    obtain rfl := ya H
    refine ⟨_, dS hu hs Z g3 w, ?_⟩
    have := VR.ptr (w := w) b V.gen i.toNat 0 _ B J Y
    simp only at this
    rw [K, yc1]
    simpa using this
   | mswNil _ _ L J Y hn =>
    rw [I] at J
    obtain rfl := ya J
    simp only at hn
    omega
  ·cases h
 ·cases h
theorem HO {G : Gh} {w : World} {mem : aH} {t : TypeId} {x : AV} {lo hi mx : Option Int} {vl vh vm : Option Value} {out : dE} {cv : Value} (hM : aF G w mem) (h : qJ P t mem x lo hi mx = some out) (hx : VR G w x cv)
  (hl : m7 lo vl) (hh : m7 hi vh) (hm : m7 mx vm) : O3 G w P (Instr.sliceAt t cv vl vh vm) out := by
 unfold qJ at h
 split at h
 ·rename_i et hu
  rw [bind_some] at h; obtain ⟨s, hs, h⟩ := h
  split at h
  ·rename_i b g o n
   rw [bind_some] at h; obtain ⟨bx, N, h⟩ := h
   obtain ⟨U, O, hown⟩ := boxO?_some N
   subst O
   rw [aA] at h; obtain ⟨M, h⟩ := h
   have M := bJ.1 M
   subst M
   obtain ⟨⟨l, h'⟩, K, rfl⟩ := yc.1 h
   obtain ⟨oo, H, hmm'⟩ := (hM.box b bx U).loc
   cases hx with
   | ms _ _ _ _ cap L B hL hB hn J hf =>
    have I := hL
    rw [H] at I
    obtain rfl := ya I
    simp only at hB J hf ⊢; subst hB
    obtain ⟨m, hr, V, W, Z, Y⟩ := b7 (P := P) (isSlice := true) (cap := cap) K hn hl hh hm w
    have := Az (o := o) (n := n) hL hf J V W Z Y
    exact ⟨rfl, rfl, _, aU hu hs hr, by simpa [dA] using this⟩
   | msNil _ _ L hL hB =>
    rw [H] at hL
    obtain rfl := ya hL
    simp only at hB; subst hB
    obtain ⟨m, hr, V, W, Z, Y⟩ := b7 (P := P) (isSlice := true) (cap := 0) K (by simp) hl hh hm w
    refine ⟨rfl, rfl, _, aU hu hs (a := none) hr, ?_⟩
    obtain rfl : l = 0 := by omega
    obtain rfl : h' = 0 := by omega
    obtain rfl : m = 0 := by omega
    exact .msNil b _ _ H rfl
   | msZ _ _ _ B oo2 L hL hB ho J =>
    obtain ⟨m, hr, V, W, Z, Y⟩ := b7 (P := P) (isSlice := true) (cap := 0) K (by simp) hl hh hm w
    refine ⟨rfl, rfl, _, aU hu hs (a := some ⟨B, oo2, none⟩) hr, ?_⟩
    obtain rfl : l = 0 := by omega
    obtain rfl : h' = 0 := by omega
    obtain rfl : m = 0 := by omega
    simpa [dA] using VR.msZ (w := w) b bx.gen o B oo2 L hL hB ho J
  ·rename_i b g
   rw [bind_some] at h; obtain ⟨bx, N, h⟩ := h
   obtain ⟨U, O, hown⟩ := boxO?_some N
   subst O
   rw [aA] at h; obtain ⟨M, h⟩ := h
   have M := bJ.1 M
   subst M
   obtain ⟨⟨l, h'⟩, K, rfl⟩ := yc.1 h
   obtain ⟨oo, H, hmm'⟩ := (hM.box b bx U).loc
   cases hx with
   | msw _ _ cap L B hL hB hn hf =>
    have I := hL
    rw [H] at I
    obtain rfl := ya I
    simp only at hB hn hf ⊢; subst hB
    obtain ⟨m, hr, V, W, Z, Y⟩ := b7 (P := P) (isSlice := true) (cap := cap) K hn hl hh hm w
    have := Az (o := 0) (n := bx.row.len) hL (by simpa using hf) (by simp) V W Z Y
    exact ⟨rfl, rfl, _, aU hu hs hr, by simpa [dA] using this⟩
   | mswNil _ _ L hL hB hn =>
    rw [H] at hL
    obtain rfl := ya hL
    simp only at hB hn; subst hB
    rw [hn] at K
    obtain ⟨m, hr, V, W, Z, Y⟩ := b7 (P := P) (isSlice := true) (cap := 0) K (by simp) hl hh hm w
    refine ⟨rfl, rfl, _, aU hu hs (a := none) hr, ?_⟩
    obtain rfl : l = 0 := by omega
    obtain rfl : h' = 0 := by omega
    obtain rfl : m = 0 := by omega
    exact .msNil b _ _ H rfl
  ·cases h
 ·cases h
end
end Go.Ab
end
section
namespace Go.Ab
variable [b4]
theorem Mu {v : Value} (h : v.oneCell' = true) : v.cells.toList = [v] := by
 cases v <;> first | rfl | cases h
theorem sT {p z y : PV} {c : Nat} (I : p.cells[c]? = some y) (K : z.cells = [z]) (j : Nat) : (jA p c z).cells[j]? = (if j = c then some z else p.cells[j]?) := by
 have H := (yd.1 I).1
 cases p with
 | agg cs =>
  show (cs.set c z)[j]? = _
  by_cases e : j = c
  ·subst e; rw [if_pos rfl, yw (show j < cs.length from H)]
  ·rw [if_neg e, yp (fun x => e x.symm)]; rfl
 | _ =>
  have J : c = 0 := by simp [PV.cells] at H; exact H
  subst J
  show z.cells[j]? = _
  rw [K]
  by_cases e : j = 0
  ·subst e; rfl
  ·rw [if_neg e]
   obtain ⟨k, rfl⟩ : ∃ k, j = k + 1 := ⟨j - 1, by omega⟩
   simp [PV.cells]
theorem GZ {p z y : PV} {c : Nat} (hc : p.cells[c]? = some y) (H : z.cells = [z]) : (jA p c z).cells.length = p.cells.length := by
 cases p with
 | agg cs => show (cs.set c z).length = cs.length; simp
 | _ => show z.cells.length = 1; rw [H]; rfl
theorem HN {α : Type} {xs : List α} {i j : Nat} {v x : α} (h : (xs.set i v)[j]? = some x) : (j = i ∧ x = v) ∨ (j ≠ i ∧ xs[j]? = some x) := by
 by_cases e : j = i
 ·subst e
  have H := (yd.1 h).1
  rw [yw (by simpa using H)] at h
  exact .inl ⟨rfl, by simpa using h.symm⟩
 ·rw [yp (fun x => e x.symm)] at h; exact .inr ⟨e, h⟩
def l6 (G : Gh) (w : World) (o : Option AV) (y : PV) (u : Value) : Prop :=
 (∃ a, o = some a ∧ VR G w a u) ∨ (o = none ∧ ((∃ z, y = .lit z ∧ u = z) ∨ ∃ row, cV y = some row ∧ u = .slice none 0 0 ∧ row.len = 0))
theorem l6.hr {G H : Gh} {w I : World} {o : Option AV} {y : PV} {u : Value} (N : c8 G H) (O : Ev G w I) (h : l6 G w o y u) : HR H I o y u := by
 rcases h with ⟨a, rfl, h⟩ | ⟨rfl, ⟨z, rfl, rfl⟩ | ⟨row, K, M, J⟩⟩
 ·exact h.mono N O
 ·exact .inl ⟨_, rfl, rfl⟩
 ·exact .inr ⟨row, K, .inl ⟨M, J⟩⟩
theorem l6.out {G : Gh} {w : World} {y : PV} {u : Value} {row : Row} {a : Addr} {n cap : Nat} (h : l6 G w none y u) (H : cV y = some row) : u ≠ .slice (some a) n cap := by
 rcases h with ⟨a, h, _⟩ | ⟨_, ⟨z, rfl, rfl⟩ | ⟨row, h1, I, h3⟩⟩
 ·cases h
 ·cases H
 ·rw [I]; intro h; cases h
theorem BL {G : Gh} {w : World} {mem : aH} {b : Nat} {bx : a9} {B e i c : Nat} {xs O : List PV} {hs hs' : List (Nat × Nat × AV)} {p y : PV} {V : Value} (hM : aF G w mem) (hx : mem[b]? = some (some bx)) (J : bx.row = .own e xs hs) (hB : eK G b bx B)
  (hfrz : bx.frz = false) (hp : xs[i]? = some p) (hy : p.cells[c]? = some y) (h1 : V.oneCell' = true) (hlen : O.length = xs.length) (hbnd : ∀ h ∈ hs', h.1 < xs.length) (hel : ∀ x ∈ O, x.cells.length = e)
  (hA : ∀ I x' H N, O[I]? = some x' → x'.cells[H]? = some N → ¬ (I = i ∧ H = c) → ∃ x0, xs[I]? = some x0 ∧ x0.cells[H]? = some N ∧ aE I H hs' = aE I H hs)
  (hC : ∀ x' N, O[i]? = some x' → x'.cells[c]? = some N → l6 G w (aE i c hs') N V) :
  Ev G w (w.setCells B (i * e + c) [V]) ∧ aF G (w.setCells B (i * e + c) [V]) (mem.set b (some { bx with row := .own e O hs' })) := by
 obtain ⟨hl, hmi, hlt, hfr, hr, hpr⟩ := hM.blk hx hB
 rw [J] at hr
 have hr0 := hr
 obtain ⟨r1, r2, r3⟩ := hr
 have hce : c < e := by rw [← r2 p (yt hp)]; exact (yd.1 hy).1
 obtain ⟨v0, hv0, _⟩ := r3 i p c y hp hy
 have U : ∀ j, j < [V].length → (cl w B (i * e + c + j)).isSome = true := fun j hj => by
  have : j = 0 := by simpa using hj
  subst this; rw [ym1, hv0]; rfl
 have hat : cl (w.setCells B (i * e + c) [V]) B (i * e + c) = some V := by
  have := jK (w := w) (B := B) (o := i * e + c) (vs := [V]) U (j := 0) (by simp)
  simpa using this
 have hoff : ∀ I H, H < e → ¬ (I = i ∧ H = c) → cl (w.setCells B (i * e + c) [V]) B (I * e + H) = cl w B (I * e + H) := by
  intro I H hc' hne
  refine iL ?_
  have hd := BT (i := i) hce
  have hd' := BT (i := I) hc'
  have : I * e + H ≠ i * e + c := fun h => hne ⟨by rw [← hd'.1, ← hd.1, h], by rw [← hd'.2, ← hd.2, h]⟩
  simp; omega
 have := Gu (row' := .own e O hs') (o := i * e + c) (xs := [V]) hM hx (by rw [J]; rw [J] at hl; exact hl) hfrz U (by rw [J]; rfl) (by rw [J]; exact hlen)
  (fun hev => ⟨fun h Y => by rw [hlen]; exact hbnd h Y, hel, fun I x' H N g1 g2 => ?_⟩) (fun I H X hi => ?_)
 ·exact this
 ·have W : H < e := by rw [← hel x' (yt g1)]; exact (yd.1 g2).1
  by_cases Y : I = i ∧ H = c
  ·obtain ⟨rfl, rfl⟩ := Y
   exact ⟨V, hat, h1, (hC x' N g1 g2).hr (c8.refl G) hev⟩
  ·obtain ⟨x0, k1, k2, k3⟩ := hA I x' H N g1 g2 Y
   obtain ⟨v, hv, hv1, Z⟩ := r3 I x0 H N k1 k2
   refine ⟨v, by rw [hoff I H W Y]; exact hv, hv1, ?_⟩
   rw [k3]
   cases ho : aE I H hs with
   | some a => rw [ho] at Z; exact VR.mono (c8.refl G) hev Z
   | none =>
    rw [ho] at Z
    refine OR.mono (c8.refl G) hev Z fun X n cap M hvv => ?_
    obtain ⟨row2, M⟩ := M
    have hi : cP w B bx.row I H X := by rw [J]; exact ⟨⟨x0, N, row2, k1, k2, M⟩, ho, n, cap, by rw [hv, hvv]⟩
    have hne : X ≠ B := fun h => hM.inA b b bx bx B I H X hx hB hi hx (by rw [h]; exact hB)
    exact ⟨.of (dG (w := w) hne _ _ w), (hM.inn hx hB hi).2.2.2⟩
 ·obtain ⟨⟨x', N, row, g1, g2, g3⟩, ho, n, cap, K⟩ := hi
  have W : H < e := by rw [← hel x' (yt g1)]; exact (yd.1 g2).1
  by_cases Y : I = i ∧ H = c
  ·obtain ⟨rfl, rfl⟩ := Y
   rw [hat] at K
   have hn := hC x' N g1 g2
   rw [ho] at hn
   exact absurd (ya K) (hn.out g3)
  ·obtain ⟨x0, k1, k2, k3⟩ := hA I x' H N g1 g2 Y
   rw [hoff I H W Y] at K
   rw [J]
   exact ⟨⟨x0, N, row, k1, k2, g3⟩, by rw [← k3]; exact ho, n, cap, K⟩
theorem Dr {c i : Nat} {v : AV} : ∀ {hs : List (Nat × Nat × AV)}, jR c hs = some (i, v) → ∀ K H, ¬ (K = i ∧ H = c) → aE K H (zX c hs) = aE K H hs
 | [], h => by cases h
 | (j, H, u) :: r, h => by
  intro N O I
  simp only [jR] at h
  simp only [zX]
  cases J : Nat.beq c H with
  | true =>
   rw [J] at h; simp only [yl, Option.some.injEq, Prod.mk.injEq] at h
   obtain ⟨rfl, rfl⟩ := h
   obtain rfl := bJ.1 J
   simp only [yl, aE]
   rw [if_neg (fun M => I ⟨M.1.symm, M.2.symm⟩)]
  | false =>
   rw [J] at h; simp only [yk] at h
   simp only [yk, aE]
   split
   ·rfl
   ·exact Dr h N O I
theorem Gy {c : Nat} : ∀ {hs : List (Nat × Nat × AV)}, ∀ h ∈ zX c hs, h ∈ hs
 | [], h, H => by cases H
 | (j, J, u) :: r, h, H => by
  simp only [zX] at H
  cases I : Nat.beq c J with
  | true => rw [I] at H; exact yh _ H
  | false =>
   rw [I] at H; simp only [yk] at H
   rcases yn1.1 H with rfl | H
   ·exact ym ..
   ·exact yh _ (Gy h H)
theorem FM {i c : Nat} {hs hs' : List (Nat × Nat × AV)} (h : CC i c hs = some hs') : (∀ J I, ¬ (J = i ∧ I = c) → aE J I hs' = aE J I hs) ∧ aE i c hs' = none ∧ ∀ x ∈ hs', x ∈ hs := by
 unfold CC at h
 split at h
 ·rename_i H
  obtain rfl := ya h
  exact ⟨fun _ _ _ => rfl, dK H, fun _ h => h⟩
 ·rename_i q H
  rw [aA] at h; obtain ⟨K, h⟩ := h
  simp only [yb] at K
  obtain rfl := bJ.1 K.1
  obtain rfl := ya h
  obtain ⟨i0, v⟩ := q
  exact ⟨Dr H, dK (Option.isNone_iff_eq_none.1 K.2), Gy⟩
section
variable {P : Program}
theorem H5 {G : Gh} {w : World} {mem : aH} {t : TypeId} {a x : AV} {out : dE} {ca cx : Value} (hM : aF G w mem) (h : lF P t mem a x = some out) (ha : VR G w a ca) (hx : VR G w x cx) :
  out.v = .lit undef ∧ ∃ w', (Instr.storeAt t ca cx).run P w = .ok () w' ∧ Ev G w w' ∧ aF G w' (out.apply mem) := by
 unfold lF at h
 split at h
 ·rename_i b g i c
  rw [bind_some] at h; obtain ⟨bx, hbx, h⟩ := h
  obtain ⟨hm, hge, hown⟩ := boxO?_some hbx
  split at h
  ·rename_i e xs hs N
   rw [bind_some] at h; obtain ⟨n, hn, h⟩ := h
   rw [aA] at h; obtain ⟨hg, h⟩ := h
   simp only [yb, yq] at hg
   obtain ⟨⟨g1, g2⟩, g3⟩ := hg
   obtain rfl := bJ.1 g1
   rw [bind_some] at h; obtain ⟨p, hp, h⟩ := h
   rw [bind_some] at h; obtain ⟨y, hy, h⟩ := h
   obtain ⟨B, rfl, hl, hmine, hB0, hfz, hr, hpr⟩ := hM.at_ptr' hm hge ha
   have hB : eK G b bx B := ⟨_, by rw [hge]; exact hl, rfl⟩
   rw [show bx.row.e = e by rw [N]; rfl]
   rw [N] at hr
   have h1 := Ix hx g3
   have hcc := Mu h1
   have hel := hr.2.1
   have U := hr.1
   have Y : (Instr.storeAt t (.pointer (some ⟨B, i * e + c, none⟩)) cx).run P w = .ok () (w.setCells B (i * e + c) [cx]) := by
    obtain ⟨v0, hv0, _⟩ := hr.2.2 i p c y hp hy
    have hs1 : ∀ j, j < 1 → (cl w B (i * e + c + j)).isSome = true := fun j hj => by
     have : j = 0 := by omega
     subst this; rw [ym1, hv0]; rfl
    have := AU (P := P) (cv := cx) (B := B) (o := i * e + c) (w := w) hn (by rw [← yu1, hcc]; rfl) hs1 (fun j hj => hfz.cell (hs1 j hj)) (by rw [hcc]; simpa using h1)
    rw [hcc] at this
    simp [Instr.storeAt, Instr.sureAddr, this]
   have Z : ∀ z : PV, z.cells = [z] → (∀ x ∈ xs.set i (jA p c z), x.cells.length = e) ∧ (xs.set i (jA p c z)).length = xs.length ∧
     (∀ J x' O I, (xs.set i (jA p c z))[J]? = some x' → x'.cells[O]? = some I → ¬ (J = i ∧ O = c) → ∃ x0, xs[J]? = some x0 ∧ x0.cells[O]? = some I) ∧
     (∀ x' I, (xs.set i (jA p c z))[i]? = some x' → x'.cells[c]? = some I → I = z) := by
    intro z hz
    refine ⟨fun x hx => ?_, by simp, fun J x' O I k1 M H => ?_, fun x' I k1 M => ?_⟩
    ·rcases yl2 hx with h | h
     ·exact hel x h
     ·rw [h, GZ hy hz]; exact hel p (yt hp)
    ·rcases HN k1 with ⟨rfl, rfl⟩ | ⟨hn, k1⟩
     ·rw [sT hy hz, if_neg (fun h => H ⟨rfl, h⟩)] at M
      exact ⟨p, hp, M⟩
     ·exact ⟨x', k1, M⟩
    ·rcases HN k1 with ⟨_, rfl⟩ | ⟨hn, _⟩
     ·rw [sT hy hz, if_pos rfl] at M; exact (ya M).symm
     ·exact absurd rfl hn
   split at h
   ·rename_i u v
    rw [aA] at h; obtain ⟨hg, h⟩ := h
    simp only [yb] at hg
    obtain rfl := ya h
    obtain rfl := hx.lit_inv
    obtain ⟨s1, s2, s3, s4⟩ := Z (.lit cx) rfl
    have ho := dK (i := i) (Option.isNone_iff_eq_none.1 hg.2)
    obtain ⟨V, W⟩ := BL hM hm N hB g2 hp hy h1 s2 U s1 (fun J x' O I k1 M H => by obtain ⟨x0, q1, q2⟩ := s3 J x' O I k1 M H; exact ⟨x0, q1, q2, rfl⟩) (fun x' I k1 M => .inr ⟨ho, .inl ⟨cx, s4 x' I k1 M, rfl⟩⟩)
    exact ⟨rfl, _, Y, V, by rw [dI]; exact W⟩
   ·cases h
   ·rename_i hny
    rw [bind_some] at h; obtain ⟨I, K, h⟩ := h
    obtain ⟨hs', hfr, rfl⟩ := yc.1 h
    obtain rfl := hx.lit_inv
    obtain ⟨f1, f2, f3⟩ := FM hfr
    have hz : I.cells = [I] ∧ ∃ row', cV I = some row' ∧ row'.len = 0 := by
     cases y with
     | ints k ys => obtain rfl := ya K; exact ⟨rfl, _, rfl, rfl⟩
     | sl e' ys =>
      simp only [Ah] at K; rw [aA] at K; obtain ⟨he, K⟩ := K
      obtain rfl := ya K
      exact ⟨rfl, .pvs false e' [], by simp only [cV, guardB, he, yl], rfl⟩
     | lit u => cases K
     | agg cs => cases K
    obtain ⟨hz, row', hl', h0'⟩ := hz
    obtain ⟨s1, s2, s3, s4⟩ := Z I hz
    obtain ⟨V, W⟩ := BL hM hm N hB g2 hp hy h1 s2 (fun h hh => U h (f3 h hh)) s1 (fun J x' O I k1 M H => by obtain ⟨x0, q1, q2⟩ := s3 J x' O I k1 M H; exact ⟨x0, q1, q2, f1 J O H⟩)
     (fun x' y2 k1 M => .inr ⟨f2, .inr ⟨row', by rw [s4 x' y2 k1 M]; exact hl', rfl, h0'⟩⟩)
    exact ⟨rfl, _, Y, V, by rw [dI]; exact W⟩
   ·cases h
   ·obtain ⟨hs', hfr, rfl⟩ := yc.1 h
    obtain ⟨f1, f2, f3⟩ := FM hfr
    have hhead : ∀ J O, ¬ (J = i ∧ O = c) → aE J O ((i, c, x) :: hs') = aE J O hs := by
     intro J O H
     simp only [aE]
     rw [if_neg (fun hh => H ⟨hh.1.symm, hh.2.symm⟩)]; exact f1 J O H
    obtain ⟨V, W⟩ := BL (hs' := (i, c, x) :: hs') hM hm N hB g2 hp hy h1 rfl (fun h hh => by
      rcases yn1.1 hh with rfl | hh
      ·exact (yd.1 hp).1
      ·exact U h (f3 h hh)) hel (fun J x' O I k1 M H => ⟨x', k1, M, hhead J O H⟩)
     (fun x' y2 k1 M => .inl ⟨x, by simp [aE], hx⟩)
    exact ⟨rfl, _, Y, V, by rw [dI]; exact W⟩
  ·cases h
 ·cases h
theorem gG {i c : Nat} : ∀ {a b : List (Nat × Nat × AV)}, aE i c (a ++ b) = (match aE i c a with | some v => some v | none => aE i c b)
 | [], b => rfl
 | (i', c', v) :: a, b => by
  simp only [yp2, aE]
  split
  ·rfl
  ·exact gG
theorem fK {i c : Nat} : ∀ {hs : List (Nat × Nat × AV)}, (∀ h ∈ hs, ¬ (h.1 = i ∧ h.2.1 = c)) → aE i c hs = none
 | [], _ => rfl
 | (i', c', v) :: r, h => by
  simp only [aE]
  rw [if_neg (h _ (ym ..))]
  exact fK fun x H => h x (yh _ H)
theorem J8 {G : Gh} {w : World} {l : LK} {v : AV} {j c : Nat} {q : PV × List (Nat × Nat × AV)} {u : Value} (h : AS l v j c = some q) (I : VR G w v u) :
  l6 G w (aE j c q.2) q.1 u ∧ q.1.cells = [q.1] ∧ ∀ x ∈ q.2, x.1 = j ∧ x.2.1 = c := by
 unfold AS at h
 have hole : ∀ {p : PV}, q = (p, [(j, c, v)]) → p.cells = [p] → l6 G w (aE j c q.2) q.1 u ∧ q.1.cells = [q.1] ∧ ∀ x ∈ q.2, x.1 = j ∧ x.2.1 = c := by
  rintro p rfl J
  exact ⟨.inl ⟨v, by simp [aE], I⟩, J, fun x H => by simp at H; subst H; exact ⟨rfl, rfl⟩⟩
 split at h
 ·rw [aA] at h; obtain ⟨_, h⟩ := h; obtain rfl := ya h
  obtain rfl := I.lit_inv
  exact ⟨.inr ⟨rfl, .inl ⟨_, rfl, rfl⟩⟩, rfl, fun x H => by cases H⟩
 ·obtain rfl := ya h
  obtain rfl := I.lit_inv
  exact ⟨.inr ⟨rfl, .inl ⟨_, rfl, rfl⟩⟩, rfl, fun x H => by cases H⟩
 ·obtain rfl := ya h
  obtain rfl := I.lit_inv
  exact ⟨.inr ⟨rfl, .inl ⟨_, rfl, rfl⟩⟩, rfl, fun x H => by cases H⟩
 ·obtain rfl := ya h
  obtain rfl := I.lit_inv
  exact ⟨.inr ⟨rfl, .inr ⟨_, rfl, rfl, rfl⟩⟩, rfl, fun x H => by cases H⟩
 ·rename_i t e
  rw [aA] at h; obtain ⟨K, h⟩ := h; obtain rfl := ya h
  obtain rfl := I.lit_inv
  exact ⟨.inr ⟨rfl, .inr ⟨.pvs false e [], by simp only [cV, guardB, K, yl], rfl, rfl⟩⟩, rfl, fun x H => by cases H⟩
 ·exact hole (ya h).symm rfl
 ·exact hole (ya h).symm rfl
 ·rw [aA] at h; obtain ⟨_, h⟩ := h; exact hole (ya h).symm rfl
 ·rw [aA] at h; obtain ⟨_, h⟩ := h; exact hole (ya h).symm rfl
 ·cases h
theorem Bv {G : Gh} {w : World} {j : Nat} : ∀ {ls : List LK} {vs : List AV} {c : Nat} {q : List PV × List (Nat × Nat × AV)} {us : List Value}, Ma ls vs j c = some q → gW G w vs us →
  q.1.length = vs.length ∧ (∀ x ∈ q.2, x.1 = j ∧ c ≤ x.2.1) ∧ ∀ (k : Nat) (y : PV), q.1[k]? = some y → ∃ u, us[k]? = some u ∧ l6 G w (aE j (c + k) q.2) y u ∧ y.cells = [y]
 | [], [], c, q, us, h, J => by
  obtain rfl := ya h
  exact ⟨rfl, fun x H => (nomatch H), fun k y I => by simp at I⟩
 | [], v :: vs, c, q, us, h, _ => by simp [Ma] at h
 | l :: ls, [], c, q, us, h, _ => by simp [Ma] at h
 | l :: ls, v :: vs, c, q, [], h, J => by simp [gW] at J
 | l :: ls, v :: vs, c, q, u :: us, h, J => by
  simp only [Ma] at h
  rw [bind_some] at h; obtain ⟨a, ha, h⟩ := h
  obtain ⟨r, hr, rfl⟩ := yc.1 h
  obtain ⟨K, Z, O⟩ := J8 ha (J.2 0 v rfl)
  obtain ⟨r1, U, r3⟩ := Bv (us := us) hr ⟨by simpa using J.1, fun j y I => by simpa using J.2 (j + 1) y (by simpa using I)⟩
  refine ⟨by simp [r1], fun x H => ?_, fun k y I => ?_⟩
  ·rcases yo1.1 H with H | H
   ·obtain ⟨M, W⟩ := O x H; exact ⟨M, by omega⟩
   ·obtain ⟨M, W⟩ := U x H; exact ⟨M, by omega⟩
  ·cases k with
   | zero =>
    simp at I; subst I
    refine ⟨u, rfl, ?_, Z⟩
    simp only [ym1]
    rw [gG]
    have : aE j c r.2 = none := fK fun x H hh => by have := (U x H).2; omega
    rw [this]
    cases V : aE j c a.2 with
    | some v' => rw [V] at K; exact K
    | none => rw [V] at K; exact K
   | succ k =>
    simp only [yd1] at I
    obtain ⟨Y, N, hn, hc⟩ := r3 k y I
    refine ⟨Y, by simpa using N, ?_, hc⟩
    have : aE j (c + (k + 1)) a.2 = none := fK fun x H hh => by have := (O x H).2; omega
    simp only
    rw [gG, this, show c + (k + 1) = c + 1 + k by omega]; exact hn
theorem Cj {t : TypeId} {cs : List PV} {p : PV} (h : vO P t cs = some p) (H : ∀ (k : Nat) (y : PV), cs[k]? = some y → y.cells = [y]) : p.cells = cs := by
 unfold vO at h
 split at h
 ·obtain rfl := ya h; rfl
 ·split at h
  ·rename_i c _
   obtain rfl := ya h
   exact H 0 _ rfl
  ·cases h
 ·cases h
structure Hu (G : Gh) (w : World) (e j n : Nat) (us : List Value) (q : List PV × List (Nat × Nat × AV)) : Prop where
 len : q.1.length = n
 ix : ∀ x ∈ q.2, j ≤ x.1 ∧ x.1 < j + n
 size : ∀ x ∈ q.1, x.cells.length = e
 cell : ∀ (k c : Nat) (p y : PV), q.1[k]? = some p → p.cells[c]? = some y → ∃ u, us[k * e + c]? = some u ∧ l6 G w (aE (j + k) c q.2) y u
theorem mG {G : Gh} {w : World} {t : TypeId} {ls : List LK} {e : Nat} (N : ls.length = e) : ∀ {J : List (List AV)} {j : Nat} {q : List PV × List (Nat × Nat × AV)} {us : List Value}, CQ P t ls J j = some q →
  (∀ (k : Nat) (cs : List AV), J[k]? = some cs → gW G w cs ((us.drop (k * e)).take e)) → Hu G w e j J.length us q
 | [], j, q, us, h, V => by
  obtain rfl := ya h
  exact ⟨rfl, fun x H => (nomatch H), fun x H => (nomatch H), fun k c p y W => by simp at W⟩
 | cs :: J, j, q, us, h, V => by
  simp only [CQ] at h
  rw [bind_some] at h; obtain ⟨a, ha, h⟩ := h
  rw [bind_some] at h; obtain ⟨p, W, h⟩ := h
  obtain ⟨r, hr, rfl⟩ := yc.1 h
  have h0 := V 0 cs rfl
  simp only [yd3, List.drop_zero] at h0
  obtain ⟨a1, a2, Z⟩ := Bv ha h0
  have O := Cj W (fun k y K => by obtain ⟨_, _, _, h⟩ := Z k y K; exact h)
  have U : cs.length = e := by
   have : ∀ {ls : List LK} {vs : List AV} {c : Nat} {q : List PV × List (Nat × Nat × AV)}, Ma ls vs j c = some q → ls.length = vs.length := by
    intro ls
    induction ls with
    | nil => intro vs c q h; cases vs with | nil => rfl | cons v vs => simp [Ma] at h
    | cons l ls ih =>
     intro vs c q h
     cases vs with
     | nil => simp [Ma] at h
     | cons v vs =>
      simp only [Ma] at h
      rw [bind_some] at h; obtain ⟨_, _, h⟩ := h
      obtain ⟨r, hr, _⟩ := yc.1 h
      simp [ih hr]
   rw [← this ha, N]
  obtain ⟨r1, r2, r3, r4⟩ := mG N (us := us.drop e) hr (fun k cs hk => by
   have := V (k + 1) cs (by simpa using hk)
   rw [List.drop_drop, show e + k * e = (k + 1) * e by rw [yk1]; omega]; exact this)
  refine ⟨by simp [r1], fun x H => ?_, fun x H => ?_, fun k c p' y I K => ?_⟩
  ·rcases yo1.1 H with H | H
   ·have := (a2 x H).1; simp; omega
   ·have := r2 x H; simp; omega
  ·rcases yn1.1 H with rfl | H
   ·rw [O, a1, U]
   ·exact r3 x H
  ·cases k with
   | zero =>
    simp at I; subst I
    rw [O] at K
    obtain ⟨u, M, hn, _⟩ := Z c y K
    have Y : c < e := by have := (yd.1 K).1; omega
    rw [yj1, if_pos Y] at M
    refine ⟨u, by simpa using M, ?_⟩
    simp only [ym1]
    rw [gG]
    have : aE j c r.2 = none := fK fun x H hh => by have := (r2 x H).1; omega
    rw [this]
    rw [yc1] at hn
    cases ho : aE j c a.2 with
    | some v' => rw [ho] at hn; exact hn
    | none => rw [ho] at hn; exact hn
   | succ k =>
    simp only [yd1] at I
    obtain ⟨u, M, hn⟩ := r4 k c p' y I K
    rw [yz] at M
    refine ⟨u, by rw [← M]; congr 1; rw [yk1]; omega, ?_⟩
    have : aE (j + (k + 1)) c a.2 = none := fK fun x H hh => by have := (a2 x H).1; omega
    simp only
    rw [gG, this, show j + (k + 1) = j + 1 + k by omega]; exact hn
def ND (G : Gh) (w : World) (mem : aH) (b e : Nat) (Bold : Option Nat) (xs0 : List PV) (hs : List (Nat × Nat × AV)) (vs0 : List Value) : Prop :=
 ∀ (i : Nat) (x : PV) (c : Nat) (y : PV), xs0[i]? = some x → x.cells[c]? = some y → ∃ v, vs0[i * e + c]? = some v ∧ v.oneCell' = true ∧
  ((∃ a, aE i c hs = some a ∧ VR G w a v) ∨ (aE i c hs = none ∧ OR G w y v ∧ ∀ X n cap, (∃ row, cV y = some row) → v = .slice (some ⟨X, 0, none⟩) n cap →
   (∃ (x : a9) (B : Nat), mem[b]? = some (some x) ∧ eK G b x B ∧ cP w B x.row i c X) ∧ Bold ≠ some X))
theorem Cv {n : Nat} : ∀ {hs : List (Nat × Nat × AV)}, kJ n hs = true → ∀ h ∈ hs, h.1 < n
 | [], _, h, I => by cases I
 | (i, c, v) :: r, h, x, H => by
  simp only [kJ, yb] at h
  rcases yn1.1 H with rfl | H
  ·have := h.1; simp [Nat.blt] at this; exact this
  ·exact Cv h.2 x H
theorem mT {G : Gh} {w : World} {mem : aH} {b g' e n : Nat} {Bold : Option Nat} {xs0 : List PV} {hs : List (Nat × Nat × AV)} {vs0 us : List Value} {q : List PV × List (Nat × Nat × AV)} (hM : aF G w mem) (hno : G.loc b g' = none)
  (V : kJ xs0.length hs = true) (hsz : ∀ x ∈ xs0, x.cells.length = e) (hv0 : vs0.length = xs0.length * e) (W : ND G w mem b e Bold xs0 hs vs0) (H : Hu G w e xs0.length n us q) (h1 : ∀ u ∈ us, u.oneCell' = true) :
  vN G w mem b g' (.own e (xs0 ++ q.1) (hs ++ q.2)) Bold (vs0 ++ us) := by
 have V := Cv V
 have hoL : ∀ i c, i < xs0.length → aE i c (hs ++ q.2) = aE i c hs := by
  intro i c U
  rw [gG]
  have : aE i c q.2 = none := fK fun x J hh => by have := (H.ix x J).1; omega
  rw [this]; cases aE i c hs <;> rfl
 have hoR : ∀ k c, aE (xs0.length + k) c (hs ++ q.2) = aE (xs0.length + k) c q.2 := by
  intro k c
  rw [gG]
  have : aE (xs0.length + k) c hs = none := fK fun x J hh => by have := V x J; omega
  rw [this]
 have M : ∀ {i : Nat} {x : PV}, (xs0 ++ q.1)[i]? = some x → (i < xs0.length ∧ xs0[i]? = some x) ∨ (∃ k, i = xs0.length + k ∧ q.1[k]? = some x) := by
  intro i x h
  by_cases U : i < xs0.length
  ·rw [yn U] at h; exact .inl ⟨U, h⟩
  ·rw [yu (by omega)] at h; exact .inr ⟨i - xs0.length, by omega, h⟩
 have hsz2 : ∀ x ∈ xs0 ++ q.1, x.cells.length = e := fun x J => (yo1.1 J).elim (hsz x) (H.size x)
 have hL : ∀ {i c : Nat} {x y : PV} {v : Value}, xs0[i]? = some x → x.cells[c]? = some y → vs0[i * e + c]? = some v → (vs0 ++ us)[i * e + c]? = some v := fun _ _ hv => by rw [yn (yd.1 hv).1]; exact hv
 have hR : ∀ {k c : Nat} {u : Value}, us[k * e + c]? = some u → (vs0 ++ us)[(xs0.length + k) * e + c]? = some u := by
  intro k c u hu
  rw [yu (by rw [hv0, yk1]; omega), hv0, show (xs0.length + k) * e + c - xs0.length * e = k * e + c by rw [yk1]; omega]; exact hu
 refine ⟨fun w1 B' hev hsame O => ?_, fun w1 B' i c X O U => ?_⟩
 ·generalize hL' : (⟨some B', (Row.own e (xs0 ++ q.1) (hs ++ q.2)).e, (Row.own e (xs0 ++ q.1) (hs ++ q.2)).len⟩ : z4) = L
  have hg : c8 G (G.put b g' L) := c8.put (.inl hno)
  refine ⟨fun h hh => ?_, hsz2, fun i x c y J hy => ?_⟩
  ·rw [yi1, H.len]
   rcases yo1.1 hh with hh | hh
   ·have := V h hh; omega
   ·exact (H.ix h hh).2
  ·rcases M J with ⟨U, J⟩ | ⟨k, rfl, Z⟩
   ·obtain ⟨v, hv, hv1, N⟩ := W i x c y J hy
    refine ⟨v, O _ _ (hL J hy hv), hv1, ?_⟩
    rw [hoL i c U]
    rcases N with ⟨a, Y, ha⟩ | ⟨Y, N, hin⟩
    ·rw [Y]; exact ha.mono hg hev
    ·rw [Y]
     refine OR.mono hg hev N fun X m cap K hvv => ?_
     obtain ⟨⟨z, C, hz, hC, hiz⟩, hne⟩ := hin X m cap K hvv
     obtain ⟨_, k2, _, k4⟩ := hM.inn hz hC hiz
     exact ⟨.of (hsame X k2 hne), k4⟩
   ·obtain ⟨u, hu, hn⟩ := H.cell k c x y Z hy
    refine ⟨u, O _ _ (hR hu), h1 u (yt hu), ?_⟩
    rw [hoR]; exact hn.hr hg hev
 ·obtain ⟨⟨x, y, row, J, hy, K⟩, Y, m, cap, I⟩ := U
  rcases M J with ⟨U, J⟩ | ⟨k, rfl, Z⟩
  ·obtain ⟨v, hv, hv1, N⟩ := W i x c y J hy
   rw [O _ _ (hL J hy hv)] at I
   rw [hoL i c U] at Y
   rcases N with ⟨a, ho', ha⟩ | ⟨_, N, hin⟩
   ·rw [Y] at ho'; cases ho'
   ·exact (hin X m cap ⟨row, K⟩ (ya I)).1
  ·obtain ⟨u, hu, hn⟩ := H.cell k c x y Z hy
   rw [O _ _ (hR hu)] at I
   rw [hoR] at Y
   rw [Y] at hn
   exact absurd (ya I) (hn.out K)
theorem LN {G : Gh} {w : World} {mem : aH} {b : Nat} {K : a9} {B e n : Nat} {xs : List PV} {hs : List (Nat × Nat × AV)} (hM : aF G w mem) (N : mem[b]? = some (some K)) (I : K.row = .own e xs hs) (hB : eK G b K B) (he : 1 ≤ e) (hn : n ≤ xs.length) :
  ∃ vs0 : List Value, vs0.length = n * e ∧ ND G w mem b e (some B) (xs.take n) hs vs0 ∧ (∀ j u, vs0[j]? = some u → cl w B j = some u) ∧ ∀ x ∈ xs.take n, x.cells.length = e := by
 obtain ⟨hl, hmi, hlt, hfr, hr, hpr⟩ := hM.blk N hB
 rw [I] at hr
 obtain ⟨r1, Z, r3⟩ := hr
 have hce : ∀ {i c : Nat} {x y : PV}, xs[i]? = some x → x.cells[c]? = some y → c < e := fun J U => by rw [← Z _ (yt J)]; exact (yd.1 U).1
 refine ⟨(List.range (n * e)).map (fun j => (cl w B j).getD undef), by simp, fun i x c y J U => ?_, fun j u W => ?_, fun x N => Z x (yy2 N)⟩
 ·have M : i < n := by have := (yd.1 J).1; simp at this; omega
  rw [yj1, if_pos M] at J
  obtain ⟨v, V, hv1, Y⟩ := r3 i x c y J U
  refine ⟨v, by simp [Bn (hce J U) M, V], hv1, ?_⟩
  cases ho : aE i c hs with
  | some a => rw [ho] at Y; exact .inl ⟨a, rfl, Y⟩
  | none =>
   rw [ho] at Y
   refine .inr ⟨rfl, Y, fun X m cap H hvv => ?_⟩
   obtain ⟨O, H⟩ := H
   have M : cP w B K.row i c X := by rw [I]; exact ⟨⟨x, y, O, J, U, H⟩, ho, m, cap, by rw [V, hvv]⟩
   exact ⟨⟨K, B, N, hB, M⟩, fun h => by
    obtain rfl := ya h
    exact hM.inA b b K K _ i c _ N hB M N hB⟩
 ·have hj : j < n * e := by have := (yd.1 W).1; simpa using this
  simp [hj] at W
  have M : j / e < n := by rw [Nat.div_lt_iff_lt_mul (by omega)]; exact hj
  have hc : j % e < (xs[j / e]'(by omega)).cells.length := by rw [Z _ (yr2 _)]; exact Nat.mod_lt _ (by omega)
  obtain ⟨v, V, _⟩ := r3 (j / e) _ (j % e) _ (yf (by omega)) (yf hc)
  rw [show j / e * e + j % e = j by rw [yk2]; exact Nat.div_add_mod j e] at V
  rw [V] at W ⊢
  simp at W; rw [W]
end
end Go.Ab
end
section
namespace Go.Ab
variable [b4]
theorem gW.chunks {G : Gh} {w : World} {cs : List AV} {us : List Value} (h : gW G w cs us) {e n k : Nat} {c : List AV} (J : (chunks e n cs)[k]? = some c) : gW G w c ((us.drop (k * e)).take e) := by
 have K : k < n := by have := (yd.1 J).1; rwa [fP] at this
 rw [y9 K] at J
 obtain rfl := ya J
 refine ⟨by simp [h.1], fun j y I => ?_⟩
 have H : j < e := by have := (yd.1 I).1; simp at this; omega
 rw [yj1, if_pos H, yz] at I
 have hj := (yd.1 I).1
 have := h.2 _ y I
 rw [yi, yj1, if_pos H, yz, ← yi]; exact this
theorem bF.avs {G : Gh} {w : World} {e : Nat} {cs : List AV} {us : List Value} (h : bF G w (.avs e cs) us) : gW G w cs us ∧ us.length = aN e cs.length * e ∧ ∀ u ∈ us, u.oneCell' = true := by
 obtain ⟨H, K, J, N⟩ := h
 refine ⟨⟨by rw [H]; show cs.length = aN e cs.length * e; rw [yk2]; exact J, fun j y I => ?_⟩, H, K⟩
 obtain ⟨u, O, M⟩ := N j y I
 rw [yi, O]; exact M
theorem Jt {G : Gh} {w : World} {mem : aH} {b : Nat} {row : Row} {vs : List Value} {t : TypeId} (hM : aF G w mem) (M : mem[b]? = some none) (Y : 1 ≤ row.e) (J : vN G w mem b 0 row none vs) :
  ∃ O, c8 G O ∧ Ev G w (w.alloc (.cells vs.toArray t)) ∧ aF O (w.alloc (.cells vs.toArray t)) (mem.set b (some { gen := 0, frz := false, row })) ∧ O.loc b 0 = some ⟨some w.heap.size, row.e, row.len⟩ ∧
   ∀ j u, vs[j]? = some u → cl (w.alloc (.cells vs.toArray t)) w.heap.size j = some u := by
 have N : G.loc b 0 = none := hM.unset b 0 (fun x K => by rw [M] at K; cases K)
 have W : c8 G (G.put b 0 ⟨some w.heap.size, row.e, row.len⟩) := c8.put (.inl N)
 have I := Ev.alloc G w (.cells vs.toArray t) hM.away
 have H : ∀ j u, vs[j]? = some u → cl (w.alloc (.cells vs.toArray t)) w.heap.size j = some u := fun j u V => by rw [jG]; simpa using V
 refine ⟨_, W, I, hM.make M Y (J.row _ _ I (fun X hX _ => eV hX) H) (fun i c B' U => ?_), Gh.put_self .., H⟩
 obtain ⟨x, _, K, _⟩ := J.inn _ _ i c B' H U
 rw [M] at K; cases K
section
variable {P : Program} {G : Gh} {w : World} {mem : aH} {o : Oper} {a : Act} {out : dE}
theorem F6 {own : Bool} {t tx ty : TypeId} {rs : Nat} {x y : AV} {cx cy : Value} (hM : aF G w mem) (hrs : mem[rs]? = some none)
  (h : l4 P own t tx mem rs x y = some out) (Y : VR G w x cx) (hy : VR G w y cy) :
  ∃ G' w1 cv, (Builtin.append_ #[t, tx] ty #[cx, cy]).run P w = .ok cv w1 ∧ VR G' w1 out.v cv ∧ c8 G G' ∧ Ev G w w1 ∧ aF G' w1 (out.apply mem) := by
 unfold l4 at h
 rw [bind_some] at h; obtain ⟨et, het, h⟩ := h
 rw [bind_some] at h; obtain ⟨s, hs, h⟩ := h
 rw [bind_some] at h; obtain ⟨bytes, hby, h⟩ := h
 rw [bind_some] at h; obtain ⟨z, hz, h⟩ := h
 rw [bind_some] at h; obtain ⟨ls, hls, h⟩ := h
 rw [bind_some] at h; obtain ⟨yv, hyv, h⟩ := h
 obtain ⟨yv1, yrd⟩ := yv
 simp only at h
 split at h
 ·rename_i e cs
  rw [aA] at h; obtain ⟨V, h⟩ := h
  simp only [yb] at V
  obtain ⟨⟨⟨⟨⟨⟨g1, g2⟩, g3⟩, g4⟩, g5⟩, g6⟩, g7⟩ := V
  obtain rfl := bJ.1 g1
  have g3 := cU.1 g3; have g4 := cU.1 g4; have g5 := bJ.1 g5; have g6 := bJ.1 g6
  obtain ⟨i, zv0, hE⟩ := Gf het hs hby hz g3 g4 g5
  obtain ⟨news, U, hnews⟩ := yT hM hyv hy hs g2
  obtain ⟨hL, hnl, J⟩ := hnews.avs
  have hch : ∀ (k : Nat) (c : List AV), (chunks s (aN s cs.length) cs)[k]? = some c → gW G w c ((news.drop (k * s)).take s) := fun k c hk => hL.chunks hk
  split at h
  ·obtain rfl := Y.lit_inv
   rw [aA] at h; obtain ⟨_, h⟩ := h
   rw [bind_some] at h; obtain ⟨q, hq, h⟩ := h
   rw [aA] at h; obtain ⟨hml, h⟩ := h
   simp only [yb] at hml
   obtain rfl := ya h
   have H := mG g6 hq hch
   rw [fP] at H
   have N : ∀ g, 0 ≤ g → G.loc rs g = none := fun g _ => hM.unset rs g (fun x Y => by rw [hrs] at Y; cases Y)
   have I := mT (Bold := none) (xs0 := []) (hs := []) (vs0 := []) hM (N 0 (yy _)) rfl (fun x Y => by cases Y) (by simp) (fun i x c y h1 => by simp at h1) H J
   simp only [ya3] at I
   rw [dI]
   exact kR hM (yd.1 hrs).1 N hE U (by have := cU.1 hml.2; rw [H.len] at this; exact this) rfl H.len I (fun _ => rfl)
  ·rename_i b g
   rw [bind_some] at h; obtain ⟨bx, hbx, h⟩ := h
   obtain ⟨hm, hge, hown⟩ := boxO?_some hbx
   subst hge
   split at h
   ·rename_i e' xs hs' O
    rw [bind_some] at h; obtain ⟨q, hq, h⟩ := h
    rw [aA] at h; obtain ⟨V, h⟩ := h
    simp only [yb, yq] at V
    obtain ⟨⟨⟨c1, c2⟩, c3⟩, W⟩ := V
    obtain rfl := bJ.1 c2
    have W := cU.1 W
    obtain rfl := ya h
    have H := mG g6 hq hch
    rw [fP] at H
    rw [dI]
    have N := fun g V => hM.gens b bx g hm V
    have K : (xs ++ q.1).length = xs.length + aN s cs.length := by rw [yi1, H.len]
    cases Y with
    | msw _ _ cap L B hl hb hn hf =>
     have hB : eK G b bx B := ⟨L, hl, hb⟩
     obtain ⟨M, _⟩ := hM.blk hm hB
     have Z := hl
     rw [M] at Z
     obtain rfl := ya Z
     obtain ⟨vs0, v1, v2, v3, v4⟩ := LN hM hm O hB g4 (yy _)
     rw [List.take_length] at v2 v4
     have I := mT (g' := bx.gen + 1) hM (N _ (yx2 _)) c3 v4 v1 v2 H J
     rw [O] at hn hf ⊢
     exact zE (row' := .own s (xs ++ q.1) (hs' ++ q.2)) hM hm M c1 hE v1 v3 hn hf U rfl K I W
    | mswNil _ _ L hl hb hn =>
     obtain ⟨oo, M, hmm⟩ := (hM.box b bx hm).loc
     rw [hl] at M
     obtain rfl := ya M
     rw [O] at hn
     have hx0 : xs = [] := yo hn
     subst hx0
     have I := mT (g' := bx.gen + 1) (Bold := none) (xs0 := []) (vs0 := []) hM (N _ (yx2 _)) c3 (fun x Y => by cases Y) (by simp) (fun i x c y h1 => by simp at h1) H J
     simp only [ya3] at I K W
     exact kR (row' := .own s (q.1) (hs' ++ q.2)) hM (yd.1 hm).1 (fun g V => N g V) hE U (by rw [H.len] at W; exact W) rfl H.len I (fun _ => rfl)
   ·cases h
  ·rename_i b g n
   rw [bind_some] at h; obtain ⟨bx, hbx, h⟩ := h
   obtain ⟨hm, hge, hown⟩ := boxO?_some hbx
   subst hge
   split at h
   ·rename_i e' xs hs' O
    rw [bind_some] at h; obtain ⟨q, hq, h⟩ := h
    rw [aA] at h; obtain ⟨V, h⟩ := h
    simp only [yb, yq] at V
    obtain ⟨⟨⟨⟨c1, c2⟩, c0⟩, c3⟩, W⟩ := V
    obtain rfl := bJ.1 c2
    have W := cU.1 W; have c0 := cU.1 c0
    obtain rfl := ya h
    have H := mG g6 hq hch
    rw [fP] at H
    rw [dI]
    have N := fun g V => hM.gens b bx g hm V
    have htl : (xs.take n).length = n := by simp; omega
    have K : (xs.take n ++ q.1).length = n + aN s cs.length := by rw [yi1, H.len, htl]
    cases Y with
    | ms _ _ _ _ cap L B hl hb hn hon hf =>
     have hB : eK G b bx B := ⟨L, hl, hb⟩
     obtain ⟨M, _⟩ := hM.blk hm hB
     have Z := hl
     rw [M] at Z
     obtain rfl := ya Z
     obtain ⟨vs0, v1, v2, v3, v4⟩ := LN hM hm O hB g4 c0
     have I := mT (g' := bx.gen + 1) hM (N _ (yx2 _)) (by rw [htl]; exact c3) v4 (by rw [htl]; exact v1) v2 (by rw [htl]; exact H) J
     simp only [yc1] at hf
     rw [O] at hf
     simp only [yd3]
     exact zE (row' := .own s (xs.take n ++ q.1) (hs' ++ q.2)) hM hm M c1 hE v1 v3 hn hf U rfl K I W
    | msNil _ _ L hl hb =>
     obtain ⟨oo, M, hmm⟩ := (hM.box b bx hm).loc
     rw [hl] at M
     obtain rfl := ya M
     simp only [List.take_zero, ya3] at K W hq ⊢
     have I := mT (g' := bx.gen + 1) (Bold := none) (xs0 := []) (vs0 := []) hM (N _ (yx2 _)) c3 (fun x Y => by cases Y) (by simp) (fun i x c y h1 => by simp at h1) H J
     simp only [ya3] at I
     exact kR (row' := .own s (q.1) (hs' ++ q.2)) hM (yd.1 hm).1 (fun g V => N g V) hE U (by rw [H.len] at W; exact W) rfl H.len I (fun _ => rfl)
    | msZ _ _ _ B oo L hl hb ho hon => omega
   ·cases h
  ·cases h
 ·cases h
theorem CE {t : TypeId} {rs : Nat} {x : Operand} (hM : aF G w mem) (hm : mem[rs]? = some none) (U : x = .const (.slice none 0 0)) (W : execOp a.eval o = pure (Next.value (a.eval x))) (h : Gm P t rs = some out) : n6 P G w mem o a out := by
 unfold Gm at h
 rw [bind_some] at h; obtain ⟨et, M, h⟩ := h
 rw [bind_some] at h; obtain ⟨e, V, h⟩ := h
 rw [aA] at h; obtain ⟨H, h⟩ := h
 obtain rfl := ya h
 have H := cU.1 H
 subst U
 obtain ⟨O, N, K, I⟩ := Ba (b := rs) (g' := 0) (row' := .own e [] []) hM (yd.1 hm).1 (fun g _ => hM.unset rs g (fun y J => by rw [hm] at J; cases J)) H rfl rfl
 refine kB.opW ⟨O, w, .value (a.eval (.const (.slice none 0 0))), _, by rw [W]; simp, .inl rfl, ?_, N, Ev.refl G w, by simpa [dE.apply, aJ] using I⟩
 exact .mswNil rs 0 _ K rfl rfl
theorem IM {ρ : Operand → Option AV} {rs : Nat} {t : TypeId} {l c : Operand} (hM : aF G w mem) (hrs : mem[rs]? = some none) (hρ : Ny G w ρ a) (h : GU P ρ mem rs t l c = some out) :
  ∃ Y w' cv, (Instr.makeSlice t (a.eval l) (a.eval c)).run P w = .ok cv w' ∧ VR Y w' out.v cv ∧ c8 G Y ∧ Ev G w w' ∧ aF Y w' (out.apply mem) := by
 unfold GU at h
 rw [bind_some] at h; obtain ⟨et, het, h⟩ := h
 rw [bind_some] at h; obtain ⟨z, hz, h⟩ := h
 rw [bind_some] at h; obtain ⟨vl, hl, h⟩ := h
 rw [bind_some] at h; obtain ⟨vc, hc, h⟩ := h
 rw [bind_some] at h; obtain ⟨ls, hls, h⟩ := h
 split at h
 ·rename_i k1 n k2 n'
  rw [aA] at h; obtain ⟨hg, h⟩ := h
  simp only [yb, beq_iff_eq, decide_eq_true_eq] at hg
  obtain ⟨⟨hnn, hn0⟩, I⟩ := hg
  subst hnn
  have I := cU.1 I
  rw [bind_some] at h; obtain ⟨q, hq, h⟩ := h
  rw [bind_some] at h; obtain ⟨p, hp, h⟩ := h
  rw [bind_some] at h; obtain ⟨e, he, h⟩ := h
  rw [bind_some] at h; obtain ⟨bytes, N, h⟩ := h
  rw [aA] at h; obtain ⟨hg, h⟩ := h
  simp only [yb] at hg
  obtain ⟨⟨⟨⟨g1, g2⟩, Z⟩, g5⟩, g4⟩ := hg
  have g1 := cU.1 g1; have g2 := cU.1 g2; have Z := bJ.1 Z
  have g4 : q.2 = [] := by cases hh : q.2 with | nil => rfl | cons _ _ => rw [hh] at g4; cases g4
  obtain ⟨i, H, hi, hzv, hov⟩ := j1 hz
  have V : VR G w z H := k8 hov
  have el := (hρ _ _ hl).lit_inv
  have ec := (hρ _ _ hc).lit_inv
  obtain ⟨m, rfl⟩ : ∃ m : Nat, n = (m : Int) := ⟨n.toNat, by omega⟩
  rw [ym3] at I h
  obtain rfl := ya h
  have his : i.size = e := by unfold iN at he; rw [hi] at he; simpa using he
  have hib : i.bytes ≤ 4096 := by unfold jI at N; rw [hi] at N; simp at N; omega
  have O : H.cells.size = e := by rw [← Z]; simpa using V.cells.1.symm
  obtain ⟨a1, a2, a3⟩ := Bv hq V.cells
  have hpc := Cj hp (fun k y hy => by obtain ⟨_, _, _, h⟩ := a3 k y hy; exact h)
  have hno : G.loc rs 0 = none := hM.unset rs 0 (fun x M => by rw [hrs] at M; cases M)
  have hfl : ∀ k c, k < m → c < e → (flat (List.replicate m H))[k * e + c]? = H.cells.toList[c]? := fun k c W hc => o6 (fun u K => by rw [(yj2.1 K).2]; exact O) (by rw [yw1, if_pos W]) hc
  have hone : ∀ u ∈ flat (List.replicate m H), u.oneCell' = true := by
   intro u K
   obtain ⟨z', hz', K⟩ := IJ K
   rw [(yj2.1 hz').2] at K
   obtain ⟨j, hj, rfl⟩ := yt1 K
   exact V.cells.ones g5 _ (yr2 hj)
  have hne : Hu G w e ([] : List PV).length m (flat (List.replicate m H)) (List.replicate m p, []) := by
   refine ⟨by simp, fun x M => (nomatch M), fun x M => ?_, fun k c p' y U hy => ?_⟩
   ·rw [(yj2.1 M).2, hpc, a1, Z]
   ·have W : k < m := by have := (yd.1 U).1; simpa using this
    simp only [yw1, if_pos W, Option.some.injEq] at U
    subst U
    rw [hpc] at hy
    obtain ⟨u, K, hn, _⟩ := a3 c y hy
    have hce : c < e := by rw [← Z, ← a1]; exact (yd.1 hy).1
    rw [g4] at hn
    exact ⟨u, by rw [hfl k c W hce]; exact K, hn⟩
  have hok := mT (Bold := none) (xs0 := []) (hs := []) (vs0 := []) hM hno rfl (fun x M => by cases M) (by simp) (fun i x c y h1 => by simp at h1) hne hone
  simp only [ya3] at hok
  obtain ⟨Y, hg', hev, hM', hl', hcl⟩ := Jt (t := et) (row := .own e (List.replicate m p) []) hM hrs g1 hok
  have hfit := sI I hib
  have J := run_make (P := P) w t et i H (mI het) hi hzv k1 k2 m m (by omega) (Int.le_refl _) (by
    have h : ((m * i.bytes : Nat) : Int) ≤ 281474976710656 := by omega
    rw [Int.natCast_mul, Int.mul_comm] at h; exact h) (by unfold bD at I; omega)
  simp only [ym3] at J
  have hc' : madeCells H.cells (m * i.size) = (flat (List.replicate m H)).toArray := by
   have := iY H.cells (by omega) m
   rw [← yf2 (xs := madeCells H.cells (m * i.size)), e6, ← this, his]
   simp only [madeCells, O]
  rw [hc'] at J
  rw [el, ec]
  refine ⟨Y, _, _, J, ?_, hg', hev, by rw [dI]; exact hM'⟩
  have W : VR Y (w.alloc (.cells (flat (List.replicate m H)).toArray et)) (.msw rs 0) (.slice (some ⟨w.heap.size, 0, none⟩) (Row.own e (List.replicate m p) []).len m) := by
   refine .msw rs 0 m _ w.heap.size hl' rfl (by simp [Row.len]) (fun j hj => ?_)
   simp only [Row.e] at hj
   have hj2 : j < (flat (List.replicate m H)).length := by rw [gD (e := e) (fun u K => by rw [(yj2.1 K).2]; exact O)]; simpa using hj
   rw [hcl j _ (yf hj2)]; rfl
  simpa [Row.len] using W
 ·cases h
theorem Hi {ρ : Operand → Option AV} {rs : Nat} {t : TypeId} {len : Nat} {I : Array (Nat × Operand)} (hM : aF G w mem) (hrs : mem[rs]? = some none) (hρ : Ny G w ρ a) (h : A2 P ρ mem rs t len I = some out) :
  ∃ G' w' cv, (Instr.buildSlice t len (I.map fun p => (p.1, a.eval p.2))).run P w = .ok cv w' ∧ VR G' w' out.v cv ∧ c8 G G' ∧ Ev G w w' ∧ aF G' w' (out.apply mem) := by
 unfold A2 at h
 rw [bind_some] at h; obtain ⟨et, het, h⟩ := h
 rw [bind_some] at h; obtain ⟨z, hz, h⟩ := h
 rw [bind_some] at h; obtain ⟨s, hs, h⟩ := h
 rw [bind_some] at h; obtain ⟨ps, hps, h⟩ := h
 rw [bind_some] at h; obtain ⟨ls, hls, h⟩ := h
 rw [aA] at h; obtain ⟨hg, h⟩ := h
 rw [bind_some] at h; obtain ⟨q, hq, h⟩ := h
 rw [aA] at h; obtain ⟨N, h⟩ := h
 obtain rfl := ya h
 simp only [yb] at hg
 obtain ⟨⟨⟨⟨⟨⟨g1, g2⟩, g3⟩, g4⟩, g5⟩, g6⟩, g7⟩ := hg
 have g2 := cU.1 g2; have g3 := cU.1 g3; have g4 := cU.1 g4; have g6 := bJ.1 g6; have g7 := cU.1 g7
 have hp := yX hρ hps
 generalize (I.map fun p => (p.1, a.eval p.2)) = qs at hp ⊢
 have hu := mI het
 obtain ⟨i, H, hi, hzv, hov⟩ := j1 hz
 have K : i.size = s := by unfold iN at hs; rw [hi] at hs; simpa using hs
 have hzr : VR G w z H := k8 hov
 have hsz := sJ g5
 have O : H.cells.size = s := by rw [← hsz z (ym ..)]; simpa using hzr.cells.1.symm
 have hL0 : gW G w (List.replicate len z) (List.replicate len H) := by
  refine ⟨by simp, fun j y hy => ?_⟩
  obtain ⟨V, rfl⟩ : j < len ∧ z = y := by
   have Z := (yd.1 hy)
   obtain ⟨Z, h2⟩ := Z
   simp at Z h2; exact ⟨Z, h2⟩
  rw [yi, yw1, if_pos V]; exact hzr
 have hL := zD hL0 hp
 have hqs : ∀ q ∈ qs.toList, q.2.cells.size = s ∧ q.1 < (List.replicate len H).length := by
  intro q hq
  obtain ⟨j, V, rfl⟩ := yt1 hq
  have J : j < ps.length := by rw [hp.1]; exact V
  obtain ⟨v, hv, Y⟩ := hp.2 j _ (yf J)
  rw [yf V] at hv
  have hqe := ya hv
  rw [hqe]
  refine ⟨?_, by simp only [yv2]; exact r9 g1 _ (yr2 J)⟩
  rw [← hsz (ps[j].2) (yh _ (yu2.2 ⟨_, yr2 J, rfl⟩))]
  simpa using Y.cells.1.symm
 have hz1 : ∀ u ∈ List.replicate len H, u.cells.size = s := fun u hu => by rw [(yj2.1 hu).2]; exact O
 have W := oE hz1 (fun q h => (hqs q h).1)
 have hlen : (mS (List.replicate len z) ps).length = len := by rw [oI]; simp
 have hone : ∀ u ∈ flat (fL (List.replicate len H) qs.toList), u.oneCell' = true := (pL hL).ones N
 have U : Hu G w s ([] : List PV).length len (flat (fL (List.replicate len H) qs.toList)) q := by
  have := mG g6 hq (us := flat (fL (List.replicate len H) qs.toList)) (fun k cs hk => by
   rw [yb1] at hk
   obtain ⟨v, hv, rfl⟩ := yc.1 hk
   obtain ⟨u, hu, Y⟩ := hL.get hv
   have : ((flat (fL (List.replicate len H) qs.toList)).drop (k * s)).take s = u.cells.toList := by
    have hcs := W u (yt hu)
    apply List.ext_getElem?
    intro c
    rw [yj1]
    by_cases hc : c < s
    ·rw [if_pos hc, yz, o6 W hu hc]
    ·rw [if_neg hc, ya1 (by simp [hcs]; omega)]
   rw [this]; exact Y.cells)
  rw [ye1, hlen] at this; exact this
 have hno : G.loc rs 0 = none := hM.unset rs 0 (fun x hx => by rw [hrs] at hx; cases hx)
 have hok := mT (Bold := none) (xs0 := []) (hs := []) (vs0 := []) hM hno rfl (fun x hx => by cases hx) (by simp) (fun i x c y Z => by simp at Z) U hone
 simp only [ya3] at hok
 obtain ⟨G', hg', hev, hM', hl', hcl⟩ := Jt (t := et) (row := .own s q.1 q.2) hM hrs g3 hok
 have hlt : len * s ≤ 16777216 := ya2 (Nat.mul_le_mul g2 g4) (by decide)
 have hpos : 0 < len * s := Nat.mul_pos (by omega) (by omega)
 have hc0 : ((Array.range (len * i.size)).map (H.cells[· % H.cells.size]!)).toList = flat (List.replicate len H) := by
  rw [K, e6]
  have := iY H.cells (by omega) len
  rw [O] at this
  rw [O]; exact this
 obtain ⟨c', hf, hc'⟩ := Bf hc0 hz1 hqs
 have M : c' = (flat (fL (List.replicate len H) qs.toList)).toArray := by rw [← hc']
 refine ⟨G', _, _, run_buildSlice w t et len qs c' i H hu hi hzv (by rw [K]; omega) (by rw [K]; omega) (by rw [K] at hf ⊢; exact hf), ?_, hg', by rw [M]; exact hev, by rw [dI, M]; exact hM'⟩
 rw [M]
 have hk : VR G' (w.alloc (.cells (flat (fL (List.replicate len H) qs.toList)).toArray et)) (.msw rs 0) (.slice (some ⟨w.heap.size, 0, none⟩) (Row.own s q.1 q.2).len len) := by
  refine .msw rs 0 len _ w.heap.size hl' rfl (by simp only [Row.len]; rw [U.len]; exact yy _) (fun j V => ?_)
  simp only [Row.e] at V
  have J : j < (flat (fL (List.replicate len H) qs.toList)).length := by rw [gD (e := s) W, sK]; simpa using V
  rw [hcl j _ (yf J)]; rfl
 simp only [Row.len] at hk
 rw [U.len] at hk; exact hk
theorem FE {own : Bool} {b : Builtin} {ts : Array TypeId} {ty : TypeId} {consts : Array Bool} {rs : Nat} {args : List AV} {vs : Array Value} (hM : aF G w mem) (N : b = .append → mem[rs]? = some none)
  (h : k9 P own b ts.toList mem rs args = some out) (J : nC G w args vs) :
  ∃ s : Sem Value, builtin b ts ty consts vs = (do pure (Next.value (← s))) ∧ ∃ O M cv, s.run P w = .ok cv M ∧ VR O M out.v cv ∧ c8 G O ∧ Ev G w M ∧ aF O M (out.apply mem) := by
 unfold k9 at h
 split at h
 ·rename_i t x I
  have H : ts = #[t] := by rw [← I, yf2]
  obtain ⟨x', rfl⟩ := O9 J.1.symm
  have K := J.2 0 x rfl
  simp at K
  subst H
  obtain ⟨V, W, n, hn, ⟨e, Y⟩, ad, cap, rfl⟩ := KP (ty := ty) hM h K
  exact ⟨_, rfl, G, w, .int .i64 (n : Int), by simp [Builtin.len_, Builtin.lenOf, run_underlying Y, goInt], by rw [hn]; exact .lit _ rfl, c8.refl G, Ev.refl G w, by simpa only [dE.apply, V, W, aJ, yg1] using hM⟩
 ·rename_i t Z x y I
  have H : ts = #[t, Z] := by rw [← I, yf2]
  obtain ⟨x', y', rfl⟩ := Ps J.1.symm
  have K := J.2 0 x rfl
  have U := J.2 1 y rfl
  simp at K U
  subst H
  exact ⟨_, rfl, F6 hM (N rfl) h K U⟩
 ·cases h
theorem My {own tk : Bool} {ρ : Operand → Option AV} {rs : Nat} (hM : aF G w mem) (N : d4 o.op = true → mem[rs]? = some none) (K : Ny G w ρ a) (I : bI own ρ mem o.op = true)
  (h : F4 P own tk o ρ mem rs = some out) : n6 P G w mem o a out := by
 unfold F4 at h
 split at h
 ·rename_i x H
  rw [H] at I
  simp only [bI, yb] at I
  exact CE hM (N (by rw [H]; exact I.2)) (Bz I.2) (by simp only [execOp, H]) h
 ·rename_i x H
  rw [H] at I
  simp only [bI, yb] at I
  exact CE hM (N (by rw [H]; exact I.2)) (Bz I.2) (by simp only [execOp, H]) h
 ·rename_i t len parts H
  exact n6.value (by simp only [execOp, H] <;> rfl) (Hi hM (N (by rw [H]; rfl)) K h)
 ·rename_i t l c H
  exact n6.value (by simp only [execOp, H] <;> rfl) (IM hM (N (by rw [H]; rfl)) K h)
 ·rename_i t x H
  rw [bind_some] at h; obtain ⟨v, hv, h⟩ := h
  obtain ⟨G', cv, J, M, hg, U⟩ := Jw hM h (K _ _ hv)
  exact n6.value (by simp only [execOp, H] <;> rfl) ⟨G', w, cv, J, M, hg, Ev.refl G w, U⟩
 ·rename_i t x y H
  rw [bind_some] at h; obtain ⟨vx, V, h⟩ := h
  rw [bind_some] at h; obtain ⟨vy, hy, h⟩ := h
  obtain ⟨Z, w', J, hev, U⟩ := H5 hM h (K _ _ V) (K _ _ hy)
  refine kB.opW ⟨G, w', .skip, undef, ?_, .inr ⟨rfl, rfl⟩, by rw [Z]; exact .lit _ rfl, c8.refl G, hev, U⟩
  simp only [execOp, H, Sem.run_bind, J, Result.andThen_ok, Sem.run_pure]
 ·rename_i t x lo hi mx H
  rw [bind_some] at h; obtain ⟨vx, V, h⟩ := h
  rw [bind_some] at h; obtain ⟨vl, hl, h⟩ := h
  rw [bind_some] at h; obtain ⟨vh, hh, h⟩ := h
  rw [bind_some] at h; obtain ⟨vm, hm, h⟩ := h
  obtain ⟨W, Y, cv, J, M⟩ := HO hM h (K _ _ V) (mB K hl) (mB K hh) (mB K hm)
  exact n6.still hM (by simp only [execOp, H] <;> rfl) W Y J M
 ·rename_i t x ix H
  rw [bind_some] at h; obtain ⟨vx, V, h⟩ := h
  rw [bind_some] at h; obtain ⟨vi, hi, h⟩ := h
  split at h
  ·rename_i k i
   have ei := (K _ _ hi).lit_inv
   obtain ⟨W, Y, cv, J, M⟩ := H4 (k := k) hM h (K _ _ V)
   exact n6.still hM (by simp only [execOp, H] <;> rfl) W Y (by rw [ei]; exact J) M
  ·cases h
 ·rename_i c H
  rw [bind_some] at h; obtain ⟨args, O, h⟩ := h
  have hav := AT K O
  split at h
  ·rename_i b hc
   obtain ⟨s, hs, hh⟩ := FE (ty := o.type) (consts := c.args.map fun | .const _ => true | _ => false) hM (fun hb => N (by rw [H]; subst hb; unfold d4; obtain ⟨cc, _, _⟩ := c; simp only at hc; subst hc; rfl)) h hav
   refine n6.value (s := s) ?_ hh
   rw [← hs]
   simp only [execOp, H, resolve, hc, invoke]
   rfl
  ·cases h
 ·cases h
theorem Mc {C : bQ} {own tk boxed raw vars : Bool} {ρ : Operand → Option AV} {rs : Nat} (hM : aF G w mem) (I : d4 o.op = true → mem[rs]? = some none) (K : Ny G w ρ a)
  (H : ∀ {raw keep : Bool} {g : FuncId} {ts : List TypeId} {O args M : List AV} {out : dE} {U N cv : Array Value}, yI P C raw keep g ts O args M mem = some out → nC G w O U → nC G w args N → nC G w M cv → KI P G w mem g (U ++ N ++ cv) out)
  (h : FZ P C own tk boxed raw vars o ρ mem rs = some out) : n6 P G w mem o a out := by
 unfold FZ at h
 cases J : bI own ρ mem o.op with
 | true => rw [J] at h; exact My hM I K J h
 | false => rw [J] at h; exact Mx hM I K H h
end
end Go.Ab
end
section
namespace Go.Ab
variable [b4]
theorem eX (f : jV) : ∀ cs : List AV, AV.renAll f cs = cs.map (·.ren f)
 | [] => by simp [AV.renAll]
 | c :: cs => by simp [AV.renAll, eX f cs]
theorem i4 : ∀ {cs : List AV} {j : Nat} {y : AV}, cs[j]? = some y → y.lent = true → AV.lentAny cs = true
 | [], j, y, h, _ => by simp at h
 | c :: cs, 0, y, h, H => by simp at h; subst h; simp [AV.lentAny, H]
 | c :: cs, j + 1, y, h, H => by simp [AV.lentAny, i4 (cs := cs) (j := j) (by simpa using h) H]
def Cx (G G2 : Gh) (f : jV) : Prop := ∀ b g q L, f b g = some q → G.loc b g = some L → G2.loc q.1 q.2 = some L
theorem pW {f : jV} {cs : List AV} {j : Nat} {y : AV} (h : (AV.renAll f cs)[j]? = some y) : ∃ x, cs[j]? = some x ∧ y = x.ren f := by
 rw [eX, yb1] at h
 obtain ⟨x, H, rfl⟩ := yc.1 h
 exact ⟨x, H, rfl⟩
theorem VR.ren {G W : Gh} {w : World} {f : jV} {l : Bool} (hr : Cx G W f) (hp : ∀ β B o, (β = true → l = true) → G.prot β B o → W.prot β B o) {a : AV} {v : Value} (h : VR G w a v) :
  (a.lent = true → l = true) → VR W w (a.ren f) v := by
 induction h with
 | lit v h => intro _; simp only [AV.ren]; exact .lit v h
 | imm β p v h hs => intro H; simp only [AV.ren]; exact .imm β p v (h.mono (fun B o I => hp β B o (fun e => H (by simp [AV.lent, e])) I) (fun _ _ _ => rfl)) hs
 | unkB b => intro _; simp only [AV.ren]; exact .unkB b
 | dead v Y Z => intro _; simp only [AV.ren]; exact .dead v Y Z
 | ptr b g i c L B H I =>
  intro _; simp only [AV.ren]
  split
  ·rename_i q K; exact .ptr q.1 q.2 i c L B (hr b g q L K H) I
  ·exact .dead _ rfl rfl
 | ms b g o n cap L B H I hn O V =>
  intro _; simp only [AV.ren]
  split
  ·rename_i q K; exact .ms q.1 q.2 o n cap L B (hr b g q L K H) I hn O V
  ·exact .dead _ rfl rfl
 | msNil b g L H I =>
  intro _; simp only [AV.ren]
  split
  ·rename_i q K; exact .msNil q.1 q.2 L (hr b g q L K H) I
  ·exact .dead _ rfl rfl
 | msZ b g o B oo L H I ho O =>
  intro _; simp only [AV.ren]
  split
  ·rename_i q K; exact .msZ q.1 q.2 o B oo L (hr b g q L K H) I ho O
  ·exact .dead _ rfl rfl
 | msw b g cap L B H I hn V =>
  intro _; simp only [AV.ren]
  split
  ·rename_i q K; exact .msw q.1 q.2 cap L B (hr b g q L K H) I hn V
  ·exact .dead _ rfl rfl
 | mswNil b g L H I hn =>
  intro _; simp only [AV.ren]
  split
  ·rename_i q K; exact .mswNil q.1 q.2 L (hr b g q L K H) I hn
  ·exact .dead _ rfl rfl
 | el β p c B o cv h hr' =>
  intro H; simp only [AV.ren]
  have U : ∀ B o, G.prot β B o → W.prot β B o := fun B o I => hp β B o (fun e => H (by simp [AV.lent, e])) I
  exact .el β p c B o cv (fun j y J => ⟨(h j y J).1, U _ _ (h j y J).2⟩) (fun j y J => (hr' j y J).mono U (fun _ _ _ => rfl))
 | fn f' fi ca fv cv Y Z V hc ihf ihc =>
  intro H; simp only [AV.ren]
  refine .fn f' _ _ fv cv (by rw [eX]; simpa using Y) (by rw [eX]; simpa using Z) (fun j y J => ?_) (fun j y J => ?_)
  ·obtain ⟨x, N, rfl⟩ := pW J
   exact ihf j x N (fun e => H (by simp [AV.lent, i4 N e]))
  ·obtain ⟨x, N, rfl⟩ := pW J
   exact ihc j x N (fun e => H (by simp [AV.lent, i4 N e]))
 | agg cs cvs M h ih =>
  intro H; simp only [AV.ren]
  refine .agg _ cvs (by rw [eX]; simpa using M) (fun j y J => ?_)
  obtain ⟨x, N, rfl⟩ := pW J
  exact ih j x N (fun e => H (by simp [AV.lent, i4 N e]))
 | tup cs cvs M h ih =>
  intro H; simp only [AV.ren]
  refine .tup _ cvs (by rw [eX]; simpa using M) (fun j y J => ?_)
  obtain ⟨x, N, rfl⟩ := pW J
  exact ih j x N (fun e => H (by simp [AV.lent, i4 N e]))
def pV : Row → Bool
 | .cells _ cs => AV.lentAny cs
 | .pvs β _ _ => β
 | .ints _ _ => false
 | .own _ _ hs => kQ hs
theorem nN : ∀ {mem : aH} {b : Nat} {x : a9}, mem[b]? = some (some x) → pV x.row = true → gR mem = true
 | [], b, x, h, _ => by simp at h
 | some y :: m, 0, x, h, H => by
  simp at h; subst h
  obtain ⟨g, fz, row⟩ := y
  cases row <;> simp_all [gR, pV]
 | none :: m, 0, x, h, H => by simp at h
 | some y :: m, b + 1, x, h, H => by simp [gR, nN (mem := m) (b := b) (by simpa using h) H]
 | none :: m, b + 1, x, h, H => by simp only [gR]; exact nN (mem := m) (b := b) (by simpa using h) H
theorem l9 (f : jV) (r : Row) : (r.ren f).e = r.e := by cases r <;> rfl
theorem iW (f : jV) (r : Row) : (r.ren f).len = r.len := by cases r <;> simp [Row.ren, Row.len, eX]
theorem dC (f : jV) (r : Row) : (r.ren f).isCells = r.isCells := by cases r <;> rfl
theorem nD (f : jV) {i c : Nat} : ∀ {hs : List (Nat × Nat × AV)}, aE i c (nA f hs) = (aE i c hs).map (·.ren f)
 | [] => rfl
 | (i', c', v) :: r => by
  simp only [nA, aE]
  split
  ·rfl
  ·exact nD f
theorem Jd {y : PV} {β : Bool} {e : Nat} {xs : List PV} (h : cV y = some (.pvs β e xs)) : β = false := by
 cases y with
 | ints k H => cases h
 | sl e H => simp only [cV] at h; rw [aA] at h; obtain ⟨_, h⟩ := h; cases h; rfl
 | lit u => cases h
 | agg cs => cases h
theorem Ct (f : jV) : ∀ {hs : List (Nat × Nat × AV)} {x : Nat × Nat × AV}, x ∈ nA f hs → ∃ y ∈ hs, x.1 = y.1
 | [], x, h => by cases h
 | (i', c', v) :: r, x, h => by
  simp only [nA] at h
  rcases yn1.1 h with rfl | h
  ·exact ⟨_, ym .., rfl⟩
  ·obtain ⟨y, H, I⟩ := Ct f h; exact ⟨y, yh _ H, I⟩
theorem zW : ∀ {hs : List (Nat × Nat × AV)} {i c : Nat} {a : AV}, aE i c hs = some a → a.lent = true → kQ hs = true
 | [], i, c, a, h, _ => by cases h
 | (i', c', v) :: r, i, c, a, h, H => by
  simp only [aE] at h
  simp only [kQ, yy1]
  split at h
  ·obtain rfl := ya h; exact .inl H
  ·exact .inr (zW h H)
theorem cP.ren {w : World} {B : Nat} {f : jV} {r : Row} {i c B' : Nat} : cP w B (r.ren f) i c B' ↔ cP w B r i c B' := by
 cases r with
 | own e xs hs =>
  constructor
  ·rintro ⟨J, H, I⟩; rw [nD, Option.map_eq_none_iff] at H; exact ⟨J, H, I⟩
  ·rintro ⟨J, H, I⟩; exact ⟨J, by rw [nD, H]; rfl, I⟩
 | _ => exact Iff.rfl
theorem gI.ren {G U : Gh} {w : World} {f : jV} {l : Bool} (hr : Cx G U f) (W : ∀ β B o, (β = true → l = true) → G.prot β B o → U.prot β B o) {B : Nat} {r : Row} (h : gI G w B r) (Z : pV r = true → l = true)
  (hin : ∀ i c B', cP w B r i c B' → U.mine B' ∧ ∀ β o, ¬ U.prot β B' o) : gI U w B (r.ren f) := by
 cases r with
 | ints k xs => exact h
 | pvs β e xs => exact ⟨h.1, fun i x c y I J => by obtain ⟨v, M, N, O⟩ := h.2 i x c y I J; exact ⟨v, M, N, O.mono (fun B o hb => W β B o (fun e => Z (by simp [pV, e])) hb) (fun _ _ _ => rfl)⟩⟩
 | cells e cs =>
  refine ⟨by simpa [eX] using h.1, fun j y J => ?_⟩
  obtain ⟨x, I, rfl⟩ := pW J
  obtain ⟨v, M, N, O⟩ := h.2 j x I
  exact ⟨v, M, N, O.ren hr W (fun e => Z (by simp [pV, i4 I e]))⟩
 | own e xs hs =>
  obtain ⟨M, N, O⟩ := h
  refine ⟨fun x I => by obtain ⟨y, J, he⟩ := Ct f I; rw [he]; exact M y J, N, fun i x c y I J => ?_⟩
  obtain ⟨v, hv, hv1, K⟩ := O i x c y I J
  refine ⟨v, hv, hv1, ?_⟩
  rw [nD]
  cases Y : aE i c hs with
  | some a => rw [Y] at K; exact VR.ren hr W K (fun e => Z (by simp only [pV]; exact zW Y e))
  | none =>
   rw [Y] at K
   rcases K with K | ⟨row, H, K⟩
   ·exact .inl K
   ·refine .inr ⟨row, H, ?_⟩
    rcases K with K | ⟨B', cap, rfl, k1, k2, k3, k4, k5, V, k7⟩
    ·exact .inl K
    ·obtain ⟨m1, m2⟩ := hin i c B' ⟨⟨x, y, row, I, J, H⟩, Y, _, _, hv⟩
     refine .inr ⟨B', cap, rfl, k1, k2, m1, k4, k5, ?_, m2⟩
     cases row with
     | ints k xs => exact V
     | pvs β e xs =>
      refine ⟨V.1, fun i x c y I J => ?_⟩
      obtain ⟨v, M, N, O⟩ := V.2 i x c y I J
      refine ⟨v, M, N, O.mono (fun B o hb => W β B o (fun e => ?_) hb) (fun _ _ _ => rfl)⟩
      subst e
      have := Jd H; cases this
     | cells e cs => cases V
     | own e xs hs => cases V
theorem AB : ∀ {ids : List Nat} {b n j : Nat}, sE b ids n = some j → ∃ i, j = n + i ∧ ids[i]? = some b
 | [], b, n, j, h => by simp [sE] at h
 | m :: r, b, n, j, h => by
  simp only [sE] at h
  cases H : Nat.beq m b with
  | true => rw [H] at h; simp at h; subst h; exact ⟨0, rfl, by simp [bJ.1 H]⟩
  | false =>
   rw [H] at h; simp only [yk] at h
   obtain ⟨i, rfl, I⟩ := AB h
   exact ⟨i + 1, by omega, by simpa using I⟩
theorem qG : ∀ {ids : List Nat} {i j b : Nat}, dQ ids = true → ids[i]? = some b → ids[j]? = some b → i = j
 | [], i, j, b, _, h, _ => by simp at h
 | m :: r, i, j, b, hn, H, J => by
  simp only [dQ, yb, yq] at hn
  have I : ∀ k : Nat, r[k]? = some m → False := fun k K => by
   have := oP.2 (yt K)
   rw [this] at hn; simp at hn
  cases i with
  | zero =>
   cases j with
   | zero => rfl
   | succ j => simp at H J; subst H; exact (I j J).elim
  | succ i =>
   cases j with
   | zero => simp at H J; subst J; exact (I i H).elim
   | succ j => rw [qG (ids := r) (i := i) (j := j) hn.2 (by simpa using H) (by simpa using J)]
def s9 (m : Nat) (keep : Bool) (G : Gh) (mem : aH) (ids : List Nat) : Nat → Nat → Option z4 := fun j g => (ids[j]?).bind fun b => (m8 mem b).bind fun h => if g = fI m keep (kP mem b) j h then G.loc b h else if j < m ∧ g = 0 then G.loc b 0 else none
theorem jZ {mem : aH} {b g : Nat} : m8 mem b = some g ↔ ∃ x, mem[b]? = some (some x) ∧ x.gen = g := by
 unfold m8
 split
 ·rename_i x J; constructor
  ·intro h; exact ⟨x, J, by simpa using h⟩
  ·rintro ⟨y, H, rfl⟩; rw [J] at H; simp at H; subst H; rfl
 ·rename_i I; constructor
  ·intro h; simp at h
  ·rintro ⟨y, H, _⟩; exact absurd H (I y)
theorem lR {mem : aH} {b : Nat} {x : a9} (h : mem[b]? = some (some x)) : kP mem b = x.row.isCells := by unfold kP; rw [h]
theorem K7 {m : Nat} {keep : Bool} {mem : aH} {ids : List Nat} {b g : Nat} {q : Nat × Nat} (h : fC m keep mem ids b g = some q) : ∃ j, q = (j, fI m keep (kP mem b) j g) ∧ ids[j]? = some b ∧ m8 mem b = some g := by
 unfold fC at h
 split at h
 ·rename_i M K
  cases H : Nat.beq M g with
  | false => rw [H] at h; simp at h
  | true =>
   rw [H] at h; simp only [yl] at h
   obtain ⟨j, J, rfl⟩ := yc.1 h
   obtain ⟨i, rfl, I⟩ := AB J
   rw [← bJ.1 H]
   exact ⟨i, by simp, I, K⟩
 ·simp at h
theorem FI {m : Nat} {keep : Bool} {G H : Gh} {mem : aH} {ids : List Nat} (I : H.loc = s9 m keep G mem ids) : Cx G H (fC m keep mem ids) := by
 intro b g q L M hL
 obtain ⟨j, rfl, J, K⟩ := K7 M
 rw [I]
 simp [s9, J, K, hL]
theorem eQ (m : Nat) (keep : Bool) (f : jV) (mem : aH) : ∀ (ids : List Nat) (n j : Nat), (d5 m keep f mem n ids)[j]? = (ids[j]?).map fun b => match mem[b]? with | some (some x) => some { gen := fI m keep x.row.isCells (n + j) x.gen, frz := x.frz, row := x.row.ren f } | _ => none
 | [], n, j => by simp [d5]
 | b :: r, n, 0 => by simp only [d5, yq2, yg, ym1]; rfl
 | b :: r, n, j + 1 => by simp only [d5, yd1]; rw [eQ m keep f mem r (n + 1) j]; simp only [show n + 1 + j = n + (j + 1) by omega]
theorem dM {m : Nat} {keep : Bool} {f : jV} {mem : aH} {ids : List Nat} {j : Nat} {y : a9} (h : (d5 m keep f mem 0 ids)[j]? = some (some y)) :
  ∃ b x, ids[j]? = some b ∧ mem[b]? = some (some x) ∧ y = { gen := fI m keep x.row.isCells j x.gen, frz := x.frz, row := x.row.ren f } := by
 rw [eQ] at h
 obtain ⟨b, H, h⟩ := yc.1 h
 split at h
 ·rename_i x I; exact ⟨b, x, H, I, by simpa using h.symm⟩
 ·simp at h
theorem Es {m : Nat} {keep : Bool} {G N : Gh} {w : World} {mem : aH} {ids : List Nat} (hM : aF G w mem) (hn : dQ ids = true) (K : N.loc = s9 m keep G mem ids) (hp : ∀ β B o, G.prot β B o → N.prot β B o)
  (hnp : ∀ (b : Nat) (x : a9) (B : Nat), b ∈ ids → mem[b]? = some (some x) → x.frz = false → eK G b x B → ∀ β o, ¬ N.prot β B o)
  (Z : ∀ (b : Nat) (x : a9) (B : Nat), b ∈ ids → mem[b]? = some (some x) → eK G b x B → N.mine B)
  (hinn : ∀ (b : Nat) (x : a9) (B i c B' : Nat), b ∈ ids → mem[b]? = some (some x) → eK G b x B → cP w B x.row i c B' → N.mine B' ∧ ∀ β o, ¬ N.prot β B' o) (hown : ∀ B, w.heap.size ≤ B → N.mine B)
  (hlab : ∀ B o, N.prot false B o → N.prot true B o) (W : ∀ β B o, N.prot β B o → B < w.heap.size) : aF N w (d5 m keep (fC m keep mem ids) mem 0 ids) := by
 have hr := FI K
 have l0 : ∀ {j b : Nat} {x : a9}, ids[j]? = some b → mem[b]? = some (some x) → N.loc j (fI m keep x.row.isCells j x.gen) = G.loc b x.gen := by
  intro j b x hj H
  rw [K]; simp [s9, hj, jZ.2 ⟨x, H, rfl⟩, lR H]
 have M : ∀ {j b : Nat} {x : a9} {B : Nat}, ids[j]? = some b → mem[b]? = some (some x) → eK N j { gen := fI m keep x.row.isCells j x.gen, frz := x.frz, row := x.row.ren (fC m keep mem ids) } B → eK G b x B := by
  rintro j b x B hj H ⟨L, V, hB⟩
  simp only at V; rw [l0 hj H] at V; exact ⟨L, V, hB⟩
 refine ⟨fun j y h => ?_, fun j g h => ?_, fun j y g h hlt => ?_, fun j j' y y' L L' B h h' V Y hk hk' => ?_, fun j j' y y' B i c B' h k hi h' k' => ?_, fun j j' y y' B C i c i' c' B' h k hi h' k' hi' => ?_, hown, hlab, W, hM.glob.mono (hp true) fun _ _ _ => rfl⟩
 ·obtain ⟨b, x, O, H, rfl⟩ := dM h
  have hbx := hM.box b x H
  obtain ⟨o, V, hm⟩ := hbx.loc
  refine ⟨by simp only [l9]; exact hbx.e, o, ?_, ?_⟩
  ·simp only [l9, iW]; rw [l0 O H]; exact V
  ·cases o with
   | none => simp only [iW, dC]; exact hm
   | some B =>
    obtain ⟨h1, h2, h3, h4, h5⟩ := hm
    have hB : eK G b x B := ⟨_, V, rfl⟩
    have U := yt O
    exact ⟨Z b x B U H hB, h2, h3, h4.ren (l := true) hr (fun β B o _ => hp β B o) (fun _ => rfl) (fun i c B' hi => hinn b x B i c B' U H hB hi), fun hf => hnp b x B U H hf hB⟩
 ·rw [K]; unfold s9
  cases hj : ids[j]? with
  | none => rfl
  | some b =>
   simp only [ye]
   cases hg : m8 mem b with
   | none => rfl
   | some g' =>
    obtain ⟨x, H, _⟩ := jZ.1 hg
    exact absurd (by rw [eQ, hj]; simp [H]) (h { gen := fI m keep x.row.isCells j x.gen, frz := x.frz, row := x.row.ren (fC m keep mem ids) })
 ·obtain ⟨b, x, O, H, rfl⟩ := dM h
  rw [K]; unfold s9
  simp only [O, ye, jZ.2 ⟨x, H, rfl⟩, lR H]
  rw [if_neg (by simp only at hlt; omega), if_neg (by omega)]
 ·obtain ⟨b, x, O, H, rfl⟩ := dM h
  obtain ⟨b', x', J, I, rfl⟩ := dM h'
  simp only at V Y
  rw [l0 O H] at V; rw [l0 J I] at Y
  obtain rfl := hM.apart b b' x x' L L' B H I V Y hk hk'
  exact qG hn O J
 ·obtain ⟨b, x, O, H, rfl⟩ := dM h
  obtain ⟨b', x', J, I, rfl⟩ := dM h'
  exact hM.inA b b' x x' B i c B' H (M O H k) (cP.ren.1 hi) I (M J I k')
 ·obtain ⟨b, x, O, H, rfl⟩ := dM h
  obtain ⟨b', x', J, I, rfl⟩ := dM h'
  obtain ⟨rfl, h2⟩ := hM.inB b b' x x' B C i c i' c' B' H (M O H k) (cP.ren.1 hi) I (M J I k') (cP.ren.1 hi')
  exact ⟨qG hn O J, h2⟩
def Gh.drop (G : Gh) (b0 : Nat) : Gh := { G with loc := fun b g => if b = b0 then none else G.loc b g }
theorem fE : ∀ {cs : List AV} {j : Nat} {y : AV} {b : Nat}, cs[j]? = some y → b ∈ y.refs → b ∈ AV.refsAll cs
 | [], j, y, b, h, _ => by simp at h
 | c :: cs, 0, y, b, h, H => by simp at h; subst h; simp [AV.refsAll, H]
 | c :: cs, j + 1, y, b, h, H => by simp [AV.refsAll, fE (cs := cs) (j := j) (by simpa using h) H]
theorem Gh.drop_loc {G : Gh} {b0 b g : Nat} (h : b ≠ b0) : (G.drop b0).loc b g = G.loc b g := by simp [Gh.drop, h]
theorem VR.drop {G : Gh} {w : World} {b0 : Nat} {a : AV} {v : Value} (h : VR G w a v) : b0 ∉ a.refs → VR (G.drop b0) w a v := by
 induction h with
 | lit v h => intro _; exact .lit v h
 | imm β p v h hs => intro _; exact .imm β p v h hs
 | unkB b => intro _; exact .unkB b
 | dead v U V => intro _; exact .dead v U V
 | ptr b g i c L B H I => intro hn; exact .ptr b g i c L B (by rw [Gh.drop_loc (by rintro rfl; exact hn (by simp [AV.refs]))]; exact H) I
 | ms b g o n cap L B H I hn N O => intro J; exact .ms b g o n cap L B (by rw [Gh.drop_loc (by rintro rfl; exact J (by simp [AV.refs]))]; exact H) I hn N O
 | msNil b g L H I => intro hn; exact .msNil b g L (by rw [Gh.drop_loc (by rintro rfl; exact hn (by simp [AV.refs]))]; exact H) I
 | msZ b g o B oo L H I ho N => intro hn; exact .msZ b g o B oo L (by rw [Gh.drop_loc (by rintro rfl; exact hn (by simp [AV.refs]))]; exact H) I ho N
 | msw b g cap L B H I hn O => intro J; exact .msw b g cap L B (by rw [Gh.drop_loc (by rintro rfl; exact J (by simp [AV.refs]))]; exact H) I hn O
 | mswNil b g L H I hn => intro J; exact .mswNil b g L (by rw [Gh.drop_loc (by rintro rfl; exact J (by simp [AV.refs]))]; exact H) I hn
 | el β p c B o cv h Z => intro _; exact .el β p c B o cv h Z
 | fn f' fi ca fv cv U V O hc Y ihc =>
  intro hn
  simp only [AV.refs, yo1, not_or] at hn
  exact .fn f' _ _ fv cv U V (fun j y K => Y j y K (fun h => hn.1 (fE K h))) (fun j y K => ihc j y K (fun h => hn.2 (fE K h)))
 | agg cs cvs M h W => intro hn; simp only [AV.refs] at hn; exact .agg _ cvs M (fun j y K => W j y K (fun h => hn (fE K h)))
 | tup cs cvs M h W => intro hn; simp only [AV.refs] at hn; exact .tup _ cvs M (fun j y K => W j y K (fun h => hn (fE K h)))
theorem pF {b i c : Nat} {a : AV} : ∀ {hs : List (Nat × Nat × AV)}, aE i c hs = some a → b ∈ a.refs → b ∈ e7 hs
 | [], h, _ => by cases h
 | (i', c', v) :: r, h, H => by
  simp only [aE] at h
  simp only [e7, yo1]
  split at h
  ·obtain rfl := ya h; exact .inl H
  ·exact .inr (pF h H)
theorem gI.drop {G : Gh} {w : World} {b0 B : Nat} {r : Row} (h : gI G w B r) (hn : b0 ∉ r.refs) : gI (G.drop b0) w B r := by
 cases r with
 | ints k xs => exact h
 | pvs β e xs => exact h
 | cells e cs => exact ⟨h.1, fun j y J => by obtain ⟨v, V, Y, Z⟩ := h.2 j y J; exact ⟨v, V, Y, Z.drop (fun M => hn (fE J M))⟩⟩
 | own e xs hs =>
  refine ⟨h.1, h.2.1, fun i x c y hx J => ?_⟩
  obtain ⟨v, hv, N, H⟩ := h.2.2 i x c y hx J
  refine ⟨v, hv, N, ?_⟩
  cases O : aE i c hs with
  | some a => rw [O] at H; exact VR.drop H (fun M => hn (pF O M))
  | none =>
   rw [O] at H
   rcases H with H | ⟨row, I, H⟩
   ·exact .inl H
   ·refine .inr ⟨row, I, ?_⟩
    rcases H with H | ⟨B', cap, rfl, k1, W, k3, k4, k5, K, U⟩
    ·exact .inl H
    ·refine .inr ⟨B', cap, rfl, k1, W, k3, k4, k5, ?_, U⟩
     cases row with
     | ints k xs => exact K
     | pvs β e xs => exact K
     | cells e cs => cases K
     | own e xs hs => cases K
end Go.Ab
end
section
namespace Go.Ab
variable [b4]
theorem eI {b : Nat} : ∀ {l r : List Nat}, cS b (l ++ r) = cS b l + cS b r
 | [], r => by simp [cS]
 | m :: l, r => by
  simp only [yp2, cS]
  cases Nat.beq m b with
  | true => simp only [yl]; rw [eI (l := l)]; omega
  | false => simp only [yk]; exact eI (l := l)
theorem iQ {b : Nat} : ∀ {l : List Nat}, b ∈ l → 1 ≤ cS b l
 | [], h => by cases h
 | m :: l, h => by
  simp only [cS]
  cases H : Nat.beq m b with
  | true => simp only [yl]; omega
  | false =>
   simp only [yk]
   rcases yn1.1 h with rfl | h
   ·simp at H
   ·exact iQ h
theorem jT {b : Nat} : ∀ {mem : aH} {j : Nat} {x : a9}, mem[j]? = some (some x) → cS b x.row.refs ≤ cS b (b9 mem)
 | [], j, x, h => by simp at h
 | some y :: m, 0, x, h => by simp at h; subst h; simp only [b9, eI]; omega
 | none :: m, 0, x, h => by simp at h
 | some y :: m, j + 1, x, h => by have := jT (b := b) (mem := m) (j := j) (by simpa using h); simp only [b9, eI]; omega
 | none :: m, j + 1, x, h => by have := jT (b := b) (mem := m) (j := j) (by simpa using h); simpa only [b9] using this
theorem zA {b : Nat} : ∀ {mem : aH} {j j' : Nat} {x x' : a9}, mem[j]? = some (some x) → mem[j']? = some (some x') → j ≠ j' → cS b x.row.refs + cS b x'.row.refs ≤ cS b (b9 mem)
 | [], j, j', x, x', h, _, _ => by simp at h
 | some y :: m, 0, 0, x, x', h, H, hn => absurd rfl hn
 | none :: m, 0, j', x, x', h, H, hn => by simp at h
 | none :: m, j + 1, 0, x, x', h, H, hn => by simp at H
 | some y :: m, 0, j' + 1, x, x', h, H, hn => by
  simp at h; subst h
  have := jT (b := b) (mem := m) (j := j') (by simpa using H); simp only [b9, eI]; omega
 | some y :: m, j + 1, 0, x, x', h, H, hn => by
  simp at H; subst H
  have := jT (b := b) (mem := m) (j := j) (by simpa using h); simp only [b9, eI]; omega
 | some y :: m, j + 1, j' + 1, x, x', h, H, hn => by
  have := zA (b := b) (mem := m) (j := j) (j' := j') (by simpa using h) (by simpa using H) (by omega); simp only [b9, eI]; omega
 | none :: m, j + 1, j' + 1, x, x', h, H, hn => by
  have := zA (b := b) (mem := m) (j := j) (j' := j') (by simpa using h) (by simpa using H) (by omega); simpa only [b9] using this
theorem Cw {b : Nat} : ∀ {hs : List (Nat × Nat × AV)} {k : Nat} {h : Nat × Nat × AV}, hs[k]? = some h → cS b (e7 hs) = cS b h.2.2.refs + cS b (e7 (cR hs k))
 | [], k, h, H => by simp at H
 | (i, c, v) :: r, 0, h, H => by simp at H; subst H; simp only [e7, cR, eI]
 | (i, c, v) :: r, k + 1, h, H => by
  have := Cw (b := b) (hs := r) (k := k) (h := h) (by simpa using H)
  simp only [e7, cR, eI]; omega
theorem E7 {α : Type} : ∀ {l : List α} {k : Nat}, ∀ x ∈ cR l k, x ∈ l
 | [], k, x, h => by simp [cR] at h
 | a :: r, 0, x, h => yh _ h
 | a :: r, k + 1, x, h => by
  simp only [cR] at h
  rcases yn1.1 h with rfl | h
  ·exact ym ..
  ·exact yh _ (E7 x h)
theorem zR {c i : Nat} {v : AV} : ∀ {hs : List (Nat × Nat × AV)} {k : Nat}, hs[k]? = some (i, c, v) → jR c (cR hs k) = none →
  aE i c hs = some v ∧ (∀ H, H ≠ i → aE H c hs = none) ∧ ∀ H K, K ≠ c → aE H K (cR hs k) = aE H K hs
 | [], k, J, _ => by simp at J
 | (i2, U, v2) :: r, 0, J, I => by
  simp at J; obtain ⟨rfl, rfl, rfl⟩ := J
  simp only [cR] at I
  refine ⟨by simp [aE], fun H O => ?_, fun H K V => ?_⟩
  ·simp only [aE]; rw [if_neg (fun h => O h.1.symm)]; exact dK I
  ·simp only [cR, aE]; rw [if_neg (fun h => V h.2.symm)]
 | (i2, U, v2) :: r, k + 1, J, I => by
  simp only [cR, jR] at I
  cases N : Nat.beq c U with
  | true => rw [N] at I; cases I
  | false =>
   rw [N] at I; simp only [yk] at I
   have M : U ≠ c := by rintro rfl; simp at N
   obtain ⟨W, Y, Z⟩ := zR (hs := r) (k := k) (by simpa using J) I
   refine ⟨?_, fun H O => ?_, fun H K V => ?_⟩
   ·simp only [aE]; rw [if_neg (fun h => M h.2)]; exact W
   ·simp only [aE]; rw [if_neg (fun h => M h.2)]; exact Y H O
   ·simp only [cR, aE]
    split
    ·rfl
    ·exact Z H K V
theorem OR.drop {G : Gh} {w : World} {b0 : Nat} {y : PV} {v : Value} (h : OR G w y v) : OR (G.drop b0) w y v := by
 rcases h with I | ⟨row, H, I⟩
 ·exact .inl I
 ·refine .inr ⟨row, H, ?_⟩
  rcases I with I | ⟨B', cap, rfl, k1, M, O, U, N, J, K⟩
  ·exact .inl I
  ·refine .inr ⟨B', cap, rfl, k1, M, O, U, N, ?_, K⟩
   cases row with
   | ints k xs => exact J
   | pvs β e xs => exact J
   | cells e cs => cases J
   | own e xs hs => cases J
theorem Ic {G : Gh} {w : World} {mem : aH} {v : AV} {q : Nat × PV} {u : Value} (hM : aF G w mem) (h : zL mem v = some q) (Z : VR G w v u) :
  q.2.cells = [q.2] ∧ q.1 ∈ v.refs ∧ OR G w q.2 u ∧ ∃ x, mem[q.1]? = some (some x) ∧ ∀ B' n cap, u = .slice (some ⟨B', 0, none⟩) n cap → eK G q.1 x B' := by
 have O : ∀ {b g : Nat} {x : a9} {z : PV} {row : Row}, mem[b]? = some (some x) → x.gen = g → x.frz = false → x.row = row → cV z = some row → FO G w 0 row = FO G w 0 row → (∀ B, gI G w B row → FO G w B row) → VR G w (.msw b g) u →
   OR G w z u ∧ ∀ B' n cap, u = .slice (some ⟨B', 0, none⟩) n cap → eK G b x B' := by
  intro b g x z row hm Y J H hz _ hP Z
  subst Y
  cases Z with
  | msw _ _ cap L B W hb hn K =>
   have hB : eK G b x B := ⟨L, W, hb⟩
   obtain ⟨I, M, N, h3, h4, h5⟩ := hM.blk hm hB
   rw [W] at I
   obtain rfl := ya I
   rw [H] at h4 hn K ⊢
   refine ⟨.inr ⟨row, hz, .inr ⟨B, cap, rfl, hn, K, M, N, h3, hP B h4, h5 J⟩⟩, fun B' n U h => ?_⟩
   simp only [Value.slice.injEq, Option.some.injEq, Addr.mk.injEq, and_true] at h
   obtain ⟨rfl, _⟩ := h; exact hB
  | mswNil _ _ L W hb hn =>
   obtain ⟨oo, I, hmm⟩ := (hM.box b x hm).loc
   rw [W] at I
   obtain rfl := ya I
   rw [H] at hn
   exact ⟨.inr ⟨row, hz, .inl ⟨rfl, hn⟩⟩, fun B' n U h => by cases h⟩
 have part : ∀ {b g n : Nat} {x : a9} {z : PV} {row row' : Row}, mem[b]? = some (some x) → x.gen = g → x.frz = false → x.row = row → row'.len = n → row'.e = row.e → cV z = some row' → (∀ B, gI G w B row → FO G w B row') → VR G w (.ms b g 0 n) u →
   OR G w z u ∧ ∀ B' n cap, u = .slice (some ⟨B', 0, none⟩) n cap → eK G b x B' := by
  intro b g n x z row row' hm Y J H V he hz hP Z
  subst Y
  cases Z with
  | ms _ _ _ _ cap L B W hb hn hon K =>
   have hB : eK G b x B := ⟨L, W, hb⟩
   obtain ⟨I, M, N, h3, h4, h5⟩ := hM.blk hm hB
   rw [W] at I
   obtain rfl := ya I
   rw [H] at h4 K ⊢
   simp only [yd3, yc1] at K ⊢
   refine ⟨.inr ⟨row', hz, .inr ⟨B, cap, by rw [V], by rw [V]; exact hn, by rw [he]; exact K, M, N, h3, hP B h4, h5 J⟩⟩, fun B' n U h => ?_⟩
   simp only [Value.slice.injEq, Option.some.injEq, Addr.mk.injEq, and_true] at h
   obtain ⟨rfl, _⟩ := h; exact hB
  | msNil _ _ L W hb => exact ⟨.inr ⟨row', hz, .inl ⟨rfl, V⟩⟩, fun B' n U h => by cases h⟩
  | msZ _ _ _ B oo L W hb ho hon => omega
 have hle : ∀ {e : Nat} {xs : List PV} {b : Nat} {x : a9}, mem[b]? = some (some x) → x.row = .pvs false e xs → ∀ ys, cV (.sl e ys) = some (.pvs false e ys) := by
  intro e xs b x hm H ys
  have := (hM.box b x hm).e
  rw [H] at this
  simp only [cV, guardB, cU.2 (show 1 ≤ e from this), yl]
 unfold zL at h
 split at h
 ·rename_i b g
  rw [bind_some] at h; obtain ⟨x, hx, h⟩ := h
  obtain ⟨hm, Y⟩ := box?_some hx
  cases J : x.frz with
  | true => rw [J] at h; cases h
  | false =>
   rw [J] at h; simp only [yk] at h
   split at h
   ·rename_i k xs H
    obtain rfl := ya h
    obtain ⟨M, N⟩ := O (z := .ints k xs) hm Y J H rfl rfl (fun B h => h) Z
    exact ⟨rfl, by simp [AV.refs], M, x, hm, N⟩
   ·rename_i e xs H
    obtain rfl := ya h
    obtain ⟨M, N⟩ := O (z := .sl e xs) hm Y J H (hle hm H xs) rfl (fun B h => h) Z
    exact ⟨rfl, by simp [AV.refs], M, x, hm, N⟩
   ·cases h
 ·rename_i b g n
  rw [bind_some] at h; obtain ⟨x, hx, h⟩ := h
  obtain ⟨hm, Y⟩ := box?_some hx
  cases J : x.frz with
  | true => rw [J] at h; cases h
  | false =>
   rw [J] at h; simp only [yk] at h
   split at h
   ·rename_i k xs H
    rw [aA] at h; obtain ⟨hn, h⟩ := h
    have hn := cU.1 hn
    obtain rfl := ya h
    obtain ⟨M, N⟩ := part (z := .ints k (xs.take n)) (row' := .ints k (xs.take n)) hm Y J H (by simp [Row.len]; omega) rfl rfl (fun B h i x hi => by
     have hi2 := (yd.1 hi).1
     rw [yj1, if_pos (by simp at hi2; omega)] at hi
     exact h i x hi) Z
    exact ⟨rfl, by simp [AV.refs], M, x, hm, N⟩
   ·rename_i e xs H
    rw [aA] at h; obtain ⟨hn, h⟩ := h
    have hn := cU.1 hn
    obtain rfl := ya h
    obtain ⟨M, N⟩ := part (z := .sl e (xs.take n)) (row' := .pvs false e (xs.take n)) hm Y J H (by simp [Row.len]; omega) rfl (hle hm H _) (fun B h => ⟨fun x hx => h.1 x (yy2 hx), fun i x c y hi hy => by
     have hi2 := (yd.1 hi).1
     rw [yj1, if_pos (by simp at hi2; omega)] at hi
     exact h.2 i x c y hi hy⟩) Z
    exact ⟨rfl, by simp [AV.refs], M, x, hm, N⟩
   ·cases h
 ·cases h
theorem Kw {G : Gh} {w : World} {mem mem' : aH} {b k : Nat} {vs : List AV} (hM : aF G w mem) (h : oX mem b k = some mem')
  (hcnt : ∀ e xs hs gen frz hh b0, mem[b]? = some (some { gen, frz, row := .own e xs hs }) → hs[k]? = some hh → nB hh.2.2 = some b0 → cS b0 (AV.refsAll vs ++ b9 mem) = 1) :
  ∃ b0, aF (G.drop b0) w mem' ∧ b0 ∉ AV.refsAll vs ∧ b0 ≠ b ∧ (∀ H : Nat, H ≠ b0 → (∀ x : a9, mem[H]? = some (some x) → ∃ x' : a9, mem'[H]? = some (some x') ∧ x'.gen = x.gen ∧ x'.frz = x.frz ∧ x'.row.isCells = x.row.isCells) ∧ (mem[H]? = some none → mem'[H]? = some none)) ∧
   (∃ (hh : Nat × Nat × AV) (e : Nat) (xs : List PV) (hs : List (Nat × Nat × AV)) (gen : Nat) (frz : Bool), mem[b]? = some (some { gen, frz, row := .own e xs hs }) ∧ hs[k]? = some hh ∧ nB hh.2.2 = some b0) := by
 unfold oX at h
 split at h
 ·rename_i gen frz e xs hs hm
  rw [bind_some] at h; obtain ⟨hh, hk, h⟩ := h
  obtain ⟨i, c, v⟩ := hh
  simp only at h
  rw [bind_some] at h; obtain ⟨p, hp, h⟩ := h
  rw [bind_some] at h; obtain ⟨y, hy, h⟩ := h
  rw [bind_some] at h; obtain ⟨q, K, h⟩ := h
  rw [aA] at h; obtain ⟨hg, h⟩ := h
  obtain rfl := ya h
  simp only [yb, yq] at hg
  obtain ⟨⟨g1, g2⟩, g3⟩ := hg
  have g3 := Option.isNone_iff_eq_none.1 g3
  obtain ⟨b0, z⟩ := q
  simp only at g1 g2 ⊢
  have O : nB v = some b0 := by
   unfold zL at K
   split at K
   ·rw [bind_some] at K; obtain ⟨x, _, K⟩ := K
    cases hf : x.frz <;> rw [hf] at K
    ·simp only [yk] at K
     split at K
     ·cases K; rfl
     ·cases K; rfl
     ·cases K
    ·cases K
   ·rw [bind_some] at K; obtain ⟨x, _, K⟩ := K
    cases hf : x.frz <;> rw [hf] at K
    ·simp only [yk] at K
     split at K
     ·rw [aA] at K; cases K.2; rfl
     ·rw [aA] at K; cases K.2; rfl
     ·cases K
    ·cases K
   ·cases K
  have hcnt := hcnt e xs hs gen frz _ b0 hm hk O
  obtain ⟨o1, o2, o3⟩ := zR hk g3
  have hne : b0 ≠ b := fun h => by rw [bJ.2 h] at g2; cases g2
  have hbl : b < mem.length := (yd.1 hm).1
  -- the hole
  have hbx := hM.box b _ hm
  have hrefs : b0 ∈ v.refs := by
   unfold nB at O
   split at O
   ·cases O; simp [AV.refs]
   ·cases O; simp [AV.refs]
   ·cases O
  have hc1 := iQ hrefs
  have hdrop := Cw (b := b0) hk
  simp only at hdrop
  rw [eI] at hcnt
  have hbm : cS b0 (e7 hs) ≤ cS b0 (b9 mem) := jT (b := b0) hm
  have hnv : b0 ∉ AV.refsAll vs := fun h => by have := iQ h; omega
  have hnd : b0 ∉ e7 (cR hs k) := fun h => by have := iQ h; omega
  have hno : ∀ {H : Nat} {x : a9}, H ≠ b → mem[H]? = some (some x) → b0 ∉ x.row.refs := by
   intro H x hb V h
   have := iQ h
   have N : cS b0 (e7 hs) + cS b0 x.row.refs ≤ cS b0 (b9 mem) := zA (b := b0) hm V (fun h => hb h.symm)
   omega
  -- where the row stands: it has an element, hence a block
  obtain ⟨oo, hl, hmm⟩ := hbx.loc
  have hxl : i < xs.length := (yd.1 hp).1
  cases oo with
  | none => simp only [Row.len] at hmm; omega
  | some B =>
   obtain ⟨m1, m2, m3, hr, m5⟩ := hmm
   have hB : eK G b { gen, frz, row := .own e xs hs } B := ⟨_, hl, rfl⟩
   obtain ⟨r1, r2, r3⟩ := hr
   obtain ⟨u, hu, hu1, hor⟩ := r3 i p c y hp hy
   rw [o1] at hor
   obtain ⟨z1, z2, z3, x0, hx0, hzB⟩ := Ic hM K hor
   simp only at z1 z2 z3 hx0 hzB
   have hcell : ∀ {J : Nat} {x' : PV} {I : Nat} {y' : PV}, (xs.set i (jA p c z))[J]? = some x' → x'.cells[I]? = some y' → (J = i ∧ I = c ∧ y' = z) ∨ (¬ (J = i ∧ I = c) ∧ ∃ x1, xs[J]? = some x1 ∧ x1.cells[I]? = some y') := by
    intro J x' I y' U N
    rcases HN U with ⟨rfl, rfl⟩ | ⟨hn, U⟩
    ·rw [sT hy z1] at N
     by_cases M : I = c
     ·rw [if_pos M] at N; exact .inl ⟨rfl, M, (ya N).symm⟩
     ·rw [if_neg M] at N; exact .inr ⟨fun h => M h.2, p, hp, N⟩
    ·exact .inr ⟨fun h => hn h.1, x', U, N⟩
   have Y : ∀ {H : Nat} {zz : a9}, ((mem.set b (some { gen, frz, row := .own e (xs.set i (jA p c z)) (cR hs k) })).set b0 none)[H]? = some (some zz) →
     H ≠ b0 ∧ ((H = b ∧ zz = { gen, frz, row := .own e (xs.set i (jA p c z)) (cR hs k) }) ∨ (H ≠ b ∧ mem[H]? = some (some zz))) := by
    intro H zz h
    by_cases e0 : H = b0
    ·subst e0
     by_cases hl0 : H < (mem.set b (some { gen, frz, row := .own e (xs.set i (jA p c z)) (cR hs k) })).length
     ·rw [yw hl0] at h; cases h
     ·rw [ya1 (by simp at hl0 ⊢; omega)] at h; cases h
    ·rw [yp (fun x => e0 x.symm)] at h
     refine ⟨e0, ?_⟩
     by_cases W : H = b
     ·subst W; rw [yw hbl] at h; exact .inl ⟨rfl, by simpa using h.symm⟩
     ·rw [yp (fun x => W x.symm)] at h; exact .inr ⟨W, h⟩
   have hblk : ∀ {H : Nat} {zz : a9} {C : Nat}, H ≠ b0 → eK (G.drop b0) H zz C → eK G H zz C := by
    rintro H zz C hn ⟨L, l1, k1⟩
    rw [Gh.drop_loc hn] at l1; exact ⟨L, l1, k1⟩
   have hblkb : ∀ {C : Nat}, eK (G.drop b0) b { gen, frz, row := .own e (xs.set i (jA p c z)) (cR hs k) } C → C = B := by
    intro C h
    obtain ⟨L, l1, k1⟩ := hblk (fun h => hne h.symm) h
    simp only at l1
    rw [hl] at l1
    obtain rfl := ya l1
    exact (ya k1).symm
   -- inner blocks
   have hinn : ∀ {J I B' : Nat}, cP w B (Row.own e (xs.set i (jA p c z)) (cR hs k)) J I B' → (J = i ∧ I = c ∧ eK G b0 x0 B') ∨ cP w B (Row.own e xs hs) J I B' := by
    rintro J I B' ⟨⟨x', y', row, U, N, h3⟩, ho, n, cap, hcl⟩
    rcases hcell U N with ⟨rfl, rfl, rfl⟩ | ⟨hn, x1, U, N⟩
    ·rw [hu] at hcl
     exact .inl ⟨rfl, rfl, hzB B' n cap (ya hcl)⟩
    ·refine .inr ⟨⟨x1, y', row, U, N, h3⟩, ?_, n, cap, hcl⟩
     by_cases M : I = c
     ·subst M; exact o2 J (fun h => hn ⟨h, rfl⟩)
     ·rw [← o3 J I M]; exact ho
   have hin0 : ∀ {H : Nat} {zz : a9} {C J I B' : Nat}, ((mem.set b (some { gen, frz, row := .own e (xs.set i (jA p c z)) (cR hs k) })).set b0 none)[H]? = some (some zz) → eK (G.drop b0) H zz C → cP w C zz.row J I B' →
     (H = b ∧ J = i ∧ I = c ∧ eK G b0 x0 B') ∨ (∃ z0, mem[H]? = some (some z0) ∧ eK G H z0 C ∧ cP w C z0.row J I B') := by
    intro H zz C J I B' h hC Z
    obtain ⟨hn, h⟩ := Y h
    rcases h with ⟨rfl, rfl⟩ | ⟨hn1, h⟩
    ·obtain rfl := hblkb hC
     rcases hinn Z with ⟨U, N, h3⟩ | Z
     ·exact .inl ⟨rfl, U, N, h3⟩
     ·exact .inr ⟨_, hm, hB, Z⟩
    ·exact .inr ⟨zz, h, hblk hn hC, Z⟩
   have hbk0 : ∀ {H : Nat} {zz : a9} {C : Nat}, ((mem.set b (some { gen, frz, row := .own e (xs.set i (jA p c z)) (cR hs k) })).set b0 none)[H]? = some (some zz) → eK (G.drop b0) H zz C → H ≠ b0 ∧ ∃ z0, mem[H]? = some (some z0) ∧ eK G H z0 C := by
    intro H zz C h hC
    obtain ⟨hn, h⟩ := Y h
    rcases h with ⟨rfl, rfl⟩ | ⟨hn1, h⟩
    ·obtain rfl := hblkb hC; exact ⟨hn, _, hm, hB⟩
    ·exact ⟨hn, zz, h, hblk hn hC⟩
   refine ⟨b0, ⟨fun H zz h => ?_, fun H g h => ?_, fun H zz g h hlt => ?_, fun b1 b2 z1 z2 L1 L2 C U N l1 l2 k1 k2 => ?_, fun b1 b2 z1 z2 C J I B' U k1 Z N k2 => ?_, fun b1 b2 z1 z2 C D J I i2 c2 B' U k1 Z N k2 hi2 => ?_, hM.own, hM.lab, hM.away, hM.glob⟩, hnv, hne, fun H hb' => ⟨fun x V => ?_, fun V => ?_⟩, ⟨_, _, _, _, _, _, hm, hk, O⟩⟩
   ·obtain ⟨hn, h⟩ := Y h
    rcases h with ⟨rfl, rfl⟩ | ⟨hn1, h⟩
    ·refine ⟨hbx.e, some B, by rw [Gh.drop_loc hn]; simpa [Row.e, Row.len] using hl, m1, m2, m3, ?_, m5⟩
     refine ⟨fun x V => by rw [List.length_set]; exact r1 x (E7 x V), fun x V => ?_, fun J x' I y' U N => ?_⟩
     ·rcases yl2 V with h | h
      ·exact r2 x h
      ·rw [h, GZ hy z1]; exact r2 p (yt hp)
     ·rcases hcell U N with ⟨rfl, rfl, rfl⟩ | ⟨hn', x1, U, N⟩
      ·refine ⟨u, hu, hu1, ?_⟩
       rw [dK g3]
       exact OR.drop z3
      ·obtain ⟨v', hv', hv1', ho'⟩ := r3 J x1 I y' U N
       refine ⟨v', hv', hv1', ?_⟩
       by_cases M : I = c
       ·subst M
        rw [dK g3]
        rw [o2 J (fun h => hn' ⟨h, rfl⟩)] at ho'
        exact OR.drop ho'
       ·rw [o3 J I M]
        cases hq2 : aE J I hs with
        | some a =>
         rw [hq2] at ho'
         exact VR.drop ho' (fun hb => hnd (pF (i := J) (c := I) (by rw [o3 J I M]; exact hq2) hb))
        | none => rw [hq2] at ho'; exact OR.drop ho'
    ·have hb := hM.box H zz h
     obtain ⟨o', hlo, hmo⟩ := hb.loc
     refine ⟨hb.e, o', by rw [Gh.drop_loc hn]; exact hlo, ?_⟩
     cases o' with
     | none => exact hmo
     | some C => exact ⟨hmo.1, hmo.2.1, hmo.2.2.1, hmo.2.2.2.1.drop (hno hn1 h), hmo.2.2.2.2⟩
   ·by_cases e0 : H = b0
    ·subst e0; simp [Gh.drop]
    ·rw [Gh.drop_loc e0]
     refine hM.unset H g fun x V => ?_
     by_cases W : H = b
     ·subst W
      exact h _ (by rw [yp (fun x => e0 x.symm), yw hbl])
     ·exact h x (by rw [yp (fun x => e0 x.symm), yp (fun x => W x.symm)]; exact V)
   ·obtain ⟨hn, h⟩ := Y h
    rw [Gh.drop_loc hn]
    rcases h with ⟨rfl, rfl⟩ | ⟨hn1, h⟩
    ·exact hM.gens _ _ g hm hlt
    ·exact hM.gens _ _ g h hlt
   ·obtain ⟨n1, y1, a1, d1⟩ := hbk0 U ⟨L1, l1, k1⟩
    obtain ⟨n2, y2, a2, d2⟩ := hbk0 N ⟨L2, l2, k2⟩
    obtain ⟨M1, d1, W⟩ := d1
    obtain ⟨M2, d2, e2⟩ := d2
    exact hM.apart _ _ y1 y2 M1 M2 C a1 a2 d1 d2 W e2
   ·obtain ⟨n2, y2, a2, d2⟩ := hbk0 N k2
    rcases hin0 U k1 Z with ⟨rfl, rfl, rfl, hb0⟩ | ⟨z0, a1, d1, Z⟩
    ·obtain ⟨M1, d1, W⟩ := hb0
     obtain ⟨M2, d2, e2⟩ := d2
     exact n2 (hM.apart _ _ x0 y2 M1 M2 B' hx0 a2 d1 d2 W e2).symm
    ·exact hM.inA _ _ z0 y2 C J I B' a1 d1 Z a2 d2
   ·rcases hin0 U k1 Z with ⟨rfl, rfl, rfl, hb0⟩ | ⟨z0, a1, d1, Z⟩ <;> rcases hin0 N k2 hi2 with ⟨rfl, rfl, rfl, hb0'⟩ | ⟨z0', a2, d2, hi2⟩
    ·exact ⟨rfl, rfl, rfl⟩
    ·exact absurd hb0 (hM.inA _ _ z0' x0 D i2 c2 B' a2 d2 hi2 hx0)
    ·exact absurd hb0' (hM.inA _ _ z0 x0 C J I B' a1 d1 Z hx0)
    ·exact hM.inB _ _ z0 z0' C D J I i2 c2 B' a1 d1 Z a2 d2 hi2
   ·by_cases W : H = b
    ·subst W
     rw [hm] at V; simp at V; subst V
     exact ⟨{ gen, frz, row := .own e (xs.set i (jA p c z)) (cR hs k) }, by rw [yp (fun x => hb' x.symm), yw hbl], rfl, rfl, rfl⟩
    ·exact ⟨x, by rw [yp (fun x => hb' x.symm), yp (fun x => W x.symm)]; exact V, rfl, rfl, rfl⟩
   ·have W : H ≠ b := by rintro rfl; rw [hm] at V; cases V
    rw [yp (fun x => hb' x.symm), yp (fun x => W x.symm)]; exact V
 ·cases h
theorem sA {m : Nat} {refs : List Nat} {mem : aH} {all : List (Nat × Nat × AV)} : ∀ {hs : List (Nat × Nat × AV)} {n k : Nat}, jX m refs mem all hs n = some k → ∃ j h, k = n + j ∧ hs[j]? = some h ∧ kG m refs mem h.2.2 = true
 | [], n, k, h => by cases h
 | (i, c, v) :: r, n, k, h => by
  simp only [jX] at h
  cases H : (kG m refs mem v && (jR c (cR all n)).isNone) with
  | true =>
   rw [H] at h; obtain rfl := ya h
   simp only [yb] at H
   exact ⟨0, _, rfl, rfl, H.1⟩
  | false =>
   rw [H] at h; simp only [yk] at h
   obtain ⟨j, q, rfl, I, J⟩ := sA h
   exact ⟨j + 1, q, by omega, by simpa using I, J⟩
theorem yG {m : Nat} {refs : List Nat} {mem : aH} : ∀ {l : aH} {n : Nat} {q : Nat × Nat}, iH m refs mem l n = some q →
  ∃ j gen frz e xs hs h, q.1 = n + j ∧ l[j]? = some (some { gen, frz, row := .own e xs hs }) ∧ hs[q.2]? = some h ∧ kG m refs mem h.2.2 = true
 | [], n, q, h => by cases h
 | x :: r, n, q, h => by
  have next : iH m refs mem r (n + 1) = some q → ∃ j gen frz e xs hs h, q.1 = n + j ∧ (x :: r)[j]? = some (some { gen, frz, row := .own e xs hs }) ∧ hs[q.2]? = some h ∧ kG m refs mem h.2.2 = true := by
   intro h
   obtain ⟨j, gen, frz, e, xs, hs, H, h1, I, M, K⟩ := yG h
   exact ⟨j + 1, gen, frz, e, xs, hs, H, by omega, by simpa using I, M, K⟩
  simp only [iH] at h
  split at h
  ·rename_i gen frz e xs hs
   split at h
   ·rename_i k N
    obtain rfl := ya h
    obtain ⟨j, H, rfl, J, O⟩ := sA N
    exact ⟨0, gen, frz, e, xs, hs, H, rfl, rfl, by simpa using J, O⟩
   ·exact next h
  ·exact next h
structure yK (G : Gh) (w : World) (mem : aH) (m : Nat) (vs : List AV) (G' : Gh) (mem' : aH) : Prop where
 memr : aF G' w mem'
 mine : G'.mine = G.mine
 prot : G'.prot = G.prot
 loc : ∀ b g, b < m → G'.loc b g = G.loc b g
 vals : ∀ (j : Nat) (y : AV) (v : Value), vs[j]? = some y → VR G w y v → VR G' w y v
 old : ∀ b' : Nat, b' < m → (∀ x : a9, mem[b']? = some (some x) → ∃ x' : a9, mem'[b']? = some (some x') ∧ x'.gen = x.gen ∧ x'.frz = x.frz ∧ x'.row.isCells = x.row.isCells) ∧ (mem[b']? = some none → mem'[b']? = some none)
theorem yH {w : World} {m : Nat} {vs : List AV} : ∀ {n : Nat} {G : Gh} {mem mem' : aH}, aF G w mem → lX m vs n mem = some mem' → ∃ Y, yK G w mem m vs Y mem'
 | 0, G, mem, mem', hM, h => by
  obtain rfl := ya h
  exact ⟨G, hM, rfl, rfl, fun _ _ _ => rfl, fun _ _ _ _ h => h, fun N _ => ⟨fun x H => ⟨x, H, rfl, rfl, rfl⟩, fun h => h⟩⟩
 | n + 1, G, mem, mem', hM, h => by
  simp only [lX] at h
  split at h
  ·obtain rfl := ya h
   exact ⟨G, hM, rfl, rfl, fun _ _ _ => rfl, fun _ _ _ _ h => h, fun N _ => ⟨fun x H => ⟨x, H, rfl, rfl, rfl⟩, fun h => h⟩⟩
  ·rename_i q hq
   rw [bind_some] at h; obtain ⟨mem1, hg, h⟩ := h
   obtain ⟨j, gen, frz, e, xs, hs, hh, Z, h2, h3, J⟩ := yG hq
   rw [yc1] at Z
   subst Z
   -- the box that is given up
   have K : ∀ b0, nB hh.2.2 = some b0 → m ≤ b0 ∧ cS b0 (AV.refsAll vs ++ b9 mem) = 1 := by
    intro b0 O
    unfold kG at J
    rw [O] at J
    simp only [yb] at J
    exact ⟨cU.1 J.1.1, bJ.1 J.1.2⟩
   obtain ⟨b0, V, n1, n2, n3, ⟨hh', e', xs', hs', gen', frz', k1, k2, k3⟩⟩ := Kw (vs := vs) hM hg (fun e2 xs2 hs2 gen2 frz2 hh2 b0 I M U => by
    rw [h2] at I
    simp only [Option.some.injEq, a9.mk.injEq, Row.own.injEq] at I
    obtain ⟨_, _, _, _, rfl⟩ := I
    rw [h3] at M; obtain rfl := ya M
    exact (K b0 U).2)
   rw [h2] at k1
   simp only [Option.some.injEq, a9.mk.injEq, Row.own.injEq] at k1
   obtain ⟨_, _, _, _, rfl⟩ := k1
   rw [h3] at k2; obtain rfl := ya k2
   have hm0 := (K b0 k3).1
   obtain ⟨Y, hG⟩ := yH V h
   refine ⟨Y, hG.memr, hG.mine, hG.prot, fun b g O => ?_, fun j y v hy hv => hG.vals j y v hy (hv.drop (fun hr => n1 (fE hy hr))), fun N W => ?_⟩
   ·rw [hG.loc b g O, Gh.drop_loc (by omega)]
   ·obtain ⟨p1, p2⟩ := n3 N (by omega)
    obtain ⟨r1, r2⟩ := hG.old N W
    refine ⟨fun x H => ?_, fun H => r2 (p2 H)⟩
    obtain ⟨x1, I, M, U, a4⟩ := p1 x H
    obtain ⟨x2, c1, c2, c3, c4⟩ := r1 x1 I
    exact ⟨x2, c1, by rw [c2, M], by rw [c3, U], by rw [c4, a4]⟩
theorem aF.drop {G : Gh} {w : World} {mem : aH} {b0 : Nat} (hM : aF G w mem) (h0 : cS b0 (b9 mem) = 0) : aF (G.drop b0) w (mem.set b0 none) := by
 have H : ∀ {b : Nat} {x : a9}, (mem.set b0 none)[b]? = some (some x) → b ≠ b0 ∧ mem[b]? = some (some x) := by
  intro b x h
  by_cases e : b = b0
  ·subst e
   by_cases K : b < mem.length
   ·rw [yw K] at h; cases h
   ·rw [ya1 (by rw [List.length_set]; omega)] at h; cases h
  ·rw [yp (fun x => e x.symm)] at h; exact ⟨e, h⟩
 have I : ∀ {b : Nat} {x : a9} {B : Nat}, b ≠ b0 → eK (G.drop b0) b x B → eK G b x B := by
  rintro b x B K ⟨L, O, hB⟩
  rw [Gh.drop_loc K] at O; exact ⟨L, O, hB⟩
 have U : ∀ {b : Nat} {x : a9}, mem[b]? = some (some x) → b0 ∉ x.row.refs := by
  intro b x J hr
  have h1 := jT (b := b0) J
  have h2 := iQ hr
  omega
 refine ⟨fun b x h => ?_, fun b g h => ?_, fun b x g h hlt => ?_, fun b Y x x' L L' B h V O W hk hk' => ?_, fun b Y x x' B i c B' h k hi V k' => ?_, fun b Y x x' B C i c i' c' B' h k hi V k' hi' => ?_, hM.own, hM.lab, hM.away, hM.glob.mono (fun _ _ h => h) fun _ _ _ => rfl⟩
 ·obtain ⟨K, J⟩ := H h
  have Z := hM.box b x J
  obtain ⟨o, O, hm⟩ := Z.loc
  refine ⟨Z.e, o, by rw [Gh.drop_loc K]; exact O, ?_⟩
  cases o with
  | none => exact hm
  | some B =>
   obtain ⟨h1, h2, h3, h4, h5⟩ := hm
   exact ⟨h1, h2, h3, h4.drop (U J), h5⟩
 ·by_cases e : b = b0
  ·subst e; simp [Gh.drop]
  ·rw [Gh.drop_loc e]
   refine hM.unset b g fun x J => h x ?_
   rw [yp (fun x => e x.symm)]; exact J
 ·obtain ⟨K, J⟩ := H h
  rw [Gh.drop_loc K]; exact hM.gens b x g J hlt
 ·obtain ⟨K, J⟩ := H h
  obtain ⟨N, M⟩ := H V
  rw [Gh.drop_loc K] at O
  rw [Gh.drop_loc N] at W
  exact hM.apart b Y x x' L L' B J M O W hk hk'
 ·obtain ⟨K, J⟩ := H h
  obtain ⟨N, M⟩ := H V
  exact hM.inA b Y x x' B i c B' J (I K k) hi M (I N k')
 ·obtain ⟨K, J⟩ := H h
  obtain ⟨N, M⟩ := H V
  exact hM.inB b Y x x' B C i c i' c' B' J (I K k) hi M (I N k') hi'
theorem yK.refl {G : Gh} {w : World} {mem : aH} {m : Nat} {vs : List AV} (hM : aF G w mem) : yK G w mem m vs G mem :=
 ⟨hM, rfl, rfl, fun _ _ _ => rfl, fun _ _ _ _ h => h, fun b' _ => ⟨fun x H => ⟨x, H, rfl, rfl, rfl⟩, fun h => h⟩⟩
theorem yK.trans {G V W : Gh} {w : World} {mem H I : aH} {m : Nat} {vs : List AV} (K : yK G w mem m vs V H) (J : yK V w H m vs W I) : yK G w mem m vs W I := by
 refine ⟨J.memr, J.mine.trans K.mine, J.prot.trans K.prot, fun b g O => (J.loc b g O).trans (K.loc b g O), fun j y v Y hv => J.vals j y v Y (K.vals j y v Y hv), fun U M => ?_⟩
 obtain ⟨p1, p2⟩ := K.old U M
 obtain ⟨r1, r2⟩ := J.old U M
 refine ⟨fun x N => ?_, fun N => r2 (p2 N)⟩
 obtain ⟨x1, a1, a2, a3, a4⟩ := p1 x N
 obtain ⟨x2, c1, c2, Z, c4⟩ := r1 x1 a1
 exact ⟨x2, c1, by rw [c2, a2], by rw [Z, a3], by rw [c4, a4]⟩
theorem qB {w : World} {m : Nat} {vs : List AV} : ∀ {n : Nat} {G : Gh} {mem : aH}, aF G w mem → ∃ M, yK G w mem m vs M (p9 m vs n mem)
 | 0, G, mem, hM => ⟨G, .refl hM⟩
 | b + 1, G, mem, hM => by
  simp only [p9]
  cases J : (Nat.ble m b && LO mem b && Nat.beq (cS b (AV.refsAll vs ++ b9 mem)) 0) with
  | false => exact qB hM
  | true =>
   simp only [yl]
   simp only [yb] at J
   have U := cU.1 J.1.1
   have Y := bJ.1 J.2
   rw [eI] at Y
   have I := hM.drop (b0 := b) (by omega)
   have V : yK G w mem m vs (G.drop b) (mem.set b none) := by
    refine ⟨I, rfl, rfl, fun O g K => Gh.drop_loc (by omega), fun j y v hy Z => Z.drop (fun hr => ?_), fun O K => ?_⟩
    ·have := iQ (fE hy hr); omega
    ·have H : b ≠ O := by omega
     exact ⟨fun x N => ⟨x, by rw [yp H]; exact N, rfl, rfl, rfl⟩, fun N => by rw [yp H]; exact N⟩
   obtain ⟨M, W⟩ := qB (n := b) I
   exact ⟨M, V.trans W⟩
theorem CF {w : World} {m : Nat} {vs : List AV} {G : Gh} {mem mem' : aH} (hM : aF G w mem) (h : CH m vs mem = some mem') : ∃ I, yK G w mem m vs I mem' := by
 obtain ⟨G1, H⟩ := qB (m := m) (vs := vs) (n := mem.length) hM
 obtain ⟨J, K⟩ := yH H.memr h
 exact ⟨J, H.trans K⟩
end Go.Ab
end
section
namespace Go.Ab
variable [b4]
theorem CA : ∀ {n i : Nat} {ids : List Nat} {j : Nat}, wD i n ids = true → j < n → ids[j]? = some (i + j)
 | 0, i, ids, j, _, h => by omega
 | n + 1, i, [], j, h, _ => by simp [wD] at h
 | n + 1, i, b :: r, j, h, hj => by
  simp only [wD, yb] at h
  cases j with
  | zero => simp [bJ.1 h.1]
  | succ j => rw [yd1, CA h.2 (by omega)]; congr 1; omega
theorem wT : ∀ {old : List (Option Bool)} {mem : aH} {j : Nat}, nJ old mem = true →
  (∀ k, old[j]? = some (some k) → ∃ x, mem[j]? = some (some x) ∧ x.row.isCells = k ∧ (k = true → x.gen = 0)) ∧ (old[j]? = some none → mem[j]? = some none)
 | [], mem, j, h => by simp
 | some k :: r, [], j, h => by simp [nJ] at h
 | none :: r, [], j, h => by simp [nJ] at h
 | some k :: r, none :: m, j, h => by simp [nJ] at h
 | none :: r, some x :: m, j, h => by simp [nJ] at h
 | none :: r, none :: m, 0, h => by simp
 | none :: r, none :: m, j + 1, h => by
  simp only [nJ] at h
  simpa using wT (j := j) h
 | some k :: r, some x :: m, 0, h => by
  simp only [nJ, yb] at h
  refine ⟨fun k' H => ?_, by simp⟩
  simp at H; subst H
  refine ⟨x, rfl, ?_, fun H => ?_⟩
  ·cases k <;> simp_all
  ·subst H; simp at h; exact h.1.2
 | some k :: r, some x :: m, j + 1, h => by
  simp only [nJ, yb] at h
  simpa using wT (j := j) h.2
theorem y4 {j n : Nat} (h : n ≤ j) : Nat.blt j n = false := by
 cases H : Nat.blt j n with
 | false => rfl
 | true => have := cU.1 (show Nat.ble (j + 1) n = true from H); omega
theorem vC {keep : Bool} {G : Gh} {w : World} {mem : aH} {old : List (Option Bool)} {vs : List AV} {r : List AV × aH} (hM : aF G w mem) (h : rE keep old vs mem = some r) :
  ∃ f M V, r.1 = AV.renAll f vs ∧ V.mine = G.mine ∧ V.prot = G.prot ∧ M.prot = G.prot ∧ aF V w r.2 ∧ Cx M V f ∧ (∀ (j : Nat) (y : AV) (v : Value), vs[j]? = some y → VR G w y v → VR M w y v) ∧
   (∀ (j : Nat) (k : Bool), old[j]? = some (some k) → ∃ y : a9, r.2[j]? = some (some y) ∧ y.row.isCells = k ∧ ∀ L, G.loc j 0 = some L → V.loc j 0 = some L) ∧
   (∀ (j : Nat) (y : a9), old.length ≤ j ∨ y.row.isCells = true → r.2[j]? = some (some y) → y.gen = 0) ∧ (∀ j : Nat, old[j]? = some none → r.2[j]? = some none) := by
 unfold rE at h
 rw [bind_some] at h; obtain ⟨H, Y, h⟩ := h
 obtain ⟨M, hG⟩ := CF hM Y
 have I := hG.memr
 generalize f6 H (dH H (old.length + (AV.refsAll vs).length)) (oA 0 old.length ++ AV.refsAll vs) [] = ids at h
 simp only at h
 rw [aA] at h; obtain ⟨hg, h⟩ := h
 simp only [yb] at hg
 obtain ⟨⟨g1, g2⟩, g3⟩ := hg
 obtain rfl := ya h
 have O : ∀ j, j < old.length → ids[j]? = some j := fun j U => by rw [CA g3 U, yc1]
 refine ⟨fC old.length keep H ids, M, ⟨s9 old.length keep M H ids, M.prot, M.mine⟩, rfl, hG.mine, hG.prot, hG.prot, ?_, FI rfl, hG.vals, fun j k U => ?_, fun j y Z hy => ?_, fun j U => ?_⟩
 ·refine Es I g2 rfl (fun _ _ _ h => h) (fun b x B _ J hf hB => (I.blk J hB).2.2.2.2.2 hf) (fun b x B _ J hB => (I.blk J hB).2.1) (fun b x B i c B' _ J hB hi => ⟨(I.inn J hB hi).1, (I.inn J hB hi).2.2.2⟩) I.own I.lab I.away
 ·have K := (yd.1 U).1
  obtain ⟨x, J, hk, h0⟩ := (wT (j := j) g1).1 k U
  refine ⟨{ gen := fI old.length keep x.row.isCells j x.gen, frz := x.frz, row := x.row.ren (fC old.length keep H ids) }, ?_, by simp only [dC]; exact hk, fun L hL => ?_⟩
  ·rw [eQ, O j K]; simp [J]
  ·rw [← hG.loc j 0 K] at hL
   show s9 old.length keep M H ids j 0 = some L
   simp only [s9, O j K, ye, jZ.2 ⟨x, J, rfl⟩, lR J]
   split
   ·rename_i hz
    have W : x.gen = 0 := by
     cases hc : x.row.isCells with
     | true => exact h0 (by rw [← hk]; exact hc)
     | false =>
      rw [hc] at hz
      simp only [fI, show Nat.blt j old.length = true from cU.2 K, Bool.not_false, yg3, yl] at hz
      cases N : (keep && Nat.beq x.gen 0) with
      | true => simp only [yb] at N; exact bJ.1 N.2
      | false => rw [N] at hz; cases hz
    rw [W]; exact hL
   ·rw [if_pos (by simp [K])]; exact hL
 ·obtain ⟨b, x, _, _, rfl⟩ := dM hy
  simp only [dC] at Z
  simp only [fI]
  rcases Z with h | h
  ·rw [y4 h]; rfl
  ·rw [h]; simp
 ·have J := (wT (j := j) g1).2 U
  rw [eQ, O j (yd.1 U).1]; simp [J]
def Gh.lend (G : Gh) (S : Nat → Nat → Prop) : Gh := { G with prot := fun β B o => G.prot β B o ∨ (β = true ∧ S B o) }
theorem c8.lend (G : Gh) (S : Nat → Nat → Prop) (hS : ∀ B o, S B o → G.mine B) : c8 G (G.lend S) := ⟨rfl, fun _ _ _ h => .inl h, fun _ _ _ h => h, fun _ B o h => h.imp id (fun h => hS B o h.2)⟩
section
variable {P : Program}
theorem MT {mem : aH} {n : Nat} {l : LK} {v : AV} {r : Bool × PV × List Nat} (h : a5 P mem n l v = some r) (H : (∃ b g, v = .msw b g) ∨ (∃ b g o m, v = .ms b g o m)) : r.2.1.isSl = true := by
 have hI : ∀ {k : IntKind} {b : Nat} {w : aI} {r : Bool × PV × List Nat}, a5.treeInts k b w = some r → r.2.1.isSl = true := by
  intro k b w r h
  unfold a5.treeInts at h
  split at h
  ·rw [aA] at h; obtain ⟨_, h⟩ := h; obtain rfl := ya h; rfl
  ·rw [aA] at h; obtain ⟨_, h⟩ := h; obtain ⟨xs, _, rfl⟩ := yc.1 h; rfl
  ·simp at h
 have hS : ∀ {f : LK → AV → Option (Bool × PV × List Nat)} {t : TypeId} {e b : Nat} {w : aI} {r : Bool × PV × List Nat}, a5.treeSl P f t e b w = some r → r.2.1.isSl = true := by
  intro f t e b w r h
  unfold a5.treeSl at h
  split at h
  ·rw [aA] at h; obtain ⟨_, h⟩ := h; obtain rfl := ya h; rfl
  ·rw [aA] at h; obtain ⟨_, h⟩ := h
   rw [bind_some] at h; obtain ⟨_, _, h⟩ := h
   obtain ⟨xs, _, rfl⟩ := yc.1 h; rfl
  ·simp at h
 cases n with
 | zero => simp [a5] at h
 | succ n =>
  rcases H with ⟨b, g, rfl⟩ | ⟨b, g, o, m, rfl⟩
  ·cases l <;> simp only [a5] at h <;> first
    | (simp at h; done)
    | (rw [bind_some] at h; obtain ⟨x, _, h⟩ := h; exact hI h)
    | (rw [bind_some] at h; obtain ⟨x, _, h⟩ := h; exact hS h)
  ·cases l <;> simp only [a5] at h <;> first
    | (simp at h; done)
    | (rw [bind_some] at h; obtain ⟨x, _, h⟩ := h; rw [bind_some] at h; obtain ⟨y, _, h⟩ := h; exact hI h)
    | (rw [bind_some] at h; obtain ⟨x, _, h⟩ := h; rw [bind_some] at h; obtain ⟨y, _, h⟩ := h; exact hS h)
theorem Kz {mem : aH} {l : LK} {v : AV} {r : Bool × PV × List Nat} (h : i9 P mem l v = some r) (H : (∃ b g, v = .msw b g) ∨ (∃ b g o m, v = .ms b g o m)) : r.2.1.isSl = true := by
 unfold i9 at h
 split at h
 ·split at h
  ·rw [aA] at h; obtain ⟨_, h⟩ := h; obtain rfl := ya h; rfl
  ·cases h
 ·exact MT h H
theorem mP {G : Gh} {w : World} {mem : aH} {S : List Nat} {l : LK} {v : AV} {r : AV × List Nat} {cv : Value} (hM : aF G w mem) (h : gF P mem l v = some r) (M : VR G w v cv) (hS : ∀ b ∈ r.2, b ∈ S) :
  VR (G.lend (aR G w mem S)) w r.1 cv := by
 have J : ∀ {q : Bool × PV × List Nat}, i9 P mem l v = some q → r = (.imm true q.2.1, q.2.2) → ((∃ b g, v = .msw b g) ∨ (∃ b g o m, v = .ms b g o m)) → VR (G.lend (aR G w mem S)) w r.1 cv := by
  intro q I hr hm
  subst hr
  obtain ⟨N, _, _⟩ := Cl hM I M
  refine .imm true _ _ (N.mono (fun B o H => ?_) (fun _ _ _ => rfl)) (Kz I hm)
  rcases H with H | H
  ·left
   cases K : q.1 with
   | true => rw [K] at H; exact H
   | false => rw [K] at H; exact hM.lab _ _ H
  ·exact .inr ⟨rfl, H.mono hS⟩
 unfold gF at h
 split at h
 ·obtain ⟨q, I, hr⟩ := yc.1 h
  exact J I hr.symm (.inl ⟨_, _, rfl⟩)
 ·obtain ⟨q, I, hr⟩ := yc.1 h
  exact J I hr.symm (.inr ⟨_, _, _, _, rfl⟩)
 ·obtain rfl := ya h
  exact M.mono (c8.lend G _ hM.inBoxes) (Ev.refl G w)
theorem rB {G : Gh} {w : World} {mem : aH} {S : List Nat} (hM : aF G w mem) : ∀ {ls : List LK} {vs : List AV} {r : List AV × List Nat} {us : List Value}, bV P mem ls vs = some r → gW G w vs us → (∀ b ∈ r.2, b ∈ S) →
  gW (G.lend (aR G w mem S)) w r.1 us
 | [], [], r, us, h, H, _ => by
  simp [bV] at h; subst h
  exact ⟨H.1, fun j y I => by simp at I⟩
 | [], v :: vs, r, us, h, _, _ => by simp [bV] at h
 | l :: ls, [], r, us, h, _, _ => by simp [bV] at h
 | l :: ls, v :: vs, r, [], h, H, _ => by simp [gW] at H
 | l :: ls, v :: vs, r, u :: us, h, H, hS => by
  simp only [bV] at h
  rw [bind_some] at h; obtain ⟨a, N, h⟩ := h
  rw [bind_some] at h; obtain ⟨b, J, h⟩ := h
  obtain rfl := ya h
  have M := mP hM N (H.2 0 v rfl) (fun b J => hS b (yq1 _ J))
  have K := rB hM J (us := us) ⟨by simpa using H.1, fun j y I => by simpa using H.2 (j + 1) y (by simpa using I)⟩ (fun b J => hS b (ys1 _ J))
  refine ⟨by simp [K.1], fun j y I => ?_⟩
  cases j with
  | zero => simp at I; subst I; exact M
  | succ j => simpa using K.2 j y (by simpa using I)
theorem KZ {G : Gh} {w : World} {mem : aH} {S : List Nat} {t : TypeId} {v : AV} {r : AV × List Nat} {cv : Value} (hM : aF G w mem) (h : lend P mem t v = some r) (J : VR G w v cv) (hS : ∀ b ∈ r.2, b ∈ S) :
  VR (G.lend (aR G w mem S)) w r.1 cv := by
 have H := fun {a : AV} {u : Value} (h : VR G w a u) => h.mono (c8.lend G _ (hM.inBoxes (ids := S))) (Ev.refl G w)
 unfold lend at h
 split at h
 ·rw [bind_some] at h; obtain ⟨l, N, h⟩ := h
  exact mP hM h J hS
 ·rw [bind_some] at h; obtain ⟨l, N, h⟩ := h
  exact mP hM h J hS
 ·rename_i cs
  cases I : Gk cs with
  | true =>
   rw [I] at h; simp only [yl] at h
   rw [bind_some] at h; obtain ⟨ls, U, h⟩ := h
   obtain ⟨q, O, rfl⟩ := yc.1 h
   obtain ⟨cvs, rfl, M⟩ := J.agg_inv
   have := rB (us := cvs.toList) hM O ⟨by simpa using M.1, fun j y K => by rw [d9]; exact M.2 j y K⟩ hS
   exact .agg _ cvs (by simpa using this.1) (fun j y K => by rw [← d9]; exact this.2 j y K)
  | false =>
   rw [I] at h; simp only [yk] at h
   obtain rfl := ya h
   exact H J
 ·obtain rfl := ya h
  exact H J
theorem x8 {G : Gh} {w : World} {mem : aH} {S : List Nat} (hM : aF G w mem) : ∀ {ts : List TypeId} {vs : List AV} {r : List AV × List Nat} {us : List Value}, fZ P mem ts vs = some r → gW G w vs us → (∀ b ∈ r.2, b ∈ S) →
  gW (G.lend (aR G w mem S)) w r.1 us
 | [], [], r, us, h, H, _ => by
  simp [fZ] at h; subst h
  exact ⟨H.1, fun j y I => by simp at I⟩
 | [], v :: vs, r, us, h, _, _ => by simp [fZ] at h
 | l :: ls, [], r, us, h, _, _ => by simp [fZ] at h
 | l :: ls, v :: vs, r, [], h, H, _ => by simp [gW] at H
 | l :: ls, v :: vs, r, u :: us, h, H, hS => by
  simp only [fZ] at h
  rw [bind_some] at h; obtain ⟨a, N, h⟩ := h
  rw [bind_some] at h; obtain ⟨b, J, h⟩ := h
  obtain rfl := ya h
  have M := KZ hM N (H.2 0 v rfl) (fun b J => hS b (yq1 _ J))
  have K := x8 hM J (us := us) ⟨by simpa using H.1, fun j y I => by simpa using H.2 (j + 1) y (by simpa using I)⟩ (fun b J => hS b (ys1 _ J))
  refine ⟨by simp [K.1], fun j y I => ?_⟩
  cases j with
  | zero => simp at I; subst I; exact M
  | succ j => simpa using K.2 j y (by simpa using I)
theorem Iq {G : Gh} {w : World} {mem : aH} {S : List Nat} (hM : aF G w mem) {keep : Bool} {ts : List TypeId} {vs : List AV} {r : List AV × List Nat} {us : List Value} (h : Jb P keep mem ts vs = some r) (H : gW G w vs us) (hS : ∀ b ∈ r.2, b ∈ S) :
  gW (G.lend (aR G w mem S)) w r.1 us := by
 cases keep with
 | true =>
  obtain rfl := ya h
  exact ⟨H.1, fun j y I => (H.2 j y I).mono (c8.lend G (aR G w mem S) hM.inBoxes) (Ev.refl G w)⟩
 | false => exact x8 hM h H hS
structure Oe (G : Gh) (w : World) (mem : aH) (r : AV × aH) (G' : Gh) (w' : World) (cv : Value) : Prop where
 v : VR G' w' r.1 cv
 ev : Ev G w w'
 mine : G'.mine = G.mine
 prot : ∀ β B o, G.prot β B o → G'.prot β B o
 new : ∀ β B o, G'.prot β B o → G.prot β B o ∨ G.mine B
 memR : aF G' w' r.2
 gens : ∀ (j : Nat) (y : a9), mem.length ≤ j ∨ y.row.isCells = true → r.2[j]? = some (some y) → y.gen = 0
 kept : ∀ (j : Nat) (x : a9), mem[j]? = some (some x) → ∃ y : a9, r.2[j]? = some (some y) ∧ y.row.isCells = x.row.isCells ∧ ∀ L, G.loc j 0 = some L → G'.loc j 0 = some L
 nones : ∀ j : Nat, mem[j]? = some none → r.2[j]? = some none
def jN (P : Program) (C : bQ) : Prop := ∀ g args mem r, C g args mem = some r → ∀ G w vargs, aF G w mem → (∀ (j : Nat) (x : a9), mem[j]? = some (some x) → x.gen = 0) → nC G w args vargs →
 (callFunc g vargs).run P w = .ok (.enter g vargs) w ∧ Calls P g vargs w fun e w' => ∃ G' cv, e = .returned cv ∧ Oe G w mem r G' w' cv
def lD (G : Gh) (mem : aH) (m : Nat) (B _o : Nat) : Prop := ∃ (b : Nat) (x : a9) (L : z4), m ≤ b ∧ mem[b]? = some (some x) ∧ G.loc b x.gen = some L ∧ L.blk = some B
theorem oS {G : Gh} {w : World} {mem : aH} {m : Nat} {v : AV} {cv : Value} (hM : aF G w mem) (U : VR G w v cv) : VR (G.frz (lD G mem m)) w (v.frz m mem) cv := by
 have hg : c8 G (G.frz (lD G mem m)) := c8.frz G _ (by rintro B o ⟨b, x, L, _, hx, O, hB⟩; exact hM.mine hx O hB)
 have I := fun {a : AV} {u : Value} (h : VR G w a u) => h.mono hg (Ev.refl G w)
 unfold AV.frz
 split
 ·rename_i b g
  cases hle : Nat.ble m b with
  | false => simp only [yk]; exact I U
  | true =>
   simp only [yl]
   split
   ·rename_i x hx
    obtain ⟨hm, rfl⟩ := box?_some hx
    have M := hM.box b x hm
    split
    ·rename_i k xs J
     cases U with
     | msw _ _ cap L B O V hn hf =>
      obtain ⟨o, H, N⟩ := M.loc
      have K := O
      rw [H] at K
      obtain rfl := ya K
      simp only at V; subst V
      have hr := N.2.2.2.1
      rw [J] at hr hn ⊢
      refine .imm false _ _ (.ints k xs B 0 cap hn fun i x' hx' => ?_) rfl
      rw [yc1]
      exact ⟨hr i x' hx', .inr ⟨b, x, _, cU.1 hle, hm, H, rfl⟩⟩
     | mswNil _ _ L O V hn =>
      obtain ⟨o, H, N⟩ := M.loc
      rw [O] at H
      obtain rfl := ya H
      rw [J] at hn
      obtain rfl := yo hn
      exact .imm false _ _ (.intsNil k _) rfl
    ·rename_i β e xs J
     cases U with
     | msw _ _ cap L B O V hn hf =>
      obtain ⟨o, H, N⟩ := M.loc
      have K := O
      rw [H] at K
      obtain rfl := ya K
      simp only at V; subst V
      have hr := N.2.2.2.1
      have he := M.e
      rw [J] at hr hn he ⊢
      obtain ⟨hlen, hcell⟩ := hr
      have Z : ∀ (i : Nat) (x : PV) (c : Nat) (y : PV), xs[i]? = some x → x.cells[c]? = some y → cl w B (i * e + c) = some ((cl w B (i * e + c)).getD undef) ∧ ((cl w B (i * e + c)).getD undef).oneCell' = true ∧ PR w (G.prot β) y ((cl w B (i * e + c)).getD undef) := by
       intro i x c y W Y
       obtain ⟨v, U, hv1, hv2⟩ := hcell i x c y W Y
       rw [U]; exact ⟨rfl, hv1, hv2⟩
      refine .imm β _ _ (.sl e xs B 0 cap (fun i c => (cl w B (i * e + c)).getD undef) he hn hlen (fun i x' c y W Y => ?_) (fun i x' c y W Y => (Z i x' c y W Y).2.1) (fun i x' c y W Y => (Z i x' c y W Y).2.2.mono (fun _ _ h => .inl h) (fun _ _ _ => rfl))) rfl
      rw [yc1]
      exact ⟨(Z i x' c y W Y).1, .inr ⟨b, x, _, cU.1 hle, hm, H, rfl⟩⟩
     | mswNil _ _ L O V hn =>
      obtain ⟨o, H, N⟩ := M.loc
      rw [O] at H
      obtain rfl := ya H
      rw [J] at hn
      obtain rfl := yo hn
      exact .imm β _ _ (.slNil e _) rfl
    ·exact I U
    ·exact I U
   ·exact I U
 ·exact I U
theorem iS (m : Nat) (mem : aH) : ∀ vs : List AV, AV.frzAll m mem vs = vs.map (·.frz m mem)
 | [] => rfl
 | v :: vs => by simp [AV.frzAll, iS m mem vs]
theorem Im {G : Gh} {w : World} {mem : aH} {m : Nat} {v : AV} {cv : Value} (hM : aF G w mem) (J : VR G w v cv) : VR (G.frz (lD G mem m)) w (lG m mem v) cv := by
 unfold lG
 split
 ·rename_i vs
  cases J with
  | tup _ cvs H h =>
   refine .tup _ cvs (by rw [iS]; simpa using H) (fun j y I => ?_)
   rw [iS, yb1] at I
   obtain ⟨x, K, rfl⟩ := yc.1 I
   exact oS hM (h j x K)
 ·rename_i vs
  cases J with
  | agg _ cvs H h =>
   refine .agg _ cvs (by rw [iS]; simpa using H) (fun j y I => ?_)
   rw [iS, yb1] at I
   obtain ⟨x, K, rfl⟩ := yc.1 I
   exact oS hM (h j x K)
 ·exact oS hM J
theorem FV {mem : aH} {m : Nat} {v : AV} (J : gR mem = false) (I : v.lent = false) : (v.frz m mem).lent = false := by
 unfold AV.frz
 split
 ·rename_i b g
  cases Nat.ble m b with
  | false => exact I
  | true =>
   simp only [yl]
   split
   ·rename_i x K
    obtain ⟨hm, _⟩ := box?_some K
    split
    ·rfl
    ·rename_i β e xs H
     simp only [AV.lent]
     cases β with
     | false => rfl
     | true => have := nN hm (by rw [H]; rfl); rw [J] at this; cases this
    ·rfl
    ·rfl
   ·rfl
 ·exact I
theorem oF : ∀ {cs : List AV}, AV.lentAny cs = false ↔ ∀ y ∈ cs, y.lent = false
 | [] => by simp [AV.lentAny]
 | c :: cs => by simp [AV.lentAny, oF (cs := cs)]
theorem I5 {mem : aH} {m : Nat} {v : AV} (J : gR mem = false) (H : v.lent = false) : (lG m mem v).lent = false := by
 unfold lG
 split
 ·rename_i vs
  simp only [AV.lent] at H ⊢
  rw [oF] at H ⊢
  intro y I
  rw [iS] at I
  obtain ⟨x, K, rfl⟩ := yu2.1 I
  exact FV J (H x K)
 ·rename_i vs
  simp only [AV.lent] at H ⊢
  rw [oF] at H ⊢
  intro y I
  rw [iS] at I
  obtain ⟨x, K, rfl⟩ := yu2.1 I
  exact FV J (H x K)
 ·exact FV J H
end
end Go.Ab
end
section
namespace Go.Ab
variable [b4]
def kI (f : jV) (mem : aH) (a : Nat) (x : a9) : a9 :=
 { gen := (match m8 mem a with | some h => h + x.gen | none => 0), frz := x.frz, row := x.row.ren f }
theorem bT : ∀ {wr : List (Nat × a9)} {mem : aH}, (aJ mem wr).length = mem.length
 | [], mem => rfl
 | (b, x) :: r, mem => by rw [aJ, bT]; simp
theorem mJ {f : jV} {mem : aH} : ∀ {ids : List Nat} {q H : aH} {b : Nat}, (∀ (j : Nat) (y : a9), ids[j]? = some b → q[j]? = some (some y) → False) → (aJ H (a8 f mem ids q))[b]? = H[b]?
 | [], q, H, b, h => by simp [a8, aJ]
 | a :: ids, [], H, b, h => by simp [a8, aJ]
 | a :: ids, none :: q, H, b, h => by
  simp only [a8]
  exact mJ (fun j y I J => h (j + 1) y (by simpa using I) (by simpa using J))
 | a :: ids, some x :: q, H, b, h => by
  simp only [a8, aJ]
  rw [mJ (ids := ids) (q := q) (fun j y I J => h (j + 1) y (by simpa using I) (by simpa using J))]
  rw [yp (fun e => h 0 x (by simp [e]) (by simp))]
theorem r6 {f : jV} {mem : aH} : ∀ {ids : List Nat} {q H : aH} {b j : Nat} {y : a9}, dQ ids = true → ids[j]? = some b → q[j]? = some (some y) → b < H.length →
  (aJ H (a8 f mem ids q))[b]? = some (some (kI f mem b y))
 | [], q, H, b, j, y, _, h, _, _ => by simp at h
 | a :: ids, [], H, b, j, y, _, _, h, _ => by simp at h
 | a :: ids, none :: q, H, b, 0, y, _, _, h, _ => by simp at h
 | a :: ids, none :: q, H, b, j + 1, y, hn, I, J, K => by
  simp only [a8]
  simp only [dQ, yb] at hn
  exact r6 hn.2 (by simpa using I) (by simpa using J) K
 | a :: ids, some x :: q, H, b, 0, y, hn, I, J, K => by
  simp only [a8, aJ]
  simp at I J; subst I J
  simp only [dQ, yb, yq] at hn
  rw [mJ (fun j y I _ => by rw [oP.2 (yt I)] at hn; simp at hn), yw K]; rfl
 | a :: ids, some x :: q, H, b, j + 1, y, hn, I, J, K => by
  simp only [a8, aJ]
  simp only [dQ, yb] at hn
  exact r6 hn.2 (by simpa using I) (by simpa using J) (by simpa using K)
theorem lP {f : jV} : ∀ {m : aH} {i : Nat}, (eR f m)[i]? = (m[i]?).map fun o => o.map fun x => { gen := 0, frz := x.frz, row := x.row.ren f }
 | [], i => by simp [eR]
 | some x :: r, 0 => by simp [eR]
 | none :: r, 0 => by simp [eR]
 | some x :: r, i + 1 => by simp [eR, lP (m := r)]
 | none :: r, i + 1 => by simp [eR, lP (m := r)]
theorem wF {a b : List Nat} : vI a b = true → ∀ x ∈ a, x ∉ b := by
 induction a with
 | nil => simp
 | cons m r J =>
  intro h x H I
  simp only [vI, yb, yq] at h
  rcases yn1.1 H with rfl | H
  ·rw [oP.2 I] at h; simp at h
  ·exact J h.2 x H I
section
variable {P : Program}
def yR (G : Gh) (w : World) (mem : aH) (ids : List Nat) (B : Nat) : Prop :=
 w.heap.size ≤ B ∨ ∃ (b : Nat) (x : a9) (C : Nat), b ∈ ids ∧ mem[b]? = some (some x) ∧ eK G b x C ∧ (B = C ∨ ∃ i c, cP w C x.row i c B)
def LY (G : Gh) (w : World) (mem : aH) (ids lent : List Nat) : Gh := { loc := s9 0 true G mem ids, prot := (G.lend (aR G w mem lent)).prot, mine := yR G w mem ids }
theorem yR.mine {G : Gh} {w : World} {mem : aH} {ids : List Nat} {B : Nat} (hM : aF G w mem) (h : yR G w mem ids B) : G.mine B := by
 rcases h with h | ⟨b, x, C, _, H, hC, rfl | ⟨i, c, I⟩⟩
 ·exact hM.own B h
 ·exact (hM.blk H hC).2.1
 ·exact (hM.inn H hC I).1
theorem aF.blk_lt {G : Gh} {w : World} {mem : aH} (hM : aF G w mem) {b : Nat} {x : a9} {L : z4} {B : Nat} (I : mem[b]? = some (some x)) (H : G.loc b x.gen = some L) (hB : L.blk = some B) : B < w.heap.size := (hM.blk I ⟨L, H, hB⟩).2.2.1
theorem aF.lent_apart {G : Gh} {w : World} {mem : aH} {ids lent : List Nat} (hM : aF G w mem) (Y : vI lent ids = true) {b : Nat} {x : a9} {C B : Nat} (O : b ∈ ids) (N : mem[b]? = some (some x)) (hC : eK G b x C) (hB : B = C ∨ ∃ i c, cP w C x.row i c B) (o : Nat) : ¬ aR G w mem lent B o := by
 rintro ⟨H, J, V, Z, M, _, K, U⟩
 have I : H ≠ b := by rintro rfl; exact wF Y H J O
 have hO : iU G w mem b B := ⟨H, V, Z, I, M, K, U⟩
 rcases hB with rfl | ⟨i, c, W⟩
 ·exact hM.other_ne N hC hO rfl
 ·exact hM.other_inn N hC W hO
theorem OG {G : Gh} {w : World} {mem : aH} {ids lent : List Nat} (hM : aF G w mem) (hn : dQ ids = true) (M : vI lent ids = true) : aF (LY G w mem ids lent) w (d5 0 true (fC 0 true mem ids) mem 0 ids) := by
 refine Es hM hn rfl (fun _ _ _ h => .inl h) (fun b x B J I N hB β o H => ?_) (fun b x B J I hB => .inr ⟨b, x, B, J, I, hB, .inl rfl⟩) (fun b x B i c B' J I hB K => ⟨.inr ⟨b, x, B, J, I, hB, .inr ⟨i, c, K⟩⟩, fun β o H => ?_⟩) (fun B h => .inl h) (fun B o h => ?_) (fun β B o h => ?_)
 ·rcases H with H | ⟨_, H⟩
  ·exact (hM.blk I hB).2.2.2.2.2 N β o H
  ·exact hM.lent_apart M J I hB (.inl rfl) o H
 ·rcases H with H | ⟨_, H⟩
  ·exact (hM.inn I hB K).2.2.2 β o H
  ·exact hM.lent_apart M J I hB (.inr ⟨i, c, K⟩) o H
 ·rcases h with h | ⟨h, _⟩
  ·exact .inl (hM.lab B o h)
  ·cases h
 ·rcases h with h | ⟨_, h⟩
  ·exact hM.away β B o h
  ·exact hM.inBoxes_lt B o h
def f9 (G G3 : Gh) (mem q : aH) (ids : List Nat) (len : Nat) : Nat → Nat → Option z4 := fun a g =>
 if a < mem.length then
  match sE a ids 0 with
  | some j => match q[j]? with
   | some (some y) => if g = (kI (fun _ _ => none) mem a y).gen then G3.loc j y.gen else G.loc a g
   | _ => G.loc a g
  | none => G.loc a g
 else if g = 0 ∧ ids.length + (a - mem.length) < len then G3.loc (ids.length + (a - mem.length)) 0 else none
theorem pZ : ∀ {ids : List Nat} {b n j : Nat}, dQ ids = true → ids[j]? = some b → sE b ids n = some (n + j)
 | [], b, n, j, _, h => by simp at h
 | m :: r, b, n, 0, _, h => by simp at h; subst h; simp [sE]
 | m :: r, b, n, j + 1, hn, h => by
  have I : m ≠ b := by
   rintro rfl
   have := qG (i := 0) (j := j + 1) hn (by simp) h
   omega
  simp only [dQ, yb] at hn
  simp only [sE]
  have H : Nat.beq m b = false := by
   cases H : Nat.beq m b with
   | false => rfl
   | true => exact absurd (bJ.1 H) I
  rw [H]; simp only [yk]
  rw [pZ hn.2 (by simpa using h)]; congr 1; omega
theorem JI {G G3 G4 : Gh} {w w' : World} {mem q sub : aH} {ids lent : List Nat} {r : AV} {cv qv : Value} {qr : AV} (hM : aF G w mem) (hn : dQ ids = true) (hd : vI lent ids = true)
  (hR : Oe (LY G w mem ids lent) w (d5 0 true (fC 0 true mem ids) mem 0 ids) (qr, q) G3 w' qv) (hlent : fM lent = true ∨ (r.lent = false ∧ gR q = false))
  (hv : VR G4 w' r cv) (h4m : G4.mine = G3.mine) (h4l : G4.loc = G3.loc) (h4p : ∀ β B o, G3.prot β B o → G4.prot β B o) (h4n : ∀ β B o, G4.prot β B o → G3.prot β B o ∨ lD G3 q sub.length B o) (h4lab : ∀ B o, G4.prot false B o → G4.prot true B o)
  (hsub : ∀ j : Nat, j < sub.length → sub[j]? = q[j]?) (hsl : ids.length ≤ sub.length) (hql : sub.length ≤ q.length) :
  ∃ G' : Gh, VR G' w' (r.ren (cX mem sub ids)) cv ∧ c8 G G' ∧ Ev G w w' ∧ aF G' w' (aJ mem (a8 (cX mem sub ids) mem ids q) ++ eR (cX mem sub ids) (sub.drop ids.length)) := by
 obtain ⟨hv3, hev, hmine3, hprot3, hnew3, hM3, hgens, hkept, hnones⟩ := hR
 simp only at hM3 hgens hkept hnones
 have hpl : (d5 0 true (fC 0 true mem ids) mem 0 ids).length = ids.length := by
  have h1 : ∀ (l : List Nat) (n : Nat), (d5 0 true (fC 0 true mem ids) mem n l).length = l.length := by
   intro l
   induction l with
   | nil => intro n; rfl
   | cons b l ih => intro n; simp only [d5, yg2, ih]
  exact h1 ids 0
 rw [hpl] at hgens
 -- a box of ids
 have hq : ∀ {j a : Nat} {y : a9}, ids[j]? = some a → q[j]? = some (some y) → ∃ x, mem[a]? = some (some x) ∧ y.row.isCells = x.row.isCells ∧ ∀ L, G.loc a x.gen = some L → G3.loc j 0 = some L := by
  intro j a y hj K
  cases Y : mem[a]? with
  | none =>
   have := hnones j (by rw [eQ, hj]; simp [Y])
   rw [K] at this; cases this
  | some o =>
   cases o with
   | none =>
    have := hnones j (by rw [eQ, hj]; simp [Y])
    rw [K] at this; cases this
   | some x =>
    obtain ⟨y', Z, hk, hl⟩ := hkept j { gen := fI 0 true x.row.isCells j x.gen, frz := x.frz, row := x.row.ren (fC 0 true mem ids) } (by rw [eQ, hj]; simp [Y])
    rw [K] at Z
    obtain rfl : y = y' := by simpa using Z
    simp only [dC] at hk hl
    refine ⟨x, rfl, hk, fun L hL => hl L ?_⟩
    have h0 : fI 0 true x.row.isCells j x.gen = 0 := by simp [fI, y4]
    simp [LY, s9, hj, jZ.2 ⟨x, Y, rfl⟩, lR Y, h0, hL]
 have hq2 : ∀ {j a : Nat} {x : a9}, ids[j]? = some a → mem[a]? = some (some x) → ∃ y, q[j]? = some (some y) := by
  intro j a x hj Y
  obtain ⟨y', Z, _⟩ := hkept j { gen := fI 0 true x.row.isCells j x.gen, frz := x.frz, row := x.row.ren (fC 0 true mem ids) } (by rw [eQ, hj]; simp [Y])
  exact ⟨y', Z⟩
 have hbgen : ∀ {a : Nat} {x y : a9} {f : jV}, mem[a]? = some (some x) → (kI f mem a y).gen = x.gen + y.gen := by
  intro a x y f Y
  simp [kI, jZ.2 ⟨x, Y, rfl⟩]
 have hcome : ∀ B, G3.mine B → yR G w mem ids B := fun B h => by rw [hmine3] at h; exact h
 have hEv : Ev G w w' := ⟨hev.size, hev.out, hev.os, fun B hB hm => hev.away B hB (fun h => hm (yR.mine hM h)), hev.some, fun β B o h => hev.prot β B o (.inl h), hev.fz, hev.tape⟩
 -- the protection
 let pr : Bool → Nat → Nat → Prop := fun β B o => if β = true then (if fM lent = true then G4.prot true B o else G.prot true B o ∨ G4.prot false B o) else G4.prot false B o
 have hnbc : ∀ {b : Nat} {x : a9} {L : z4} {B : Nat}, q[b]? = some (some x) → G3.loc b x.gen = some L → L.blk = some B → yR G w mem ids B := fun Y hl hB => hcome _ (hM3.mine Y hl hB)
 have hnb4 : ∀ β B o, G4.prot β B o → G3.prot β B o ∨ yR G w mem ids B := fun β B o h => (h4n β B o h).imp id (by rintro ⟨b, x, L, _, Y, hl, hB⟩; exact hnbc Y hl hB)
 have hsem : ∀ B o, fM lent = true → ¬ aR G w mem lent B o := by
  rintro B o he ⟨b, hb, _⟩
  rw [mL he] at hb; cases hb
 have hprle : ∀ β B o, pr β B o → (∃ β', G.prot β' B o) ∨ yR G w mem ids B := by
  intro β B o h
  have h3 : ∀ β, (β = true → fM lent = true) → G4.prot β B o → (∃ β', G.prot β' B o) ∨ yR G w mem ids B := by
   intro β hβ h
   rcases hnb4 β B o h with h | h
   ·rcases hnew3 β B o h with h | h
    ·rcases h with h | ⟨h, h'⟩
     ·exact .inl ⟨_, h⟩
     ·exact absurd h' (hsem B o (hβ h))
    ·exact .inr h
   ·exact .inr h
  simp only [pr] at h
  split at h
  ·split at h
   ·rename_i he; exact h3 true (fun _ => he) h
   ·rcases h with h | h
    ·exact .inl ⟨_, h⟩
    ·exact h3 false (fun h => by cases h) h
  ·exact h3 false (fun h => by cases h) h
 have hG4 : ∀ β B o, G.prot β B o → G4.prot β B o := fun β B o h => h4p β B o (hprot3 β B o (.inl h))
 have hprG : ∀ β B o, G.prot β B o → pr β B o := by
  intro β B o h
  simp only [pr]
  cases β with
  | true => simp only [if_true]; split; exact hG4 _ _ _ h; exact .inl h
  | false => simp only [yi2, if_false]; exact hG4 _ _ _ h
 have hpr4 : ∀ β B o, pr β B o → ∃ β', G4.prot β' B o := by
  intro β B o h
  simp only [pr] at h
  split at h
  ·split at h
   ·exact ⟨_, h⟩
   ·rcases h with h | h
    ·exact ⟨_, hG4 _ _ _ h⟩
    ·exact ⟨_, h⟩
  ·exact ⟨_, h⟩
 have hprnew : ∀ β B o, pr β B o → G.prot β B o ∨ G.mine B := by
  intro β B o h
  have h3 : ∀ β, (β = true → fM lent = true) → G4.prot β B o → G.prot β B o ∨ G.mine B := by
   intro β hβ h
   rcases hnb4 β B o h with h | h
   ·rcases hnew3 β B o h with h | h
    ·rcases h with h | ⟨h, h'⟩
     ·exact .inl h
     ·exact absurd h' (hsem B o (hβ h))
    ·exact .inr (yR.mine hM h)
   ·exact .inr (yR.mine hM h)
  simp only [pr] at h
  split at h
  ·rename_i hβ; subst hβ
   split at h
   ·rename_i he; exact h3 true (fun _ => he) h
   ·rcases h with h | h
    ·exact .inl h
    ·rcases h3 false (fun h => by cases h) h with h | h
     ·exact .inl (hM.lab _ _ h)
     ·exact .inr h
  ·rename_i hβ
   have : β = false := by simpa using hβ
   subst this
   exact h3 false (fun h => by cases h) h
 let G' : Gh := { mine := G.mine, prot := pr, loc := f9 G G3 mem q ids sub.length }
 have hlen : (aJ mem (a8 (cX mem sub ids) mem ids q)).length = mem.length := bT
 -- where boxes stand
 have lB : ∀ {j a : Nat} {y : a9} {f : jV}, ids[j]? = some a → q[j]? = some (some y) → G'.loc a (kI f mem a y).gen = G3.loc j y.gen := by
  intro j a y f hj K
  obtain ⟨x, Y, _⟩ := hq hj K
  have V : a < mem.length := (yd.1 Y).1
  show f9 G G3 mem q ids sub.length a _ = _
  unfold f9
  rw [if_pos V, pZ hn hj]
  simp only [yc1, K]
  rw [if_pos (by rfl)]
 have lO : ∀ {a g : Nat}, a < mem.length → a ∉ ids → G'.loc a g = G.loc a g := by
  intro a g V I
  show f9 G G3 mem q ids sub.length a g = _
  unfold f9
  rw [if_pos V]
  cases M : sE a ids 0 with
  | none => rfl
  | some j =>
   obtain ⟨i, rfl, hj⟩ := AB M
   exact absurd (yt hj) I
 have lN : ∀ {i : Nat}, ids.length + i < sub.length → G'.loc (mem.length + i) 0 = G3.loc (ids.length + i) 0 := by
  intro i M
  show f9 G G3 mem q ids sub.length (mem.length + i) 0 = _
  unfold f9
  rw [if_neg (by omega), yf3, if_pos ⟨rfl, M⟩]
 have hGle : c8 G G' := by
  refine ⟨rfl, hprG, fun a g L hL => ?_, hprnew⟩
  by_cases V : a < mem.length
  ·show f9 G G3 mem q ids sub.length a g = _
   unfold f9
   rw [if_pos V]
   cases M : sE a ids 0 with
   | none => exact hL
   | some j =>
    obtain ⟨i, rfl, hj⟩ := AB M
    simp only [yc1]
    split
    ·rename_i y K
     split
     ·rename_i hg
      obtain ⟨x, Y, hk, hc⟩ := hq hj K
      rw [hbgen Y] at hg
      subst hg
      by_cases h0 : y.gen = 0
      ·rw [h0, ym1] at hL; rw [h0]; exact hc L hL
      ·rw [hM.gens a x _ Y (by omega)] at hL; cases hL
     ·exact hL
    ·exact hL
  ·rw [hM.unset a g (fun x Y => V (yd.1 Y).1)] at hL; cases hL
 -- renaming back
 have hren : Cx G4 G' (cX mem sub ids) := by
  intro b g p L hp hL
  unfold cX at hp
  rw [h4l] at hL
  split at hp
  ·rename_i a V
   split at hp
   ·rename_i y h' K hgen
    cases hge : Nat.beq y.gen g with
    | false => rw [hge] at hp; cases hp
    | true =>
     rw [hge] at hp; simp only [yl] at hp
     obtain rfl := ya hp
     obtain rfl := bJ.1 hge
     have hb : b < ids.length := (yd.1 V).1
     rw [hsub b (by omega)] at K
     have := lB (f := fun _ _ => none) V K
     simp only [kI, hgen] at this
     simp only
     rw [this]; exact hL
   ·cases hp
  ·rename_i hno
   cases hlt : (Nat.beq g 0 && Nat.blt b sub.length) with
   | false => rw [hlt] at hp; simp at hp
   | true =>
    rw [hlt] at hp; simp only [yl] at hp
    obtain rfl := ya hp
    simp only [yb] at hlt
    obtain rfl := bJ.1 hlt.1
    have hb : b < sub.length := by have := hlt.2; simp [Nat.blt] at this; omega
    have hge := List.getElem?_eq_none_iff.1 hno
    have := lN (i := b - ids.length) (by omega)
    simp only
    rw [this, show ids.length + (b - ids.length) = b by omega]; exact hL
 have hp4 : ∀ {l : Bool}, l = fM lent → ∀ β B o, (β = true → l = true) → G4.prot β B o → G'.prot β B o := by
  intro l hl β B o hβ h
  show pr β B o
  simp only [pr]
  cases β with
  | true => simp only [if_true]; rw [if_pos (by rw [← hl]; exact hβ rfl)]; exact h
  | false => simp only [yi2, if_false]; exact h
 have hren3 : Cx G3 G' (cX mem sub ids) := fun b g p L hp hL => hren b g p L hp (by rw [h4l]; exact hL)
 have hrowlent : ∀ {j : Nat} {y : a9}, q[j]? = some (some y) → pV y.row = true → fM lent = true := by
  intro j y K hl
  rcases hlent with h | ⟨_, h⟩
  ·exact h
  ·rw [nN K hl] at h; cases h
 have hin3 : ∀ {j : Nat} {y : a9} {C i c X : Nat}, q[j]? = some (some y) → eK G3 j y C → cP w' C y.row i c X → G.mine X ∧ ∀ β o, ¬ pr β X o := by
  intro j y C i c X K hC M
  obtain ⟨k1, _, _, k4⟩ := hM3.inn K hC M
  refine ⟨yR.mine hM (hcome X k1), fun β o hp => ?_⟩
  obtain ⟨β', hp'⟩ := hpr4 β X o hp
  rcases h4n β' X o hp' with hp' | ⟨b, x, L, hb, Y, hL, hB⟩
  ·exact k4 β' o hp'
  ·exact hM3.inA j b y x C i c X K hC M Y ⟨L, hL, hB⟩
 -- a box of the callee's, at its new number
 have hbox : ∀ {j a g : Nat} {y : a9}, j < sub.length → q[j]? = some (some y) → G'.loc a g = G3.loc j y.gen → Px G' w' a { gen := g, frz := y.frz, row := y.row.ren (cX mem sub ids) } := by
  intro j a g y hjs K W
  have hby := hM3.box j y K
  obtain ⟨o, hl, hm⟩ := hby.loc
  refine ⟨by simp only [l9]; exact hby.e, o, by simp only [l9, iW]; rw [W]; exact hl, ?_⟩
  cases o with
  | none => simp only [iW, dC]; exact hm
  | some B =>
   obtain ⟨h1, h2, h3, h4, h5⟩ := hm
   have hmB : G.mine B := yR.mine hM (hcome B h1)
   refine ⟨hmB, h2, h3, h4.ren (l := fM lent) hren3 (fun β B o hβ h => hp4 rfl β B o hβ (h4p β B o h)) (hrowlent K) (fun i c X M => hin3 K ⟨_, hl, rfl⟩ M), fun hf β o hp => ?_⟩
   obtain ⟨β', hp'⟩ := hpr4 β B o hp
   rcases h4n β' B o hp' with hp' | ⟨b, x, L, hb, Y, hL, hB⟩
   ·exact h5 hf β' o hp'
   ·have := hM3.apart j b y x _ L B K Y hl hL rfl hB
    omega
 -- entries
 have hent : ∀ (a : Nat) (z : a9), (aJ mem (a8 (cX mem sub ids) mem ids q) ++ eR (cX mem sub ids) (sub.drop ids.length))[a]? = some (some z) →
   (a < mem.length ∧ a ∉ ids ∧ mem[a]? = some (some z)) ∨
   (∃ j y, j < sub.length ∧ q[j]? = some (some y) ∧ z = { gen := z.gen, frz := y.frz, row := y.row.ren (cX mem sub ids) } ∧ G'.loc a z.gen = G3.loc j y.gen ∧ ((∃ x, ids[j]? = some a ∧ mem[a]? = some (some x) ∧ x.gen ≤ z.gen) ∨ (∃ i, j = ids.length + i ∧ a = mem.length + i ∧ z.gen = 0))) := by
  intro a z H
  by_cases V : a < mem.length
  ·rw [yn (by rw [hlen]; exact V)] at H
   by_cases M : ∃ (j : Nat) (y : a9), ids[j]? = some a ∧ q[j]? = some (some y)
   ·obtain ⟨j, y, hj, K⟩ := M
    rw [r6 hn hj K V] at H
    obtain rfl : kI (cX mem sub ids) mem a y = z := by simpa using H
    obtain ⟨x, Y, hk, _⟩ := hq hj K
    have hjl := (yd.1 hj).1
    refine .inr ⟨j, y, by omega, K, rfl, lB hj K, .inl ⟨x, hj, Y, ?_⟩⟩
    rw [hbgen Y]; omega
   ·rw [mJ (fun j y h1 h2 => M ⟨j, y, h1, h2⟩)] at H
    refine .inl ⟨V, fun hm => ?_, H⟩
    obtain ⟨j, hj, rfl⟩ := yt1 hm
    obtain ⟨y, K⟩ := hq2 (yf hj) H
    exact M ⟨j, y, yf hj, K⟩
  ·rw [yu (by rw [hlen]; omega), hlen, lP, yz] at H
   obtain ⟨o, ho, H⟩ := yc.1 H
   cases o with
   | none => simp at H
   | some y =>
    simp only [yg, Option.some.injEq] at H
    have hjl := (yd.1 ho).1
    rw [hsub _ hjl] at ho
    have hg0 := hgens _ y (.inl (by omega)) ho
    refine .inr ⟨_, y, hjl, ho, by rw [← H], ?_, .inr ⟨a - mem.length, rfl, by omega, by rw [← H]⟩⟩
    have := lN hjl
    rw [show mem.length + (a - mem.length) = a by omega] at this
    rw [← H, hg0]; exact this
 have hblk3 : ∀ {a j : Nat} {z y : a9} {B : Nat}, G'.loc a z.gen = G3.loc j y.gen → eK G' a z B → eK G3 j y B := by
  rintro a j z y B W ⟨L, hl, hB⟩
  rw [W] at hl; exact ⟨L, hl, hB⟩
 have hblkO : ∀ {a : Nat} {z : a9} {B : Nat}, a < mem.length → a ∉ ids → eK G' a z B → eK G a z B := by
  rintro a z B V I ⟨L, hl, hB⟩
  rw [lO V I] at hl; exact ⟨L, hl, hB⟩
 have hc3 : ∀ {j : Nat} {y : a9} {C B : Nat}, q[j]? = some (some y) → eK G3 j y C → (B = C ∨ ∃ i c, cP w' C y.row i c B) → yR G w mem ids B := by
  rintro j y C B K hC (rfl | ⟨i, c, M⟩)
  ·exact hcome _ (hM3.blk K hC).2.1
  ·exact hcome _ (hM3.inn K hC M).1
 have O : ∀ {a : Nat} {z : a9} {C B : Nat}, a ∉ ids → mem[a]? = some (some z) → eK G a z C → (B = C ∨ ∃ i c, cP w C z.row i c B) → ¬ yR G w mem ids B := by
  intro a z C B V H hC hB hc
  rcases hc with hc | ⟨b, x, D, hb, Y, hD, PT⟩
  ·rcases hB with rfl | ⟨i, c, M⟩
   ·have := (hM.blk H hC).2.2.1; omega
   ·have := (hM.inn H hC M).2.1; omega
  ·have hne : b ≠ a := by rintro rfl; exact V hb
   have hO : iU G w mem a B := ⟨b, x, D, hne, Y, hD, PT⟩
   rcases hB with rfl | ⟨i, c, M⟩
   ·exact hM.other_ne H hC hO rfl
   ·exact hM.other_inn H hC M hO
 have hsame : ∀ {a : Nat} {z : a9} {C B : Nat}, a ∉ ids → mem[a]? = some (some z) → eK G a z C → (B = C ∨ ∃ i c, cP w C z.row i c B) → w'.heap[B]? = w.heap[B]? := by
  intro a z C B V H hC hB
  have hlt : B < w.heap.size := by
   rcases hB with rfl | ⟨i, c, M⟩
   ·exact (hM.blk H hC).2.2.1
   ·exact (hM.inn H hC M).2.1
  exact hev.away B hlt (O V H hC hB)
 have hinO : ∀ {a : Nat} {z : a9} {C i c X : Nat}, a ∉ ids → mem[a]? = some (some z) → eK G a z C → cP w' C z.row i c X → cP w C z.row i c X := fun V H hC M => M.same fun o => cI (hsame V H hC (.inl rfl)) o
 refine ⟨G', hv.ren (l := fM lent) hren (hp4 rfl) (fun hl => ?_), hGle, hEv, ?_⟩
 ·rcases hlent with h | ⟨h, _⟩
  ·exact h
  ·rw [h] at hl; cases hl
 refine ⟨fun a z H => ?_, fun a g H => ?_, fun a z g H hlt => ?_, fun a a' z z' L L' B H U hl hl' hk hk' => ?_, fun a a' z z' B i c X H hk M U hk' => ?_, fun a a' z z' B C i c i' c' X H hk M U hk' hi' => ?_, fun B hB => hM.own B (ya2 hEv.size hB), fun B o h => ?_, fun β B o h => ?_, hM.glob.mono (hGle.prot true) (hEv.prot true)⟩
 ·rcases hent a z H with ⟨V, I, H⟩ | ⟨j, y, hjs, K, hze, W, _⟩
  ·have hbz := hM.box a z H
   obtain ⟨o, hl, hm⟩ := hbz.loc
   refine ⟨hbz.e, o, by rw [lO V I]; exact hl, ?_⟩
   cases o with
   | none => exact hm
   | some B =>
    obtain ⟨h1, h2, h3, h4, h5⟩ := hm
    have hB : eK G a z B := ⟨_, hl, rfl⟩
    have hnc := O I H hB (.inl rfl)
    have hh : w'.heap[B]? = w.heap[B]? := hsame I H hB (.inl rfl)
    refine ⟨h1, yh1 h2 hEv.size, h3.of_heap hh, h4.mono hGle hEv (fun o _ => cI hh o) (fun i c X M => ⟨.of (hsame I H hB (.inr ⟨i, c, M⟩)), fun β o hp => ?_⟩), fun hf β o hp => ?_⟩
    ·rcases hprle β X o hp with ⟨β', hp⟩ | hp
     ·exact (hM.inn H hB M).2.2.2 β' o hp
     ·exact O I H hB (.inr ⟨i, c, M⟩) hp
    ·rcases hprle β B o hp with ⟨β', hp⟩ | hp
     ·exact h5 hf β' o hp
     ·exact hnc hp
  ·rw [hze]; exact hbox hjs K W
 ·by_cases V : a < mem.length
  ·by_cases I : a ∈ ids
   ·obtain ⟨j, hj, rfl⟩ := yt1 I
    have hjj := yf hj
    cases K : q[j]? with
    | none =>
     have := hql; have := (List.getElem?_eq_none_iff.1 K); omega
    | some o =>
     cases o with
     | some y =>
      refine absurd ?_ (H (kI (cX mem sub ids) mem ids[j] y))
      rw [yn (by rw [hlen]; exact V)]
      exact r6 hn hjj K V
     | none =>
      show f9 G G3 mem q ids sub.length _ g = none
      unfold f9
      rw [if_pos V, pZ hn hjj]
      simp only [yc1, K]
      refine hM.unset _ g (fun x Y => ?_)
      obtain ⟨y, Z⟩ := hq2 hjj Y
      rw [K] at Z; cases Z
   ·rw [lO V I]
    refine hM.unset a g (fun x Y => H x ?_)
    rw [yn (by rw [hlen]; exact V), mJ (fun j y h1 _ => I (yt h1))]; exact Y
  ·show f9 G G3 mem q ids sub.length a g = none
   unfold f9
   rw [if_neg V]
   split
   ·rename_i hc
    refine hM3.unset _ 0 (fun x Y => ?_)
    refine H { gen := 0, frz := x.frz, row := x.row.ren (cX mem sub ids) } ?_
    rw [yu (by rw [hlen]; omega), hlen, lP, yz, hsub _ hc.2, Y]; rfl
   ·rfl
 ·rcases hent a z H with ⟨V, I, H⟩ | ⟨j, y, hjs, K, hze, W, ⟨x, hj, Y, hge⟩ | ⟨i, rfl, rfl, h0⟩⟩
  ·rw [lO V I]; exact hM.gens a z g H hlt
  ·have V : a < mem.length := (yd.1 Y).1
   have J := lB (f := fun _ _ => none) hj K
   show f9 G G3 mem q ids sub.length a g = none
   unfold f9
   rw [if_pos V, pZ hn hj]
   simp only [yc1, K]
   have hzg : z.gen = (kI (fun _ _ => none) mem a y).gen := by
    have hz2 := H
    rw [yn (by rw [hlen]; exact V), r6 hn hj K V] at hz2
    obtain rfl : kI (cX mem sub ids) mem a y = z := by simpa using hz2
    rfl
   rw [if_neg (by omega)]
   exact hM.gens a x g Y (by omega)
  ·show f9 G G3 mem q ids sub.length _ g = none
   unfold f9
   rw [if_neg (by omega), if_neg (by omega)]
 ·rcases hent a z H with ⟨V, I, H⟩ | ⟨j, y, hjs, K, hze, W, hw⟩
  ·have hB := hblkO V I ⟨L, hl, hk⟩
   rw [lO V I] at hl
   rcases hent a' z' U with ⟨ha', N, U⟩ | ⟨j', y', hjs', Z, hze', J, hw'⟩
   ·rw [lO ha' N] at hl'
    exact hM.apart a a' z z' L L' B H U hl hl' hk hk'
   ·exact absurd (hc3 Z (hblk3 J ⟨L', hl', hk'⟩) (.inl rfl)) (O I H hB (.inl rfl))
  ·have hB := hblk3 W ⟨L, hl, hk⟩
   rw [W] at hl
   rcases hent a' z' U with ⟨ha', N, U⟩ | ⟨j', y', hjs', Z, hze', J, hw'⟩
   ·have hB' := hblkO ha' N ⟨L', hl', hk'⟩
    exact absurd (hc3 K hB (.inl rfl)) (O N U hB' (.inl rfl))
   ·rw [J] at hl'
    have hjj := hM3.apart j j' y y' L L' B K Z hl hl' hk hk'
    subst hjj
    rcases hw with ⟨x, hj, _⟩ | ⟨i, M, rfl, _⟩
    ·rcases hw' with ⟨x', hj', _⟩ | ⟨i', hi', rfl, _⟩
     ·rw [hj] at hj'; exact ya hj'
     ·have := (yd.1 hj).1; omega
    ·rcases hw' with ⟨x', hj', _⟩ | ⟨i', hi', rfl, _⟩
     ·have := (yd.1 hj').1; omega
     ·omega
 ·rcases hent a z H with ⟨V, I, H⟩ | ⟨j, y, hjs, K, hze, W, hw⟩
  ·have hB := hblkO V I hk
   have M := hinO I H hB M
   rcases hent a' z' U with ⟨ha', N, U⟩ | ⟨j', y', hjs', Z, hze', J, hw'⟩
   ·exact hM.inA a a' z z' B i c X H hB M U (hblkO ha' N hk')
   ·exact O I H hB (.inr ⟨i, c, M⟩) (hc3 Z (hblk3 J hk') (.inl rfl))
  ·have hB := hblk3 W hk
   rw [hze] at M
   have M := cP.ren.1 M
   rcases hent a' z' U with ⟨ha', N, U⟩ | ⟨j', y', hjs', Z, hze', J, hw'⟩
   ·exact O N U (hblkO ha' N hk') (.inl rfl) (hc3 K hB (.inr ⟨i, c, M⟩))
   ·exact hM3.inA j j' y y' B i c X K hB M Z (hblk3 J hk')
 ·rcases hent a z H with ⟨V, I, H⟩ | ⟨j, y, hjs, K, hze, W, hw⟩
  ·have hB := hblkO V I hk
   have M := hinO I H hB M
   rcases hent a' z' U with ⟨ha', N, U⟩ | ⟨j', y', hjs', Z, hze', J, hw'⟩
   ·have hB' := hblkO ha' N hk'
    exact hM.inB a a' z z' B C i c i' c' X H hB M U hB' (hinO N U hB' hi')
   ·rw [hze'] at hi'
    exact absurd (hc3 Z (hblk3 J hk') (.inr ⟨i', c', cP.ren.1 hi'⟩)) (O I H hB (.inr ⟨i, c, M⟩))
  ·have hB := hblk3 W hk
   rw [hze] at M
   have M := cP.ren.1 M
   rcases hent a' z' U with ⟨ha', N, U⟩ | ⟨j', y', hjs', Z, hze', J, hw'⟩
   ·have hB' := hblkO ha' N hk'
    exact absurd (hc3 K hB (.inr ⟨i, c, M⟩)) (O N U hB' (.inr ⟨i', c', hinO N U hB' hi'⟩))
   ·rw [hze'] at hi'
    obtain ⟨hjj, h2⟩ := hM3.inB j j' y y' B C i c i' c' X K hB M Z (hblk3 J hk') (cP.ren.1 hi')
    subst hjj
    refine ⟨?_, h2⟩
    rcases hw with ⟨x, hj, _⟩ | ⟨i, M, rfl, _⟩
    ·rcases hw' with ⟨x', hj', _⟩ | ⟨i', hi', rfl, _⟩
     ·rw [hj] at hj'; exact ya hj'
     ·have := (yd.1 hj).1; omega
    ·rcases hw' with ⟨x', hj', _⟩ | ⟨i', hi', rfl, _⟩
     ·have := (yd.1 hj').1; omega
     ·omega
 ·show pr true B o
  have h' : pr false B o := h
  simp only [pr, yi2, if_false] at h'
  simp only [pr, if_true]
  split
  ·exact h4lab B o h'
  ·exact .inr h'
 ·obtain ⟨β', hp'⟩ := hpr4 β B o h
  rcases h4n β' B o hp' with hp' | ⟨b, x, L, hb, Y, hL, hB⟩
  ·exact hM3.away β' B o hp'
  ·exact hM3.blk_lt Y hL hB
end
end Go.Ab
end
section
namespace Go.Ab
variable [b4]
section
variable {P : Program}
theorem nC.append {G : Gh} {w : World} {a b : List AV} {u v : Array Value} (h : nC G w a u) (J : nC G w b v) : nC G w (a ++ b) (u ++ v) := by
 refine ⟨by simp [h.1, J.1], fun j y H => ?_⟩
 by_cases I : j < a.length
 ·rw [yn I] at H
  have := h.2 j y H
  rw [yj, yn2 (by rw [← h.1]; exact I), ← yj]; exact this
 ·rw [yu (by omega)] at H
  have := J.2 _ y H
  rw [yj, Array.getElem?_append_right (by rw [← h.1]; omega), ← h.1, ← yj]; exact this
theorem nC.renAll {G H : Gh} {w : World} {f : jV} {as : List AV} {vs : Array Value} (h : nC G w as vs) (hr : Cx G H f) (K : ∀ β B o, G.prot β B o → H.prot β B o) : nC H w (AV.renAll f as) vs := by
 refine ⟨by rw [eX]; simpa using h.1, fun j y I => ?_⟩
 obtain ⟨x, J, rfl⟩ := pW I
 exact (h.2 j x J).ren (l := true) hr (fun β B o _ => K β B o) (fun _ => rfl)
theorem J7 {C : bQ} (hC : jN P C) {G : Gh} {w : World} {mem : aH} (hM : aF G w mem) {raw keep : Bool} {g : FuncId} {ts : List TypeId} {Z args ca : List AV} {out : dE} {fv av cv : Array Value}
  (h : yI P C raw keep g ts Z args ca mem = some out) (hf : nC G w Z fv) (ha : nC G w args av) (hc : nC G w ca cv) : KI P G w mem g (fv ++ av ++ cv) out := by
 unfold yI at h
 rw [bind_some] at h; obtain ⟨I, hla, h⟩ := h
 simp only at h
 generalize hids : f6 mem (dH mem (AV.refsAll (Z ++ I.1 ++ ca)).length) (AV.refsAll (Z ++ I.1 ++ ca)) [] = ids at h
 rw [aA] at h; obtain ⟨hg, h⟩ := h
 simp only [yb] at hg
 obtain ⟨hn, hd⟩ := hg
 rw [bind_some] at h; obtain ⟨q, hq, h⟩ := h
 rw [aA] at h; obtain ⟨hg, h⟩ := h
 simp only [yb, yy1, yq, Bool.or_eq_false_iff] at hg
 obtain ⟨K, H⟩ := hg
 have K := cU.1 K
 have hgl := c8.lend G (aR G w mem I.2) hM.inBoxes
 have U := Iq (us := av.toList) (S := I.2) hM hla ⟨by simpa using ha.1, fun j y hy => by rw [d9]; exact ha.2 j y hy⟩ (fun b h => h)
 have hall : nC (G.lend (aR G w mem I.2)) w (Z ++ I.1 ++ ca) (fv ++ av ++ cv) :=
  ((hf.mono hgl (Ev.refl G w)).append ⟨by simpa using U.1, fun j y hy => by rw [← d9]; exact U.2 j y hy⟩).append (hc.mono hgl (Ev.refl G w))
 have hM1 := OG (lent := I.2) hM hn hd
 have Y : nC (LY G w mem ids I.2) w (AV.renAll (fC 0 true mem ids) (Z ++ I.1 ++ ca)) (fv ++ av ++ cv) := hall.renAll (FI (G := G.lend (aR G w mem I.2)) rfl) (fun _ _ _ h => h)
 obtain ⟨hen, hcl⟩ := hC g _ _ q hq _ w _ hM1 (fun j x hx => by obtain ⟨b, y, _, _, rfl⟩ := dM hx; simp [fI, y4]) Y
 refine ⟨hen, Calls.mono hcl fun e w' he => ?_⟩
 obtain ⟨G3, qv, rfl, hR⟩ := he
 obtain ⟨qr, qm⟩ := q
 simp only at h H K hR
 have hR' := hR
 obtain ⟨N, hev, hmine3, hprot3, hnew3, M, hgens, hkept, hnones⟩ := hR'
 simp only at N M
 have hl3 : ∀ B o, G3.prot false B o → G3.prot true B o := M.lab
 cases hcd : (fN ids.length (bif raw then qr else lG ids.length qm qr).refs && fN ids.length (b9 (List.take ids.length qm))) with
 | true =>
  rw [hcd] at h; simp only [yl] at h
  obtain rfl := ya h
  have htl : (qm.take ids.length).length = ids.length := by simp; omega
  have key : ∃ r, r = (bif raw then qr else lG ids.length qm qr) ∧ VR (G3.frz (lD G3 qm ids.length)) w' r qv ∧ (qr.lent = false ∧ gR qm = false → r.lent = false) := by
   cases raw with
   | true => exact ⟨_, rfl, N.mono (c8.frz G3 _ (by rintro B o ⟨b, x, L, _, hx, hl, hB⟩; exact M.mine hx hl hB)) (Ev.refl G3 w'), fun h => h.1⟩
   | false => exact ⟨_, rfl, Im M N, fun h => I5 h.2 h.1⟩
  obtain ⟨r, hr, hvr, hrl⟩ := key
  obtain ⟨G', W, J, V, O⟩ := JI (sub := qm.take ids.length) (lent := I.2) (r := r) (cv := qv) hM hn hd hR (H.imp id (fun h => ⟨hrl h, h.2⟩)) hvr rfl rfl (fun _ _ _ h => .inl h)
   (fun β B o h => by rw [htl]; exact h) (fun B o h => h.imp (hl3 B o) id) (fun j hj => by rw [htl] at hj; rw [yj1, if_pos hj]) (by omega) (by omega)
  refine ⟨G', qv, rfl, by rw [← hr]; exact W, J, V, ?_⟩
  have hnil : (qm.take ids.length).drop ids.length = [] := List.drop_eq_nil_of_le (by omega)
  rw [hnil] at O
  exact O
 | false =>
  rw [hcd] at h; simp only [yk] at h
  obtain rfl := ya h
  obtain ⟨G', W, J, V, O⟩ := JI (sub := qm) (lent := I.2) (r := qr) (cv := qv) hM hn hd hR H N rfl rfl (fun _ _ _ h => h)
   (fun β B o h => .inl h) hl3 (fun j hj => rfl) K (yy _)
  exact ⟨G', qv, rfl, W, J, V, O⟩
end
end Go.Ab
end
