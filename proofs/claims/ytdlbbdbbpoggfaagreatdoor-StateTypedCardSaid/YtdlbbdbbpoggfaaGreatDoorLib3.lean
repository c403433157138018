/- The evaluator. -/
import Derived.Test.YtdlbbdbbpoggfaaGreatDoorLib2
set_option linter.unusedVariables false
set_option linter.unusedSectionVars false
set_option linter.unusedSimpArgs false
section
namespace Go.Ab
variable [cD]
def kB (f : k9) (mem : a9) (a : Nat) (x : d8) : d8 :=
 { gen := (match mX mem a with | some h => bif x.row.isCells then h else h + 1 | none => 0), frz := x.frz, row := x.row.ren f }
theorem bP : ∀ {wr : List (Nat × d8)} {mem : a9}, (aQ mem wr).length = mem.length
 | [], mem => rfl
 | (b, x) :: r, mem => by rw [aQ, bP]; simp
theorem mD {f : k9} {mem : a9} : ∀ {ids : List Nat} {q z : a9} {b : Nat}, (∀ (j : Nat) (y : d8), ids[j]? = some b → q[j]? = some (some y) → False) → (aQ z (bF f mem ids q))[b]? = z[b]?
 | [], q, z, b, h => by simp [bF, aQ]
 | a :: ids, [], z, b, h => by simp [bF, aQ]
 | a :: ids, none :: q, z, b, h => by
  simp only [bF]
  exact mD (fun j y h1 h2 => h (j + 1) y (by simpa using h1) (by simpa using h2))
 | a :: ids, some x :: q, z, b, h => by
  simp only [bF, aQ]
  rw [mD (ids := ids) (q := q) (fun j y h1 h2 => h (j + 1) y (by simpa using h1) (by simpa using h2))]
  rw [yg1 (fun e => h 0 x (by simp [e]) (by simp))]
theorem rE {f : k9} {mem : a9} : ∀ {ids : List Nat} {q z : a9} {b j : Nat} {y : d8}, dF ids = true → ids[j]? = some b → q[j]? = some (some y) → b < z.length →
  (aQ z (bF f mem ids q))[b]? = some (some (kB f mem b y))
 | [], q, z, b, j, y, _, h, _, _ => by simp at h
 | a :: ids, [], z, b, j, y, _, _, h, _ => by simp at h
 | a :: ids, none :: q, z, b, 0, y, _, _, h, _ => by simp at h
 | a :: ids, none :: q, z, b, j + 1, y, hn, h1, h2, A => by
  simp only [bF]
  simp only [dF, yc] at hn
  exact rE hn.2 (by simpa using h1) (by simpa using h2) A
 | a :: ids, some x :: q, z, b, 0, y, hn, h1, h2, A => by
  simp only [bF, aQ]
  simp at h1 h2; subst h1 h2
  simp only [dF, yc, yy] at hn
  rw [mD (fun j y h1 _ => by rw [oH.2 (yj h1)] at hn; simp at hn), yf1 A]; rfl
 | a :: ids, some x :: q, z, b, j + 1, y, hn, h1, h2, A => by
  simp only [bF, aQ]
  simp only [dF, yc] at hn
  exact rE hn.2 (by simpa using h1) (by simpa using h2) (by simpa using A)
theorem lD {f : k9} : ∀ {m : a9} {i : Nat}, (eE f m)[i]? = (m[i]?).map fun o => o.map fun x => { gen := 0, frz := x.frz, row := x.row.ren f }
 | [], i => by simp [eE]
 | some x :: r, 0 => by simp [eE]
 | none :: r, 0 => by simp [eE]
 | some x :: r, i + 1 => by simp [eE, lD (m := r)]
 | none :: r, i + 1 => by simp [eE, lD (m := r)]
theorem sM {a b : List Nat} : vP a b = true → ∀ x ∈ a, x ∉ b := by
 induction a with
 | nil => simp
 | cons m r A =>
  intro h x hx z
  simp only [vP, yc, yy] at h
  rcases yq1.1 hx with rfl | hx
  ·rw [oH.2 z] at h; simp at h
  ·exact A h.2 x hx z
section
variable {P : Program}
def AY (G : Gh) (w : World) (mem : a9) (ids : List Nat) (B : Nat) : Prop :=
 w.heap.size ≤ B ∨ ∃ (b : Nat) (x : d8) (L : yW), b ∈ ids ∧ mem[b]? = some (some x) ∧ G.loc b x.gen = some L ∧ L.blk = some B
def KB (G : Gh) (w : World) (mem : a9) (ids lent : List Nat) : Gh := { loc := vD G mem ids, prot := (G.lend (bH G mem lent)).prot, mine := AY G w mem ids }
theorem AY.mine {G : Gh} {w : World} {mem : a9} {ids : List Nat} {B : Nat} (hM : aT G w mem) (h : AY G w mem ids B) : G.mine B := by
 rcases h with h | ⟨b, x, L, _, hx, hl, hB⟩
 ·exact hM.own B h
 ·exact hM.mine hx hl hB
theorem aT.blk_lt {G : Gh} {w : World} {mem : a9} (hM : aT G w mem) {b : Nat} {x : d8} {L : yW} {B : Nat} (hx : mem[b]? = some (some x)) (hl : G.loc b x.gen = some L) (hB : L.blk = some B) : B < w.heap.size := by
 obtain ⟨o, h, hm⟩ := (hM.box b x hx).loc
 rw [hl] at h
 obtain rfl := yb h
 simp only at hB; subst hB
 exact hm.2.1
theorem aT.free {G : Gh} {w : World} {mem : a9} (hM : aT G w mem) {b : Nat} {x : d8} {L : yW} {B : Nat} (hx : mem[b]? = some (some x)) (hf : x.frz = false) (hl : G.loc b x.gen = some L) (hB : L.blk = some B) : ∀ β o, ¬ G.prot β B o := by
 obtain ⟨o, h, hm⟩ := (hM.box b x hx).loc
 rw [hl] at h
 obtain rfl := yb h
 simp only at hB; subst hB
 exact hm.2.2.2.2 hf
theorem N1 {G : Gh} {w : World} {mem : a9} {ids lent : List Nat} (hM : aT G w mem) (hn : dF ids = true) (U : vP lent ids = true) : aT (KB G w mem ids lent) w (eQ (fZ mem ids) mem ids) := by
 refine Eg hM hn rfl (fun _ _ _ h => .inl h) (fun b x L B M hx hf hl hB β o K => ?_) (fun b x L B M hx hl hB => .inr ⟨b, x, L, M, hx, hl, hB⟩) (fun B h => .inl h) (fun B o h => ?_) (fun β B o h => ?_)
 ·rcases K with K | ⟨_, N, J, x', O, A, H, z⟩
  ·exact hM.free hx hf hl hB β o K
  ·have := hM.apart b N x x' L O B hx A hl H hB z
   subst this
   exact sM U b J M
 ·rcases h with h | ⟨h, _⟩
  ·exact .inl (hM.lab B o h)
  ·cases h
 ·rcases h with h | ⟨_, N, J, x', O, A, H, z⟩
  ·exact hM.away β B o h
  ·exact hM.blk_lt A H z
def fY (G G3 : Gh) (mem q : a9) (ids : List Nat) (len : Nat) : Nat → Nat → Option yW := fun a g =>
 if a < mem.length then
  match rD a ids 0 with
  | some j => match q[j]? with
   | some (some y) => if g = (kB (fun _ _ => none) mem a y).gen then G3.loc j 0 else G.loc a g
   | _ => G.loc a g
  | none => G.loc a g
 else if g = 0 ∧ ids.length + (a - mem.length) < len then G3.loc (ids.length + (a - mem.length)) 0 else none
theorem pD : ∀ {ids : List Nat} {b n j : Nat}, dF ids = true → ids[j]? = some b → rD b ids n = some (n + j)
 | [], b, n, j, _, h => by simp at h
 | m :: r, b, n, 0, _, h => by simp at h; subst h; simp [rD]
 | m :: r, b, n, j + 1, hn, h => by
  have A : m ≠ b := by
   rintro rfl
   have := vZ (i := 0) (j := j + 1) hn (by simp) h
   omega
  simp only [dF, yc] at hn
  simp only [rD]
  have z : Nat.beq m b = false := by
   cases z : Nat.beq m b with
   | false => rfl
   | true => exact absurd (cY.1 z) A
  rw [z]; simp only [ye]
  rw [pD hn.2 (by simpa using h)]; congr 1; omega
theorem IU {G V G4 : Gh} {w w' : World} {mem q sub : a9} {ids lent : List Nat} {r : AV} {cv qv : Value} {qr : AV} (hM : aT G w mem) (hn : dF ids = true) (hd : vP lent ids = true)
  (hR : Pb (KB G w mem ids lent) w (eQ (fZ mem ids) mem ids) (qr, q) V w' qv) (hlent : eZ lent = true ∨ (r.lent = false ∧ gN q = false))
  (hv : VR G4 w' r cv) (h4m : G4.mine = V.mine) (h4l : G4.loc = V.loc) (h4p : ∀ β B o, V.prot β B o → G4.prot β B o) (h4n : ∀ β B o, G4.prot β B o → V.prot β B o ∨ lU V q sub.length B o) (h4lab : ∀ B o, G4.prot false B o → G4.prot true B o)
  (hsub : ∀ j : Nat, j < sub.length → sub[j]? = q[j]?) (hsl : ids.length ≤ sub.length) (hql : sub.length ≤ q.length) :
  ∃ G' : Gh, VR G' w' (r.ren (cH mem sub ids)) cv ∧ eA G G' ∧ Ev G w w' ∧ aT G' w' (aQ mem (bF (cH mem sub ids) mem ids q) ++ eE (cH mem sub ids) (sub.drop ids.length)) := by
 obtain ⟨hv3, hev, hmine3, hprot3, hnew3, hM3, W, hkept, hnones⟩ := hR
 simp only at hM3 W hkept hnones
 -- a box of ids
 have hq : ∀ {j a : Nat} {y : d8}, ids[j]? = some a → q[j]? = some (some y) → ∃ x, mem[a]? = some (some x) ∧ y.row.isCells = x.row.isCells ∧ (x.row.isCells = true → ∀ L, G.loc a x.gen = some L → V.loc j 0 = some L) := by
  intro j a y K A
  cases hx : mem[a]? with
  | none =>
   have := hnones j (by rw [eI, K]; simp [hx])
   rw [A] at this; cases this
  | some o =>
   cases o with
   | none =>
    have := hnones j (by rw [eI, K]; simp [hx])
    rw [A] at this; cases this
   | some x =>
    obtain ⟨y', O, hk, hl⟩ := hkept j { gen := 0, frz := x.frz, row := x.row.ren (fZ mem ids) } (by rw [eI, K]; simp [hx])
    rw [A] at O
    obtain rfl : y = y' := by simpa using O
    simp only [eD] at hk hl
    refine ⟨x, rfl, hk, fun hc L hL => hl hc L ?_⟩
    simp [KB, vD, K, l8.2 ⟨x, hx, rfl⟩, hL]
 have hq2 : ∀ {j a : Nat} {x : d8}, ids[j]? = some a → mem[a]? = some (some x) → ∃ y, q[j]? = some (some y) := by
  intro j a x K hx
  obtain ⟨y', O, _⟩ := hkept j { gen := 0, frz := x.frz, row := x.row.ren (fZ mem ids) } (by rw [eI, K]; simp [hx])
  exact ⟨y', O⟩
 have hbgen : ∀ {a : Nat} {x y : d8} {f : k9}, mem[a]? = some (some x) → (kB f mem a y).gen = (bif y.row.isCells then x.gen else x.gen + 1) := by
  intro a x y f hx
  simp [kB, l8.2 ⟨x, hx, rfl⟩]
 have hcome : ∀ B, V.mine B → AY G w mem ids B := fun B h => by rw [hmine3] at h; exact h
 have hEv : Ev G w w' := ⟨hev.size, hev.out, hev.os, fun B hB hm => hev.away B hB (fun h => hm (AY.mine hM h)), hev.some, fun β B o h => hev.prot β B o (.inl h), hev.fz, hev.tape⟩
 -- the protection
 let pr : Bool → Nat → Nat → Prop := fun β B o => if β = true then (if eZ lent = true then G4.prot true B o else G.prot true B o ∨ G4.prot false B o) else G4.prot false B o
 have hnb4 : ∀ β B o, G4.prot β B o → V.prot β B o ∨ AY G w mem ids B := fun β B o h => (h4n β B o h).imp id (by rintro ⟨b, x, L, _, hx, hl, hB⟩; exact hcome B (hM3.mine hx hl hB))
 have hsem : ∀ B o, eZ lent = true → ¬ bH G mem lent B o := by
  rintro B o he ⟨b, hb, _⟩
  rw [mN he] at hb; cases hb
 have hprle : ∀ β B o, pr β B o → (∃ β', G.prot β' B o) ∨ AY G w mem ids B := by
  intro β B o h
  have h3 : ∀ β, (β = true → eZ lent = true) → G4.prot β B o → (∃ β', G.prot β' B o) ∨ AY G w mem ids B := by
   intro β hβ h
   rcases hnb4 β B o h with h | h
   ·rcases hnew3 β B o h with h | h
    ·rcases h with h | ⟨h, h'⟩
     ·exact .inl ⟨_, h⟩
     ·exact absurd h' (hsem B o (hβ h))
    ·exact .inr h
   ·exact .inr h
  simp only [pr] at h
  split at h
  ·split at h
   ·rename_i he; exact h3 true (fun _ => he) h
   ·rcases h with h | h
    ·exact .inl ⟨_, h⟩
    ·exact h3 false (fun h => by cases h) h
  ·exact h3 false (fun h => by cases h) h
 have hG4 : ∀ β B o, G.prot β B o → G4.prot β B o := fun β B o h => h4p β B o (hprot3 β B o (.inl h))
 have hprG : ∀ β B o, G.prot β B o → pr β B o := by
  intro β B o h
  simp only [pr]
  cases β with
  | true => simp only [if_true]; split; exact hG4 _ _ _ h; exact .inl h
  | false => simp only [yg2, if_false]; exact hG4 _ _ _ h
 have hpr4 : ∀ β B o, pr β B o → ∃ β', G4.prot β' B o := by
  intro β B o h
  simp only [pr] at h
  split at h
  ·split at h
   ·exact ⟨_, h⟩
   ·rcases h with h | h
    ·exact ⟨_, hG4 _ _ _ h⟩
    ·exact ⟨_, h⟩
  ·exact ⟨_, h⟩
 have hprnew : ∀ β B o, pr β B o → G.prot β B o ∨ G.mine B := by
  intro β B o h
  have h3 : ∀ β, (β = true → eZ lent = true) → G4.prot β B o → G.prot β B o ∨ G.mine B := by
   intro β hβ h
   rcases hnb4 β B o h with h | h
   ·rcases hnew3 β B o h with h | h
    ·rcases h with h | ⟨h, h'⟩
     ·exact .inl h
     ·exact absurd h' (hsem B o (hβ h))
    ·exact .inr (AY.mine hM h)
   ·exact .inr (AY.mine hM h)
  simp only [pr] at h
  split at h
  ·rename_i hβ; subst hβ
   split at h
   ·rename_i he; exact h3 true (fun _ => he) h
   ·rcases h with h | h
    ·exact .inl h
    ·rcases h3 false (fun h => by cases h) h with h | h
     ·exact .inl (hM.lab _ _ h)
     ·exact .inr h
  ·rename_i hβ
   have : β = false := by simpa using hβ
   subst this
   exact h3 false (fun h => by cases h) h
 let G' : Gh := { mine := G.mine, prot := pr, loc := fY G V mem q ids sub.length }
 have N : (aQ mem (bF (cH mem sub ids) mem ids q)).length = mem.length := bP
 -- where boxes stand
 have lB : ∀ {j a : Nat} {y : d8} {f : k9}, ids[j]? = some a → q[j]? = some (some y) → G'.loc a (kB f mem a y).gen = V.loc j 0 := by
  intro j a y f K A
  obtain ⟨x, hx, _⟩ := hq K A
  have J : a < mem.length := (yh.1 hx).1
  show fY G V mem q ids sub.length a _ = _
  unfold fY
  rw [if_pos J, pD hn K]
  simp only [yj1, A]
  rw [if_pos (by rfl)]
 have lO : ∀ {a g : Nat}, a < mem.length → a ∉ ids → G'.loc a g = G.loc a g := by
  intro a g J M
  show fY G V mem q ids sub.length a g = _
  unfold fY
  rw [if_pos J]
  cases hi : rD a ids 0 with
  | none => rfl
  | some j =>
   obtain ⟨i, rfl, K⟩ := yZ hi
   exact absurd (yj K) M
 have lN : ∀ {i : Nat}, ids.length + i < sub.length → G'.loc (mem.length + i) 0 = V.loc (ids.length + i) 0 := by
  intro i hi
  show fY G V mem q ids sub.length (mem.length + i) 0 = _
  unfold fY
  rw [if_neg (by omega), yk3, if_pos ⟨rfl, hi⟩]
 have hGle : eA G G' := by
  refine ⟨rfl, hprG, fun a g L hL => ?_, hprnew⟩
  by_cases J : a < mem.length
  ·show fY G V mem q ids sub.length a g = _
   unfold fY
   rw [if_pos J]
   cases hi : rD a ids 0 with
   | none => exact hL
   | some j =>
    obtain ⟨i, rfl, K⟩ := yZ hi
    simp only [yj1]
    split
    ·rename_i y A
     split
     ·rename_i hg
      obtain ⟨x, hx, hk, hc⟩ := hq K A
      rw [hbgen hx] at hg
      cases hyc : y.row.isCells with
      | true => rw [hyc] at hg; simp only [yg] at hg; subst hg; exact hc (by rw [← hk]; exact hyc) L hL
      | false =>
       rw [hyc] at hg; simp only [ye] at hg; subst hg
       rw [hM.gens a x _ hx (Nat.lt_succ_self _)] at hL; cases hL
     ·exact hL
    ·exact hL
  ·rw [hM.unset a g (fun x hx => J (yh.1 hx).1)] at hL; cases hL
 -- renaming back
 have hren : A9 G4 G' (cH mem sub ids) := by
  intro b g p L U hL
  unfold cH at U
  cases hg : Nat.beq g 0 with
  | false => rw [hg] at U; simp at U
  | true =>
   rw [hg] at U; simp only [yg] at U
   obtain rfl := cY.1 hg
   rw [h4l] at hL
   split at U
   ·rename_i a J
    split at U
    ·rename_i y h' A hgen
     obtain rfl := yb U
     have hb : b < ids.length := (yh.1 J).1
     rw [hsub b (by omega)] at A
     have := lB (f := fun _ _ => none) J A
     simp only [kB, hgen] at this
     simp only
     rw [this]; exact hL
    ·simp at U
   ·rename_i hno
    cases hlt : Nat.blt b sub.length with
    | false => rw [hlt] at U; simp at U
    | true =>
     rw [hlt] at U; simp only [yg] at U
     obtain rfl := yb U
     have hb : b < sub.length := by simp [Nat.blt] at hlt; omega
     have hge := List.getElem?_eq_none_iff.1 hno
     have := lN (i := b - ids.length) (by omega)
     simp only
     rw [this, show ids.length + (b - ids.length) = b by omega]; exact hL
 have hp4 : ∀ {l : Bool}, l = eZ lent → ∀ β B o, (β = true → l = true) → G4.prot β B o → G'.prot β B o := by
  intro l hl β B o hβ h
  show pr β B o
  simp only [pr]
  cases β with
  | true => simp only [if_true]; rw [if_pos (by rw [← hl]; exact hβ rfl)]; exact h
  | false => simp only [yg2, if_false]; exact h
 have hren3 : A9 V G' (cH mem sub ids) := fun b g p L U hL => hren b g p L U (by rw [h4l]; exact hL)
 have hrowlent : ∀ {j : Nat} {y : d8}, q[j]? = some (some y) → sQ y.row = true → eZ lent = true := by
  intro j y A hl
  rcases hlent with h | ⟨_, h⟩
  ·exact h
  ·rw [nB A hl] at h; cases h
 -- a box of the callee's, at its new number
 have hbox : ∀ {j a g : Nat} {y : d8}, j < sub.length → q[j]? = some (some y) → G'.loc a g = V.loc j 0 → Pq G' w' a { gen := g, frz := y.frz, row := y.row.ren (cH mem sub ids) } := by
  intro j a g y hjs A Z
  have hg0 := W j y A
  have hby := hM3.box j y A
  obtain ⟨o, hl, hm⟩ := hby.loc
  refine ⟨by simp only [lK]; exact hby.e, o, by simp only [lK, iN]; rw [Z, ← hg0]; exact hl, ?_⟩
  cases o with
  | none => simp only [iN, eD]; exact hm
  | some B =>
   obtain ⟨h1, h2, h3, h4, h5⟩ := hm
   have hmB : G.mine B := AY.mine hM (hcome B h1)
   refine ⟨hmB, h2, h3, h4.ren (l := eZ lent) hren3 (fun β B o hβ h => hp4 rfl β B o hβ (h4p β B o h)) (hrowlent A), fun hf β o U => ?_⟩
   obtain ⟨β', hp'⟩ := hpr4 β B o U
   rcases h4n β' B o hp' with hp' | ⟨b, x, L, hb, hx, hL, hB⟩
   ·exact h5 hf β' o hp'
   ·have := hM3.apart j b y x _ L B A hx hl hL rfl hB
    omega
 -- entries
 have hent : ∀ (a : Nat) (z : d8), (aQ mem (bF (cH mem sub ids) mem ids q) ++ eE (cH mem sub ids) (sub.drop ids.length))[a]? = some (some z) →
   (a < mem.length ∧ a ∉ ids ∧ mem[a]? = some (some z)) ∨
   (∃ j y, j < sub.length ∧ q[j]? = some (some y) ∧ z = { gen := z.gen, frz := y.frz, row := y.row.ren (cH mem sub ids) } ∧ G'.loc a z.gen = V.loc j 0 ∧ ((∃ x, ids[j]? = some a ∧ mem[a]? = some (some x) ∧ x.gen ≤ z.gen) ∨ (∃ i, j = ids.length + i ∧ a = mem.length + i ∧ z.gen = 0))) := by
  intro a z H
  by_cases J : a < mem.length
  ·rw [yq (by rw [N]; exact J)] at H
   by_cases hi : ∃ (j : Nat) (y : d8), ids[j]? = some a ∧ q[j]? = some (some y)
   ·obtain ⟨j, y, K, A⟩ := hi
    rw [rE hn K A J] at H
    obtain rfl : kB (cH mem sub ids) mem a y = z := by simpa using H
    obtain ⟨x, hx, hk, _⟩ := hq K A
    have hjl := (yh.1 K).1
    refine .inr ⟨j, y, by omega, A, rfl, lB K A, .inl ⟨x, K, hx, ?_⟩⟩
    rw [hbgen hx]
    cases y.row.isCells <;> simp
   ·rw [mD (fun j y h1 h2 => hi ⟨j, y, h1, h2⟩)] at H
    refine .inl ⟨J, fun hm => ?_, H⟩
    obtain ⟨j, K, rfl⟩ := yp1 hm
    obtain ⟨y, A⟩ := hq2 (yd K) H
    exact hi ⟨j, y, yd K, A⟩
  ·rw [yt (by rw [N]; omega), N, lD, yd1] at H
   obtain ⟨o, ho, H⟩ := yf.1 H
   cases o with
   | none => simp at H
   | some y =>
    simp only [yo, Option.some.injEq] at H
    have hjl := (yh.1 ho).1
    rw [hsub _ hjl] at ho
    refine .inr ⟨_, y, hjl, ho, by rw [← H], ?_, .inr ⟨a - mem.length, rfl, by omega, by rw [← H]⟩⟩
    have := lN hjl
    rw [show mem.length + (a - mem.length) = a by omega] at this
    rw [← H]; exact this
 have hblk : ∀ {j : Nat} {y : d8} {L : yW} {B : Nat}, q[j]? = some (some y) → V.loc j 0 = some L → L.blk = some B → AY G w mem ids B := by
  intro j y L B A hl hB
  rw [← W j y A] at hl
  exact hcome B (hM3.mine A hl hB)
 have hother : ∀ {a : Nat} {z : d8} {L : yW} {B : Nat}, a ∉ ids → mem[a]? = some (some z) → G.loc a z.gen = some L → L.blk = some B → ¬ AY G w mem ids B := by
  intro a z L B J H hl hB hc
  rcases hc with hc | ⟨b, x, L', hb, hx, Y, hB'⟩
  ·have := hM.blk_lt H hl hB; omega
  ·have := hM.apart a b z x L L' B H hx hl Y hB hB'
   subst this; exact J hb
 refine ⟨G', hv.ren (l := eZ lent) hren (hp4 rfl) (fun hl => ?_), hGle, hEv, ?_⟩
 ·rcases hlent with h | ⟨h, _⟩
  ·exact h
  ·rw [h] at hl; cases hl
 refine ⟨fun a z H => ?_, fun a g H => ?_, fun a z g H hlt => ?_, fun a a' z z' L L' B H hz' hl Y hk hk' => ?_, fun B hB => hM.own B (yt2 hEv.size hB), fun B o h => ?_, fun β B o h => ?_, hM.glob.mono (hGle.prot true) (hEv.prot true)⟩
 ·rcases hent a z H with ⟨J, M, H⟩ | ⟨j, y, hjs, A, hze, Z, _⟩
  ·have hbz := hM.box a z H
   obtain ⟨o, hl, hm⟩ := hbz.loc
   refine ⟨hbz.e, o, by rw [lO J M]; exact hl, ?_⟩
   cases o with
   | none => exact hm
   | some B =>
    obtain ⟨h1, h2, h3, h4, h5⟩ := hm
    have hnc := hother M H hl rfl
    have hh : w'.heap[B]? = w.heap[B]? := hev.away B h2 hnc
    refine ⟨h1, yn2 h2 hEv.size, h3.of_heap hh, h4.mono hGle hEv (fun o _ => iL hh o), fun hf β o U => ?_⟩
    rcases hprle β B o U with ⟨β', U⟩ | U
    ·exact h5 hf β' o U
    ·exact hnc U
  ·rw [hze]; exact hbox hjs A Z
 ·by_cases J : a < mem.length
  ·by_cases M : a ∈ ids
   ·obtain ⟨j, K, rfl⟩ := yp1 M
    have hjj := yd K
    cases A : q[j]? with
    | none =>
     have := hql; have := (List.getElem?_eq_none_iff.1 A); omega
    | some o =>
     cases o with
     | some y =>
      refine absurd ?_ (H (kB (cH mem sub ids) mem ids[j] y))
      rw [yq (by rw [N]; exact J)]
      exact rE hn hjj A J
     | none =>
      show fY G V mem q ids sub.length _ g = none
      unfold fY
      rw [if_pos J, pD hn hjj]
      simp only [yj1, A]
      refine hM.unset _ g (fun x hx => ?_)
      obtain ⟨y, O⟩ := hq2 hjj hx
      rw [A] at O; cases O
   ·rw [lO J M]
    refine hM.unset a g (fun x hx => H x ?_)
    rw [yq (by rw [N]; exact J), mD (fun j y h1 _ => M (yj h1))]; exact hx
  ·show fY G V mem q ids sub.length a g = none
   unfold fY
   rw [if_neg J]
   split
   ·rename_i hc
    refine hM3.unset _ 0 (fun x hx => ?_)
    refine H { gen := 0, frz := x.frz, row := x.row.ren (cH mem sub ids) } ?_
    rw [yt (by rw [N]; omega), N, lD, yd1, hsub _ hc.2, hx]; rfl
   ·rfl
 ·rcases hent a z H with ⟨J, M, H⟩ | ⟨j, y, hjs, A, hze, Z, ⟨x, K, hx, hge⟩ | ⟨i, rfl, rfl, h0⟩⟩
  ·rw [lO J M]; exact hM.gens a z g H hlt
  ·have J : a < mem.length := (yh.1 hx).1
   have hloc' := lB (f := fun _ _ => none) K A
   show fY G V mem q ids sub.length a g = none
   unfold fY
   rw [if_pos J, pD hn K]
   simp only [yj1, A]
   have hzg : z.gen = (kB (fun _ _ => none) mem a y).gen := by
    have hz2 := H
    rw [yq (by rw [N]; exact J), rE hn K A J] at hz2
    obtain rfl : kB (cH mem sub ids) mem a y = z := by simpa using hz2
    rfl
   rw [if_neg (by omega)]
   exact hM.gens a x g hx (by omega)
  ·show fY G V mem q ids sub.length _ g = none
   unfold fY
   rw [if_neg (by omega), if_neg (by omega)]
 ·rcases hent a z H with ⟨J, M, H⟩ | ⟨j, y, hjs, A, hze, Z, hw⟩
  ·rw [lO J M] at hl
   rcases hent a' z' hz' with ⟨ha', hni', hz'⟩ | ⟨j', y', hjs', O, hze', hloc', hw'⟩
   ·rw [lO ha' hni'] at Y
    exact hM.apart a a' z z' L L' B H hz' hl Y hk hk'
   ·rw [hloc'] at Y
    exact absurd (hblk O Y hk') (hother M H hl hk)
  ·rw [Z] at hl
   rcases hent a' z' hz' with ⟨ha', hni', hz'⟩ | ⟨j', y', hjs', O, hze', hloc', hw'⟩
   ·rw [lO ha' hni'] at Y
    exact absurd (hblk A hl hk) (hother hni' hz' Y hk')
   ·rw [hloc'] at Y
    have hjj := hM3.apart j j' y y' L L' B A O (by rw [W j y A]; exact hl) (by rw [W j' y' O]; exact Y) hk hk'
    subst hjj
    rcases hw with ⟨x, K, _⟩ | ⟨i, hi, rfl, _⟩
    ·rcases hw' with ⟨x', hj', _⟩ | ⟨i', hi', rfl, _⟩
     ·rw [K] at hj'; exact yb hj'
     ·have := (yh.1 K).1; omega
    ·rcases hw' with ⟨x', hj', _⟩ | ⟨i', hi', rfl, _⟩
     ·have := (yh.1 hj').1; omega
     ·omega
 ·show pr true B o
  have h' : pr false B o := h
  simp only [pr, yg2, if_false] at h'
  simp only [pr, if_true]
  split
  ·exact h4lab B o h'
  ·exact .inr h'
 ·obtain ⟨β', hp'⟩ := hpr4 β B o h
  rcases h4n β' B o hp' with hp' | ⟨b, x, L, hb, hx, hL, hB⟩
  ·exact hM3.away β' B o hp'
  ·exact hM3.blk_lt hx hL hB
end
end Go.Ab
end
section
namespace Go.Ab
variable [cD]
section
variable {P : Program}
theorem o6.append {G : Gh} {w : World} {a b : List AV} {u v : Array Value} (h : o6 G w a u) (A : o6 G w b v) : o6 G w (a ++ b) (u ++ v) := by
 refine ⟨by simp [h.1, A.1], fun j y z => ?_⟩
 by_cases H : j < a.length
 ·rw [yq H] at z
  have := h.2 j y z
  rw [ym, ya3 (by rw [← h.1]; exact H), ← ym]; exact this
 ·rw [yt (by omega)] at z
  have := A.2 _ y z
  rw [ym, Array.getElem?_append_right (by rw [← h.1]; omega), ← h.1, ← ym]; exact this
theorem o6.renAll {G z : Gh} {w : World} {f : k9} {as : List AV} {vs : Array Value} (h : o6 G w as vs) (A : A9 G z f) (H : ∀ β B o, G.prot β B o → z.prot β B o) : o6 z w (AV.renAll f as) vs := by
 refine ⟨by rw [eL]; simpa using h.1, fun j y J => ?_⟩
 obtain ⟨x, hx, rfl⟩ := pS J
 exact (h.2 j x hx).ren (l := true) A (fun β B o _ => H β B o) (fun _ => rfl)
theorem Ig {C : bZ} (hC : jC P C) {G : Gh} {w : World} {mem : a9} (hM : aT G w mem) {raw keep : Bool} {g : FuncId} {ts : List TypeId} {Y args Z : List AV} {out : eM} {fv av cv : Array Value}
  (h : z7 P C raw keep g ts Y args Z mem = some out) (hf : o6 G w Y fv) (ha : o6 G w args av) (hc : o6 G w Z cv) : Nr P G w mem g (fv ++ av ++ cv) out := by
 unfold z7 at h
 rw [bind_some] at h; obtain ⟨A, hla, h⟩ := h
 simp only at h
 generalize hids : fN mem (cZ mem (AV.refsAll (Y ++ A.1 ++ Z)).length) (AV.refsAll (Y ++ A.1 ++ Z)) [] = ids at h
 rw [aB] at h; obtain ⟨hg, h⟩ := h
 simp only [yc] at hg
 obtain ⟨hn, hd⟩ := hg
 rw [bind_some] at h; obtain ⟨q, hq, h⟩ := h
 rw [aB] at h; obtain ⟨hg, h⟩ := h
 simp only [yc, yc2, yy, Bool.or_eq_false_iff] at hg
 obtain ⟨J, z⟩ := hg
 have J := eT.1 J
 have hgl := eA.lend G (bH G mem A.2) hM.inBoxes
 have O := Ii (us := av.toList) (S := A.2) hM hla ⟨by simpa using ha.1, fun j y hy => by rw [dR]; exact ha.2 j y hy⟩ (fun b h => h)
 have hall : o6 (G.lend (bH G mem A.2)) w (Y ++ A.1 ++ Z) (fv ++ av ++ cv) :=
  ((hf.mono hgl (Ev.refl G w)).append ⟨by simpa using O.1, fun j y hy => by rw [← dR]; exact O.2 j y hy⟩).append (hc.mono hgl (Ev.refl G w))
 have hM1 := N1 (lent := A.2) hM hn hd
 have U : o6 (KB G w mem ids A.2) w (AV.renAll (fZ mem ids) (Y ++ A.1 ++ Z)) (fv ++ av ++ cv) := hall.renAll (CK (G := G.lend (bH G mem A.2)) rfl) (fun _ _ _ h => h)
 obtain ⟨hen, hcl⟩ := hC g _ _ q hq _ w _ hM1 (fun j x hx => by obtain ⟨b, y, _, _, rfl⟩ := gM hx; rfl) U
 refine ⟨hen, Calls.mono hcl fun e w' he => ?_⟩
 obtain ⟨G3, qv, rfl, hR⟩ := he
 obtain ⟨qr, qm⟩ := q
 simp only at h z J hR
 have hR' := hR
 obtain ⟨K, hev, hmine3, hprot3, hnew3, N, hgens, hkept, hnones⟩ := hR'
 simp only at K N
 have hl3 : ∀ B o, G3.prot false B o → G3.prot true B o := N.lab
 cases hcd : (fG ids.length (bif raw then qr else kT ids.length qm qr).refs && fG ids.length (lJ (List.take ids.length qm))) with
 | true =>
  rw [hcd] at h; simp only [yg] at h
  obtain rfl := yb h
  have htl : (qm.take ids.length).length = ids.length := by simp; omega
  have key : ∃ r, r = (bif raw then qr else kT ids.length qm qr) ∧ VR (G3.frz (lU G3 qm ids.length)) w' r qv ∧ (qr.lent = false ∧ gN qm = false → r.lent = false) := by
   cases raw with
   | true => exact ⟨_, rfl, K.mono (eA.frz G3 _ (by rintro B o ⟨b, x, L, _, hx, hl, hB⟩; exact N.mine hx hl hB)) (Ev.refl G3 w'), fun h => h.1⟩
   | false => exact ⟨_, rfl, Gz N K, fun h => IE h.2 h.1⟩
  obtain ⟨r, hr, hvr, hrl⟩ := key
  obtain ⟨G', V, H, W, M⟩ := IU (sub := qm.take ids.length) (lent := A.2) (r := r) (cv := qv) hM hn hd hR (z.imp id (fun h => ⟨hrl h, h.2⟩)) hvr rfl rfl (fun _ _ _ h => .inl h)
   (fun β B o h => by rw [htl]; exact h) (fun B o h => h.imp (hl3 B o) id) (fun j hj => by rw [htl] at hj; rw [yo2, if_pos hj]) (by omega) (by omega)
  refine ⟨G', qv, rfl, by rw [← hr]; exact V, H, W, ?_⟩
  have hnil : (qm.take ids.length).drop ids.length = [] := List.drop_eq_nil_of_le (by omega)
  rw [hnil] at M
  exact M
 | false =>
  rw [hcd] at h; simp only [ye] at h
  obtain rfl := yb h
  obtain ⟨G', V, H, W, M⟩ := IU (sub := qm) (lent := A.2) (r := qr) (cv := qv) hM hn hd hR z K rfl rfl (fun _ _ _ h => h)
   (fun β B o h => .inl h) hl3 (fun j hj => rfl) J (yz _)
  exact ⟨G', qv, rfl, V, H, W, M⟩
end
end Go.Ab
end
section
namespace Go.Ab
variable [cD]
structure SR (G : Gh) (w : World) (st : St) (a : Act) : Prop where
 memr : aT G w st.mem
 len : st.tmps.length = a.tmps.size
 tmps : ∀ (j : Nat) (x : AV), st.tmps[j]? = some x → fW x = true ∨ VR G w x (a.tmps.getD j undef)
 defers : a.defers = []
structure GN (G0 : Gh) (w0 : World) (old : List (Option Bool)) (G : Gh) (w : World) : Prop where
 ev : Ev G0 w0 w
 mine : G.mine = G0.mine
 prot : ∀ β B o, G0.prot β B o → G.prot β B o
 new : ∀ β B o, G.prot β B o → G0.prot β B o ∨ G0.mine B
 keep : ∀ j, old[j]? = some (some true) → ∀ L, G0.loc j 0 = some L → G.loc j 0 = some L
theorem GN.refl (G : Gh) (w : World) (old : List (Option Bool)) : GN G w old G w := ⟨Ev.refl G w, rfl, fun _ _ _ h => h, fun _ _ _ h => .inl h, fun _ _ _ h => h⟩
theorem GN.step {G0 : Gh} {w0 : World} {old : List (Option Bool)} {G K : Gh} {w J : World} (h : GN G0 w0 old G w) (A : eA G K) (z : Ev G w J) : GN G0 w0 old K J where
 ev :=
  ⟨yt2 h.ev.size z.size, z.out.trans h.ev.out, z.os.trans h.ev.os, fun B H hm => (z.away B (yn2 H h.ev.size) (by rw [h.mine]; exact hm)).trans (h.ev.away B H hm),
   fun B o x => z.some B o (h.ev.some B o x), fun β B o x => (z.prot β B o (h.prot _ _ _ x)).trans (h.ev.prot β B o x), fun B o x => (z.fz B o (h.ev.some B o x)).trans (h.ev.fz B o x), z.tape.trans h.ev.tape⟩
 mine := A.mine.trans h.mine
 prot β B o x := A.prot _ _ _ (h.prot _ _ _ x)
 new β B o x := (A.new _ _ _ x).elim (h.new _ _ _) (fun y => .inr (by rw [← h.mine]; exact y))
 keep j hj L hL := A.loc _ _ _ (h.keep j hj L hL)
theorem Mq {tmps : List AV} {t : Nat} {v : AV} (h : B9 tmps t = some v) : tmps[t]? = some v ∧ fW v = false := by
 unfold B9 at h
 rw [bU] at h
 rw [bind_some] at h; obtain ⟨u, A, h⟩ := h
 cases z : fW u with
 | true => rw [z] at h; simp at h
 | false => rw [z] at h; simp only [ye] at h; obtain rfl := yb h; exact ⟨A, z⟩
section
variable {P : Program}
theorem SR.get {G : Gh} {w : World} {st : St} {a : Act} (h : SR G w st a) {t : Nat} {v : AV} (ht : B9 st.tmps t = some v) : VR G w v (a.tmps.getD t undef) := by
 obtain ⟨h1, h2⟩ := Mq ht
 rcases h.tmps t v h1 with z | z
 ·rw [h2] at z; cases z
 ·exact z
theorem JG {G : Gh} {w : World} {mem : a9} (hM : aT G w mem) {g : Nat} {q : Int × Int} (h : cD.tab g = some q) : VR G w (.el true (.agg [.lit (.int .i64 q.1), .lit (.int .i64 q.2)]) 0) (.pointer (some ⟨g, 0, none⟩)) := by
 obtain ⟨⟨h1, h2⟩, H, A⟩ := hM.glob g q h
 refine .el true _ 0 g 0 (fun j => if j = 0 then .int .i64 q.1 else .int .i64 q.2) (fun j y z => ?_) (fun j y z => ?_)
 ·match j, z with
  | 0, z => exact ⟨h1, h2⟩
  | 1, z => exact ⟨H, A⟩
 ·match j, z with
  | 0, z => obtain rfl := yb z; exact .lit _ rfl
  | 1, z => obtain rfl := yb z; exact .lit _ rfl
theorem SR.eval {G : Gh} {w : World} {st : St} {a : Act} (h : SR G w st a) : Pl G w (fP st.tmps) a := by
 intro x v hx
 cases x with
 | tmp t => exact h.get hx
 | const c => exact oQ hx
 | func f =>
  obtain rfl := yb hx
  exact .fn (.func f) [] [] #[] #[] rfl rfl (fun j y z => by simp at z) (fun j y z => by simp at z)
 | global g =>
  simp only [fP] at hx
  obtain ⟨q, A, rfl⟩ := yf.1 hx
  exact JG h.memr A
theorem IX (a : Act) (dst : Option Tmp) (v : Value) : (a.put dst v).defers = a.defers ∧ (a.put dst v).tmps.size = a.tmps.size := by
 cases dst <;> simp [Act.put]
theorem SR.put {G H : Gh} {w A : World} {st : St} {a : Act} {dst : Option Tmp} {v : AV} {cv : Value} {mem' : a9} (h : SR G w st a) (M : eA G H) (K : Ev G w A) (N : VR H A v cv) (hM : aT H A mem') :
  SR H A { tmps := lA st.tmps dst v, mem := mem' } (a.put dst cv) := by
 refine ⟨hM, ?_, fun j x hx => ?_, by rw [(IX a dst cv).1]; exact h.defers⟩
 ·rw [(IX a dst cv).2, ← h.len]
  cases dst <;> simp [lA, eF]
 ·cases dst with
  | none => exact (h.tmps j x hx).imp id (fun h => h.mono M K)
  | some d =>
   simp only [lA, eF] at hx
   simp only [Act.put]
   by_cases J : j = d
   ·subst J
    have z : j < st.tmps.length := by have := (yh.1 hx).1; simpa using this
    rw [yf1 z] at hx
    obtain rfl := yb hx
    right
    rw [ym, Array.getElem?_setIfInBounds_self_of_lt (by rw [← h.len]; exact z)]
    exact N
   ·rw [yg1 (fun e => J e.symm)] at hx
    refine (h.tmps j x hx).imp id (fun h => ?_)
    rw [ym, Array.getElem?_setIfInBounds_ne (fun e => J e.symm), ← ym]
    exact h.mono M K
theorem aT.congr {G : Gh} {w : World} {mem mem' : a9} (hM : aT G w mem) (h : ∀ (b : Nat) (x : d8), mem'[b]? = some (some x) ↔ mem[b]? = some (some x)) : aT G w mem' :=
 ⟨fun b x hx => hM.box b x ((h b x).1 hx), fun b g hx => hM.unset b g (fun x z => hx x ((h b x).2 z)), fun b x g hx => hM.gens b x g ((h b x).1 hx),
  fun b A x x' L H B hx z => hM.apart b A x x' L H B ((h b x).1 hx) ((h A x').1 z), hM.own, hM.lab, hM.away, hM.glob⟩
theorem I2 : ∀ {m : a9} {b : Nat} {x : d8}, (trim m)[b]? = some (some x) ↔ m[b]? = some (some x)
 | [], b, x => by simp [trim]
 | y :: m, b, x => by
  have A := fun b => I2 (m := m) (b := b) (x := x)
  simp only [trim]
  split
  ·rename_i hn
   rw [hn] at A
   have h : ∀ b : Nat, m[b]? ≠ some (some x) := fun b H => by have := (A b).2 H; simp at this
   cases y with
   | none =>
    simp only [KA, yg]
    cases b with
    | zero => simp
    | succ b => simp [h b]
   | some y =>
    simp only [KA, ye]
    cases b with
    | zero => simp
    | succ b => simp [h b]
  ·rename_i z hz
   cases b with
   | zero => simp
   | succ b => simp only [yx1]; exact A b
theorem LC {mem : a9} {rs : Nat} : vV mem rs = true ↔ mem[rs]? = some none := by
 unfold vV
 split
 ·rename_i h; simp [h]
 ·rename_i h; constructor
  ·intro z; cases z
  ·intro z; exact absurd z h
inductive qV (P : Program) (C : bZ) (an : mR) (rid : Nat) (ops : Array Oper) (o : Oper) (i rs : Nat) (st : St) : St → Option Tr → Prop
 | run (out : eM) (st1 : St) (hst : st1.mem = st.mem ∧ ∀ t : Nat, st1.tmps[t]? = st.tmps[t]?) (hres : d9 o.op = true → vV st.mem rs = true) (h : I0 P C (cG rid i an.boxed) (cG rid i an.raw) (cG rid i an.vars) o (fP st1.tmps) st1.mem rs = some out)
   (hg : ∀ j want, o.guard = some (j, want) → ∃ d, (ops[j]?).bind (·.dst) = some d ∧ st.tmps[d]? = some (.lit (.bool want))) :
   qV P C an rid ops o i rs st { tmps := lA st1.tmps o.dst out.v, mem := out.apply st1.mem } (some (out.tr (d9 o.op) rs i o.op st1.mem))
 | skip (st1 : St) (hst : st1.mem = st.mem ∧ ∀ t : Nat, st1.tmps[t]? = st.tmps[t]?) (j : Nat) (want : Bool) (d : Nat) (hg : o.guard = some (j, want)) (hd : (ops[j]?).bind (·.dst) = some d)
   (h : st.tmps[d]? = some (.lit (.bool (!want))) ∨ ∃ x, st.tmps[d]? = some (.lit (.tuple x))) : qV P C an rid ops o i rs st { tmps := lA st1.tmps o.dst (.lit undef), mem := st1.mem } none
theorem Nq {tmps : List AV} {d : Nat} {v : AV} (h : tmps[d]? = some v) : ∀ t : Nat, (tmps.set d v)[t]? = tmps[t]? := by
 intro t
 by_cases e : t = d
 ·subst e; rw [yf1 (yh.1 h).1, h]
 ·rw [yg1 (fun x => e x.symm)]
variable {R : Type}
theorem Ir {h : Option Int} {v : AV} {k : AV → Option R} {r : R} (z : wI h v k = some r) : k v = some r := by
 unfold wI at z
 split at z
 ·exact z
 ·split at z
  ·rw [aB] at z
   rw [decide_eq_true_eq] at z
   rw [z.1]; exact z.2
  ·rename_i x _ b
   cases hx : decide (x = 0) with
   | true =>
    rw [hx] at z; simp only [yg] at z
    rw [aB] at z
    cases b with
    | false => exact z.2
    | true => simp at z
   | false =>
    rw [hx] at z; simp only [ye] at z
    rw [aB] at z
    cases b with
    | true => exact z.2
    | false => simp at z
  ·exact z
theorem FV {C : bZ} {an : mR} {rid : Nat} {ops : Array Oper} {o : Oper} {rest : List Oper} {i rs : Nat} {st : St} {tr : List Tr} {k : St → List Tr → Option R} {r : R}
  (h : qK P C an rid (ops.toList.map (·.dst)) (o :: rest) i rs st tr k = some r) :
  ∃ H t, qV P C an rid ops o i rs st H t ∧ qK P C an rid (ops.toList.map (·.dst)) rest (i + 1) (bif d9 o.op then rs + 1 else rs) H (t.toList ++ tr) k = some r := by
 simp only [qK, bU, eF] at h
 have hds : ∀ {j : Nat} {d : Nat}, (ops.toList.map (·.dst))[j]? = some (some d) → (ops[j]?).bind (·.dst) = some d := by
  intro j d hj
  rw [yh1] at hj
  obtain ⟨x, hx, Y⟩ := yf.1 hj
  rw [yk1] at hx
  rw [hx]; exact Y
 have N : ∀ (A : St), (A.mem = st.mem ∧ ∀ t : Nat, A.tmps[t]? = st.tmps[t]?) → (∀ j z, o.guard = some (j, z) → ∃ d, (ops[j]?).bind (·.dst) = some d ∧ st.tmps[d]? = some (.lit (.bool z))) →
   guardB (bif d9 o.op then vV A.mem rs else true) ((I0 P C (cG rid i an.boxed) (cG rid i an.raw) (cG rid i an.vars) o (fP A.tmps) A.mem rs).bind fun out =>
    wI (AR rid i an.hint) out.v fun v => qK P C an rid (ops.toList.map (·.dst)) rest (i + 1) (bif d9 o.op then rs + 1 else rs) { tmps := lA A.tmps o.dst v, mem := out.apply A.mem } (out.tr (d9 o.op) rs i o.op A.mem :: tr) k) = some r →
   ∃ H t, qV P C an rid ops o i rs st H t ∧ qK P C an rid (ops.toList.map (·.dst)) rest (i + 1) (bif d9 o.op then rs + 1 else rs) H (t.toList ++ tr) k = some r := by
  intro A U O h
  rw [aB] at h; obtain ⟨hr, h⟩ := h
  rw [bind_some] at h; obtain ⟨out, hout, h⟩ := h
  have h := Ir h
  refine ⟨_, _, .run out A U (fun hm => ?_) hout O, by simpa using h⟩
  rw [hm] at hr; rw [← U.1]; exact hr
 have J : ∀ (A : St), (A.mem = st.mem ∧ ∀ t : Nat, A.tmps[t]? = st.tmps[t]?) → ∀ (j : Nat) (z : Bool) (d : Nat), o.guard = some (j, z) → (ops[j]?).bind (·.dst) = some d → (st.tmps[d]? = some (.lit (.bool (!z))) ∨ ∃ x, st.tmps[d]? = some (.lit (.tuple x))) →
   qK P C an rid (ops.toList.map (·.dst)) rest (i + 1) (bif d9 o.op then rs + 1 else rs) { tmps := lA A.tmps o.dst (.lit undef), mem := A.mem } tr k = some r →
   ∃ H t, qV P C an rid ops o i rs st H t ∧ qK P C an rid (ops.toList.map (·.dst)) rest (i + 1) (bif d9 o.op then rs + 1 else rs) H (t.toList ++ tr) k = some r := by
  intro A U j z d O Y hh h
  exact ⟨_, _, .skip A U j z d O Y hh, by simpa using h⟩
 have K : ∀ {d : Nat} {v : AV}, st.tmps[d]? = some v → (({ st with tmps := st.tmps.set d v } : St).mem = st.mem ∧ ∀ t : Nat, ({ st with tmps := st.tmps.set d v } : St).tmps[t]? = st.tmps[t]?) := fun h => ⟨rfl, Nq h⟩
 split at h
 ·rename_i O
  exact N st ⟨rfl, fun _ => rfl⟩ (fun j z h => by rw [O] at h; cases h) h
 ·rename_i j z O
  split at h
  ·rename_i d Y
   have M := hds Y
   split at h
   ·rename_i b V
    cases b with
    | true =>
     simp only [yg] at h
     cases z with
     | true => simp only [yg, ye] at h; exact N _ (K V) (fun j' W Z => by rw [O] at Z; obtain ⟨rfl, rfl⟩ := Prod.mk.inj (yb Z); exact ⟨d, M, V⟩) h
     | false => simp only [yg, ye] at h; exact J _ (K V) j false d O M (.inl V) h
    | false =>
     simp only [ye] at h
     cases z with
     | true => simp only [yg, ye] at h; exact J _ (K V) j true d O M (.inl V) h
     | false => simp only [yg, ye] at h; exact N _ (K V) (fun j' W Z => by rw [O] at Z; obtain ⟨rfl, rfl⟩ := Prod.mk.inj (yb Z); exact ⟨d, M, V⟩) h
   ·rename_i x hx
    exact J st ⟨rfl, fun _ => rfl⟩ j z d O M (.inr ⟨x, hx⟩) h
   ·simp at h
  ·simp at h
theorem SR.same {G : Gh} {w : World} {st z : St} {a : Act} (h : SR G w st a) (A : z.mem = st.mem ∧ ∀ t : Nat, z.tmps[t]? = st.tmps[t]?) : SR G w z a := by
 refine ⟨by rw [A.1]; exact h.memr, ?_, fun j x hx => h.tmps j x (by rw [← A.2]; exact hx), h.defers⟩
 rw [← h.len]
 rcases Nat.lt_trichotomy z.tmps.length st.tmps.length with H | J | H
 ·have := A.2 z.tmps.length
  rw [ya1 (yz _), yd H] at this; cases this
 ·exact J
 ·have := A.2 st.tmps.length
  rw [ya1 (yz _), yd H] at this; cases this
theorem SR.lit {G : Gh} {w : World} {st : St} {a : Act} (h : SR G w st a) {d : Nat} {v : Value} (z : st.tmps[d]? = some (.lit v)) : a.tmps[d]? = some v := by
 have hl : d < a.tmps.size := by rw [← h.len]; exact (yh.1 z).1
 rcases h.tmps d _ z with h1 | h1
 ·simp [fW] at h1
 ·have := h1.lit_inv
  rw [ym, yn1 hl] at this
  rw [yn1 hl]; simpa using this
theorem qV.sound {C : bZ} (hC : jC P C) {an : mR} {rid : Nat} {ops : Array Oper} {o : Oper} {i rs : Nat} {st U : St} {t : Option Tr} {G : Gh} {w : World} {a : Act} (hi : ops[i]? = some o)
  (h : qV P C an rid ops o i rs st U t) (hS : SR G w st a) (K : Act → World → Prop) (Q : Exit → Act → World → Prop) (hK : ∀ Y M a', eA G Y → Ev G w M → SR Y M U a' → K a' M) : wpOp P ops Q i K a w := by
 unfold wpOp
 simp only [hi]
 cases h with
 | run out st1 H J ho hg =>
  have z := hS.same H
  have Z : Region.wanted o (yielded ops a.tmps) = true := by
   unfold Region.wanted
   cases hgo : o.guard with
   | none => rfl
   | some q =>
    obtain ⟨j, A⟩ := q
    obtain ⟨d, W, N⟩ := hg j A hgo
    have := hS.lit N
    simp [yielded, W, this]
  rw [if_pos Z]
  left
  exact LU z.memr (fun hm => by rw [H.1]; exact LC.1 (J hm)) z.eval (fun hc hf ha hcv => Ig hC z.memr hc hf ha hcv) ho K Q
   (fun Y M cv hv V O hM' => hK Y M _ V O (z.put V O hv hM'))
 | skip st1 H j A d hg W h =>
  have z := hS.same H
  have Z : Region.wanted o (yielded ops a.tmps) = false := by
   unfold Region.wanted
   simp only [hg]
   rcases h with N | ⟨x, N⟩
   ·have := hS.lit N
    cases A <;> simp [yielded, W, this]
   ·have := hS.lit N
    simp [yielded, W, this]
  rw [Z]
  simp only [yg2, if_false]
  exact hK G w _ (eA.refl G) (Ev.refl G w) (z.put (eA.refl G) (Ev.refl G w) (.lit _ rfl) z.memr)
theorem C2 {C : bZ} (hC : jC P C) {an : mR} {rid : Nat} {ops : Array Oper} {k : St → List Tr → Option R} {r : R} {Q : Exit → Act → World → Prop} {G0 : Gh} {w0 : World} {old : List (Option Bool)} :
  ∀ {rest : List Oper} {i rs : Nat} {st : St} {tr : List Tr} {G : Gh} {w : World} {a : Act}, ops.toList.drop i = rest → qK P C an rid (ops.toList.map (·.dst)) rest i rs st tr k = some r → SR G w st a → GN G0 w0 old G w →
   (∀ z O U A J, k z O = some r → SR U A z J → GN G0 w0 old U A → Q .normal J A) → wpOps P ops Q (List.range' i rest.length) a w
 | [], i, rs, st, tr, G, w, a, H, h, hS, hI, K => by
  simp only [qK] at h
  exact K st tr G w a h hS hI
 | o :: rest, i, rs, st, tr, G, w, a, H, h, hS, hI, K => by
  obtain ⟨z, t, M, W⟩ := FV h
  have Y : ops[i]? = some o := by
   have : (ops.toList.drop i)[0]? = some o := by rw [H]; rfl
   rw [yd1, yp2, yk1] at this; exact this
  rw [ye1, List.range'_succ, wpOps_cons]
  refine M.sound hC Y hS _ _ (fun U A J Z V N => ?_)
  exact C2 hC (by rw [← List.drop_drop, H]; rfl) W N (hI.step Z V) K
end
end Go.Ab
end
section
namespace Go.Ab
variable [cD]
theorem Ek {p : Nat → Prop} (h : ∃ n, p n) : ∃ n, p n ∧ ∀ m, p m → n ≤ m := by
 obtain ⟨n, hn⟩ := h
 induction n using Nat.strongRecOn with
 | _ n H =>
  by_cases hm : ∃ m, m < n ∧ p m
  ·obtain ⟨m, z, hm⟩ := hm; exact H m z hm
  ·exact ⟨n, hn, fun m A => Nat.le_of_not_lt fun z => hm ⟨m, z, A⟩⟩
section
variable {P : Program}
theorem Gm {c : Code} {Q : Exit → Act → World → Prop} {a : Act} {w : World} (I : Nat → Act → World → Prop) {n : Nat} (N : I n a w)
  (h : ∀ n a w, I n a w → c.wp P (Exit.then (fun K J => ∃ m, m < n ∧ I m K J) Q) a w) : (Code.loop c).wp P Q a w := by
 refine wp_loop (fun a w => ∃ n, I n a w) (fun a w => Classical.epsilon fun n => I n a w ∧ ∀ m, I m a w → n ≤ m) ⟨n, N⟩ fun a w hI => ?_
 have A := Classical.epsilon_spec (Ek hI)
 refine wp_mono (h _ a w A.1) fun e K J M => ?_
 cases e <;> try exact M
 obtain ⟨m, H, hm⟩ := M
 have z := Classical.epsilon_spec (Ek (p := fun n => I n K J) ⟨m, hm⟩)
 exact ⟨⟨m, hm⟩, Nat.lt_of_le_of_lt (z.2 m hm) H⟩
def Ex.to : Ex → Exit
 | .normal => .normal
 | .exit id => .exit id
 | .ret => .ret
theorem BR : ∀ {live : List Nat} {vs : List AV} {i j : Nat}, (cV live vs i)[j]? = (vs[j]?).map fun v => bif gT (i + j) live then v else .goneV
 | live, [], i, j => by simp [cV]
 | live, v :: r, i, 0 => by simp [cV]
 | live, v :: r, i, j + 1 => by simp only [cV, yx1]; rw [BR (vs := r), show i + 1 + j = i + (j + 1) by omega]
theorem JO {G0 : Gh} {w0 : World} {old : List (Option Bool)} {live : List Nat} {st H : St} {G : Gh} {w : World} {a : Act} (h : HP old live st = some H) (hS : SR G w st a) (hI : GN G0 w0 old G w) :
  ∃ N, SR N w H a ∧ GN G0 w0 old N w := by
 unfold HP at h
 obtain ⟨q, U, rfl⟩ := yf.1 h
 obtain ⟨f, V, K, hm, J, hM, A, Y, _, _, _⟩ := Bg hS.memr U
 refine ⟨V, ⟨hM, ?_, fun j x hx => ?_, hS.defers⟩, ⟨hI.ev, hm.trans hI.mine, fun β B o h => by rw [J]; exact hI.prot β B o h, fun β B o h => hI.new β B o (by rw [J] at h; exact h), fun j M L hL => Y j M L (hI.keep j M L hL)⟩⟩
 ·simp only [K, eL, ye2]
  rw [← hS.len]
  have : ∀ (vs : List AV) i, (cV live vs i).length = vs.length := by
   intro vs; induction vs with
   | nil => intro i; rfl
   | cons v r Z => intro i; simp [cV, Z]
  exact this _ _
 ·simp only [K] at hx
  obtain ⟨y, O, rfl⟩ := pS hx
  rw [BR] at O
  obtain ⟨z, hz, rfl⟩ := yf.1 O
  cases hmn : gT (0 + j) live with
  | false => left; rfl
  | true =>
   simp only [yg]
   rcases hS.tmps j z hz with h | h
   ·left
    unfold fW at h
    split at h
    ·rfl
    ·cases h
   ·right; exact h.ren (l := true) A (fun β B o _ W => by rw [J]; exact W) (fun _ => rfl)
variable {R : Type}
def Cm (P : Program) (C : bZ) (an : mR) : Prop := ∀ (R : Type) (rid : Nat) (ops : Array Oper) (st : St) (k : St → Option R) (r : R) (G0 : Gh) (w0 : World) (old : List (Option Bool)) (G : Gh) (w : World) (a : Act) (Q : Exit → Act → World → Prop),
 pJ P C an rid ops true st k = some r → SR G w st a → GN G0 w0 old G w → (∀ st' G' w' a', k st' = some r → SR G' w' st' a' → GN G0 w0 old G' w' → Q .normal a' w') → (Code.region rid ops true).wp P Q a w
theorem B8 {m : a9} {n b : Nat} {x : d8} : (m ++ List.replicate n none)[b]? = some (some x) ↔ m[b]? = some (some x) := by
 by_cases z : b < m.length
 ·rw [yq z]
 ·rw [yt (by omega), yk2]
  constructor
  ·intro h; split at h <;> simp at h
  ·intro h; rw [ya1 (by omega)] at h; cases h
theorem SR.widen {G : Gh} {w : World} {st : St} {a : Act} (h : SR G w st a) (n : Nat) : SR G w { st with mem := st.mem ++ List.replicate n none } a :=
 ⟨h.memr.congr fun b x => B8, h.len, h.tmps, h.defers⟩
theorem SR.trim {G : Gh} {w : World} {st : St} {a : Act} (h : SR G w st a) : SR G w { st with mem := trim st.mem } a :=
 ⟨h.memr.congr fun b x => I2, h.len, h.tmps, h.defers⟩
theorem GV {C : bZ} (hC : jC P C) {an : mR} (hD : Cm P C an) {rid : Nat} {ops : Array Oper} {z : Bool} {st : St} {k : St → Option R} {r : R} {G0 : Gh} {w0 : World} {old : List (Option Bool)} {G : Gh} {w : World} {a : Act}
  {Q : Exit → Act → World → Prop} (h : pJ P C an rid ops z st k = some r) (hS : SR G w st a) (hI : GN G0 w0 old G w) (U : ∀ A M H K, k A = some r → SR M H A K → GN G0 w0 old M H → Q .normal K H) :
  (Code.region rid ops z).wp P Q a w := by
 cases z with
 | true => exact hD R rid ops st k r G0 w0 old G w a Q h hS hI U
 | false =>
  unfold pJ at h
  apply wp_region
  have := C2 (Q := Q) (G0 := G0) (w0 := w0) (old := old) hC (ops := ops) (rest := ops.toList) (i := 0) (by simp) h (hS.widen _) hI (fun A V M H K J O N => by
   rw [aB] at J
   exact U _ M H K J.2 O.trim N)
  rw [List.range_eq_range']
  simpa using this
theorem I4 {α : Type} {a b : Option α} {r : α} (h : amb a b = some r) : a = some r ∧ b = some r := by
 unfold amb at h
 split at h
 ·rename_i e; exact ⟨h, e ▸ h⟩
 ·cases h
theorem VR.unk_inv {G : Gh} {w : World} {v : Value} (h : VR G w (.imm true (.lit (.bool false))) v) : ∃ b, v = .bool b := by
 cases h with
 | imm _ _ _ _ z => cases z
 | unkB b => exact ⟨b, rfl⟩
theorem IF {C : bZ} (hC : jC P C) {an : mR} (hD : Cm P C an) {n : Nat} {old : List (Option Bool)} {G0 : Gh} {w0 : World} : ∀ (c : Code) {K : Nat} {st : St} {k : Ex → St → Option R} {r : R} {G : Gh} {w : World} {a : Act} {Q : Exit → Act → World → Prop},
  eG P C an n old c K st k = some r → SR G w st a → GN G0 w0 old G w → (∀ e z O N U, k e z = some r → SR O N z U → GN G0 w0 old O N → Q e.to U N) → c.wp P Q a w := by
 intro c
 induction c with
 | skip => intro K st k r G w a Q h hS hI J; exact wp_skip (J .normal st G w a h hS hI)
 | ret => intro K st k r G w a Q h hS hI J; exact wp_ret (J .ret st G w a h hS hI)
 | exit id => intro K st k r G w a Q h hS hI J; exact wp_exit (J (.exit id) st G w a h hS hI)
 | seq x y W V =>
  intro K st k r G w a Q h hS hI J
  simp only [eG] at h
  refine wp_seq (W h hS hI fun e z O N U M H A => ?_)
  cases e with
  | normal => exact V M H A J
  | exit id => exact J (.exit id) z O N U M H A
  | ret => exact J .ret z O N U M H A
 | cond c x y W V =>
  intro K st k r G w a Q h hS hI J
  simp only [eG] at h
  split at h
  ·rename_i t ht
   have Y := (hS.eval c _ ht).lit_inv
   cases t with
   | true => exact wp_cond_true Y (W h hS hI J)
   | false => exact wp_cond_false Y (V h hS hI J)
  ·rename_i ht
   obtain ⟨b, Y⟩ := (hS.eval c _ ht).unk_inv
   obtain ⟨h1, h2⟩ := I4 h
   cases b with
   | true => exact wp_cond_true Y (W h1 hS hI J)
   | false => exact wp_cond_false Y (V h2 hS hI J)
  ·simp at h
 | block id c ih =>
  intro K st k r G w a Q h hS hI J
  simp only [eG] at h
  refine wp_block (ih h hS hI fun e z O N U M H A => ?_)
  cases e with
  | normal => exact J .normal z O N U M H A
  | ret => exact J .ret z O N U M H A
  | exit j =>
   simp only at M
   cases Z : Nat.beq j id with
   | true =>
    rw [Z] at M; simp only [yg] at M
    obtain rfl := cY.1 Z
    simp only [Ex.to, Exit.inBlock, if_true]
    exact J .normal z O N U M H A
   | false =>
    rw [Z] at M; simp only [ye] at M
    have hne : ¬ j = id := fun h => by rw [cY.2 h] at Z; cases Z
    simp only [Ex.to, Exit.inBlock, hne, if_false]
    exact J (.exit j) z O N U M H A
 | loop c ih =>
  intro K st k r G w a Q h hS hI J
  simp only [eG] at h
  rw [bind_some] at h; obtain ⟨live, hl, h⟩ := h
  refine Gm (fun m a w => ∃ st G, vC old live (fun st k => eG P C an n old c K st k) m st k = some r ∧ SR G w st a ∧ GN G0 w0 old G w) ⟨st, G, h, hS, hI⟩ ?_
  rintro m a w ⟨st, G, h, hS, hI⟩
  cases m with
  | zero => simp [vC] at h
  | succ m =>
   simp only [vC] at h
   rw [bind_some] at h; obtain ⟨st1, h1, h⟩ := h
   obtain ⟨G1, hS1, hI1⟩ := JO h1 hS hI
   refine ih h hS1 hI1 fun e z O N U M H A => ?_
   cases e with
   | normal => exact ⟨m, Nat.lt_succ_self _, z, O, M, H, A⟩
   | exit id => exact J (.exit id) z O N U M H A
   | ret => exact J .ret z O N U M H A
 | region rid ops draw =>
  intro K st k r G w a Q h hS hI J
  simp only [eG] at h
  exact GV hC hD h hS hI (fun z O N U M H A => J .normal z O N U M H A)
 | _ => intro K st k r G w a Q h hS hI J; simp [eG] at h
def NB (tmps : Array Value) : ResultVar → Sem Value
 | .tmp t => pure (tmps.getD t undef)
 | .cell c t => do loadVar t (← asAddr (tmps.getD c undef))
theorem Kp (fn : Func) (tmps : Array Value) : results fn tmps = (do let vs ← fn.results.mapM (NB tmps); pure (if h : vs.size = 1 then vs[0] else .tuple vs)) := by
 unfold results
 congr 1
theorem wU {G : Gh} {w : World} {st : St} {a : Act} (hS : SR G w st a) : ∀ {rs : List ResultVar} {vs : List AV}, BX P st.tmps st.mem rs = some vs →
  ∃ us : List Value, jH G w vs us ∧ (rs.mapM (NB a.tmps)).run P w = .ok us w
 | [], vs, h => by
  simp [BX] at h; subst h
  exact ⟨[], ⟨rfl, fun j y J => by simp at J⟩, by simp⟩
 | .tmp t :: rs, vs, h => by
  simp only [BX] at h
  rw [bind_some] at h; obtain ⟨v, W, h⟩ := h
  obtain ⟨O, U, rfl⟩ := yf.1 h
  obtain ⟨us, hL, H⟩ := wU hS U
  refine ⟨a.tmps.getD t undef :: us, ⟨by simp [hL.1], fun j y J => ?_⟩, ?_⟩
  ·cases j with
   | zero => simp at J; subst J; exact hS.get W
   | succ j => simpa using hL.2 j y (by simpa using J)
  ·rw [List.mapM_cons]
   simp only [NB, Sem.run_bind, Sem.run_pure, Result.andThen_ok, H]
 | .cell c t :: rs, vs, h => by
  simp only [BX] at h
  rw [bind_some] at h; obtain ⟨x, hx, h⟩ := h
  rw [bind_some] at h; obtain ⟨o, M, h⟩ := h
  obtain ⟨O, U, rfl⟩ := yf.1 h
  obtain ⟨us, hL, H⟩ := wU hS U
  have A := hS.get hx
  obtain ⟨v, rd, rfl, cv, K, V⟩ := BM hS.memr M A
  refine ⟨cv :: us, ⟨by simp [hL.1], fun j y J => ?_⟩, ?_⟩
  ·cases j with
   | zero => simp at J; subst J; exact V
   | succ j => simpa using hL.2 j y (by simpa using J)
  ·rw [List.mapM_cons]
   have : (NB a.tmps (.cell c t)).run P w = .ok cv w := by
    have N : ∃ p, a.tmps.getD c undef = .pointer (some p) := by
     unfold jJ at M
     split at M
     ·generalize a.tmps.getD c undef = z at A; cases A; exact ⟨_, rfl⟩
     ·generalize a.tmps.getD c undef = z at A; cases A; exact ⟨_, rfl⟩
     ·simp at M
    obtain ⟨p, N⟩ := N
    show Sem.run P (do loadVar t (← asAddr (a.tmps.getD c undef))) w = _
    rw [N] at K ⊢
    simpa [Instr.loadAt, Instr.sureAddr, asAddr] using K
   simp only [Sem.run_bind, this, Result.andThen_ok, H, Sem.run_pure]
def nI (P : Program) : Bool := P.funcs.all fun fn => !(fn.name == "runtime.NumGoroutine")
theorem zM {f : FuncId} {fn : Func} {z : Array Value} {w : World} (hf : P.funcs[f]? = some fn) (hn : nI P = true) (hb : fn.body.isSome = true) : (callFunc f z).run P w = .ok (.enter f z) w := by
 have h1 : (fn.name == "runtime.NumGoroutine") = false := by
  unfold nI at hn
  rw [Array.all_eq_true_iff_forall_mem] at hn
  have := hn fn (Array.mem_of_getElem? hf)
  simpa using this
 have h2 : fn.body.isNone = false := by cases h : fn.body <;> simp_all
 unfold callFunc
 simp only [Sem.run_bind, run_program, Result.andThen_ok, hf, h1, h2, yg2, if_false, Sem.run_pure]
end
end Go.Ab
end
section
namespace Go.Ab
variable [cD]
def Ag (S : List Nat) (mem mem' : a9) : Prop := ∀ b ∈ S, mem'[b]? = mem[b]?
theorem Ag.sub {S S' : List Nat} {mem mem' : a9} (h : Ag S mem mem') (A : ∀ b ∈ S', b ∈ S) : Ag S' mem mem' := fun b z => h b (A b z)
theorem box?_ag {mem mem' : a9} {b g : Nat} (h : mem'[b]? = mem[b]?) : box? mem' b g = box? mem b g := by unfold box?; rw [h]
theorem C9 {mem mem' : a9} {b : Nat} (h : mem'[b]? = mem[b]?) : mX mem' b = mX mem b := by unfold mX; rw [h]
theorem vX {α β : Type} {f A : α → Option (Bool × β × List Nat)} : ∀ {xs : List α} {r : Bool × List β × List Nat}, fO f xs = some r → (∀ x q, f x = some q → (∀ b ∈ q.2.2, b ∈ r.2.2) → A x = some q) → fO A xs = some r
 | [], r, h, _ => h
 | v :: xs, r, h, hf => by
  simp only [fO] at h ⊢
  rw [bind_some] at h; obtain ⟨a, K, h⟩ := h
  rw [bind_some] at h; obtain ⟨q, H, h⟩ := h
  obtain rfl := yb h
  rw [hf v a K (fun b z => yr1 _ z), vX H (fun x J h1 h2 => hf x J h1 (fun b z => ys1 _ (h2 b z)))]
  rfl
theorem AT {α β γ : Type} {f H : γ → α → Option (Bool × β × List Nat)} : ∀ {z : List γ} {xs : List α} {r : Bool × List β × List Nat}, cS f z xs = some r → (∀ l x q, f l x = some q → (∀ b ∈ q.2.2, b ∈ r.2.2) → H l x = some q) → cS H z xs = some r
 | [], [], r, h, _ => h
 | [], v :: xs, r, h, hf => by simp [cS] at h
 | l :: z, [], r, h, hf => by simp [cS] at h
 | l :: z, v :: xs, r, h, hf => by
  simp only [cS] at h ⊢
  rw [bind_some] at h; obtain ⟨a, K, h⟩ := h
  rw [bind_some] at h; obtain ⟨q, J, h⟩ := h
  obtain rfl := yb h
  rw [hf l v a K (fun b A => yr1 _ A), AT J (fun l x M h1 h2 => hf l x M h1 (fun b A => ys1 _ (h2 b A)))]
  rfl
section
variable {P : Program}
theorem zT {k : IntKind} {b : Nat} {w : aO} {r : Bool × PV × List Nat} (h : bK.treeInts k b w = some r) : b ∈ r.2.2 := by
 unfold bK.treeInts at h
 split at h
 ·rw [aB] at h; obtain ⟨_, h⟩ := h; obtain rfl := yb h; simp
 ·rw [aB] at h; obtain ⟨_, h⟩ := h; obtain ⟨xs, _, rfl⟩ := yf.1 h; simp
 ·simp at h
theorem CE {f : LK → AV → Option (Bool × PV × List Nat)} {t : TypeId} {e b : Nat} {w : aO} {r : Bool × PV × List Nat} (h : bK.treeSl P f t e b w = some r) : b ∈ r.2.2 := by
 unfold bK.treeSl at h
 split at h
 ·rw [aB] at h; obtain ⟨_, h⟩ := h; obtain rfl := yb h; simp
 ·rw [aB] at h; obtain ⟨_, h⟩ := h
  rw [bind_some] at h; obtain ⟨_, _, h⟩ := h
  obtain ⟨xs, _, rfl⟩ := yf.1 h; simp
 ·simp at h
theorem FN {f H : LK → AV → Option (Bool × PV × List Nat)} {t : TypeId} {e b : Nat} {w : aO} {r : Bool × PV × List Nat} (h : bK.treeSl P f t e b w = some r)
  (hf : ∀ l v q, f l v = some q → (∀ b ∈ q.2.2, b ∈ r.2.2) → H l v = some q) : bK.treeSl P H t e b w = some r := by
 unfold bK.treeSl at h ⊢
 split at h
 ·exact h
 ·rw [aB] at h ⊢; obtain ⟨O, h⟩ := h
  refine ⟨O, ?_⟩
  rw [bind_some] at h ⊢; obtain ⟨N, A, h⟩ := h
  refine ⟨N, A, ?_⟩
  obtain ⟨q, J, rfl⟩ := yf.1 h
  refine yf.2 ⟨q, vX J (fun vs q1 h1 h2 => ?_), rfl⟩
  rw [bind_some] at h1 ⊢; obtain ⟨M, z, h1⟩ := h1
  obtain ⟨p, hp, rfl⟩ := yf.1 h1
  refine ⟨M, AT z (fun l x V U W => hf l x V U (fun b K => yk _ (h2 b (W b K)))), h1⟩
 ·simp at h
theorem yU {mem mem' : a9} : ∀ {n : Nat} {l : LK} {v : AV} {r : Bool × PV × List Nat}, bK P mem n l v = some r → Ag r.2.2 mem mem' → bK P mem' n l v = some r
 | 0, l, v, r, h, _ => by simp [bK] at h
 | n + 1, l, v, r, h, hA => by
  unfold bK at h ⊢
  split at h <;> try exact h
  ·rename_i k b g
   rw [bind_some] at h ⊢; obtain ⟨x, hx, h⟩ := h
   exact ⟨x, by rw [box?_ag (hA b (zT h))]; exact hx, h⟩
  ·rename_i k b g o m
   rw [bind_some] at h ⊢; obtain ⟨x, hx, h⟩ := h
   have J := h
   rw [bind_some] at h; obtain ⟨w, H, h⟩ := h
   exact ⟨x, by rw [box?_ag (hA b (zT h))]; exact hx, J⟩
  ·rename_i t e b g
   rw [bind_some] at h ⊢; obtain ⟨x, hx, h⟩ := h
   exact ⟨x, by rw [box?_ag (hA b (CE h))]; exact hx, FN h (fun l v q z A => yU z (hA.sub A))⟩
  ·rename_i t e b g o m
   rw [bind_some] at h ⊢; obtain ⟨x, hx, h⟩ := h
   rw [bind_some] at h; obtain ⟨w, H, h⟩ := h
   refine ⟨x, by rw [box?_ag (hA b (CE h))]; exact hx, ?_⟩
   rw [bind_some]
   exact ⟨w, H, FN h (fun l v q z A => yU z (hA.sub A))⟩
variable {mem mem' : a9}
theorem Ci {t : TypeId} {v : AV} {r : Bool × PV × List Nat} (h : qJ P mem t v = some r) (hA : Ag r.2.2 mem mem') : qJ P mem' t v = some r := by
 unfold qJ at h ⊢
 rw [bind_some] at h ⊢; obtain ⟨J, z, h⟩ := h
 refine ⟨J, z, ?_⟩
 rw [bind_some] at h ⊢; obtain ⟨q, A, h⟩ := h
 refine ⟨q, AT A (fun l x q' h1 h2 => yU h1 (hA.sub fun b H => ?_)), h⟩
 obtain ⟨p, _, rfl⟩ := yf.1 h
 exact h2 b H
theorem Ll {vars : Bool} {t : TypeId} {vs : List AV} {r : aO × List Nat} (h : mA P vars mem t vs = some r) (hA : Ag r.2 mem mem') : mA P vars mem' t vs = some r := by
 unfold mA at h ⊢
 split at h
 ·exact h
 ·rw [bind_some] at h ⊢; obtain ⟨e, A, h⟩ := h
  refine ⟨e, A, ?_⟩
  cases vars with
  | true => exact h
  | false =>
   simp only [ye] at h ⊢
   obtain ⟨q, z, rfl⟩ := yf.1 h
   exact yf.2 ⟨q, vX z (fun v q' h1 h2 => Ci h1 (hA.sub h2)), rfl⟩
theorem qQ : ∀ {ids : List Nat}, Ag ids mem mem' → bW mem' ids = bW mem ids
 | [], _ => rfl
 | b :: r, h => by
  have A := qQ (ids := r) (h.sub fun b z => yk _ z)
  simp only [bW, h b (yn ..), A]
theorem Cl {z : TypeId} {y : AV} {v : aO × List Nat} (h : view P z mem y = some v) (hA : Ag v.2 mem mem') : view P z mem' y = some v := by
 unfold view at h ⊢
 split at h <;> try exact h
 ·rename_i b g o n
  have h' := h
  rw [bind_some] at h ⊢; obtain ⟨x, hx, h⟩ := h
  obtain ⟨w, hw, rfl⟩ := yf.1 h
  exact ⟨x, by rw [box?_ag (hA b (by simp))]; exact hx, h⟩
 ·rename_i b g
  rw [bind_some] at h ⊢; obtain ⟨x, hx, h⟩ := h
  obtain rfl := yb h
  exact ⟨x, by rw [box?_ag (hA b (by simp))]; exact hx, rfl⟩
theorem MB {t : TypeId} {x : AV} {n : Nat × List Nat} (h : lenOf P t mem x = some n) (hA : Ag n.2 mem mem') : lenOf P t mem' x = some n := by
 unfold lenOf at h ⊢
 split at h
 ·exact h
 ·split at h <;> try exact h
  rename_i b g
  obtain ⟨x, hx, rfl⟩ := yf.1 h
  exact yf.2 ⟨x, by rw [box?_ag (hA b (by simp))]; exact hx, rfl⟩
 ·simp at h
variable {out : eM}
theorem NJ {t : TypeId} {a : AV} (h : jJ P t mem a = some out) (hA : Ag out.rd mem mem') : jJ P t mem' a = some out := by
 unfold jJ at h ⊢
 split at h
 ·exact h
 ·rename_i b g i c
  rw [bind_some] at h ⊢; obtain ⟨x, hx, h⟩ := h
  refine ⟨x, ?_, h⟩
  have : b ∈ out.rd := by
   split at h
   ·rw [bind_some] at h; obtain ⟨ag, _, h⟩ := h
    cases ag with
    | true =>
     simp only [yg] at h
     rw [bind_some] at h; obtain ⟨n, _, h⟩ := h
     rw [aB] at h; obtain ⟨_, h⟩ := h
     obtain rfl := yb h; simp
    | false =>
     simp only [ye] at h
     obtain ⟨v, _, rfl⟩ := yf.1 h; simp
   ·rw [aB] at h; obtain ⟨_, h⟩ := h
    rw [aB] at h; obtain ⟨_, h⟩ := h
    obtain ⟨v, _, rfl⟩ := yf.1 h; simp
   ·rw [bind_some] at h; obtain ⟨y, _, h⟩ := h
    obtain ⟨v, _, rfl⟩ := yf.1 h; simp
  rw [box?_ag (hA b this)]; exact hx
 ·simp at h
theorem LX {t : TypeId} {a x : AV} (h : jO P t mem a x = some out) (hA : Ag out.rd mem mem') : jO P t mem' a x = some out := by
 unfold jO at h ⊢
 split at h
 ·rename_i b g i c
  rw [bind_some] at h ⊢; obtain ⟨K, A, h⟩ := h
  refine ⟨K, ?_, ?_⟩
  ·have : b ∈ out.rd := by
    rw [bind_some] at h; obtain ⟨n, _, h⟩ := h
    rw [aB] at h; obtain ⟨_, h⟩ := h
    split at h
    ·rw [aB] at h; obtain ⟨_, h⟩ := h
     obtain rfl := yb h; simp
    ·split at h
     ·rw [aB] at h; obtain ⟨_, h⟩ := h
      obtain rfl := yb h; simp
     ·simp at h
    ·rw [bind_some] at h; obtain ⟨p, _, h⟩ := h
     rw [bind_some] at h; obtain ⟨q, _, h⟩ := h
     rw [aB] at h; obtain ⟨_, h⟩ := h
     obtain rfl := yb h; simp
   rw [box?_ag (hA b this)]; exact A
  ·rw [bind_some] at h ⊢; obtain ⟨n, hn, h⟩ := h
   refine ⟨n, hn, ?_⟩
   rw [aB] at h ⊢; obtain ⟨O, h⟩ := h
   refine ⟨O, ?_⟩
   split at h
   ·exact h
   ·exact h
   ·rw [bind_some] at h ⊢; obtain ⟨p, J, h⟩ := h
    refine ⟨p, J, ?_⟩
    rw [bind_some] at h ⊢; obtain ⟨q, H, h⟩ := h
    have N := h
    rw [aB] at h; obtain ⟨_, h⟩ := h
    obtain rfl := yb h
    have z : Ag q.2.2 mem mem' := hA.sub fun b M => yk _ M
    exact ⟨q, Ci H z, by rw [qQ z]; exact N⟩
 ·simp at h
theorem LQ {t : TypeId} {x : AV} {i : Int} (h : i7 P t mem x i = some out) (hA : Ag out.rd mem mem') : i7 P t mem' x i = some out := by
 unfold i7 at h ⊢
 split at h
 ·rw [bind_some] at h ⊢; obtain ⟨s, H, h⟩ := h
  refine ⟨s, H, ?_⟩
  split at h <;> try exact h
  ·rename_i b g o n
   rw [bind_some] at h ⊢; obtain ⟨A, z, h⟩ := h
   refine ⟨A, ?_, h⟩
   rw [aB] at h; obtain ⟨_, h⟩ := h
   obtain rfl := yb h
   rw [box?_ag (hA b (by simp))]; exact z
  ·rename_i b g
   rw [bind_some] at h ⊢; obtain ⟨A, z, h⟩ := h
   refine ⟨A, ?_, h⟩
   rw [aB] at h; obtain ⟨_, h⟩ := h
   obtain rfl := yb h
   rw [box?_ag (hA b (by simp))]; exact z
 ·exact h
 ·simp at h
theorem Lr {t : TypeId} {x : AV} {J K M : Option Int} (h : gR P t mem x J K M = some out) (hA : Ag out.rd mem mem') : gR P t mem' x J K M = some out := by
 unfold gR at h ⊢
 split at h
 ·exact h
 ·rw [bind_some] at h ⊢; obtain ⟨s, H, h⟩ := h
  refine ⟨s, H, ?_⟩
  split at h <;> try exact h
  ·rename_i b g o n
   rw [bind_some] at h ⊢; obtain ⟨A, z, h⟩ := h
   refine ⟨A, ?_, h⟩
   rw [aB] at h; obtain ⟨_, h⟩ := h
   obtain ⟨q, _, rfl⟩ := yf.1 h
   rw [box?_ag (hA b (by simp))]; exact z
  ·rename_i b g
   rw [bind_some] at h ⊢; obtain ⟨A, z, h⟩ := h
   refine ⟨A, ?_, h⟩
   rw [aB] at h; obtain ⟨_, h⟩ := h
   obtain ⟨q, _, rfl⟩ := yf.1 h
   rw [box?_ag (hA b (by simp))]; exact z
 ·rw [bind_some] at h ⊢; obtain ⟨s, H, h⟩ := h
  refine ⟨s, H, ?_⟩
  split at h
  ·rename_i b g c
   rw [aB] at h ⊢; obtain ⟨N, h⟩ := h
   refine ⟨N, ?_⟩
   rw [bind_some] at h ⊢; obtain ⟨A, z, h⟩ := h
   refine ⟨A, ?_, h⟩
   split at h
   ·rw [aB] at h; obtain ⟨_, h⟩ := h
    obtain ⟨q, _, rfl⟩ := yf.1 h
    rw [box?_ag (hA b (by simp))]; exact z
   ·simp at h
  ·simp at h
 ·simp at h
theorem JD {boxed vars : Bool} {t U : TypeId} {rs : Nat} {x y : AV} (h : jV P boxed vars t U mem rs x y = some out) (hA : Ag out.rd mem mem') : jV P boxed vars t U mem' rs x y = some out := by
 unfold jV at h ⊢
 rw [bind_some] at h ⊢; obtain ⟨W, K, h⟩ := h; refine ⟨W, K, ?_⟩
 rw [bind_some] at h ⊢; obtain ⟨s, hs, h⟩ := h; refine ⟨s, hs, ?_⟩
 rw [bind_some] at h ⊢; obtain ⟨bytes, N, h⟩ := h; refine ⟨bytes, N, ?_⟩
 rw [bind_some] at h ⊢; obtain ⟨z, Y, h⟩ := h; refine ⟨z, Y, ?_⟩
 rw [bind_some] at h ⊢; obtain ⟨O, A, h⟩ := h
 have Z := h
 rw [aB] at h; obtain ⟨V, h⟩ := h
 split at h
 ·refine ⟨O, ?_, Z⟩
  rw [aB] at h; obtain ⟨_, h⟩ := h
  refine Cl A (hA.sub fun b J => ?_)
  cases boxed with
  | true => simp only [yg] at h; obtain ⟨row, _, rfl⟩ := yf.1 h; exact J
  | false => simp only [ye] at h; obtain ⟨v, _, rfl⟩ := yf.1 h; exact J
 ·rename_i b g
  have h1 := h
  rw [bind_some] at h; obtain ⟨M, H, h⟩ := h
  have h2 := h
  rw [bind_some] at h; obtain ⟨zv, _, h⟩ := h
  rw [aB] at h; obtain ⟨_, h⟩ := h
  obtain rfl := yb h
  refine ⟨O, Cl A (hA.sub fun b J => yk _ J), ?_⟩
  rw [aB]
  refine ⟨V, ?_⟩
  rw [bind_some]
  exact ⟨M, by rw [box?_ag (hA b (yn ..))]; exact H, h2⟩
 ·rename_i b g n
  have h1 := h
  rw [bind_some] at h; obtain ⟨M, H, h⟩ := h
  have h2 := h
  rw [bind_some] at h; obtain ⟨xv, _, h⟩ := h
  rw [bind_some] at h; obtain ⟨zv, _, h⟩ := h
  rw [aB] at h; obtain ⟨_, h⟩ := h
  obtain rfl := yb h
  refine ⟨O, Cl A (hA.sub fun b J => yk _ J), ?_⟩
  rw [aB]
  refine ⟨V, ?_⟩
  rw [bind_some]
  exact ⟨M, by rw [box?_ag (hA b (yn ..))]; exact H, h2⟩
 ·simp at h
theorem MY {t H : TypeId} {rs : Nat} {n : Int} (h : Bc P t H mem rs n = some out) : Bc P t H mem' rs n = some out := by
 unfold Bc at h ⊢
 split at h
 ·rw [bind_some] at h ⊢; obtain ⟨O, A, h⟩ := h
  refine ⟨O, A, ?_⟩
  rw [bind_some] at h ⊢; obtain ⟨z, M, h⟩ := h
  refine ⟨z, M, ?_⟩
  split at h
  ·rw [bind_some] at h ⊢; obtain ⟨q, N, h⟩ := h
   have h1 := h
   rw [bind_some] at h; obtain ⟨e, _, h⟩ := h
   rw [bind_some] at h; obtain ⟨bytes, _, h⟩ := h
   rw [aB] at h
   have J := h.1
   simp only [yc] at J
   exact ⟨q, Ci N (by rw [mN J.2.2]; exact fun b K => by cases K), h1⟩
  ·cases h
 ·cases h
theorem HK {boxed vars : Bool} {b : Builtin} {ts : List TypeId} {rs : Nat} {args : List AV} (h : eH P boxed vars b ts mem rs args = some out) (hA : Ag out.rd mem mem') : eH P boxed vars b ts mem' rs args = some out := by
 unfold eH at h ⊢
 split at h
 ·obtain ⟨n, hn, rfl⟩ := yf.1 h
  exact yf.2 ⟨n, MB hn hA, rfl⟩
 ·exact MY h
 ·exact JD h hA
 ·exact h
 ·exact h
 ·exact h
 ·simp at h
theorem HG {boxed : Bool} {z dst : TypeId} {rs : Nat} {x : AV} (h : kH P boxed z dst mem rs x = some out) (hA : Ag out.rd mem mem') : kH P boxed z dst mem' rs x = some out := by
 unfold kH at h ⊢
 split at h
 ·exact h
 ·exact h
 ·split at h
  ·rw [bind_some] at h ⊢; obtain ⟨v, A, h⟩ := h
   refine ⟨v, Cl A ?_, h⟩
   rw [aB] at h; obtain ⟨_, h⟩ := h
   split at h
   ·obtain rfl := yb h; exact hA
   ·simp at h
  ·exact h
 ·split at h
  ·rw [aB] at h ⊢; obtain ⟨H, h⟩ := h; refine ⟨H, ?_⟩
   rw [bind_some] at h ⊢; obtain ⟨x, hx, h⟩ := h
   refine ⟨x, ?_, h⟩
   rw [aB] at h; obtain ⟨_, h⟩ := h
   obtain rfl := yb h
   rw [box?_ag (hA _ (by simp))]; exact hx
  ·exact h
 ·simp at h
theorem rP {l : LK} {v : AV} {r : AV × List Nat} (h : f9 P mem l v = some r) (hA : Ag r.2 mem mem') : f9 P mem' l v = some r := by
 unfold f9 at h ⊢
 split at h
 ·obtain ⟨q, z, rfl⟩ := yf.1 h
  exact yf.2 ⟨q, yU z hA, rfl⟩
 ·obtain ⟨q, z, rfl⟩ := yf.1 h
  exact yf.2 ⟨q, yU z hA, rfl⟩
 ·exact h
theorem zX : ∀ {A : List LK} {vs : List AV} {r : List AV × List Nat}, bQ P mem A vs = some r → Ag r.2 mem mem' → bQ P mem' A vs = some r
 | [], [], r, h, _ => h
 | [], v :: vs, r, h, _ => by simp [bQ] at h
 | l :: A, [], r, h, _ => by simp [bQ] at h
 | l :: A, v :: vs, r, h, hA => by
  simp only [bQ] at h ⊢
  rw [bind_some] at h; obtain ⟨a, H, h⟩ := h
  rw [bind_some] at h; obtain ⟨b, z, h⟩ := h
  obtain rfl := yb h
  rw [rP H (hA.sub fun b z => yr1 _ z), zX z (hA.sub fun b z => ys1 _ z)]
  rfl
theorem Od {t : TypeId} {v : AV} {r : AV × List Nat} (h : lend P mem t v = some r) (hA : Ag r.2 mem mem') : lend P mem' t v = some r := by
 unfold lend at h ⊢
 split at h
 ·rw [bind_some] at h ⊢; obtain ⟨l, hl, h⟩ := h
  exact ⟨l, hl, rP h hA⟩
 ·rw [bind_some] at h ⊢; obtain ⟨l, hl, h⟩ := h
  exact ⟨l, hl, rP h hA⟩
 ·rename_i cs
  cases z : Ga cs with
  | true =>
   rw [z] at h; simp only [yg] at h ⊢
   rw [bind_some] at h ⊢; obtain ⟨J, A, h⟩ := h
   refine ⟨J, A, ?_⟩
   obtain ⟨q, H, rfl⟩ := yf.1 h
   exact yf.2 ⟨q, zX H hA, rfl⟩
  | false => rw [z] at h; exact h
 ·exact h
theorem Du : ∀ {ts : List TypeId} {vs : List AV} {r : List AV × List Nat}, fS P mem ts vs = some r → Ag r.2 mem mem' → fS P mem' ts vs = some r
 | [], [], r, h, _ => h
 | [], v :: vs, r, h, _ => by simp [fS] at h
 | t :: ts, [], r, h, _ => by simp [fS] at h
 | t :: ts, v :: vs, r, h, hA => by
  simp only [fS] at h ⊢
  rw [bind_some] at h; obtain ⟨a, A, h⟩ := h
  rw [bind_some] at h; obtain ⟨b, z, h⟩ := h
  obtain rfl := yb h
  rw [Od A (hA.sub fun b z => yr1 _ z), Du z (hA.sub fun b z => ys1 _ z)]
  rfl
theorem At : ∀ {n : Nat} {h seen : List Nat}, ∀ b ∈ seen, b ∈ fN mem n h seen
 | 0, h, seen, b, z => by simpa [fN] using z
 | n + 1, [], seen, b, z => by simpa [fN] using z
 | n + 1, t :: h, seen, b, z => by
  simp only [fN]
  cases gT t seen with
  | true => simp only [yg]; exact At b z
  | false => simp only [ye]; exact At b (yr1 _ z)
theorem Cz : ∀ {n : Nat} {h seen : List Nat}, Ag (fN mem n h seen) mem mem' → fN mem' n h seen = fN mem n h seen
 | 0, h, seen, _ => by simp [fN]
 | n + 1, [], seen, _ => by simp [fN]
 | n + 1, t :: h, seen, hA => by
  simp only [fN] at hA ⊢
  cases hm : gT t seen with
  | true => rw [hm] at hA; simp only [yg] at hA ⊢; exact Cz hA
  | false =>
   rw [hm] at hA; simp only [ye] at hA ⊢
   have ht : mem'[t]? = mem[t]? := hA t (At t (by simp))
   have : Av mem' t = Av mem t := by unfold Av; rw [ht]
   rw [this]
   exact Cz hA
theorem CX : ∀ {ids : List Nat} {b n : Nat}, b ∉ ids → rD b ids n = none
 | [], b, n, _ => rfl
 | m :: r, b, n, h => by
  simp only [rD]
  cases z : Nat.beq m b with
  | true => exact absurd (by rw [cY.1 z]; exact yn ..) h
  | false => simp only [ye]; exact CX fun A => h (yk _ A)
theorem MZ {ids : List Nat} (hA : Ag ids mem mem') : fZ mem' ids = fZ mem ids := by
 funext b g
 by_cases h : b ∈ ids
 ·unfold fZ; rw [C9 (hA b h)]
 ·have z : rD b ids 0 = none := CX h
  have : ∀ m : a9, fZ m ids b g = none := by
   intro m
   unfold fZ
   split
   ·rw [z]; cases Nat.beq _ g <;> rfl
   ·rfl
  rw [this, this]
theorem C5 (f : k9) : ∀ {ids : List Nat}, Ag ids mem mem' → eQ f mem' ids = eQ f mem ids
 | [], _ => rfl
 | b :: r, h => by
  simp only [eQ, h b (yn ..), C5 f (ids := r) (h.sub fun b z => yk _ z)]
theorem pG (f : k9) : ∀ {ids : List Nat} {q : a9}, Ag ids mem mem' → bF f mem' ids q = bF f mem ids q
 | [], q, _ => by simp [bF]
 | a :: ids, [], _ => by simp [bF]
 | a :: ids, none :: q, h => by simp only [bF]; exact pG f (h.sub fun b z => yk _ z)
 | a :: ids, some x :: q, h => by
  simp only [bF, C9 (h a (yn ..)), pG f (ids := ids) (q := q) (h.sub fun b z => yk _ z)]
theorem Jf {sub : a9} {ids : List Nat} (hl : mem'.length = mem.length) (hA : Ag ids mem mem') : cH mem' sub ids = cH mem sub ids := by
 funext b g
 unfold cH
 cases Nat.beq g 0 with
 | false => rfl
 | true =>
  simp only [yg]
  cases h : ids[b]? with
  | none => rw [hl]
  | some a => simp only [C9 (hA a (yj h))]
theorem Nx {keep : Bool} {ts : List TypeId} {vs : List AV} {r : List AV × List Nat} (h : Iz P keep mem ts vs = some r) (hA : Ag r.2 mem mem') : Iz P keep mem' ts vs = some r := by
 cases keep with
 | true => exact h
 | false => exact Du h hA
theorem M4 {C : bZ} {raw keep : Bool} {g : FuncId} {ts : List TypeId} {z args A : List AV} (hl : mem'.length = mem.length) (h : z7 P C raw keep g ts z args A mem = some out) (hA : Ag out.rd mem mem') : z7 P C raw keep g ts z args A mem' = some out := by
 unfold z7 at h ⊢
 rw [bind_some] at h ⊢; obtain ⟨H, N, h⟩ := h
 simp only at h
 have M : out.rd = H.2 ++ fN mem (cZ mem (AV.refsAll (z ++ H.1 ++ A)).length) (AV.refsAll (z ++ H.1 ++ A)) [] := by
  rw [aB] at h; obtain ⟨_, h⟩ := h
  rw [bind_some] at h; obtain ⟨q, _, h⟩ := h
  rw [aB] at h; obtain ⟨_, h⟩ := h
  revert h
  cases (fG (fN mem (cZ mem (AV.refsAll (z ++ H.1 ++ A)).length) (AV.refsAll (z ++ H.1 ++ A)) []).length
    (bif raw then q.1 else kT (fN mem (cZ mem (AV.refsAll (z ++ H.1 ++ A)).length) (AV.refsAll (z ++ H.1 ++ A)) []).length q.2 q.1).refs &&
     fG (fN mem (cZ mem (AV.refsAll (z ++ H.1 ++ A)).length) (AV.refsAll (z ++ H.1 ++ A)) []).length
      (lJ (List.take (fN mem (cZ mem (AV.refsAll (z ++ H.1 ++ A)).length) (AV.refsAll (z ++ H.1 ++ A)) []).length q.2))) with
  | true => intro h; simp only [yg] at h; obtain rfl := yb h; rfl
  | false => intro h; simp only [ye] at h; obtain rfl := yb h; rfl
 rw [M] at hA
 refine ⟨H, Nx N (hA.sub fun b O => yr1 _ O), ?_⟩
 have K : ∀ n, cZ mem' n = cZ mem n := fun n => by unfold cZ; rw [hl]
 have J := hA.sub (S' := fN mem (cZ mem (AV.refsAll (z ++ H.1 ++ A)).length) (AV.refsAll (z ++ H.1 ++ A)) []) fun b O => ys1 _ O
 simp only [K, Cz J, MZ J, C5 _ J, Jf hl J, pG _ J]
 exact h
theorem Pn {C : bZ} {boxed raw vars : Bool} {o : Oper} {ρ : Operand → Option AV} {rs : Nat} (hl : mG o = true → mem'.length = mem.length) (h : I0 P C boxed raw vars o ρ mem rs = some out) (hA : Ag out.rd mem mem') :
  I0 P C boxed raw vars o ρ mem' rs = some out := by
 unfold I0 Eo z8 HI zF fA zO Iq Ie NN CB AH zG kM yY z9 oL Ep at h ⊢
 split at h <;> rename_i M <;> try exact h
 ·rw [bind_some] at h ⊢; obtain ⟨N, A, h⟩ := h; refine ⟨N, A, ?_⟩
  rw [bind_some] at h ⊢; obtain ⟨z, W, h⟩ := h; refine ⟨z, W, ?_⟩
  rw [bind_some] at h ⊢; obtain ⟨s, hs, h⟩ := h; refine ⟨s, hs, ?_⟩
  rw [bind_some] at h ⊢; obtain ⟨ps, hps, h⟩ := h; refine ⟨ps, hps, ?_⟩
  rw [aB] at h ⊢; obtain ⟨J, h⟩ := h; refine ⟨J, ?_⟩
  rw [bind_some] at h ⊢; obtain ⟨wv, O, h⟩ := h
  have h' := h
  rw [aB] at h; obtain ⟨_, h⟩ := h
  obtain ⟨ov, _, rfl⟩ := yf.1 h
  exact ⟨wv, Ll O hA, by rw [qQ hA]; exact h'⟩
 ·rw [bind_some] at h ⊢; obtain ⟨a, K, h⟩ := h
  exact ⟨a, K, NJ h hA⟩
 ·rw [bind_some] at h ⊢; obtain ⟨a, K, h⟩ := h; refine ⟨a, K, ?_⟩
  rw [bind_some] at h ⊢; obtain ⟨x, hx, h⟩ := h
  exact ⟨x, hx, LX h hA⟩
 ·rw [bind_some] at h ⊢; obtain ⟨a, K, h⟩ := h
  exact ⟨a, K, HG h hA⟩
 ·rw [bind_some] at h ⊢; obtain ⟨N, A, h⟩ := h; refine ⟨N, A, ?_⟩
  rw [bind_some] at h ⊢; obtain ⟨z, W, h⟩ := h; refine ⟨z, W, ?_⟩
  rw [bind_some] at h ⊢; obtain ⟨l, hl', h⟩ := h; refine ⟨l, hl', ?_⟩
  rw [bind_some] at h ⊢; obtain ⟨c, U, h⟩ := h; refine ⟨c, U, ?_⟩
  split at h
  ·rw [aB] at h ⊢; obtain ⟨J, h⟩ := h; refine ⟨J, ?_⟩
   split at h
   ·exact h
   ·rw [bind_some] at h ⊢; obtain ⟨q, hq, h⟩ := h
    refine ⟨q, ?_, h⟩
    rw [bind_some] at h; obtain ⟨e, _, h⟩ := h
    rw [bind_some] at h; obtain ⟨bytes, _, h⟩ := h
    rw [aB] at h; obtain ⟨J, h⟩ := h
    simp only [yc] at J
    have : q.2.2 = [] := mN J.2
    exact Ci hq (by rw [this]; intro b hb; cases hb)
  ·exact h
 ·rw [bind_some] at h ⊢; obtain ⟨x, hx, h⟩ := h; refine ⟨x, hx, ?_⟩
  rw [bind_some] at h ⊢; obtain ⟨lo, Z, h⟩ := h; refine ⟨lo, Z, ?_⟩
  rw [bind_some] at h ⊢; obtain ⟨hi, hhi, h⟩ := h; refine ⟨hi, hhi, ?_⟩
  rw [bind_some] at h ⊢; obtain ⟨mx, Y, h⟩ := h
  exact ⟨mx, Y, Lr h hA⟩
 ·rw [bind_some] at h ⊢; obtain ⟨x, hx, h⟩ := h; refine ⟨x, hx, ?_⟩
  rw [bind_some] at h ⊢; obtain ⟨ix, V, h⟩ := h; refine ⟨ix, V, ?_⟩
  split at h
  ·exact LQ h hA
  ·exact h
 ·rename_i c
  rw [bind_some] at h ⊢; obtain ⟨args, H, h⟩ := h; refine ⟨args, H, ?_⟩
  split at h
  ·exact HK h hA
  ·rename_i f U
   rw [bind_some] at h ⊢; obtain ⟨fv, hf, h⟩ := h; refine ⟨fv, hf, ?_⟩
   split at h
   ·exact M4 (hl (by unfold mG; rw [M]; simp only; rw [U])) h hA
   ·exact h
  ·exact h
theorem pR {ρ ρ' : Operand → Option AV} : ∀ {xs : List Operand}, (∀ x ∈ xs, ρ' x = ρ x) → Ay ρ' xs = Ay ρ xs
 | [], _ => rfl
 | x :: r, h => by simp only [Ay, h x (yn ..), pR (xs := r) (fun y z => h y (yk _ z))]
theorem pW {ρ ρ' : Operand → Option AV} : ∀ {xs : List (Nat × Operand)}, (∀ x ∈ xs.map (·.2), ρ' x = ρ x) → kR ρ' xs = kR ρ xs
 | [], _ => rfl
 | (i, x) :: r, h => by simp only [kR, h x (by simp), pW (xs := r) (fun y z => h y (yk _ z))]
theorem v7 {ρ ρ' : Operand → Option AV} {x : Option Operand} (h : ∀ y, x = some y → ρ' y = ρ y) : Cr ρ' x = Cr ρ x := by
 cases x with
 | none => rfl
 | some y => simp only [Cr, h y rfl]
theorem OT {C : bZ} {boxed raw vars : Bool} {o : Oper} {ρ ρ' : Operand → Option AV} {rs : Nat} (h : ∀ x ∈ o.op.operands, ρ' x = ρ x) : I0 P C boxed raw vars o ρ' mem rs = I0 P C boxed raw vars o ρ mem rs := by
 obtain ⟨dst, op, J, FJ, A, guard⟩ := o
 cases op <;> simp only [Op.operands] at h <;> simp only [I0, Eo, z8, HI, zF, fA, zO, Iq, Ie, NN, CB, AH, zG, kM, yY, z9, oV, oL, Ep]
 case move x => simp only [qM, h x (by simp)]
 case assign x => simp only [qM, h x (by simp)]
 case build t ps => rw [pW (fun x hx => h x (by simpa using hx))]
 case buildSlice t n ps => rw [pW (fun x hx => h x (by simpa using hx))]
 case makeFunc fn first captured =>
  rw [pR (xs := first.toList) fun x hx => h x (by simp at hx ⊢; exact .inl hx), pR (xs := captured.toList) fun x hx => h x (by simp at hx ⊢; exact .inr hx)]
 case slice t x lo hi mx =>
  rw [h x (by simp), v7 (x := lo) fun y z => h y (by simp [z]), v7 (x := hi) fun y z => h y (by simp [z]), v7 (x := mx) fun y z => h y (by simp [z])]
 case call c =>
  obtain ⟨H, args, ts⟩ := c
  simp only [Call.operands] at h
  rw [pR (xs := args.toList) fun x hx => h x (by simp at hx ⊢; exact .inr hx)]
  cases H with
  | builtin b => rfl
  | value f => simp only [h f (by simp)]
  | invoke r m => rfl
 all_goals (first | rfl | (simp_all; done))
end
end Go.Ab
end
section
namespace Go.Ab
variable [cD]
structure kN where
 v : AV
 wr : List (Nat × d8)
 push : a9
 tr : Option Tr
noncomputable def kN.app (e : kN) (dst : Option Tmp) (st : St) : St := { tmps := lA st.tmps dst e.v, mem := aQ st.mem e.wr ++ e.push }
section
variable {P : Program}
inductive jE (P : Program) (C : bZ) (an : mR) (rid : Nat) (ops : Array Oper) (o : Oper) (i rs : Nat) (st : St) : kN → Prop
 | run (out : eM) (hres : d9 o.op = true → vV st.mem rs = true) (h : I0 P C (cG rid i an.boxed) (cG rid i an.raw) (cG rid i an.vars) o (fP st.tmps) st.mem rs = some out)
   (hg : ∀ j want, o.guard = some (j, want) → ∃ d, (ops[j]?).bind (·.dst) = some d ∧ st.tmps[d]? = some (.lit (.bool want))) :
   jE P C an rid ops o i rs st { v := out.v, wr := out.wr, push := out.push, tr := some (out.tr (d9 o.op) rs i o.op st.mem) }
 | skip (j : Nat) (want : Bool) (d : Nat) (hg : o.guard = some (j, want)) (hd : (ops[j]?).bind (·.dst) = some d)
   (h : st.tmps[d]? = some (.lit (.bool (!want))) ∨ ∃ x, st.tmps[d]? = some (.lit (.tuple x))) : jE P C an rid ops o i rs st { v := .lit undef, wr := [], push := [], tr := none }
theorem Same.eq {st z : St} (h : z.mem = st.mem ∧ ∀ t : Nat, z.tmps[t]? = st.tmps[t]?) : z = st := by
 obtain ⟨t1, m1⟩ := z
 obtain ⟨t, m⟩ := st
 simp only at h
 obtain ⟨rfl, h⟩ := h
 rw [List.ext_getElem? h]
variable {C : bZ} {an : mR} {rid : Nat} {ops : Array Oper}
theorem qV.two {o : Oper} {i rs : Nat} {st J : St} {t : Option Tr} (h : qV P C an rid ops o i rs st J t) : ∃ e, jE P C an rid ops o i rs st e ∧ e.tr = t ∧ J = e.app o.dst st := by
 cases h with
 | run out K z A O M =>
  obtain rfl := Same.eq z
  exact ⟨_, .run out A O M, rfl, rfl⟩
 | skip K z j H d M N h =>
  obtain rfl := Same.eq z
  exact ⟨_, .skip j H d M N h, rfl, by simp [kN.app, aQ]⟩
theorem jE.one {o : Oper} {i rs : Nat} {st : St} {e : kN} (h : jE P C an rid ops o i rs st e) : qV P C an rid ops o i rs st (e.app o.dst st) e.tr := by
 cases h with
 | run out z K H => exact .run out st ⟨rfl, fun _ => rfl⟩ z K H
 | skip j A d H J h =>
  have := qV.skip (P := P) (C := C) (an := an) (rid := rid) (ops := ops) (o := o) (i := i) (rs := rs) (st := st) st ⟨rfl, fun _ => rfl⟩ j A d H J h
  simpa [kN.app, aQ] using this
def Nu (ops : Array Oper) (o : Oper) (d : Nat) : Prop := d ∈ o.looksAt ops
def Pi (L : Nat) (all : List Tr) (e : kN) (b : Nat) : Prop := ∃ t, e.tr = some t ∧ (b ∈ (Fi L all t).rd ∨ b ∈ t.wr)
def rJ (S F : Nat → Prop) (st st' : St) : Prop := (∀ d : Nat, S d → st'.tmps[d]? = st.tmps[d]?) ∧ (∀ b : Nat, F b → st'.mem[b]? = st.mem[b]?)
theorem Ix {v : AV} {q : Nat × Nat × Nat × Nat} (h : m8 v = some q) : v = .ptr q.1 q.2.1 q.2.2.1 q.2.2.2 := by
 unfold m8 at h
 split at h
 ·cases h; rfl
 ·cases h
theorem Ng {t : TypeId} {mem mem' : a9} {a : AV} {out : eM} (h : jJ P t mem a = some out) (O : (m8 out.v).isSome = true) {b : Nat} (hb : out.rd = [b]) (M : (bB mem b).isSome = true) (H : bB mem' b = bB mem b) : jJ P t mem' a = some out := by
 unfold jJ at h ⊢
 cases a with
 | ptr V g i c =>
  simp only at h ⊢
  rw [bind_some] at h
  obtain ⟨bx, z, h⟩ := h
  unfold box? at z
  split at z
  ·rename_i x hx
   have N : Nat.beq x.gen g = true := by
    cases N : Nat.beq x.gen g with
    | true => rfl
    | false => rw [N] at z; cases z
   rw [N] at z
   obtain rfl := yb (show some x = some bx from z)
   split at h
   ·rename_i e cs A
    rw [bind_some] at h
    obtain ⟨ag, W, h⟩ := h
    cases ag with
    | true =>
     simp only [yg] at h
     rw [bind_some] at h
     obtain ⟨n, _, h⟩ := h
     rw [aB] at h
     obtain rfl := (yb h.2)
     simp [m8] at O
    | false =>
     simp only [ye] at h
     obtain ⟨v, hv, rfl⟩ := yf.1 h
     obtain rfl : V = b := by simpa using hb
     obtain ⟨q, hq⟩ := Option.isSome_iff_exists.1 O
     have Z : bB mem V = some (x.gen, e, cs.map m8) := by unfold bB g8; rw [hx]; simp only [A]
     rw [Z] at H
     unfold bB at H
     split at H
     ·rename_i x' hx'
      unfold g8 at H
      split at H
      ·rename_i e' K J
       obtain ⟨hg', he', hl'⟩ : x'.gen = x.gen ∧ e' = e ∧ K.map m8 = cs.map m8 := by
        have := yb H
        simp only [Prod.mk.injEq] at this
        exact this
       unfold box?
       rw [hx']
       simp only [hg', N, yg, ya, J, he', W, ye]
       have : (K.map m8)[i * e + c]? = some (some q) := by rw [hl', yh1, hv]; simp [hq]
       rw [yh1] at this
       obtain ⟨v', Y, U⟩ := yf.1 this
       rw [Y, yo, Ix U, show v = _ from Ix hq]
      ·cases H
     ·cases H
   ·rename_i k xs A
    rw [aB] at h; obtain ⟨_, h⟩ := h
    rw [aB] at h; obtain ⟨_, h⟩ := h
    obtain ⟨y, _, rfl⟩ := yf.1 h
    simp [m8] at O
   ·rename_i β e xs A
    rw [bind_some] at h; obtain ⟨y, _, h⟩ := h
    obtain ⟨u, _, rfl⟩ := yf.1 h
    obtain rfl : V = b := by simpa using hb
    unfold bB g8 at M
    rw [hx] at M
    simp only [A] at M
    cases M
  ·cases z
 | el β p c =>
  simp only at h
  obtain ⟨u, _, rfl⟩ := yf.1 h
  cases hb
 | _ => cases h
theorem NF {op : Op} {mem : a9} {v : AV} {rd : List Nat} (h : Mb op mem v rd = true) : (∃ t a, op = .load t a) ∧ (m8 v).isSome = true ∧ ∃ b, rd = [b] ∧ (bB mem b).isSome = true := by
 unfold Mb at h
 simp only [yc] at h
 obtain ⟨⟨h1, h2⟩, z⟩ := h
 refine ⟨?_, ?_, ?_⟩
 ·unfold JX at h1
  split at h1
  ·exact ⟨_, _, rfl⟩
  ·cases h1
 ·split at h2
  ·rename_i q A; rw [A]; rfl
  ·cases h2
 ·split at z
  ·rename_i b
   refine ⟨b, rfl, ?_⟩
   split at z
   ·rename_i q A; rw [A]; rfl
   ·cases z
  ·cases z
theorem OK {L : Nat} {all : List Tr} {t : Tr} : (Fi L all t).rd = t.rd ∨ (t.rc = true ∧ ∃ b, t.rd = [b] ∧ Kg L all b = true) := by
 unfold Fi
 cases h : (t.rc && (match t.rd with | [b] => Kg L all b | _ => false)) with
 | false => left; rfl
 | true =>
  right
  simp only [yc] at h
  refine ⟨h.1, ?_⟩
  have h2 := h.2
  split at h2
  ·rename_i b z; exact ⟨b, z, h2⟩
  ·cases h2
theorem iK {L : Nat} {all : List Tr} {t : Tr} : (Fi L all t).i = t.i ∧ (Fi L all t).wr = t.wr ∧ (Fi L all t).push = t.push := by
 unfold Fi
 cases (t.rc && (match t.rd with | [b] => Kg L all b | _ => false)) <;> exact ⟨rfl, rfl, rfl⟩
theorem jE.agree {L : Nat} {all : List Tr} {o : Oper} {i rs : Nat} {st A : St} {e : kN} (h : jE P C an rid ops o i rs st e) (hA : rJ (Nu ops o) (Pi L all e) st A) (hl : mG o = true → A.mem.length = st.mem.length)
  (hK : ∀ t b, e.tr = some t → Kg L all b = true → t.rc = true → t.rd = [b] → bB A.mem b = bB st.mem b) : ∃ Z, jE P C an rid ops o i rs A Z ∧ Z.v = e.v ∧ Z.wr = e.wr ∧ Z.push = e.push := by
 have H : ∀ {j : Nat} {z : Bool} {d : Nat}, o.guard = some (j, z) → (ops[j]?).bind (·.dst) = some d → A.tmps[d]? = st.tmps[d]? := by
  intro j z d O M
  refine hA.1 d ?_
  unfold Nu Oper.looksAt
  rw [O]
  refine ys1 _ ?_
  simp [M]
 cases h with
 | run out U K O =>
  refine ⟨_, .run out (fun hm => ?_) ?_ (fun j z h => ?_), rfl, rfl, rfl⟩
  ·have := U hm
   unfold vV at this ⊢
   rw [hA.2 rs ⟨_, rfl, .inr (by simp [eM.tr, hm])⟩]; exact this
  ·have h1 : I0 P C (cG rid i an.boxed) (cG rid i an.raw) (cG rid i an.vars) o (fP st.tmps) A.mem rs = some out := by
    rcases OK (L := L) (all := all) (t := out.tr (d9 o.op) rs i o.op st.mem) with hrd | ⟨Y, b, J, W⟩
    ·exact Pn (mem' := A.mem) hl K (fun b J => hA.2 b ⟨_, rfl, .inl (by rw [hrd]; simpa [eM.tr] using J)⟩)
    ·obtain ⟨⟨t, a, hop⟩, hp, b', V, N⟩ := NF (show Mb o.op st.mem out.v out.rd = true from Y)
     have J : out.rd = [b] := J
     obtain rfl : b = b' := by rw [J] at V; simpa using V
     have hke := hK _ b rfl W Y J
     unfold I0 at K ⊢
     rw [hop] at K ⊢
     simp only at K ⊢
     rw [bind_some] at K ⊢
     obtain ⟨x, hx, K⟩ := K
     exact ⟨x, hx, Ng K hp J N hke⟩
   rw [← h1]
   refine OT fun x hx => ?_
   cases x with
   | tmp t =>
    simp only [fP, B9, bU]
    rw [hA.1 t]
    unfold Nu Oper.looksAt
    exact yr1 _ (List.mem_filterMap.2 ⟨.tmp t, by simpa using hx, rfl⟩)
   | const v => rfl
   | func f => rfl
   | global g => rfl
  ·obtain ⟨d, M, J⟩ := O j z h
   exact ⟨d, M, by rw [H h M]; exact J⟩
 | skip j z d O M h =>
  refine ⟨_, .skip j z d O M ?_, rfl, rfl, rfl⟩
  rw [H O M]; exact h
noncomputable def cC (D : Nat → Bool) : Nat → List (Oper × kN) → St → St
 | _, [], st => st
 | i, (o, e) :: r, st => cC D (i + 1) r (bif D i then e.app o.dst st else st)
theorem nH {D D' : Nat → Bool} : ∀ {l : List (Oper × kN)} {i : Nat} {st : St}, (∀ k, i ≤ k → k < i + l.length → D k = D' k) → cC D i l st = cC D' i l st
 | [], i, st, _ => rfl
 | (o, e) :: r, i, st, h => by
  simp only [cC]
  rw [h i (yz _) (by simp)]
  exact nH fun k h1 h2 => h k (by omega) (by simp at h2 ⊢; omega)
inductive Bu (P : Program) (C : bZ) (an : mR) (rid : Nat) (ops : Array Oper) : Nat → Nat → St → List (Oper × kN) → Prop
 | nil (i rs : Nat) (st : St) : Bu P C an rid ops i rs st []
 | cons (o : Oper) (e : kN) (r : List (Oper × kN)) (i rs : Nat) (st : St) (h : jE P C an rid ops o i rs st e) (hr : Bu P C an rid ops (i + 1) (bif d9 o.op then rs + 1 else rs) (e.app o.dst st) r) :
   Bu P C an rid ops i rs st ((o, e) :: r)
variable {R : Type}
theorem Eu {k : St → List Tr → Option R} {r : R} : ∀ {rest : List Oper} {i rs : Nat} {st : St} {tr : List Tr}, qK P C an rid (ops.toList.map (·.dst)) rest i rs st tr k = some r →
  ∃ l, l.map (·.1) = rest ∧ Bu P C an rid ops i rs st l ∧ k (cC (fun _ => true) i l st) ((l.filterMap (·.2.tr)).reverse ++ tr) = some r
 | [], i, rs, st, tr, h => ⟨[], rfl, .nil i rs st, by simpa [qK, cC] using h⟩
 | o :: rest, i, rs, st, tr, h => by
  obtain ⟨M, t, z, K⟩ := FV h
  obtain ⟨e, J, rfl, rfl⟩ := z.two
  obtain ⟨l, hl, A, H⟩ := Eu K
  refine ⟨(o, e) :: l, by simp [hl], .cons o e l i rs st J A, ?_⟩
  simp only [cC, yg]
  have : ((((o, e) :: l).filterMap (·.2.tr)).reverse ++ tr) = (l.filterMap (·.2.tr)).reverse ++ (e.tr.toList ++ tr) := by
   cases ht : e.tr with
   | none => simp [List.filterMap_cons, ht]
   | some t => simp [List.filterMap_cons, ht]
  rw [this]; exact H
theorem pV {D : Nat → Bool} : ∀ {l : List (Oper × kN)} {i : Nat} {st : St}, (∀ k, i ≤ k → D k = false) → cC D i l st = st
 | [], i, st, _ => rfl
 | (o, e) :: r, i, st, h => by
  simp only [cC, h i (yz _), ye]
  exact pV fun k hk => h k (by omega)
theorem Bu.get : ∀ {l : List (Oper × kN)} {i rs : Nat} {st : St} {j : Nat} {o : Oper} {e : kN}, Bu P C an rid ops i rs st l → l[j]? = some (o, e) → ∃ z, jE P C an rid ops o (i + j) z (cC (fun k => Nat.blt k (i + j)) i l st) e
 | [], i, rs, st, j, o, e, _, h => by simp at h
 | (M, e') :: l, i, rs, st, 0, o, e, A, h => by
  cases A with
  | cons _ _ _ _ _ _ h1 H =>
   simp at h; obtain ⟨rfl, rfl⟩ := h
   refine ⟨rs, ?_⟩
   rw [pV (fun k hk => by cases K : Nat.blt k (i + 0) with | false => rfl | true => simp [Nat.blt] at K; omega)]
   exact h1
 | (M, e') :: l, i, rs, st, j + 1, o, e, A, h => by
  cases A with
  | cons _ _ _ _ _ _ h1 H =>
   obtain ⟨z, J⟩ := H.get (j := j) (by simpa using h)
   refine ⟨z, ?_⟩
   rw [show i + 1 + j = i + (j + 1) by omega] at J
   simp only [cC]
   have : Nat.blt i (i + (j + 1)) = true := by simp [Nat.blt]
   rw [this]; exact J
theorem L6 {m z : a9} {b : Nat} (h : z[b]? = m[b]?) : ∀ {wr : List (Nat × d8)}, (aQ z wr)[b]? = (aQ m wr)[b]? := by
 intro wr
 induction wr generalizing m z with
 | nil => exact h
 | cons q r J =>
  obtain ⟨c, x⟩ := q
  simp only [aQ]
  refine J ?_
  rw [List.getElem?_set, List.getElem?_set]
  by_cases H : c = b
  ·subst H
   simp only [if_true]
   by_cases hl : c < m.length
   ·have : c < z.length := by
     rcases ya2 c z.length with A | A
     ·exact A
     ·rw [ya1 A, yd hl] at h; cases h
    rw [if_pos hl, if_pos this]
   ·have : ¬ c < z.length := by
     intro A
     rw [yd A, ya1 (by omega)] at h; cases h
    rw [if_neg hl, if_neg this]
  ·rw [if_neg H, if_neg H]; exact h
theorem JL {m : a9} {b : Nat} : ∀ {wr : List (Nat × d8)}, (∀ q ∈ wr, q.1 ≠ b) → (aQ m wr)[b]? = m[b]? := by
 intro wr
 induction wr generalizing m with
 | nil => intro _; rfl
 | cons q r A =>
  obtain ⟨c, x⟩ := q
  intro h
  simp only [aQ]
  rw [A (fun q z => h q (yk _ z)), yg1 (h (c, x) (yn ..))]
theorem Kw {m : a9} {c : Nat} {x : Option d8} : ∀ {wr : List (Nat × d8)}, (∀ q ∈ wr, q.1 ≠ c) → aQ (m.set c x) wr = (aQ m wr).set c x := by
 intro wr
 induction wr generalizing m with
 | nil => intro _; rfl
 | cons q r A =>
  obtain ⟨d, y⟩ := q
  intro h
  simp only [aQ]
  rw [List.set_comm _ _ (fun e => h (d, y) (yn ..) e.symm), A (fun q z => h q (yk _ z))]
theorem IJ {m : a9} {a : List (Nat × d8)} : ∀ {b : List (Nat × d8)}, (∀ q ∈ b, ∀ z ∈ a, q.1 ≠ z.1) → aQ (aQ m a) b = aQ (aQ m b) a := by
 intro b
 induction b generalizing m with
 | nil => intro _; rfl
 | cons q r J =>
  obtain ⟨c, x⟩ := q
  intro h
  simp only [aQ]
  rw [← J (fun q H => h q (yk _ H)), Kw (fun z A e => h (c, x) (yn ..) z A e.symm)]
theorem zQ {m p : a9} : ∀ {wr : List (Nat × d8)}, (∀ q ∈ wr, q.1 < m.length) → aQ (m ++ p) wr = aQ m wr ++ p := by
 intro wr
 induction wr generalizing m with
 | nil => intro _; rfl
 | cons q r A =>
  obtain ⟨c, x⟩ := q
  intro h
  simp only [aQ]
  rw [List.set_append_left _ _ (h (c, x) (yn ..)), A (fun q z => by simpa using h q (yk _ z))]
structure N8 (L : Nat) (d1 d2 : Option Tmp) (e1 e2 : kN) : Prop where
 dst : ∀ d, d1 = some d → d2 ≠ some d
 wr : ∀ q ∈ e1.wr, ∀ q' ∈ e2.wr, q.1 ≠ q'.1
 push : e1.push = [] ∨ e2.push = []
 low1 : e1.push ≠ [] → ∀ q ∈ e2.wr, q.1 < L
 low2 : e2.push ≠ [] → ∀ q ∈ e1.wr, q.1 < L
theorem Ls {tmps : List AV} {A z : Option Tmp} {H J : AV} (h : ∀ d, A = some d → z ≠ some d) : lA (lA tmps A H) z J = lA (lA tmps z J) A H := by
 cases A with
 | none => rfl
 | some a =>
  cases z with
  | none => rfl
  | some b => simp only [lA, eF]; rw [List.set_comm _ _ (fun e => h a rfl (by rw [e]))]
theorem kN.comm {L : Nat} {N O : Option Tmp} {H A : kN} {st : St} (hm : N8 L N O H A) (hl : st.mem.length = L ∨ (H.push = [] ∧ A.push = [])) : A.app O (H.app N st) = H.app N (A.app O st) := by
 have K : aQ (aQ st.mem H.wr ++ H.push) A.wr ++ A.push = aQ (aQ st.mem A.wr ++ A.push) H.wr ++ H.push := by
  have z := IJ (m := st.mem) (a := H.wr) (b := A.wr) (fun q J U M e => hm.wr U M q J e.symm)
  by_cases h1 : H.push = []
  ·by_cases h2 : A.push = []
   ·rw [h1, h2]; simp only [yu1]; exact z
   ·rcases hl with hl | ⟨_, h⟩
    ·rw [h1]; simp only [yu1]
     rw [zQ (m := aQ st.mem A.wr) (fun q J => by rw [bP, hl]; exact hm.low2 h2 q J), z]
    ·exact absurd h h2
  ·rcases hl with hl | ⟨h, _⟩
   ·have h2 : A.push = [] := hm.push.resolve_left h1
    rw [h2]; simp only [yu1]
    rw [zQ (m := aQ st.mem H.wr) (fun q J => by rw [bP, hl]; exact hm.low1 h1 q J), z]
   ·exact absurd h h1
 simp only [kN.app, K, Ls hm.dst]
end
end Go.Ab
end
section
namespace Go.Ab
variable [cD]
def A0 (ops : Array Oper) (D : Nat → Bool) : Prop := ∀ (j : Nat) (o : Oper), ops[j]? = some o → ∀ e ∈ o.after, Region.binds .any e = true → D j = true → D e.on = true
theorem wA {acc : List Nat} : ∀ {J : List Edge} {i : Nat}, (AQ acc J).testBit i = true → ∃ e ∈ J, Region.binds .any e = true ∧ (i = e.on ∨ (acc.getD e.on 0).testBit i = true)
 | [], i, h => by simp [AQ] at h
 | e :: r, i, h => by
  simp only [AQ] at h
  cases z : Region.binds .any e with
  | true =>
   rw [z] at h; simp only [yg, Nat.testBit_or, yc2] at h
   rcases h with (h | h) | h
   ·refine ⟨e, yn .., z, .inl ?_⟩
    rw [Nat.testBit_two_pow] at h
    exact (of_decide_eq_true h).symm
   ·exact ⟨e, yn .., z, .inr h⟩
   ·obtain ⟨H, A, h1, h2⟩ := wA h
    exact ⟨H, yk _ A, h1, h2⟩
  | false =>
   rw [z] at h; simp only [ye] at h
   obtain ⟨H, A, h1, h2⟩ := wA h
   exact ⟨H, yk _ A, h1, h2⟩
theorem q5 {i : Nat} : ∀ {H : List Edge}, zY i H = true → ∀ e ∈ H, Region.binds .any e = true → e.on < i
 | [], _, e, z, _ => by simp at z
 | x :: r, h, e, z, A => by
  simp only [zY, yc, yc2, yy] at h
  rcases yq1.1 z with rfl | z
  ·rcases h.1 with h1 | h1
   ·rw [A] at h1; cases h1
   ·simp [Nat.blt] at h1; omega
  ·exact q5 h.2 e z A
theorem n8 : ∀ {l : List Oper} {i j : Nat} {o : Oper}, iM l i = true → l[j]? = some o → zY (i + j) o.after.toList = true
 | [], i, j, o, _, h => by simp at h
 | x :: r, i, 0, o, h, z => by
  simp only [iM, yc] at h
  simp at z; subst z; exact h.1
 | x :: r, i, j + 1, o, h, z => by
  simp only [iM, yc] at h
  have := n8 (j := j) h.2 (by simpa using z)
  rw [show i + (j + 1) = i + 1 + j by omega]; exact this
theorem Hy {ops : Array Oper} (hE : iM ops.toList 0 = true) : ∀ {l : List Oper} {acc : List Nat}, ops.toList.drop acc.length = l → acc.length ≤ ops.size →
  (∀ j i, j < acc.length → (acc.getD j 0).testBit i = true → i < j ∧ ∀ D, A0 ops D → D j = true → D i = true) →
  ∀ j i, ((Ao l acc).getD j 0).testBit i = true → i < j ∧ j < ops.size ∧ ∀ D, A0 ops D → D j = true → D i = true
 | [], acc, H, O, h => by
  intro j i A
  simp only [Ao] at A
  by_cases N : j < acc.length
  ·exact ⟨(h j i N A).1, by omega, (h j i N A).2⟩
  ·rw [yl, ya1 (by omega)] at A; simp at A
 | o :: r, acc, H, O, h => by
  simp only [Ao]
  have W : ops[acc.length]? = some o := by
   have : (ops.toList.drop acc.length)[0]? = some o := by rw [H]; rfl
   rw [yd1, yp2, yk1] at this; exact this
  have Z : acc.length < ops.size := (ys2.1 W).1
  refine Hy hE (l := r) (by rw [yi, ← List.drop_drop, H]; rfl) (by simp; omega) fun j i N A => ?_
  by_cases J : j < acc.length
  ·rw [yl, yq J, ← yl] at A
   exact h j i J A
  ·have U : j = acc.length := by simp at N; omega
   subst U
   rw [yl, yt (yz _)] at A
   simp only [Nat.sub_self, yy2, Option.getD_some] at A
   obtain ⟨e, Y, z, V⟩ := wA A
   have K := q5 (by have := n8 (j := acc.length) hE (by rw [yk1]; exact W); rwa [yj1] at this) e Y z
   have M : ∀ D, A0 ops D → D acc.length = true → D e.on = true := fun D hD H => hD acc.length o W e (by simpa using Y) z H
   rcases V with rfl | V
   ·exact ⟨K, M⟩
   ·obtain ⟨h1, h2⟩ := h e.on i K V
    exact ⟨by omega, fun D hD H => h2 D hD (M D hD H)⟩
theorem yX {ops : Array Oper} (hE : iM ops.toList 0 = true) {j i : Nat} (h : ((Ao ops.toList []).getD j 0).testBit i = true) : i < j ∧ ∀ D, A0 ops D → D j = true → D i = true := by
 obtain ⟨h1, _, h2⟩ := Hy hE (l := ops.toList) (acc := []) (by simp) (by simp) (fun j i z _ => by simp at z) j i h
 exact ⟨h1, h2⟩
theorem Dx : ∀ {n a j : Nat}, a ≤ j → j < a + n → j ∈ iI a n
 | 0, a, j, h1, h2 => by omega
 | n + 1, a, j, h1, h2 => by
  simp only [iI]
  rcases ya2 a j with h | h
  ·exact yk _ (Dx (by omega) (by omega))
  ·obtain rfl : j = a := by omega
   exact yn ..
theorem y0 {ops : Array Oper} {bs : List Nat} {i : Nat} : ∀ {l : List Nat}, zZ ops bs i l = true → ∀ j ∈ l, d7 bs i j = true ∨ yN ops i j = true
 | [], _, j, z => by simp at z
 | x :: r, h, j, z => by
  simp only [zZ, yc, yc2] at h
  rcases yq1.1 z with rfl | z
  ·exact h.1
  ·exact y0 h.2 j z
theorem pE {ops : Array Oper} {bs : List Nat} : ∀ {n a i j : Nat}, y7 ops bs (iI a n) = true → a ≤ i → i < j → j < a + n → d7 bs i j = true ∨ yN ops i j = true
 | 0, a, i, j, _, h1, h2, H => by omega
 | n + 1, a, i, j, h, h1, h2, H => by
  simp only [iI, y7, yc] at h
  rcases ya2 a i with z | A
  ·exact pE h.2 (by omega) h2 (by omega)
  ·obtain rfl : i = a := by omega
   exact y0 h.1 j (Dx (by omega) (by omega))
theorem Bj {bs : List Nat} {i : Nat} : ∀ {l : List Oper} {s j : Nat} {o : Oper}, sC bs i l s = true → l[j]? = some o → i = s + j ∨ d7 bs i (s + j) = true ∨ mG o = false
 | [], s, j, o, _, h => by simp at h
 | x :: r, s, 0, o, h, z => by
  simp only [sC, yc, yc2, yy] at h
  simp at z; subst z
  rcases h.1 with (h | h) | h
  ·exact .inl (cY.1 h)
  ·exact .inr (.inl h)
  ·exact .inr (.inr h)
 | x :: r, s, j + 1, o, h, z => by
  simp only [sC, yc] at h
  have := Bj (j := j) h.2 (by simpa using z)
  rw [show s + (j + 1) = s + 1 + j by omega]; exact this
theorem D9 {ops : Array Oper} {bs : List Nat} : ∀ {l : List Tr}, Ho ops bs l = true → ∀ a ∈ l, a.push = true → sC bs a.i ops.toList 0 = true
 | [], _, a, z, _ => by simp at z
 | x :: r, h, a, z, A => by
  simp only [Ho, yc, yc2, yy] at h
  rcases yq1.1 z with rfl | z
  ·rcases h.1 with h1 | h1
   ·rw [A] at h1; cases h1
   ·exact h1
  ·exact D9 h.2 a z A
structure F4 (bs : List Nat) (L : Nat) (a b : Tr) : Prop where
 push : a.push = true → b.push = true → False
 far : d7 bs a.i b.i = false → (∀ x ∈ a.wr, x ∉ b.rd) ∧ (∀ x ∈ a.rd, x ∉ b.wr) ∧ (∀ x ∈ a.wr, x ∉ b.wr) ∧ (a.push = true → (∀ x ∈ b.rd, x < L) ∧ ∀ x ∈ b.wr, x < L) ∧ (b.push = true → (∀ x ∈ a.rd, x < L) ∧ ∀ x ∈ a.wr, x < L)
theorem oI {m : Nat} : ∀ {l : List Nat}, fG m l = true → ∀ b ∈ l, b < m
 | [], _, b, h => by simp at h
 | x :: r, h, b, z => by
  simp only [fG, yc] at h
  rcases yq1.1 z with rfl | z
  ·have := h.1; simp [Nat.blt] at this; omega
  ·exact oI h.2 b z
theorem Hs {bs : List Nat} {L : Nat} {a : Tr} : ∀ {l : List Tr}, NX bs L a l = true → ∀ b ∈ l, F4 bs L a b
 | [], _, b, h => by simp at h
 | x :: r, h, b, H => by
  simp only [NX, yc] at h
  rcases yq1.1 H with rfl | H
  ·refine ⟨fun h1 h2 => by have := h.1.1; rw [h1, h2] at this; simp at this, fun K => ?_⟩
   have := h.1.2
   rw [K] at this
   simp only [yl3, yc, yc2, yy] at this
   obtain ⟨⟨⟨⟨h1, h2⟩, M⟩, A⟩, z⟩ := this
   refine ⟨sM h1, sM h2, sM M, fun J => ?_, fun J => ?_⟩
   ·rcases A with A | A
    ·rw [J] at A; cases A
    ·exact ⟨oI A.1, oI A.2⟩
   ·rcases z with z | z
    ·rw [J] at z; cases z
    ·exact ⟨oI z.1, oI z.2⟩
  ·exact Hs h.2 b H
theorem q8 {bs : List Nat} {L : Nat} : ∀ {l : List Tr}, KK bs L l = true → l.Pairwise (F4 bs L)
 | [], _ => .nil
 | a :: r, h => by
  simp only [KK, yc] at h
  exact .cons (Hs h.1) (q8 h.2)
theorem p0 {bs : List Nat} {i j : Nat} : d7 bs i j = d7 bs j i := by unfold d7; rw [Bool.or_comm]
theorem F4.symm {bs : List Nat} {L : Nat} {a b : Tr} (h : F4 bs L a b) : F4 bs L b a :=
 ⟨fun h1 h2 => h.push h2 h1, fun J => by
  obtain ⟨h1, h2, K, H, A⟩ := h.far (by rw [p0]; exact J)
  exact ⟨fun x hx z => h2 x z hx, fun x hx z => h1 x z hx, fun x hx z => K x z hx, A, H⟩⟩
section
variable {P : Program} {C : bZ} {an : mR} {rid : Nat} {ops : Array Oper}
theorem jE.facts {o : Oper} {i rs : Nat} {st : St} {e : kN} (h : jE P C an rid ops o i rs st e) :
  (∀ q ∈ e.wr, ∃ t, e.tr = some t ∧ q.1 ∈ t.wr) ∧ (e.push ≠ [] → ∃ t, e.tr = some t ∧ t.push = true) ∧ (∀ t, e.tr = some t → t.i = i) := by
 cases h with
 | run out H ho K =>
  refine ⟨fun q z => ⟨_, rfl, ?_⟩, fun A => ⟨_, rfl, ?_⟩, fun t ht => ?_⟩
  ·simp only [eM.tr]
   cases d9 o.op with
   | true => simp only [yg]; exact yk _ (yc3.2 ⟨q, z, rfl⟩)
   | false => simp only [ye]; exact yc3.2 ⟨q, z, rfl⟩
  ·show (match out.push with | [] => false | _ => true) = true
   split
   ·rename_i M; exact absurd M A
   ·rfl
  ·cases ht; rfl
 | skip j J d K hd h => exact ⟨fun q z => by simp at z, fun A => absurd rfl A, fun t ht => by cases ht⟩
structure Cb (S F : Nat → Prop) (L : Nat) (o : Oper) (e : kN) : Prop where
 dst : ∀ d, o.dst = some d → ¬ S d
 wr : ∀ q ∈ e.wr, ¬ F q.1
 push : e.push ≠ [] → ∀ b, F b → b < L
theorem s3 (e : kN) (d : Option Tmp) (st : St) : (e.app d st).mem.length = st.mem.length + e.push.length := by simp [kN.app, bP]
theorem rJ.symm {S F : Nat → Prop} {st z : St} (h : rJ S F st z) : rJ S F z st := ⟨fun d H => (h.1 d H).symm, fun b A => (h.2 b A).symm⟩
theorem FF {S F : Nat → Prop} {L : Nat} {o : Oper} {e : kN} {st z : St} (h : rJ S F st z) (hn : Cb S F L o e) (hl : e.push ≠ [] → z.mem.length = L) : rJ S F st (e.app o.dst z) := by
 refine ⟨fun d M => ?_, fun b K => ?_⟩
 ·rw [← h.1 d M]
  simp only [kN.app]
  cases H : o.dst with
  | none => rfl
  | some t =>
   simp only [lA, eF]
   exact yg1 (fun e => hn.dst t H (by rw [e]; exact M))
 ·rw [← h.2 b K]
  simp only [kN.app]
  have A : (aQ z.mem e.wr)[b]? = z.mem[b]? := JL fun q N e => hn.wr q N (by rw [e]; exact K)
  by_cases J : e.push = []
  ·rw [J, yu1]; exact A
  ·rw [yq (by rw [bP, hl J]; exact hn.push J b K)]; exact A
theorem Jx {S F : Nat → Prop} {d : Option Tmp} {e : kN} {st z : St} (h : rJ S F st z) (hl : e.push ≠ [] → z.mem.length = st.mem.length) : rJ S F (e.app d st) (e.app d z) := by
 refine ⟨fun t ht => ?_, fun b N => ?_⟩
 ·simp only [kN.app]
  cases d with
  | none => exact h.1 t ht
  | some d =>
   simp only [lA, eF]
   have := h.1 t ht
   rw [List.getElem?_set, List.getElem?_set]
   by_cases J : d = t
   ·subst J
    simp only [if_true]
    by_cases hl : d < st.tmps.length
    ·have A : d < z.tmps.length := by
      rcases ya2 d z.tmps.length with A | A
      ·exact A
      ·rw [ya1 A, yd hl] at this; cases this
     rw [if_pos hl, if_pos A]
    ·have A : ¬ d < z.tmps.length := by
      intro A
      rw [yd A, ya1 (Nat.le_of_not_lt hl)] at this; cases this
     rw [if_neg hl, if_neg A]
   ·rw [if_neg J, if_neg J]; exact this
 ·simp only [kN.app]
  have M : (aQ z.mem e.wr)[b]? = (aQ st.mem e.wr)[b]? := L6 (h.2 b N)
  by_cases K : e.push = []
  ·rw [K, yu1, yu1]; exact M
  ·have hl := hl K
   by_cases H : b < st.mem.length
   ·rw [yq (by rw [bP, hl]; exact H), yq (by rw [bP]; exact H)]; exact M
   ·rw [yt (by rw [bP, hl]; omega), yt (by rw [bP]; omega), bP, bP, hl]
def n7 (l : List (Oper × kN)) : Prop := ∀ q ∈ l, q.2.push = []
def yL (l : List (Oper × kN)) : Prop := l.Pairwise fun a b => a.2.push = [] ∨ b.2.push = []
theorem mC {S F : Nat → Prop} {L : Nat} {D D' : Nat → Bool} : ∀ {l : List (Oper × kN)} {i : Nat} {st A : St}, (st.mem.length = L ∨ n7 l) → (A.mem.length = L ∨ n7 l) → yL l →
  (∀ k o e, l[k]? = some (o, e) → D (i + k) ≠ D' (i + k) → Cb S F L o e) → rJ S F st A → rJ S F (cC D i l st) (cC D' i l A)
 | [], i, st, A, _, _, _, _, h => h
 | (o, e) :: r, i, st, A, hl, z, ho, hn, h => by
  simp only [cC]
  have h1 : ∀ {s : St}, (s.mem.length = L ∨ n7 ((o, e) :: r)) → (e.push ≠ [] → s.mem.length = L) := by
   intro s M H
   rcases M with M | M
   ·exact M
   ·exact absurd (M (o, e) (yn ..)) H
  have O : e.push ≠ [] → n7 r := by
   intro H q V
   have := List.pairwise_cons.1 ho
   exact (this.1 q V).resolve_left H
  have h2 : ∀ {s : St}, (s.mem.length = L ∨ n7 ((o, e) :: r)) → ((e.app o.dst s).mem.length = L ∨ n7 r) := by
   intro s M
   by_cases H : e.push = []
   ·rw [s3, H]
    exact M.imp (fun h => by simpa using h) (fun h q V => h q (yk _ V))
   ·exact .inr (O H)
  have Z : ∀ {s : St}, (s.mem.length = L ∨ n7 ((o, e) :: r)) → (s.mem.length = L ∨ n7 r) := fun M => M.imp id (fun h q V => h q (yk _ V))
  have J : ∀ k Y W, r[k]? = some (Y, W) → D (i + 1 + k) ≠ D' (i + 1 + k) → Cb S F L Y W := fun k Y W hk hne => hn (k + 1) Y W (by simpa using hk) (by rw [show i + (k + 1) = i + 1 + k by omega]; exact hne)
  have K := (List.pairwise_cons.1 ho).2
  cases hD : D i with
  | true =>
   cases N : D' i with
   | true => exact mC (h2 hl) (h2 z) K J (Jx h (fun H => by rw [h1 hl H, h1 z H]))
   | false =>
    have U := hn 0 o e rfl (by rw [yp2, hD, N]; simp)
    exact mC (h2 hl) (Z z) K J (FF h.symm U (h1 hl)).symm
  | false =>
   cases N : D' i with
   | true =>
    have U := hn 0 o e rfl (by rw [yp2, hD, N]; simp)
    exact mC (Z hl) (h2 z) K J (FF h U (h1 z))
   | false => exact mC (Z hl) (Z z) K J h
theorem CP {D D' : Nat → Bool} : ∀ {l : List (Oper × kN)} {i : Nat} {st z : St}, z.mem.length = st.mem.length → (∀ k o e, l[k]? = some (o, e) → e.push ≠ [] → D (i + k) = D' (i + k)) → (cC D' i l z).mem.length = (cC D i l st).mem.length
 | [], i, st, z, h, _ => h
 | (o, e) :: r, i, st, z, h, hn => by
  simp only [cC]
  refine CP ?_ (fun k K J H A => by have := hn (k + 1) K J (by simpa using H) A; rwa [show i + (k + 1) = i + 1 + k by omega] at this)
  by_cases A : e.push = []
  ·cases D i <;> cases D' i <;> simp only [yg, ye, s3, A, yd3, yp2] <;> exact h
  ·have := hn 0 o e rfl A
   rw [yp2] at this
   rw [this]
   cases D' i <;> simp only [yg, ye, s3, h]
theorem pN {D : Nat → Bool} : ∀ {a b : List (Oper × kN)} {i : Nat} {st : St}, cC D i (a ++ b) st = cC D (i + a.length) b (cC D i a st)
 | [], b, i, st => rfl
 | (o, e) :: a, b, i, st => by
  simp only [yp3, cC, ye1]
  rw [pN, show i + 1 + a.length = i + (a.length + 1) by omega]
theorem Ct {L : Nat} {D : Nat → Bool} {e : kN} {d : Option Tmp} : ∀ {l : List (Oper × kN)} {i : Nat} {st : St}, (st.mem.length = L ∨ (e.push = [] ∧ n7 l)) → yL l → (∀ q ∈ l, e.push = [] ∨ q.2.push = []) →
  (∀ k M K, l[k]? = some (M, K) → D (i + k) = true → N8 L d M.dst e K) → cC D i l (e.app d st) = e.app d (cC D i l st)
 | [], i, st, _, _, _, _ => rfl
 | (M, K) :: r, i, st, hl, ho, W, hm => by
  simp only [cC]
  have J := List.pairwise_cons.1 ho
  have N : ∀ k O U, r[k]? = some (O, U) → D (i + 1 + k) = true → N8 L d O.dst e U := fun k O U Z Y => hm (k + 1) O U (by simpa using Z) (by rw [show i + (k + 1) = i + 1 + k by omega]; exact Y)
  have A : ∀ q ∈ r, e.push = [] ∨ q.2.push = [] := fun q H => W q (yk _ H)
  cases hD : D i with
  | true =>
   simp only [yg]
   have z := hm 0 M K rfl (by rw [yp2]; exact hD)
   rw [kN.comm z (hl.imp id (fun h => ⟨h.1, h.2 (M, K) (yn ..)⟩))]
   refine Ct (L := L) ?_ J.2 A N
   by_cases V : K.push = []
   ·rw [s3, V]
    exact hl.imp (fun h => by simpa using h) (fun h => ⟨h.1, fun q H => h.2 q (yk _ H)⟩)
   ·exact .inr ⟨z.push.resolve_right V, fun q H => (J.1 q H).resolve_left V⟩
  | false =>
   simp only [ye]
   exact Ct (L := L) (hl.imp id (fun h => ⟨h.1, fun q H => h.2 q (yk _ H)⟩)) J.2 A N
end
end Go.Ab
end
section
namespace Go.Ab
variable [cD]
section
variable {P : Program} {C : bZ} {an : mR} {rid : Nat} {ops : Array Oper} {R : Type}
theorem Lf {D : Nat → Bool} {n : Nat} (h : ∃ i, i < n ∧ D i = false) : ∃ i, i < n ∧ D i = false ∧ ∀ j, j < i → D j = true := by
 obtain ⟨i, ⟨A, H⟩, z⟩ := Ek (p := fun i => i < n ∧ D i = false) h
 refine ⟨i, A, H, fun j hj => ?_⟩
 cases hD : D j with
 | true => rfl
 | false => have := z j ⟨by omega, hD⟩; omega
def left (D : Nat → Bool) : Nat → Nat
 | 0 => 0
 | n + 1 => left D n + (bif D n then 0 else 1)
theorem Fv {D : Nat → Bool} : ∀ {n : Nat}, left D n = 0 → ∀ i, i < n → D i = true
 | 0, _, i, h => by omega
 | n + 1, h, i, hi => by
  simp only [left] at h
  rcases ya2 i n with z | z
  ·exact Fv (by omega) i z
  ·obtain rfl : i = n := by omega
   cases hD : D i with
   | true => rfl
   | false => rw [hD] at h; simp at h
theorem Hw {D D' : Nat → Bool} {i : Nat} (hD : D i = false) (z : D' i = true) (A : ∀ j, j ≠ i → D' j = D j) : ∀ {n : Nat}, (i < n → left D n = left D' n + 1) ∧ (n ≤ i → left D n = left D' n)
 | 0 => ⟨fun h => by omega, fun _ => rfl⟩
 | n + 1 => by
  obtain ⟨h1, h2⟩ := Hw hD z A (n := n)
  refine ⟨fun h => ?_, fun h => ?_⟩
  ·simp only [left]
   rcases ya2 i n with H | H
   ·rw [h1 H, A n (by omega)]; omega
   ·obtain rfl : i = n := by omega
    rw [h2 (yz _), hD, z]; rfl
  ·simp only [left]
   rw [h2 (by omega), A n (by omega)]
theorem IC {D : Nat → Bool} : ∀ {n : Nat}, 0 < left D n → ∃ i, i < n ∧ D i = false
 | 0, h => by simp [left] at h
 | n + 1, h => by
  simp only [left] at h
  cases hD : D n with
  | false => exact ⟨n, Nat.lt_succ_self _, hD⟩
  | true =>
   rw [hD] at h; simp only [yg, yp2] at h
   obtain ⟨i, hi, z⟩ := IC h
   exact ⟨i, by omega, z⟩
theorem Mn (n : Nat) : left (fun _ => false) n = n := by
 induction n with
 | zero => rfl
 | succ n h => simp [left, h]
def iZ (listed : Array Bool) : Nat → Bool := fun i => listed.getD i false
theorem PB {x y : Option (Nat × Nat × Nat × Nat)} (h : Qy x y = true) : x = y := by
 unfold Qy at h
 split at h
 ·rfl
 ·simp only [yc] at h
  obtain ⟨⟨⟨h1, h2⟩, A⟩, z⟩ := h
  rw [cY.1 h1, cY.1 h2, cY.1 A, cY.1 z]
 ·cases h
theorem K5 : ∀ {x y : List (Option (Nat × Nat × Nat × Nat))}, Ob x y = true → x = y
 | [], [], _ => rfl
 | x :: xs, y :: ys, h => by
  simp only [Ob, yc] at h
  rw [PB h.1, K5 h.2]
 | [], _ :: _, h => by cases h
 | _ :: _, [], h => by cases h
theorem Lj {x y : Option (Nat × Nat × List (Option (Nat × Nat × Nat × Nat)))} (h : GX x y = true) : x = y := by
 unfold GX at h
 split at h
 ·simp only [yc] at h
  obtain ⟨⟨h1, h2⟩, z⟩ := h
  rw [cY.1 h1, cY.1 h2, K5 z]
 ·cases h
theorem oE {b : Nat} {V : Option (Nat × Nat × List (Option (Nat × Nat × Nat × Nat)))} : ∀ {wr : List (Nat × d8)} {m : a9}, (∀ q ∈ wr, q.1 = b → g8 q.2 = V) → bB m b = V → bB (aQ m wr) b = V
 | [], m, _, h => h
 | (c, x) :: wr, m, A, h => by
  unfold aQ
  refine oE (fun q H => A q (yk _ H)) ?_
  by_cases z : c = b
  ·subst z
   by_cases hl : c < m.length
   ·unfold bB
    rw [yf1 hl]
    exact A (c, x) (yn ..) rfl
   ·rw [List.set_eq_of_length_le (by omega)]; exact h
  ·unfold bB
   rw [yg1 z]
   exact h
theorem vW {b : Nat} {V : Option (Nat × Nat × List (Option (Nat × Nat × Nat × Nat)))} {e : kN} {d : Option Tmp} {st : St} (z : b < st.mem.length) (A : ∀ q ∈ e.wr, q.1 = b → g8 q.2 = V) (h : bB st.mem b = V) : bB (e.app d st).mem b = V := by
 have h1 := oE A h
 unfold kN.app
 simp only
 unfold bB at h1 ⊢
 rw [yq (by rw [bP]; exact z)]
 exact h1
theorem lX {b : Nat} {V : Option (Nat × Nat × List (Option (Nat × Nat × Nat × Nat)))} {D : Nat → Bool} : ∀ {l : List (Oper × kN)} {i : Nat} {st : St}, b < st.mem.length → (∀ p ∈ l, ∀ q ∈ p.2.wr, q.1 = b → g8 q.2 = V) → bB st.mem b = V → bB (cC D i l st).mem b = V
 | [], i, st, _, _, h => h
 | (o, e) :: l, i, st, H, A, h => by
  simp only [cC]
  cases hD : D i with
  | true =>
   exact lX (by rw [yg, s3]; omega) (fun p z => A p (yk _ z)) (vW H (A (o, e) (yn ..)) h)
  | false => exact lX H (fun p z => A p (yk _ z)) h
theorem Eh {b : Nat} {all : List Tr} (H : ∀ u ∈ all, b ∉ u.wr ∨ u.wk b = true) : ∀ {l : List (Oper × kN)} {i rs : Nat} {st : St}, Bu P C an rid ops i rs st l → (∀ p ∈ l, ∀ t, p.2.tr = some t → t ∈ all) → b < st.mem.length →
  ∀ p ∈ l, ∀ q ∈ p.2.wr, q.1 = b → g8 q.2 = bB st.mem b
 | [], i, rs, st, _, _, _, p, J => by cases J
 | (o, e) :: l, i, rs, st, V, hm, W, p, J => by
  cases V with
  | cons _ _ _ _ _ _ h U =>
  have z : ∀ q ∈ e.wr, q.1 = b → g8 q.2 = bB st.mem b := by
   intro q K A
   cases h with
   | run out N ho Y =>
    rcases H _ (hm (o, _) (yn ..) _ rfl) with h1 | h1
    ·exfalso
     apply h1
     have : b ∈ out.wr.map (·.1) := yc3.2 ⟨q, K, A⟩
     simp only [eM.tr]
     cases d9 o.op with
     | true => exact yk _ this
     | false => exact this
    ·have h1 : oO st.mem out.wr b = true := h1
     unfold oO at h1
     have := yx.1 h1 q K
     simp only [yc2, yy] at this
     rcases this with h2 | h2
     ·exact absurd A (fun e => by rw [e, ys3] at h2; cases h2)
     ·exact Lj h2
   | skip j O d Y hd h => cases K
  rcases yq1.1 J with rfl | J
  ·exact z
  ·intro q K A
   have M : b < (e.app o.dst st).mem.length := by rw [s3]; omega
   rw [Eh H U (fun p J => hm p (yk _ J)) M p J q K A]
   exact vW W z rfl
structure Fz (P : Program) (C : bZ) (an : mR) (rid : Nat) (ops : Array Oper) (L : Nat) (lF : St) (l : List (Oper × kN)) (all : List Tr) : Prop where
 map : l.map (·.1) = ops.toList
 len : lF.mem.length = L
 one : yL l
 step : ∀ (j : Nat) (o : Oper) (e : kN), l[j]? = some (o, e) → ∃ rs, jE P C an rid ops o j rs (cC (fun k => Nat.blt k j) 0 l lF) e
 mate : ∀ (i j : Nat) (o o' : Oper) (e e' : kN), i ≠ j → l[i]? = some (o, e) → l[j]? = some (o', e') → d7 (Ao ops.toList []) i j = false →
  N8 L o.dst o'.dst e e' ∧ Cb (Nu ops o) (Pi L all e) L o' e' ∧ (e'.push ≠ [] → mG o = false)
 back : iM ops.toList 0 = true
 const : ∀ b, Kg L all b = true → ∀ D, bB (cC D 0 l lF).mem b = bB lF.mem b
theorem Mc {lF : St} {l : List (Oper × kN)} {rs L : Nat} (hmap : l.map (·.1) = ops.toList) (hc : Bu P C an rid ops 0 rs lF l) (hlen : lF.mem.length = L) (hd : GH ops L ((l.filterMap (·.2.tr)).reverse) = true) :
  Fz P C an rid ops L lF l ((l.filterMap (·.2.tr)).reverse) := by
 generalize hall : (l.filterMap (·.2.tr)).reverse = all at hd ⊢
 unfold GH at hd
 simp only [yc] at hd
 obtain ⟨⟨⟨hback, htrs⟩, hpush⟩, W⟩ := hd
 have H : ∀ (j : Nat) (o : Oper) (e : kN), l[j]? = some (o, e) → ∃ rs, jE P C an rid ops o j rs (cC (fun k => Nat.blt k j) 0 l lF) e := by
  intro j o e O
  have := hc.get O
  simpa using this
 have hop : ∀ (j : Nat) (o : Oper) (e : kN), l[j]? = some (o, e) → ops[j]? = some o := by
  intro j o e O
  have : (l.map (·.1))[j]? = some o := by rw [yh1, O]; rfl
  rw [hmap, yk1] at this; exact this
 have hpw := q8 htrs
 rw [List.pairwise_map] at hpw
 conv at hpw => arg 2; rw [← hall]
 rw [List.pairwise_reverse, List.pairwise_filterMap] at hpw
 have hrel : ∀ (i j : Nat) (o U : Oper) (e K : kN), i ≠ j → l[i]? = some (o, e) → l[j]? = some (U, K) → ∀ t A, e.tr = some t → K.tr = some A → F4 (Ao ops.toList []) L (Fi L all t) (Fi L all A) := by
  intro i j o U e K J hi O t A ht z
  obtain ⟨hil, hi2⟩ := yh.1 hi
  obtain ⟨hjl, hj2⟩ := yh.1 O
  rw [List.pairwise_iff_getElem] at hpw
  rcases Nat.lt_or_gt_of_ne J with h | h
  ·exact (hpw i j hil hjl h t (by rw [hi2]; exact ht) A (by rw [hj2]; exact z)).symm
  ·exact hpw j i hjl hil h A (by rw [hj2]; exact z) t (by rw [hi2]; exact ht)
 have hone2 : ∀ (i j : Nat) (o U : Oper) (e K : kN), i ≠ j → l[i]? = some (o, e) → l[j]? = some (U, K) → e.push = [] ∨ K.push = [] := by
  intro i j o U e K J hi O
  by_cases h1 : e.push = []
  ·exact .inl h1
  ·by_cases h2 : K.push = []
   ·exact .inr h2
   ·obtain ⟨rs1, hs1⟩ := H i o e hi
    obtain ⟨rs2, hs2⟩ := H j U K O
    obtain ⟨t, ht, hp⟩ := hs1.facts.2.1 h1
    obtain ⟨A, z, hp'⟩ := hs2.facts.2.1 h2
    exact ((hrel i j o U e K J hi O t A ht z).push (by rw [iK.2.2]; exact hp) (by rw [iK.2.2]; exact hp')).elim
 refine ⟨hmap, hlen, ?_, H, ?_, hback, ?_⟩
 ·unfold yL
  rw [List.pairwise_iff_getElem]
  intro i j hi O hlt
  exact hone2 i j l[i].1 l[j].1 l[i].2 l[j].2 (by omega) (yd hi) (yd O)
 ·intro i j o U e K J hi O hun
  obtain ⟨rs1, hs1⟩ := H i o e hi
  obtain ⟨rs2, hs2⟩ := H j U K O
  obtain ⟨f1, f2, f3⟩ := hs1.facts
  obtain ⟨g1, g2, g3⟩ := hs2.facts
  have hoi := hop i o e hi
  have hoj := hop j U K O
  have hin : i < ops.size := (ys2.1 hoi).1
  have hjn : j < ops.size := (ys2.1 hoj).1
  have M : ∀ t A, e.tr = some t → K.tr = some A → _ := fun t A ht z => (hrel i j o U e K J hi O t A ht z).far (by rw [iK.1, iK.1, f3 t ht, g3 A z]; exact hun)
  -- slots
  have hsl : (∀ d, o.dst = some d → d ∉ U.looksAt ops) ∧ (∀ d, o.dst = some d → U.dst ≠ some d) ∧ (∀ d, U.dst = some d → d ∉ o.looksAt ops) := by
   rcases Nat.lt_or_gt_of_ne J with h | h
   ·rcases pE W (Nat.zero_le _) h (by omega) with Y | Y
    ·rw [hun] at Y; cases Y
    ·unfold yN at Y
     rw [hoi, hoj] at Y
     exact Oper.apart_spec Y
   ·rcases pE W (Nat.zero_le _) h (by omega) with Y | Y
    ·rw [p0, hun] at Y; cases Y
    ·unfold yN at Y
     rw [hoi, hoj] at Y
     obtain ⟨a1, a2, a3⟩ := Oper.apart_spec Y
     exact ⟨a3, fun d hd hd' => a2 d hd' hd, a1⟩
  refine ⟨⟨hsl.2.1, fun q hq q' hq' => ?_, hone2 i j o U e K J hi O, fun hp q hq => ?_, fun hp q hq => ?_⟩, ⟨fun d hd hS => hsl.2.2 d hd hS, fun q hq hF => ?_, fun hp b hF => ?_⟩, fun hp => ?_⟩
  ·obtain ⟨t, ht, hm⟩ := f1 q hq
   obtain ⟨A, z, Z⟩ := g1 q' hq'
   intro he
   exact (M t A ht z).2.2.1 _ (by rw [iK.2.1]; exact hm) (by rw [iK.2.1, he]; exact Z)
  ·obtain ⟨t, ht, V⟩ := f2 hp
   obtain ⟨A, z, Z⟩ := g1 q hq
   exact ((M t A ht z).2.2.2.1 (by rw [iK.2.2]; exact V)).2 _ (by rw [iK.2.1]; exact Z)
  ·obtain ⟨A, z, V⟩ := g2 hp
   obtain ⟨t, ht, hm⟩ := f1 q hq
   exact ((M t A ht z).2.2.2.2 (by rw [iK.2.2]; exact V)).2 _ (by rw [iK.2.1]; exact hm)
  ·obtain ⟨A, z, Z⟩ := g1 q hq
   obtain ⟨t, ht, N⟩ := hF
   obtain ⟨k1, k2, k3, _⟩ := M t A ht z
   rcases N with N | N
   ·exact k2 _ N (by rw [iK.2.1]; exact Z)
   ·exact k3 _ (by rw [iK.2.1]; exact N) (by rw [iK.2.1]; exact Z)
  ·obtain ⟨A, z, V⟩ := g2 hp
   obtain ⟨t, ht, N⟩ := hF
   obtain ⟨k1, k2⟩ := (M t A ht z).2.2.2.2 (by rw [iK.2.2]; exact V)
   rcases N with N | N
   ·exact k1 _ N
   ·exact k2 _ (by rw [iK.2.1]; exact N)
  ·obtain ⟨A, z, V⟩ := g2 hp
   have hmem : A ∈ all := by
    rw [← hall, List.mem_reverse, List.mem_filterMap]
    exact ⟨(U, K), yj O, z⟩
   have hnc := D9 hpush A hmem V
   rw [g3 A z] at hnc
   have := Bj (j := i) hnc (by rw [yk1]; exact hoi)
   rw [yj1] at this
   rcases this with h | h | h
   ·exact absurd h.symm J
   ·rw [p0, hun] at h; cases h
   ·exact h
 ·intro b N D
  unfold Kg at N
  simp only [yc] at N
  have hbL : b < lF.mem.length := by
   have := N.1; simp [Nat.blt] at this; omega
  have hall2 : ∀ u ∈ all, b ∉ u.wr ∨ u.wk b = true := by
   intro u hu
   have := yx.1 N.2 u hu
   simp only [yc2, yy] at this
   rcases this with h | h
   ·left; intro hm; rw [oH.2 hm] at h; cases h
   ·exact .inr h
  exact lX hbL (Eh hall2 hc (fun p hp t ht => by rw [← hall, List.mem_reverse, List.mem_filterMap]; exact ⟨p, hp, ht⟩) hbL) rfl
theorem Hj {z : Array Bool} {i j : Nat} (A : i < z.size) : (z.setIfInBounds i true).getD j false = (if j = i then true else z.getD j false) := by
 by_cases h : j = i
 ·subst h
  rw [if_pos rfl, ym, Array.getElem?_setIfInBounds_self_of_lt A]; rfl
 ·rw [if_neg h, ym, Array.getElem?_setIfInBounds_ne (fun e => h e.symm), ← ym]
theorem LL (hC : jC P C) {L : Nat} {lF : St} {l : List (Oper × kN)} {all : List Tr} (hF : Fz P C an rid ops L lF l all) {G0 : Gh} {w0 : World} {old : List (Option Bool)} {Q : Exit → Act → World → Prop}
  (hQ : ∀ G w a, SR G w (cC (fun _ => true) 0 l lF) a → GN G0 w0 old G w → Q .normal a w) :
  ∀ (fuel : Nat) (z : Array Bool) (G : Gh) (w : World) (a : Act), z.size = ops.size → A0 ops (iZ z) → left (iZ z) ops.size = fuel → SR G w (cC (iZ z) 0 l lF) a → GN G0 w0 old G w →
   wpAny P .any ops Q fuel z a w := by
 have hll : l.length = ops.size := by rw [← ye2 (f := (·.1)) (as := l), hF.map]; simp
 intro fuel
 induction fuel with
 | zero =>
  intro z G w a hsz hcl O hS hI
  have hall := Fv O
  refine ⟨?_, hQ G w a ?_ hI⟩
  ·apply List.eq_nil_iff_forall_not_mem.2
   intro j hj
   obtain ⟨h1, o, ho, _⟩ := mem_ready.1 hj
   have hjn := (ys2.1 ho).1
   have := hall j hjn
   unfold iZ at this
   rw [ym, yn1 (by omega)] at this h1
   simp only [Option.getD_some] at this h1
   rw [this] at h1; cases h1
  ·rw [← nH (D := iZ z) (D' := fun _ => true) (fun k _ K => hall k (by omega))]; exact hS
 | succ fuel ih =>
  intro z G w a hsz hcl O hS hI
  have U : ∀ i, i < ops.size → z.getD i true = iZ z i := by
   intro i hi
   unfold iZ
   rw [ym, ym, yn1 (by omega)]; rfl
  refine ⟨fun hnil => ?_, fun i hi => ?_⟩
  ·obtain ⟨i, W, hid, hmin⟩ := Lf (IC (D := iZ z) (n := ops.size) (by omega))
   have : i ∈ Region.ready .any ops z := by
    refine mem_ready.2 ⟨by rw [U i W]; exact hid, ops[i], yn1 W, fun e he N => ?_⟩
    refine hmin e.on ?_
    have := n8 (j := i) hF.back (by rw [yk1]; exact yn1 W)
    rw [yj1] at this
    exact q5 this e (by simpa using he) N
   rw [hnil] at this; cases this
  ·obtain ⟨h1, o, ho, hpre⟩ := mem_ready.1 hi
   have W := (ys2.1 ho).1
   rw [U i W] at h1
   obtain ⟨e, hle⟩ : ∃ e, l[i]? = some (o, e) := by
    have hi2 : i < l.length := by omega
    have : (l.map (·.1))[i]? = some o := by rw [hF.map, yk1]; exact ho
    rw [yh1, yd hi2] at this
    exact ⟨l[i].2, by rw [yd hi2]; simp at this; rw [← this]⟩
   let D := iZ z
   let D1 := iZ (z.setIfInBounds i true)
   have hD1 : ∀ j, D1 j = if j = i then true else D j := fun j => Hj (by omega)
   have hD1i : D1 i = true := by rw [hD1, if_pos rfl]
   have M : ∀ j, j ≠ i → D1 j = D j := fun j hj => by rw [hD1, if_neg hj]
   have hcl1 : A0 ops D1 := by
    intro j o' hj e' he N hd
    by_cases hji : j = i
    ·subst hji
     rw [ho] at hj; obtain rfl := yb hj
     have := hpre e' he N
     rw [hD1]; split
     ·rfl
     ·exact this
    ·rw [M j hji] at hd
     have := hcl j o' hj e' he N hd
     rw [hD1]; split
     ·rfl
     ·exact this
   -- what differs stands apart
   have hun1 : ∀ k, D k = true → i < k → d7 (Ao ops.toList []) i k = false := by
    intro k K hik
    cases A : d7 (Ao ops.toList []) i k with
    | false => rfl
    | true =>
     unfold d7 at A
     rw [yc2] at A
     rcases A with A | A
     ·have := (yX hF.back A).2 D hcl K
      rw [show D i = false from h1] at this; cases this
     ·have := (yX hF.back A).1; omega
   have hun2 : ∀ k, D k = false → k < i → d7 (Ao ops.toList []) i k = false := by
    intro k K hik
    cases A : d7 (Ao ops.toList []) i k with
    | false => rfl
    | true =>
     unfold d7 at A
     rw [yc2] at A
     rcases A with A | A
     ·have := (yX hF.back A).1; omega
     ·have := (yX hF.back A).2 D1 hcl1 hD1i
      rw [M k (by omega), K] at this; cases this
   have hdiff : ∀ k, (Nat.blt k i) ≠ D k → d7 (Ao ops.toList []) i k = false ∧ k ≠ i := by
    intro k H
    rcases Nat.lt_trichotomy k i with h | h | h
    ·have N : Nat.blt k i = true := by simp [Nat.blt]; omega
     rw [N] at H
     have K : D k = false := by cases hh : D k with | false => rfl | true => rw [hh] at H; exact absurd rfl H
     exact ⟨hun2 k K h, by omega⟩
    ·subst h
     have N : Nat.blt k k = false := by cases N : Nat.blt k k with | false => rfl | true => simp [Nat.blt] at N; omega
     rw [N, show D k = false from h1] at H; exact absurd rfl H
    ·have N : Nat.blt k i = false := by cases N : Nat.blt k i with | false => rfl | true => simp [Nat.blt] at N; omega
     rw [N] at H
     have K : D k = true := by cases hh : D k with | true => rfl | false => rw [hh] at H; exact absurd rfl H
     exact ⟨hun1 k K h, by omega⟩
   obtain ⟨rs, hstep⟩ := hF.step i o e hle
   have hagree : rJ (Nu ops o) (Pi L all e) (cC (fun k => Nat.blt k i) 0 l lF) (cC D 0 l lF) := by
    refine mC (L := L) (.inl hF.len) (.inl hF.len) hF.one (fun k o' e' K H => ?_) ⟨fun _ _ => rfl, fun _ _ => rfl⟩
    rw [yj1] at H
    obtain ⟨hu, hki⟩ := hdiff k H
    exact (hF.mate i k o o' e e' (fun h => hki h.symm) hle K hu).2.1
   have hlens : mG o = true → (cC D 0 l lF).mem.length = (cC (fun k => Nat.blt k i) 0 l lF).mem.length := by
    intro hcall
    refine CP rfl (fun k o' e' K hp => ?_)
    rw [yj1]
    by_cases heq : Nat.blt k i = D k
    ·exact heq
    ·obtain ⟨hu, hki⟩ := hdiff k heq
     have := (hF.mate i k o o' e e' (fun h => hki h.symm) hle K hu).2.2 hp
     rw [this] at hcall; cases hcall
   obtain ⟨e1, hstep1, hv1, hw1, hp1⟩ := hstep.agree hagree hlens (fun t b ht hc _ _ => (hF.const b hc D).trans (hF.const b hc _).symm)
   have V := hstep1.one
   have happ : e1.app o.dst (cC D 0 l lF) = e.app o.dst (cC D 0 l lF) := by unfold kN.app; rw [hv1, hw1, hp1]
   rw [happ] at V
   -- and afterwards
   have hafter : e.app o.dst (cC D 0 l lF) = cC D1 0 l lF := by
    have hil : i < l.length := by omega
    have hel : l[i] = (o, e) := by
     rw [yd hil] at hle; exact yb hle
    have J : l = l.take i ++ (o, e) :: l.drop (i + 1) := by
     rw [← hel, ← List.drop_eq_getElem_cons hil, List.take_append_drop]
    have htl : (l.take i).length = i := by simp; omega
    have Z := hF.one
    unfold yL at Z
    rw [J, List.pairwise_append, List.pairwise_cons] at Z
    obtain ⟨ho1, ⟨ho2, ho3⟩, ho4⟩ := Z
    generalize N : l.drop (i + 1) = b at J ho2 ho3 ho4
    generalize ha : l.take i = Y at J ho1 ho4 htl
    rw [J, pN, pN, yj1, htl]
    have hpre' : cC D1 0 Y lF = cC D 0 Y lF := nH (fun k _ K => by rw [yj1, htl] at K; exact M k (by omega))
    rw [hpre']
    simp only [cC]
    rw [show D i = false from h1, hD1i]
    simp only [yg, ye]
    rw [nH (D := D1) (D' := D) (l := b) (fun k K _ => M k (by omega))]
    refine (Ct (L := L) ?_ ho3 (fun q hq => ho2 q hq) (fun k o' e' K hd => ?_)).symm
    ·by_cases hp : n7 Y
     ·left
      have : (cC D 0 Y lF).mem.length = (cC (fun _ => false) 0 Y lF).mem.length := CP rfl (fun k o' e' K hp' => absurd (hp (o', e') (yj K)) hp')
      rw [this, pV (fun _ _ => rfl)]; exact hF.len
     ·right
      have : ∃ q ∈ Y, q.2.push ≠ [] := by
       apply Classical.byContradiction
       intro hno
       exact hp fun q hq => Classical.byContradiction fun H => hno ⟨q, hq, H⟩
      obtain ⟨q, hq, hqp⟩ := this
      exact ⟨(ho4 q hq (o, e) (yn ..)).resolve_left hqp, fun q' hq' => (ho4 q hq q' (yk _ hq')).resolve_left hqp⟩
    ·have hk' : l[i + 1 + k]? = some (o', e') := by
      rw [← N, yd1] at K; exact K
     exact (hF.mate i (i + 1 + k) o o' e e' (by omega) hle hk' (hun1 _ hd (by omega))).1
   refine V.sound hC ho hS _ _ (fun G' w' a' hg he hS' => ?_)
   rw [hafter] at hS'
   refine ih (z.setIfInBounds i true) G' w' a' (by simpa using hsz) hcl1 ?_ hS' (hI.step hg he)
   have := (Hw (D := D) (D' := D1) h1 hD1i M (n := ops.size)).1 W
   have h2 : left D ops.size = fuel + 1 := O
   show left D1 ops.size = fuel
   omega
theorem La (hm : P.follows .mixedOrders = true) (hC : jC P C) (an : mR) : Cm P C an := by
 intro R rid ops st k r G0 w0 old G w a Q h hS hI Y
 unfold pJ at h
 obtain ⟨l, J, V, z⟩ := Eu h
 rw [yu1] at z
 rw [aB] at z
 obtain ⟨A, z⟩ := z
 simp only [yw, yl3] at A
 have hF := Mc (L := st.mem.length + nK ops.toList) J V (by simp) A
 have H : Ev G w w.drew := Ev.drew G w
 have O : SR G w.drew { st with mem := st.mem ++ List.replicate (nK ops.toList) none } a := by
  have K := hS.widen (nK ops.toList)
  exact ⟨K.memr.ev H (.inl rfl) (fun B _ => rfl), K.len, fun j x hx => (K.tmps j x hx).imp id (fun h => h.mono (eA.refl G) H), K.defers⟩
 refine wp_region_any hm ?_
 refine LL hC hF (G0 := G0) (w0 := w0) (old := old) (fun Z U W N M => Y _ Z U W z N.trim M) ops.size (Array.replicate ops.size false) G w.drew a (by simp) ?_ ?_ ?_ (hI.step (eA.refl G) H)
 ·intro j o ho e he hb A
  unfold iZ at A
  rw [ym, yj3] at A
  split at A <;> simp at A
 ·have : left (iZ (Array.replicate ops.size false)) ops.size = left (fun _ => false) ops.size := by
   congr 1
   funext i
   unfold iZ
   rw [ym, yj3]
   split <;> rfl
  rw [this, Mn]
 ·rw [pV]
  ·exact O
  ·intro k _
   unfold iZ
   rw [ym, yj3]
   split <;> rfl
end
end Go.Ab
end
