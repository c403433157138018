/- The evaluator. -/
import Derived.Test.YtdlbbdbbpoggfaaGreatDoorLib2
set_option linter.unusedVariables false
set_option linter.unusedSectionVars false
set_option linter.unusedSimpArgs false
section
namespace Go.Ab
variable [cD]
def j8 (f : lI) (mem : a9) (a : Nat) (x : d8) : d8 :=
 { gen := (match mY mem a with | some h => bif x.row.isCells then h else h + 1 | none => 0), frz := x.frz, row := x.row.ren f }
theorem bQ : ∀ {wr : List (Nat × d8)} {mem : a9}, (aP mem wr).length = mem.length
 | [], mem => rfl
 | (b, x) :: r, mem => by rw [aP, bQ]; simp
theorem mO {f : lI} {mem : a9} : ∀ {ids : List Nat} {q z : a9} {b : Nat}, (∀ (j : Nat) (y : d8), ids[j]? = some b → q[j]? = some (some y) → False) → (aP z (bF f mem ids q))[b]? = z[b]?
 | [], q, z, b, h => by simp [bF, aP]
 | a :: ids, [], z, b, h => by simp [bF, aP]
 | a :: ids, none :: q, z, b, h => by
  simp only [bF]
  exact mO (fun j y h1 h2 => h (j + 1) y (by simpa using h1) (by simpa using h2))
 | a :: ids, some x :: q, z, b, h => by
  simp only [bF, aP]
  rw [mO (ids := ids) (q := q) (fun j y h1 h2 => h (j + 1) y (by simpa using h1) (by simpa using h2))]
  rw [yg1 (fun e => h 0 x (by simp [e]) (by simp))]
theorem qV {f : lI} {mem : a9} : ∀ {ids : List Nat} {q z : a9} {b j : Nat} {y : d8}, dB ids = true → ids[j]? = some b → q[j]? = some (some y) → b < z.length →
  (aP z (bF f mem ids q))[b]? = some (some (j8 f mem b y))
 | [], q, z, b, j, y, _, h, _, _ => by simp at h
 | a :: ids, [], z, b, j, y, _, _, h, _ => by simp at h
 | a :: ids, none :: q, z, b, 0, y, _, _, h, _ => by simp at h
 | a :: ids, none :: q, z, b, j + 1, y, hn, h1, h2, A => by
  simp only [bF]
  simp only [dB, yc] at hn
  exact qV hn.2 (by simpa using h1) (by simpa using h2) A
 | a :: ids, some x :: q, z, b, 0, y, hn, h1, h2, A => by
  simp only [bF, aP]
  simp at h1 h2; subst h1 h2
  simp only [dB, yc, yy] at hn
  rw [mO (fun j y h1 _ => by rw [oI.2 (yj h1)] at hn; simp at hn), yf1 A]; rfl
 | a :: ids, some x :: q, z, b, j + 1, y, hn, h1, h2, A => by
  simp only [bF, aP]
  simp only [dB, yc] at hn
  exact qV hn.2 (by simpa using h1) (by simpa using h2) (by simpa using A)
theorem lF {f : lI} : ∀ {m : a9} {i : Nat}, (eH f m)[i]? = (m[i]?).map fun o => o.map fun x => { gen := 0, frz := x.frz, row := x.row.ren f }
 | [], i => by simp [eH]
 | some x :: r, 0 => by simp [eH]
 | none :: r, 0 => by simp [eH]
 | some x :: r, i + 1 => by simp [eH, lF (m := r)]
 | none :: r, i + 1 => by simp [eH, lF (m := r)]
theorem s1 {a b : List Nat} : vL a b = true → ∀ x ∈ a, x ∉ b := by
 induction a with
 | nil => simp
 | cons m r A =>
  intro h x hx z
  simp only [vL, yc, yy] at h
  rcases yq1.1 hx with rfl | hx
  ·rw [oI.2 z] at h; simp at h
  ·exact A h.2 x hx z
section
variable {P : Program}
def Ar (G : Gh) (w : World) (mem : a9) (ids : List Nat) (B : Nat) : Prop :=
 w.heap.size ≤ B ∨ ∃ (b : Nat) (x : d8) (L : wZ), b ∈ ids ∧ mem[b]? = some (some x) ∧ G.loc b x.gen = some L ∧ L.blk = some B
def Ld (G : Gh) (w : World) (mem : a9) (ids lent : List Nat) : Gh := { loc := vG G mem ids, prot := (G.lend (bH G mem lent)).prot, mine := Ar G w mem ids }
theorem Ar.mine {G : Gh} {w : World} {mem : a9} {ids : List Nat} {B : Nat} (hM : aT G w mem) (h : Ar G w mem ids B) : G.mine B := by
 rcases h with h | ⟨b, x, L, _, hx, hl, hB⟩
 ·exact hM.own B h
 ·exact hM.mine hx hl hB
theorem aT.blk_lt {G : Gh} {w : World} {mem : a9} (hM : aT G w mem) {b : Nat} {x : d8} {L : wZ} {B : Nat} (hx : mem[b]? = some (some x)) (hl : G.loc b x.gen = some L) (hB : L.blk = some B) : B < w.heap.size := by
 obtain ⟨o, h, hm⟩ := (hM.box b x hx).loc
 rw [hl] at h
 obtain rfl := yb h
 simp only at hB; subst hB
 exact hm.2.1
theorem aT.free {G : Gh} {w : World} {mem : a9} (hM : aT G w mem) {b : Nat} {x : d8} {L : wZ} {B : Nat} (hx : mem[b]? = some (some x)) (hf : x.frz = false) (hl : G.loc b x.gen = some L) (hB : L.blk = some B) : ∀ β o, ¬ G.prot β B o := by
 obtain ⟨o, h, hm⟩ := (hM.box b x hx).loc
 rw [hl] at h
 obtain rfl := yb h
 simp only at hB; subst hB
 exact hm.2.2.2.2 hf
theorem N2 {G : Gh} {w : World} {mem : a9} {ids lent : List Nat} (hM : aT G w mem) (hn : dB ids = true) (U : vL lent ids = true) : aT (Ld G w mem ids lent) w (eQ (fX mem ids) mem ids) := by
 refine E1 hM hn rfl (fun _ _ _ h => .inl h) (fun b x L B M hx hf hl hB β o K => ?_) (fun b x L B M hx hl hB => .inr ⟨b, x, L, M, hx, hl, hB⟩) (fun B h => .inl h) (fun B o h => ?_) (fun β B o h => ?_)
 ·rcases K with K | ⟨_, O, J, x', N, A, H, z⟩
  ·exact hM.free hx hf hl hB β o K
  ·have := hM.apart b O x x' L N B hx A hl H hB z
   subst this
   exact s1 U b J M
 ·rcases h with h | ⟨h, _⟩
  ·exact .inl (hM.lab B o h)
  ·cases h
 ·rcases h with h | ⟨_, O, J, x', N, A, H, z⟩
  ·exact hM.away β B o h
  ·exact hM.blk_lt A H z
def f6 (G G3 : Gh) (mem q : a9) (ids : List Nat) (len : Nat) : Nat → Nat → Option wZ := fun a g =>
 if a < mem.length then
  match rX a ids 0 with
  | some j => match q[j]? with
   | some (some y) => if g = (j8 (fun _ _ => none) mem a y).gen then G3.loc j 0 else G.loc a g
   | _ => G.loc a g
  | none => G.loc a g
 else if g = 0 ∧ ids.length + (a - mem.length) < len then G3.loc (ids.length + (a - mem.length)) 0 else none
theorem oX : ∀ {ids : List Nat} {b n j : Nat}, dB ids = true → ids[j]? = some b → rX b ids n = some (n + j)
 | [], b, n, j, _, h => by simp at h
 | m :: r, b, n, 0, _, h => by simp at h; subst h; simp [rX]
 | m :: r, b, n, j + 1, hn, h => by
  have A : m ≠ b := by
   rintro rfl
   have := wO (i := 0) (j := j + 1) hn (by simp) h
   omega
  simp only [dB, yc] at hn
  simp only [rX]
  have z : Nat.beq m b = false := by
   cases z : Nat.beq m b with
   | false => rfl
   | true => exact absurd (cX.1 z) A
  rw [z]; simp only [ye]
  rw [oX hn.2 (by simpa using h)]; congr 1; omega
theorem Hu {G U G4 : Gh} {w w' : World} {mem q sub : a9} {ids lent : List Nat} {r : AV} {cv qv : Value} {qr : AV} (hM : aT G w mem) (hn : dB ids = true) (hd : vL lent ids = true)
  (hR : Pa (Ld G w mem ids lent) w (eQ (fX mem ids) mem ids) (qr, q) U w' qv) (hlent : e8 lent = true ∨ (r.lent = false ∧ gL q = false))
  (hv : VR G4 w' r cv) (h4m : G4.mine = U.mine) (h4l : G4.loc = U.loc) (h4p : ∀ β B o, U.prot β B o → G4.prot β B o) (h4n : ∀ β B o, G4.prot β B o → U.prot β B o ∨ l7 U q sub.length B o) (h4lab : ∀ B o, G4.prot false B o → G4.prot true B o)
  (hsub : ∀ j : Nat, j < sub.length → sub[j]? = q[j]?) (hsl : ids.length ≤ sub.length) (hql : sub.length ≤ q.length) :
  ∃ G' : Gh, VR G' w' (r.ren (cG mem sub ids)) cv ∧ d9 G G' ∧ Ev G w w' ∧ aT G' w' (aP mem (bF (cG mem sub ids) mem ids q) ++ eH (cG mem sub ids) (sub.drop ids.length)) := by
 obtain ⟨hv3, hev, hmine3, hprot3, hnew3, hM3, W, hkept, hnones⟩ := hR
 simp only at hM3 W hkept hnones
 -- a box of ids
 have hq : ∀ {j a : Nat} {y : d8}, ids[j]? = some a → q[j]? = some (some y) → ∃ x, mem[a]? = some (some x) ∧ y.row.isCells = x.row.isCells ∧ (x.row.isCells = true → ∀ L, G.loc a x.gen = some L → U.loc j 0 = some L) := by
  intro j a y K A
  cases hx : mem[a]? with
  | none =>
   have := hnones j (by rw [eI, K]; simp [hx])
   rw [A] at this; cases this
  | some o =>
   cases o with
   | none =>
    have := hnones j (by rw [eI, K]; simp [hx])
    rw [A] at this; cases this
   | some x =>
    obtain ⟨y', O, hk, hl⟩ := hkept j { gen := 0, frz := x.frz, row := x.row.ren (fX mem ids) } (by rw [eI, K]; simp [hx])
    rw [A] at O
    obtain rfl : y = y' := by simpa using O
    simp only [eD] at hk hl
    refine ⟨x, rfl, hk, fun hc L hL => hl hc L ?_⟩
    simp [Ld, vG, K, lU.2 ⟨x, hx, rfl⟩, hL]
 have hq2 : ∀ {j a : Nat} {x : d8}, ids[j]? = some a → mem[a]? = some (some x) → ∃ y, q[j]? = some (some y) := by
  intro j a x K hx
  obtain ⟨y', O, _⟩ := hkept j { gen := 0, frz := x.frz, row := x.row.ren (fX mem ids) } (by rw [eI, K]; simp [hx])
  exact ⟨y', O⟩
 have hbgen : ∀ {a : Nat} {x y : d8} {f : lI}, mem[a]? = some (some x) → (j8 f mem a y).gen = (bif y.row.isCells then x.gen else x.gen + 1) := by
  intro a x y f hx
  simp [j8, lU.2 ⟨x, hx, rfl⟩]
 have hcome : ∀ B, U.mine B → Ar G w mem ids B := fun B h => by rw [hmine3] at h; exact h
 have hEv : Ev G w w' := ⟨hev.size, hev.out, hev.os, fun B hB hm => hev.away B hB (fun h => hm (Ar.mine hM h)), hev.some, fun β B o h => hev.prot β B o (.inl h), hev.fz, hev.tape⟩
 -- the protection
 let pr : Bool → Nat → Nat → Prop := fun β B o => if β = true then (if e8 lent = true then G4.prot true B o else G.prot true B o ∨ G4.prot false B o) else G4.prot false B o
 have hnb4 : ∀ β B o, G4.prot β B o → U.prot β B o ∨ Ar G w mem ids B := fun β B o h => (h4n β B o h).imp id (by rintro ⟨b, x, L, _, hx, hl, hB⟩; exact hcome B (hM3.mine hx hl hB))
 have hsem : ∀ B o, e8 lent = true → ¬ bH G mem lent B o := by
  rintro B o he ⟨b, hb, _⟩
  rw [mM he] at hb; cases hb
 have hprle : ∀ β B o, pr β B o → (∃ β', G.prot β' B o) ∨ Ar G w mem ids B := by
  intro β B o h
  have h3 : ∀ β, (β = true → e8 lent = true) → G4.prot β B o → (∃ β', G.prot β' B o) ∨ Ar G w mem ids B := by
   intro β hβ h
   rcases hnb4 β B o h with h | h
   ·rcases hnew3 β B o h with h | h
    ·rcases h with h | ⟨h, h'⟩
     ·exact .inl ⟨_, h⟩
     ·exact absurd h' (hsem B o (hβ h))
    ·exact .inr h
   ·exact .inr h
  simp only [pr] at h
  split at h
  ·split at h
   ·rename_i he; exact h3 true (fun _ => he) h
   ·rcases h with h | h
    ·exact .inl ⟨_, h⟩
    ·exact h3 false (fun h => by cases h) h
  ·exact h3 false (fun h => by cases h) h
 have hG4 : ∀ β B o, G.prot β B o → G4.prot β B o := fun β B o h => h4p β B o (hprot3 β B o (.inl h))
 have hprG : ∀ β B o, G.prot β B o → pr β B o := by
  intro β B o h
  simp only [pr]
  cases β with
  | true => simp only [if_true]; split; exact hG4 _ _ _ h; exact .inl h
  | false => simp only [yf2, if_false]; exact hG4 _ _ _ h
 have hpr4 : ∀ β B o, pr β B o → ∃ β', G4.prot β' B o := by
  intro β B o h
  simp only [pr] at h
  split at h
  ·split at h
   ·exact ⟨_, h⟩
   ·rcases h with h | h
    ·exact ⟨_, hG4 _ _ _ h⟩
    ·exact ⟨_, h⟩
  ·exact ⟨_, h⟩
 have hprnew : ∀ β B o, pr β B o → G.prot β B o ∨ G.mine B := by
  intro β B o h
  have h3 : ∀ β, (β = true → e8 lent = true) → G4.prot β B o → G.prot β B o ∨ G.mine B := by
   intro β hβ h
   rcases hnb4 β B o h with h | h
   ·rcases hnew3 β B o h with h | h
    ·rcases h with h | ⟨h, h'⟩
     ·exact .inl h
     ·exact absurd h' (hsem B o (hβ h))
    ·exact .inr (Ar.mine hM h)
   ·exact .inr (Ar.mine hM h)
  simp only [pr] at h
  split at h
  ·rename_i hβ; subst hβ
   split at h
   ·rename_i he; exact h3 true (fun _ => he) h
   ·rcases h with h | h
    ·exact .inl h
    ·rcases h3 false (fun h => by cases h) h with h | h
     ·exact .inl (hM.lab _ _ h)
     ·exact .inr h
  ·rename_i hβ
   have : β = false := by simpa using hβ
   subst this
   exact h3 false (fun h => by cases h) h
 let G' : Gh := { mine := G.mine, prot := pr, loc := f6 G U mem q ids sub.length }
 have N : (aP mem (bF (cG mem sub ids) mem ids q)).length = mem.length := bQ
 -- where boxes stand
 have lB : ∀ {j a : Nat} {y : d8} {f : lI}, ids[j]? = some a → q[j]? = some (some y) → G'.loc a (j8 f mem a y).gen = U.loc j 0 := by
  intro j a y f K A
  obtain ⟨x, hx, _⟩ := hq K A
  have J : a < mem.length := (yh.1 hx).1
  show f6 G U mem q ids sub.length a _ = _
  unfold f6
  rw [if_pos J, oX hn K]
  simp only [yj1, A]
  rw [if_pos (by rfl)]
 have lO : ∀ {a g : Nat}, a < mem.length → a ∉ ids → G'.loc a g = G.loc a g := by
  intro a g J M
  show f6 G U mem q ids sub.length a g = _
  unfold f6
  rw [if_pos J]
  cases hi : rX a ids 0 with
  | none => rfl
  | some j =>
   obtain ⟨i, rfl, K⟩ := zZ hi
   exact absurd (yj K) M
 have lN : ∀ {i : Nat}, ids.length + i < sub.length → G'.loc (mem.length + i) 0 = U.loc (ids.length + i) 0 := by
  intro i hi
  show f6 G U mem q ids sub.length (mem.length + i) 0 = _
  unfold f6
  rw [if_neg (by omega), yk3, if_pos ⟨rfl, hi⟩]
 have hGle : d9 G G' := by
  refine ⟨rfl, hprG, fun a g L hL => ?_, hprnew⟩
  by_cases J : a < mem.length
  ·show f6 G U mem q ids sub.length a g = _
   unfold f6
   rw [if_pos J]
   cases hi : rX a ids 0 with
   | none => exact hL
   | some j =>
    obtain ⟨i, rfl, K⟩ := zZ hi
    simp only [yj1]
    split
    ·rename_i y A
     split
     ·rename_i hg
      obtain ⟨x, hx, hk, hc⟩ := hq K A
      rw [hbgen hx] at hg
      cases hyc : y.row.isCells with
      | true => rw [hyc] at hg; simp only [yg] at hg; subst hg; exact hc (by rw [← hk]; exact hyc) L hL
      | false =>
       rw [hyc] at hg; simp only [ye] at hg; subst hg
       rw [hM.gens a x _ hx (Nat.lt_succ_self _)] at hL; cases hL
     ·exact hL
    ·exact hL
  ·rw [hM.unset a g (fun x hx => J (yh.1 hx).1)] at hL; cases hL
 -- renaming back
 have hren : Bw G4 G' (cG mem sub ids) := by
  intro b g p L V hL
  unfold cG at V
  cases hg : Nat.beq g 0 with
  | false => rw [hg] at V; simp at V
  | true =>
   rw [hg] at V; simp only [yg] at V
   obtain rfl := cX.1 hg
   rw [h4l] at hL
   split at V
   ·rename_i a J
    split at V
    ·rename_i y h' A hgen
     obtain rfl := yb V
     have hb : b < ids.length := (yh.1 J).1
     rw [hsub b (by omega)] at A
     have := lB (f := fun _ _ => none) J A
     simp only [j8, hgen] at this
     simp only
     rw [this]; exact hL
    ·simp at V
   ·rename_i hno
    cases hlt : Nat.blt b sub.length with
    | false => rw [hlt] at V; simp at V
    | true =>
     rw [hlt] at V; simp only [yg] at V
     obtain rfl := yb V
     have hb : b < sub.length := by simp [Nat.blt] at hlt; omega
     have hge := List.getElem?_eq_none_iff.1 hno
     have := lN (i := b - ids.length) (by omega)
     simp only
     rw [this, show ids.length + (b - ids.length) = b by omega]; exact hL
 have hp4 : ∀ {l : Bool}, l = e8 lent → ∀ β B o, (β = true → l = true) → G4.prot β B o → G'.prot β B o := by
  intro l hl β B o hβ h
  show pr β B o
  simp only [pr]
  cases β with
  | true => simp only [if_true]; rw [if_pos (by rw [← hl]; exact hβ rfl)]; exact h
  | false => simp only [yf2, if_false]; exact h
 have hren3 : Bw U G' (cG mem sub ids) := fun b g p L V hL => hren b g p L V (by rw [h4l]; exact hL)
 have hrowlent : ∀ {j : Nat} {y : d8}, q[j]? = some (some y) → sJ y.row = true → e8 lent = true := by
  intro j y A hl
  rcases hlent with h | ⟨_, h⟩
  ·exact h
  ·rw [nC A hl] at h; cases h
 -- a box of the callee's, at its new number
 have hbox : ∀ {j a g : Nat} {y : d8}, j < sub.length → q[j]? = some (some y) → G'.loc a g = U.loc j 0 → Pz G' w' a { gen := g, frz := y.frz, row := y.row.ren (cG mem sub ids) } := by
  intro j a g y hjs A Z
  have hg0 := W j y A
  have hby := hM3.box j y A
  obtain ⟨o, hl, hm⟩ := hby.loc
  refine ⟨by simp only [lK]; exact hby.e, o, by simp only [lK, iQ]; rw [Z, ← hg0]; exact hl, ?_⟩
  cases o with
  | none => simp only [iQ, eD]; exact hm
  | some B =>
   obtain ⟨h1, h2, h3, h4, h5⟩ := hm
   have hmB : G.mine B := Ar.mine hM (hcome B h1)
   refine ⟨hmB, h2, h3, h4.ren (l := e8 lent) hren3 (fun β B o hβ h => hp4 rfl β B o hβ (h4p β B o h)) (hrowlent A), fun hf β o V => ?_⟩
   obtain ⟨β', hp'⟩ := hpr4 β B o V
   rcases h4n β' B o hp' with hp' | ⟨b, x, L, hb, hx, hL, hB⟩
   ·exact h5 hf β' o hp'
   ·have := hM3.apart j b y x _ L B A hx hl hL rfl hB
    omega
 -- entries
 have hent : ∀ (a : Nat) (z : d8), (aP mem (bF (cG mem sub ids) mem ids q) ++ eH (cG mem sub ids) (sub.drop ids.length))[a]? = some (some z) →
   (a < mem.length ∧ a ∉ ids ∧ mem[a]? = some (some z)) ∨
   (∃ j y, j < sub.length ∧ q[j]? = some (some y) ∧ z = { gen := z.gen, frz := y.frz, row := y.row.ren (cG mem sub ids) } ∧ G'.loc a z.gen = U.loc j 0 ∧ ((∃ x, ids[j]? = some a ∧ mem[a]? = some (some x) ∧ x.gen ≤ z.gen) ∨ (∃ i, j = ids.length + i ∧ a = mem.length + i ∧ z.gen = 0))) := by
  intro a z H
  by_cases J : a < mem.length
  ·rw [yq (by rw [N]; exact J)] at H
   by_cases hi : ∃ (j : Nat) (y : d8), ids[j]? = some a ∧ q[j]? = some (some y)
   ·obtain ⟨j, y, K, A⟩ := hi
    rw [qV hn K A J] at H
    obtain rfl : j8 (cG mem sub ids) mem a y = z := by simpa using H
    obtain ⟨x, hx, hk, _⟩ := hq K A
    have hjl := (yh.1 K).1
    refine .inr ⟨j, y, by omega, A, rfl, lB K A, .inl ⟨x, K, hx, ?_⟩⟩
    rw [hbgen hx]
    cases y.row.isCells <;> simp
   ·rw [mO (fun j y h1 h2 => hi ⟨j, y, h1, h2⟩)] at H
    refine .inl ⟨J, fun hm => ?_, H⟩
    obtain ⟨j, K, rfl⟩ := yp1 hm
    obtain ⟨y, A⟩ := hq2 (yd K) H
    exact hi ⟨j, y, yd K, A⟩
  ·rw [yt (by rw [N]; omega), N, lF, yd1] at H
   obtain ⟨o, ho, H⟩ := yf.1 H
   cases o with
   | none => simp at H
   | some y =>
    simp only [yo, Option.some.injEq] at H
    have hjl := (yh.1 ho).1
    rw [hsub _ hjl] at ho
    refine .inr ⟨_, y, hjl, ho, by rw [← H], ?_, .inr ⟨a - mem.length, rfl, by omega, by rw [← H]⟩⟩
    have := lN hjl
    rw [show mem.length + (a - mem.length) = a by omega] at this
    rw [← H]; exact this
 have hblk : ∀ {j : Nat} {y : d8} {L : wZ} {B : Nat}, q[j]? = some (some y) → U.loc j 0 = some L → L.blk = some B → Ar G w mem ids B := by
  intro j y L B A hl hB
  rw [← W j y A] at hl
  exact hcome B (hM3.mine A hl hB)
 have hother : ∀ {a : Nat} {z : d8} {L : wZ} {B : Nat}, a ∉ ids → mem[a]? = some (some z) → G.loc a z.gen = some L → L.blk = some B → ¬ Ar G w mem ids B := by
  intro a z L B J H hl hB hc
  rcases hc with hc | ⟨b, x, L', hb, hx, Y, hB'⟩
  ·have := hM.blk_lt H hl hB; omega
  ·have := hM.apart a b z x L L' B H hx hl Y hB hB'
   subst this; exact J hb
 refine ⟨G', hv.ren (l := e8 lent) hren (hp4 rfl) (fun hl => ?_), hGle, hEv, ?_⟩
 ·rcases hlent with h | ⟨h, _⟩
  ·exact h
  ·rw [h] at hl; cases hl
 refine ⟨fun a z H => ?_, fun a g H => ?_, fun a z g H hlt => ?_, fun a a' z z' L L' B H hz' hl Y hk hk' => ?_, fun B hB => hM.own B (yt2 hEv.size hB), fun B o h => ?_, fun β B o h => ?_, hM.glob.mono (hGle.prot true) (hEv.prot true)⟩
 ·rcases hent a z H with ⟨J, M, H⟩ | ⟨j, y, hjs, A, hze, Z, _⟩
  ·have hbz := hM.box a z H
   obtain ⟨o, hl, hm⟩ := hbz.loc
   refine ⟨hbz.e, o, by rw [lO J M]; exact hl, ?_⟩
   cases o with
   | none => exact hm
   | some B =>
    obtain ⟨h1, h2, h3, h4, h5⟩ := hm
    have hnc := hother M H hl rfl
    have hh : w'.heap[B]? = w.heap[B]? := hev.away B h2 hnc
    refine ⟨h1, yn2 h2 hEv.size, h3.of_heap hh, h4.mono hGle hEv (fun o _ => iI hh o), fun hf β o V => ?_⟩
    rcases hprle β B o V with ⟨β', V⟩ | V
    ·exact h5 hf β' o V
    ·exact hnc V
  ·rw [hze]; exact hbox hjs A Z
 ·by_cases J : a < mem.length
  ·by_cases M : a ∈ ids
   ·obtain ⟨j, K, rfl⟩ := yp1 M
    have hjj := yd K
    cases A : q[j]? with
    | none =>
     have := hql; have := (List.getElem?_eq_none_iff.1 A); omega
    | some o =>
     cases o with
     | some y =>
      refine absurd ?_ (H (j8 (cG mem sub ids) mem ids[j] y))
      rw [yq (by rw [N]; exact J)]
      exact qV hn hjj A J
     | none =>
      show f6 G U mem q ids sub.length _ g = none
      unfold f6
      rw [if_pos J, oX hn hjj]
      simp only [yj1, A]
      refine hM.unset _ g (fun x hx => ?_)
      obtain ⟨y, O⟩ := hq2 hjj hx
      rw [A] at O; cases O
   ·rw [lO J M]
    refine hM.unset a g (fun x hx => H x ?_)
    rw [yq (by rw [N]; exact J), mO (fun j y h1 _ => M (yj h1))]; exact hx
  ·show f6 G U mem q ids sub.length a g = none
   unfold f6
   rw [if_neg J]
   split
   ·rename_i hc
    refine hM3.unset _ 0 (fun x hx => ?_)
    refine H { gen := 0, frz := x.frz, row := x.row.ren (cG mem sub ids) } ?_
    rw [yt (by rw [N]; omega), N, lF, yd1, hsub _ hc.2, hx]; rfl
   ·rfl
 ·rcases hent a z H with ⟨J, M, H⟩ | ⟨j, y, hjs, A, hze, Z, ⟨x, K, hx, hge⟩ | ⟨i, rfl, rfl, h0⟩⟩
  ·rw [lO J M]; exact hM.gens a z g H hlt
  ·have J : a < mem.length := (yh.1 hx).1
   have hloc' := lB (f := fun _ _ => none) K A
   show f6 G U mem q ids sub.length a g = none
   unfold f6
   rw [if_pos J, oX hn K]
   simp only [yj1, A]
   have hzg : z.gen = (j8 (fun _ _ => none) mem a y).gen := by
    have hz2 := H
    rw [yq (by rw [N]; exact J), qV hn K A J] at hz2
    obtain rfl : j8 (cG mem sub ids) mem a y = z := by simpa using hz2
    rfl
   rw [if_neg (by omega)]
   exact hM.gens a x g hx (by omega)
  ·show f6 G U mem q ids sub.length _ g = none
   unfold f6
   rw [if_neg (by omega), if_neg (by omega)]
 ·rcases hent a z H with ⟨J, M, H⟩ | ⟨j, y, hjs, A, hze, Z, hw⟩
  ·rw [lO J M] at hl
   rcases hent a' z' hz' with ⟨ha', hni', hz'⟩ | ⟨j', y', hjs', O, hze', hloc', hw'⟩
   ·rw [lO ha' hni'] at Y
    exact hM.apart a a' z z' L L' B H hz' hl Y hk hk'
   ·rw [hloc'] at Y
    exact absurd (hblk O Y hk') (hother M H hl hk)
  ·rw [Z] at hl
   rcases hent a' z' hz' with ⟨ha', hni', hz'⟩ | ⟨j', y', hjs', O, hze', hloc', hw'⟩
   ·rw [lO ha' hni'] at Y
    exact absurd (hblk A hl hk) (hother hni' hz' Y hk')
   ·rw [hloc'] at Y
    have hjj := hM3.apart j j' y y' L L' B A O (by rw [W j y A]; exact hl) (by rw [W j' y' O]; exact Y) hk hk'
    subst hjj
    rcases hw with ⟨x, K, _⟩ | ⟨i, hi, rfl, _⟩
    ·rcases hw' with ⟨x', hj', _⟩ | ⟨i', hi', rfl, _⟩
     ·rw [K] at hj'; exact yb hj'
     ·have := (yh.1 K).1; omega
    ·rcases hw' with ⟨x', hj', _⟩ | ⟨i', hi', rfl, _⟩
     ·have := (yh.1 hj').1; omega
     ·omega
 ·show pr true B o
  have h' : pr false B o := h
  simp only [pr, yf2, if_false] at h'
  simp only [pr, if_true]
  split
  ·exact h4lab B o h'
  ·exact .inr h'
 ·obtain ⟨β', hp'⟩ := hpr4 β B o h
  rcases h4n β' B o hp' with hp' | ⟨b, x, L, hb, hx, hL, hB⟩
  ·exact hM3.away β' B o hp'
  ·exact hM3.blk_lt hx hL hB
end
end Go.Ab
end
section
namespace Go.Ab
variable [cD]
section
variable {P : Program}
theorem pX.append {G : Gh} {w : World} {a b : List AV} {u v : Array Value} (h : pX G w a u) (A : pX G w b v) : pX G w (a ++ b) (u ++ v) := by
 refine ⟨by simp [h.1, A.1], fun j y z => ?_⟩
 by_cases H : j < a.length
 ·rw [yq H] at z
  have := h.2 j y z
  rw [ym, yz2 (by rw [← h.1]; exact H), ← ym]; exact this
 ·rw [yt (by omega)] at z
  have := A.2 _ y z
  rw [ym, Array.getElem?_append_right (by rw [← h.1]; omega), ← h.1, ← ym]; exact this
theorem pX.renAll {G z : Gh} {w : World} {f : lI} {as : List AV} {vs : Array Value} (h : pX G w as vs) (A : Bw G z f) (H : ∀ β B o, G.prot β B o → z.prot β B o) : pX z w (AV.renAll f as) vs := by
 refine ⟨by rw [eJ]; simpa using h.1, fun j y J => ?_⟩
 obtain ⟨x, hx, rfl⟩ := pZ J
 exact (h.2 j x hx).ren (l := true) A (fun β B o _ => H β B o) (fun _ => rfl)
theorem HM {C : bZ} (hC : iU P C) {G : Gh} {w : World} {mem : a9} (hM : aT G w mem) {raw keep : Bool} {g : FuncId} {ts : List TypeId} {Z args ca : List AV} {out : eL} {fv av cv : Array Value}
  (h : z1 P C raw keep g ts Z args ca mem = some out) (hf : pX G w Z fv) (ha : pX G w args av) (hc : pX G w ca cv) : M0 P G w mem g (fv ++ av ++ cv) out := by
 unfold z1 at h
 rw [bind_some] at h; obtain ⟨A, hla, h⟩ := h
 simp only at h
 generalize hids : fO mem (c7 mem (AV.refsAll (Z ++ A.1 ++ ca)).length) (AV.refsAll (Z ++ A.1 ++ ca)) [] = ids at h
 rw [aB] at h; obtain ⟨hg, h⟩ := h
 simp only [yc] at hg
 obtain ⟨hn, hd⟩ := hg
 rw [bind_some] at h; obtain ⟨q, hq, h⟩ := h
 rw [aB] at h; obtain ⟨hg, h⟩ := h
 simp only [yc, yc2, yy, Bool.or_eq_false_iff] at hg
 obtain ⟨N, z⟩ := hg
 have N := eT.1 N
 have hgl := d9.lend G (bH G mem A.2) hM.inBoxes
 have O := I1 (us := av.toList) (S := A.2) hM hla ⟨by simpa using ha.1, fun j y hy => by rw [dQ]; exact ha.2 j y hy⟩ (fun b h => h)
 have hall : pX (G.lend (bH G mem A.2)) w (Z ++ A.1 ++ ca) (fv ++ av ++ cv) :=
  ((hf.mono hgl (Ev.refl G w)).append ⟨by simpa using O.1, fun j y hy => by rw [← dQ]; exact O.2 j y hy⟩).append (hc.mono hgl (Ev.refl G w))
 have hM1 := N2 (lent := A.2) hM hn hd
 have W : pX (Ld G w mem ids A.2) w (AV.renAll (fX mem ids) (Z ++ A.1 ++ ca)) (fv ++ av ++ cv) := hall.renAll (C4 (G := G.lend (bH G mem A.2)) rfl) (fun _ _ _ h => h)
 obtain ⟨hen, hcl⟩ := hC g _ _ q hq _ w _ hM1 (fun j x hx => by obtain ⟨b, y, _, _, rfl⟩ := gN hx; rfl) W
 refine ⟨hen, Calls.mono hcl fun e w' he => ?_⟩
 obtain ⟨Y, qv, rfl, hR⟩ := he
 obtain ⟨qr, qm⟩ := q
 simp only at h z N hR
 have hR' := hR
 obtain ⟨K, hev, hmine3, hprot3, hnew3, J, hgens, hkept, hnones⟩ := hR'
 simp only at K J
 have hl3 : ∀ B o, Y.prot false B o → Y.prot true B o := J.lab
 cases hcd : (fI ids.length (bif raw then qr else kT ids.length qm qr).refs && fI ids.length (lE (List.take ids.length qm))) with
 | true =>
  rw [hcd] at h; simp only [yg] at h
  obtain rfl := yb h
  have htl : (qm.take ids.length).length = ids.length := by simp; omega
  have key : ∃ r, r = (bif raw then qr else kT ids.length qm qr) ∧ VR (Y.frz (l7 Y qm ids.length)) w' r qv ∧ (qr.lent = false ∧ gL qm = false → r.lent = false) := by
   cases raw with
   | true => exact ⟨_, rfl, K.mono (d9.frz Y _ (by rintro B o ⟨b, x, L, _, hx, hl, hB⟩; exact J.mine hx hl hB)) (Ev.refl Y w'), fun h => h.1⟩
   | false => exact ⟨_, rfl, G5 J K, fun h => IP h.2 h.1⟩
  obtain ⟨r, hr, hvr, hrl⟩ := key
  obtain ⟨G', V, H, U, M⟩ := Hu (sub := qm.take ids.length) (lent := A.2) (r := r) (cv := qv) hM hn hd hR (z.imp id (fun h => ⟨hrl h, h.2⟩)) hvr rfl rfl (fun _ _ _ h => .inl h)
   (fun β B o h => by rw [htl]; exact h) (fun B o h => h.imp (hl3 B o) id) (fun j hj => by rw [htl] at hj; rw [yo2, if_pos hj]) (by omega) (by omega)
  refine ⟨G', qv, rfl, by rw [← hr]; exact V, H, U, ?_⟩
  have hnil : (qm.take ids.length).drop ids.length = [] := List.drop_eq_nil_of_le (by omega)
  rw [hnil] at M
  exact M
 | false =>
  rw [hcd] at h; simp only [ye] at h
  obtain rfl := yb h
  obtain ⟨G', V, H, U, M⟩ := Hu (sub := qm) (lent := A.2) (r := qr) (cv := qv) hM hn hd hR z K rfl rfl (fun _ _ _ h => h)
   (fun β B o h => .inl h) hl3 (fun j hj => rfl) N (yz _)
  exact ⟨G', qv, rfl, V, H, U, M⟩
end
end Go.Ab
end
section
namespace Go.Ab
variable [cD]
structure SR (G : Gh) (w : World) (st : St) (a : Act) : Prop where
 memr : aT G w st.mem
 len : st.tmps.length = a.tmps.size
 tmps : ∀ (j : Nat) (x : AV), st.tmps[j]? = some x → fY x = true ∨ VR G w x (a.tmps.getD j undef)
 defers : a.defers = []
structure Gw (G0 : Gh) (w0 : World) (old : List (Option Bool)) (G : Gh) (w : World) : Prop where
 ev : Ev G0 w0 w
 mine : G.mine = G0.mine
 prot : ∀ β B o, G0.prot β B o → G.prot β B o
 new : ∀ β B o, G.prot β B o → G0.prot β B o ∨ G0.mine B
 keep : ∀ j, old[j]? = some (some true) → ∀ L, G0.loc j 0 = some L → G.loc j 0 = some L
theorem Gw.refl (G : Gh) (w : World) (old : List (Option Bool)) : Gw G w old G w := ⟨Ev.refl G w, rfl, fun _ _ _ h => h, fun _ _ _ h => .inl h, fun _ _ _ h => h⟩
theorem Gw.step {G0 : Gh} {w0 : World} {old : List (Option Bool)} {G K : Gh} {w H : World} (h : Gw G0 w0 old G w) (A : d9 G K) (z : Ev G w H) : Gw G0 w0 old K H where
 ev :=
  ⟨yt2 h.ev.size z.size, z.out.trans h.ev.out, z.os.trans h.ev.os, fun B J hm => (z.away B (yn2 J h.ev.size) (by rw [h.mine]; exact hm)).trans (h.ev.away B J hm),
   fun B o x => z.some B o (h.ev.some B o x), fun β B o x => (z.prot β B o (h.prot _ _ _ x)).trans (h.ev.prot β B o x), fun B o x => (z.fz B o (h.ev.some B o x)).trans (h.ev.fz B o x), z.tape.trans h.ev.tape⟩
 mine := A.mine.trans h.mine
 prot β B o x := A.prot _ _ _ (h.prot _ _ _ x)
 new β B o x := (A.new _ _ _ x).elim (h.new _ _ _) (fun y => .inr (by rw [← h.mine]; exact y))
 keep j hj L hL := A.loc _ _ _ (h.keep j hj L hL)
theorem Mo {tmps : List AV} {t : Nat} {v : AV} (h : BY tmps t = some v) : tmps[t]? = some v ∧ fY v = false := by
 unfold BY at h
 rw [bU] at h
 rw [bind_some] at h; obtain ⟨u, A, h⟩ := h
 cases z : fY u with
 | true => rw [z] at h; simp at h
 | false => rw [z] at h; simp only [ye] at h; obtain rfl := yb h; exact ⟨A, z⟩
section
variable {P : Program}
theorem SR.get {G : Gh} {w : World} {st : St} {a : Act} (h : SR G w st a) {t : Nat} {v : AV} (ht : BY st.tmps t = some v) : VR G w v (a.tmps.getD t undef) := by
 obtain ⟨h1, h2⟩ := Mo ht
 rcases h.tmps t v h1 with z | z
 ·rw [h2] at z; cases z
 ·exact z
theorem Js {G : Gh} {w : World} {mem : a9} (hM : aT G w mem) {g : Nat} {q : Int × Int} (h : cD.tab g = some q) : VR G w (.el true (.agg [.lit (.int .i64 q.1), .lit (.int .i64 q.2)]) 0) (.pointer (some ⟨g, 0, none⟩)) := by
 obtain ⟨⟨h1, h2⟩, A, H⟩ := hM.glob g q h
 refine .el true _ 0 g 0 (fun j => if j = 0 then .int .i64 q.1 else .int .i64 q.2) (fun j y z => ?_) (fun j y z => ?_)
 ·match j, z with
  | 0, z => exact ⟨h1, h2⟩
  | 1, z => exact ⟨A, H⟩
 ·match j, z with
  | 0, z => obtain rfl := yb z; exact .lit _ rfl
  | 1, z => obtain rfl := yb z; exact .lit _ rfl
theorem SR.eval {G : Gh} {w : World} {st : St} {a : Act} (h : SR G w st a) : Px G w (fR st.tmps) a := by
 intro x v hx
 cases x with
 | tmp t => exact h.get hx
 | const c => exact oV hx
 | func f =>
  obtain rfl := yb hx
  exact .fn (.func f) [] [] #[] #[] rfl rfl (fun j y z => by simp at z) (fun j y z => by simp at z)
 | global g =>
  simp only [fR] at hx
  obtain ⟨q, A, rfl⟩ := yf.1 hx
  exact Js h.memr A
theorem HE (a : Act) (dst : Option Tmp) (v : Value) : (a.put dst v).defers = a.defers ∧ (a.put dst v).tmps.size = a.tmps.size := by
 cases dst <;> simp [Act.put]
theorem SR.put {G H : Gh} {w A : World} {st : St} {a : Act} {dst : Option Tmp} {v : AV} {cv : Value} {mem' : a9} (h : SR G w st a) (K : d9 G H) (M : Ev G w A) (N : VR H A v cv) (hM : aT H A mem') :
  SR H A { tmps := lD st.tmps dst v, mem := mem' } (a.put dst cv) := by
 refine ⟨hM, ?_, fun j x hx => ?_, by rw [(HE a dst cv).1]; exact h.defers⟩
 ·rw [(HE a dst cv).2, ← h.len]
  cases dst <;> simp [lD, eF]
 ·cases dst with
  | none => exact (h.tmps j x hx).imp id (fun h => h.mono K M)
  | some d =>
   simp only [lD, eF] at hx
   simp only [Act.put]
   by_cases J : j = d
   ·subst J
    have z : j < st.tmps.length := by have := (yh.1 hx).1; simpa using this
    rw [yf1 z] at hx
    obtain rfl := yb hx
    right
    rw [ym, Array.getElem?_setIfInBounds_self_of_lt (by rw [← h.len]; exact z)]
    exact N
   ·rw [yg1 (fun e => J e.symm)] at hx
    refine (h.tmps j x hx).imp id (fun h => ?_)
    rw [ym, Array.getElem?_setIfInBounds_ne (fun e => J e.symm), ← ym]
    exact h.mono K M
theorem aT.congr {G : Gh} {w : World} {mem mem' : a9} (hM : aT G w mem) (h : ∀ (b : Nat) (x : d8), mem'[b]? = some (some x) ↔ mem[b]? = some (some x)) : aT G w mem' :=
 ⟨fun b x hx => hM.box b x ((h b x).1 hx), fun b g hx => hM.unset b g (fun x z => hx x ((h b x).2 z)), fun b x g hx => hM.gens b x g ((h b x).1 hx),
  fun b A x x' L H B hx z => hM.apart b A x x' L H B ((h b x).1 hx) ((h A x').1 z), hM.own, hM.lab, hM.away, hM.glob⟩
theorem Hs : ∀ {m : a9} {b : Nat} {x : d8}, (trim m)[b]? = some (some x) ↔ m[b]? = some (some x)
 | [], b, x => by simp [trim]
 | y :: m, b, x => by
  have A := fun b => Hs (m := m) (b := b) (x := x)
  simp only [trim]
  split
  ·rename_i hn
   rw [hn] at A
   have h : ∀ b : Nat, m[b]? ≠ some (some x) := fun b H => by have := (A b).2 H; simp at this
   cases y with
   | none =>
    simp only [KG, yg]
    cases b with
    | zero => simp
    | succ b => simp [h b]
   | some y =>
    simp only [KG, ye]
    cases b with
    | zero => simp
    | succ b => simp [h b]
  ·rename_i z hz
   cases b with
   | zero => simp
   | succ b => simp only [yx1]; exact A b
theorem Mf {mem : a9} {rs : Nat} : vH mem rs = true ↔ mem[rs]? = some none := by
 unfold vH
 split
 ·rename_i h; simp [h]
 ·rename_i h; constructor
  ·intro z; cases z
  ·intro z; exact absurd z h
inductive rD (P : Program) (C : bZ) (an : mQ) (rid : Nat) (ops : Array Oper) (o : Oper) (i rs : Nat) (st : St) : St → Option Tr → Prop
 | run (out : eL) (st1 : St) (hst : st1.mem = st.mem ∧ ∀ t : Nat, st1.tmps[t]? = st.tmps[t]?) (hres : eA o.op = true → vH st.mem rs = true) (h : Iy P C (cH rid i an.boxed) (cH rid i an.raw) (cH rid i an.vars) o (fR st1.tmps) st1.mem rs = some out)
   (hg : ∀ j want, o.guard = some (j, want) → ∃ d, (ops[j]?).bind (·.dst) = some d ∧ st.tmps[d]? = some (.lit (.bool want))) :
   rD P C an rid ops o i rs st { tmps := lD st1.tmps o.dst out.v, mem := out.apply st1.mem } (some (out.tr (eA o.op) rs i o.op st1.mem))
 | skip (st1 : St) (hst : st1.mem = st.mem ∧ ∀ t : Nat, st1.tmps[t]? = st.tmps[t]?) (j : Nat) (want : Bool) (d : Nat) (hg : o.guard = some (j, want)) (hd : (ops[j]?).bind (·.dst) = some d)
   (h : st.tmps[d]? = some (.lit (.bool (!want))) ∨ ∃ x, st.tmps[d]? = some (.lit (.tuple x))) : rD P C an rid ops o i rs st { tmps := lD st1.tmps o.dst (.lit undef), mem := st1.mem } none
theorem M9 {tmps : List AV} {d : Nat} {v : AV} (h : tmps[d]? = some v) : ∀ t : Nat, (tmps.set d v)[t]? = tmps[t]? := by
 intro t
 by_cases e : t = d
 ·subst e; rw [yf1 (yh.1 h).1, h]
 ·rw [yg1 (fun x => e x.symm)]
variable {R : Type}
theorem Ig {h : Option Int} {v : AV} {k : AV → Option R} {r : R} (z : wP h v k = some r) : k v = some r := by
 unfold wP at z
 split at z
 ·exact z
 ·split at z
  ·rw [aB] at z
   rw [decide_eq_true_eq] at z
   rw [z.1]; exact z.2
  ·rename_i x _ b
   cases hx : decide (x = 0) with
   | true =>
    rw [hx] at z; simp only [yg] at z
    rw [aB] at z
    cases b with
    | false => exact z.2
    | true => simp at z
   | false =>
    rw [hx] at z; simp only [ye] at z
    rw [aB] at z
    cases b with
    | true => exact z.2
    | false => simp at z
  ·exact z
theorem Fx {C : bZ} {an : mQ} {rid : Nat} {ops : Array Oper} {o : Oper} {rest : List Oper} {i rs : Nat} {st : St} {tr : List Tr} {k : St → List Tr → Option R} {r : R}
  (h : qK P C an rid (ops.toList.map (·.dst)) (o :: rest) i rs st tr k = some r) :
  ∃ H t, rD P C an rid ops o i rs st H t ∧ qK P C an rid (ops.toList.map (·.dst)) rest (i + 1) (bif eA o.op then rs + 1 else rs) H (t.toList ++ tr) k = some r := by
 simp only [qK, bU, eF] at h
 have hds : ∀ {j : Nat} {d : Nat}, (ops.toList.map (·.dst))[j]? = some (some d) → (ops[j]?).bind (·.dst) = some d := by
  intro j d hj
  rw [yh1] at hj
  obtain ⟨x, hx, Y⟩ := yf.1 hj
  rw [yk1] at hx
  rw [hx]; exact Y
 have N : ∀ (A : St), (A.mem = st.mem ∧ ∀ t : Nat, A.tmps[t]? = st.tmps[t]?) → (∀ j z, o.guard = some (j, z) → ∃ d, (ops[j]?).bind (·.dst) = some d ∧ st.tmps[d]? = some (.lit (.bool z))) →
   guardB (bif eA o.op then vH A.mem rs else true) ((Iy P C (cH rid i an.boxed) (cH rid i an.raw) (cH rid i an.vars) o (fR A.tmps) A.mem rs).bind fun out =>
    wP (A2 rid i an.hint) out.v fun v => qK P C an rid (ops.toList.map (·.dst)) rest (i + 1) (bif eA o.op then rs + 1 else rs) { tmps := lD A.tmps o.dst v, mem := out.apply A.mem } (out.tr (eA o.op) rs i o.op A.mem :: tr) k) = some r →
   ∃ H t, rD P C an rid ops o i rs st H t ∧ qK P C an rid (ops.toList.map (·.dst)) rest (i + 1) (bif eA o.op then rs + 1 else rs) H (t.toList ++ tr) k = some r := by
  intro A U M h
  rw [aB] at h; obtain ⟨hr, h⟩ := h
  rw [bind_some] at h; obtain ⟨out, hout, h⟩ := h
  have h := Ig h
  refine ⟨_, _, .run out A U (fun hm => ?_) hout M, by simpa using h⟩
  rw [hm] at hr; rw [← U.1]; exact hr
 have J : ∀ (A : St), (A.mem = st.mem ∧ ∀ t : Nat, A.tmps[t]? = st.tmps[t]?) → ∀ (j : Nat) (z : Bool) (d : Nat), o.guard = some (j, z) → (ops[j]?).bind (·.dst) = some d → (st.tmps[d]? = some (.lit (.bool (!z))) ∨ ∃ x, st.tmps[d]? = some (.lit (.tuple x))) →
   qK P C an rid (ops.toList.map (·.dst)) rest (i + 1) (bif eA o.op then rs + 1 else rs) { tmps := lD A.tmps o.dst (.lit undef), mem := A.mem } tr k = some r →
   ∃ H t, rD P C an rid ops o i rs st H t ∧ qK P C an rid (ops.toList.map (·.dst)) rest (i + 1) (bif eA o.op then rs + 1 else rs) H (t.toList ++ tr) k = some r := by
  intro A U j z d M Y hh h
  exact ⟨_, _, .skip A U j z d M Y hh, by simpa using h⟩
 have K : ∀ {d : Nat} {v : AV}, st.tmps[d]? = some v → (({ st with tmps := st.tmps.set d v } : St).mem = st.mem ∧ ∀ t : Nat, ({ st with tmps := st.tmps.set d v } : St).tmps[t]? = st.tmps[t]?) := fun h => ⟨rfl, M9 h⟩
 split at h
 ·rename_i M
  exact N st ⟨rfl, fun _ => rfl⟩ (fun j z h => by rw [M] at h; cases h) h
 ·rename_i j z M
  split at h
  ·rename_i d Y
   have O := hds Y
   split at h
   ·rename_i b V
    cases b with
    | true =>
     simp only [yg] at h
     cases z with
     | true => simp only [yg, ye] at h; exact N _ (K V) (fun j' W Z => by rw [M] at Z; obtain ⟨rfl, rfl⟩ := Prod.mk.inj (yb Z); exact ⟨d, O, V⟩) h
     | false => simp only [yg, ye] at h; exact J _ (K V) j false d M O (.inl V) h
    | false =>
     simp only [ye] at h
     cases z with
     | true => simp only [yg, ye] at h; exact J _ (K V) j true d M O (.inl V) h
     | false => simp only [yg, ye] at h; exact N _ (K V) (fun j' W Z => by rw [M] at Z; obtain ⟨rfl, rfl⟩ := Prod.mk.inj (yb Z); exact ⟨d, O, V⟩) h
   ·rename_i x hx
    exact J st ⟨rfl, fun _ => rfl⟩ j z d M O (.inr ⟨x, hx⟩) h
   ·simp at h
  ·simp at h
theorem SR.same {G : Gh} {w : World} {st z : St} {a : Act} (h : SR G w st a) (A : z.mem = st.mem ∧ ∀ t : Nat, z.tmps[t]? = st.tmps[t]?) : SR G w z a := by
 refine ⟨by rw [A.1]; exact h.memr, ?_, fun j x hx => h.tmps j x (by rw [← A.2]; exact hx), h.defers⟩
 rw [← h.len]
 rcases Nat.lt_trichotomy z.tmps.length st.tmps.length with H | J | H
 ·have := A.2 z.tmps.length
  rw [ya1 (yz _), yd H] at this; cases this
 ·exact J
 ·have := A.2 st.tmps.length
  rw [ya1 (yz _), yd H] at this; cases this
theorem SR.lit {G : Gh} {w : World} {st : St} {a : Act} (h : SR G w st a) {d : Nat} {v : Value} (z : st.tmps[d]? = some (.lit v)) : a.tmps[d]? = some v := by
 have hl : d < a.tmps.size := by rw [← h.len]; exact (yh.1 z).1
 rcases h.tmps d _ z with h1 | h1
 ·simp [fY] at h1
 ·have := h1.lit_inv
  rw [ym, yn1 hl] at this
  rw [yn1 hl]; simpa using this
theorem rD.sound {C : bZ} (hC : iU P C) {an : mQ} {rid : Nat} {ops : Array Oper} {o : Oper} {i rs : Nat} {st U : St} {t : Option Tr} {G : Gh} {w : World} {a : Act} (hi : ops[i]? = some o)
  (h : rD P C an rid ops o i rs st U t) (hS : SR G w st a) (K : Act → World → Prop) (Q : Exit → Act → World → Prop) (hK : ∀ Y O a', d9 G Y → Ev G w O → SR Y O U a' → K a' O) : wpOp P ops Q i K a w := by
 unfold wpOp
 simp only [hi]
 cases h with
 | run out st1 H M ho Z =>
  have z := hS.same H
  have hw : Region.wanted o (yielded ops a.tmps) = true := by
   unfold Region.wanted
   cases hgo : o.guard with
   | none => rfl
   | some q =>
    obtain ⟨j, A⟩ := q
    obtain ⟨d, W, J⟩ := Z j A hgo
    have := hS.lit J
    simp [yielded, W, this]
  rw [if_pos hw]
  left
  exact Mp z.memr (fun hm => by rw [H.1]; exact Mf.1 (M hm)) z.eval (fun hc hf ha hcv => HM hC z.memr hc hf ha hcv) ho K Q
   (fun Y O cv hv V N hM' => hK Y O _ V N (z.put V N hv hM'))
 | skip st1 H j A d Z W h =>
  have z := hS.same H
  have hw : Region.wanted o (yielded ops a.tmps) = false := by
   unfold Region.wanted
   simp only [Z]
   rcases h with J | ⟨x, J⟩
   ·have := hS.lit J
    cases A <;> simp [yielded, W, this]
   ·have := hS.lit J
    simp [yielded, W, this]
  rw [hw]
  simp only [yf2, if_false]
  exact hK G w _ (d9.refl G) (Ev.refl G w) (z.put (d9.refl G) (Ev.refl G w) (.lit _ rfl) z.memr)
theorem Cq {C : bZ} (hC : iU P C) {an : mQ} {rid : Nat} {ops : Array Oper} {k : St → List Tr → Option R} {r : R} {Q : Exit → Act → World → Prop} {G0 : Gh} {w0 : World} {old : List (Option Bool)} :
  ∀ {rest : List Oper} {i rs : Nat} {st : St} {tr : List Tr} {G : Gh} {w : World} {a : Act}, ops.toList.drop i = rest → qK P C an rid (ops.toList.map (·.dst)) rest i rs st tr k = some r → SR G w st a → Gw G0 w0 old G w →
   (∀ z U N A K, k z U = some r → SR N A z K → Gw G0 w0 old N A → Q .normal K A) → wpOps P ops Q (List.range' i rest.length) a w
 | [], i, rs, st, tr, G, w, a, H, h, hS, hI, M => by
  simp only [qK] at h
  exact M st tr G w a h hS hI
 | o :: rest, i, rs, st, tr, G, w, a, H, h, hS, hI, M => by
  obtain ⟨z, t, O, Z⟩ := Fx h
  have W : ops[i]? = some o := by
   have : (ops.toList.drop i)[0]? = some o := by rw [H]; rfl
   rw [yd1, yp2, yk1] at this; exact this
  rw [ye1, List.range'_succ, wpOps_cons]
  refine O.sound hC W hS _ _ (fun N A K V Y J => ?_)
  exact Cq hC (by rw [← List.drop_drop, H]; rfl) Z J (hI.step V Y) M
end
end Go.Ab
end
section
namespace Go.Ab
variable [cD]
theorem Em {p : Nat → Prop} (h : ∃ n, p n) : ∃ n, p n ∧ ∀ m, p m → n ≤ m := by
 obtain ⟨n, hn⟩ := h
 induction n using Nat.strongRecOn with
 | _ n H =>
  by_cases hm : ∃ m, m < n ∧ p m
  ·obtain ⟨m, z, hm⟩ := hm; exact H m z hm
  ·exact ⟨n, hn, fun m A => Nat.le_of_not_lt fun z => hm ⟨m, z, A⟩⟩
section
variable {P : Program}
theorem Hg {c : Code} {Q : Exit → Act → World → Prop} {a : Act} {w : World} (I : Nat → Act → World → Prop) {n : Nat} (N : I n a w)
  (z : ∀ n a w, I n a w → c.wp P (Exit.then (fun H J => ∃ m, m < n ∧ I m H J) Q) a w) : (Code.loop c).wp P Q a w := by
 refine wp_loop (fun a w => ∃ n, I n a w) (fun a w => Classical.epsilon fun n => I n a w ∧ ∀ m, I m a w → n ≤ m) ⟨n, N⟩ fun a w hI => ?_
 have A := Classical.epsilon_spec (Em hI)
 refine wp_mono (z _ a w A.1) fun e H J M => ?_
 cases e <;> try exact M
 obtain ⟨m, K, hm⟩ := M
 have h := Classical.epsilon_spec (Em (p := fun n => I n H J) ⟨m, hm⟩)
 exact ⟨⟨m, hm⟩, Nat.lt_of_le_of_lt (h.2 m hm) K⟩
def Ex.to : Ex → Exit
 | .normal => .normal
 | .exit id => .exit id
 | .ret => .ret
theorem Bb : ∀ {live : List Nat} {vs : List AV} {i j : Nat}, (cV live vs i)[j]? = (vs[j]?).map fun v => bif gW (i + j) live then v else .goneV
 | live, [], i, j => by simp [cV]
 | live, v :: r, i, 0 => by simp [cV]
 | live, v :: r, i, j + 1 => by simp only [cV, yx1]; rw [Bb (vs := r), show i + 1 + j = i + (j + 1) by omega]
theorem Jo {G0 : Gh} {w0 : World} {old : List (Option Bool)} {live : List Nat} {st H : St} {G : Gh} {w : World} {a : Act} (h : Hv old live st = some H) (hS : SR G w st a) (hI : Gw G0 w0 old G w) :
  ∃ N, SR N w H a ∧ Gw G0 w0 old N w := by
 unfold Hv at h
 obtain ⟨q, Z, rfl⟩ := yf.1 h
 obtain ⟨f, W, O, hm, J, hM, A, hk, _, _, _⟩ := Bi hS.memr Z
 refine ⟨W, ⟨hM, ?_, fun j x hx => ?_, hS.defers⟩, ⟨hI.ev, hm.trans hI.mine, fun β B o h => by rw [J]; exact hI.prot β B o h, fun β B o h => hI.new β B o (by rw [J] at h; exact h), fun j K L hL => hk j K L (hI.keep j K L hL)⟩⟩
 ·simp only [O, eJ, ye2]
  rw [← hS.len]
  have : ∀ (vs : List AV) i, (cV live vs i).length = vs.length := by
   intro vs; induction vs with
   | nil => intro i; rfl
   | cons v r Y => intro i; simp [cV, Y]
  exact this _ _
 ·simp only [O] at hx
  obtain ⟨y, M, rfl⟩ := pZ hx
  rw [Bb] at M
  obtain ⟨z, hz, rfl⟩ := yf.1 M
  cases U : gW (0 + j) live with
  | false => left; rfl
  | true =>
   simp only [yg]
   rcases hS.tmps j z hz with h | h
   ·left
    unfold fY at h
    split at h
    ·rfl
    ·cases h
   ·right; exact h.ren (l := true) A (fun β B o _ V => by rw [J]; exact V) (fun _ => rfl)
variable {R : Type}
def Cj (P : Program) (C : bZ) (an : mQ) : Prop := ∀ (R : Type) (rid : Nat) (ops : Array Oper) (st : St) (k : St → Option R) (r : R) (G0 : Gh) (w0 : World) (old : List (Option Bool)) (G : Gh) (w : World) (a : Act) (Q : Exit → Act → World → Prop),
 pJ P C an rid ops true st k = some r → SR G w st a → Gw G0 w0 old G w → (∀ st' G' w' a', k st' = some r → SR G' w' st' a' → Gw G0 w0 old G' w' → Q .normal a' w') → (Code.region rid ops true).wp P Q a w
theorem BZ {m : a9} {n b : Nat} {x : d8} : (m ++ List.replicate n none)[b]? = some (some x) ↔ m[b]? = some (some x) := by
 by_cases z : b < m.length
 ·rw [yq z]
 ·rw [yt (by omega), yk2]
  constructor
  ·intro h; split at h <;> simp at h
  ·intro h; rw [ya1 (by omega)] at h; cases h
theorem SR.widen {G : Gh} {w : World} {st : St} {a : Act} (h : SR G w st a) (n : Nat) : SR G w { st with mem := st.mem ++ List.replicate n none } a :=
 ⟨h.memr.congr fun b x => BZ, h.len, h.tmps, h.defers⟩
theorem SR.trim {G : Gh} {w : World} {st : St} {a : Act} (h : SR G w st a) : SR G w { st with mem := trim st.mem } a :=
 ⟨h.memr.congr fun b x => Hs, h.len, h.tmps, h.defers⟩
theorem Gx {C : bZ} (hC : iU P C) {an : mQ} (hD : Cj P C an) {rid : Nat} {ops : Array Oper} {z : Bool} {st : St} {k : St → Option R} {r : R} {G0 : Gh} {w0 : World} {old : List (Option Bool)} {G : Gh} {w : World} {a : Act}
  {Q : Exit → Act → World → Prop} (h : pJ P C an rid ops z st k = some r) (hS : SR G w st a) (hI : Gw G0 w0 old G w) (U : ∀ A M J K, k A = some r → SR M J A K → Gw G0 w0 old M J → Q .normal K J) :
  (Code.region rid ops z).wp P Q a w := by
 cases z with
 | true => exact hD R rid ops st k r G0 w0 old G w a Q h hS hI U
 | false =>
  unfold pJ at h
  apply wp_region
  have := Cq (Q := Q) (G0 := G0) (w0 := w0) (old := old) hC (ops := ops) (rest := ops.toList) (i := 0) (by simp) h (hS.widen _) hI (fun A V M J K H N O => by
   rw [aB] at H
   exact U _ M J K H.2 N.trim O)
  rw [List.range_eq_range']
  simpa using this
theorem Iv {α : Type} {a b : Option α} {r : α} (h : amb a b = some r) : a = some r ∧ b = some r := by
 unfold amb at h
 split at h
 ·rename_i e; exact ⟨h, e ▸ h⟩
 ·cases h
theorem VR.unk_inv {G : Gh} {w : World} {v : Value} (h : VR G w (.imm true (.lit (.bool false))) v) : ∃ b, v = .bool b := by
 cases h with
 | imm _ _ _ _ z => cases z
 | unkB b => exact ⟨b, rfl⟩
theorem Ik {C : bZ} (hC : iU P C) {an : mQ} (hD : Cj P C an) {n : Nat} {old : List (Option Bool)} {G0 : Gh} {w0 : World} : ∀ (c : Code) {K : Nat} {st : St} {k : Ex → St → Option R} {r : R} {G : Gh} {w : World} {a : Act} {Q : Exit → Act → World → Prop},
  eG P C an n old c K st k = some r → SR G w st a → Gw G0 w0 old G w → (∀ e z O N U, k e z = some r → SR O N z U → Gw G0 w0 old O N → Q e.to U N) → c.wp P Q a w := by
 intro c
 induction c with
 | skip => intro K st k r G w a Q h hS hI J; exact wp_skip (J .normal st G w a h hS hI)
 | ret => intro K st k r G w a Q h hS hI J; exact wp_ret (J .ret st G w a h hS hI)
 | exit id => intro K st k r G w a Q h hS hI J; exact wp_exit (J (.exit id) st G w a h hS hI)
 | seq x y W V =>
  intro K st k r G w a Q h hS hI J
  simp only [eG] at h
  refine wp_seq (W h hS hI fun e z O N U M A H => ?_)
  cases e with
  | normal => exact V M A H J
  | exit id => exact J (.exit id) z O N U M A H
  | ret => exact J .ret z O N U M A H
 | cond c x y W V =>
  intro K st k r G w a Q h hS hI J
  simp only [eG] at h
  split at h
  ·rename_i t ht
   have Z := (hS.eval c _ ht).lit_inv
   cases t with
   | true => exact wp_cond_true Z (W h hS hI J)
   | false => exact wp_cond_false Z (V h hS hI J)
  ·rename_i ht
   obtain ⟨b, Z⟩ := (hS.eval c _ ht).unk_inv
   obtain ⟨h1, h2⟩ := Iv h
   cases b with
   | true => exact wp_cond_true Z (W h1 hS hI J)
   | false => exact wp_cond_false Z (V h2 hS hI J)
  ·simp at h
 | block id c ih =>
  intro K st k r G w a Q h hS hI J
  simp only [eG] at h
  refine wp_block (ih h hS hI fun e z O N U M A H => ?_)
  cases e with
  | normal => exact J .normal z O N U M A H
  | ret => exact J .ret z O N U M A H
  | exit j =>
   simp only at M
   cases Y : Nat.beq j id with
   | true =>
    rw [Y] at M; simp only [yg] at M
    obtain rfl := cX.1 Y
    simp only [Ex.to, Exit.inBlock, if_true]
    exact J .normal z O N U M A H
   | false =>
    rw [Y] at M; simp only [ye] at M
    have hne : ¬ j = id := fun h => by rw [cX.2 h] at Y; cases Y
    simp only [Ex.to, Exit.inBlock, hne, if_false]
    exact J (.exit j) z O N U M A H
 | loop c ih =>
  intro K st k r G w a Q h hS hI J
  simp only [eG] at h
  rw [bind_some] at h; obtain ⟨live, hl, h⟩ := h
  refine Hg (fun m a w => ∃ st G, vU old live (fun st k => eG P C an n old c K st k) m st k = some r ∧ SR G w st a ∧ Gw G0 w0 old G w) ⟨st, G, h, hS, hI⟩ ?_
  rintro m a w ⟨st, G, h, hS, hI⟩
  cases m with
  | zero => simp [vU] at h
  | succ m =>
   simp only [vU] at h
   rw [bind_some] at h; obtain ⟨st1, h1, h⟩ := h
   obtain ⟨G1, hS1, hI1⟩ := Jo h1 hS hI
   refine ih h hS1 hI1 fun e z O N U M A H => ?_
   cases e with
   | normal => exact ⟨m, Nat.lt_succ_self _, z, O, M, A, H⟩
   | exit id => exact J (.exit id) z O N U M A H
   | ret => exact J .ret z O N U M A H
 | region rid ops draw =>
  intro K st k r G w a Q h hS hI J
  simp only [eG] at h
  exact Gx hC hD h hS hI (fun z O N U M A H => J .normal z O N U M A H)
 | _ => intro K st k r G w a Q h hS hI J; simp [eG] at h
def M4 (tmps : Array Value) : ResultVar → Sem Value
 | .tmp t => pure (tmps.getD t undef)
 | .cell c t => do loadVar t (← asAddr (tmps.getD c undef))
theorem JZ (fn : Func) (tmps : Array Value) : results fn tmps = (do let vs ← fn.results.mapM (M4 tmps); pure (if h : vs.size = 1 then vs[0] else .tuple vs)) := by
 unfold results
 congr 1
theorem wS {G : Gh} {w : World} {st : St} {a : Act} (hS : SR G w st a) : ∀ {rs : List ResultVar} {vs : List AV}, B7 P st.tmps st.mem rs = some vs →
  ∃ us : List Value, jH G w vs us ∧ (rs.mapM (M4 a.tmps)).run P w = .ok us w
 | [], vs, h => by
  simp [B7] at h; subst h
  exact ⟨[], ⟨rfl, fun j y J => by simp at J⟩, by simp⟩
 | .tmp t :: rs, vs, h => by
  simp only [B7] at h
  rw [bind_some] at h; obtain ⟨v, W, h⟩ := h
  obtain ⟨N, V, rfl⟩ := yf.1 h
  obtain ⟨us, hL, A⟩ := wS hS V
  refine ⟨a.tmps.getD t undef :: us, ⟨by simp [hL.1], fun j y J => ?_⟩, ?_⟩
  ·cases j with
   | zero => simp at J; subst J; exact hS.get W
   | succ j => simpa using hL.2 j y (by simpa using J)
  ·rw [List.mapM_cons]
   simp only [M4, Sem.run_bind, Sem.run_pure, Result.andThen_ok, A]
 | .cell c t :: rs, vs, h => by
  simp only [B7] at h
  rw [bind_some] at h; obtain ⟨x, hx, h⟩ := h
  rw [bind_some] at h; obtain ⟨o, M, h⟩ := h
  obtain ⟨N, V, rfl⟩ := yf.1 h
  obtain ⟨us, hL, A⟩ := wS hS V
  have H := hS.get hx
  obtain ⟨v, rd, rfl, cv, K, U⟩ := BD hS.memr M H
  refine ⟨cv :: us, ⟨by simp [hL.1], fun j y J => ?_⟩, ?_⟩
  ·cases j with
   | zero => simp at J; subst J; exact U
   | succ j => simpa using hL.2 j y (by simpa using J)
  ·rw [List.mapM_cons]
   have : (M4 a.tmps (.cell c t)).run P w = .ok cv w := by
    have O : ∃ p, a.tmps.getD c undef = .pointer (some p) := by
     unfold jJ at M
     split at M
     ·generalize a.tmps.getD c undef = z at H; cases H; exact ⟨_, rfl⟩
     ·generalize a.tmps.getD c undef = z at H; cases H; exact ⟨_, rfl⟩
     ·simp at M
    obtain ⟨p, O⟩ := O
    show Sem.run P (do loadVar t (← asAddr (a.tmps.getD c undef))) w = _
    rw [O] at K ⊢
    simpa [Instr.loadAt, Instr.sureAddr, asAddr] using K
   simp only [Sem.run_bind, this, Result.andThen_ok, A, Sem.run_pure]
def nE (P : Program) : Bool := P.funcs.all fun fn => !(fn.name == "runtime.NumGoroutine")
theorem zM {f : FuncId} {fn : Func} {z : Array Value} {w : World} (hf : P.funcs[f]? = some fn) (hn : nE P = true) (hb : fn.body.isSome = true) : (callFunc f z).run P w = .ok (.enter f z) w := by
 have h1 : (fn.name == "runtime.NumGoroutine") = false := by
  unfold nE at hn
  rw [Array.all_eq_true_iff_forall_mem] at hn
  have := hn fn (Array.mem_of_getElem? hf)
  simpa using this
 have h2 : fn.body.isNone = false := by cases h : fn.body <;> simp_all
 unfold callFunc
 simp only [Sem.run_bind, run_program, Result.andThen_ok, hf, h1, h2, yf2, if_false, Sem.run_pure]
end
end Go.Ab
end
section
namespace Go.Ab
variable [cD]
def Ag (S : List Nat) (mem mem' : a9) : Prop := ∀ b ∈ S, mem'[b]? = mem[b]?
theorem Ag.sub {S S' : List Nat} {mem mem' : a9} (h : Ag S mem mem') (A : ∀ b ∈ S', b ∈ S) : Ag S' mem mem' := fun b z => h b (A b z)
theorem box?_ag {mem mem' : a9} {b g : Nat} (h : mem'[b]? = mem[b]?) : box? mem' b g = box? mem b g := by unfold box?; rw [h]
theorem CL {mem mem' : a9} {b : Nat} (h : mem'[b]? = mem[b]?) : mY mem' b = mY mem b := by unfold mY; rw [h]
theorem wJ {α β : Type} {f A : α → Option (Bool × β × List Nat)} : ∀ {xs : List α} {r : Bool × List β × List Nat}, fS f xs = some r → (∀ x q, f x = some q → (∀ b ∈ q.2.2, b ∈ r.2.2) → A x = some q) → fS A xs = some r
 | [], r, h, _ => h
 | v :: xs, r, h, hf => by
  simp only [fS] at h ⊢
  rw [bind_some] at h; obtain ⟨a, J, h⟩ := h
  rw [bind_some] at h; obtain ⟨q, H, h⟩ := h
  obtain rfl := yb h
  rw [hf v a J (fun b z => yr1 _ z), wJ H (fun x K h1 h2 => hf x K h1 (fun b z => ys1 _ (h2 b z)))]
  rfl
theorem Au {α β γ : Type} {f H : γ → α → Option (Bool × β × List Nat)} : ∀ {z : List γ} {xs : List α} {r : Bool × List β × List Nat}, cS f z xs = some r → (∀ l x q, f l x = some q → (∀ b ∈ q.2.2, b ∈ r.2.2) → H l x = some q) → cS H z xs = some r
 | [], [], r, h, _ => h
 | [], v :: xs, r, h, hf => by simp [cS] at h
 | l :: z, [], r, h, hf => by simp [cS] at h
 | l :: z, v :: xs, r, h, hf => by
  simp only [cS] at h ⊢
  rw [bind_some] at h; obtain ⟨a, J, h⟩ := h
  rw [bind_some] at h; obtain ⟨q, M, h⟩ := h
  obtain rfl := yb h
  rw [hf l v a J (fun b A => yr1 _ A), Au M (fun l x K h1 h2 => hf l x K h1 (fun b A => ys1 _ (h2 b A)))]
  rfl
section
variable {P : Program}
theorem yW {k : IntKind} {b : Nat} {w : aN} {r : Bool × PV × List Nat} (h : bK.treeInts k b w = some r) : b ∈ r.2.2 := by
 unfold bK.treeInts at h
 split at h
 ·rw [aB] at h; obtain ⟨_, h⟩ := h; obtain rfl := yb h; simp
 ·rw [aB] at h; obtain ⟨_, h⟩ := h; obtain ⟨xs, _, rfl⟩ := yf.1 h; simp
 ·simp at h
theorem CB {f : LK → AV → Option (Bool × PV × List Nat)} {t : TypeId} {e b : Nat} {w : aN} {r : Bool × PV × List Nat} (h : bK.treeSl P f t e b w = some r) : b ∈ r.2.2 := by
 unfold bK.treeSl at h
 split at h
 ·rw [aB] at h; obtain ⟨_, h⟩ := h; obtain rfl := yb h; simp
 ·rw [aB] at h; obtain ⟨_, h⟩ := h
  rw [bind_some] at h; obtain ⟨_, _, h⟩ := h
  obtain ⟨xs, _, rfl⟩ := yf.1 h; simp
 ·simp at h
theorem Gj {f H : LK → AV → Option (Bool × PV × List Nat)} {t : TypeId} {e b : Nat} {w : aN} {r : Bool × PV × List Nat} (h : bK.treeSl P f t e b w = some r)
  (hf : ∀ l v q, f l v = some q → (∀ b ∈ q.2.2, b ∈ r.2.2) → H l v = some q) : bK.treeSl P H t e b w = some r := by
 unfold bK.treeSl at h ⊢
 split at h
 ·exact h
 ·rw [aB] at h ⊢; obtain ⟨K, h⟩ := h
  refine ⟨K, ?_⟩
  rw [bind_some] at h ⊢; obtain ⟨U, A, h⟩ := h
  refine ⟨U, A, ?_⟩
  obtain ⟨q, O, rfl⟩ := yf.1 h
  refine yf.2 ⟨q, wJ O (fun vs q1 h1 h2 => ?_), rfl⟩
  rw [bind_some] at h1 ⊢; obtain ⟨W, z, h1⟩ := h1
  obtain ⟨p, hp, rfl⟩ := yf.1 h1
  refine ⟨W, Au z (fun l x J V N => hf l x J V (fun b M => yk _ (h2 b (N b M)))), h1⟩
 ·simp at h
theorem w5 {mem mem' : a9} : ∀ {n : Nat} {l : LK} {v : AV} {r : Bool × PV × List Nat}, bK P mem n l v = some r → Ag r.2.2 mem mem' → bK P mem' n l v = some r
 | 0, l, v, r, h, _ => by simp [bK] at h
 | n + 1, l, v, r, h, hA => by
  unfold bK at h ⊢
  split at h <;> try exact h
  ·rename_i k b g
   rw [bind_some] at h ⊢; obtain ⟨x, hx, h⟩ := h
   exact ⟨x, by rw [box?_ag (hA b (yW h))]; exact hx, h⟩
  ·rename_i k b g o m
   rw [bind_some] at h ⊢; obtain ⟨x, hx, h⟩ := h
   have J := h
   rw [bind_some] at h; obtain ⟨w, H, h⟩ := h
   exact ⟨x, by rw [box?_ag (hA b (yW h))]; exact hx, J⟩
  ·rename_i t e b g
   rw [bind_some] at h ⊢; obtain ⟨x, hx, h⟩ := h
   exact ⟨x, by rw [box?_ag (hA b (CB h))]; exact hx, Gj h (fun l v q A z => w5 A (hA.sub z))⟩
  ·rename_i t e b g o m
   rw [bind_some] at h ⊢; obtain ⟨x, hx, h⟩ := h
   rw [bind_some] at h; obtain ⟨w, H, h⟩ := h
   refine ⟨x, by rw [box?_ag (hA b (CB h))]; exact hx, ?_⟩
   rw [bind_some]
   exact ⟨w, H, Gj h (fun l v q A z => w5 A (hA.sub z))⟩
variable {mem mem' : a9}
theorem Ck {t : TypeId} {v : AV} {r : Bool × PV × List Nat} (h : qJ P mem t v = some r) (hA : Ag r.2.2 mem mem') : qJ P mem' t v = some r := by
 unfold qJ at h ⊢
 rw [bind_some] at h ⊢; obtain ⟨J, z, h⟩ := h
 refine ⟨J, z, ?_⟩
 rw [bind_some] at h ⊢; obtain ⟨q, H, h⟩ := h
 refine ⟨q, Au H (fun l x q' h1 h2 => w5 h1 (hA.sub fun b A => ?_)), h⟩
 obtain ⟨p, _, rfl⟩ := yf.1 h
 exact h2 b A
theorem Ly {vars : Bool} {t : TypeId} {vs : List AV} {r : aN × List Nat} (h : lS P vars mem t vs = some r) (hA : Ag r.2 mem mem') : lS P vars mem' t vs = some r := by
 unfold lS at h ⊢
 split at h
 ·exact h
 ·rw [bind_some] at h ⊢; obtain ⟨e, A, h⟩ := h
  refine ⟨e, A, ?_⟩
  cases vars with
  | true => exact h
  | false =>
   simp only [ye] at h ⊢
   obtain ⟨q, z, rfl⟩ := yf.1 h
   exact yf.2 ⟨q, wJ z (fun v q' h1 h2 => Ck h1 (hA.sub h2)), rfl⟩
theorem rA : ∀ {ids : List Nat}, Ag ids mem mem' → bV mem' ids = bV mem ids
 | [], _ => rfl
 | b :: r, h => by
  have A := rA (ids := r) (h.sub fun b z => yk _ z)
  simp only [bV, h b (yn ..), A]
theorem Cl {z : TypeId} {y : AV} {v : aN × List Nat} (h : view P z mem y = some v) (hA : Ag v.2 mem mem') : view P z mem' y = some v := by
 unfold view at h ⊢
 split at h <;> try exact h
 ·rename_i b g o n
  have h' := h
  rw [bind_some] at h ⊢; obtain ⟨x, hx, h⟩ := h
  obtain ⟨w, hw, rfl⟩ := yf.1 h
  exact ⟨x, by rw [box?_ag (hA b (by simp))]; exact hx, h⟩
 ·rename_i b g
  rw [bind_some] at h ⊢; obtain ⟨x, hx, h⟩ := h
  obtain rfl := yb h
  exact ⟨x, by rw [box?_ag (hA b (by simp))]; exact hx, rfl⟩
theorem MQ {t : TypeId} {x : AV} {n : Nat × List Nat} (h : lenOf P t mem x = some n) (hA : Ag n.2 mem mem') : lenOf P t mem' x = some n := by
 unfold lenOf at h ⊢
 split at h
 ·exact h
 ·split at h <;> try exact h
  rename_i b g
  obtain ⟨x, hx, rfl⟩ := yf.1 h
  exact yf.2 ⟨x, by rw [box?_ag (hA b (by simp))]; exact hx, rfl⟩
 ·simp at h
variable {out : eL}
theorem MW {t : TypeId} {a : AV} (h : jJ P t mem a = some out) (hA : Ag out.rd mem mem') : jJ P t mem' a = some out := by
 unfold jJ at h ⊢
 split at h
 ·exact h
 ·rename_i b g i c
  rw [bind_some] at h ⊢; obtain ⟨x, hx, h⟩ := h
  refine ⟨x, ?_, h⟩
  have : b ∈ out.rd := by
   split at h
   ·rw [bind_some] at h; obtain ⟨ag, _, h⟩ := h
    cases ag with
    | true =>
     simp only [yg] at h
     rw [bind_some] at h; obtain ⟨n, _, h⟩ := h
     rw [aB] at h; obtain ⟨_, h⟩ := h
     obtain rfl := yb h; simp
    | false =>
     simp only [ye] at h
     obtain ⟨v, _, rfl⟩ := yf.1 h; simp
   ·rw [aB] at h; obtain ⟨_, h⟩ := h
    rw [aB] at h; obtain ⟨_, h⟩ := h
    obtain ⟨v, _, rfl⟩ := yf.1 h; simp
   ·rw [bind_some] at h; obtain ⟨y, _, h⟩ := h
    obtain ⟨v, _, rfl⟩ := yf.1 h; simp
  rw [box?_ag (hA b this)]; exact hx
 ·simp at h
theorem L3 {t : TypeId} {a x : AV} (h : jO P t mem a x = some out) (hA : Ag out.rd mem mem') : jO P t mem' a x = some out := by
 unfold jO at h ⊢
 split at h
 ·rename_i b g i c
  rw [bind_some] at h ⊢; obtain ⟨M, A, h⟩ := h
  refine ⟨M, ?_, ?_⟩
  ·have : b ∈ out.rd := by
    rw [bind_some] at h; obtain ⟨n, _, h⟩ := h
    rw [aB] at h; obtain ⟨_, h⟩ := h
    split at h
    ·rw [aB] at h; obtain ⟨_, h⟩ := h
     obtain rfl := yb h; simp
    ·split at h
     ·rw [aB] at h; obtain ⟨_, h⟩ := h
      obtain rfl := yb h; simp
     ·simp at h
    ·rw [bind_some] at h; obtain ⟨p, _, h⟩ := h
     rw [bind_some] at h; obtain ⟨q, _, h⟩ := h
     rw [aB] at h; obtain ⟨_, h⟩ := h
     obtain rfl := yb h; simp
   rw [box?_ag (hA b this)]; exact A
  ·rw [bind_some] at h ⊢; obtain ⟨n, hn, h⟩ := h
   refine ⟨n, hn, ?_⟩
   rw [aB] at h ⊢; obtain ⟨H, h⟩ := h
   refine ⟨H, ?_⟩
   split at h
   ·exact h
   ·exact h
   ·rw [bind_some] at h ⊢; obtain ⟨p, J, h⟩ := h
    refine ⟨p, J, ?_⟩
    rw [bind_some] at h ⊢; obtain ⟨q, N, h⟩ := h
    have O := h
    rw [aB] at h; obtain ⟨_, h⟩ := h
    obtain rfl := yb h
    have z : Ag q.2.2 mem mem' := hA.sub fun b K => yk _ K
    exact ⟨q, Ck N z, by rw [rA z]; exact O⟩
 ·simp at h
theorem LQ {t : TypeId} {x : AV} {i : Int} (h : jG P t mem x i = some out) (hA : Ag out.rd mem mem') : jG P t mem' x i = some out := by
 unfold jG at h ⊢
 split at h
 ·rw [bind_some] at h ⊢; obtain ⟨s, H, h⟩ := h
  refine ⟨s, H, ?_⟩
  split at h <;> try exact h
  ·rename_i b g o n
   rw [bind_some] at h ⊢; obtain ⟨A, z, h⟩ := h
   refine ⟨A, ?_, h⟩
   rw [aB] at h; obtain ⟨_, h⟩ := h
   obtain rfl := yb h
   rw [box?_ag (hA b (by simp))]; exact z
  ·rename_i b g
   rw [bind_some] at h ⊢; obtain ⟨A, z, h⟩ := h
   refine ⟨A, ?_, h⟩
   rw [aB] at h; obtain ⟨_, h⟩ := h
   obtain rfl := yb h
   rw [box?_ag (hA b (by simp))]; exact z
 ·exact h
 ·simp at h
theorem LL {t : TypeId} {x : AV} {K J M : Option Int} (h : gQ P t mem x K J M = some out) (hA : Ag out.rd mem mem') : gQ P t mem' x K J M = some out := by
 unfold gQ at h ⊢
 split at h
 ·exact h
 ·rw [bind_some] at h ⊢; obtain ⟨s, H, h⟩ := h
  refine ⟨s, H, ?_⟩
  split at h <;> try exact h
  ·rename_i b g o n
   rw [bind_some] at h ⊢; obtain ⟨A, z, h⟩ := h
   refine ⟨A, ?_, h⟩
   rw [aB] at h; obtain ⟨_, h⟩ := h
   obtain ⟨q, _, rfl⟩ := yf.1 h
   rw [box?_ag (hA b (by simp))]; exact z
  ·rename_i b g
   rw [bind_some] at h ⊢; obtain ⟨A, z, h⟩ := h
   refine ⟨A, ?_, h⟩
   rw [aB] at h; obtain ⟨_, h⟩ := h
   obtain ⟨q, _, rfl⟩ := yf.1 h
   rw [box?_ag (hA b (by simp))]; exact z
 ·rw [bind_some] at h ⊢; obtain ⟨s, H, h⟩ := h
  refine ⟨s, H, ?_⟩
  split at h
  ·rename_i b g c
   rw [aB] at h ⊢; obtain ⟨N, h⟩ := h
   refine ⟨N, ?_⟩
   rw [bind_some] at h ⊢; obtain ⟨A, z, h⟩ := h
   refine ⟨A, ?_, h⟩
   split at h
   ·rw [aB] at h; obtain ⟨_, h⟩ := h
    obtain ⟨q, _, rfl⟩ := yf.1 h
    rw [box?_ag (hA b (by simp))]; exact z
   ·simp at h
  ·simp at h
 ·simp at h
theorem J9 {boxed vars : Bool} {t V : TypeId} {rs : Nat} {x y : AV} (h : kB P boxed vars t V mem rs x y = some out) (hA : Ag out.rd mem mem') : kB P boxed vars t V mem' rs x y = some out := by
 unfold kB at h ⊢
 rw [bind_some] at h ⊢; obtain ⟨Z, O, h⟩ := h; refine ⟨Z, O, ?_⟩
 rw [bind_some] at h ⊢; obtain ⟨s, Y, h⟩ := h; refine ⟨s, Y, ?_⟩
 rw [bind_some] at h ⊢; obtain ⟨bytes, K, h⟩ := h; refine ⟨bytes, K, ?_⟩
 rw [bind_some] at h ⊢; obtain ⟨z, hz, h⟩ := h; refine ⟨z, hz, ?_⟩
 rw [bind_some] at h ⊢; obtain ⟨M, A, h⟩ := h
 have W := h
 rw [aB] at h; obtain ⟨U, h⟩ := h
 split at h
 ·refine ⟨M, ?_, W⟩
  rw [aB] at h; obtain ⟨_, h⟩ := h
  refine Cl A (hA.sub fun b J => ?_)
  cases boxed with
  | true => simp only [yg] at h; obtain ⟨row, _, rfl⟩ := yf.1 h; exact J
  | false => simp only [ye] at h; obtain ⟨v, _, rfl⟩ := yf.1 h; exact J
 ·rename_i b g
  have h1 := h
  rw [bind_some] at h; obtain ⟨N, H, h⟩ := h
  have h2 := h
  rw [bind_some] at h; obtain ⟨zv, _, h⟩ := h
  rw [aB] at h; obtain ⟨_, h⟩ := h
  obtain rfl := yb h
  refine ⟨M, Cl A (hA.sub fun b J => yk _ J), ?_⟩
  rw [aB]
  refine ⟨U, ?_⟩
  rw [bind_some]
  exact ⟨N, by rw [box?_ag (hA b (yn ..))]; exact H, h2⟩
 ·rename_i b g n
  have h1 := h
  rw [bind_some] at h; obtain ⟨N, H, h⟩ := h
  have h2 := h
  rw [bind_some] at h; obtain ⟨xv, _, h⟩ := h
  rw [bind_some] at h; obtain ⟨zv, _, h⟩ := h
  rw [aB] at h; obtain ⟨_, h⟩ := h
  obtain rfl := yb h
  refine ⟨M, Cl A (hA.sub fun b J => yk _ J), ?_⟩
  rw [aB]
  refine ⟨U, ?_⟩
  rw [bind_some]
  exact ⟨N, by rw [box?_ag (hA b (yn ..))]; exact H, h2⟩
 ·simp at h
theorem ND {t H : TypeId} {rs : Nat} {n : Int} (h : BG P t H mem rs n = some out) : BG P t H mem' rs n = some out := by
 unfold BG at h ⊢
 split at h
 ·rw [bind_some] at h ⊢; obtain ⟨N, A, h⟩ := h
  refine ⟨N, A, ?_⟩
  rw [bind_some] at h ⊢; obtain ⟨z, O, h⟩ := h
  refine ⟨z, O, ?_⟩
  split at h
  ·rw [bind_some] at h ⊢; obtain ⟨q, K, h⟩ := h
   have h1 := h
   rw [bind_some] at h; obtain ⟨e, _, h⟩ := h
   rw [bind_some] at h; obtain ⟨bytes, _, h⟩ := h
   rw [aB] at h
   have J := h.1
   simp only [yc] at J
   exact ⟨q, Ck K (by rw [mM J.2.2]; exact fun b M => by cases M), h1⟩
  ·cases h
 ·cases h
theorem IU {boxed vars : Bool} {b : Builtin} {ts : List TypeId} {rs : Nat} {args : List AV} (h : eE P boxed vars b ts mem rs args = some out) (hA : Ag out.rd mem mem') : eE P boxed vars b ts mem' rs args = some out := by
 unfold eE at h ⊢
 split at h
 ·obtain ⟨n, hn, rfl⟩ := yf.1 h
  exact yf.2 ⟨n, MQ hn hA, rfl⟩
 ·exact ND h
 ·exact J9 h hA
 ·exact h
 ·exact h
 ·exact h
 ·simp at h
theorem IC {boxed : Bool} {z dst : TypeId} {rs : Nat} {x : AV} (h : kJ P boxed z dst mem rs x = some out) (hA : Ag out.rd mem mem') : kJ P boxed z dst mem' rs x = some out := by
 unfold kJ at h ⊢
 split at h
 ·exact h
 ·exact h
 ·split at h
  ·rw [bind_some] at h ⊢; obtain ⟨v, H, h⟩ := h
   refine ⟨v, Cl H ?_, h⟩
   rw [aB] at h; obtain ⟨_, h⟩ := h
   split at h
   ·obtain rfl := yb h; exact hA
   ·simp at h
  ·exact h
 ·split at h
  ·rw [aB] at h ⊢; obtain ⟨A, h⟩ := h; refine ⟨A, ?_⟩
   rw [bind_some] at h ⊢; obtain ⟨x, hx, h⟩ := h
   refine ⟨x, ?_, h⟩
   rw [aB] at h; obtain ⟨_, h⟩ := h
   obtain rfl := yb h
   rw [box?_ag (hA _ (by simp))]; exact hx
  ·exact h
 ·simp at h
theorem rK {l : LK} {v : AV} {r : AV × List Nat} (h : gA P mem l v = some r) (hA : Ag r.2 mem mem') : gA P mem' l v = some r := by
 unfold gA at h ⊢
 split at h
 ·obtain ⟨q, z, rfl⟩ := yf.1 h
  exact yf.2 ⟨q, w5 z hA, rfl⟩
 ·obtain ⟨q, z, rfl⟩ := yf.1 h
  exact yf.2 ⟨q, w5 z hA, rfl⟩
 ·exact h
theorem zK : ∀ {A : List LK} {vs : List AV} {r : List AV × List Nat}, bP P mem A vs = some r → Ag r.2 mem mem' → bP P mem' A vs = some r
 | [], [], r, h, _ => h
 | [], v :: vs, r, h, _ => by simp [bP] at h
 | l :: A, [], r, h, _ => by simp [bP] at h
 | l :: A, v :: vs, r, h, hA => by
  simp only [bP] at h ⊢
  rw [bind_some] at h; obtain ⟨a, H, h⟩ := h
  rw [bind_some] at h; obtain ⟨b, z, h⟩ := h
  obtain rfl := yb h
  rw [rK H (hA.sub fun b z => yr1 _ z), zK z (hA.sub fun b z => ys1 _ z)]
  rfl
theorem OM {t : TypeId} {v : AV} {r : AV × List Nat} (h : lend P mem t v = some r) (hA : Ag r.2 mem mem') : lend P mem' t v = some r := by
 unfold lend at h ⊢
 split at h
 ·rw [bind_some] at h ⊢; obtain ⟨l, hl, h⟩ := h
  exact ⟨l, hl, rK h hA⟩
 ·rw [bind_some] at h ⊢; obtain ⟨l, hl, h⟩ := h
  exact ⟨l, hl, rK h hA⟩
 ·rename_i cs
  cases z : FA cs with
  | true =>
   rw [z] at h; simp only [yg] at h ⊢
   rw [bind_some] at h ⊢; obtain ⟨J, A, h⟩ := h
   refine ⟨J, A, ?_⟩
   obtain ⟨q, H, rfl⟩ := yf.1 h
   exact yf.2 ⟨q, zK H hA, rfl⟩
  | false => rw [z] at h; exact h
 ·exact h
theorem D0 : ∀ {ts : List TypeId} {vs : List AV} {r : List AV × List Nat}, fQ P mem ts vs = some r → Ag r.2 mem mem' → fQ P mem' ts vs = some r
 | [], [], r, h, _ => h
 | [], v :: vs, r, h, _ => by simp [fQ] at h
 | t :: ts, [], r, h, _ => by simp [fQ] at h
 | t :: ts, v :: vs, r, h, hA => by
  simp only [fQ] at h ⊢
  rw [bind_some] at h; obtain ⟨a, A, h⟩ := h
  rw [bind_some] at h; obtain ⟨b, z, h⟩ := h
  obtain rfl := yb h
  rw [OM A (hA.sub fun b z => yr1 _ z), D0 z (hA.sub fun b z => ys1 _ z)]
  rfl
theorem AL : ∀ {n : Nat} {h seen : List Nat}, ∀ b ∈ seen, b ∈ fO mem n h seen
 | 0, h, seen, b, z => by simpa [fO] using z
 | n + 1, [], seen, b, z => by simpa [fO] using z
 | n + 1, t :: h, seen, b, z => by
  simp only [fO]
  cases gW t seen with
  | true => simp only [yg]; exact AL b z
  | false => simp only [ye]; exact AL b (yr1 _ z)
theorem Ei : ∀ {n : Nat} {h seen : List Nat}, Ag (fO mem n h seen) mem mem' → fO mem' n h seen = fO mem n h seen
 | 0, h, seen, _ => by simp [fO]
 | n + 1, [], seen, _ => by simp [fO]
 | n + 1, t :: h, seen, hA => by
  simp only [fO] at hA ⊢
  cases hm : gW t seen with
  | true => rw [hm] at hA; simp only [yg] at hA ⊢; exact Ei hA
  | false =>
   rw [hm] at hA; simp only [ye] at hA ⊢
   have ht : mem'[t]? = mem[t]? := hA t (AL t (by simp))
   have : AD mem' t = AD mem t := by unfold AD; rw [ht]
   rw [this]
   exact Ei hA
theorem Cy : ∀ {ids : List Nat} {b n : Nat}, b ∉ ids → rX b ids n = none
 | [], b, n, _ => rfl
 | m :: r, b, n, h => by
  simp only [rX]
  cases z : Nat.beq m b with
  | true => exact absurd (by rw [cX.1 z]; exact yn ..) h
  | false => simp only [ye]; exact Cy fun A => h (yk _ A)
theorem MG {ids : List Nat} (hA : Ag ids mem mem') : fX mem' ids = fX mem ids := by
 funext b g
 by_cases h : b ∈ ids
 ·unfold fX; rw [CL (hA b h)]
 ·have z : rX b ids 0 = none := Cy h
  have : ∀ m : a9, fX m ids b g = none := by
   intro m
   unfold fX
   split
   ·rw [z]; cases Nat.beq _ g <;> rfl
   ·rfl
  rw [this, this]
theorem C2 (f : lI) : ∀ {ids : List Nat}, Ag ids mem mem' → eQ f mem' ids = eQ f mem ids
 | [], _ => rfl
 | b :: r, h => by
  simp only [eQ, h b (yn ..), C2 f (ids := r) (h.sub fun b z => yk _ z)]
theorem pR (f : lI) : ∀ {ids : List Nat} {q : a9}, Ag ids mem mem' → bF f mem' ids q = bF f mem ids q
 | [], q, _ => by simp [bF]
 | a :: ids, [], _ => by simp [bF]
 | a :: ids, none :: q, h => by simp only [bF]; exact pR f (h.sub fun b z => yk _ z)
 | a :: ids, some x :: q, h => by
  simp only [bF, CL (h a (yn ..)), pR f (ids := ids) (q := q) (h.sub fun b z => yk _ z)]
theorem JA {sub : a9} {ids : List Nat} (hl : mem'.length = mem.length) (hA : Ag ids mem mem') : cG mem' sub ids = cG mem sub ids := by
 funext b g
 unfold cG
 cases Nat.beq g 0 with
 | false => rfl
 | true =>
  simp only [yg]
  cases h : ids[b]? with
  | none => rw [hl]
  | some a => simp only [CL (hA a (yj h))]
theorem ML {keep : Bool} {ts : List TypeId} {vs : List AV} {r : List AV × List Nat} (h : HP P keep mem ts vs = some r) (hA : Ag r.2 mem mem') : HP P keep mem' ts vs = some r := by
 cases keep with
 | true => exact h
 | false => exact D0 h hA
theorem Nu {C : bZ} {raw keep : Bool} {g : FuncId} {ts : List TypeId} {H args A : List AV} (hl : mem'.length = mem.length) (h : z1 P C raw keep g ts H args A mem = some out) (hA : Ag out.rd mem mem') : z1 P C raw keep g ts H args A mem' = some out := by
 unfold z1 at h ⊢
 rw [bind_some] at h ⊢; obtain ⟨z, O, h⟩ := h
 simp only at h
 have N : out.rd = z.2 ++ fO mem (c7 mem (AV.refsAll (H ++ z.1 ++ A)).length) (AV.refsAll (H ++ z.1 ++ A)) [] := by
  rw [aB] at h; obtain ⟨_, h⟩ := h
  rw [bind_some] at h; obtain ⟨q, _, h⟩ := h
  rw [aB] at h; obtain ⟨_, h⟩ := h
  revert h
  cases (fI (fO mem (c7 mem (AV.refsAll (H ++ z.1 ++ A)).length) (AV.refsAll (H ++ z.1 ++ A)) []).length
    (bif raw then q.1 else kT (fO mem (c7 mem (AV.refsAll (H ++ z.1 ++ A)).length) (AV.refsAll (H ++ z.1 ++ A)) []).length q.2 q.1).refs &&
     fI (fO mem (c7 mem (AV.refsAll (H ++ z.1 ++ A)).length) (AV.refsAll (H ++ z.1 ++ A)) []).length
      (lE (List.take (fO mem (c7 mem (AV.refsAll (H ++ z.1 ++ A)).length) (AV.refsAll (H ++ z.1 ++ A)) []).length q.2))) with
  | true => intro h; simp only [yg] at h; obtain rfl := yb h; rfl
  | false => intro h; simp only [ye] at h; obtain rfl := yb h; rfl
 rw [N] at hA
 refine ⟨z, ML O (hA.sub fun b M => yr1 _ M), ?_⟩
 have K : ∀ n, c7 mem' n = c7 mem n := fun n => by unfold c7; rw [hl]
 have J := hA.sub (S' := fO mem (c7 mem (AV.refsAll (H ++ z.1 ++ A)).length) (AV.refsAll (H ++ z.1 ++ A)) []) fun b M => ys1 _ M
 simp only [K, Ei J, MG J, C2 _ J, JA hl J, pR _ J]
 exact h
theorem Pm {C : bZ} {boxed raw vars : Bool} {o : Oper} {ρ : Operand → Option AV} {rs : Nat} (hl : mC o = true → mem'.length = mem.length) (h : Iy P C boxed raw vars o ρ mem rs = some out) (hA : Ag out.rd mem mem') :
  Iy P C boxed raw vars o ρ mem' rs = some out := by
 unfold Iy Dz zV Ht z0 fC yN IJ I0 MH E6 AU zW kI z5 yZ oH Ee at h ⊢
 split at h <;> rename_i hop <;> try exact h
 ·rw [bind_some] at h ⊢; obtain ⟨V, A, h⟩ := h; refine ⟨V, A, ?_⟩
  rw [bind_some] at h ⊢; obtain ⟨z, Y, h⟩ := h; refine ⟨z, Y, ?_⟩
  rw [bind_some] at h ⊢; obtain ⟨s, hs, h⟩ := h; refine ⟨s, hs, ?_⟩
  rw [bind_some] at h ⊢; obtain ⟨ps, O, h⟩ := h; refine ⟨ps, O, ?_⟩
  rw [aB] at h ⊢; obtain ⟨J, h⟩ := h; refine ⟨J, ?_⟩
  rw [bind_some] at h ⊢; obtain ⟨wv, N, h⟩ := h
  have h' := h
  rw [aB] at h; obtain ⟨_, h⟩ := h
  obtain ⟨ov, _, rfl⟩ := yf.1 h
  exact ⟨wv, Ly N hA, by rw [rA hA]; exact h'⟩
 ·rw [bind_some] at h ⊢; obtain ⟨a, K, h⟩ := h
  exact ⟨a, K, MW h hA⟩
 ·rw [bind_some] at h ⊢; obtain ⟨a, K, h⟩ := h; refine ⟨a, K, ?_⟩
  rw [bind_some] at h ⊢; obtain ⟨x, hx, h⟩ := h
  exact ⟨x, hx, L3 h hA⟩
 ·rw [bind_some] at h ⊢; obtain ⟨a, K, h⟩ := h
  exact ⟨a, K, IC h hA⟩
 ·rw [bind_some] at h ⊢; obtain ⟨V, A, h⟩ := h; refine ⟨V, A, ?_⟩
  rw [bind_some] at h ⊢; obtain ⟨z, Y, h⟩ := h; refine ⟨z, Y, ?_⟩
  rw [bind_some] at h ⊢; obtain ⟨l, M, h⟩ := h; refine ⟨l, M, ?_⟩
  rw [bind_some] at h ⊢; obtain ⟨c, Z, h⟩ := h; refine ⟨c, Z, ?_⟩
  split at h
  ·rw [aB] at h ⊢; obtain ⟨J, h⟩ := h; refine ⟨J, ?_⟩
   split at h
   ·exact h
   ·rw [bind_some] at h ⊢; obtain ⟨q, hq, h⟩ := h
    refine ⟨q, ?_, h⟩
    rw [bind_some] at h; obtain ⟨e, _, h⟩ := h
    rw [bind_some] at h; obtain ⟨bytes, _, h⟩ := h
    rw [aB] at h; obtain ⟨J, h⟩ := h
    simp only [yc] at J
    have : q.2.2 = [] := mM J.2
    exact Ck hq (by rw [this]; intro b hb; cases hb)
  ·exact h
 ·rw [bind_some] at h ⊢; obtain ⟨x, hx, h⟩ := h; refine ⟨x, hx, ?_⟩
  rw [bind_some] at h ⊢; obtain ⟨lo, hlo, h⟩ := h; refine ⟨lo, hlo, ?_⟩
  rw [bind_some] at h ⊢; obtain ⟨hi, U, h⟩ := h; refine ⟨hi, U, ?_⟩
  rw [bind_some] at h ⊢; obtain ⟨mx, hmx, h⟩ := h
  exact ⟨mx, hmx, LL h hA⟩
 ·rw [bind_some] at h ⊢; obtain ⟨x, hx, h⟩ := h; refine ⟨x, hx, ?_⟩
  rw [bind_some] at h ⊢; obtain ⟨ix, W, h⟩ := h; refine ⟨ix, W, ?_⟩
  split at h
  ·exact LQ h hA
  ·exact h
 ·rename_i c
  rw [bind_some] at h ⊢; obtain ⟨args, H, h⟩ := h; refine ⟨args, H, ?_⟩
  split at h
  ·exact IU h hA
  ·rename_i f Z
   rw [bind_some] at h ⊢; obtain ⟨fv, hf, h⟩ := h; refine ⟨fv, hf, ?_⟩
   split at h
   ·exact Nu (hl (by unfold mC; rw [hop]; simp only; rw [Z])) h hA
   ·exact h
  ·exact h
theorem oW {ρ ρ' : Operand → Option AV} : ∀ {xs : List Operand}, (∀ x ∈ xs, ρ' x = ρ x) → AQ ρ' xs = AQ ρ xs
 | [], _ => rfl
 | x :: r, h => by simp only [AQ, h x (yn ..), oW (xs := r) (fun y z => h y (yk _ z))]
theorem pK {ρ ρ' : Operand → Option AV} : ∀ {xs : List (Nat × Operand)}, (∀ x ∈ xs.map (·.2), ρ' x = ρ x) → kQ ρ' xs = kQ ρ xs
 | [], _ => rfl
 | (i, x) :: r, h => by simp only [kQ, h x (by simp), pK (xs := r) (fun y z => h y (yk _ z))]
theorem wM {ρ ρ' : Operand → Option AV} {x : Option Operand} (h : ∀ y, x = some y → ρ' y = ρ y) : CA ρ' x = CA ρ x := by
 cases x with
 | none => rfl
 | some y => simp only [CA, h y rfl]
theorem OP {C : bZ} {boxed raw vars : Bool} {o : Oper} {ρ ρ' : Operand → Option AV} {rs : Nat} (h : ∀ x ∈ o.op.operands, ρ' x = ρ x) : Iy P C boxed raw vars o ρ' mem rs = Iy P C boxed raw vars o ρ mem rs := by
 obtain ⟨dst, op, J, FL, H, guard⟩ := o
 cases op <;> simp only [Op.operands] at h <;> simp only [Iy, Dz, zV, Ht, z0, fC, yN, IJ, I0, MH, E6, AU, zW, kI, z5, yZ, oG, oH, Ee]
 case move x => simp only [rU, h x (by simp)]
 case assign x => simp only [rU, h x (by simp)]
 case build t ps => rw [pK (fun x hx => h x (by simpa using hx))]
 case buildSlice t n ps => rw [pK (fun x hx => h x (by simpa using hx))]
 case makeFunc fn first captured =>
  rw [oW (xs := first.toList) fun x hx => h x (by simp at hx ⊢; exact .inl hx), oW (xs := captured.toList) fun x hx => h x (by simp at hx ⊢; exact .inr hx)]
 case slice t x lo hi mx =>
  rw [h x (by simp), wM (x := lo) fun y z => h y (by simp [z]), wM (x := hi) fun y z => h y (by simp [z]), wM (x := mx) fun y z => h y (by simp [z])]
 case call c =>
  obtain ⟨A, args, ts⟩ := c
  simp only [Call.operands] at h
  rw [oW (xs := args.toList) fun x hx => h x (by simp at hx ⊢; exact .inr hx)]
  cases A with
  | builtin b => rfl
  | value f => simp only [h f (by simp)]
  | invoke r m => rfl
 all_goals (first | rfl | (simp_all; done))
end
end Go.Ab
end
section
namespace Go.Ab
variable [cD]
structure kN where
 v : AV
 wr : List (Nat × d8)
 push : a9
 tr : Option Tr
noncomputable def kN.app (e : kN) (dst : Option Tmp) (st : St) : St := { tmps := lD st.tmps dst e.v, mem := aP st.mem e.wr ++ e.push }
section
variable {P : Program}
inductive iX (P : Program) (C : bZ) (an : mQ) (rid : Nat) (ops : Array Oper) (o : Oper) (i rs : Nat) (st : St) : kN → Prop
 | run (out : eL) (hres : eA o.op = true → vH st.mem rs = true) (h : Iy P C (cH rid i an.boxed) (cH rid i an.raw) (cH rid i an.vars) o (fR st.tmps) st.mem rs = some out)
   (hg : ∀ j want, o.guard = some (j, want) → ∃ d, (ops[j]?).bind (·.dst) = some d ∧ st.tmps[d]? = some (.lit (.bool want))) :
   iX P C an rid ops o i rs st { v := out.v, wr := out.wr, push := out.push, tr := some (out.tr (eA o.op) rs i o.op st.mem) }
 | skip (j : Nat) (want : Bool) (d : Nat) (hg : o.guard = some (j, want)) (hd : (ops[j]?).bind (·.dst) = some d)
   (h : st.tmps[d]? = some (.lit (.bool (!want))) ∨ ∃ x, st.tmps[d]? = some (.lit (.tuple x))) : iX P C an rid ops o i rs st { v := .lit undef, wr := [], push := [], tr := none }
theorem Same.eq {st z : St} (h : z.mem = st.mem ∧ ∀ t : Nat, z.tmps[t]? = st.tmps[t]?) : z = st := by
 obtain ⟨t1, m1⟩ := z
 obtain ⟨t, m⟩ := st
 simp only at h
 obtain ⟨rfl, h⟩ := h
 rw [List.ext_getElem? h]
variable {C : bZ} {an : mQ} {rid : Nat} {ops : Array Oper}
theorem rD.two {o : Oper} {i rs : Nat} {st J : St} {t : Option Tr} (h : rD P C an rid ops o i rs st J t) : ∃ e, iX P C an rid ops o i rs st e ∧ e.tr = t ∧ J = e.app o.dst st := by
 cases h with
 | run out M z H O K =>
  obtain rfl := Same.eq z
  exact ⟨_, .run out H O K, rfl, rfl⟩
 | skip M z j A d K N h =>
  obtain rfl := Same.eq z
  exact ⟨_, .skip j A d K N h, rfl, by simp [kN.app, aP]⟩
theorem iX.one {o : Oper} {i rs : Nat} {st : St} {e : kN} (h : iX P C an rid ops o i rs st e) : rD P C an rid ops o i rs st (e.app o.dst st) e.tr := by
 cases h with
 | run out A J H => exact .run out st ⟨rfl, fun _ => rfl⟩ A J H
 | skip j z d H K h =>
  have := rD.skip (P := P) (C := C) (an := an) (rid := rid) (ops := ops) (o := o) (i := i) (rs := rs) (st := st) st ⟨rfl, fun _ => rfl⟩ j z d H K h
  simpa [kN.app, aP] using this
def M8 (ops : Array Oper) (o : Oper) (d : Nat) : Prop := d ∈ o.looksAt ops
def PH (L : Nat) (all : List Tr) (e : kN) (b : Nat) : Prop := ∃ t, e.tr = some t ∧ (b ∈ (Ff L all t).rd ∨ b ∈ t.wr)
def qU (S F : Nat → Prop) (st st' : St) : Prop := (∀ d : Nat, S d → st'.tmps[d]? = st.tmps[d]?) ∧ (∀ b : Nat, F b → st'.mem[b]? = st.mem[b]?)
theorem It {v : AV} {q : Nat × Nat × Nat × Nat} (h : m6 v = some q) : v = .ptr q.1 q.2.1 q.2.2.1 q.2.2.2 := by
 unfold m6 at h
 split at h
 ·cases h; rfl
 ·cases h
theorem M6 {t : TypeId} {mem mem' : a9} {a : AV} {out : eL} (h : jJ P t mem a = some out) (U : (m6 out.v).isSome = true) {b : Nat} (V : out.rd = [b]) (N : (bB mem b).isSome = true) (H : bB mem' b = bB mem b) : jJ P t mem' a = some out := by
 unfold jJ at h ⊢
 cases a with
 | ptr Y g i c =>
  simp only at h ⊢
  rw [bind_some] at h
  obtain ⟨bx, z, h⟩ := h
  unfold box? at z
  split at z
  ·rename_i x hx
   have M : Nat.beq x.gen g = true := by
    cases M : Nat.beq x.gen g with
    | true => rfl
    | false => rw [M] at z; cases z
   rw [M] at z
   obtain rfl := yb (show some x = some bx from z)
   split at h
   ·rename_i e cs A
    rw [bind_some] at h
    obtain ⟨ag, hag, h⟩ := h
    cases ag with
    | true =>
     simp only [yg] at h
     rw [bind_some] at h
     obtain ⟨n, _, h⟩ := h
     rw [aB] at h
     obtain rfl := (yb h.2)
     simp [m6] at U
    | false =>
     simp only [ye] at h
     obtain ⟨v, hv, rfl⟩ := yf.1 h
     obtain rfl : Y = b := by simpa using V
     obtain ⟨q, hq⟩ := Option.isSome_iff_exists.1 U
     have hc1 : bB mem Y = some (x.gen, e, cs.map m6) := by unfold bB gZ; rw [hx]; simp only [A]
     rw [hc1] at H
     unfold bB at H
     split at H
     ·rename_i x' Z
      unfold gZ at H
      split at H
      ·rename_i e' K J
       obtain ⟨hg', he', hl'⟩ : x'.gen = x.gen ∧ e' = e ∧ K.map m6 = cs.map m6 := by
        have := yb H
        simp only [Prod.mk.injEq] at this
        exact this
       unfold box?
       rw [Z]
       simp only [hg', M, yg, ya, J, he', hag, ye]
       have : (K.map m6)[i * e + c]? = some (some q) := by rw [hl', yh1, hv]; simp [hq]
       rw [yh1] at this
       obtain ⟨v', W, O⟩ := yf.1 this
       rw [W, yo, It O, show v = _ from It hq]
      ·cases H
     ·cases H
   ·rename_i k xs A
    rw [aB] at h; obtain ⟨_, h⟩ := h
    rw [aB] at h; obtain ⟨_, h⟩ := h
    obtain ⟨y, _, rfl⟩ := yf.1 h
    simp [m6] at U
   ·rename_i β e xs A
    rw [bind_some] at h; obtain ⟨y, _, h⟩ := h
    obtain ⟨u, _, rfl⟩ := yf.1 h
    obtain rfl : Y = b := by simpa using V
    unfold bB gZ at N
    rw [hx] at N
    simp only [A] at N
    cases N
  ·cases z
 | el β p c =>
  simp only at h
  obtain ⟨u, _, rfl⟩ := yf.1 h
  cases V
 | _ => cases h
theorem Nq {op : Op} {mem : a9} {v : AV} {rd : List Nat} (h : Mm op mem v rd = true) : (∃ t a, op = .load t a) ∧ (m6 v).isSome = true ∧ ∃ b, rd = [b] ∧ (bB mem b).isSome = true := by
 unfold Mm at h
 simp only [yc] at h
 obtain ⟨⟨h1, h2⟩, z⟩ := h
 refine ⟨?_, ?_, ?_⟩
 ·unfold JF at h1
  split at h1
  ·exact ⟨_, _, rfl⟩
  ·cases h1
 ·split at h2
  ·rename_i q A; rw [A]; rfl
  ·cases h2
 ·split at z
  ·rename_i b
   refine ⟨b, rfl, ?_⟩
   split at z
   ·rename_i q A; rw [A]; rfl
   ·cases z
  ·cases z
theorem N1 {L : Nat} {all : List Tr} {t : Tr} : (Ff L all t).rd = t.rd ∨ (t.rc = true ∧ ∃ b, t.rd = [b] ∧ J5 L all b = true) := by
 unfold Ff
 cases h : (t.rc && (match t.rd with | [b] => J5 L all b | _ => false)) with
 | false => left; rfl
 | true =>
  right
  simp only [yc] at h
  refine ⟨h.1, ?_⟩
  have h2 := h.2
  split at h2
  ·rename_i b z; exact ⟨b, z, h2⟩
  ·cases h2
theorem iF {L : Nat} {all : List Tr} {t : Tr} : (Ff L all t).i = t.i ∧ (Ff L all t).wr = t.wr ∧ (Ff L all t).push = t.push := by
 unfold Ff
 cases (t.rc && (match t.rd with | [b] => J5 L all b | _ => false)) <;> exact ⟨rfl, rfl, rfl⟩
theorem iX.agree {L : Nat} {all : List Tr} {o : Oper} {i rs : Nat} {st A : St} {e : kN} (h : iX P C an rid ops o i rs st e) (hA : qU (M8 ops o) (PH L all e) st A) (hl : mC o = true → A.mem.length = st.mem.length)
  (hK : ∀ t b, e.tr = some t → J5 L all b = true → t.rc = true → t.rd = [b] → bB A.mem b = bB st.mem b) : ∃ Z, iX P C an rid ops o i rs A Z ∧ Z.v = e.v ∧ Z.wr = e.wr ∧ Z.push = e.push := by
 have H : ∀ {j : Nat} {z : Bool} {d : Nat}, o.guard = some (j, z) → (ops[j]?).bind (·.dst) = some d → A.tmps[d]? = st.tmps[d]? := by
  intro j z d O M
  refine hA.1 d ?_
  unfold M8 Oper.looksAt
  rw [O]
  refine ys1 _ ?_
  simp [M]
 cases h with
 | run out U K O =>
  refine ⟨_, .run out (fun hm => ?_) ?_ (fun j z h => ?_), rfl, rfl, rfl⟩
  ·have := U hm
   unfold vH at this ⊢
   rw [hA.2 rs ⟨_, rfl, .inr (by simp [eL.tr, hm])⟩]; exact this
  ·have h1 : Iy P C (cH rid i an.boxed) (cH rid i an.raw) (cH rid i an.vars) o (fR st.tmps) A.mem rs = some out := by
    rcases N1 (L := L) (all := all) (t := out.tr (eA o.op) rs i o.op st.mem) with hrd | ⟨Y, b, J, W⟩
    ·exact Pm (mem' := A.mem) hl K (fun b J => hA.2 b ⟨_, rfl, .inl (by rw [hrd]; simpa [eL.tr] using J)⟩)
    ·obtain ⟨⟨t, a, hop⟩, hp, b', V, N⟩ := Nq (show Mm o.op st.mem out.v out.rd = true from Y)
     have J : out.rd = [b] := J
     obtain rfl : b = b' := by rw [J] at V; simpa using V
     have hke := hK _ b rfl W Y J
     unfold Iy at K ⊢
     rw [hop] at K ⊢
     simp only at K ⊢
     rw [bind_some] at K ⊢
     obtain ⟨x, hx, K⟩ := K
     exact ⟨x, hx, M6 K hp J N hke⟩
   rw [← h1]
   refine OP fun x hx => ?_
   cases x with
   | tmp t =>
    simp only [fR, BY, bU]
    rw [hA.1 t]
    unfold M8 Oper.looksAt
    exact yr1 _ (List.mem_filterMap.2 ⟨.tmp t, by simpa using hx, rfl⟩)
   | const v => rfl
   | func f => rfl
   | global g => rfl
  ·obtain ⟨d, M, J⟩ := O j z h
   exact ⟨d, M, by rw [H h M]; exact J⟩
 | skip j z d O M h =>
  refine ⟨_, .skip j z d O M ?_, rfl, rfl, rfl⟩
  rw [H O M]; exact h
noncomputable def cB (D : Nat → Bool) : Nat → List (Oper × kN) → St → St
 | _, [], st => st
 | i, (o, e) :: r, st => cB D (i + 1) r (bif D i then e.app o.dst st else st)
theorem mR {D D' : Nat → Bool} : ∀ {l : List (Oper × kN)} {i : Nat} {st : St}, (∀ k, i ≤ k → k < i + l.length → D k = D' k) → cB D i l st = cB D' i l st
 | [], i, st, _ => rfl
 | (o, e) :: r, i, st, h => by
  simp only [cB]
  rw [h i (yz _) (by simp)]
  exact mR fun k h1 h2 => h k (by omega) (by simp at h2 ⊢; omega)
inductive Bc (P : Program) (C : bZ) (an : mQ) (rid : Nat) (ops : Array Oper) : Nat → Nat → St → List (Oper × kN) → Prop
 | nil (i rs : Nat) (st : St) : Bc P C an rid ops i rs st []
 | cons (o : Oper) (e : kN) (r : List (Oper × kN)) (i rs : Nat) (st : St) (h : iX P C an rid ops o i rs st e) (hr : Bc P C an rid ops (i + 1) (bif eA o.op then rs + 1 else rs) (e.app o.dst st) r) :
   Bc P C an rid ops i rs st ((o, e) :: r)
variable {R : Type}
theorem CU {k : St → List Tr → Option R} {r : R} : ∀ {rest : List Oper} {i rs : Nat} {st : St} {tr : List Tr}, qK P C an rid (ops.toList.map (·.dst)) rest i rs st tr k = some r →
  ∃ l, l.map (·.1) = rest ∧ Bc P C an rid ops i rs st l ∧ k (cB (fun _ => true) i l st) ((l.filterMap (·.2.tr)).reverse ++ tr) = some r
 | [], i, rs, st, tr, h => ⟨[], rfl, .nil i rs st, by simpa [qK, cB] using h⟩
 | o :: rest, i, rs, st, tr, h => by
  obtain ⟨A, t, z, M⟩ := Fx h
  obtain ⟨e, K, rfl, rfl⟩ := z.two
  obtain ⟨l, hl, H, J⟩ := CU M
  refine ⟨(o, e) :: l, by simp [hl], .cons o e l i rs st K H, ?_⟩
  simp only [cB, yg]
  have : ((((o, e) :: l).filterMap (·.2.tr)).reverse ++ tr) = (l.filterMap (·.2.tr)).reverse ++ (e.tr.toList ++ tr) := by
   cases ht : e.tr with
   | none => simp [List.filterMap_cons, ht]
   | some t => simp [List.filterMap_cons, ht]
  rw [this]; exact J
theorem pF {D : Nat → Bool} : ∀ {l : List (Oper × kN)} {i : Nat} {st : St}, (∀ k, i ≤ k → D k = false) → cB D i l st = st
 | [], i, st, _ => rfl
 | (o, e) :: r, i, st, h => by
  simp only [cB, h i (yz _), ye]
  exact pF fun k hk => h k (by omega)
theorem Bc.get : ∀ {l : List (Oper × kN)} {i rs : Nat} {st : St} {j : Nat} {o : Oper} {e : kN}, Bc P C an rid ops i rs st l → l[j]? = some (o, e) → ∃ z, iX P C an rid ops o (i + j) z (cB (fun k => Nat.blt k (i + j)) i l st) e
 | [], i, rs, st, j, o, e, _, h => by simp at h
 | (M, e') :: l, i, rs, st, 0, o, e, A, h => by
  cases A with
  | cons _ _ _ _ _ _ h1 H =>
   simp at h; obtain ⟨rfl, rfl⟩ := h
   refine ⟨rs, ?_⟩
   rw [pF (fun k hk => by cases K : Nat.blt k (i + 0) with | false => rfl | true => simp [Nat.blt] at K; omega)]
   exact h1
 | (M, e') :: l, i, rs, st, j + 1, o, e, A, h => by
  cases A with
  | cons _ _ _ _ _ _ h1 H =>
   obtain ⟨z, J⟩ := H.get (j := j) (by simpa using h)
   refine ⟨z, ?_⟩
   rw [show i + 1 + j = i + (j + 1) by omega] at J
   simp only [cB]
   have : Nat.blt i (i + (j + 1)) = true := by simp [Nat.blt]
   rw [this]; exact J
theorem Ma {m z : a9} {b : Nat} (h : z[b]? = m[b]?) : ∀ {wr : List (Nat × d8)}, (aP z wr)[b]? = (aP m wr)[b]? := by
 intro wr
 induction wr generalizing m z with
 | nil => exact h
 | cons q r J =>
  obtain ⟨c, x⟩ := q
  simp only [aP]
  refine J ?_
  rw [List.getElem?_set, List.getElem?_set]
  by_cases H : c = b
  ·subst H
   simp only [if_true]
   by_cases hl : c < m.length
   ·have : c < z.length := by
     rcases yz1 c z.length with A | A
     ·exact A
     ·rw [ya1 A, yd hl] at h; cases h
    rw [if_pos hl, if_pos this]
   ·have : ¬ c < z.length := by
     intro A
     rw [yd A, ya1 (by omega)] at h; cases h
    rw [if_neg hl, if_neg this]
  ·rw [if_neg H, if_neg H]; exact h
theorem JP {m : a9} {b : Nat} : ∀ {wr : List (Nat × d8)}, (∀ q ∈ wr, q.1 ≠ b) → (aP m wr)[b]? = m[b]? := by
 intro wr
 induction wr generalizing m with
 | nil => intro _; rfl
 | cons q r A =>
  obtain ⟨c, x⟩ := q
  intro h
  simp only [aP]
  rw [A (fun q z => h q (yk _ z)), yg1 (h (c, x) (yn ..))]
theorem J3 {m : a9} {c : Nat} {x : Option d8} : ∀ {wr : List (Nat × d8)}, (∀ q ∈ wr, q.1 ≠ c) → aP (m.set c x) wr = (aP m wr).set c x := by
 intro wr
 induction wr generalizing m with
 | nil => intro _; rfl
 | cons q r A =>
  obtain ⟨d, y⟩ := q
  intro h
  simp only [aP]
  rw [List.set_comm _ _ (fun e => h (d, y) (yn ..) e.symm), A (fun q z => h q (yk _ z))]
theorem IN {m : a9} {a : List (Nat × d8)} : ∀ {b : List (Nat × d8)}, (∀ q ∈ b, ∀ z ∈ a, q.1 ≠ z.1) → aP (aP m a) b = aP (aP m b) a := by
 intro b
 induction b generalizing m with
 | nil => intro _; rfl
 | cons q r J =>
  obtain ⟨c, x⟩ := q
  intro h
  simp only [aP]
  rw [← J (fun q H => h q (yk _ H)), J3 (fun z A e => h (c, x) (yn ..) z A e.symm)]
theorem Af {m p : a9} : ∀ {wr : List (Nat × d8)}, (∀ q ∈ wr, q.1 < m.length) → aP (m ++ p) wr = aP m wr ++ p := by
 intro wr
 induction wr generalizing m with
 | nil => intro _; rfl
 | cons q r A =>
  obtain ⟨c, x⟩ := q
  intro h
  simp only [aP]
  rw [List.set_append_left _ _ (h (c, x) (yn ..)), A (fun q z => by simpa using h q (yk _ z))]
structure OT (L : Nat) (d1 d2 : Option Tmp) (e1 e2 : kN) : Prop where
 dst : ∀ d, d1 = some d → d2 ≠ some d
 wr : ∀ q ∈ e1.wr, ∀ q' ∈ e2.wr, q.1 ≠ q'.1
 push : e1.push = [] ∨ e2.push = []
 low1 : e1.push ≠ [] → ∀ q ∈ e2.wr, q.1 < L
 low2 : e2.push ≠ [] → ∀ q ∈ e1.wr, q.1 < L
theorem Md {tmps : List AV} {z A : Option Tmp} {H J : AV} (h : ∀ d, z = some d → A ≠ some d) : lD (lD tmps z H) A J = lD (lD tmps A J) z H := by
 cases z with
 | none => rfl
 | some a =>
  cases A with
  | none => rfl
  | some b => simp only [lD, eF]; rw [List.set_comm _ _ (fun e => h a rfl (by rw [e]))]
theorem kN.comm {L : Nat} {N M : Option Tmp} {H A : kN} {st : St} (hm : OT L N M H A) (hl : st.mem.length = L ∨ (H.push = [] ∧ A.push = [])) : A.app M (H.app N st) = H.app N (A.app M st) := by
 have J : aP (aP st.mem H.wr ++ H.push) A.wr ++ A.push = aP (aP st.mem A.wr ++ A.push) H.wr ++ H.push := by
  have z := IN (m := st.mem) (a := H.wr) (b := A.wr) (fun q K U O e => hm.wr U O q K e.symm)
  by_cases h1 : H.push = []
  ·by_cases h2 : A.push = []
   ·rw [h1, h2]; simp only [yu1]; exact z
   ·rcases hl with hl | ⟨_, h⟩
    ·rw [h1]; simp only [yu1]
     rw [Af (m := aP st.mem A.wr) (fun q K => by rw [bQ, hl]; exact hm.low2 h2 q K), z]
    ·exact absurd h h2
  ·rcases hl with hl | ⟨h, _⟩
   ·have h2 : A.push = [] := hm.push.resolve_left h1
    rw [h2]; simp only [yu1]
    rw [Af (m := aP st.mem H.wr) (fun q K => by rw [bQ, hl]; exact hm.low1 h1 q K), z]
   ·exact absurd h h1
 simp only [kN.app, J, Md hm.dst]
end
end Go.Ab
end
section
namespace Go.Ab
variable [cD]
def Ak (ops : Array Oper) (D : Nat → Bool) : Prop := ∀ (j : Nat) (o : Oper), ops[j]? = some o → ∀ e ∈ o.after, Region.binds .any e = true → D j = true → D e.on = true
theorem wN {acc : List Nat} : ∀ {J : List Edge} {i : Nat}, (AE acc J).testBit i = true → ∃ e ∈ J, Region.binds .any e = true ∧ (i = e.on ∨ (acc.getD e.on 0).testBit i = true)
 | [], i, h => by simp [AE] at h
 | e :: r, i, h => by
  simp only [AE] at h
  cases z : Region.binds .any e with
  | true =>
   rw [z] at h; simp only [yg, Nat.testBit_or, yc2] at h
   rcases h with (h | h) | h
   ·refine ⟨e, yn .., z, .inl ?_⟩
    rw [Nat.testBit_two_pow] at h
    exact (of_decide_eq_true h).symm
   ·exact ⟨e, yn .., z, .inr h⟩
   ·obtain ⟨H, A, h1, h2⟩ := wN h
    exact ⟨H, yk _ A, h1, h2⟩
  | false =>
   rw [z] at h; simp only [ye] at h
   obtain ⟨H, A, h1, h2⟩ := wN h
   exact ⟨H, yk _ A, h1, h2⟩
theorem rC {i : Nat} : ∀ {H : List Edge}, zL i H = true → ∀ e ∈ H, Region.binds .any e = true → e.on < i
 | [], _, e, z, _ => by simp at z
 | x :: r, h, e, z, A => by
  simp only [zL, yc, yc2, yy] at h
  rcases yq1.1 z with rfl | z
  ·rcases h.1 with h1 | h1
   ·rw [A] at h1; cases h1
   ·simp [Nat.blt] at h1; omega
  ·exact rC h.2 e z A
theorem nJ : ∀ {l : List Oper} {i j : Nat} {o : Oper}, iS l i = true → l[j]? = some o → zL (i + j) o.after.toList = true
 | [], i, j, o, _, h => by simp at h
 | x :: r, i, 0, o, h, z => by
  simp only [iS, yc] at h
  simp at z; subst z; exact h.1
 | x :: r, i, j + 1, o, h, z => by
  simp only [iS, yc] at h
  have := nJ (j := j) h.2 (by simpa using z)
  rw [show i + (j + 1) = i + 1 + j by omega]; exact this
theorem H4 {ops : Array Oper} (hE : iS ops.toList 0 = true) : ∀ {l : List Oper} {acc : List Nat}, ops.toList.drop acc.length = l → acc.length ≤ ops.size →
  (∀ j i, j < acc.length → (acc.getD j 0).testBit i = true → i < j ∧ ∀ D, Ak ops D → D j = true → D i = true) →
  ∀ j i, ((Az l acc).getD j 0).testBit i = true → i < j ∧ j < ops.size ∧ ∀ D, Ak ops D → D j = true → D i = true
 | [], acc, H, U, h => by
  intro j i z
  simp only [Az] at z
  by_cases N : j < acc.length
  ·exact ⟨(h j i N z).1, by omega, (h j i N z).2⟩
  ·rw [yl, ya1 (by omega)] at z; simp at z
 | o :: r, acc, H, U, h => by
  simp only [Az]
  have W : ops[acc.length]? = some o := by
   have : (ops.toList.drop acc.length)[0]? = some o := by rw [H]; rfl
   rw [yd1, yp2, yk1] at this; exact this
  have Z : acc.length < ops.size := (ys2.1 W).1
  refine H4 hE (l := r) (by rw [yi, ← List.drop_drop, H]; rfl) (by simp; omega) fun j i N z => ?_
  by_cases K : j < acc.length
  ·rw [yl, yq K, ← yl] at z
   exact h j i K z
  ·have V : j = acc.length := by simp at N; omega
   subst V
   rw [yl, yt (yz _)] at z
   simp only [Nat.sub_self, yx2, Option.getD_some] at z
   obtain ⟨e, Y, A, O⟩ := wN z
   have J := rC (by have := nJ (j := acc.length) hE (by rw [yk1]; exact W); rwa [yj1] at this) e Y A
   have M : ∀ D, Ak ops D → D acc.length = true → D e.on = true := fun D hD H => hD acc.length o W e (by simpa using Y) A H
   rcases O with rfl | O
   ·exact ⟨J, M⟩
   ·obtain ⟨h1, h2⟩ := h e.on i J O
    exact ⟨by omega, fun D hD H => h2 D hD (M D hD H)⟩
theorem zQ {ops : Array Oper} (hE : iS ops.toList 0 = true) {j i : Nat} (h : ((Az ops.toList []).getD j 0).testBit i = true) : i < j ∧ ∀ D, Ak ops D → D j = true → D i = true := by
 obtain ⟨h1, _, h2⟩ := H4 hE (l := ops.toList) (acc := []) (by simp) (by simp) (fun j i z _ => by simp at z) j i h
 exact ⟨h1, h2⟩
theorem El : ∀ {n a j : Nat}, a ≤ j → j < a + n → j ∈ iJ a n
 | 0, a, j, h1, h2 => by omega
 | n + 1, a, j, h1, h2 => by
  simp only [iJ]
  rcases yz1 a j with h | h
  ·exact yk _ (El (by omega) (by omega))
  ·obtain rfl : j = a := by omega
   exact yn ..
theorem yU {ops : Array Oper} {bs : List Nat} {i : Nat} : ∀ {l : List Nat}, w7 ops bs i l = true → ∀ j ∈ l, dZ bs i j = true ∨ zT ops i j = true
 | [], _, j, z => by simp at z
 | x :: r, h, j, z => by
  simp only [w7, yc, yc2] at h
  rcases yq1.1 z with rfl | z
  ·exact h.1
  ·exact yU h.2 j z
theorem p5 {ops : Array Oper} {bs : List Nat} : ∀ {n a i j : Nat}, z9 ops bs (iJ a n) = true → a ≤ i → i < j → j < a + n → dZ bs i j = true ∨ zT ops i j = true
 | 0, a, i, j, _, h1, h2, A => by omega
 | n + 1, a, i, j, h, h1, h2, A => by
  simp only [iJ, z9, yc] at h
  rcases yz1 a i with z | H
  ·exact p5 h.2 (by omega) h2 (by omega)
  ·obtain rfl : i = a := by omega
   exact yU h.1 j (El (by omega) (by omega))
theorem Bt {bs : List Nat} {i : Nat} : ∀ {l : List Oper} {s j : Nat} {o : Oper}, sQ bs i l s = true → l[j]? = some o → i = s + j ∨ dZ bs i (s + j) = true ∨ mC o = false
 | [], s, j, o, _, h => by simp at h
 | x :: r, s, 0, o, h, z => by
  simp only [sQ, yc, yc2, yy] at h
  simp at z; subst z
  rcases h.1 with (h | h) | h
  ·exact .inl (cX.1 h)
  ·exact .inr (.inl h)
  ·exact .inr (.inr h)
 | x :: r, s, j + 1, o, h, z => by
  simp only [sQ, yc] at h
  have := Bt (j := j) h.2 (by simpa using z)
  rw [show s + (j + 1) = s + 1 + j by omega]; exact this
theorem Eo {ops : Array Oper} {bs : List Nat} : ∀ {l : List Tr}, Hk ops bs l = true → ∀ a ∈ l, a.push = true → sQ bs a.i ops.toList 0 = true
 | [], _, a, z, _ => by simp at z
 | x :: r, h, a, z, A => by
  simp only [Hk, yc, yc2, yy] at h
  rcases yq1.1 z with rfl | z
  ·rcases h.1 with h1 | h1
   ·rw [A] at h1; cases h1
   ·exact h1
  ·exact Eo h.2 a z A
structure FX (bs : List Nat) (L : Nat) (a b : Tr) : Prop where
 push : a.push = true → b.push = true → False
 far : dZ bs a.i b.i = false → (∀ x ∈ a.wr, x ∉ b.rd) ∧ (∀ x ∈ a.rd, x ∉ b.wr) ∧ (∀ x ∈ a.wr, x ∉ b.wr) ∧ (a.push = true → (∀ x ∈ b.rd, x < L) ∧ ∀ x ∈ b.wr, x < L) ∧ (b.push = true → (∀ x ∈ a.rd, x < L) ∧ ∀ x ∈ a.wr, x < L)
theorem oL {m : Nat} : ∀ {l : List Nat}, fI m l = true → ∀ b ∈ l, b < m
 | [], _, b, h => by simp at h
 | x :: r, h, b, z => by
  simp only [fI, yc] at h
  rcases yq1.1 z with rfl | z
  ·have := h.1; simp [Nat.blt] at this; omega
  ·exact oL h.2 b z
theorem H7 {bs : List Nat} {L : Nat} {a : Tr} : ∀ {l : List Tr}, Ow bs L a l = true → ∀ b ∈ l, FX bs L a b
 | [], _, b, h => by simp at h
 | x :: r, h, b, H => by
  simp only [Ow, yc] at h
  rcases yq1.1 H with rfl | H
  ·refine ⟨fun h1 h2 => by have := h.1.1; rw [h1, h2] at this; simp at this, fun K => ?_⟩
   have := h.1.2
   rw [K] at this
   simp only [yl3, yc, yc2, yy] at this
   obtain ⟨⟨⟨⟨h1, h2⟩, M⟩, A⟩, z⟩ := this
   refine ⟨s1 h1, s1 h2, s1 M, fun J => ?_, fun J => ?_⟩
   ·rcases A with A | A
    ·rw [J] at A; cases A
    ·exact ⟨oL A.1, oL A.2⟩
   ·rcases z with z | z
    ·rw [J] at z; cases z
    ·exact ⟨oL z.1, oL z.2⟩
  ·exact H7 h.2 b H
theorem qX {bs : List Nat} {L : Nat} : ∀ {l : List Tr}, KQ bs L l = true → l.Pairwise (FX bs L)
 | [], _ => .nil
 | a :: r, h => by
  simp only [KQ, yc] at h
  exact .cons (H7 h.1) (qX h.2)
theorem pH {bs : List Nat} {i j : Nat} : dZ bs i j = dZ bs j i := by unfold dZ; rw [Bool.or_comm]
theorem FX.symm {bs : List Nat} {L : Nat} {a b : Tr} (h : FX bs L a b) : FX bs L b a :=
 ⟨fun h1 h2 => h.push h2 h1, fun A => by
  obtain ⟨h1, h2, H, K, J⟩ := h.far (by rw [pH]; exact A)
  exact ⟨fun x hx z => h2 x z hx, fun x hx z => h1 x z hx, fun x hx z => H x z hx, J, K⟩⟩
section
variable {P : Program} {C : bZ} {an : mQ} {rid : Nat} {ops : Array Oper}
theorem iX.facts {o : Oper} {i rs : Nat} {st : St} {e : kN} (h : iX P C an rid ops o i rs st e) :
  (∀ q ∈ e.wr, ∃ t, e.tr = some t ∧ q.1 ∈ t.wr) ∧ (e.push ≠ [] → ∃ t, e.tr = some t ∧ t.push = true) ∧ (∀ t, e.tr = some t → t.i = i) := by
 cases h with
 | run out J ho K =>
  refine ⟨fun q z => ⟨_, rfl, ?_⟩, fun A => ⟨_, rfl, ?_⟩, fun t ht => ?_⟩
  ·simp only [eL.tr]
   cases eA o.op with
   | true => simp only [yg]; exact yk _ (yc3.2 ⟨q, z, rfl⟩)
   | false => simp only [ye]; exact yc3.2 ⟨q, z, rfl⟩
  ·show (match out.push with | [] => false | _ => true) = true
   split
   ·rename_i M; exact absurd M A
   ·rfl
  ·cases ht; rfl
 | skip j H d K hd h => exact ⟨fun q z => by simp at z, fun A => absurd rfl A, fun t ht => by cases ht⟩
structure Ce (S F : Nat → Prop) (L : Nat) (o : Oper) (e : kN) : Prop where
 dst : ∀ d, o.dst = some d → ¬ S d
 wr : ∀ q ∈ e.wr, ¬ F q.1
 push : e.push ≠ [] → ∀ b, F b → b < L
theorem sP (e : kN) (d : Option Tmp) (st : St) : (e.app d st).mem.length = st.mem.length + e.push.length := by simp [kN.app, bQ]
theorem qU.symm {S F : Nat → Prop} {st z : St} (h : qU S F st z) : qU S F z st := ⟨fun d H => (h.1 d H).symm, fun b A => (h.2 b A).symm⟩
theorem FS {S F : Nat → Prop} {L : Nat} {o : Oper} {e : kN} {st z : St} (h : qU S F st z) (hn : Ce S F L o e) (hl : e.push ≠ [] → z.mem.length = L) : qU S F st (e.app o.dst z) := by
 refine ⟨fun d M => ?_, fun b K => ?_⟩
 ·rw [← h.1 d M]
  simp only [kN.app]
  cases H : o.dst with
  | none => rfl
  | some t =>
   simp only [lD, eF]
   exact yg1 (fun e => hn.dst t H (by rw [e]; exact M))
 ·rw [← h.2 b K]
  simp only [kN.app]
  have A : (aP z.mem e.wr)[b]? = z.mem[b]? := JP fun q N e => hn.wr q N (by rw [e]; exact K)
  by_cases J : e.push = []
  ·rw [J, yu1]; exact A
  ·rw [yq (by rw [bQ, hl J]; exact hn.push J b K)]; exact A
theorem Jl {S F : Nat → Prop} {d : Option Tmp} {e : kN} {st z : St} (h : qU S F st z) (hl : e.push ≠ [] → z.mem.length = st.mem.length) : qU S F (e.app d st) (e.app d z) := by
 refine ⟨fun t ht => ?_, fun b N => ?_⟩
 ·simp only [kN.app]
  cases d with
  | none => exact h.1 t ht
  | some d =>
   simp only [lD, eF]
   have := h.1 t ht
   rw [List.getElem?_set, List.getElem?_set]
   by_cases J : d = t
   ·subst J
    simp only [if_true]
    by_cases hl : d < st.tmps.length
    ·have A : d < z.tmps.length := by
      rcases yz1 d z.tmps.length with A | A
      ·exact A
      ·rw [ya1 A, yd hl] at this; cases this
     rw [if_pos hl, if_pos A]
    ·have A : ¬ d < z.tmps.length := by
      intro A
      rw [yd A, ya1 (Nat.le_of_not_lt hl)] at this; cases this
     rw [if_neg hl, if_neg A]
   ·rw [if_neg J, if_neg J]; exact this
 ·simp only [kN.app]
  have M : (aP z.mem e.wr)[b]? = (aP st.mem e.wr)[b]? := Ma (h.2 b N)
  by_cases K : e.push = []
  ·rw [K, yu1, yu1]; exact M
  ·have hl := hl K
   by_cases H : b < st.mem.length
   ·rw [yq (by rw [bQ, hl]; exact H), yq (by rw [bQ]; exact H)]; exact M
   ·rw [yt (by rw [bQ, hl]; omega), yt (by rw [bQ]; omega), bQ, bQ, hl]
def nX (l : List (Oper × kN)) : Prop := ∀ q ∈ l, q.2.push = []
def x9 (l : List (Oper × kN)) : Prop := l.Pairwise fun a b => a.2.push = [] ∨ b.2.push = []
theorem mB {S F : Nat → Prop} {L : Nat} {D D' : Nat → Bool} : ∀ {l : List (Oper × kN)} {i : Nat} {st A : St}, (st.mem.length = L ∨ nX l) → (A.mem.length = L ∨ nX l) → x9 l →
  (∀ k o e, l[k]? = some (o, e) → D (i + k) ≠ D' (i + k) → Ce S F L o e) → qU S F st A → qU S F (cB D i l st) (cB D' i l A)
 | [], i, st, A, _, _, _, _, h => h
 | (o, e) :: r, i, st, A, hl, z, ho, hn, h => by
  simp only [cB]
  have h1 : ∀ {s : St}, (s.mem.length = L ∨ nX ((o, e) :: r)) → (e.push ≠ [] → s.mem.length = L) := by
   intro s H J
   rcases H with H | H
   ·exact H
   ·exact absurd (H (o, e) (yn ..)) J
  have U : e.push ≠ [] → nX r := by
   intro J q V
   have := List.pairwise_cons.1 ho
   exact (this.1 q V).resolve_left J
  have h2 : ∀ {s : St}, (s.mem.length = L ∨ nX ((o, e) :: r)) → ((e.app o.dst s).mem.length = L ∨ nX r) := by
   intro s H
   by_cases J : e.push = []
   ·rw [sP, J]
    exact H.imp (fun h => by simpa using h) (fun h q V => h q (yk _ V))
   ·exact .inr (U J)
  have Z : ∀ {s : St}, (s.mem.length = L ∨ nX ((o, e) :: r)) → (s.mem.length = L ∨ nX r) := fun H => H.imp id (fun h q V => h q (yk _ V))
  have M : ∀ k W Y, r[k]? = some (W, Y) → D (i + 1 + k) ≠ D' (i + 1 + k) → Ce S F L W Y := fun k W Y hk hne => hn (k + 1) W Y (by simpa using hk) (by rw [show i + (k + 1) = i + 1 + k by omega]; exact hne)
  have K := (List.pairwise_cons.1 ho).2
  cases hD : D i with
  | true =>
   cases N : D' i with
   | true => exact mB (h2 hl) (h2 z) K M (Jl h (fun J => by rw [h1 hl J, h1 z J]))
   | false =>
    have O := hn 0 o e rfl (by rw [yp2, hD, N]; simp)
    exact mB (h2 hl) (Z z) K M (FS h.symm O (h1 hl)).symm
  | false =>
   cases N : D' i with
   | true =>
    have O := hn 0 o e rfl (by rw [yp2, hD, N]; simp)
    exact mB (Z hl) (h2 z) K M (FS h O (h1 z))
   | false => exact mB (Z hl) (Z z) K M h
theorem Do {D D' : Nat → Bool} : ∀ {l : List (Oper × kN)} {i : Nat} {st z : St}, z.mem.length = st.mem.length → (∀ k o e, l[k]? = some (o, e) → e.push ≠ [] → D (i + k) = D' (i + k)) → (cB D' i l z).mem.length = (cB D i l st).mem.length
 | [], i, st, z, h, _ => h
 | (o, e) :: r, i, st, z, h, hn => by
  simp only [cB]
  refine Do ?_ (fun k J K H A => by have := hn (k + 1) J K (by simpa using H) A; rwa [show i + (k + 1) = i + 1 + k by omega] at this)
  by_cases A : e.push = []
  ·cases D i <;> cases D' i <;> simp only [yg, ye, sP, A, yd3, yp2] <;> exact h
  ·have := hn 0 o e rfl A
   rw [yp2] at this
   rw [this]
   cases D' i <;> simp only [yg, ye, sP, h]
theorem pP {D : Nat → Bool} : ∀ {a b : List (Oper × kN)} {i : Nat} {st : St}, cB D i (a ++ b) st = cB D (i + a.length) b (cB D i a st)
 | [], b, i, st => rfl
 | (o, e) :: a, b, i, st => by
  simp only [yp3, cB, ye1]
  rw [pP, show i + 1 + a.length = i + (a.length + 1) by omega]
theorem Ec {L : Nat} {D : Nat → Bool} {e : kN} {d : Option Tmp} : ∀ {l : List (Oper × kN)} {i : Nat} {st : St}, (st.mem.length = L ∨ (e.push = [] ∧ nX l)) → x9 l → (∀ q ∈ l, e.push = [] ∨ q.2.push = []) →
  (∀ k M K, l[k]? = some (M, K) → D (i + k) = true → OT L d M.dst e K) → cB D i l (e.app d st) = e.app d (cB D i l st)
 | [], i, st, _, _, _, _ => rfl
 | (M, K) :: r, i, st, hl, Z, W, hm => by
  simp only [cB]
  have H := List.pairwise_cons.1 Z
  have N : ∀ k O U, r[k]? = some (O, U) → D (i + 1 + k) = true → OT L d O.dst e U := fun k O U hk Y => hm (k + 1) O U (by simpa using hk) (by rw [show i + (k + 1) = i + 1 + k by omega]; exact Y)
  have A : ∀ q ∈ r, e.push = [] ∨ q.2.push = [] := fun q J => W q (yk _ J)
  cases hD : D i with
  | true =>
   simp only [yg]
   have z := hm 0 M K rfl (by rw [yp2]; exact hD)
   rw [kN.comm z (hl.imp id (fun h => ⟨h.1, h.2 (M, K) (yn ..)⟩))]
   refine Ec (L := L) ?_ H.2 A N
   by_cases V : K.push = []
   ·rw [sP, V]
    exact hl.imp (fun h => by simpa using h) (fun h => ⟨h.1, fun q J => h.2 q (yk _ J)⟩)
   ·exact .inr ⟨z.push.resolve_right V, fun q J => (H.1 q J).resolve_left V⟩
  | false =>
   simp only [ye]
   exact Ec (L := L) (hl.imp id (fun h => ⟨h.1, fun q J => h.2 q (yk _ J)⟩)) H.2 A N
end
end Go.Ab
end
section
namespace Go.Ab
variable [cD]
section
variable {P : Program} {C : bZ} {an : mQ} {rid : Nat} {ops : Array Oper} {R : Type}
theorem Mg {D : Nat → Bool} {n : Nat} (h : ∃ i, i < n ∧ D i = false) : ∃ i, i < n ∧ D i = false ∧ ∀ j, j < i → D j = true := by
 obtain ⟨i, ⟨A, H⟩, z⟩ := Em (p := fun i => i < n ∧ D i = false) h
 refine ⟨i, A, H, fun j hj => ?_⟩
 cases hD : D j with
 | true => rfl
 | false => have := z j ⟨by omega, hD⟩; omega
def left (D : Nat → Bool) : Nat → Nat
 | 0 => 0
 | n + 1 => left D n + (bif D n then 0 else 1)
theorem F3 {D : Nat → Bool} : ∀ {n : Nat}, left D n = 0 → ∀ i, i < n → D i = true
 | 0, _, i, h => by omega
 | n + 1, h, i, hi => by
  simp only [left] at h
  rcases yz1 i n with z | z
  ·exact F3 (by omega) i z
  ·obtain rfl : i = n := by omega
   cases hD : D i with
   | true => rfl
   | false => rw [hD] at h; simp at h
theorem Ix {D D' : Nat → Bool} {i : Nat} (hD : D i = false) (z : D' i = true) (A : ∀ j, j ≠ i → D' j = D j) : ∀ {n : Nat}, (i < n → left D n = left D' n + 1) ∧ (n ≤ i → left D n = left D' n)
 | 0 => ⟨fun h => by omega, fun _ => rfl⟩
 | n + 1 => by
  obtain ⟨h1, h2⟩ := Ix hD z A (n := n)
  refine ⟨fun h => ?_, fun h => ?_⟩
  ·simp only [left]
   rcases yz1 i n with H | H
   ·rw [h1 H, A n (by omega)]; omega
   ·obtain rfl : i = n := by omega
    rw [h2 (yz _), hD, z]; rfl
  ·simp only [left]
   rw [h2 (by omega), A n (by omega)]
theorem HH {D : Nat → Bool} : ∀ {n : Nat}, 0 < left D n → ∃ i, i < n ∧ D i = false
 | 0, h => by simp [left] at h
 | n + 1, h => by
  simp only [left] at h
  cases hD : D n with
  | false => exact ⟨n, Nat.lt_succ_self _, hD⟩
  | true =>
   rw [hD] at h; simp only [yg, yp2] at h
   obtain ⟨i, hi, z⟩ := HH h
   exact ⟨i, by omega, z⟩
theorem LB (n : Nat) : left (fun _ => false) n = n := by
 induction n with
 | zero => rfl
 | succ n h => simp [left, h]
def iZ (listed : Array Bool) : Nat → Bool := fun i => listed.getD i false
theorem Pr {x y : Option (Nat × Nat × Nat × Nat)} (h : Qo x y = true) : x = y := by
 unfold Qo at h
 split at h
 ·rfl
 ·simp only [yc] at h
  obtain ⟨⟨⟨h1, h2⟩, z⟩, A⟩ := h
  rw [cX.1 h1, cX.1 h2, cX.1 z, cX.1 A]
 ·cases h
theorem K2 : ∀ {x y : List (Option (Nat × Nat × Nat × Nat))}, OF x y = true → x = y
 | [], [], _ => rfl
 | x :: xs, y :: ys, h => by
  simp only [OF, yc] at h
  rw [Pr h.1, K2 h.2]
 | [], _ :: _, h => by cases h
 | _ :: _, [], h => by cases h
theorem Lg {x y : Option (Nat × Nat × List (Option (Nat × Nat × Nat × Nat)))} (h : GY x y = true) : x = y := by
 unfold GY at h
 split at h
 ·simp only [yc] at h
  obtain ⟨⟨h1, h2⟩, z⟩ := h
  rw [cX.1 h1, cX.1 h2, K2 z]
 ·cases h
theorem oT {b : Nat} {V : Option (Nat × Nat × List (Option (Nat × Nat × Nat × Nat)))} : ∀ {wr : List (Nat × d8)} {m : a9}, (∀ q ∈ wr, q.1 = b → gZ q.2 = V) → bB m b = V → bB (aP m wr) b = V
 | [], m, _, h => h
 | (c, x) :: wr, m, A, h => by
  unfold aP
  refine oT (fun q H => A q (yk _ H)) ?_
  by_cases z : c = b
  ·subst z
   by_cases hl : c < m.length
   ·unfold bB
    rw [yf1 hl]
    exact A (c, x) (yn ..) rfl
   ·rw [List.set_eq_of_length_le (by omega)]; exact h
  ·unfold bB
   rw [yg1 z]
   exact h
theorem vW {b : Nat} {V : Option (Nat × Nat × List (Option (Nat × Nat × Nat × Nat)))} {e : kN} {d : Option Tmp} {st : St} (A : b < st.mem.length) (z : ∀ q ∈ e.wr, q.1 = b → gZ q.2 = V) (h : bB st.mem b = V) : bB (e.app d st).mem b = V := by
 have h1 := oT z h
 unfold kN.app
 simp only
 unfold bB at h1 ⊢
 rw [yq (by rw [bQ]; exact A)]
 exact h1
theorem mK {b : Nat} {V : Option (Nat × Nat × List (Option (Nat × Nat × Nat × Nat)))} {D : Nat → Bool} : ∀ {l : List (Oper × kN)} {i : Nat} {st : St}, b < st.mem.length → (∀ p ∈ l, ∀ q ∈ p.2.wr, q.1 = b → gZ q.2 = V) → bB st.mem b = V → bB (cB D i l st).mem b = V
 | [], i, st, _, _, h => h
 | (o, e) :: l, i, st, H, z, h => by
  simp only [cB]
  cases hD : D i with
  | true =>
   exact mK (by rw [yg, sP]; omega) (fun p A => z p (yk _ A)) (vW H (z (o, e) (yn ..)) h)
  | false => exact mK H (fun p A => z p (yk _ A)) h
theorem Dl {b : Nat} {all : List Tr} (H : ∀ u ∈ all, b ∉ u.wr ∨ u.wk b = true) : ∀ {l : List (Oper × kN)} {i rs : Nat} {st : St}, Bc P C an rid ops i rs st l → (∀ p ∈ l, ∀ t, p.2.tr = some t → t ∈ all) → b < st.mem.length →
  ∀ p ∈ l, ∀ q ∈ p.2.wr, q.1 = b → gZ q.2 = bB st.mem b
 | [], i, rs, st, _, _, _, p, J => by cases J
 | (o, e) :: l, i, rs, st, Y, hm, V, p, J => by
  cases Y with
  | cons _ _ _ _ _ _ h W =>
  have z : ∀ q ∈ e.wr, q.1 = b → gZ q.2 = bB st.mem b := by
   intro q M A
   cases h with
   | run out O ho U =>
    rcases H _ (hm (o, _) (yn ..) _ rfl) with h1 | h1
    ·exfalso
     apply h1
     have : b ∈ out.wr.map (·.1) := yc3.2 ⟨q, M, A⟩
     simp only [eL.tr]
     cases eA o.op with
     | true => exact yk _ this
     | false => exact this
    ·have h1 : oF st.mem out.wr b = true := h1
     unfold oF at h1
     have := yx.1 h1 q M
     simp only [yc2, yy] at this
     rcases this with h2 | h2
     ·exact absurd A (fun e => by rw [e, ys3] at h2; cases h2)
     ·exact Lg h2
   | skip j N d U hd h => cases M
  rcases yq1.1 J with rfl | J
  ·exact z
  ·intro q M A
   have K : b < (e.app o.dst st).mem.length := by rw [sP]; omega
   rw [Dl H W (fun p J => hm p (yk _ J)) K p J q M A]
   exact vW V z rfl
structure FG (P : Program) (C : bZ) (an : mQ) (rid : Nat) (ops : Array Oper) (L : Nat) (lJ : St) (l : List (Oper × kN)) (all : List Tr) : Prop where
 map : l.map (·.1) = ops.toList
 len : lJ.mem.length = L
 one : x9 l
 step : ∀ (j : Nat) (o : Oper) (e : kN), l[j]? = some (o, e) → ∃ rs, iX P C an rid ops o j rs (cB (fun k => Nat.blt k j) 0 l lJ) e
 mate : ∀ (i j : Nat) (o o' : Oper) (e e' : kN), i ≠ j → l[i]? = some (o, e) → l[j]? = some (o', e') → dZ (Az ops.toList []) i j = false →
  OT L o.dst o'.dst e e' ∧ Ce (M8 ops o) (PH L all e) L o' e' ∧ (e'.push ≠ [] → mC o = false)
 back : iS ops.toList 0 = true
 const : ∀ b, J5 L all b = true → ∀ D, bB (cB D 0 l lJ).mem b = bB lJ.mem b
theorem LI {lJ : St} {l : List (Oper × kN)} {rs L : Nat} (hmap : l.map (·.1) = ops.toList) (hc : Bc P C an rid ops 0 rs lJ l) (hlen : lJ.mem.length = L) (hd : He ops L ((l.filterMap (·.2.tr)).reverse) = true) :
  FG P C an rid ops L lJ l ((l.filterMap (·.2.tr)).reverse) := by
 generalize hall : (l.filterMap (·.2.tr)).reverse = all at hd ⊢
 unfold He at hd
 simp only [yc] at hd
 obtain ⟨⟨⟨hback, htrs⟩, hpush⟩, W⟩ := hd
 have H : ∀ (j : Nat) (o : Oper) (e : kN), l[j]? = some (o, e) → ∃ rs, iX P C an rid ops o j rs (cB (fun k => Nat.blt k j) 0 l lJ) e := by
  intro j o e O
  have := hc.get O
  simpa using this
 have hop : ∀ (j : Nat) (o : Oper) (e : kN), l[j]? = some (o, e) → ops[j]? = some o := by
  intro j o e O
  have : (l.map (·.1))[j]? = some o := by rw [yh1, O]; rfl
  rw [hmap, yk1] at this; exact this
 have Y := qX htrs
 rw [List.pairwise_map] at Y
 conv at Y => arg 2; rw [← hall]
 rw [List.pairwise_reverse, List.pairwise_filterMap] at Y
 have hrel : ∀ (i j : Nat) (o N : Oper) (e M : kN), i ≠ j → l[i]? = some (o, e) → l[j]? = some (N, M) → ∀ t A, e.tr = some t → M.tr = some A → FX (Az ops.toList []) L (Ff L all t) (Ff L all A) := by
  intro i j o N e M K hi O t A ht z
  obtain ⟨hil, hi2⟩ := yh.1 hi
  obtain ⟨hjl, hj2⟩ := yh.1 O
  rw [List.pairwise_iff_getElem] at Y
  rcases Nat.lt_or_gt_of_ne K with h | h
  ·exact (Y i j hil hjl h t (by rw [hi2]; exact ht) A (by rw [hj2]; exact z)).symm
  ·exact Y j i hjl hil h A (by rw [hj2]; exact z) t (by rw [hi2]; exact ht)
 have hone2 : ∀ (i j : Nat) (o N : Oper) (e M : kN), i ≠ j → l[i]? = some (o, e) → l[j]? = some (N, M) → e.push = [] ∨ M.push = [] := by
  intro i j o N e M K hi O
  by_cases h1 : e.push = []
  ·exact .inl h1
  ·by_cases h2 : M.push = []
   ·exact .inr h2
   ·obtain ⟨rs1, hs1⟩ := H i o e hi
    obtain ⟨rs2, hs2⟩ := H j N M O
    obtain ⟨t, ht, hp⟩ := hs1.facts.2.1 h1
    obtain ⟨A, z, hp'⟩ := hs2.facts.2.1 h2
    exact ((hrel i j o N e M K hi O t A ht z).push (by rw [iF.2.2]; exact hp) (by rw [iF.2.2]; exact hp')).elim
 refine ⟨hmap, hlen, ?_, H, ?_, hback, ?_⟩
 ·unfold x9
  rw [List.pairwise_iff_getElem]
  intro i j hi O hlt
  exact hone2 i j l[i].1 l[j].1 l[i].2 l[j].2 (by omega) (yd hi) (yd O)
 ·intro i j o N e M K hi O hun
  obtain ⟨rs1, hs1⟩ := H i o e hi
  obtain ⟨rs2, hs2⟩ := H j N M O
  obtain ⟨f1, f2, f3⟩ := hs1.facts
  obtain ⟨g1, g2, g3⟩ := hs2.facts
  have hoi := hop i o e hi
  have hoj := hop j N M O
  have hin : i < ops.size := (ys2.1 hoi).1
  have hjn : j < ops.size := (ys2.1 hoj).1
  have J : ∀ t A, e.tr = some t → M.tr = some A → _ := fun t A ht z => (hrel i j o N e M K hi O t A ht z).far (by rw [iF.1, iF.1, f3 t ht, g3 A z]; exact hun)
  -- slots
  have hsl : (∀ d, o.dst = some d → d ∉ N.looksAt ops) ∧ (∀ d, o.dst = some d → N.dst ≠ some d) ∧ (∀ d, N.dst = some d → d ∉ o.looksAt ops) := by
   rcases Nat.lt_or_gt_of_ne K with h | h
   ·rcases p5 W (Nat.zero_le _) h (by omega) with h' | h'
    ·rw [hun] at h'; cases h'
    ·unfold zT at h'
     rw [hoi, hoj] at h'
     exact Oper.apart_spec h'
   ·rcases p5 W (Nat.zero_le _) h (by omega) with h' | h'
    ·rw [pH, hun] at h'; cases h'
    ·unfold zT at h'
     rw [hoi, hoj] at h'
     obtain ⟨a1, a2, a3⟩ := Oper.apart_spec h'
     exact ⟨a3, fun d hd hd' => a2 d hd' hd, a1⟩
  refine ⟨⟨hsl.2.1, fun q hq q' hq' => ?_, hone2 i j o N e M K hi O, fun hp q hq => ?_, fun hp q hq => ?_⟩, ⟨fun d hd hS => hsl.2.2 d hd hS, fun q hq hF => ?_, fun hp b hF => ?_⟩, fun hp => ?_⟩
  ·obtain ⟨t, ht, hm⟩ := f1 q hq
   obtain ⟨A, z, Z⟩ := g1 q' hq'
   intro he
   exact (J t A ht z).2.2.1 _ (by rw [iF.2.1]; exact hm) (by rw [iF.2.1, he]; exact Z)
  ·obtain ⟨t, ht, V⟩ := f2 hp
   obtain ⟨A, z, Z⟩ := g1 q hq
   exact ((J t A ht z).2.2.2.1 (by rw [iF.2.2]; exact V)).2 _ (by rw [iF.2.1]; exact Z)
  ·obtain ⟨A, z, V⟩ := g2 hp
   obtain ⟨t, ht, hm⟩ := f1 q hq
   exact ((J t A ht z).2.2.2.2 (by rw [iF.2.2]; exact V)).2 _ (by rw [iF.2.1]; exact hm)
  ·obtain ⟨A, z, Z⟩ := g1 q hq
   obtain ⟨t, ht, U⟩ := hF
   obtain ⟨k1, k2, k3, _⟩ := J t A ht z
   rcases U with U | U
   ·exact k2 _ U (by rw [iF.2.1]; exact Z)
   ·exact k3 _ (by rw [iF.2.1]; exact U) (by rw [iF.2.1]; exact Z)
  ·obtain ⟨A, z, V⟩ := g2 hp
   obtain ⟨t, ht, U⟩ := hF
   obtain ⟨k1, k2⟩ := (J t A ht z).2.2.2.2 (by rw [iF.2.2]; exact V)
   rcases U with U | U
   ·exact k1 _ U
   ·exact k2 _ (by rw [iF.2.1]; exact U)
  ·obtain ⟨A, z, V⟩ := g2 hp
   have hmem : A ∈ all := by
    rw [← hall, List.mem_reverse, List.mem_filterMap]
    exact ⟨(N, M), yj O, z⟩
   have hnc := Eo hpush A hmem V
   rw [g3 A z] at hnc
   have := Bt (j := i) hnc (by rw [yk1]; exact hoi)
   rw [yj1] at this
   rcases this with h | h | h
   ·exact absurd h.symm K
   ·rw [pH, hun] at h; cases h
   ·exact h
 ·intro b U D
  unfold J5 at U
  simp only [yc] at U
  have hbL : b < lJ.mem.length := by
   have := U.1; simp [Nat.blt] at this; omega
  have hall2 : ∀ u ∈ all, b ∉ u.wr ∨ u.wk b = true := by
   intro u hu
   have := yx.1 U.2 u hu
   simp only [yc2, yy] at this
   rcases this with h | h
   ·left; intro hm; rw [oI.2 hm] at h; cases h
   ·exact .inr h
  exact mK hbL (Dl hall2 hc (fun p hp t ht => by rw [← hall, List.mem_reverse, List.mem_filterMap]; exact ⟨p, hp, ht⟩) hbL) rfl
theorem GC {z : Array Bool} {i j : Nat} (A : i < z.size) : (z.setIfInBounds i true).getD j false = (if j = i then true else z.getD j false) := by
 by_cases h : j = i
 ·subst h
  rw [if_pos rfl, ym, Array.getElem?_setIfInBounds_self_of_lt A]; rfl
 ·rw [if_neg h, ym, Array.getElem?_setIfInBounds_ne (fun e => h e.symm), ← ym]
theorem Mi (hC : iU P C) {L : Nat} {lJ : St} {l : List (Oper × kN)} {all : List Tr} (hF : FG P C an rid ops L lJ l all) {G0 : Gh} {w0 : World} {old : List (Option Bool)} {Q : Exit → Act → World → Prop}
  (hQ : ∀ G w a, SR G w (cB (fun _ => true) 0 l lJ) a → Gw G0 w0 old G w → Q .normal a w) :
  ∀ (fuel : Nat) (z : Array Bool) (G : Gh) (w : World) (a : Act), z.size = ops.size → Ak ops (iZ z) → left (iZ z) ops.size = fuel → SR G w (cB (iZ z) 0 l lJ) a → Gw G0 w0 old G w →
   wpAny P .any ops Q fuel z a w := by
 have hll : l.length = ops.size := by rw [← ye2 (f := (·.1)) (as := l), hF.map]; simp
 intro fuel
 induction fuel with
 | zero =>
  intro z G w a hsz hcl O hS hI
  have hall := F3 O
  refine ⟨?_, hQ G w a ?_ hI⟩
  ·apply List.eq_nil_iff_forall_not_mem.2
   intro j hj
   obtain ⟨h1, o, ho, _⟩ := mem_ready.1 hj
   have hjn := (ys2.1 ho).1
   have := hall j hjn
   unfold iZ at this
   rw [ym, yn1 (by omega)] at this h1
   simp only [Option.getD_some] at this h1
   rw [this] at h1; cases h1
  ·rw [← mR (D := iZ z) (D' := fun _ => true) (fun k _ K => hall k (by omega))]; exact hS
 | succ fuel ih =>
  intro z G w a hsz hcl O hS hI
  have V : ∀ i, i < ops.size → z.getD i true = iZ z i := by
   intro i hi
   unfold iZ
   rw [ym, ym, yn1 (by omega)]; rfl
  refine ⟨fun hnil => ?_, fun i hi => ?_⟩
  ·obtain ⟨i, Y, hid, hmin⟩ := Mg (HH (D := iZ z) (n := ops.size) (by omega))
   have : i ∈ Region.ready .any ops z := by
    refine mem_ready.2 ⟨by rw [V i Y]; exact hid, ops[i], yn1 Y, fun e he N => ?_⟩
    refine hmin e.on ?_
    have := nJ (j := i) hF.back (by rw [yk1]; exact yn1 Y)
    rw [yj1] at this
    exact rC this e (by simpa using he) N
   rw [hnil] at this; cases this
  ·obtain ⟨h1, o, ho, hpre⟩ := mem_ready.1 hi
   have Y := (ys2.1 ho).1
   rw [V i Y] at h1
   obtain ⟨e, hle⟩ : ∃ e, l[i]? = some (o, e) := by
    have hi2 : i < l.length := by omega
    have : (l.map (·.1))[i]? = some o := by rw [hF.map, yk1]; exact ho
    rw [yh1, yd hi2] at this
    exact ⟨l[i].2, by rw [yd hi2]; simp at this; rw [← this]⟩
   let D := iZ z
   let D1 := iZ (z.setIfInBounds i true)
   have hD1 : ∀ j, D1 j = if j = i then true else D j := fun j => GC (by omega)
   have hD1i : D1 i = true := by rw [hD1, if_pos rfl]
   have M : ∀ j, j ≠ i → D1 j = D j := fun j hj => by rw [hD1, if_neg hj]
   have hcl1 : Ak ops D1 := by
    intro j o' hj e' he N hd
    by_cases hji : j = i
    ·subst hji
     rw [ho] at hj; obtain rfl := yb hj
     have := hpre e' he N
     rw [hD1]; split
     ·rfl
     ·exact this
    ·rw [M j hji] at hd
     have := hcl j o' hj e' he N hd
     rw [hD1]; split
     ·rfl
     ·exact this
   -- what differs stands apart
   have hun1 : ∀ k, D k = true → i < k → dZ (Az ops.toList []) i k = false := by
    intro k K hik
    cases A : dZ (Az ops.toList []) i k with
    | false => rfl
    | true =>
     unfold dZ at A
     rw [yc2] at A
     rcases A with A | A
     ·have := (zQ hF.back A).2 D hcl K
      rw [show D i = false from h1] at this; cases this
     ·have := (zQ hF.back A).1; omega
   have hun2 : ∀ k, D k = false → k < i → dZ (Az ops.toList []) i k = false := by
    intro k K hik
    cases A : dZ (Az ops.toList []) i k with
    | false => rfl
    | true =>
     unfold dZ at A
     rw [yc2] at A
     rcases A with A | A
     ·have := (zQ hF.back A).1; omega
     ·have := (zQ hF.back A).2 D1 hcl1 hD1i
      rw [M k (by omega), K] at this; cases this
   have Z : ∀ k, (Nat.blt k i) ≠ D k → dZ (Az ops.toList []) i k = false ∧ k ≠ i := by
    intro k H
    rcases Nat.lt_trichotomy k i with h | h | h
    ·have N : Nat.blt k i = true := by simp [Nat.blt]; omega
     rw [N] at H
     have K : D k = false := by cases hh : D k with | false => rfl | true => rw [hh] at H; exact absurd rfl H
     exact ⟨hun2 k K h, by omega⟩
    ·subst h
     have N : Nat.blt k k = false := by cases N : Nat.blt k k with | false => rfl | true => simp [Nat.blt] at N; omega
     rw [N, show D k = false from h1] at H; exact absurd rfl H
    ·have N : Nat.blt k i = false := by cases N : Nat.blt k i with | false => rfl | true => simp [Nat.blt] at N; omega
     rw [N] at H
     have K : D k = true := by cases hh : D k with | true => rfl | false => rw [hh] at H; exact absurd rfl H
     exact ⟨hun1 k K h, by omega⟩
   obtain ⟨rs, hstep⟩ := hF.step i o e hle
   have hagree : qU (M8 ops o) (PH L all e) (cB (fun k => Nat.blt k i) 0 l lJ) (cB D 0 l lJ) := by
    refine mB (L := L) (.inl hF.len) (.inl hF.len) hF.one (fun k o' e' K H => ?_) ⟨fun _ _ => rfl, fun _ _ => rfl⟩
    rw [yj1] at H
    obtain ⟨hu, hki⟩ := Z k H
    exact (hF.mate i k o o' e e' (fun h => hki h.symm) hle K hu).2.1
   have hlens : mC o = true → (cB D 0 l lJ).mem.length = (cB (fun k => Nat.blt k i) 0 l lJ).mem.length := by
    intro hcall
    refine Do rfl (fun k o' e' K hp => ?_)
    rw [yj1]
    by_cases heq : Nat.blt k i = D k
    ·exact heq
    ·obtain ⟨hu, hki⟩ := Z k heq
     have := (hF.mate i k o o' e e' (fun h => hki h.symm) hle K hu).2.2 hp
     rw [this] at hcall; cases hcall
   obtain ⟨e1, hstep1, hv1, hw1, hp1⟩ := hstep.agree hagree hlens (fun t b ht hc _ _ => (hF.const b hc D).trans (hF.const b hc _).symm)
   have U := hstep1.one
   have happ : e1.app o.dst (cB D 0 l lJ) = e.app o.dst (cB D 0 l lJ) := by unfold kN.app; rw [hv1, hw1, hp1]
   rw [happ] at U
   -- and afterwards
   have hafter : e.app o.dst (cB D 0 l lJ) = cB D1 0 l lJ := by
    have hil : i < l.length := by omega
    have hel : l[i] = (o, e) := by
     rw [yd hil] at hle; exact yb hle
    have J : l = l.take i ++ (o, e) :: l.drop (i + 1) := by
     rw [← hel, ← List.drop_eq_getElem_cons hil, List.take_append_drop]
    have htl : (l.take i).length = i := by simp; omega
    have hone := hF.one
    unfold x9 at hone
    rw [J, List.pairwise_append, List.pairwise_cons] at hone
    obtain ⟨ho1, ⟨ho2, ho3⟩, ho4⟩ := hone
    generalize N : l.drop (i + 1) = b at J ho2 ho3 ho4
    generalize ha : l.take i = W at J ho1 ho4 htl
    rw [J, pP, pP, yj1, htl]
    have hpre' : cB D1 0 W lJ = cB D 0 W lJ := mR (fun k _ K => by rw [yj1, htl] at K; exact M k (by omega))
    rw [hpre']
    simp only [cB]
    rw [show D i = false from h1, hD1i]
    simp only [yg, ye]
    rw [mR (D := D1) (D' := D) (l := b) (fun k K _ => M k (by omega))]
    refine (Ec (L := L) ?_ ho3 (fun q hq => ho2 q hq) (fun k o' e' K hd => ?_)).symm
    ·by_cases hp : nX W
     ·left
      have : (cB D 0 W lJ).mem.length = (cB (fun _ => false) 0 W lJ).mem.length := Do rfl (fun k o' e' K hp' => absurd (hp (o', e') (yj K)) hp')
      rw [this, pF (fun _ _ => rfl)]; exact hF.len
     ·right
      have : ∃ q ∈ W, q.2.push ≠ [] := by
       apply Classical.byContradiction
       intro hno
       exact hp fun q hq => Classical.byContradiction fun H => hno ⟨q, hq, H⟩
      obtain ⟨q, hq, hqp⟩ := this
      exact ⟨(ho4 q hq (o, e) (yn ..)).resolve_left hqp, fun q' hq' => (ho4 q hq q' (yk _ hq')).resolve_left hqp⟩
    ·have hk' : l[i + 1 + k]? = some (o', e') := by
      rw [← N, yd1] at K; exact K
     exact (hF.mate i (i + 1 + k) o o' e e' (by omega) hle hk' (hun1 _ hd (by omega))).1
   refine U.sound hC ho hS _ _ (fun G' w' a' hg he hS' => ?_)
   rw [hafter] at hS'
   refine ih (z.setIfInBounds i true) G' w' a' (by simpa using hsz) hcl1 ?_ hS' (hI.step hg he)
   have := (Ix (D := D) (D' := D1) h1 hD1i M (n := ops.size)).1 Y
   have h2 : left D ops.size = fuel + 1 := O
   show left D1 ops.size = fuel
   omega
theorem KS (hm : P.follows .mixedOrders = true) (hC : iU P C) (an : mQ) : Cj P C an := by
 intro R rid ops st k r G0 w0 old G w a Q h hS hI Y
 unfold pJ at h
 obtain ⟨l, J, V, z⟩ := CU h
 rw [yu1] at z
 rw [aB] at z
 obtain ⟨A, z⟩ := z
 simp only [yw, yl3] at A
 have hF := LI (L := st.mem.length + nY ops.toList) J V (by simp) A
 have H : Ev G w w.drew := Ev.drew G w
 have N : SR G w.drew { st with mem := st.mem ++ List.replicate (nY ops.toList) none } a := by
  have K := hS.widen (nY ops.toList)
  exact ⟨K.memr.ev H (.inl rfl) (fun B _ => rfl), K.len, fun j x hx => (K.tmps j x hx).imp id (fun h => h.mono (d9.refl G) H), K.defers⟩
 refine wp_region_any hm ?_
 refine Mi hC hF (G0 := G0) (w0 := w0) (old := old) (fun Z U W M O => Y _ Z U W z M.trim O) ops.size (Array.replicate ops.size false) G w.drew a (by simp) ?_ ?_ ?_ (hI.step (d9.refl G) H)
 ·intro j o ho e he hb A
  unfold iZ at A
  rw [ym, yj3] at A
  split at A <;> simp at A
 ·have : left (iZ (Array.replicate ops.size false)) ops.size = left (fun _ => false) ops.size := by
   congr 1
   funext i
   unfold iZ
   rw [ym, yj3]
   split <;> rfl
  rw [this, LB]
 ·rw [pF]
  ·exact N
  ·intro k _
   unfold iZ
   rw [ym, yj3]
   split <;> rfl
end
end Go.Ab
end
