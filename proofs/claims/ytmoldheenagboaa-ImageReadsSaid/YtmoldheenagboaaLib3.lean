/- The evaluator. -/
import Derived.Test.YtmoldheenagboaaLib2
set_option linter.unusedVariables false
set_option linter.unusedSectionVars false
set_option linter.unusedSimpArgs false
section
namespace Go.Ab
variable [b8]
def jD (f : j8) (mem : aW) (a : Nat) (x : c7) : c7 :=
 { gen := (match lM mem a with | some h => bif x.row.isCells then h else h + 1 | none => 0), frz := x.frz, row := x.row.ren f }
theorem bK : ∀ {wr : List (Nat × c7)} {mem : aW}, (aN mem wr).length = mem.length
 | [], mem => rfl
 | (b, x) :: r, mem => by rw [aN, bK]; simp
theorem k9 {f : j8} {mem : aW} : ∀ {ids : List Nat} {q z : aW} {b : Nat}, (∀ (j : Nat) (y : c7), ids[j]? = some b → q[j]? = some (some y) → False) → (aN z (a9 f mem ids q))[b]? = z[b]?
 | [], q, z, b, h => by simp [a9, aN]
 | a :: ids, [], z, b, h => by simp [a9, aN]
 | a :: ids, none :: q, z, b, h => by
  simp only [a9]
  exact k9 (fun j y H J => h (j + 1) y (by simpa using H) (by simpa using J))
 | a :: ids, some x :: q, z, b, h => by
  simp only [a9, aN]
  rw [k9 (ids := ids) (q := q) (fun j y H J => h (j + 1) y (by simpa using H) (by simpa using J))]
  rw [yd1 (fun e => h 0 x (by simp [e]) (by simp))]
theorem p8 {f : j8} {mem : aW} : ∀ {ids : List Nat} {q z : aW} {b j : Nat} {y : c7}, cW ids = true → ids[j]? = some b → q[j]? = some (some y) → b < z.length →
  (aN z (a9 f mem ids q))[b]? = some (some (jD f mem b y))
 | [], q, z, b, j, y, _, h, _, _ => by simp at h
 | a :: ids, [], z, b, j, y, _, _, h, _ => by simp at h
 | a :: ids, none :: q, z, b, 0, y, _, _, h, _ => by simp at h
 | a :: ids, none :: q, z, b, j + 1, y, H, J, K, N => by
  simp only [a9]
  simp only [cW, yc] at H
  exact p8 H.2 (by simpa using J) (by simpa using K) N
 | a :: ids, some x :: q, z, b, 0, y, H, J, K, N => by
  simp only [a9, aN]
  simp at J K; subst J K
  simp only [cW, yc, yz] at H
  rw [k9 (fun j y J _ => by rw [m8.2 (yt J)] at H; simp at H), ye1 N]; rfl
 | a :: ids, some x :: q, z, b, j + 1, y, H, J, K, N => by
  simp only [a9, aN]
  simp only [cW, yc] at H
  exact p8 H.2 (by simpa using J) (by simpa using K) (by simpa using N)
theorem j5 {f : j8} : ∀ {m : aW} {i : Nat}, (dK f m)[i]? = (m[i]?).map fun o => o.map fun x => { gen := 0, frz := x.frz, row := x.row.ren f }
 | [], i => by simp [dK]
 | some x :: r, 0 => by simp [dK]
 | none :: r, 0 => by simp [dK]
 | some x :: r, i + 1 => by simp [dK, j5 (m := r)]
 | none :: r, i + 1 => by simp [dK, j5 (m := r)]
theorem qS {a b : List Nat} : rR a b = true → ∀ x ∈ a, x ∉ b := by
 induction a with
 | nil => simp
 | cons m r J =>
  intro h x z H
  simp only [rR, yc, yz] at h
  rcases yf1.1 z with rfl | z
  ·rw [m8.2 H] at h; simp at h
  ·exact J h.2 x z H
section
variable {P : Program}
def y8 (G : Gh) (w : World) (mem : aW) (ids : List Nat) (B : Nat) : Prop :=
 w.heap.size ≤ B ∨ ∃ (b : Nat) (x : c7) (L : rO), b ∈ ids ∧ mem[b]? = some (some x) ∧ G.loc b x.gen = some L ∧ L.blk = some B
def IH (G : Gh) (w : World) (mem : aW) (ids lent : List Nat) : Gh := { loc := rS G mem ids, prot := (G.lend (bA G mem lent)).prot, mine := y8 G w mem ids }
theorem y8.mine {G : Gh} {w : World} {mem : aW} {ids : List Nat} {B : Nat} (z : aQ G w mem) (h : y8 G w mem ids B) : G.mine B := by
 rcases h with h | ⟨b, x, L, _, J, H, K⟩
 ·exact z.own B h
 ·exact z.mine J H K
theorem aQ.blk_lt {G : Gh} {w : World} {mem : aW} (K : aQ G w mem) {b : Nat} {x : c7} {L : rO} {B : Nat} (N : mem[b]? = some (some x)) (J : G.loc b x.gen = some L) (H : L.blk = some B) : B < w.heap.size := by
 obtain ⟨o, z, O⟩ := (K.box b x N).loc
 rw [J] at z
 obtain rfl := ya z
 simp only at H; subst H
 exact O.2.1
theorem aQ.free {G : Gh} {w : World} {mem : aW} (K : aQ G w mem) {b : Nat} {x : c7} {L : rO} {B : Nat} (N : mem[b]? = some (some x)) (O : x.frz = false) (J : G.loc b x.gen = some L) (H : L.blk = some B) : ∀ β o, ¬ G.prot β B o := by
 obtain ⟨o, z, U⟩ := (K.box b x N).loc
 rw [J] at z
 obtain rfl := ya z
 simp only at H; subst H
 exact U.2.2.2.2 O
theorem LR {G : Gh} {w : World} {mem : aW} {ids lent : List Nat} (K : aQ G w mem) (hn : cW ids = true) (hd : rR lent ids = true) : aQ (IH G w mem ids lent) w (dY (fB mem ids) mem ids) := by
 refine Bk K hn rfl (fun _ _ _ h => .inl h) (fun b x L B Y U hf O V β o W => ?_) (fun b x L B Y U O V => .inr ⟨b, x, L, Y, U, O, V⟩) (fun B h => .inl h) (fun B o h => ?_) (fun β B o h => ?_)
 ·rcases W with W | ⟨_, Z, N, x', L', H, J, z⟩
  ·exact K.free U hf O V β o W
  ·have := K.apart b Z x x' L L' B U H O J V z
   subst this
   exact qS hd b N Y
 ·rcases h with h | ⟨h, _⟩
  ·exact .inl (K.lab B o h)
  ·cases h
 ·rcases h with h | ⟨_, Z, N, x', L', H, J, z⟩
  ·exact K.away β B o h
  ·exact K.blk_lt H J z
def fG (G G3 : Gh) (mem q : aW) (ids : List Nat) (len : Nat) : Nat → Nat → Option rO := fun a g =>
 if a < mem.length then
  match pY a ids 0 with
  | some j => match q[j]? with
   | some (some y) => if g = (jD (fun _ _ => none) mem a y).gen then G3.loc j 0 else G.loc a g
   | _ => G.loc a g
  | none => G.loc a g
 else if g = 0 ∧ ids.length + (a - mem.length) < len then G3.loc (ids.length + (a - mem.length)) 0 else none
theorem nM : ∀ {ids : List Nat} {b n j : Nat}, cW ids = true → ids[j]? = some b → pY b ids n = some (n + j)
 | [], b, n, j, _, h => by simp at h
 | m :: r, b, n, 0, _, h => by simp at h; subst h; simp [pY]
 | m :: r, b, n, j + 1, z, h => by
  have J : m ≠ b := by
   rintro rfl
   have := sQ (i := 0) (j := j + 1) z (by simp) h
   omega
  simp only [cW, yc] at z
  simp only [pY]
  have H : Nat.beq m b = false := by
   cases H : Nat.beq m b with
   | false => rfl
   | true => exact absurd (cN.1 H) J
  rw [H]; simp only [yh]
  rw [nM z.2 (by simpa using h)]; congr 1; omega
theorem G7 {G Z G4 : Gh} {w w' : World} {mem q sub : aW} {ids lent : List Nat} {r : AV} {cv qv : Value} {qr : AV} (hM : aQ G w mem) (hn : cW ids = true) (hd : rR lent ids = true)
  (hR : Ld (IH G w mem ids lent) w (dY (fB mem ids) mem ids) (qr, q) Z w' qv) (hlent : eA lent = true ∨ (r.lent = false ∧ fL q = false))
  (hv : VR G4 w' r cv) (h4m : G4.mine = Z.mine) (h4l : G4.loc = Z.loc) (h4p : ∀ β B o, Z.prot β B o → G4.prot β B o) (h4n : ∀ β B o, G4.prot β B o → Z.prot β B o ∨ kX Z q sub.length B o) (h4lab : ∀ B o, G4.prot false B o → G4.prot true B o)
  (hsub : ∀ j : Nat, j < sub.length → sub[j]? = q[j]?) (hsl : ids.length ≤ sub.length) (hql : sub.length ≤ q.length) :
  ∃ G' : Gh, VR G' w' (r.ren (cA mem sub ids)) cv ∧ dA G G' ∧ Ev G w w' ∧ aQ G' w' (aN mem (a9 (cA mem sub ids) mem ids q) ++ dK (cA mem sub ids) (sub.drop ids.length)) := by
 obtain ⟨hv3, hev, hmine3, hprot3, hnew3, hM3, hgens, hkept, hnones⟩ := hR
 simp only at hM3 hgens hkept hnones
 -- a box of ids
 have hq : ∀ {j a : Nat} {y : c7}, ids[j]? = some a → q[j]? = some (some y) → ∃ x, mem[a]? = some (some x) ∧ y.row.isCells = x.row.isCells ∧ (x.row.isCells = true → ∀ L, G.loc a x.gen = some L → Z.loc j 0 = some L) := by
  intro j a y O H
  cases K : mem[a]? with
  | none =>
   have := hnones j (by rw [dO, O]; simp [K])
   rw [H] at this; cases this
  | some o =>
   cases o with
   | none =>
    have := hnones j (by rw [dO, O]; simp [K])
    rw [H] at this; cases this
   | some x =>
    obtain ⟨y', Y, hk, U⟩ := hkept j { gen := 0, frz := x.frz, row := x.row.ren (fB mem ids) } (by rw [dO, O]; simp [K])
    rw [H] at Y
    obtain rfl : y = y' := by simpa using Y
    simp only [dH] at hk U
    refine ⟨x, rfl, hk, fun hc L hL => U hc L ?_⟩
    simp [IH, rS, O, kL.2 ⟨x, K, rfl⟩, hL]
 have hq2 : ∀ {j a : Nat} {x : c7}, ids[j]? = some a → mem[a]? = some (some x) → ∃ y, q[j]? = some (some y) := by
  intro j a x O K
  obtain ⟨y', Y, _⟩ := hkept j { gen := 0, frz := x.frz, row := x.row.ren (fB mem ids) } (by rw [dO, O]; simp [K])
  exact ⟨y', Y⟩
 have hbgen : ∀ {a : Nat} {x y : c7} {f : j8}, mem[a]? = some (some x) → (jD f mem a y).gen = (bif y.row.isCells then x.gen else x.gen + 1) := by
  intro a x y f K
  simp [jD, kL.2 ⟨x, K, rfl⟩]
 have hcome : ∀ B, Z.mine B → y8 G w mem ids B := fun B h => by rw [hmine3] at h; exact h
 have hEv : Ev G w w' := ⟨hev.size, hev.out, hev.os, fun B hB hm => hev.away B hB (fun h => hm (y8.mine hM h)), hev.some, fun β B o h => hev.prot β B o (.inl h), hev.fz, hev.tape⟩
 -- the protection
 let pr : Bool → Nat → Nat → Prop := fun β B o => if β = true then (if eA lent = true then G4.prot true B o else G.prot true B o ∨ G4.prot false B o) else G4.prot false B o
 have hnb4 : ∀ β B o, G4.prot β B o → Z.prot β B o ∨ y8 G w mem ids B := fun β B o h => (h4n β B o h).imp id (by rintro ⟨b, x, L, _, K, U, hB⟩; exact hcome B (hM3.mine K U hB))
 have hsem : ∀ B o, eA lent = true → ¬ bA G mem lent B o := by
  rintro B o he ⟨b, hb, _⟩
  rw [kM he] at hb; cases hb
 have hprle : ∀ β B o, pr β B o → (∃ β', G.prot β' B o) ∨ y8 G w mem ids B := by
  intro β B o h
  have h3 : ∀ β, (β = true → eA lent = true) → G4.prot β B o → (∃ β', G.prot β' B o) ∨ y8 G w mem ids B := by
   intro β hβ h
   rcases hnb4 β B o h with h | h
   ·rcases hnew3 β B o h with h | h
    ·rcases h with h | ⟨h, h'⟩
     ·exact .inl ⟨_, h⟩
     ·exact absurd h' (hsem B o (hβ h))
    ·exact .inr h
   ·exact .inr h
  simp only [pr] at h
  split at h
  ·split at h
   ·rename_i he; exact h3 true (fun _ => he) h
   ·rcases h with h | h
    ·exact .inl ⟨_, h⟩
    ·exact h3 false (fun h => by cases h) h
  ·exact h3 false (fun h => by cases h) h
 have hG4 : ∀ β B o, G.prot β B o → G4.prot β B o := fun β B o h => h4p β B o (hprot3 β B o (.inl h))
 have hprG : ∀ β B o, G.prot β B o → pr β B o := by
  intro β B o h
  simp only [pr]
  cases β with
  | true => simp only [if_true]; split; exact hG4 _ _ _ h; exact .inl h
  | false => simp only [yy1, if_false]; exact hG4 _ _ _ h
 have hpr4 : ∀ β B o, pr β B o → ∃ β', G4.prot β' B o := by
  intro β B o h
  simp only [pr] at h
  split at h
  ·split at h
   ·exact ⟨_, h⟩
   ·rcases h with h | h
    ·exact ⟨_, hG4 _ _ _ h⟩
    ·exact ⟨_, h⟩
  ·exact ⟨_, h⟩
 have hprnew : ∀ β B o, pr β B o → G.prot β B o ∨ G.mine B := by
  intro β B o h
  have h3 : ∀ β, (β = true → eA lent = true) → G4.prot β B o → G.prot β B o ∨ G.mine B := by
   intro β hβ h
   rcases hnb4 β B o h with h | h
   ·rcases hnew3 β B o h with h | h
    ·rcases h with h | ⟨h, h'⟩
     ·exact .inl h
     ·exact absurd h' (hsem B o (hβ h))
    ·exact .inr (y8.mine hM h)
   ·exact .inr (y8.mine hM h)
  simp only [pr] at h
  split at h
  ·rename_i hβ; subst hβ
   split at h
   ·rename_i he; exact h3 true (fun _ => he) h
   ·rcases h with h | h
    ·exact .inl h
    ·rcases h3 false (fun h => by cases h) h with h | h
     ·exact .inl (hM.lab _ _ h)
     ·exact .inr h
  ·rename_i hβ
   have : β = false := by simpa using hβ
   subst this
   exact h3 false (fun h => by cases h) h
 let G' : Gh := { mine := G.mine, prot := pr, loc := fG G Z mem q ids sub.length }
 have W : (aN mem (a9 (cA mem sub ids) mem ids q)).length = mem.length := bK
 -- where boxes stand
 have lB : ∀ {j a : Nat} {y : c7} {f : j8}, ids[j]? = some a → q[j]? = some (some y) → G'.loc a (jD f mem a y).gen = Z.loc j 0 := by
  intro j a y f O H
  obtain ⟨x, K, _⟩ := hq O H
  have N : a < mem.length := (yf.1 K).1
  show fG G Z mem q ids sub.length a _ = _
  unfold fG
  rw [if_pos N, nM hn O]
  simp only [yh1, H]
  rw [if_pos (by rfl)]
 have lO : ∀ {a g : Nat}, a < mem.length → a ∉ ids → G'.loc a g = G.loc a g := by
  intro a g N V
  show fG G Z mem q ids sub.length a g = _
  unfold fG
  rw [if_pos N]
  cases hi : pY a ids 0 with
  | none => rfl
  | some j =>
   obtain ⟨i, rfl, O⟩ := s8 hi
   exact absurd (yt O) V
 have lN : ∀ {i : Nat}, ids.length + i < sub.length → G'.loc (mem.length + i) 0 = Z.loc (ids.length + i) 0 := by
  intro i hi
  show fG G Z mem q ids sub.length (mem.length + i) 0 = _
  unfold fG
  rw [if_neg (by omega), ye3, if_pos ⟨rfl, hi⟩]
 have hGle : dA G G' := by
  refine ⟨rfl, hprG, fun a g L hL => ?_, hprnew⟩
  by_cases N : a < mem.length
  ·show fG G Z mem q ids sub.length a g = _
   unfold fG
   rw [if_pos N]
   cases hi : pY a ids 0 with
   | none => exact hL
   | some j =>
    obtain ⟨i, rfl, O⟩ := s8 hi
    simp only [yh1]
    split
    ·rename_i y H
     split
     ·rename_i hg
      obtain ⟨x, K, hk, hc⟩ := hq O H
      rw [hbgen K] at hg
      cases hyc : y.row.isCells with
      | true => rw [hyc] at hg; simp only [yg] at hg; subst hg; exact hc (by rw [← hk]; exact hyc) L hL
      | false =>
       rw [hyc] at hg; simp only [yh] at hg; subst hg
       rw [hM.gens a x _ K (Nat.lt_succ_self _)] at hL; cases hL
     ·exact hL
    ·exact hL
  ·rw [hM.unset a g (fun x K => N (yf.1 K).1)] at hL; cases hL
 -- renaming back
 have hren : z2 G4 G' (cA mem sub ids) := by
  intro b g p L hp hL
  unfold cA at hp
  cases hg : Nat.beq g 0 with
  | false => rw [hg] at hp; simp at hp
  | true =>
   rw [hg] at hp; simp only [yg] at hp
   obtain rfl := cN.1 hg
   rw [h4l] at hL
   split at hp
   ·rename_i a N
    split at hp
    ·rename_i y h' H hgen
     obtain rfl := ya hp
     have hb : b < ids.length := (yf.1 N).1
     rw [hsub b (by omega)] at H
     have := lB (f := fun _ _ => none) N H
     simp only [jD, hgen] at this
     simp only
     rw [this]; exact hL
    ·simp at hp
   ·rename_i hno
    cases hlt : Nat.blt b sub.length with
    | false => rw [hlt] at hp; simp at hp
    | true =>
     rw [hlt] at hp; simp only [yg] at hp
     obtain rfl := ya hp
     have hb : b < sub.length := by simp [Nat.blt] at hlt; omega
     have hge := List.getElem?_eq_none_iff.1 hno
     have := lN (i := b - ids.length) (by omega)
     simp only
     rw [this, show ids.length + (b - ids.length) = b by omega]; exact hL
 have hp4 : ∀ {l : Bool}, l = eA lent → ∀ β B o, (β = true → l = true) → G4.prot β B o → G'.prot β B o := by
  intro l U β B o hβ h
  show pr β B o
  simp only [pr]
  cases β with
  | true => simp only [if_true]; rw [if_pos (by rw [← U]; exact hβ rfl)]; exact h
  | false => simp only [yy1, if_false]; exact h
 have hren3 : z2 Z G' (cA mem sub ids) := fun b g p L hp hL => hren b g p L hp (by rw [h4l]; exact hL)
 have hrowlent : ∀ {j : Nat} {y : c7}, q[j]? = some (some y) → qW y.row = true → eA lent = true := by
  intro j y H U
  rcases hlent with h | ⟨_, h⟩
  ·exact h
  ·rw [lY H U] at h; cases h
 -- a box of the callee's, at its new number
 have hbox : ∀ {j a g : Nat} {y : c7}, j < sub.length → q[j]? = some (some y) → G'.loc a g = Z.loc j 0 → L5 G' w' a { gen := g, frz := y.frz, row := y.row.ren (cA mem sub ids) } := by
  intro j a g y hjs H hloc
  have hg0 := hgens j y H
  have hby := hM3.box j y H
  obtain ⟨o, U, hm⟩ := hby.loc
  refine ⟨by simp only [kA]; exact hby.e, o, by simp only [kA, gS]; rw [hloc, ← hg0]; exact U, ?_⟩
  cases o with
  | none => simp only [gS, dH]; exact hm
  | some B =>
   obtain ⟨h1, h2, h3, h4, h5⟩ := hm
   have hmB : G.mine B := y8.mine hM (hcome B h1)
   refine ⟨hmB, h2, h3, h4.ren (l := eA lent) hren3 (fun β B o hβ h => hp4 rfl β B o hβ (h4p β B o h)) (hrowlent H), fun hf β o hp => ?_⟩
   obtain ⟨β', hp'⟩ := hpr4 β B o hp
   rcases h4n β' B o hp' with hp' | ⟨b, x, L, hb, K, hL, hB⟩
   ·exact h5 hf β' o hp'
   ·have := hM3.apart j b y x _ L B H K U hL rfl hB
    omega
 -- entries
 have hent : ∀ (a : Nat) (z : c7), (aN mem (a9 (cA mem sub ids) mem ids q) ++ dK (cA mem sub ids) (sub.drop ids.length))[a]? = some (some z) →
   (a < mem.length ∧ a ∉ ids ∧ mem[a]? = some (some z)) ∨
   (∃ j y, j < sub.length ∧ q[j]? = some (some y) ∧ z = { gen := z.gen, frz := y.frz, row := y.row.ren (cA mem sub ids) } ∧ G'.loc a z.gen = Z.loc j 0 ∧ ((∃ x, ids[j]? = some a ∧ mem[a]? = some (some x) ∧ x.gen ≤ z.gen) ∨ (∃ i, j = ids.length + i ∧ a = mem.length + i ∧ z.gen = 0))) := by
  intro a z J
  by_cases N : a < mem.length
  ·rw [yo (by rw [W]; exact N)] at J
   by_cases hi : ∃ (j : Nat) (y : c7), ids[j]? = some a ∧ q[j]? = some (some y)
   ·obtain ⟨j, y, O, H⟩ := hi
    rw [p8 hn O H N] at J
    obtain rfl : jD (cA mem sub ids) mem a y = z := by simpa using J
    obtain ⟨x, K, hk, _⟩ := hq O H
    have hjl := (yf.1 O).1
    refine .inr ⟨j, y, by omega, H, rfl, lB O H, .inl ⟨x, O, K, ?_⟩⟩
    rw [hbgen K]
    cases y.row.isCells <;> simp
   ·rw [k9 (fun j y h1 h2 => hi ⟨j, y, h1, h2⟩)] at J
    refine .inl ⟨N, fun hm => ?_, J⟩
    obtain ⟨j, O, rfl⟩ := yw1 hm
    obtain ⟨y, H⟩ := hq2 (ye O) J
    exact hi ⟨j, y, ye O, H⟩
  ·rw [yq (by rw [W]; omega), W, j5, ya1] at J
   obtain ⟨o, ho, J⟩ := yd.1 J
   cases o with
   | none => simp at J
   | some y =>
    simp only [yn, Option.some.injEq] at J
    have hjl := (yf.1 ho).1
    rw [hsub _ hjl] at ho
    refine .inr ⟨_, y, hjl, ho, by rw [← J], ?_, .inr ⟨a - mem.length, rfl, by omega, by rw [← J]⟩⟩
    have := lN hjl
    rw [show mem.length + (a - mem.length) = a by omega] at this
    rw [← J]; exact this
 have hblk : ∀ {j : Nat} {y : c7} {L : rO} {B : Nat}, q[j]? = some (some y) → Z.loc j 0 = some L → L.blk = some B → y8 G w mem ids B := by
  intro j y L B H U hB
  rw [← hgens j y H] at U
  exact hcome B (hM3.mine H U hB)
 have hother : ∀ {a : Nat} {z : c7} {L : rO} {B : Nat}, a ∉ ids → mem[a]? = some (some z) → G.loc a z.gen = some L → L.blk = some B → ¬ y8 G w mem ids B := by
  intro a z L B N J U hB hc
  rcases hc with hc | ⟨b, x, L', hb, K, hl', hB'⟩
  ·have := hM.blk_lt J U hB; omega
  ·have := hM.apart a b z x L L' B J K U hl' hB hB'
   subst this; exact N hb
 refine ⟨G', hv.ren (l := eA lent) hren (hp4 rfl) (fun U => ?_), hGle, hEv, ?_⟩
 ·rcases hlent with h | ⟨h, _⟩
  ·exact h
  ·rw [h] at U; cases U
 refine ⟨fun a z J => ?_, fun a g J => ?_, fun a z g J hlt => ?_, fun a a' z z' L L' B J hz' U hl' hk hk' => ?_, fun B hB => hM.own B (yt1 hEv.size hB), fun B o h => ?_, fun β B o h => ?_, hM.glob.mono (hGle.prot true) (hEv.prot true)⟩
 ·rcases hent a z J with ⟨N, V, J⟩ | ⟨j, y, hjs, H, hze, hloc, _⟩
  ·have hbz := hM.box a z J
   obtain ⟨o, U, hm⟩ := hbz.loc
   refine ⟨hbz.e, o, by rw [lO N V]; exact U, ?_⟩
   cases o with
   | none => exact hm
   | some B =>
    obtain ⟨h1, h2, h3, h4, h5⟩ := hm
    have hnc := hother V J U rfl
    have hh : w'.heap[B]? = w.heap[B]? := hev.away B h2 hnc
    refine ⟨h1, yr1 h2 hEv.size, h3.of_heap hh, h4.mono hGle hEv (fun o _ => dU hh o), fun hf β o hp => ?_⟩
    rcases hprle β B o hp with ⟨β', hp⟩ | hp
    ·exact h5 hf β' o hp
    ·exact hnc hp
  ·rw [hze]; exact hbox hjs H hloc
 ·by_cases N : a < mem.length
  ·by_cases V : a ∈ ids
   ·obtain ⟨j, O, rfl⟩ := yw1 V
    have hjj := ye O
    cases H : q[j]? with
    | none =>
     have := hql; have := (List.getElem?_eq_none_iff.1 H); omega
    | some o =>
     cases o with
     | some y =>
      refine absurd ?_ (J (jD (cA mem sub ids) mem ids[j] y))
      rw [yo (by rw [W]; exact N)]
      exact p8 hn hjj H N
     | none =>
      show fG G Z mem q ids sub.length _ g = none
      unfold fG
      rw [if_pos N, nM hn hjj]
      simp only [yh1, H]
      refine hM.unset _ g (fun x K => ?_)
      obtain ⟨y, Y⟩ := hq2 hjj K
      rw [H] at Y; cases Y
   ·rw [lO N V]
    refine hM.unset a g (fun x K => J x ?_)
    rw [yo (by rw [W]; exact N), k9 (fun j y h1 _ => V (yt h1))]; exact K
  ·show fG G Z mem q ids sub.length a g = none
   unfold fG
   rw [if_neg N]
   split
   ·rename_i hc
    refine hM3.unset _ 0 (fun x K => ?_)
    refine J { gen := 0, frz := x.frz, row := x.row.ren (cA mem sub ids) } ?_
    rw [yq (by rw [W]; omega), W, j5, ya1, hsub _ hc.2, K]; rfl
   ·rfl
 ·rcases hent a z J with ⟨N, V, J⟩ | ⟨j, y, hjs, H, hze, hloc, ⟨x, O, K, hge⟩ | ⟨i, rfl, rfl, h0⟩⟩
  ·rw [lO N V]; exact hM.gens a z g J hlt
  ·have N : a < mem.length := (yf.1 K).1
   have hloc' := lB (f := fun _ _ => none) O H
   show fG G Z mem q ids sub.length a g = none
   unfold fG
   rw [if_pos N, nM hn O]
   simp only [yh1, H]
   have hzg : z.gen = (jD (fun _ _ => none) mem a y).gen := by
    have hz2 := J
    rw [yo (by rw [W]; exact N), p8 hn O H N] at hz2
    obtain rfl : jD (cA mem sub ids) mem a y = z := by simpa using hz2
    rfl
   rw [if_neg (by omega)]
   exact hM.gens a x g K (by omega)
  ·show fG G Z mem q ids sub.length _ g = none
   unfold fG
   rw [if_neg (by omega), if_neg (by omega)]
 ·rcases hent a z J with ⟨N, V, J⟩ | ⟨j, y, hjs, H, hze, hloc, hw⟩
  ·rw [lO N V] at U
   rcases hent a' z' hz' with ⟨ha', hni', hz'⟩ | ⟨j', y', hjs', Y, hze', hloc', hw'⟩
   ·rw [lO ha' hni'] at hl'
    exact hM.apart a a' z z' L L' B J hz' U hl' hk hk'
   ·rw [hloc'] at hl'
    exact absurd (hblk Y hl' hk') (hother V J U hk)
  ·rw [hloc] at U
   rcases hent a' z' hz' with ⟨ha', hni', hz'⟩ | ⟨j', y', hjs', Y, hze', hloc', hw'⟩
   ·rw [lO ha' hni'] at hl'
    exact absurd (hblk H U hk) (hother hni' hz' hl' hk')
   ·rw [hloc'] at hl'
    have hjj := hM3.apart j j' y y' L L' B H Y (by rw [hgens j y H]; exact U) (by rw [hgens j' y' Y]; exact hl') hk hk'
    subst hjj
    rcases hw with ⟨x, O, _⟩ | ⟨i, hi, rfl, _⟩
    ·rcases hw' with ⟨x', hj', _⟩ | ⟨i', hi', rfl, _⟩
     ·rw [O] at hj'; exact ya hj'
     ·have := (yf.1 O).1; omega
    ·rcases hw' with ⟨x', hj', _⟩ | ⟨i', hi', rfl, _⟩
     ·have := (yf.1 hj').1; omega
     ·omega
 ·show pr true B o
  have h' : pr false B o := h
  simp only [pr, yy1, if_false] at h'
  simp only [pr, if_true]
  split
  ·exact h4lab B o h'
  ·exact .inr h'
 ·obtain ⟨β', hp'⟩ := hpr4 β B o h
  rcases h4n β' B o hp' with hp' | ⟨b, x, L, hb, K, hL, hB⟩
  ·exact hM3.away β' B o hp'
  ·exact hM3.blk_lt K hL hB
end
end Go.Ab
end
section
namespace Go.Ab
variable [b8]
section
variable {P : Program}
theorem nE.append {G : Gh} {w : World} {a b : List AV} {u v : Array Value} (h : nE G w a u) (J : nE G w b v) : nE G w (a ++ b) (u ++ v) := by
 refine ⟨by simp [h.1, J.1], fun j y z => ?_⟩
 by_cases H : j < a.length
 ·rw [yo H] at z
  have := h.2 j y z
  rw [yk, yl2 (by rw [← h.1]; exact H), ← yk]; exact this
 ·rw [yq (by omega)] at z
  have := J.2 _ y z
  rw [yk, Array.getElem?_append_right (by rw [← h.1]; omega), ← h.1, ← yk]; exact this
theorem nE.renAll {G z : Gh} {w : World} {f : j8} {as : List AV} {vs : Array Value} (h : nE G w as vs) (J : z2 G z f) (K : ∀ β B o, G.prot β B o → z.prot β B o) : nE z w (AV.renAll f as) vs := by
 refine ⟨by rw [dW]; simpa using h.1, fun j y H => ?_⟩
 obtain ⟨x, N, rfl⟩ := oD H
 exact (h.2 j x N).ren (l := true) J (fun β B o _ => K β B o) (fun _ => rfl)
theorem GC {C : bZ} (hC : g9 P C) {G : Gh} {w : World} {mem : aW} (hM : aQ G w mem) {raw keep : Bool} {g : FuncId} {ts : List TypeId} {fi args ca : List AV} {out : dX} {fv av cv : Array Value}
  (h : wM P C raw keep g ts fi args ca mem = some out) (hf : nE G w fi fv) (ha : nE G w args av) (hc : nE G w ca cv) : K7 P G w mem g (fv ++ av ++ cv) out := by
 unfold wM at h
 rw [bind_some] at h; obtain ⟨H, hla, h⟩ := h
 simp only at h
 generalize hids : eT mem (cL mem (AV.refsAll (fi ++ H.1 ++ ca)).length) (AV.refsAll (fi ++ H.1 ++ ca)) [] = ids at h
 rw [aA] at h; obtain ⟨hg, h⟩ := h
 simp only [yc] at hg
 obtain ⟨hn, hd⟩ := hg
 rw [bind_some] at h; obtain ⟨q, hq, h⟩ := h
 rw [aA] at h; obtain ⟨hg, h⟩ := h
 simp only [yc, yx1, yz, Bool.or_eq_false_iff] at hg
 obtain ⟨U, z⟩ := hg
 have U := d5.1 U
 have hgl := dA.lend G (bA G mem H.2) hM.inBoxes
 have V := Hd (us := av.toList) (S := H.2) hM hla ⟨by simpa using ha.1, fun j y hy => by rw [cZ]; exact ha.2 j y hy⟩ (fun b h => h)
 have hall : nE (G.lend (bA G mem H.2)) w (fi ++ H.1 ++ ca) (fv ++ av ++ cv) :=
  ((hf.mono hgl (Ev.refl G w)).append ⟨by simpa using V.1, fun j y hy => by rw [← cZ]; exact V.2 j y hy⟩).append (hc.mono hgl (Ev.refl G w))
 have hM1 := LR (lent := H.2) hM hn hd
 have Y : nE (IH G w mem ids H.2) w (AV.renAll (fB mem ids) (fi ++ H.1 ++ ca)) (fv ++ av ++ cv) := hall.renAll (Cw (G := G.lend (bA G mem H.2)) rfl) (fun _ _ _ h => h)
 obtain ⟨hen, hcl⟩ := hC g _ _ q hq _ w _ hM1 (fun j x hx => by obtain ⟨b, y, _, _, rfl⟩ := fP hx; rfl) Y
 refine ⟨hen, Calls.mono hcl fun e w' he => ?_⟩
 obtain ⟨G3, qv, rfl, hR⟩ := he
 obtain ⟨qr, qm⟩ := q
 simp only at h z U hR
 have hR' := hR
 obtain ⟨O, hev, hmine3, hprot3, hnew3, K, hgens, hkept, hnones⟩ := hR'
 simp only at O K
 have hl3 : ∀ B o, G3.prot false B o → G3.prot true B o := K.lab
 cases hcd : (eE ids.length (bif raw then qr else jR ids.length qm qr).refs && eE ids.length (j7 (List.take ids.length qm))) with
 | true =>
  rw [hcd] at h; simp only [yg] at h
  obtain rfl := ya h
  have htl : (qm.take ids.length).length = ids.length := by simp; omega
  have key : ∃ r, r = (bif raw then qr else jR ids.length qm qr) ∧ VR (G3.frz (kX G3 qm ids.length)) w' r qv ∧ (qr.lent = false ∧ fL qm = false → r.lent = false) := by
   cases raw with
   | true => exact ⟨_, rfl, O.mono (dA.frz G3 _ (by rintro B o ⟨b, x, L, _, hx, hl, hB⟩; exact K.mine hx hl hB)) (Ev.refl G3 w'), fun h => h.1⟩
   | false => exact ⟨_, rfl, Es K O, fun h => Gj h.2 h.1⟩
  obtain ⟨r, hr, hvr, hrl⟩ := key
  obtain ⟨G', W, J, Z, N⟩ := G7 (sub := qm.take ids.length) (lent := H.2) (r := r) (cv := qv) hM hn hd hR (z.imp id (fun h => ⟨hrl h, h.2⟩)) hvr rfl rfl (fun _ _ _ h => .inl h)
   (fun β B o h => by rw [htl]; exact h) (fun B o h => h.imp (hl3 B o) id) (fun j hj => by rw [htl] at hj; rw [yh2, if_pos hj]) (by omega) (by omega)
  refine ⟨G', qv, rfl, by rw [← hr]; exact W, J, Z, ?_⟩
  have hnil : (qm.take ids.length).drop ids.length = [] := List.drop_eq_nil_of_le (by omega)
  rw [hnil] at N
  exact N
 | false =>
  rw [hcd] at h; simp only [yh] at h
  obtain rfl := ya h
  obtain ⟨G', W, J, Z, N⟩ := G7 (sub := qm) (lent := H.2) (r := qr) (cv := qv) hM hn hd hR z O rfl rfl (fun _ _ _ h => h)
   (fun β B o h => .inl h) hl3 (fun j hj => rfl) U (yu _)
  exact ⟨G', qv, rfl, W, J, Z, N⟩
end
end Go.Ab
end
section
namespace Go.Ab
variable [b8]
structure SR (G : Gh) (w : World) (st : St) (a : Act) : Prop where
 memr : aQ G w st.mem
 len : st.tmps.length = a.tmps.size
 tmps : ∀ (j : Nat) (x : AV), st.tmps[j]? = some x → dV x = true ∨ VR G w x (a.tmps.getD j undef)
 defers : a.defers = []
structure CR (G0 : Gh) (w0 : World) (old : List (Option Bool)) (G : Gh) (w : World) : Prop where
 ev : Ev G0 w0 w
 mine : G.mine = G0.mine
 prot : ∀ β B o, G0.prot β B o → G.prot β B o
 new : ∀ β B o, G.prot β B o → G0.prot β B o ∨ G0.mine B
 keep : ∀ j, old[j]? = some (some true) → ∀ L, G0.loc j 0 = some L → G.loc j 0 = some L
theorem CR.refl (G : Gh) (w : World) (old : List (Option Bool)) : CR G w old G w := ⟨Ev.refl G w, rfl, fun _ _ _ h => h, fun _ _ _ h => .inl h, fun _ _ _ h => h⟩
theorem CR.step {G0 : Gh} {w0 : World} {old : List (Option Bool)} {G K : Gh} {w J : World} (h : CR G0 w0 old G w) (H : dA G K) (z : Ev G w J) : CR G0 w0 old K J where
 ev :=
  ⟨yt1 h.ev.size z.size, z.out.trans h.ev.out, z.os.trans h.ev.os, fun B N O => (z.away B (yr1 N h.ev.size) (by rw [h.mine]; exact O)).trans (h.ev.away B N O),
   fun B o x => z.some B o (h.ev.some B o x), fun β B o x => (z.prot β B o (h.prot _ _ _ x)).trans (h.ev.prot β B o x), fun B o x => (z.fz B o (h.ev.some B o x)).trans (h.ev.fz B o x), z.tape.trans h.ev.tape⟩
 mine := H.mine.trans h.mine
 prot β B o x := H.prot _ _ _ (h.prot _ _ _ x)
 new β B o x := (H.new _ _ _ x).elim (h.new _ _ _) (fun y => .inr (by rw [← h.mine]; exact y))
 keep j hj L hL := H.loc _ _ _ (h.keep j hj L hL)
theorem I6 {tmps : List AV} {t : Nat} {v : AV} (h : Au tmps t = some v) : tmps[t]? = some v ∧ dV v = false := by
 unfold Au at h
 rw [bO] at h
 rw [bind_some] at h; obtain ⟨u, H, h⟩ := h
 cases z : dV u with
 | true => rw [z] at h; simp at h
 | false => rw [z] at h; simp only [yh] at h; obtain rfl := ya h; exact ⟨H, z⟩
section
variable {P : Program}
theorem SR.get {G : Gh} {w : World} {st : St} {a : Act} (h : SR G w st a) {t : Nat} {v : AV} (J : Au st.tmps t = some v) : VR G w v (a.tmps.getD t undef) := by
 obtain ⟨H, K⟩ := I6 J
 rcases h.tmps t v H with z | z
 ·rw [K] at z; cases z
 ·exact z
theorem HN {G : Gh} {w : World} {mem : aW} (K : aQ G w mem) {g : Nat} {q : Int × Int} (h : b8.tab g = some q) : VR G w (.el true (.agg [.lit (.int .i64 q.1), .lit (.int .i64 q.2)]) 0) (.pointer (some ⟨g, 0, none⟩)) := by
 obtain ⟨⟨H, J⟩, O, N⟩ := K.glob g q h
 refine .el true _ 0 g 0 (fun j => if j = 0 then .int .i64 q.1 else .int .i64 q.2) (fun j y z => ?_) (fun j y z => ?_)
 ·match j, z with
  | 0, z => exact ⟨H, J⟩
  | 1, z => exact ⟨O, N⟩
 ·match j, z with
  | 0, z => obtain rfl := ya z; exact .lit _ rfl
  | 1, z => obtain rfl := ya z; exact .lit _ rfl
theorem SR.eval {G : Gh} {w : World} {st : St} {a : Act} (h : SR G w st a) : Mh G w (eQ st.tmps) a := by
 intro x v z
 cases x with
 | tmp t => exact h.get z
 | const c => exact mV z
 | func f =>
  obtain rfl := ya z
  exact .fn (.func f) [] [] #[] #[] rfl rfl (fun j y H => by simp at H) (fun j y H => by simp at H)
 | global g =>
  simp only [eQ] at z
  obtain ⟨q, J, rfl⟩ := yd.1 z
  exact HN h.memr J
theorem GW (a : Act) (dst : Option Tmp) (v : Value) : (a.put dst v).defers = a.defers ∧ (a.put dst v).tmps.size = a.tmps.size := by
 cases dst <;> simp [Act.put]
theorem SR.put {G J : Gh} {w K : World} {st : St} {a : Act} {dst : Option Tmp} {v : AV} {cv : Value} {mem' : aW} (h : SR G w st a) (U : dA G J) (O : Ev G w K) (W : VR J K v cv) (V : aQ J K mem') :
  SR J K { tmps := j3 st.tmps dst v, mem := mem' } (a.put dst cv) := by
 refine ⟨V, ?_, fun j x z => ?_, by rw [(GW a dst cv).1]; exact h.defers⟩
 ·rw [(GW a dst cv).2, ← h.len]
  cases dst <;> simp [j3, dM]
 ·cases dst with
  | none => exact (h.tmps j x z).imp id (fun h => h.mono U O)
  | some d =>
   simp only [j3, dM] at z
   simp only [Act.put]
   by_cases N : j = d
   ·subst N
    have H : j < st.tmps.length := by have := (yf.1 z).1; simpa using this
    rw [ye1 H] at z
    obtain rfl := ya z
    right
    rw [yk, Array.getElem?_setIfInBounds_self_of_lt (by rw [← h.len]; exact H)]
    exact W
   ·rw [yd1 (fun e => N e.symm)] at z
    refine (h.tmps j x z).imp id (fun h => ?_)
    rw [yk, Array.getElem?_setIfInBounds_ne (fun e => N e.symm), ← yk]
    exact h.mono U O
theorem aQ.congr {G : Gh} {w : World} {mem mem' : aW} (z : aQ G w mem) (h : ∀ (b : Nat) (x : c7), mem'[b]? = some (some x) ↔ mem[b]? = some (some x)) : aQ G w mem' :=
 ⟨fun b x H => z.box b x ((h b x).1 H), fun b g H => z.unset b g (fun x J => H x ((h b x).2 J)), fun b x g H => z.gens b x g ((h b x).1 H),
  fun b K x x' L N B H J => z.apart b K x x' L N B ((h b x).1 H) ((h K x').1 J), z.own, z.lab, z.away, z.glob⟩
theorem FZ : ∀ {m : aW} {b : Nat} {x : c7}, (trim m)[b]? = some (some x) ↔ m[b]? = some (some x)
 | [], b, x => by simp [trim]
 | y :: m, b, x => by
  have J := fun b => FZ (m := m) (b := b) (x := x)
  simp only [trim]
  split
  ·rename_i K
   rw [K] at J
   have H : ∀ b : Nat, m[b]? ≠ some (some x) := fun b N => by have := (J b).2 N; simp at this
   cases y with
   | none =>
    simp only [IN, yg]
    cases b with
    | zero => simp
    | succ b => simp [H b]
   | some y =>
    simp only [IN, yh]
    cases b with
    | zero => simp
    | succ b => simp [H b]
  ·rename_i z hz
   cases b with
   | zero => simp
   | succ b => simp only [ys1]; exact J b
theorem JE {mem : aW} {rs : Nat} : rV mem rs = true ↔ mem[rs]? = some none := by
 unfold rV
 split
 ·rename_i h; simp [h]
 ·rename_i h; constructor
  ·intro z; cases z
  ·intro z; exact absurd z h
inductive pO (P : Program) (C : bZ) (an : dJ) (rid : Nat) (ops : Array Oper) (o : Oper) (i rs : Nat) (st : St) : St → Option Tr → Prop
 | run (out : dX) (st1 : St) (hst : st1.mem = st.mem ∧ ∀ t : Nat, st1.tmps[t]? = st.tmps[t]?) (hres : dE o.op = true → rV st.mem rs = true) (h : F1 P C (cB rid i an.boxed) (cB rid i an.raw) (cB rid i an.vars) o (eQ st1.tmps) st1.mem rs = some out)
   (hg : ∀ j want, o.guard = some (j, want) → ∃ d, (ops[j]?).bind (·.dst) = some d ∧ st.tmps[d]? = some (.lit (.bool want))) :
   pO P C an rid ops o i rs st { tmps := j3 st1.tmps o.dst out.v, mem := out.apply st1.mem } (some (out.tr (dE o.op) rs i o.op st1.mem))
 | skip (st1 : St) (hst : st1.mem = st.mem ∧ ∀ t : Nat, st1.tmps[t]? = st.tmps[t]?) (j : Nat) (want : Bool) (d : Nat) (hg : o.guard = some (j, want)) (hd : (ops[j]?).bind (·.dst) = some d)
   (h : st.tmps[d]? = some (.lit (.bool (!want))) ∨ ∃ x, st.tmps[d]? = some (.lit (.tuple x))) : pO P C an rid ops o i rs st { tmps := j3 st1.tmps o.dst (.lit undef), mem := st1.mem } none
theorem Kb {tmps : List AV} {d : Nat} {v : AV} (h : tmps[d]? = some v) : ∀ t : Nat, (tmps.set d v)[t]? = tmps[t]? := by
 intro t
 by_cases e : t = d
 ·subst e; rw [ye1 (yf.1 h).1, h]
 ·rw [yd1 (fun x => e x.symm)]
variable {R : Type}
theorem Gn {h : Option Int} {v : AV} {k : AV → Option R} {r : R} (z : s0 h v k = some r) : k v = some r := by
 unfold s0 at z
 split at z
 ·exact z
 ·split at z
  ·rw [aA] at z
   rw [decide_eq_true_eq] at z
   rw [z.1]; exact z.2
  ·rename_i x _ b
   cases H : decide (x = 0) with
   | true =>
    rw [H] at z; simp only [yg] at z
    rw [aA] at z
    cases b with
    | false => exact z.2
    | true => simp at z
   | false =>
    rw [H] at z; simp only [yh] at z
    rw [aA] at z
    cases b with
    | true => exact z.2
    | false => simp at z
  ·exact z
theorem Dr {C : bZ} {an : dJ} {rid : Nat} {ops : Array Oper} {o : Oper} {rest : List Oper} {i rs : Nat} {st : St} {tr : List Tr} {k : St → List Tr → Option R} {r : R}
  (h : oX P C an rid (ops.toList.map (·.dst)) (o :: rest) i rs st tr k = some r) :
  ∃ J t, pO P C an rid ops o i rs st J t ∧ oX P C an rid (ops.toList.map (·.dst)) rest (i + 1) (bif dE o.op then rs + 1 else rs) J (t.toList ++ tr) k = some r := by
 simp only [oX, bO, dM] at h
 have hds : ∀ {j : Nat} {d : Nat}, (ops.toList.map (·.dst))[j]? = some (some d) → (ops[j]?).bind (·.dst) = some d := by
  intro j d hj
  rw [yc1] at hj
  obtain ⟨x, hx, hd⟩ := yd.1 hj
  rw [ym1] at hx
  rw [hx]; exact hd
 have O : ∀ (H : St), (H.mem = st.mem ∧ ∀ t : Nat, H.tmps[t]? = st.tmps[t]?) → (∀ j z, o.guard = some (j, z) → ∃ d, (ops[j]?).bind (·.dst) = some d ∧ st.tmps[d]? = some (.lit (.bool z))) →
   guardB (bif dE o.op then rV H.mem rs else true) ((F1 P C (cB rid i an.boxed) (cB rid i an.raw) (cB rid i an.vars) o (eQ H.tmps) H.mem rs).bind fun out =>
    s0 (y7 rid i an.hint) out.v fun v => oX P C an rid (ops.toList.map (·.dst)) rest (i + 1) (bif dE o.op then rs + 1 else rs) { tmps := j3 H.tmps o.dst v, mem := out.apply H.mem } (out.tr (dE o.op) rs i o.op H.mem :: tr) k) = some r →
   ∃ J t, pO P C an rid ops o i rs st J t ∧ oX P C an rid (ops.toList.map (·.dst)) rest (i + 1) (bif dE o.op then rs + 1 else rs) J (t.toList ++ tr) k = some r := by
  intro H W U h
  rw [aA] at h; obtain ⟨hr, h⟩ := h
  rw [bind_some] at h; obtain ⟨out, hout, h⟩ := h
  have h := Gn h
  refine ⟨_, _, .run out H W (fun hm => ?_) hout U, by simpa using h⟩
  rw [hm] at hr; rw [← W.1]; exact hr
 have K : ∀ (H : St), (H.mem = st.mem ∧ ∀ t : Nat, H.tmps[t]? = st.tmps[t]?) → ∀ (j : Nat) (z : Bool) (d : Nat), o.guard = some (j, z) → (ops[j]?).bind (·.dst) = some d → (st.tmps[d]? = some (.lit (.bool (!z))) ∨ ∃ x, st.tmps[d]? = some (.lit (.tuple x))) →
   oX P C an rid (ops.toList.map (·.dst)) rest (i + 1) (bif dE o.op then rs + 1 else rs) { tmps := j3 H.tmps o.dst (.lit undef), mem := H.mem } tr k = some r →
   ∃ J t, pO P C an rid ops o i rs st J t ∧ oX P C an rid (ops.toList.map (·.dst)) rest (i + 1) (bif dE o.op then rs + 1 else rs) J (t.toList ++ tr) k = some r := by
  intro H W j z d U hd hh h
  exact ⟨_, _, .skip H W j z d U hd hh, by simpa using h⟩
 have N : ∀ {d : Nat} {v : AV}, st.tmps[d]? = some v → (({ st with tmps := st.tmps.set d v } : St).mem = st.mem ∧ ∀ t : Nat, ({ st with tmps := st.tmps.set d v } : St).tmps[t]? = st.tmps[t]?) := fun h => ⟨rfl, Kb h⟩
 split at h
 ·rename_i U
  exact O st ⟨rfl, fun _ => rfl⟩ (fun j z h => by rw [U] at h; cases h) h
 ·rename_i j z U
  split at h
  ·rename_i d hd
   have V := hds hd
   split at h
   ·rename_i b Y
    cases b with
    | true =>
     simp only [yg] at h
     cases z with
     | true => simp only [yg, yh] at h; exact O _ (N Y) (fun j' Z h' => by rw [U] at h'; obtain ⟨rfl, rfl⟩ := Prod.mk.inj (ya h'); exact ⟨d, V, Y⟩) h
     | false => simp only [yg, yh] at h; exact K _ (N Y) j false d U V (.inl Y) h
    | false =>
     simp only [yh] at h
     cases z with
     | true => simp only [yg, yh] at h; exact K _ (N Y) j true d U V (.inl Y) h
     | false => simp only [yg, yh] at h; exact O _ (N Y) (fun j' Z h' => by rw [U] at h'; obtain ⟨rfl, rfl⟩ := Prod.mk.inj (ya h'); exact ⟨d, V, Y⟩) h
   ·rename_i x hx
    exact K st ⟨rfl, fun _ => rfl⟩ j z d U V (.inr ⟨x, hx⟩) h
   ·simp at h
  ·simp at h
theorem SR.same {G : Gh} {w : World} {st z : St} {a : Act} (h : SR G w st a) (H : z.mem = st.mem ∧ ∀ t : Nat, z.tmps[t]? = st.tmps[t]?) : SR G w z a := by
 refine ⟨by rw [H.1]; exact h.memr, ?_, fun j x K => h.tmps j x (by rw [← H.2]; exact K), h.defers⟩
 rw [← h.len]
 rcases Nat.lt_trichotomy z.tmps.length st.tmps.length with J | N | J
 ·have := H.2 z.tmps.length
  rw [yy (yu _), ye J] at this; cases this
 ·exact N
 ·have := H.2 st.tmps.length
  rw [yy (yu _), ye J] at this; cases this
theorem SR.lit {G : Gh} {w : World} {st : St} {a : Act} (h : SR G w st a) {d : Nat} {v : Value} (J : st.tmps[d]? = some (.lit v)) : a.tmps[d]? = some v := by
 have H : d < a.tmps.size := by rw [← h.len]; exact (yf.1 J).1
 rcases h.tmps d _ J with z | z
 ·simp [dV] at z
 ·have := z.lit_inv
  rw [yk, yi1 H] at this
  rw [yi1 H]; simpa using this
theorem pO.sound {C : bZ} (hC : g9 P C) {an : dJ} {rid : Nat} {ops : Array Oper} {o : Oper} {i rs : Nat} {st V : St} {t : Option Tr} {G : Gh} {w : World} {a : Act} (hi : ops[i]? = some o)
  (h : pO P C an rid ops o i rs st V t) (U : SR G w st a) (K : Act → World → Prop) (Q : Exit → Act → World → Prop) (hK : ∀ G' W a', dA G G' → Ev G w W → SR G' W V a' → K a' W) : wpOp P ops Q i K a w := by
 unfold wpOp
 simp only [hi]
 cases h with
 | run out st1 J Y ho hg =>
  have z := U.same J
  have hw : Region.wanted o (yielded ops a.tmps) = true := by
   unfold Region.wanted
   cases hgo : o.guard with
   | none => rfl
   | some q =>
    obtain ⟨j, H⟩ := q
    obtain ⟨d, hd, Z⟩ := hg j H hgo
    have := U.lit Z
    simp [yielded, hd, this]
  rw [if_pos hw]
  left
  exact JF z.memr (fun hm => by rw [J.1]; exact JE.1 (Y hm)) z.eval (fun hc hf ha hcv => GC hC z.memr hc hf ha hcv) ho K Q
   (fun G' W cv hv N O hM' => hK G' W _ N O (z.put N O hv hM'))
 | skip st1 J j H d hg hd h =>
  have z := U.same J
  have hw : Region.wanted o (yielded ops a.tmps) = false := by
   unfold Region.wanted
   simp only [hg]
   rcases h with Z | ⟨x, Z⟩
   ·have := U.lit Z
    cases H <;> simp [yielded, hd, this]
   ·have := U.lit Z
    simp [yielded, hd, this]
  rw [hw]
  simp only [yy1, if_false]
  exact hK G w _ (dA.refl G) (Ev.refl G w) (z.put (dA.refl G) (Ev.refl G w) (.lit _ rfl) z.memr)
theorem Bm {C : bZ} (hC : g9 P C) {an : dJ} {rid : Nat} {ops : Array Oper} {k : St → List Tr → Option R} {r : R} {Q : Exit → Act → World → Prop} {G0 : Gh} {w0 : World} {old : List (Option Bool)} :
  ∀ {rest : List Oper} {i rs : Nat} {st : St} {tr : List Tr} {G : Gh} {w : World} {a : Act}, ops.toList.drop i = rest → oX P C an rid (ops.toList.map (·.dst)) rest i rs st tr k = some r → SR G w st a → CR G0 w0 old G w →
   (∀ z N W H Y, k z N = some r → SR W H z Y → CR G0 w0 old W H → Q .normal Y H) → wpOps P ops Q (List.range' i rest.length) a w
 | [], i, rs, st, tr, G, w, a, U, h, V, Z, K => by
  simp only [oX] at h
  exact K st tr G w a h V Z
 | o :: rest, i, rs, st, tr, G, w, a, U, h, V, Z, K => by
  obtain ⟨z, t, J, h'⟩ := Dr h
  have hi : ops[i]? = some o := by
   have : (ops.toList.drop i)[0]? = some o := by rw [U]; rfl
   rw [ya1, yf2, ym1] at this; exact this
  rw [yw, List.range'_succ, wpOps_cons]
  refine J.sound hC hi V _ _ (fun W H Y hg he O => ?_)
  exact Bm hC (by rw [← List.drop_drop, U]; rfl) h' O (Z.step hg he) K
end
end Go.Ab
end
section
namespace Go.Ab
variable [b8]
theorem BX {p : Nat → Prop} (h : ∃ n, p n) : ∃ n, p n ∧ ∀ m, p m → n ≤ m := by
 obtain ⟨n, K⟩ := h
 induction n using Nat.strongRecOn with
 | _ n N =>
  by_cases H : ∃ m, m < n ∧ p m
  ·obtain ⟨m, z, H⟩ := H; exact N m z H
  ·exact ⟨n, K, fun m J => Nat.le_of_not_lt fun z => H ⟨m, z, J⟩⟩
section
variable {P : Program}
theorem Fv {c : Code} {Q : Exit → Act → World → Prop} {a : Act} {w : World} (I : Nat → Act → World → Prop) {n : Nat} (Y : I n a w)
  (z : ∀ n a w, I n a w → c.wp P (Exit.then (fun N K => ∃ m, m < n ∧ I m N K) Q) a w) : (Code.loop c).wp P Q a w := by
 refine wp_loop (fun a w => ∃ n, I n a w) (fun a w => Classical.epsilon fun n => I n a w ∧ ∀ m, I m a w → n ≤ m) ⟨n, Y⟩ fun a w W => ?_
 have J := Classical.epsilon_spec (BX W)
 refine wp_mono (z _ a w J.1) fun e N K V => ?_
 cases e <;> try exact V
 obtain ⟨m, U, O⟩ := V
 have H := Classical.epsilon_spec (BX (p := fun n => I n N K) ⟨m, O⟩)
 exact ⟨⟨m, O⟩, Nat.lt_of_le_of_lt (H.2 m O) U⟩
def Ex.to : Ex → Exit
 | .normal => .normal
 | .exit id => .exit id
 | .ret => .ret
theorem Aa : ∀ {live : List Nat} {vs : List AV} {i j : Nat}, (cI live vs i)[j]? = (vs[j]?).map fun v => bif f7 (i + j) live then v else .goneV
 | live, [], i, j => by simp [cI]
 | live, v :: r, i, 0 => by simp [cI]
 | live, v :: r, i, j + 1 => by simp only [cI, ys1]; rw [Aa (vs := r), show i + 1 + j = i + (j + 1) by omega]
theorem H8 {G0 : Gh} {w0 : World} {old : List (Option Bool)} {live : List Nat} {st J : St} {G : Gh} {w : World} {a : Act} (h : FW old live st = some J) (N : SR G w st a) (K : CR G0 w0 old G w) :
  ∃ Y, SR Y w J a ∧ CR G0 w0 old Y w := by
 unfold FW at h
 obtain ⟨q, hq, rfl⟩ := yd.1 h
 obtain ⟨f, G2, V, hm, O, hM, H, hk, _, _, _⟩ := o0 N.memr hq
 refine ⟨G2, ⟨hM, ?_, fun j x U => ?_, N.defers⟩, ⟨K.ev, hm.trans K.mine, fun β B o h => by rw [O]; exact K.prot β B o h, fun β B o h => K.new β B o (by rw [O] at h; exact h), fun j W L hL => hk j W L (K.keep j W L hL)⟩⟩
 ·simp only [V, dW, ya2]
  rw [← N.len]
  have : ∀ (vs : List AV) i, (cI live vs i).length = vs.length := by
   intro vs; induction vs with
   | nil => intro i; rfl
   | cons v r ih => intro i; simp [cI, ih]
  exact this _ _
 ·simp only [V] at U
  obtain ⟨y, Z, rfl⟩ := oD U
  rw [Aa] at Z
  obtain ⟨z, hz, rfl⟩ := yd.1 Z
  cases hmn : f7 (0 + j) live with
  | false => left; rfl
  | true =>
   simp only [yg]
   rcases N.tmps j z hz with h | h
   ·left
    unfold dV at h
    split at h
    ·rfl
    ·cases h
   ·right; exact h.ren (l := true) H (fun β B o _ hb => by rw [O]; exact hb) (fun _ => rfl)
variable {R : Type}
def AN (P : Program) (C : bZ) (an : dJ) : Prop := ∀ (R : Type) (rid : Nat) (ops : Array Oper) (st : St) (k : St → Option R) (r : R) (G0 : Gh) (w0 : World) (old : List (Option Bool)) (G : Gh) (w : World) (a : Act) (Q : Exit → Act → World → Prop),
 oC P C an rid ops true st k = some r → SR G w st a → CR G0 w0 old G w → (∀ st' G' w' a', k st' = some r → SR G' w' st' a' → CR G0 w0 old G' w' → Q .normal a' w') → (Code.region rid ops true).wp P Q a w
theorem As {m : aW} {n b : Nat} {x : c7} : (m ++ List.replicate n none)[b]? = some (some x) ↔ m[b]? = some (some x) := by
 by_cases z : b < m.length
 ·rw [yo z]
 ·rw [yq (by omega), yd2]
  constructor
  ·intro h; split at h <;> simp at h
  ·intro h; rw [yy (by omega)] at h; cases h
theorem SR.widen {G : Gh} {w : World} {st : St} {a : Act} (h : SR G w st a) (n : Nat) : SR G w { st with mem := st.mem ++ List.replicate n none } a :=
 ⟨h.memr.congr fun b x => As, h.len, h.tmps, h.defers⟩
theorem SR.trim {G : Gh} {w : World} {st : St} {a : Act} (h : SR G w st a) : SR G w { st with mem := trim st.mem } a :=
 ⟨h.memr.congr fun b x => FZ, h.len, h.tmps, h.defers⟩
theorem Eo {C : bZ} (hC : g9 P C) {an : dJ} (hD : AN P C an) {rid : Nat} {ops : Array Oper} {z : Bool} {st : St} {k : St → Option R} {r : R} {G0 : Gh} {w0 : World} {old : List (Option Bool)} {G : Gh} {w : World} {a : Act}
  {Q : Exit → Act → World → Prop} (h : oC P C an rid ops z st k = some r) (Y : SR G w st a) (Z : CR G0 w0 old G w) (W : ∀ H N K O, k H = some r → SR N K H O → CR G0 w0 old N K → Q .normal O K) :
  (Code.region rid ops z).wp P Q a w := by
 cases z with
 | true => exact hD R rid ops st k r G0 w0 old G w a Q h Y Z W
 | false =>
  unfold oC at h
  apply wp_region
  have := Bm (Q := Q) (G0 := G0) (w0 := w0) (old := old) hC (ops := ops) (rest := ops.toList) (i := 0) (by simp) h (Y.widen _) Z (fun H tr' N K O J U V => by
   rw [aA] at J
   exact W _ N K O J.2 U.trim V)
  rw [List.range_eq_range']
  simpa using this
theorem GG {α : Type} {a b : Option α} {r : α} (h : amb a b = some r) : a = some r ∧ b = some r := by
 unfold amb at h
 split at h
 ·rename_i e; exact ⟨h, e ▸ h⟩
 ·cases h
theorem VR.unk_inv {G : Gh} {w : World} {v : Value} (h : VR G w (.imm true (.lit (.bool false))) v) : ∃ b, v = .bool b := by
 cases h with
 | imm _ _ _ _ z => cases z
 | unkB b => exact ⟨b, rfl⟩
theorem lV {C : bZ} (hC : g9 P C) {an : dJ} (hD : AN P C an) {n : Nat} {old : List (Option Bool)} {G0 : Gh} {w0 : World} : ∀ (c : Code) {N : Nat} {st : St} {k : Ex → St → Option R} {r : R} {G : Gh} {w : World} {a : Act} {Q : Exit → Act → World → Prop},
  dF P C an n old c N st k = some r → SR G w st a → CR G0 w0 old G w → (∀ e z W Y Z, k e z = some r → SR W Y z Z → CR G0 w0 old W Y → Q e.to Z Y) → c.wp P Q a w := by
 intro c
 induction c with
 | skip => intro N st k r G w a Q h O U K; exact wp_skip (K .normal st G w a h O U)
 | ret => intro N st k r G w a Q h O U K; exact wp_ret (K .ret st G w a h O U)
 | exit id => intro N st k r G w a Q h O U K; exact wp_exit (K (.exit id) st G w a h O U)
 | seq x y ihx ihy =>
  intro N st k r G w a Q h O U K
  simp only [dF] at h
  refine wp_seq (ihx h O U fun e z W Y Z V H J => ?_)
  cases e with
  | normal => exact ihy V H J K
  | exit id => exact K (.exit id) z W Y Z V H J
  | ret => exact K .ret z W Y Z V H J
 | cond c x y ihx ihy =>
  intro N st k r G w a Q h O U K
  simp only [dF] at h
  split at h
  ·rename_i t ht
   have hc := (O.eval c _ ht).lit_inv
   cases t with
   | true => exact wp_cond_true hc (ihx h O U K)
   | false => exact wp_cond_false hc (ihy h O U K)
  ·rename_i ht
   obtain ⟨b, hc⟩ := (O.eval c _ ht).unk_inv
   obtain ⟨h1, h2⟩ := GG h
   cases b with
   | true => exact wp_cond_true hc (ihx h1 O U K)
   | false => exact wp_cond_false hc (ihy h2 O U K)
  ·simp at h
 | block id c ih =>
  intro N st k r G w a Q h O U K
  simp only [dF] at h
  refine wp_block (ih h O U fun e z W Y Z V H J => ?_)
  cases e with
  | normal => exact K .normal z W Y Z V H J
  | ret => exact K .ret z W Y Z V H J
  | exit j =>
   simp only at V
   cases hj : Nat.beq j id with
   | true =>
    rw [hj] at V; simp only [yg] at V
    obtain rfl := cN.1 hj
    simp only [Ex.to, Exit.inBlock, if_true]
    exact K .normal z W Y Z V H J
   | false =>
    rw [hj] at V; simp only [yh] at V
    have hne : ¬ j = id := fun h => by rw [cN.2 h] at hj; cases hj
    simp only [Ex.to, Exit.inBlock, hne, if_false]
    exact K (.exit j) z W Y Z V H J
 | loop c ih =>
  intro N st k r G w a Q h O U K
  simp only [dF] at h
  rw [bind_some] at h; obtain ⟨live, hl, h⟩ := h
  refine Fv (fun m a w => ∃ st G, sA old live (fun st k => dF P C an n old c N st k) m st k = some r ∧ SR G w st a ∧ CR G0 w0 old G w) ⟨st, G, h, O, U⟩ ?_
  rintro m a w ⟨st, G, h, O, U⟩
  cases m with
  | zero => simp [sA] at h
  | succ m =>
   simp only [sA] at h
   rw [bind_some] at h; obtain ⟨st1, h1, h⟩ := h
   obtain ⟨G1, hS1, hI1⟩ := H8 h1 O U
   refine ih h hS1 hI1 fun e z W Y Z V H J => ?_
   cases e with
   | normal => exact ⟨m, Nat.lt_succ_self _, z, W, V, H, J⟩
   | exit id => exact K (.exit id) z W Y Z V H J
   | ret => exact K .ret z W Y Z V H J
 | region rid ops draw =>
  intro N st k r G w a Q h O U K
  simp only [dF] at h
  exact Eo hC hD h O U (fun z W Y Z V H J => K .normal z W Y Z V H J)
 | _ => intro N st k r G w a Q h O U K; simp [dF] at h
def Kl (tmps : Array Value) : ResultVar → Sem Value
 | .tmp t => pure (tmps.getD t undef)
 | .cell c t => do loadVar t (← asAddr (tmps.getD c undef))
theorem H5 (fn : Func) (tmps : Array Value) : results fn tmps = (do let vs ← fn.results.mapM (Kl tmps); pure (if h : vs.size = 1 then vs[0] else .tuple vs)) := by
 unfold results
 congr 1
theorem sY {G : Gh} {w : World} {st : St} {a : Act} (O : SR G w st a) : ∀ {rs : List ResultVar} {vs : List AV}, Ax P st.tmps st.mem rs = some vs →
  ∃ us : List Value, iK G w vs us ∧ (rs.mapM (Kl a.tmps)).run P w = .ok us w
 | [], vs, h => by
  simp [Ax] at h; subst h
  exact ⟨[], ⟨rfl, fun j y K => by simp at K⟩, by simp⟩
 | .tmp t :: rs, vs, h => by
  simp only [Ax] at h
  rw [bind_some] at h; obtain ⟨v, hv, h⟩ := h
  obtain ⟨Z, Y, rfl⟩ := yd.1 h
  obtain ⟨us, N, H⟩ := sY O Y
  refine ⟨a.tmps.getD t undef :: us, ⟨by simp [N.1], fun j y K => ?_⟩, ?_⟩
  ·cases j with
   | zero => simp at K; subst K; exact O.get hv
   | succ j => simpa using N.2 j y (by simpa using K)
  ·rw [List.mapM_cons]
   simp only [Kl, Sem.run_bind, Sem.run_pure, Result.andThen_ok, H]
 | .cell c t :: rs, vs, h => by
  simp only [Ax] at h
  rw [bind_some] at h; obtain ⟨x, hx, h⟩ := h
  rw [bind_some] at h; obtain ⟨o, V, h⟩ := h
  obtain ⟨Z, Y, rfl⟩ := yd.1 h
  obtain ⟨us, N, H⟩ := sY O Y
  have J := O.get hx
  obtain ⟨v, rd, rfl, cv, U, W⟩ := zP O.memr V J
  refine ⟨cv :: us, ⟨by simp [N.1], fun j y K => ?_⟩, ?_⟩
  ·cases j with
   | zero => simp at K; subst K; exact W
   | succ j => simpa using N.2 j y (by simpa using K)
  ·rw [List.mapM_cons]
   have : (Kl a.tmps (.cell c t)).run P w = .ok cv w := by
    have hp : ∃ p, a.tmps.getD c undef = .pointer (some p) := by
     unfold iN at V
     split at V
     ·generalize a.tmps.getD c undef = z at J; cases J; exact ⟨_, rfl⟩
     ·generalize a.tmps.getD c undef = z at J; cases J; exact ⟨_, rfl⟩
     ·simp at V
    obtain ⟨p, hp⟩ := hp
    show Sem.run P (do loadVar t (← asAddr (a.tmps.getD c undef))) w = _
    rw [hp] at U ⊢
    simpa [Instr.loadAt, Instr.sureAddr, asAddr] using U
   simp only [Sem.run_bind, this, Result.andThen_ok, H, Sem.run_pure]
def n8 (P : Program) : Bool := P.funcs.all fun fn => !(fn.name == "runtime.NumGoroutine")
theorem nR {f : FuncId} {fn : Func} {z : Array Value} {w : World} (J : P.funcs[f]? = some fn) (H : n8 P = true) (hb : fn.body.isSome = true) : (callFunc f z).run P w = .ok (.enter f z) w := by
 have K : (fn.name == "runtime.NumGoroutine") = false := by
  unfold n8 at H
  rw [Array.all_eq_true_iff_forall_mem] at H
  have := H fn (Array.mem_of_getElem? J)
  simpa using this
 have N : fn.body.isNone = false := by cases h : fn.body <;> simp_all
 unfold callFunc
 simp only [Sem.run_bind, run_program, Result.andThen_ok, J, K, N, yy1, if_false, Sem.run_pure]
end
end Go.Ab
end
section
namespace Go.Ab
variable [b8]
def Ag (S : List Nat) (mem mem' : aW) : Prop := ∀ b ∈ S, mem'[b]? = mem[b]?
theorem Ag.sub {S S' : List Nat} {mem mem' : aW} (h : Ag S mem mem') (z : ∀ b ∈ S', b ∈ S) : Ag S' mem mem' := fun b H => h b (z b H)
theorem box?_ag {mem mem' : aW} {b g : Nat} (h : mem'[b]? = mem[b]?) : box? mem' b g = box? mem b g := by unfold box?; rw [h]
theorem Bz {mem mem' : aW} {b : Nat} (h : mem'[b]? = mem[b]?) : lM mem' b = lM mem b := by unfold lM; rw [h]
theorem sI {α β : Type} {f H : α → Option (Bool × β × List Nat)} : ∀ {xs : List α} {r : Bool × List β × List Nat}, eN f xs = some r → (∀ x q, f x = some q → (∀ b ∈ q.2.2, b ∈ r.2.2) → H x = some q) → eN H xs = some r
 | [], r, h, _ => h
 | v :: xs, r, h, J => by
  simp only [eN] at h ⊢
  rw [bind_some] at h; obtain ⟨a, N, h⟩ := h
  rw [bind_some] at h; obtain ⟨q, O, h⟩ := h
  obtain rfl := ya h
  rw [J v a N (fun b z => yk1 _ z), sI O (fun x K U V => J x K U (fun b z => yl1 _ (V b z)))]
  rfl
theorem w8 {α β γ : Type} {f K : γ → α → Option (Bool × β × List Nat)} : ∀ {H : List γ} {xs : List α} {r : Bool × List β × List Nat}, cG f H xs = some r → (∀ l x q, f l x = some q → (∀ b ∈ q.2.2, b ∈ r.2.2) → K l x = some q) → cG K H xs = some r
 | [], [], r, h, _ => h
 | [], v :: xs, r, h, z => by simp [cG] at h
 | l :: H, [], r, h, z => by simp [cG] at h
 | l :: H, v :: xs, r, h, z => by
  simp only [cG] at h ⊢
  rw [bind_some] at h; obtain ⟨a, N, h⟩ := h
  rw [bind_some] at h; obtain ⟨q, O, h⟩ := h
  obtain rfl := ya h
  rw [z l v a N (fun b J => yk1 _ J), w8 O (fun l x V U W => z l x V U (fun b J => yl1 _ (W b J)))]
  rfl
section
variable {P : Program}
theorem u1 {k : IntKind} {b : Nat} {w : aM} {r : Bool × PV × List Nat} (h : bD.treeInts k b w = some r) : b ∈ r.2.2 := by
 unfold bD.treeInts at h
 split at h
 ·rw [aA] at h; obtain ⟨_, h⟩ := h; obtain rfl := ya h; simp
 ·rw [aA] at h; obtain ⟨_, h⟩ := h; obtain ⟨xs, _, rfl⟩ := yd.1 h; simp
 ·simp at h
theorem BA {f : LK → AV → Option (Bool × PV × List Nat)} {t : TypeId} {e b : Nat} {w : aM} {r : Bool × PV × List Nat} (h : bD.treeSl P f t e b w = some r) : b ∈ r.2.2 := by
 unfold bD.treeSl at h
 split at h
 ·rw [aA] at h; obtain ⟨_, h⟩ := h; obtain rfl := ya h; simp
 ·rw [aA] at h; obtain ⟨_, h⟩ := h
  rw [bind_some] at h; obtain ⟨_, _, h⟩ := h
  obtain ⟨xs, _, rfl⟩ := yd.1 h; simp
 ·simp at h
theorem Ec {f K : LK → AV → Option (Bool × PV × List Nat)} {t : TypeId} {e b : Nat} {w : aM} {r : Bool × PV × List Nat} (h : bD.treeSl P f t e b w = some r)
  (O : ∀ l v q, f l v = some q → (∀ b ∈ q.2.2, b ∈ r.2.2) → K l v = some q) : bD.treeSl P K t e b w = some r := by
 unfold bD.treeSl at h ⊢
 split at h
 ·exact h
 ·rw [aA] at h ⊢; obtain ⟨Y, h⟩ := h
  refine ⟨Y, ?_⟩
  rw [bind_some] at h ⊢; obtain ⟨ls, H, h⟩ := h
  refine ⟨ls, H, ?_⟩
  obtain ⟨q, U, rfl⟩ := yd.1 h
  refine yd.2 ⟨q, sI U (fun vs q1 z h2 => ?_), rfl⟩
  rw [bind_some] at z ⊢; obtain ⟨Z, J, z⟩ := z
  obtain ⟨p, hp, rfl⟩ := yd.1 z
  refine ⟨Z, w8 J (fun l x W h3 N => O l x W h3 (fun b V => yi _ (h2 b (N b V)))), z⟩
 ·simp at h
theorem v9 {mem mem' : aW} : ∀ {n : Nat} {l : LK} {v : AV} {r : Bool × PV × List Nat}, bD P mem n l v = some r → Ag r.2.2 mem mem' → bD P mem' n l v = some r
 | 0, l, v, r, h, _ => by simp [bD] at h
 | n + 1, l, v, r, h, H => by
  unfold bD at h ⊢
  split at h <;> try exact h
  ·rename_i k b g
   rw [bind_some] at h ⊢; obtain ⟨x, z, h⟩ := h
   exact ⟨x, by rw [box?_ag (H b (u1 h))]; exact z, h⟩
  ·rename_i k b g o m
   rw [bind_some] at h ⊢; obtain ⟨x, z, h⟩ := h
   have O := h
   rw [bind_some] at h; obtain ⟨w, N, h⟩ := h
   exact ⟨x, by rw [box?_ag (H b (u1 h))]; exact z, O⟩
  ·rename_i t e b g
   rw [bind_some] at h ⊢; obtain ⟨x, z, h⟩ := h
   exact ⟨x, by rw [box?_ag (H b (BA h))]; exact z, Ec h (fun l v q K J => v9 K (H.sub J))⟩
  ·rename_i t e b g o m
   rw [bind_some] at h ⊢; obtain ⟨x, z, h⟩ := h
   rw [bind_some] at h; obtain ⟨w, N, h⟩ := h
   refine ⟨x, by rw [box?_ag (H b (BA h))]; exact z, ?_⟩
   rw [bind_some]
   exact ⟨w, N, Ec h (fun l v q K J => v9 K (H.sub J))⟩
variable {mem mem' : aW}
theorem AS {t : TypeId} {v : AV} {r : Bool × PV × List Nat} (h : oZ P mem t v = some r) (N : Ag r.2.2 mem mem') : oZ P mem' t v = some r := by
 unfold oZ at h ⊢
 rw [bind_some] at h ⊢; obtain ⟨O, z, h⟩ := h
 refine ⟨O, z, ?_⟩
 rw [bind_some] at h ⊢; obtain ⟨q, H, h⟩ := h
 refine ⟨q, w8 H (fun l x q' J U => v9 J (N.sub fun b K => ?_)), h⟩
 obtain ⟨p, _, rfl⟩ := yd.1 h
 exact U b K
theorem Jz {vars : Bool} {t : TypeId} {vs : List AV} {r : aM × List Nat} (h : k7 P vars mem t vs = some r) (z : Ag r.2 mem mem') : k7 P vars mem' t vs = some r := by
 unfold k7 at h ⊢
 split at h
 ·exact h
 ·rw [bind_some] at h ⊢; obtain ⟨e, N, h⟩ := h
  refine ⟨e, N, ?_⟩
  cases vars with
  | true => exact h
  | false =>
   simp only [yh] at h ⊢
   obtain ⟨q, H, rfl⟩ := yd.1 h
   exact yd.2 ⟨q, sI H (fun v q' J K => AS J (z.sub K)), rfl⟩
theorem p5 : ∀ {ids : List Nat}, Ag ids mem mem' → bS mem' ids = bS mem ids
 | [], _ => rfl
 | b :: r, h => by
  have z := p5 (ids := r) (h.sub fun b H => yi _ H)
  simp only [bS, h b (ym ..), z]
theorem AU {J : TypeId} {y : AV} {v : aM × List Nat} (h : view P J mem y = some v) (H : Ag v.2 mem mem') : view P J mem' y = some v := by
 unfold view at h ⊢
 split at h <;> try exact h
 ·rename_i b g o n
  have h' := h
  rw [bind_some] at h ⊢; obtain ⟨x, z, h⟩ := h
  obtain ⟨w, hw, rfl⟩ := yd.1 h
  exact ⟨x, by rw [box?_ag (H b (by simp))]; exact z, h⟩
 ·rename_i b g
  rw [bind_some] at h ⊢; obtain ⟨x, z, h⟩ := h
  obtain rfl := ya h
  exact ⟨x, by rw [box?_ag (H b (by simp))]; exact z, rfl⟩
theorem KK {t : TypeId} {x : AV} {n : Nat × List Nat} (h : lenOf P t mem x = some n) (z : Ag n.2 mem mem') : lenOf P t mem' x = some n := by
 unfold lenOf at h ⊢
 split at h
 ·exact h
 ·split at h <;> try exact h
  rename_i b g
  obtain ⟨x, H, rfl⟩ := yd.1 h
  exact yd.2 ⟨x, by rw [box?_ag (z b (by simp))]; exact H, rfl⟩
 ·simp at h
variable {out : dX}
theorem KN {t : TypeId} {a : AV} (h : iN P t mem a = some out) (z : Ag out.rd mem mem') : iN P t mem' a = some out := by
 unfold iN at h ⊢
 split at h
 ·exact h
 ·rename_i b g i c
  rw [bind_some] at h ⊢; obtain ⟨x, H, h⟩ := h
  refine ⟨x, ?_, h⟩
  have : b ∈ out.rd := by
   split at h
   ·rw [bind_some] at h; obtain ⟨ag, _, h⟩ := h
    cases ag with
    | true =>
     simp only [yg] at h
     rw [bind_some] at h; obtain ⟨n, _, h⟩ := h
     rw [aA] at h; obtain ⟨_, h⟩ := h
     obtain rfl := ya h; simp
    | false =>
     simp only [yh] at h
     obtain ⟨v, _, rfl⟩ := yd.1 h; simp
   ·rw [aA] at h; obtain ⟨_, h⟩ := h
    rw [aA] at h; obtain ⟨_, h⟩ := h
    obtain ⟨v, _, rfl⟩ := yd.1 h; simp
   ·rw [bind_some] at h; obtain ⟨y, _, h⟩ := h
    obtain ⟨v, _, rfl⟩ := yd.1 h; simp
  rw [box?_ag (z b this)]; exact H
 ·simp at h
theorem IZ {t : TypeId} {a x : AV} (h : iT P t mem a x = some out) (J : Ag out.rd mem mem') : iT P t mem' a x = some out := by
 unfold iT at h ⊢
 split at h
 ·rename_i b g i c
  rw [bind_some] at h ⊢; obtain ⟨W, H, h⟩ := h
  refine ⟨W, ?_, ?_⟩
  ·have : b ∈ out.rd := by
    rw [bind_some] at h; obtain ⟨n, _, h⟩ := h
    rw [aA] at h; obtain ⟨_, h⟩ := h
    split at h
    ·rw [aA] at h; obtain ⟨_, h⟩ := h
     obtain rfl := ya h; simp
    ·split at h
     ·rw [aA] at h; obtain ⟨_, h⟩ := h
      obtain rfl := ya h; simp
     ·simp at h
    ·rw [bind_some] at h; obtain ⟨p, _, h⟩ := h
     rw [bind_some] at h; obtain ⟨q, _, h⟩ := h
     rw [aA] at h; obtain ⟨_, h⟩ := h
     obtain rfl := ya h; simp
   rw [box?_ag (J b this)]; exact H
  ·rw [bind_some] at h ⊢; obtain ⟨n, K, h⟩ := h
   refine ⟨n, K, ?_⟩
   rw [aA] at h ⊢; obtain ⟨V, h⟩ := h
   refine ⟨V, ?_⟩
   split at h
   ·exact h
   ·exact h
   ·rw [bind_some] at h ⊢; obtain ⟨p, Y, h⟩ := h
    refine ⟨p, Y, ?_⟩
    rw [bind_some] at h ⊢; obtain ⟨q, N, h⟩ := h
    have U := h
    rw [aA] at h; obtain ⟨_, h⟩ := h
    obtain rfl := ya h
    have z : Ag q.2.2 mem mem' := J.sub fun b O => yi _ O
    exact ⟨q, AS N z, by rw [p5 z]; exact U⟩
 ·simp at h
theorem Jd {t : TypeId} {x : AV} {i : Int} (h : iF P t mem x i = some out) (J : Ag out.rd mem mem') : iF P t mem' x i = some out := by
 unfold iF at h ⊢
 split at h
 ·rw [bind_some] at h ⊢; obtain ⟨s, K, h⟩ := h
  refine ⟨s, K, ?_⟩
  split at h <;> try exact h
  ·rename_i b g o n
   rw [bind_some] at h ⊢; obtain ⟨H, z, h⟩ := h
   refine ⟨H, ?_, h⟩
   rw [aA] at h; obtain ⟨_, h⟩ := h
   obtain rfl := ya h
   rw [box?_ag (J b (by simp))]; exact z
  ·rename_i b g
   rw [bind_some] at h ⊢; obtain ⟨H, z, h⟩ := h
   refine ⟨H, ?_, h⟩
   rw [aA] at h; obtain ⟨_, h⟩ := h
   obtain rfl := ya h
   rw [box?_ag (J b (by simp))]; exact z
 ·exact h
 ·simp at h
theorem Jl {t : TypeId} {x : AV} {O N U : Option Int} (h : fX P t mem x O N U = some out) (K : Ag out.rd mem mem') : fX P t mem' x O N U = some out := by
 unfold fX at h ⊢
 split at h
 ·exact h
 ·rw [bind_some] at h ⊢; obtain ⟨s, J, h⟩ := h
  refine ⟨s, J, ?_⟩
  split at h <;> try exact h
  ·rename_i b g o n
   rw [bind_some] at h ⊢; obtain ⟨H, z, h⟩ := h
   refine ⟨H, ?_, h⟩
   rw [aA] at h; obtain ⟨_, h⟩ := h
   obtain ⟨q, _, rfl⟩ := yd.1 h
   rw [box?_ag (K b (by simp))]; exact z
  ·rename_i b g
   rw [bind_some] at h ⊢; obtain ⟨H, z, h⟩ := h
   refine ⟨H, ?_, h⟩
   rw [aA] at h; obtain ⟨_, h⟩ := h
   obtain ⟨q, _, rfl⟩ := yd.1 h
   rw [box?_ag (K b (by simp))]; exact z
 ·rw [bind_some] at h ⊢; obtain ⟨s, J, h⟩ := h
  refine ⟨s, J, ?_⟩
  split at h
  ·rename_i b g c
   rw [aA] at h ⊢; obtain ⟨V, h⟩ := h
   refine ⟨V, ?_⟩
   rw [bind_some] at h ⊢; obtain ⟨H, z, h⟩ := h
   refine ⟨H, ?_, h⟩
   split at h
   ·rw [aA] at h; obtain ⟨_, h⟩ := h
    obtain ⟨q, _, rfl⟩ := yd.1 h
    rw [box?_ag (K b (by simp))]; exact z
   ·simp at h
  ·simp at h
 ·simp at h
theorem Ip {boxed vars : Bool} {t Z : TypeId} {rs : Nat} {x y : AV} (h : i7 P boxed vars t Z mem rs x y = some out) (N : Ag out.rd mem mem') : i7 P boxed vars t Z mem' rs x y = some out := by
 unfold i7 at h ⊢
 rw [bind_some] at h ⊢; obtain ⟨et, V, h⟩ := h; refine ⟨et, V, ?_⟩
 rw [bind_some] at h ⊢; obtain ⟨s, hs, h⟩ := h; refine ⟨s, hs, ?_⟩
 rw [bind_some] at h ⊢; obtain ⟨bytes, Y, h⟩ := h; refine ⟨bytes, Y, ?_⟩
 rw [bind_some] at h ⊢; obtain ⟨z, hz, h⟩ := h; refine ⟨z, hz, ?_⟩
 rw [bind_some] at h ⊢; obtain ⟨O, H, h⟩ := h
 have h0 := h
 rw [aA] at h; obtain ⟨hg, h⟩ := h
 split at h
 ·refine ⟨O, ?_, h0⟩
  rw [aA] at h; obtain ⟨_, h⟩ := h
  refine AU H (N.sub fun b K => ?_)
  cases boxed with
  | true => simp only [yg] at h; obtain ⟨row, _, rfl⟩ := yd.1 h; exact K
  | false => simp only [yh] at h; obtain ⟨v, _, rfl⟩ := yd.1 h; exact K
 ·rename_i b g
  have h1 := h
  rw [bind_some] at h; obtain ⟨U, J, h⟩ := h
  have W := h
  rw [bind_some] at h; obtain ⟨zv, _, h⟩ := h
  rw [aA] at h; obtain ⟨_, h⟩ := h
  obtain rfl := ya h
  refine ⟨O, AU H (N.sub fun b K => yi _ K), ?_⟩
  rw [aA]
  refine ⟨hg, ?_⟩
  rw [bind_some]
  exact ⟨U, by rw [box?_ag (N b (ym ..))]; exact J, W⟩
 ·rename_i b g n
  have h1 := h
  rw [bind_some] at h; obtain ⟨U, J, h⟩ := h
  have W := h
  rw [bind_some] at h; obtain ⟨xv, _, h⟩ := h
  rw [bind_some] at h; obtain ⟨zv, _, h⟩ := h
  rw [aA] at h; obtain ⟨_, h⟩ := h
  obtain rfl := ya h
  refine ⟨O, AU H (N.sub fun b K => yi _ K), ?_⟩
  rw [aA]
  refine ⟨hg, ?_⟩
  rw [bind_some]
  exact ⟨U, by rw [box?_ag (N b (ym ..))]; exact J, W⟩
 ·simp at h
theorem Kf {t J : TypeId} {rs : Nat} {n : Int} (h : Ah P t J mem rs n = some out) : Ah P t J mem' rs n = some out := by
 unfold Ah at h ⊢
 split at h
 ·rw [bind_some] at h ⊢; obtain ⟨W, H, h⟩ := h
  refine ⟨W, H, ?_⟩
  rw [bind_some] at h ⊢; obtain ⟨z, U, h⟩ := h
  refine ⟨z, U, ?_⟩
  split at h
  ·rw [bind_some] at h ⊢; obtain ⟨q, N, h⟩ := h
   have O := h
   rw [bind_some] at h; obtain ⟨e, _, h⟩ := h
   rw [bind_some] at h; obtain ⟨bytes, _, h⟩ := h
   rw [aA] at h
   have K := h.1
   simp only [yc] at K
   exact ⟨q, AS N (by rw [kM K.2.2]; exact fun b V => by cases V), O⟩
  ·cases h
 ·cases h
theorem Hb {boxed vars : Bool} {b : Builtin} {ts : List TypeId} {rs : Nat} {args : List AV} (h : dL P boxed vars b ts mem rs args = some out) (z : Ag out.rd mem mem') : dL P boxed vars b ts mem' rs args = some out := by
 unfold dL at h ⊢
 split at h
 ·obtain ⟨n, H, rfl⟩ := yd.1 h
  exact yd.2 ⟨n, KK H z, rfl⟩
 ·exact Kf h
 ·exact Ip h z
 ·exact h
 ·exact h
 ·exact h
 ·simp at h
theorem G9 {boxed : Bool} {z dst : TypeId} {rs : Nat} {x : AV} (h : jM P boxed z dst mem rs x = some out) (H : Ag out.rd mem mem') : jM P boxed z dst mem' rs x = some out := by
 unfold jM at h ⊢
 split at h
 ·exact h
 ·exact h
 ·split at h
  ·rw [bind_some] at h ⊢; obtain ⟨v, J, h⟩ := h
   refine ⟨v, AU J ?_, h⟩
   rw [aA] at h; obtain ⟨_, h⟩ := h
   split at h
   ·obtain rfl := ya h; exact H
   ·simp at h
  ·exact h
 ·split at h
  ·rw [aA] at h ⊢; obtain ⟨K, h⟩ := h; refine ⟨K, ?_⟩
   rw [bind_some] at h ⊢; obtain ⟨x, N, h⟩ := h
   refine ⟨x, ?_, h⟩
   rw [aA] at h; obtain ⟨_, h⟩ := h
   obtain rfl := ya h
   rw [box?_ag (H _ (by simp))]; exact N
  ·exact h
 ·simp at h
theorem pG {l : LK} {v : AV} {r : AV × List Nat} (h : fD P mem l v = some r) (H : Ag r.2 mem mem') : fD P mem' l v = some r := by
 unfold fD at h ⊢
 split at h
 ·obtain ⟨q, z, rfl⟩ := yd.1 h
  exact yd.2 ⟨q, v9 z H, rfl⟩
 ·obtain ⟨q, z, rfl⟩ := yd.1 h
  exact yd.2 ⟨q, v9 z H, rfl⟩
 ·exact h
theorem s7 : ∀ {H : List LK} {vs : List AV} {r : List AV × List Nat}, bL P mem H vs = some r → Ag r.2 mem mem' → bL P mem' H vs = some r
 | [], [], r, h, _ => h
 | [], v :: vs, r, h, _ => by simp [bL] at h
 | l :: H, [], r, h, _ => by simp [bL] at h
 | l :: H, v :: vs, r, h, J => by
  simp only [bL] at h ⊢
  rw [bind_some] at h; obtain ⟨a, K, h⟩ := h
  rw [bind_some] at h; obtain ⟨b, z, h⟩ := h
  obtain rfl := ya h
  rw [pG K (J.sub fun b z => yk1 _ z), s7 z (J.sub fun b z => yl1 _ z)]
  rfl
theorem Lt {t : TypeId} {v : AV} {r : AV × List Nat} (h : lend P mem t v = some r) (H : Ag r.2 mem mem') : lend P mem' t v = some r := by
 unfold lend at h ⊢
 split at h
 ·rw [bind_some] at h ⊢; obtain ⟨l, K, h⟩ := h
  exact ⟨l, K, pG h H⟩
 ·rw [bind_some] at h ⊢; obtain ⟨l, K, h⟩ := h
  exact ⟨l, K, pG h H⟩
 ·rename_i cs
  cases z : Ea cs with
  | true =>
   rw [z] at h; simp only [yg] at h ⊢
   rw [bind_some] at h ⊢; obtain ⟨N, J, h⟩ := h
   refine ⟨N, J, ?_⟩
   obtain ⟨q, O, rfl⟩ := yd.1 h
   exact yd.2 ⟨q, s7 O H, rfl⟩
  | false => rw [z] at h; exact h
 ·exact h
theorem BP : ∀ {ts : List TypeId} {vs : List AV} {r : List AV × List Nat}, eP P mem ts vs = some r → Ag r.2 mem mem' → eP P mem' ts vs = some r
 | [], [], r, h, _ => h
 | [], v :: vs, r, h, _ => by simp [eP] at h
 | t :: ts, [], r, h, _ => by simp [eP] at h
 | t :: ts, v :: vs, r, h, H => by
  simp only [eP] at h ⊢
  rw [bind_some] at h; obtain ⟨a, J, h⟩ := h
  rw [bind_some] at h; obtain ⟨b, z, h⟩ := h
  obtain rfl := ya h
  rw [Lt J (H.sub fun b z => yk1 _ z), BP z (H.sub fun b z => yl1 _ z)]
  rfl
theorem yI : ∀ {n : Nat} {H z : List Nat}, ∀ b ∈ z, b ∈ eT mem n H z
 | 0, H, z, b, J => by simpa [eT] using J
 | n + 1, [], z, b, J => by simpa [eT] using J
 | n + 1, t :: H, z, b, J => by
  simp only [eT]
  cases f7 t z with
  | true => simp only [yg]; exact yI b J
  | false => simp only [yh]; exact yI b (yk1 _ J)
theorem Bp : ∀ {n : Nat} {H z : List Nat}, Ag (eT mem n H z) mem mem' → eT mem' n H z = eT mem n H z
 | 0, H, z, _ => by simp [eT]
 | n + 1, [], z, _ => by simp [eT]
 | n + 1, t :: H, z, J => by
  simp only [eT] at J ⊢
  cases K : f7 t z with
  | true => rw [K] at J; simp only [yg] at J ⊢; exact Bp J
  | false =>
   rw [K] at J; simp only [yh] at J ⊢
   have N : mem'[t]? = mem[t]? := J t (yI t (by simp))
   have : zC mem' t = zC mem t := by unfold zC; rw [N]
   rw [this]
   exact Bp J
theorem By : ∀ {ids : List Nat} {b n : Nat}, b ∉ ids → pY b ids n = none
 | [], b, n, _ => rfl
 | m :: r, b, n, h => by
  simp only [pY]
  cases H : Nat.beq m b with
  | true => exact absurd (by rw [cN.1 H]; exact ym ..) h
  | false => simp only [yh]; exact By fun z => h (yi _ z)
theorem KG {ids : List Nat} (H : Ag ids mem mem') : fB mem' ids = fB mem ids := by
 funext b g
 by_cases z : b ∈ ids
 ·unfold fB; rw [Bz (H b z)]
 ·have J : pY b ids 0 = none := By z
  have : ∀ m : aW, fB m ids b g = none := by
   intro m
   unfold fB
   split
   ·rw [J]; cases Nat.beq _ g <;> rfl
   ·rfl
  rw [this, this]
theorem Bh (f : j8) : ∀ {ids : List Nat}, Ag ids mem mem' → dY f mem' ids = dY f mem ids
 | [], _ => rfl
 | b :: r, h => by
  simp only [dY, h b (ym ..), Bh f (ids := r) (h.sub fun b z => yi _ z)]
theorem nK (f : j8) : ∀ {ids : List Nat} {q : aW}, Ag ids mem mem' → a9 f mem' ids q = a9 f mem ids q
 | [], q, _ => by simp [a9]
 | a :: ids, [], _ => by simp [a9]
 | a :: ids, none :: q, h => by simp only [a9]; exact nK f (h.sub fun b z => yi _ z)
 | a :: ids, some x :: q, h => by
  simp only [a9, Bz (h a (ym ..)), nK f (ids := ids) (q := q) (h.sub fun b z => yi _ z)]
theorem Ig {sub : aW} {ids : List Nat} (J : mem'.length = mem.length) (z : Ag ids mem mem') : cA mem' sub ids = cA mem sub ids := by
 funext b g
 unfold cA
 cases Nat.beq g 0 with
 | false => rfl
 | true =>
  simp only [yg]
  cases H : ids[b]? with
  | none => rw [J]
  | some a => simp only [Bz (z a (yt H))]
theorem J6 {keep : Bool} {ts : List TypeId} {vs : List AV} {r : List AV × List Nat} (h : G8 P keep mem ts vs = some r) (z : Ag r.2 mem mem') : G8 P keep mem' ts vs = some r := by
 cases keep with
 | true => exact h
 | false => exact BP h z
theorem Kc {C : bZ} {raw keep : Bool} {g : FuncId} {ts : List TypeId} {J args H : List AV} (Y : mem'.length = mem.length) (h : wM P C raw keep g ts J args H mem = some out) (W : Ag out.rd mem mem') : wM P C raw keep g ts J args H mem' = some out := by
 unfold wM at h ⊢
 rw [bind_some] at h ⊢; obtain ⟨z, O, h⟩ := h
 simp only at h
 have V : out.rd = z.2 ++ eT mem (cL mem (AV.refsAll (J ++ z.1 ++ H)).length) (AV.refsAll (J ++ z.1 ++ H)) [] := by
  rw [aA] at h; obtain ⟨_, h⟩ := h
  rw [bind_some] at h; obtain ⟨q, _, h⟩ := h
  rw [aA] at h; obtain ⟨_, h⟩ := h
  revert h
  cases (eE (eT mem (cL mem (AV.refsAll (J ++ z.1 ++ H)).length) (AV.refsAll (J ++ z.1 ++ H)) []).length
    (bif raw then q.1 else jR (eT mem (cL mem (AV.refsAll (J ++ z.1 ++ H)).length) (AV.refsAll (J ++ z.1 ++ H)) []).length q.2 q.1).refs &&
     eE (eT mem (cL mem (AV.refsAll (J ++ z.1 ++ H)).length) (AV.refsAll (J ++ z.1 ++ H)) []).length
      (j7 (List.take (eT mem (cL mem (AV.refsAll (J ++ z.1 ++ H)).length) (AV.refsAll (J ++ z.1 ++ H)) []).length q.2))) with
  | true => intro h; simp only [yg] at h; obtain rfl := ya h; rfl
  | false => intro h; simp only [yh] at h; obtain rfl := ya h; rfl
 rw [V] at W
 refine ⟨z, J6 O (W.sub fun b U => yk1 _ U), ?_⟩
 have N : ∀ n, cL mem' n = cL mem n := fun n => by unfold cL; rw [Y]
 have K := W.sub (S' := eT mem (cL mem (AV.refsAll (J ++ z.1 ++ H)).length) (AV.refsAll (J ++ z.1 ++ H)) []) fun b U => yl1 _ U
 simp only [N, Bp K, KG K, Bh _ K, Ig Y K, nK _ K]
 exact h
theorem Mj {C : bZ} {boxed raw vars : Bool} {o : Oper} {ρ : Operand → Option AV} {rs : Nat} (hl : kN o = true → mem'.length = mem.length) (h : F1 P C boxed raw vars o ρ mem rs = some out) (H : Ag out.rd mem mem') :
  F1 P C boxed raw vars o ρ mem' rs = some out := by
 unfold F1 BY s9 F5 u3 eC vA FM Gm Lc A3 yF wT jH u4 v6 mM CD at h ⊢
 split at h <;> rename_i W <;> try exact h
 ·rw [bind_some] at h ⊢; obtain ⟨et, K, h⟩ := h; refine ⟨et, K, ?_⟩
  rw [bind_some] at h ⊢; obtain ⟨z, hz, h⟩ := h; refine ⟨z, hz, ?_⟩
  rw [bind_some] at h ⊢; obtain ⟨s, hs, h⟩ := h; refine ⟨s, hs, ?_⟩
  rw [bind_some] at h ⊢; obtain ⟨ps, hps, h⟩ := h; refine ⟨ps, hps, ?_⟩
  rw [aA] at h ⊢; obtain ⟨N, h⟩ := h; refine ⟨N, ?_⟩
  rw [bind_some] at h ⊢; obtain ⟨wv, hwv, h⟩ := h
  have h' := h
  rw [aA] at h; obtain ⟨_, h⟩ := h
  obtain ⟨ov, _, rfl⟩ := yd.1 h
  exact ⟨wv, Jz hwv H, by rw [p5 H]; exact h'⟩
 ·rw [bind_some] at h ⊢; obtain ⟨a, O, h⟩ := h
  exact ⟨a, O, KN h H⟩
 ·rw [bind_some] at h ⊢; obtain ⟨a, O, h⟩ := h; refine ⟨a, O, ?_⟩
  rw [bind_some] at h ⊢; obtain ⟨x, U, h⟩ := h
  exact ⟨x, U, IZ h H⟩
 ·rw [bind_some] at h ⊢; obtain ⟨a, O, h⟩ := h
  exact ⟨a, O, G9 h H⟩
 ·rw [bind_some] at h ⊢; obtain ⟨et, K, h⟩ := h; refine ⟨et, K, ?_⟩
  rw [bind_some] at h ⊢; obtain ⟨z, hz, h⟩ := h; refine ⟨z, hz, ?_⟩
  rw [bind_some] at h ⊢; obtain ⟨l, hl', h⟩ := h; refine ⟨l, hl', ?_⟩
  rw [bind_some] at h ⊢; obtain ⟨c, Y, h⟩ := h; refine ⟨c, Y, ?_⟩
  split at h
  ·rw [aA] at h ⊢; obtain ⟨N, h⟩ := h; refine ⟨N, ?_⟩
   split at h
   ·exact h
   ·rw [bind_some] at h ⊢; obtain ⟨q, hq, h⟩ := h
    refine ⟨q, ?_, h⟩
    rw [bind_some] at h; obtain ⟨e, _, h⟩ := h
    rw [bind_some] at h; obtain ⟨bytes, _, h⟩ := h
    rw [aA] at h; obtain ⟨N, h⟩ := h
    simp only [yc] at N
    have : q.2.2 = [] := kM N.2
    exact AS hq (by rw [this]; intro b hb; cases hb)
  ·exact h
 ·rw [bind_some] at h ⊢; obtain ⟨x, U, h⟩ := h; refine ⟨x, U, ?_⟩
  rw [bind_some] at h ⊢; obtain ⟨lo, V, h⟩ := h; refine ⟨lo, V, ?_⟩
  rw [bind_some] at h ⊢; obtain ⟨hi, hhi, h⟩ := h; refine ⟨hi, hhi, ?_⟩
  rw [bind_some] at h ⊢; obtain ⟨mx, Z, h⟩ := h
  exact ⟨mx, Z, Jl h H⟩
 ·rw [bind_some] at h ⊢; obtain ⟨x, U, h⟩ := h; refine ⟨x, U, ?_⟩
  rw [bind_some] at h ⊢; obtain ⟨ix, hix, h⟩ := h; refine ⟨ix, hix, ?_⟩
  split at h
  ·exact Jd h H
  ·exact h
 ·rename_i c
  rw [bind_some] at h ⊢; obtain ⟨args, J, h⟩ := h; refine ⟨args, J, ?_⟩
  split at h
  ·exact Hb h H
  ·rename_i f Y
   rw [bind_some] at h ⊢; obtain ⟨fv, hf, h⟩ := h; refine ⟨fv, hf, ?_⟩
   split at h
   ·exact Kc (hl (by unfold kN; rw [W]; simp only; rw [Y])) h H
   ·exact h
  ·exact h
theorem oA {ρ ρ' : Operand → Option AV} : ∀ {xs : List Operand}, (∀ x ∈ xs, ρ' x = ρ x) → yT ρ' xs = yT ρ xs
 | [], _ => rfl
 | x :: r, h => by simp only [yT, h x (ym ..), oA (xs := r) (fun y z => h y (yi _ z))]
theorem oG {ρ ρ' : Operand → Option AV} : ∀ {xs : List (Nat × Operand)}, (∀ x ∈ xs.map (·.2), ρ' x = ρ x) → jW ρ' xs = jW ρ xs
 | [], _ => rfl
 | (i, x) :: r, h => by simp only [jW, h x (by simp), oG (xs := r) (fun y z => h y (yi _ z))]
theorem sU {ρ ρ' : Operand → Option AV} {x : Option Operand} (h : ∀ y, x = some y → ρ' y = ρ y) : A2 ρ' x = A2 ρ x := by
 cases x with
 | none => rfl
 | some y => simp only [A2, h y rfl]
theorem LN {C : bZ} {boxed raw vars : Bool} {o : Oper} {ρ ρ' : Operand → Option AV} {rs : Nat} (h : ∀ x ∈ o.op.operands, ρ' x = ρ x) : F1 P C boxed raw vars o ρ' mem rs = F1 P C boxed raw vars o ρ mem rs := by
 obtain ⟨dst, op, N, Ox, K, guard⟩ := o
 cases op <;> simp only [Op.operands] at h <;> simp only [F1, BY, s9, F5, u3, eC, vA, FM, Gm, Lc, A3, yF, wT, jH, u4, v6, mW, mM, CD]
 case move x => simp only [pM, h x (by simp)]
 case assign x => simp only [pM, h x (by simp)]
 case build t ps => rw [oG (fun x z => h x (by simpa using z))]
 case buildSlice t n ps => rw [oG (fun x z => h x (by simpa using z))]
 case makeFunc fn first captured =>
  rw [oA (xs := first.toList) fun x z => h x (by simp at z ⊢; exact .inl z), oA (xs := captured.toList) fun x z => h x (by simp at z ⊢; exact .inr z)]
 case slice t x lo hi mx =>
  rw [h x (by simp), sU (x := lo) fun y H => h y (by simp [H]), sU (x := hi) fun y H => h y (by simp [H]), sU (x := mx) fun y H => h y (by simp [H])]
 case call c =>
  obtain ⟨J, args, ts⟩ := c
  simp only [Call.operands] at h
  rw [oA (xs := args.toList) fun x z => h x (by simp at z ⊢; exact .inr z)]
  cases J with
  | builtin b => rfl
  | value f => simp only [h f (by simp)]
  | invoke r m => rfl
 all_goals (first | rfl | (simp_all; done))
end
end Go.Ab
end
section
namespace Go.Ab
variable [b8]
structure jQ where
 v : AV
 wr : List (Nat × c7)
 push : aW
 tr : Option Tr
noncomputable def jQ.app (e : jQ) (dst : Option Tmp) (st : St) : St := { tmps := j3 st.tmps dst e.v, mem := aN st.mem e.wr ++ e.push }
section
variable {P : Program}
inductive iC (P : Program) (C : bZ) (an : dJ) (rid : Nat) (ops : Array Oper) (o : Oper) (i rs : Nat) (st : St) : jQ → Prop
 | run (out : dX) (hres : dE o.op = true → rV st.mem rs = true) (h : F1 P C (cB rid i an.boxed) (cB rid i an.raw) (cB rid i an.vars) o (eQ st.tmps) st.mem rs = some out)
   (hg : ∀ j want, o.guard = some (j, want) → ∃ d, (ops[j]?).bind (·.dst) = some d ∧ st.tmps[d]? = some (.lit (.bool want))) :
   iC P C an rid ops o i rs st { v := out.v, wr := out.wr, push := out.push, tr := some (out.tr (dE o.op) rs i o.op st.mem) }
 | skip (j : Nat) (want : Bool) (d : Nat) (hg : o.guard = some (j, want)) (hd : (ops[j]?).bind (·.dst) = some d)
   (h : st.tmps[d]? = some (.lit (.bool (!want))) ∨ ∃ x, st.tmps[d]? = some (.lit (.tuple x))) : iC P C an rid ops o i rs st { v := .lit undef, wr := [], push := [], tr := none }
theorem Same.eq {st z : St} (h : z.mem = st.mem ∧ ∀ t : Nat, z.tmps[t]? = st.tmps[t]?) : z = st := by
 obtain ⟨t1, m1⟩ := z
 obtain ⟨t, m⟩ := st
 simp only at h
 obtain ⟨rfl, h⟩ := h
 rw [List.ext_getElem? h]
variable {C : bZ} {an : dJ} {rid : Nat} {ops : Array Oper}
theorem pO.two {o : Oper} {i rs : Nat} {st J : St} {t : Option Tr} (h : pO P C an rid ops o i rs st J t) : ∃ e, iC P C an rid ops o i rs st e ∧ e.tr = t ∧ J = e.app o.dst st := by
 cases h with
 | run out O z K U N =>
  obtain rfl := Same.eq z
  exact ⟨_, .run out K U N, rfl, rfl⟩
 | skip O z j H d N V h =>
  obtain rfl := Same.eq z
  exact ⟨_, .skip j H d N V h, rfl, by simp [jQ.app, aN]⟩
theorem iC.one {o : Oper} {i rs : Nat} {st : St} {e : jQ} (h : iC P C an rid ops o i rs st e) : pO P C an rid ops o i rs st (e.app o.dst st) e.tr := by
 cases h with
 | run out z N J => exact .run out st ⟨rfl, fun _ => rfl⟩ z N J
 | skip j H d J K h =>
  have := pO.skip (P := P) (C := C) (an := an) (rid := rid) (ops := ops) (o := o) (i := i) (rs := rs) (st := st) st ⟨rfl, fun _ => rfl⟩ j H d J K h
  simpa [jQ.app, aN] using this
def KM (ops : Array Oper) (o : Oper) (d : Nat) : Prop := d ∈ o.looksAt ops
def L7 (L : Nat) (all : List Tr) (e : jQ) (b : Nat) : Prop := ∃ t, e.tr = some t ∧ (b ∈ (CU L all t).rd ∨ b ∈ t.wr)
def p4 (S F : Nat → Prop) (st st' : St) : Prop := (∀ d : Nat, S d → st'.tmps[d]? = st.tmps[d]?) ∧ (∀ b : Nat, F b → st'.mem[b]? = st.mem[b]?)
theorem GU {v : AV} {q : Nat × Nat × Nat × Nat} (h : lR v = some q) : v = .ptr q.1 q.2.1 q.2.2.1 q.2.2.2 := by
 unfold lR at h
 split at h
 ·cases h; rfl
 ·cases h
theorem J9 {t : TypeId} {mem mem' : aW} {a : AV} {out : dX} (h : iN P t mem a = some out) (hp : (lR out.v).isSome = true) {b : Nat} (hb : out.rd = [b]) (O : (a0 mem b).isSome = true) (J : a0 mem' b = a0 mem b) : iN P t mem' a = some out := by
 unfold iN at h ⊢
 cases a with
 | ptr V g i c =>
  simp only at h ⊢
  rw [bind_some] at h
  obtain ⟨bx, z, h⟩ := h
  unfold box? at z
  split at z
  ·rename_i x hx
   have U : Nat.beq x.gen g = true := by
    cases U : Nat.beq x.gen g with
    | true => rfl
    | false => rw [U] at z; cases z
   rw [U] at z
   obtain rfl := ya (show some x = some bx from z)
   split at h
   ·rename_i e cs H
    rw [bind_some] at h
    obtain ⟨ag, hag, h⟩ := h
    cases ag with
    | true =>
     simp only [yg] at h
     rw [bind_some] at h
     obtain ⟨n, _, h⟩ := h
     rw [aA] at h
     obtain rfl := (ya h.2)
     simp [lR] at hp
    | false =>
     simp only [yh] at h
     obtain ⟨v, hv, rfl⟩ := yd.1 h
     obtain rfl : V = b := by simpa using hb
     obtain ⟨q, hq⟩ := Option.isSome_iff_exists.1 hp
     have W : a0 mem V = some (x.gen, e, cs.map lR) := by unfold a0 gB; rw [hx]; simp only [H]
     rw [W] at J
     unfold a0 at J
     split at J
     ·rename_i x' Z
      unfold gB at J
      split at J
      ·rename_i e' N K
       obtain ⟨hg', he', hl'⟩ : x'.gen = x.gen ∧ e' = e ∧ N.map lR = cs.map lR := by
        have := ya J
        simp only [Prod.mk.injEq] at this
        exact this
       unfold box?
       rw [Z]
       simp only [hg', U, yg, yb, K, he', hag, yh]
       have : (N.map lR)[i * e + c]? = some (some q) := by rw [hl', yc1, hv]; simp [hq]
       rw [yc1] at this
       obtain ⟨v', Y, hq'⟩ := yd.1 this
       rw [Y, yn, GU hq', show v = _ from GU hq]
      ·cases J
     ·cases J
   ·rename_i k xs H
    rw [aA] at h; obtain ⟨_, h⟩ := h
    rw [aA] at h; obtain ⟨_, h⟩ := h
    obtain ⟨y, _, rfl⟩ := yd.1 h
    simp [lR] at hp
   ·rename_i β e xs H
    rw [bind_some] at h; obtain ⟨y, _, h⟩ := h
    obtain ⟨u, _, rfl⟩ := yd.1 h
    obtain rfl : V = b := by simpa using hb
    unfold a0 gB at O
    rw [hx] at O
    simp only [H] at O
    cases O
  ·cases z
 | el β p c =>
  simp only at h
  obtain ⟨u, _, rfl⟩ := yd.1 h
  cases hb
 | _ => cases h
theorem KC {op : Op} {mem : aW} {v : AV} {rd : List Nat} (h : JI op mem v rd = true) : (∃ t a, op = .load t a) ∧ (lR v).isSome = true ∧ ∃ b, rd = [b] ∧ (a0 mem b).isSome = true := by
 unfold JI at h
 simp only [yc] at h
 obtain ⟨⟨J, K⟩, z⟩ := h
 refine ⟨?_, ?_, ?_⟩
 ·unfold Hu at J
  split at J
  ·exact ⟨_, _, rfl⟩
  ·cases J
 ·split at K
  ·rename_i q H; rw [H]; rfl
  ·cases K
 ·split at z
  ·rename_i b
   refine ⟨b, rfl, ?_⟩
   split at z
   ·rename_i q H; rw [H]; rfl
   ·cases z
  ·cases z
theorem Ls {L : Nat} {all : List Tr} {t : Tr} : (CU L all t).rd = t.rd ∨ (t.rc = true ∧ ∃ b, t.rd = [b] ∧ HE L all b = true) := by
 unfold CU
 cases z : (t.rc && (match t.rd with | [b] => HE L all b | _ => false)) with
 | false => left; rfl
 | true =>
  right
  simp only [yc] at z
  refine ⟨z.1, ?_⟩
  have H := z.2
  split at H
  ·rename_i b J; exact ⟨b, J, H⟩
  ·cases H
theorem gG {L : Nat} {all : List Tr} {t : Tr} : (CU L all t).i = t.i ∧ (CU L all t).wr = t.wr ∧ (CU L all t).push = t.push := by
 unfold CU
 cases (t.rc && (match t.rd with | [b] => HE L all b | _ => false)) <;> exact ⟨rfl, rfl, rfl⟩
theorem iC.agree {L : Nat} {all : List Tr} {o : Oper} {i rs : Nat} {st H : St} {e : jQ} (h : iC P C an rid ops o i rs st e) (hA : p4 (KM ops o) (L7 L all e) st H) (hl : kN o = true → H.mem.length = st.mem.length)
  (hK : ∀ t b, e.tr = some t → HE L all b = true → t.rc = true → t.rd = [b] → a0 H.mem b = a0 st.mem b) : ∃ e', iC P C an rid ops o i rs H e' ∧ e'.v = e.v ∧ e'.wr = e.wr ∧ e'.push = e.push := by
 have J : ∀ {j : Nat} {z : Bool} {d : Nat}, o.guard = some (j, z) → (ops[j]?).bind (·.dst) = some d → H.tmps[d]? = st.tmps[d]? := by
  intro j z d V O
  refine hA.1 d ?_
  unfold KM Oper.looksAt
  rw [V]
  refine yl1 _ ?_
  simp [O]
 cases h with
 | run out hres N V =>
  refine ⟨_, .run out (fun hm => ?_) ?_ (fun j z h => ?_), rfl, rfl, rfl⟩
  ·have := hres hm
   unfold rV at this ⊢
   rw [hA.2 rs ⟨_, rfl, .inr (by simp [dX.tr, hm])⟩]; exact this
  ·have h1 : F1 P C (cB rid i an.boxed) (cB rid i an.raw) (cB rid i an.vars) o (eQ st.tmps) H.mem rs = some out := by
    rcases Ls (L := L) (all := all) (t := out.tr (dE o.op) rs i o.op st.mem) with hrd | ⟨Z, b, K, W⟩
    ·exact Mj (mem' := H.mem) hl N (fun b K => hA.2 b ⟨_, rfl, .inl (by rw [hrd]; simpa [dX.tr] using K)⟩)
    ·obtain ⟨⟨t, a, hop⟩, hp, b', Y, U⟩ := KC (show JI o.op st.mem out.v out.rd = true from Z)
     have K : out.rd = [b] := K
     obtain rfl : b = b' := by rw [K] at Y; simpa using Y
     have hke := hK _ b rfl W Z K
     unfold F1 at N ⊢
     rw [hop] at N ⊢
     simp only at N ⊢
     rw [bind_some] at N ⊢
     obtain ⟨x, hx, N⟩ := N
     exact ⟨x, hx, J9 N hp K U hke⟩
   rw [← h1]
   refine LN fun x hx => ?_
   cases x with
   | tmp t =>
    simp only [eQ, Au, bO]
    rw [hA.1 t]
    unfold KM Oper.looksAt
    exact yk1 _ (List.mem_filterMap.2 ⟨.tmp t, by simpa using hx, rfl⟩)
   | const v => rfl
   | func f => rfl
   | global g => rfl
  ·obtain ⟨d, O, K⟩ := V j z h
   exact ⟨d, O, by rw [J h O]; exact K⟩
 | skip j z d V O h =>
  refine ⟨_, .skip j z d V O ?_, rfl, rfl, rfl⟩
  rw [J V O]; exact h
noncomputable def b0 (D : Nat → Bool) : Nat → List (Oper × jQ) → St → St
 | _, [], st => st
 | i, (o, e) :: r, st => b0 D (i + 1) r (bif D i then e.app o.dst st else st)
theorem lH {D D' : Nat → Bool} : ∀ {l : List (Oper × jQ)} {i : Nat} {st : St}, (∀ k, i ≤ k → k < i + l.length → D k = D' k) → b0 D i l st = b0 D' i l st
 | [], i, st, _ => rfl
 | (o, e) :: r, i, st, h => by
  simp only [b0]
  rw [h i (yu _) (by simp)]
  exact lH fun k h1 z => h k (by omega) (by simp at z ⊢; omega)
inductive z7 (P : Program) (C : bZ) (an : dJ) (rid : Nat) (ops : Array Oper) : Nat → Nat → St → List (Oper × jQ) → Prop
 | nil (i rs : Nat) (st : St) : z7 P C an rid ops i rs st []
 | cons (o : Oper) (e : jQ) (r : List (Oper × jQ)) (i rs : Nat) (st : St) (h : iC P C an rid ops o i rs st e) (hr : z7 P C an rid ops (i + 1) (bif dE o.op then rs + 1 else rs) (e.app o.dst st) r) :
   z7 P C an rid ops i rs st ((o, e) :: r)
variable {R : Type}
theorem BE {k : St → List Tr → Option R} {r : R} : ∀ {rest : List Oper} {i rs : Nat} {st : St} {tr : List Tr}, oX P C an rid (ops.toList.map (·.dst)) rest i rs st tr k = some r →
  ∃ l, l.map (·.1) = rest ∧ z7 P C an rid ops i rs st l ∧ k (b0 (fun _ => true) i l st) ((l.filterMap (·.2.tr)).reverse ++ tr) = some r
 | [], i, rs, st, tr, h => ⟨[], rfl, .nil i rs st, by simpa [oX, b0] using h⟩
 | o :: rest, i, rs, st, tr, h => by
  obtain ⟨V, t, z, U⟩ := Dr h
  obtain ⟨e, K, rfl, rfl⟩ := z.two
  obtain ⟨l, J, O, N⟩ := BE U
  refine ⟨(o, e) :: l, by simp [J], .cons o e l i rs st K O, ?_⟩
  simp only [b0, yg]
  have : ((((o, e) :: l).filterMap (·.2.tr)).reverse ++ tr) = (l.filterMap (·.2.tr)).reverse ++ (e.tr.toList ++ tr) := by
   cases H : e.tr with
   | none => simp [List.filterMap_cons, H]
   | some t => simp [List.filterMap_cons, H]
  rw [this]; exact N
theorem nZ {D : Nat → Bool} : ∀ {l : List (Oper × jQ)} {i : Nat} {st : St}, (∀ k, i ≤ k → D k = false) → b0 D i l st = st
 | [], i, st, _ => rfl
 | (o, e) :: r, i, st, h => by
  simp only [b0, h i (yu _), yh]
  exact nZ fun k hk => h k (by omega)
theorem z7.get : ∀ {l : List (Oper × jQ)} {i rs : Nat} {st : St} {j : Nat} {o : Oper} {e : jQ}, z7 P C an rid ops i rs st l → l[j]? = some (o, e) → ∃ z, iC P C an rid ops o (i + j) z (b0 (fun k => Nat.blt k (i + j)) i l st) e
 | [], i, rs, st, j, o, e, _, h => by simp at h
 | (O, e') :: l, i, rs, st, 0, o, e, H, h => by
  cases H with
  | cons _ _ _ _ _ _ K J =>
   simp at h; obtain ⟨rfl, rfl⟩ := h
   refine ⟨rs, ?_⟩
   rw [nZ (fun k hk => by cases U : Nat.blt k (i + 0) with | false => rfl | true => simp [Nat.blt] at U; omega)]
   exact K
 | (O, e') :: l, i, rs, st, j + 1, o, e, H, h => by
  cases H with
  | cons _ _ _ _ _ _ K J =>
   obtain ⟨z, N⟩ := J.get (j := j) (by simpa using h)
   refine ⟨z, ?_⟩
   rw [show i + 1 + j = i + (j + 1) by omega] at N
   simp only [b0]
   have : Nat.blt i (i + (j + 1)) = true := by simp [Nat.blt]
   rw [this]; exact N
theorem Jj {m z : aW} {b : Nat} (h : z[b]? = m[b]?) : ∀ {wr : List (Nat × c7)}, (aN z wr)[b]? = (aN m wr)[b]? := by
 intro wr
 induction wr generalizing m z with
 | nil => exact h
 | cons q r N =>
  obtain ⟨c, x⟩ := q
  simp only [aN]
  refine N ?_
  rw [List.getElem?_set, List.getElem?_set]
  by_cases J : c = b
  ·subst J
   simp only [if_true]
   by_cases K : c < m.length
   ·have : c < z.length := by
     rcases yu1 c z.length with H | H
     ·exact H
     ·rw [yy H, ye K] at h; cases h
    rw [if_pos K, if_pos this]
   ·have : ¬ c < z.length := by
     intro H
     rw [ye H, yy (by omega)] at h; cases h
    rw [if_neg K, if_neg this]
  ·rw [if_neg J, if_neg J]; exact h
theorem Im {m : aW} {b : Nat} : ∀ {wr : List (Nat × c7)}, (∀ q ∈ wr, q.1 ≠ b) → (aN m wr)[b]? = m[b]? := by
 intro wr
 induction wr generalizing m with
 | nil => intro _; rfl
 | cons q r H =>
  obtain ⟨c, x⟩ := q
  intro h
  simp only [aN]
  rw [H (fun q z => h q (yi _ z)), yd1 (h (c, x) (ym ..))]
theorem Ie {m : aW} {c : Nat} {x : Option c7} : ∀ {wr : List (Nat × c7)}, (∀ q ∈ wr, q.1 ≠ c) → aN (m.set c x) wr = (aN m wr).set c x := by
 intro wr
 induction wr generalizing m with
 | nil => intro _; rfl
 | cons q r H =>
  obtain ⟨d, y⟩ := q
  intro h
  simp only [aN]
  rw [List.set_comm _ _ (fun e => h (d, y) (ym ..) e.symm), H (fun q z => h q (yi _ z))]
theorem Gd {m : aW} {a : List (Nat × c7)} : ∀ {b : List (Nat × c7)}, (∀ q ∈ b, ∀ H ∈ a, q.1 ≠ H.1) → aN (aN m a) b = aN (aN m b) a := by
 intro b
 induction b generalizing m with
 | nil => intro _; rfl
 | cons q r K =>
  obtain ⟨c, x⟩ := q
  intro h
  simp only [aN]
  rw [← K (fun q J => h q (yi _ J)), Ie (fun H z e => h (c, x) (ym ..) H z e.symm)]
theorem vP {m p : aW} : ∀ {wr : List (Nat × c7)}, (∀ q ∈ wr, q.1 < m.length) → aN (m ++ p) wr = aN m wr ++ p := by
 intro wr
 induction wr generalizing m with
 | nil => intro _; rfl
 | cons q r H =>
  obtain ⟨c, x⟩ := q
  intro h
  simp only [aN]
  rw [List.set_append_left _ _ (h (c, x) (ym ..)), H (fun q z => by simpa using h q (yi _ z))]
structure Lv (L : Nat) (d1 d2 : Option Tmp) (e1 e2 : jQ) : Prop where
 dst : ∀ d, d1 = some d → d2 ≠ some d
 wr : ∀ q ∈ e1.wr, ∀ q' ∈ e2.wr, q.1 ≠ q'.1
 push : e1.push = [] ∨ e2.push = []
 low1 : e1.push ≠ [] → ∀ q ∈ e2.wr, q.1 < L
 low2 : e2.push ≠ [] → ∀ q ∈ e1.wr, q.1 < L
theorem JQ {tmps : List AV} {z H : Option Tmp} {K J : AV} (h : ∀ d, z = some d → H ≠ some d) : j3 (j3 tmps z K) H J = j3 (j3 tmps H J) z K := by
 cases z with
 | none => rfl
 | some a =>
  cases H with
  | none => rfl
  | some b => simp only [j3, dM]; rw [List.set_comm _ _ (fun e => h a rfl (by rw [e]))]
theorem jQ.comm {L : Nat} {Y Z : Option Tmp} {J H : jQ} {st : St} (W : Lv L Y Z J H) (K : st.mem.length = L ∨ (J.push = [] ∧ H.push = [])) : H.app Z (J.app Y st) = J.app Y (H.app Z st) := by
 have N : aN (aN st.mem J.wr ++ J.push) H.wr ++ H.push = aN (aN st.mem H.wr ++ H.push) J.wr ++ J.push := by
  have z := Gd (m := st.mem) (a := J.wr) (b := H.wr) (fun q O q' hq' e => W.wr q' hq' q O e.symm)
  by_cases U : J.push = []
  ·by_cases V : H.push = []
   ·rw [U, V]; simp only [yp1]; exact z
   ·rcases K with K | ⟨_, h⟩
    ·rw [U]; simp only [yp1]
     rw [vP (m := aN st.mem H.wr) (fun q O => by rw [bK, K]; exact W.low2 V q O), z]
    ·exact absurd h V
  ·rcases K with K | ⟨h, _⟩
   ·have V : H.push = [] := W.push.resolve_left U
    rw [V]; simp only [yp1]
    rw [vP (m := aN st.mem J.wr) (fun q O => by rw [bK, K]; exact W.low1 U q O), z]
   ·exact absurd h U
 simp only [jQ.app, N, JQ W.dst]
end
end Go.Ab
end
section
namespace Go.Ab
variable [b8]
def yN (ops : Array Oper) (D : Nat → Bool) : Prop := ∀ (j : Nat) (o : Oper), ops[j]? = some o → ∀ e ∈ o.after, Region.binds .any e = true → D j = true → D e.on = true
theorem s5 {acc : List Nat} : ∀ {O : List Edge} {i : Nat}, (yE acc O).testBit i = true → ∃ e ∈ O, Region.binds .any e = true ∧ (i = e.on ∨ (acc.getD e.on 0).testBit i = true)
 | [], i, h => by simp [yE] at h
 | e :: r, i, h => by
  simp only [yE] at h
  cases z : Region.binds .any e with
  | true =>
   rw [z] at h; simp only [yg, Nat.testBit_or, yx1] at h
   rcases h with (h | h) | h
   ·refine ⟨e, ym .., z, .inl ?_⟩
    rw [Nat.testBit_two_pow] at h
    exact (of_decide_eq_true h).symm
   ·exact ⟨e, ym .., z, .inr h⟩
   ·obtain ⟨H, N, J, K⟩ := s5 h
    exact ⟨H, yi _ N, J, K⟩
  | false =>
   rw [z] at h; simp only [yh] at h
   obtain ⟨H, N, J, K⟩ := s5 h
   exact ⟨H, yi _ N, J, K⟩
theorem pU {i : Nat} : ∀ {J : List Edge}, vG i J = true → ∀ e ∈ J, Region.binds .any e = true → e.on < i
 | [], _, e, z, _ => by simp at z
 | x :: r, h, e, z, K => by
  simp only [vG, yc, yx1, yz] at h
  rcases yf1.1 z with rfl | z
  ·rcases h.1 with H | H
   ·rw [K] at H; cases H
   ·simp [Nat.blt] at H; omega
  ·exact pU h.2 e z K
theorem mI : ∀ {l : List Oper} {i j : Nat} {o : Oper}, gV l i = true → l[j]? = some o → vG (i + j) o.after.toList = true
 | [], i, j, o, _, h => by simp at h
 | x :: r, i, 0, o, h, z => by
  simp only [gV, yc] at h
  simp at z; subst z; exact h.1
 | x :: r, i, j + 1, o, h, z => by
  simp only [gV, yc] at h
  have := mI (j := j) h.2 (by simpa using z)
  rw [show i + (j + 1) = i + 1 + j by omega]; exact this
theorem Gf {ops : Array Oper} (hE : gV ops.toList 0 = true) : ∀ {l : List Oper} {acc : List Nat}, ops.toList.drop acc.length = l → acc.length ≤ ops.size →
  (∀ j i, j < acc.length → (acc.getD j 0).testBit i = true → i < j ∧ ∀ D, yN ops D → D j = true → D i = true) →
  ∀ j i, ((x9 l acc).getD j 0).testBit i = true → i < j ∧ j < ops.size ∧ ∀ D, yN ops D → D j = true → D i = true
 | [], acc, J, W, h => by
  intro j i H
  simp only [x9] at H
  by_cases U : j < acc.length
  ·exact ⟨(h j i U H).1, by omega, (h j i U H).2⟩
  ·rw [yl, yy (by omega)] at H; simp at H
 | o :: r, acc, J, W, h => by
  simp only [x9]
  have Y : ops[acc.length]? = some o := by
   have : (ops.toList.drop acc.length)[0]? = some o := by rw [J]; rfl
   rw [ya1, yf2, ym1] at this; exact this
  have hlt : acc.length < ops.size := (yk2.1 Y).1
  refine Gf hE (l := r) (by rw [yj, ← List.drop_drop, J]; rfl) (by simp; omega) fun j i U H => ?_
  by_cases K : j < acc.length
  ·rw [yl, yo K, ← yl] at H
   exact h j i K H
  ·have hje : j = acc.length := by simp at U; omega
   subst hje
   rw [yl, yq (yu _)] at H
   simp only [Nat.sub_self, yn2, Option.getD_some] at H
   obtain ⟨e, he, z, Z⟩ := s5 H
   have N := pU (by have := mI (j := acc.length) hE (by rw [ym1]; exact Y); rwa [yh1] at this) e he z
   have O : ∀ D, yN ops D → D acc.length = true → D e.on = true := fun D V J => V acc.length o Y e (by simpa using he) z J
   rcases Z with rfl | Z
   ·exact ⟨N, O⟩
   ·obtain ⟨h1, h2⟩ := h e.on i N Z
    exact ⟨by omega, fun D V J => h2 D V (O D V J)⟩
theorem vJ {ops : Array Oper} (K : gV ops.toList 0 = true) {j i : Nat} (h : ((x9 ops.toList []).getD j 0).testBit i = true) : i < j ∧ ∀ D, yN ops D → D j = true → D i = true := by
 obtain ⟨H, _, J⟩ := Gf K (l := ops.toList) (acc := []) (by simp) (by simp) (fun j i z _ => by simp at z) j i h
 exact ⟨H, J⟩
theorem CL : ∀ {n a j : Nat}, a ≤ j → j < a + n → j ∈ gH a n
 | 0, a, j, z, H => by omega
 | n + 1, a, j, z, H => by
  simp only [gH]
  rcases yu1 a j with h | h
  ·exact yi _ (CL (by omega) (by omega))
  ·obtain rfl : j = a := by omega
   exact ym ..
theorem u5 {ops : Array Oper} {bs : List Nat} {i : Nat} : ∀ {l : List Nat}, vS ops bs i l = true → ∀ j ∈ l, dC bs i j = true ∨ vI ops i j = true
 | [], _, j, z => by simp at z
 | x :: r, h, j, z => by
  simp only [vS, yc, yx1] at h
  rcases yf1.1 z with rfl | z
  ·exact h.1
  ·exact u5 h.2 j z
theorem nI {ops : Array Oper} {bs : List Nat} : ∀ {n a i j : Nat}, wB ops bs (gH a n) = true → a ≤ i → i < j → j < a + n → dC bs i j = true ∨ vI ops i j = true
 | 0, a, i, j, _, J, z, H => by omega
 | n + 1, a, i, j, h, J, z, H => by
  simp only [gH, wB, yc] at h
  rcases yu1 a i with N | K
  ·exact nI h.2 (by omega) z (by omega)
  ·obtain rfl : i = a := by omega
   exact u5 h.1 j (CL (by omega) (by omega))
theorem zV {bs : List Nat} {i : Nat} : ∀ {l : List Oper} {s j : Nat} {o : Oper}, qY bs i l s = true → l[j]? = some o → i = s + j ∨ dC bs i (s + j) = true ∨ kN o = false
 | [], s, j, o, _, h => by simp at h
 | x :: r, s, 0, o, h, z => by
  simp only [qY, yc, yx1, yz] at h
  simp at z; subst z
  rcases h.1 with (h | h) | h
  ·exact .inl (cN.1 h)
  ·exact .inr (.inl h)
  ·exact .inr (.inr h)
 | x :: r, s, j + 1, o, h, z => by
  simp only [qY, yc] at h
  have := zV (j := j) h.2 (by simpa using z)
  rw [show s + (j + 1) = s + 1 + j by omega]; exact this
theorem A1 {ops : Array Oper} {bs : List Nat} : ∀ {l : List Tr}, En ops bs l = true → ∀ a ∈ l, a.push = true → qY bs a.i ops.toList 0 = true
 | [], _, a, z, _ => by simp at z
 | x :: r, h, a, z, J => by
  simp only [En, yc, yx1, yz] at h
  rcases yf1.1 z with rfl | z
  ·rcases h.1 with H | H
   ·rw [J] at H; cases H
   ·exact H
  ·exact A1 h.2 a z J
structure Dw (bs : List Nat) (L : Nat) (a b : Tr) : Prop where
 push : a.push = true → b.push = true → False
 far : dC bs a.i b.i = false → (∀ x ∈ a.wr, x ∉ b.rd) ∧ (∀ x ∈ a.rd, x ∉ b.wr) ∧ (∀ x ∈ a.wr, x ∉ b.wr) ∧ (a.push = true → (∀ x ∈ b.rd, x < L) ∧ ∀ x ∈ b.wr, x < L) ∧ (b.push = true → (∀ x ∈ a.rd, x < L) ∧ ∀ x ∈ a.wr, x < L)
theorem m7 {m : Nat} : ∀ {l : List Nat}, eE m l = true → ∀ b ∈ l, b < m
 | [], _, b, h => by simp at h
 | x :: r, h, b, z => by
  simp only [eE, yc] at h
  rcases yf1.1 z with rfl | z
  ·have := h.1; simp [Nat.blt] at this; omega
  ·exact m7 h.2 b z
theorem GA {bs : List Nat} {L : Nat} {a : Tr} : ∀ {l : List Tr}, LL bs L a l = true → ∀ b ∈ l, Dw bs L a b
 | [], _, b, h => by simp at h
 | x :: r, h, b, O => by
  simp only [LL, yc] at h
  rcases yf1.1 O with rfl | O
  ·refine ⟨fun J N => by have := h.1.1; rw [J, N] at this; simp at this, fun V => ?_⟩
   have := h.1.2
   rw [V] at this
   simp only [Bool.false_or, yc, yx1, yz] at this
   obtain ⟨⟨⟨⟨J, N⟩, U⟩, H⟩, z⟩ := this
   refine ⟨qS J, qS N, qS U, fun K => ?_, fun K => ?_⟩
   ·rcases H with H | H
    ·rw [K] at H; cases H
    ·exact ⟨m7 H.1, m7 H.2⟩
   ·rcases z with z | z
    ·rw [K] at z; cases z
    ·exact ⟨m7 z.1, m7 z.2⟩
  ·exact GA h.2 b O
theorem pN {bs : List Nat} {L : Nat} : ∀ {l : List Tr}, IB bs L l = true → l.Pairwise (Dw bs L)
 | [], _ => .nil
 | a :: r, h => by
  simp only [IB, yc] at h
  exact .cons (GA h.1) (pN h.2)
theorem nV {bs : List Nat} {i j : Nat} : dC bs i j = dC bs j i := by unfold dC; rw [Bool.or_comm]
theorem Dw.symm {bs : List Nat} {L : Nat} {a b : Tr} (h : Dw bs L a b) : Dw bs L b a :=
 ⟨fun J K => h.push K J, fun V => by
  obtain ⟨J, K, U, O, N⟩ := h.far (by rw [nV]; exact V)
  exact ⟨fun x z H => K x H z, fun x z H => J x H z, fun x z H => U x H z, N, O⟩⟩
section
variable {P : Program} {C : bZ} {an : dJ} {rid : Nat} {ops : Array Oper}
theorem iC.facts {o : Oper} {i rs : Nat} {st : St} {e : jQ} (h : iC P C an rid ops o i rs st e) :
  (∀ q ∈ e.wr, ∃ t, e.tr = some t ∧ q.1 ∈ t.wr) ∧ (e.push ≠ [] → ∃ t, e.tr = some t ∧ t.push = true) ∧ (∀ t, e.tr = some t → t.i = i) := by
 cases h with
 | run out N ho U =>
  refine ⟨fun q z => ⟨_, rfl, ?_⟩, fun J => ⟨_, rfl, ?_⟩, fun t H => ?_⟩
  ·simp only [dX.tr]
   cases dE o.op with
   | true => simp only [yg]; exact yi _ (yu2.2 ⟨q, z, rfl⟩)
   | false => simp only [yh]; exact yu2.2 ⟨q, z, rfl⟩
  ·show (match out.push with | [] => false | _ => true) = true
   split
   ·rename_i O; exact absurd O J
   ·rfl
  ·cases H; rfl
 | skip j K d U hd h => exact ⟨fun q z => by simp at z, fun J => absurd rfl J, fun t H => by cases H⟩
structure A0 (S F : Nat → Prop) (L : Nat) (o : Oper) (e : jQ) : Prop where
 dst : ∀ d, o.dst = some d → ¬ S d
 wr : ∀ q ∈ e.wr, ¬ F q.1
 push : e.push ≠ [] → ∀ b, F b → b < L
theorem qM (e : jQ) (d : Option Tmp) (st : St) : (e.app d st).mem.length = st.mem.length + e.push.length := by simp [jQ.app, bK]
theorem p4.symm {S F : Nat → Prop} {st z : St} (h : p4 S F st z) : p4 S F z st := ⟨fun d H => (h.1 d H).symm, fun b J => (h.2 b J).symm⟩
theorem Ei {S F : Nat → Prop} {L : Nat} {o : Oper} {e : jQ} {st z : St} (h : p4 S F st z) (K : A0 S F L o e) (V : e.push ≠ [] → z.mem.length = L) : p4 S F st (e.app o.dst z) := by
 refine ⟨fun d U => ?_, fun b N => ?_⟩
 ·rw [← h.1 d U]
  simp only [jQ.app]
  cases J : o.dst with
  | none => rfl
  | some t =>
   simp only [j3, dM]
   exact yd1 (fun e => K.dst t J (by rw [e]; exact U))
 ·rw [← h.2 b N]
  simp only [jQ.app]
  have H : (aN z.mem e.wr)[b]? = z.mem[b]? := Im fun q W e => K.wr q W (by rw [e]; exact N)
  by_cases O : e.push = []
  ·rw [O, yp1]; exact H
  ·rw [yo (by rw [bK, V O]; exact K.push O b N)]; exact H
theorem HP {S F : Nat → Prop} {d : Option Tmp} {e : jQ} {st z : St} (h : p4 S F st z) (H : e.push ≠ [] → z.mem.length = st.mem.length) : p4 S F (e.app d st) (e.app d z) := by
 refine ⟨fun t V => ?_, fun b W => ?_⟩
 ·simp only [jQ.app]
  cases d with
  | none => exact h.1 t V
  | some d =>
   simp only [j3, dM]
   have := h.1 t V
   rw [List.getElem?_set, List.getElem?_set]
   by_cases N : d = t
   ·subst N
    simp only [if_true]
    by_cases H : d < st.tmps.length
    ·have J : d < z.tmps.length := by
      rcases yu1 d z.tmps.length with J | J
      ·exact J
      ·rw [yy J, ye H] at this; cases this
     rw [if_pos H, if_pos J]
    ·have J : ¬ d < z.tmps.length := by
      intro J
      rw [ye J, yy (Nat.le_of_not_lt H)] at this; cases this
     rw [if_neg H, if_neg J]
   ·rw [if_neg N, if_neg N]; exact this
 ·simp only [jQ.app]
  have O : (aN z.mem e.wr)[b]? = (aN st.mem e.wr)[b]? := Jj (h.2 b W)
  by_cases U : e.push = []
  ·rw [U, yp1, yp1]; exact O
  ·have H := H U
   by_cases K : b < st.mem.length
   ·rw [yo (by rw [bK, H]; exact K), yo (by rw [bK]; exact K)]; exact O
   ·rw [yq (by rw [bK, H]; omega), yq (by rw [bK]; omega), bK, bK, H]
def mE (l : List (Oper × jQ)) : Prop := ∀ q ∈ l, q.2.push = []
def vN (l : List (Oper × jQ)) : Prop := l.Pairwise fun a b => a.2.push = [] ∨ b.2.push = []
theorem kP {S F : Nat → Prop} {L : Nat} {D D' : Nat → Bool} : ∀ {l : List (Oper × jQ)} {i : Nat} {st H : St}, (st.mem.length = L ∨ mE l) → (H.mem.length = L ∨ mE l) → vN l →
  (∀ k o e, l[k]? = some (o, e) → D (i + k) ≠ D' (i + k) → A0 S F L o e) → p4 S F st H → p4 S F (b0 D i l st) (b0 D' i l H)
 | [], i, st, H, _, _, _, _, h => h
 | (o, e) :: r, i, st, H, Y, z, ho, hn, h => by
  simp only [b0]
  have h1 : ∀ {s : St}, (s.mem.length = L ∨ mE ((o, e) :: r)) → (e.push ≠ [] → s.mem.length = L) := by
   intro s J O
   rcases J with J | J
   ·exact J
   ·exact absurd (J (o, e) (ym ..)) O
  have U : e.push ≠ [] → mE r := by
   intro O q Z
   have := List.pairwise_cons.1 ho
   exact (this.1 q Z).resolve_left O
  have h2 : ∀ {s : St}, (s.mem.length = L ∨ mE ((o, e) :: r)) → ((e.app o.dst s).mem.length = L ∨ mE r) := by
   intro s J
   by_cases O : e.push = []
   ·rw [qM, O]
    exact J.imp (fun h => by simpa using h) (fun h q Z => h q (yi _ Z))
   ·exact .inr (U O)
  have h3 : ∀ {s : St}, (s.mem.length = L ∨ mE ((o, e) :: r)) → (s.mem.length = L ∨ mE r) := fun J => J.imp id (fun h q Z => h q (yi _ Z))
  have K : ∀ k o' e', r[k]? = some (o', e') → D (i + 1 + k) ≠ D' (i + 1 + k) → A0 S F L o' e' := fun k o' e' hk hne => hn (k + 1) o' e' (by simpa using hk) (by rw [show i + (k + 1) = i + 1 + k by omega]; exact hne)
  have N := (List.pairwise_cons.1 ho).2
  cases hD : D i with
  | true =>
   cases W : D' i with
   | true => exact kP (h2 Y) (h2 z) N K (HP h (fun O => by rw [h1 Y O, h1 z O]))
   | false =>
    have V := hn 0 o e rfl (by rw [yf2, hD, W]; simp)
    exact kP (h2 Y) (h3 z) N K (Ei h.symm V (h1 Y)).symm
  | false =>
   cases W : D' i with
   | true =>
    have V := hn 0 o e rfl (by rw [yf2, hD, W]; simp)
    exact kP (h3 Y) (h2 z) N K (Ei h V (h1 z))
   | false => exact kP (h3 Y) (h3 z) N K h
theorem BM {D D' : Nat → Bool} : ∀ {l : List (Oper × jQ)} {i : Nat} {st z : St}, z.mem.length = st.mem.length → (∀ k o e, l[k]? = some (o, e) → e.push ≠ [] → D (i + k) = D' (i + k)) → (b0 D' i l z).mem.length = (b0 D i l st).mem.length
 | [], i, st, z, h, _ => h
 | (o, e) :: r, i, st, z, h, J => by
  simp only [b0]
  refine BM ?_ (fun k K N O H => by have := J (k + 1) K N (by simpa using O) H; rwa [show i + (k + 1) = i + 1 + k by omega] at this)
  by_cases H : e.push = []
  ·cases D i <;> cases D' i <;> simp only [yg, yh, qM, H, yq1, yf2] <;> exact h
  ·have := J 0 o e rfl H
   rw [yf2] at this
   rw [this]
   cases D' i <;> simp only [yg, yh, qM, h]
theorem n9 {D : Nat → Bool} : ∀ {a b : List (Oper × jQ)} {i : Nat} {st : St}, b0 D i (a ++ b) st = b0 D (i + a.length) b (b0 D i a st)
 | [], b, i, st => rfl
 | (o, e) :: a, b, i, st => by
  simp only [yx2, b0, yw]
  rw [n9, show i + 1 + a.length = i + (a.length + 1) by omega]
theorem BN {L : Nat} {D : Nat → Bool} {e : jQ} {d : Option Tmp} : ∀ {l : List (Oper × jQ)} {i : Nat} {st : St}, (st.mem.length = L ∨ (e.push = [] ∧ mE l)) → vN l → (∀ q ∈ l, e.push = [] ∨ q.2.push = []) →
  (∀ k O N, l[k]? = some (O, N) → D (i + k) = true → Lv L d O.dst e N) → b0 D i l (e.app d st) = e.app d (b0 D i l st)
 | [], i, st, _, _, _, _ => rfl
 | (O, N) :: r, i, st, Y, ho, Z, hm => by
  simp only [b0]
  have K := List.pairwise_cons.1 ho
  have U : ∀ k W V, r[k]? = some (W, V) → D (i + 1 + k) = true → Lv L d W.dst e V := fun k W V hk hd => hm (k + 1) W V (by simpa using hk) (by rw [show i + (k + 1) = i + 1 + k by omega]; exact hd)
  have H : ∀ q ∈ r, e.push = [] ∨ q.2.push = [] := fun q J => Z q (yi _ J)
  cases hD : D i with
  | true =>
   simp only [yg]
   have z := hm 0 O N rfl (by rw [yf2]; exact hD)
   rw [jQ.comm z (Y.imp id (fun h => ⟨h.1, h.2 (O, N) (ym ..)⟩))]
   refine BN (L := L) ?_ K.2 H U
   by_cases hp : N.push = []
   ·rw [qM, hp]
    exact Y.imp (fun h => by simpa using h) (fun h => ⟨h.1, fun q J => h.2 q (yi _ J)⟩)
   ·exact .inr ⟨z.push.resolve_right hp, fun q J => (K.1 q J).resolve_left hp⟩
  | false =>
   simp only [yh]
   exact BN (L := L) (Y.imp id (fun h => ⟨h.1, fun q J => h.2 q (yi _ J)⟩)) K.2 H U
end
end Go.Ab
end
section
namespace Go.Ab
variable [b8]
section
variable {P : Program} {C : bZ} {an : dJ} {rid : Nat} {ops : Array Oper} {R : Type}
theorem JR {D : Nat → Bool} {n : Nat} (h : ∃ i, i < n ∧ D i = false) : ∃ i, i < n ∧ D i = false ∧ ∀ j, j < i → D j = true := by
 obtain ⟨i, ⟨K, J⟩, z⟩ := BX (p := fun i => i < n ∧ D i = false) h
 refine ⟨i, K, J, fun j hj => ?_⟩
 cases H : D j with
 | true => rfl
 | false => have := z j ⟨by omega, H⟩; omega
def left (D : Nat → Bool) : Nat → Nat
 | 0 => 0
 | n + 1 => left D n + (bif D n then 0 else 1)
theorem D4 {D : Nat → Bool} : ∀ {n : Nat}, left D n = 0 → ∀ i, i < n → D i = true
 | 0, _, i, h => by omega
 | n + 1, h, i, hi => by
  simp only [left] at h
  rcases yu1 i n with z | z
  ·exact D4 (by omega) i z
  ·obtain rfl : i = n := by omega
   cases H : D i with
   | true => rfl
   | false => rw [H] at h; simp at h
theorem GY {D D' : Nat → Bool} {i : Nat} (K : D i = false) (z : D' i = true) (H : ∀ j, j ≠ i → D' j = D j) : ∀ {n : Nat}, (i < n → left D n = left D' n + 1) ∧ (n ≤ i → left D n = left D' n)
 | 0 => ⟨fun h => by omega, fun _ => rfl⟩
 | n + 1 => by
  obtain ⟨O, J⟩ := GY K z H (n := n)
  refine ⟨fun h => ?_, fun h => ?_⟩
  ·simp only [left]
   rcases yu1 i n with N | N
   ·rw [O N, H n (by omega)]; omega
   ·obtain rfl : i = n := by omega
    rw [J (yu _), K, z]; rfl
  ·simp only [left]
   rw [J (by omega), H n (by omega)]
theorem He {D : Nat → Bool} : ∀ {n : Nat}, 0 < left D n → ∃ i, i < n ∧ D i = false
 | 0, h => by simp [left] at h
 | n + 1, h => by
  simp only [left] at h
  cases z : D n with
  | false => exact ⟨n, Nat.lt_succ_self _, z⟩
  | true =>
   rw [z] at h; simp only [yg, yf2] at h
   obtain ⟨i, hi, H⟩ := He h
   exact ⟨i, by omega, H⟩
theorem I4 (n : Nat) : left (fun _ => false) n = n := by
 induction n with
 | zero => rfl
 | succ n z => simp [left, z]
def iE (listed : Array Bool) : Nat → Bool := fun i => listed.getD i false
theorem Ml {x y : Option (Nat × Nat × Nat × Nat)} (h : Oa x y = true) : x = y := by
 unfold Oa at h
 split at h
 ·rfl
 ·simp only [yc] at h
  obtain ⟨⟨⟨z, H⟩, K⟩, J⟩ := h
  rw [cN.1 z, cN.1 H, cN.1 K, cN.1 J]
 ·cases h
theorem IJ : ∀ {x y : List (Option (Nat × Nat × Nat × Nat))}, Lk x y = true → x = y
 | [], [], _ => rfl
 | x :: xs, y :: ys, h => by
  simp only [Lk, yc] at h
  rw [Ml h.1, IJ h.2]
 | [], _ :: _, h => by cases h
 | _ :: _, [], h => by cases h
theorem JA {x y : Option (Nat × Nat × List (Option (Nat × Nat × Nat × Nat)))} (h : Fu x y = true) : x = y := by
 unfold Fu at h
 split at h
 ·simp only [yc] at h
  obtain ⟨⟨z, H⟩, J⟩ := h
  rw [cN.1 z, cN.1 H, IJ J]
 ·cases h
theorem mQ {b : Nat} {V : Option (Nat × Nat × List (Option (Nat × Nat × Nat × Nat)))} : ∀ {wr : List (Nat × c7)} {m : aW}, (∀ q ∈ wr, q.1 = b → gB q.2 = V) → a0 m b = V → a0 (aN m wr) b = V
 | [], m, _, h => h
 | (c, x) :: wr, m, z, h => by
  unfold aN
  refine mQ (fun q J => z q (yi _ J)) ?_
  by_cases H : c = b
  ·subst H
   by_cases K : c < m.length
   ·unfold a0
    rw [ye1 K]
    exact z (c, x) (ym ..) rfl
   ·rw [List.set_eq_of_length_le (by omega)]; exact h
  ·unfold a0
   rw [yd1 H]
   exact h
theorem rZ {b : Nat} {V : Option (Nat × Nat × List (Option (Nat × Nat × Nat × Nat)))} {e : jQ} {d : Option Tmp} {st : St} (J : b < st.mem.length) (H : ∀ q ∈ e.wr, q.1 = b → gB q.2 = V) (h : a0 st.mem b = V) : a0 (e.app d st).mem b = V := by
 have z := mQ H h
 unfold jQ.app
 simp only
 unfold a0 at z ⊢
 rw [yo (by rw [bK]; exact J)]
 exact z
theorem kJ {b : Nat} {V : Option (Nat × Nat × List (Option (Nat × Nat × Nat × Nat)))} {D : Nat → Bool} : ∀ {l : List (Oper × jQ)} {i : Nat} {st : St}, b < st.mem.length → (∀ p ∈ l, ∀ q ∈ p.2.wr, q.1 = b → gB q.2 = V) → a0 st.mem b = V → a0 (b0 D i l st).mem b = V
 | [], i, st, _, _, h => h
 | (o, e) :: l, i, st, J, H, h => by
  simp only [b0]
  cases hD : D i with
  | true =>
   exact kJ (by rw [yg, qM]; omega) (fun p z => H p (yi _ z)) (rZ J (H (o, e) (ym ..)) h)
  | false => exact kJ J (fun p z => H p (yi _ z)) h
theorem Cy {b : Nat} {all : List Tr} (J : ∀ u ∈ all, b ∉ u.wr ∨ u.wk b = true) : ∀ {l : List (Oper × jQ)} {i rs : Nat} {st : St}, z7 P C an rid ops i rs st l → (∀ p ∈ l, ∀ t, p.2.tr = some t → t ∈ all) → b < st.mem.length →
  ∀ p ∈ l, ∀ q ∈ p.2.wr, q.1 = b → gB q.2 = a0 st.mem b
 | [], i, rs, st, _, _, _, p, K => by cases K
 | (o, e) :: l, i, rs, st, hc, Z, hb, p, K => by
  cases hc with
  | cons _ _ _ _ _ _ h hr =>
  have z : ∀ q ∈ e.wr, q.1 = b → gB q.2 = a0 st.mem b := by
   intro q O H
   cases h with
   | run out Y ho hg =>
    rcases J _ (Z (o, _) (ym ..) _ rfl) with N | N
    ·exfalso
     apply N
     have : b ∈ out.wr.map (·.1) := yu2.2 ⟨q, O, H⟩
     simp only [dX.tr]
     cases dE o.op with
     | true => exact yi _ this
     | false => exact this
    ·have N : m9 st.mem out.wr b = true := N
     unfold m9 at N
     have := yi2.1 N q O
     simp only [yx1, yz] at this
     rcases this with V | V
     ·exact absurd H (fun e => by rw [e, ym3] at V; cases V)
     ·exact JA V
   | skip j W d hg hd h => cases O
  rcases yf1.1 K with rfl | K
  ·exact z
  ·intro q O H
   have U : b < (e.app o.dst st).mem.length := by rw [qM]; omega
   rw [Cy J hr (fun p K => Z p (yi _ K)) U p K q O H]
   exact rZ hb z rfl
structure Dj (P : Program) (C : bZ) (an : dJ) (rid : Nat) (ops : Array Oper) (L : Nat) (st0 : St) (l : List (Oper × jQ)) (all : List Tr) : Prop where
 map : l.map (·.1) = ops.toList
 len : st0.mem.length = L
 one : vN l
 step : ∀ (j : Nat) (o : Oper) (e : jQ), l[j]? = some (o, e) → ∃ rs, iC P C an rid ops o j rs (b0 (fun k => Nat.blt k j) 0 l st0) e
 mate : ∀ (i j : Nat) (o o' : Oper) (e e' : jQ), i ≠ j → l[i]? = some (o, e) → l[j]? = some (o', e') → dC (x9 ops.toList []) i j = false →
  Lv L o.dst o'.dst e e' ∧ A0 (KM ops o) (L7 L all e) L o' e' ∧ (e'.push ≠ [] → kN o = false)
 back : gV ops.toList 0 = true
 const : ∀ b, HE L all b = true → ∀ D, a0 (b0 D 0 l st0).mem b = a0 st0.mem b
theorem Js {st0 : St} {l : List (Oper × jQ)} {rs L : Nat} (hmap : l.map (·.1) = ops.toList) (hc : z7 P C an rid ops 0 rs st0 l) (hlen : st0.mem.length = L) (hd : Er ops L ((l.filterMap (·.2.tr)).reverse) = true) :
  Dj P C an rid ops L st0 l ((l.filterMap (·.2.tr)).reverse) := by
 generalize hall : (l.filterMap (·.2.tr)).reverse = all at hd ⊢
 unfold Er at hd
 simp only [yc] at hd
 obtain ⟨⟨⟨hback, htrs⟩, hpush⟩, hapart⟩ := hd
 have J : ∀ (j : Nat) (o : Oper) (e : jQ), l[j]? = some (o, e) → ∃ rs, iC P C an rid ops o j rs (b0 (fun k => Nat.blt k j) 0 l st0) e := by
  intro j o e V
  have := hc.get V
  simpa using this
 have hop : ∀ (j : Nat) (o : Oper) (e : jQ), l[j]? = some (o, e) → ops[j]? = some o := by
  intro j o e V
  have : (l.map (·.1))[j]? = some o := by rw [yc1, V]; rfl
  rw [hmap, ym1] at this; exact this
 have hpw := pN htrs
 rw [List.pairwise_map] at hpw
 conv at hpw => arg 2; rw [← hall]
 rw [List.pairwise_reverse, List.pairwise_filterMap] at hpw
 have hrel : ∀ (i j : Nat) (o W : Oper) (e N : jQ), i ≠ j → l[i]? = some (o, e) → l[j]? = some (W, N) → ∀ t H, e.tr = some t → N.tr = some H → Dw (x9 ops.toList []) L (CU L all t) (CU L all H) := by
  intro i j o W e N O hi V t H K z
  obtain ⟨hil, hi2⟩ := yf.1 hi
  obtain ⟨hjl, hj2⟩ := yf.1 V
  rw [List.pairwise_iff_getElem] at hpw
  rcases Nat.lt_or_gt_of_ne O with h | h
  ·exact (hpw i j hil hjl h t (by rw [hi2]; exact K) H (by rw [hj2]; exact z)).symm
  ·exact hpw j i hjl hil h H (by rw [hj2]; exact z) t (by rw [hi2]; exact K)
 have hone2 : ∀ (i j : Nat) (o W : Oper) (e N : jQ), i ≠ j → l[i]? = some (o, e) → l[j]? = some (W, N) → e.push = [] ∨ N.push = [] := by
  intro i j o W e N O hi V
  by_cases h1 : e.push = []
  ·exact .inl h1
  ·by_cases h2 : N.push = []
   ·exact .inr h2
   ·obtain ⟨rs1, hs1⟩ := J i o e hi
    obtain ⟨rs2, hs2⟩ := J j W N V
    obtain ⟨t, K, hp⟩ := hs1.facts.2.1 h1
    obtain ⟨H, z, hp'⟩ := hs2.facts.2.1 h2
    exact ((hrel i j o W e N O hi V t H K z).push (by rw [gG.2.2]; exact hp) (by rw [gG.2.2]; exact hp')).elim
 refine ⟨hmap, hlen, ?_, J, ?_, hback, ?_⟩
 ·unfold vN
  rw [List.pairwise_iff_getElem]
  intro i j hi V hlt
  exact hone2 i j l[i].1 l[j].1 l[i].2 l[j].2 (by omega) (ye hi) (ye V)
 ·intro i j o W e N O hi V hun
  obtain ⟨rs1, hs1⟩ := J i o e hi
  obtain ⟨rs2, hs2⟩ := J j W N V
  obtain ⟨f1, f2, f3⟩ := hs1.facts
  obtain ⟨g1, g2, g3⟩ := hs2.facts
  have hoi := hop i o e hi
  have hoj := hop j W N V
  have hin : i < ops.size := (yk2.1 hoi).1
  have hjn : j < ops.size := (yk2.1 hoj).1
  have U : ∀ t H, e.tr = some t → N.tr = some H → _ := fun t H K z => (hrel i j o W e N O hi V t H K z).far (by rw [gG.1, gG.1, f3 t K, g3 H z]; exact hun)
  -- slots
  have hsl : (∀ d, o.dst = some d → d ∉ W.looksAt ops) ∧ (∀ d, o.dst = some d → W.dst ≠ some d) ∧ (∀ d, W.dst = some d → d ∉ o.looksAt ops) := by
   rcases Nat.lt_or_gt_of_ne O with h | h
   ·rcases nI hapart (Nat.zero_le _) h (by omega) with h' | h'
    ·rw [hun] at h'; cases h'
    ·unfold vI at h'
     rw [hoi, hoj] at h'
     exact Oper.apart_spec h'
   ·rcases nI hapart (Nat.zero_le _) h (by omega) with h' | h'
    ·rw [nV, hun] at h'; cases h'
    ·unfold vI at h'
     rw [hoi, hoj] at h'
     obtain ⟨a1, a2, a3⟩ := Oper.apart_spec h'
     exact ⟨a3, fun d hd hd' => a2 d hd' hd, a1⟩
  refine ⟨⟨hsl.2.1, fun q hq q' hq' => ?_, hone2 i j o W e N O hi V, fun hp q hq => ?_, fun hp q hq => ?_⟩, ⟨fun d hd hS => hsl.2.2 d hd hS, fun q hq hF => ?_, fun hp b hF => ?_⟩, fun hp => ?_⟩
  ·obtain ⟨t, K, hm⟩ := f1 q hq
   obtain ⟨H, z, hm'⟩ := g1 q' hq'
   intro he
   exact (U t H K z).2.2.1 _ (by rw [gG.2.1]; exact hm) (by rw [gG.2.1, he]; exact hm')
  ·obtain ⟨t, K, Z⟩ := f2 hp
   obtain ⟨H, z, hm'⟩ := g1 q hq
   exact ((U t H K z).2.2.2.1 (by rw [gG.2.2]; exact Z)).2 _ (by rw [gG.2.1]; exact hm')
  ·obtain ⟨H, z, Z⟩ := g2 hp
   obtain ⟨t, K, hm⟩ := f1 q hq
   exact ((U t H K z).2.2.2.2 (by rw [gG.2.2]; exact Z)).2 _ (by rw [gG.2.1]; exact hm)
  ·obtain ⟨H, z, hm'⟩ := g1 q hq
   obtain ⟨t, K, Y⟩ := hF
   obtain ⟨k1, k2, k3, _⟩ := U t H K z
   rcases Y with Y | Y
   ·exact k2 _ Y (by rw [gG.2.1]; exact hm')
   ·exact k3 _ (by rw [gG.2.1]; exact Y) (by rw [gG.2.1]; exact hm')
  ·obtain ⟨H, z, Z⟩ := g2 hp
   obtain ⟨t, K, Y⟩ := hF
   obtain ⟨k1, k2⟩ := (U t H K z).2.2.2.2 (by rw [gG.2.2]; exact Z)
   rcases Y with Y | Y
   ·exact k1 _ Y
   ·exact k2 _ (by rw [gG.2.1]; exact Y)
  ·obtain ⟨H, z, Z⟩ := g2 hp
   have hmem : H ∈ all := by
    rw [← hall, List.mem_reverse, List.mem_filterMap]
    exact ⟨(W, N), yt V, z⟩
   have hnc := A1 hpush H hmem Z
   rw [g3 H z] at hnc
   have := zV (j := i) hnc (by rw [ym1]; exact hoi)
   rw [yh1] at this
   rcases this with h | h | h
   ·exact absurd h.symm O
   ·rw [nV, hun] at h; cases h
   ·exact h
 ·intro b Y D
  unfold HE at Y
  simp only [yc] at Y
  have hbL : b < st0.mem.length := by
   have := Y.1; simp [Nat.blt] at this; omega
  have hall2 : ∀ u ∈ all, b ∉ u.wr ∨ u.wk b = true := by
   intro u hu
   have := yi2.1 Y.2 u hu
   simp only [yx1, yz] at this
   rcases this with h | h
   ·left; intro hm; rw [m8.2 hm] at h; cases h
   ·exact .inr h
  exact kJ hbL (Cy hall2 hc (fun p hp t K => by rw [← hall, List.mem_reverse, List.mem_filterMap]; exact ⟨p, hp, K⟩) hbL) rfl
theorem Fr {z : Array Bool} {i j : Nat} (H : i < z.size) : (z.setIfInBounds i true).getD j false = (if j = i then true else z.getD j false) := by
 by_cases h : j = i
 ·subst h
  rw [if_pos rfl, yk, Array.getElem?_setIfInBounds_self_of_lt H]; rfl
 ·rw [if_neg h, yk, Array.getElem?_setIfInBounds_ne (fun e => h e.symm), ← yk]
theorem Jv (hC : g9 P C) {L : Nat} {J : St} {l : List (Oper × jQ)} {all : List Tr} (U : Dj P C an rid ops L J l all) {G0 : Gh} {w0 : World} {old : List (Option Bool)} {Q : Exit → Act → World → Prop}
  (hQ : ∀ G w a, SR G w (b0 (fun _ => true) 0 l J) a → CR G0 w0 old G w → Q .normal a w) :
  ∀ (fuel : Nat) (z : Array Bool) (G : Gh) (w : World) (a : Act), z.size = ops.size → yN ops (iE z) → left (iE z) ops.size = fuel → SR G w (b0 (iE z) 0 l J) a → CR G0 w0 old G w →
   wpAny P .any ops Q fuel z a w := by
 have hll : l.length = ops.size := by rw [← ya2 (f := (·.1)) (as := l), U.map]; simp
 intro fuel
 induction fuel with
 | zero =>
  intro z G w a hsz hcl Y hS hI
  have hall := D4 Y
  refine ⟨?_, hQ G w a ?_ hI⟩
  ·apply List.eq_nil_iff_forall_not_mem.2
   intro j hj
   obtain ⟨h1, o, ho, _⟩ := mem_ready.1 hj
   have hjn := (yk2.1 ho).1
   have := hall j hjn
   unfold iE at this
   rw [yk, yi1 (by omega)] at this h1
   simp only [Option.getD_some] at this h1
   rw [this] at h1; cases h1
  ·rw [← lH (D := iE z) (D' := fun _ => true) (fun k _ O => hall k (by omega))]; exact hS
 | succ fuel ih =>
  intro z G w a hsz hcl Y hS hI
  have Z : ∀ i, i < ops.size → z.getD i true = iE z i := by
   intro i hi
   unfold iE
   rw [yk, yk, yi1 (by omega)]; rfl
  refine ⟨fun hnil => ?_, fun i hi => ?_⟩
  ·obtain ⟨i, hin, hid, hmin⟩ := JR (He (D := iE z) (n := ops.size) (by omega))
   have : i ∈ Region.ready .any ops z := by
    refine mem_ready.2 ⟨by rw [Z i hin]; exact hid, ops[i], yi1 hin, fun e he W => ?_⟩
    refine hmin e.on ?_
    have := mI (j := i) U.back (by rw [ym1]; exact yi1 hin)
    rw [yh1] at this
    exact pU this e (by simpa using he) W
   rw [hnil] at this; cases this
  ·obtain ⟨h1, o, ho, hpre⟩ := mem_ready.1 hi
   have hin := (yk2.1 ho).1
   rw [Z i hin] at h1
   obtain ⟨e, hle⟩ : ∃ e, l[i]? = some (o, e) := by
    have hi2 : i < l.length := by omega
    have : (l.map (·.1))[i]? = some o := by rw [U.map, ym1]; exact ho
    rw [yc1, ye hi2] at this
    exact ⟨l[i].2, by rw [ye hi2]; simp at this; rw [← this]⟩
   let D := iE z
   let D1 := iE (z.setIfInBounds i true)
   have hD1 : ∀ j, D1 j = if j = i then true else D j := fun j => Fr (by omega)
   have hD1i : D1 i = true := by rw [hD1, if_pos rfl]
   have V : ∀ j, j ≠ i → D1 j = D j := fun j hj => by rw [hD1, if_neg hj]
   have hcl1 : yN ops D1 := by
    intro j o' hj e' he W hd
    by_cases hji : j = i
    ·subst hji
     rw [ho] at hj; obtain rfl := ya hj
     have := hpre e' he W
     rw [hD1]; split
     ·rfl
     ·exact this
    ·rw [V j hji] at hd
     have := hcl j o' hj e' he W hd
     rw [hD1]; split
     ·rfl
     ·exact this
   -- what differs stands apart
   have hun1 : ∀ k, D k = true → i < k → dC (x9 ops.toList []) i k = false := by
    intro k O hik
    cases H : dC (x9 ops.toList []) i k with
    | false => rfl
    | true =>
     unfold dC at H
     rw [yx1] at H
     rcases H with H | H
     ·have := (vJ U.back H).2 D hcl O
      rw [show D i = false from h1] at this; cases this
     ·have := (vJ U.back H).1; omega
   have hun2 : ∀ k, D k = false → k < i → dC (x9 ops.toList []) i k = false := by
    intro k O hik
    cases H : dC (x9 ops.toList []) i k with
    | false => rfl
    | true =>
     unfold dC at H
     rw [yx1] at H
     rcases H with H | H
     ·have := (vJ U.back H).1; omega
     ·have := (vJ U.back H).2 D1 hcl1 hD1i
      rw [V k (by omega), O] at this; cases this
   have hdiff : ∀ k, (Nat.blt k i) ≠ D k → dC (x9 ops.toList []) i k = false ∧ k ≠ i := by
    intro k K
    rcases Nat.lt_trichotomy k i with h | h | h
    ·have W : Nat.blt k i = true := by simp [Nat.blt]; omega
     rw [W] at K
     have O : D k = false := by cases hh : D k with | false => rfl | true => rw [hh] at K; exact absurd rfl K
     exact ⟨hun2 k O h, by omega⟩
    ·subst h
     have W : Nat.blt k k = false := by cases W : Nat.blt k k with | false => rfl | true => simp [Nat.blt] at W; omega
     rw [W, show D k = false from h1] at K; exact absurd rfl K
    ·have W : Nat.blt k i = false := by cases W : Nat.blt k i with | false => rfl | true => simp [Nat.blt] at W; omega
     rw [W] at K
     have O : D k = true := by cases hh : D k with | true => rfl | false => rw [hh] at K; exact absurd rfl K
     exact ⟨hun1 k O h, by omega⟩
   obtain ⟨rs, hstep⟩ := U.step i o e hle
   have hagree : p4 (KM ops o) (L7 L all e) (b0 (fun k => Nat.blt k i) 0 l J) (b0 D 0 l J) := by
    refine kP (L := L) (.inl U.len) (.inl U.len) U.one (fun k o' e' O K => ?_) ⟨fun _ _ => rfl, fun _ _ => rfl⟩
    rw [yh1] at K
    obtain ⟨hu, hki⟩ := hdiff k K
    exact (U.mate i k o o' e e' (fun h => hki h.symm) hle O hu).2.1
   have hlens : kN o = true → (b0 D 0 l J).mem.length = (b0 (fun k => Nat.blt k i) 0 l J).mem.length := by
    intro hcall
    refine BM rfl (fun k o' e' O hp => ?_)
    rw [yh1]
    by_cases heq : Nat.blt k i = D k
    ·exact heq
    ·obtain ⟨hu, hki⟩ := hdiff k heq
     have := (U.mate i k o o' e e' (fun h => hki h.symm) hle O hu).2.2 hp
     rw [this] at hcall; cases hcall
   obtain ⟨e1, hstep1, hv1, hw1, hp1⟩ := hstep.agree hagree hlens (fun t b ht hc _ _ => (U.const b hc D).trans (U.const b hc _).symm)
   have hstep' := hstep1.one
   have happ : e1.app o.dst (b0 D 0 l J) = e.app o.dst (b0 D 0 l J) := by unfold jQ.app; rw [hv1, hw1, hp1]
   rw [happ] at hstep'
   -- and afterwards
   have hafter : e.app o.dst (b0 D 0 l J) = b0 D1 0 l J := by
    have hil : i < l.length := by omega
    have hel : l[i] = (o, e) := by
     rw [ye hil] at hle; exact ya hle
    have N : l = l.take i ++ (o, e) :: l.drop (i + 1) := by
     rw [← hel, ← ys2 hil, List.take_append_drop]
    have htl : (l.take i).length = i := by simp; omega
    have hone := U.one
    unfold vN at hone
    rw [N, List.pairwise_append, List.pairwise_cons] at hone
    obtain ⟨ho1, ⟨ho2, ho3⟩, ho4⟩ := hone
    generalize W : l.drop (i + 1) = b at N ho2 ho3 ho4
    generalize ha : l.take i = pre at N ho1 ho4 htl
    rw [N, n9, n9, yh1, htl]
    have hpre' : b0 D1 0 pre J = b0 D 0 pre J := lH (fun k _ O => by rw [yh1, htl] at O; exact V k (by omega))
    rw [hpre']
    simp only [b0]
    rw [show D i = false from h1, hD1i]
    simp only [yg, yh]
    rw [lH (D := D1) (D' := D) (l := b) (fun k O _ => V k (by omega))]
    refine (BN (L := L) ?_ ho3 (fun q hq => ho2 q hq) (fun k o' e' O hd => ?_)).symm
    ·by_cases hp : mE pre
     ·left
      have : (b0 D 0 pre J).mem.length = (b0 (fun _ => false) 0 pre J).mem.length := BM rfl (fun k o' e' O hp' => absurd (hp (o', e') (yt O)) hp')
      rw [this, nZ (fun _ _ => rfl)]; exact U.len
     ·right
      have : ∃ q ∈ pre, q.2.push ≠ [] := by
       apply Classical.byContradiction
       intro hno
       exact hp fun q hq => Classical.byContradiction fun K => hno ⟨q, hq, K⟩
      obtain ⟨q, hq, hqp⟩ := this
      exact ⟨(ho4 q hq (o, e) (ym ..)).resolve_left hqp, fun q' hq' => (ho4 q hq q' (yi _ hq')).resolve_left hqp⟩
    ·have hk' : l[i + 1 + k]? = some (o', e') := by
      rw [← W, ya1] at O; exact O
     exact (U.mate i (i + 1 + k) o o' e e' (by omega) hle hk' (hun1 _ hd (by omega))).1
   refine hstep'.sound hC ho hS _ _ (fun G' w' a' hg he hS' => ?_)
   rw [hafter] at hS'
   refine ih (z.setIfInBounds i true) G' w' a' (by simpa using hsz) hcl1 ?_ hS' (hI.step hg he)
   have := (GY (D := D) (D' := D1) h1 hD1i V (n := ops.size)).1 hin
   have h2 : left D ops.size = fuel + 1 := Y
   show left D1 ops.size = fuel
   omega
theorem wF (hm : P.follows .mixedOrders = true) (hC : g9 P C) (an : dJ) : AN P C an := by
 intro R rid ops st k r G0 w0 old G w a Q h hS hI Y
 unfold oC at h
 obtain ⟨l, K, hc, z⟩ := BE h
 rw [yp1] at z
 rw [aA] at z
 obtain ⟨J, z⟩ := z
 simp only [Bool.not_true, Bool.false_or] at J
 have W := Js (L := st.mem.length + mA ops.toList) K hc (by simp) J
 have H : Ev G w w.drew := Ev.drew G w
 have O : SR G w.drew { st with mem := st.mem ++ List.replicate (mA ops.toList) none } a := by
  have N := hS.widen (mA ops.toList)
  exact ⟨N.memr.ev H (.inl rfl) (fun B _ => rfl), N.len, fun j x Z => (N.tmps j x Z).imp id (fun h => h.mono (dA.refl G) H), N.defers⟩
 refine wp_region_any hm ?_
 refine Jv hC W (G0 := G0) (w0 := w0) (old := old) (fun G' w' a' V U => Y _ G' w' a' z V.trim U) ops.size (Array.replicate ops.size false) G w.drew a (by simp) ?_ ?_ ?_ (hI.step (dA.refl G) H)
 ·intro j o ho e he hb J
  unfold iE at J
  rw [yk, yw2] at J
  split at J <;> simp at J
 ·have : left (iE (Array.replicate ops.size false)) ops.size = left (fun _ => false) ops.size := by
   congr 1
   funext i
   unfold iE
   rw [yk, yw2]
   split <;> rfl
  rw [this, I4]
 ·rw [nZ]
  ·exact O
  ·intro k _
   unfold iE
   rw [yk, yw2]
   split <;> rfl
end
end Go.Ab
end
