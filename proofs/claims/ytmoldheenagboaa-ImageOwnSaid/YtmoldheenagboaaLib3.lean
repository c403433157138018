/- The evaluator and its soundness (texts AbCall3, AbCall4, AbCode1, AbCode2, AbDraw1, AbDraw2, AbDraw3, AbDraw4). -/
import Derived.Test.YtmoldheenagboaaLib2
section
/- A call: what the callee gives back, under the caller's numbers. -/
set_option linter.unusedVariables false
set_option linter.unusedSectionVars false
set_option linter.unusedSimpArgs false
namespace Go.Ab
variable [GTab]
def backBox (f : Ren) (mem : Mem) (a : Nat) (x : Box) : Box :=
 { gen := (match genOf mem a with | some h => bif x.row.isCells then h else h + 1 | none => 0), frz := x.frz, row := x.row.ren f }
theorem zp : ∀ {wr : List (Nat × Box)} {mem : Mem}, (setMem mem wr).length = mem.length
 | [], mem => rfl
 | (b, x) :: r, mem => by rw [setMem, zp]; simp
theorem zbp {f : Ren} {mem : Mem} : ∀ {ids : List Nat} {q mem0 : Mem} {b : Nat}, (∀ (j : Nat) (y : Box), ids[j]? = some b → q[j]? = some (some y) → False) → (setMem mem0 (backBoxes f mem ids q))[b]? = mem0[b]?
 | [], q, mem0, b, h => by simp [backBoxes, setMem]
 | a :: ids, [], mem0, b, h => by simp [backBoxes, setMem]
 | a :: ids, none :: q, mem0, b, h => by
  simp only [backBoxes]
  exact zbp (fun j y h1 h2 => h (j + 1) y (by simpa using h1) (by simpa using h2))
 | a :: ids, some x :: q, mem0, b, h => by
  simp only [backBoxes, setMem]
  rw [zbp (ids := ids) (q := q) (fun j y h1 h2 => h (j + 1) y (by simpa using h1) (by simpa using h2))]
  rw [List.getElem?_set_ne (fun e => h 0 x (by simp [e]) (by simp))]
theorem zdc {f : Ren} {mem : Mem} : ∀ {ids : List Nat} {q mem0 : Mem} {b j : Nat} {y : Box}, nodupN ids = true → ids[j]? = some b → q[j]? = some (some y) → b < mem0.length →
  (setMem mem0 (backBoxes f mem ids q))[b]? = some (some (backBox f mem b y))
 | [], q, mem0, b, j, y, _, h, _, _ => by simp at h
 | a :: ids, [], mem0, b, j, y, _, _, h, _ => by simp at h
 | a :: ids, none :: q, mem0, b, 0, y, _, _, h, _ => by simp at h
 | a :: ids, none :: q, mem0, b, j + 1, y, hn, h1, h2, hb => by
  simp only [backBoxes]
  simp only [nodupN, Bool.and_eq_true] at hn
  exact zdc hn.2 (by simpa using h1) (by simpa using h2) hb
 | a :: ids, some x :: q, mem0, b, 0, y, hn, h1, h2, hb => by
  simp only [backBoxes, setMem]
  simp at h1 h2; subst h1 h2
  simp only [nodupN, Bool.and_eq_true, Bool.not_eq_true'] at hn
  rw [zbp (fun j y h1 _ => by rw [zbO.2 (List.mem_of_getElem? h1)] at hn; simp at hn), List.getElem?_set_self hb]; rfl
 | a :: ids, some x :: q, mem0, b, j + 1, y, hn, h1, h2, hb => by
  simp only [backBoxes, setMem]
  simp only [nodupN, Bool.and_eq_true] at hn
  exact zdc hn.2 (by simpa using h1) (by simpa using h2) (by simpa using hb)
theorem zbb {f : Ren} : ∀ {m : Mem} {i : Nat}, (newBoxes f m)[i]? = (m[i]?).map fun o => o.map fun x => { gen := 0, frz := x.frz, row := x.row.ren f }
 | [], i => by simp [newBoxes]
 | some x :: r, 0 => by simp [newBoxes]
 | none :: r, 0 => by simp [newBoxes]
 | some x :: r, i + 1 => by simp [newBoxes, zbb (m := r)]
 | none :: r, i + 1 => by simp [newBoxes, zbb (m := r)]
theorem zdn {a b : List Nat} : disjN a b = true → ∀ x ∈ a, x ∉ b := by
 induction a with
 | nil => simp
 | cons m r ih =>
  intro h x hx hb
  simp only [disjN, Bool.and_eq_true, Bool.not_eq_true'] at h
  rcases List.mem_cons.1 hx with rfl | hx
  ·rw [zbO.2 hb] at h; simp at h
  ·exact ih h.2 x hx hb
section
variable {P : Program}
def Come (G : Gh) (w : World) (mem : Mem) (ids : List Nat) (B : Nat) : Prop :=
 w.heap.size ≤ B ∨ ∃ (b : Nat) (x : Box) (L : Loc), b ∈ ids ∧ mem[b]? = some (some x) ∧ G.loc b x.gen = some L ∧ L.blk = some B
def callG (G : Gh) (w : World) (mem : Mem) (ids lent : List Nat) : Gh := { loc := locIn G mem ids, prot := (G.lend (InBoxes G mem lent)).prot, mine := Come G w mem ids }
theorem Come.mine {G : Gh} {w : World} {mem : Mem} {ids : List Nat} {B : Nat} (hM : MemR G w mem) (h : Come G w mem ids B) : G.mine B := by
 rcases h with h | ⟨b, x, L, _, hx, hl, hB⟩
 ·exact hM.own B h
 ·exact hM.mine hx hl hB
theorem MemR.blk_lt {G : Gh} {w : World} {mem : Mem} (hM : MemR G w mem) {b : Nat} {x : Box} {L : Loc} {B : Nat} (hx : mem[b]? = some (some x)) (hl : G.loc b x.gen = some L) (hB : L.blk = some B) : B < w.heap.size := by
 obtain ⟨o, hl', hm⟩ := (hM.box b x hx).loc
 rw [hl] at hl'
 obtain rfl := Option.some.inj hl'
 simp only at hB; subst hB
 exact hm.2.1
theorem MemR.free {G : Gh} {w : World} {mem : Mem} (hM : MemR G w mem) {b : Nat} {x : Box} {L : Loc} {B : Nat} (hx : mem[b]? = some (some x)) (hf : x.frz = false) (hl : G.loc b x.gen = some L) (hB : L.blk = some B) : ∀ β o, ¬ G.prot β B o := by
 obtain ⟨o, hl', hm⟩ := (hM.box b x hx).loc
 rw [hl] at hl'
 obtain rfl := Option.some.inj hl'
 simp only at hB; subst hB
 exact hm.2.2.2.2 hf
theorem zoU {G : Gh} {w : World} {mem : Mem} {ids lent : List Nat} (hM : MemR G w mem) (hn : nodupN ids = true) (hd : disjN lent ids = true) : MemR (callG G w mem ids lent) w (pickMem (renTo mem ids) mem ids) := by
 refine zhw hM hn rfl (fun _ _ _ h => .inl h) (fun b x L B hb hx hf hl hB β o hp => ?_) (fun b x L B hb hx hl hB => .inr ⟨b, x, L, hb, hx, hl, hB⟩) (fun B h => .inl h) (fun B o h => ?_) (fun β B o h => ?_)
 ·rcases hp with hp | ⟨_, b', hb', x', L', hx', hl', hB'⟩
  ·exact hM.free hx hf hl hB β o hp
  ·have := hM.apart b b' x x' L L' B hx hx' hl hl' hB hB'
   subst this
   exact zdn hd b hb' hb
 ·rcases h with h | ⟨h, _⟩
  ·exact .inl (hM.lab B o h)
  ·cases h
 ·rcases h with h | ⟨_, b', hb', x', L', hx', hl', hB'⟩
  ·exact hM.away β B o h
  ·exact hM.blk_lt hx' hl' hB'
def locOut (G G3 : Gh) (mem q : Mem) (ids : List Nat) (len : Nat) : Nat → Nat → Option Loc := fun a g =>
 if a < mem.length then
  match idx a ids 0 with
  | some j => match q[j]? with
   | some (some y) => if g = (backBox (fun _ _ => none) mem a y).gen then G3.loc j 0 else G.loc a g
   | _ => G.loc a g
  | none => G.loc a g
 else if g = 0 ∧ ids.length + (a - mem.length) < len then G3.loc (ids.length + (a - mem.length)) 0 else none
theorem zcr : ∀ {ids : List Nat} {b n j : Nat}, nodupN ids = true → ids[j]? = some b → idx b ids n = some (n + j)
 | [], b, n, j, _, h => by simp at h
 | m :: r, b, n, 0, _, h => by simp at h; subst h; simp [idx]
 | m :: r, b, n, j + 1, hn, h => by
  have hne : m ≠ b := by
   rintro rfl
   have := zdJ (i := 0) (j := j + 1) hn (by simp) h
   omega
  simp only [nodupN, Bool.and_eq_true] at hn
  simp only [idx]
  have hb : Nat.beq m b = false := by
   cases hb : Nat.beq m b with
   | false => rfl
   | true => exact absurd (beqN.1 hb) hne
  rw [hb]; simp only [cond_false]
  rw [zcr hn.2 (by simpa using h)]; congr 1; omega
theorem zkJ {G G3 G4 : Gh} {w w' : World} {mem q sub : Mem} {ids lent : List Nat} {r : AV} {cv qv : Value} {qr : AV} (hM : MemR G w mem) (hn : nodupN ids = true) (hd : disjN lent ids = true)
  (hR : Ret (callG G w mem ids lent) w (pickMem (renTo mem ids) mem ids) (qr, q) G3 w' qv) (hlent : emptyN lent = true ∨ (r.lent = false ∧ memLent q = false))
  (hv : VR G4 w' r cv) (h4m : G4.mine = G3.mine) (h4l : G4.loc = G3.loc) (h4p : ∀ β B o, G3.prot β B o → G4.prot β B o) (h4n : ∀ β B o, G4.prot β B o → G3.prot β B o ∨ NewBlk G3 q sub.length B o) (h4lab : ∀ B o, G4.prot false B o → G4.prot true B o)
  (hsub : ∀ j : Nat, j < sub.length → sub[j]? = q[j]?) (hsl : ids.length ≤ sub.length) (hql : sub.length ≤ q.length) :
  ∃ G' : Gh, VR G' w' (r.ren (renBack mem sub ids)) cv ∧ Gle G G' ∧ Ev G w w' ∧ MemR G' w' (setMem mem (backBoxes (renBack mem sub ids) mem ids q) ++ newBoxes (renBack mem sub ids) (sub.drop ids.length)) := by
 obtain ⟨hv3, hev, hmine3, hprot3, hnew3, hM3, hgens, hkept, hnones⟩ := hR
 simp only at hM3 hgens hkept hnones
 -- a box of ids
 have hq : ∀ {j a : Nat} {y : Box}, ids[j]? = some a → q[j]? = some (some y) → ∃ x, mem[a]? = some (some x) ∧ y.row.isCells = x.row.isCells ∧ (x.row.isCells = true → ∀ L, G.loc a x.gen = some L → G3.loc j 0 = some L) := by
  intro j a y hj hy
  cases hx : mem[a]? with
  | none =>
   have := hnones j (by rw [zP, hj]; simp [hx])
   rw [hy] at this; cases this
  | some o =>
   cases o with
   | none =>
    have := hnones j (by rw [zP, hj]; simp [hx])
    rw [hy] at this; cases this
   | some x =>
    obtain ⟨y', hy', hk, hl⟩ := hkept j { gen := 0, frz := x.frz, row := x.row.ren (renTo mem ids) } (by rw [zP, hj]; simp [hx])
    rw [hy] at hy'
    obtain rfl : y = y' := by simpa using hy'
    simp only [zN] at hk hl
    refine ⟨x, rfl, hk, fun hc L hL => hl hc L ?_⟩
    simp [callG, locIn, hj, zbl.2 ⟨x, hx, rfl⟩, hL]
 have hq2 : ∀ {j a : Nat} {x : Box}, ids[j]? = some a → mem[a]? = some (some x) → ∃ y, q[j]? = some (some y) := by
  intro j a x hj hx
  obtain ⟨y', hy', _⟩ := hkept j { gen := 0, frz := x.frz, row := x.row.ren (renTo mem ids) } (by rw [zP, hj]; simp [hx])
  exact ⟨y', hy'⟩
 have hbgen : ∀ {a : Nat} {x y : Box} {f : Ren}, mem[a]? = some (some x) → (backBox f mem a y).gen = (bif y.row.isCells then x.gen else x.gen + 1) := by
  intro a x y f hx
  simp [backBox, zbl.2 ⟨x, hx, rfl⟩]
 have hcome : ∀ B, G3.mine B → Come G w mem ids B := fun B h => by rw [hmine3] at h; exact h
 have hEv : Ev G w w' := ⟨hev.size, hev.out, hev.os, fun B hB hm => hev.away B hB (fun h => hm (Come.mine hM h)), hev.some, fun β B o h => hev.prot β B o (.inl h), hev.fz, hev.tape⟩
 -- the protection
 let pr : Bool → Nat → Nat → Prop := fun β B o => if β = true then (if emptyN lent = true then G4.prot true B o else G.prot true B o ∨ G4.prot false B o) else G4.prot false B o
 have hnb4 : ∀ β B o, G4.prot β B o → G3.prot β B o ∨ Come G w mem ids B := fun β B o h => (h4n β B o h).imp id (by rintro ⟨b, x, L, _, hx, hl, hB⟩; exact hcome B (hM3.mine hx hl hB))
 have hsem : ∀ B o, emptyN lent = true → ¬ InBoxes G mem lent B o := by
  rintro B o he ⟨b, hb, _⟩
  rw [zbu he] at hb; cases hb
 have hprle : ∀ β B o, pr β B o → (∃ β', G.prot β' B o) ∨ Come G w mem ids B := by
  intro β B o h
  have h3 : ∀ β, (β = true → emptyN lent = true) → G4.prot β B o → (∃ β', G.prot β' B o) ∨ Come G w mem ids B := by
   intro β hβ h
   rcases hnb4 β B o h with h | h
   ·rcases hnew3 β B o h with h | h
    ·rcases h with h | ⟨h, h'⟩
     ·exact .inl ⟨_, h⟩
     ·exact absurd h' (hsem B o (hβ h))
    ·exact .inr h
   ·exact .inr h
  simp only [pr] at h
  split at h
  ·split at h
   ·rename_i he; exact h3 true (fun _ => he) h
   ·rcases h with h | h
    ·exact .inl ⟨_, h⟩
    ·exact h3 false (fun h => by cases h) h
  ·exact h3 false (fun h => by cases h) h
 have hG4 : ∀ β B o, G.prot β B o → G4.prot β B o := fun β B o h => h4p β B o (hprot3 β B o (.inl h))
 have hprG : ∀ β B o, G.prot β B o → pr β B o := by
  intro β B o h
  simp only [pr]
  cases β with
  | true => simp only [if_true]; split; exact hG4 _ _ _ h; exact .inl h
  | false => simp only [Bool.false_eq_true, if_false]; exact hG4 _ _ _ h
 have hpr4 : ∀ β B o, pr β B o → ∃ β', G4.prot β' B o := by
  intro β B o h
  simp only [pr] at h
  split at h
  ·split at h
   ·exact ⟨_, h⟩
   ·rcases h with h | h
    ·exact ⟨_, hG4 _ _ _ h⟩
    ·exact ⟨_, h⟩
  ·exact ⟨_, h⟩
 have hprnew : ∀ β B o, pr β B o → G.prot β B o ∨ G.mine B := by
  intro β B o h
  have h3 : ∀ β, (β = true → emptyN lent = true) → G4.prot β B o → G.prot β B o ∨ G.mine B := by
   intro β hβ h
   rcases hnb4 β B o h with h | h
   ·rcases hnew3 β B o h with h | h
    ·rcases h with h | ⟨h, h'⟩
     ·exact .inl h
     ·exact absurd h' (hsem B o (hβ h))
    ·exact .inr (Come.mine hM h)
   ·exact .inr (Come.mine hM h)
  simp only [pr] at h
  split at h
  ·rename_i hβ; subst hβ
   split at h
   ·rename_i he; exact h3 true (fun _ => he) h
   ·rcases h with h | h
    ·exact .inl h
    ·rcases h3 false (fun h => by cases h) h with h | h
     ·exact .inl (hM.lab _ _ h)
     ·exact .inr h
  ·rename_i hβ
   have : β = false := by simpa using hβ
   subst this
   exact h3 false (fun h => by cases h) h
 let G' : Gh := { mine := G.mine, prot := pr, loc := locOut G G3 mem q ids sub.length }
 have hlen : (setMem mem (backBoxes (renBack mem sub ids) mem ids q)).length = mem.length := zp
 -- where boxes stand
 have lB : ∀ {j a : Nat} {y : Box} {f : Ren}, ids[j]? = some a → q[j]? = some (some y) → G'.loc a (backBox f mem a y).gen = G3.loc j 0 := by
  intro j a y f hj hy
  obtain ⟨x, hx, _⟩ := hq hj hy
  have ha : a < mem.length := (List.getElem?_eq_some_iff.1 hx).1
  show locOut G G3 mem q ids sub.length a _ = _
  unfold locOut
  rw [if_pos ha, zcr hn hj]
  simp only [Nat.zero_add, hy]
  rw [if_pos (by rfl)]
 have lO : ∀ {a g : Nat}, a < mem.length → a ∉ ids → G'.loc a g = G.loc a g := by
  intro a g ha hni
  show locOut G G3 mem q ids sub.length a g = _
  unfold locOut
  rw [if_pos ha]
  cases hi : idx a ids 0 with
  | none => rfl
  | some j =>
   obtain ⟨i, rfl, hj⟩ := zeb hi
   exact absurd (List.mem_of_getElem? hj) hni
 have lN : ∀ {i : Nat}, ids.length + i < sub.length → G'.loc (mem.length + i) 0 = G3.loc (ids.length + i) 0 := by
  intro i hi
  show locOut G G3 mem q ids sub.length (mem.length + i) 0 = _
  unfold locOut
  rw [if_neg (by omega), Nat.add_sub_cancel_left, if_pos ⟨rfl, hi⟩]
 have hGle : Gle G G' := by
  refine ⟨rfl, hprG, fun a g L hL => ?_, hprnew⟩
  by_cases ha : a < mem.length
  ·show locOut G G3 mem q ids sub.length a g = _
   unfold locOut
   rw [if_pos ha]
   cases hi : idx a ids 0 with
   | none => exact hL
   | some j =>
    obtain ⟨i, rfl, hj⟩ := zeb hi
    simp only [Nat.zero_add]
    split
    ·rename_i y hy
     split
     ·rename_i hg
      obtain ⟨x, hx, hk, hc⟩ := hq hj hy
      rw [hbgen hx] at hg
      cases hyc : y.row.isCells with
      | true => rw [hyc] at hg; simp only [cond_true] at hg; subst hg; exact hc (by rw [← hk]; exact hyc) L hL
      | false =>
       rw [hyc] at hg; simp only [cond_false] at hg; subst hg
       rw [hM.gens a x _ hx (Nat.lt_succ_self _)] at hL; cases hL
     ·exact hL
    ·exact hL
  ·rw [hM.unset a g (fun x hx => ha (List.getElem?_eq_some_iff.1 hx).1)] at hL; cases hL
 -- renaming back
 have hren : RenOk G4 G' (renBack mem sub ids) := by
  intro b g p L hp hL
  unfold renBack at hp
  cases hg : Nat.beq g 0 with
  | false => rw [hg] at hp; simp at hp
  | true =>
   rw [hg] at hp; simp only [cond_true] at hp
   obtain rfl := beqN.1 hg
   rw [h4l] at hL
   split at hp
   ·rename_i a ha
    split at hp
    ·rename_i y h' hy hgen
     obtain rfl := Option.some.inj hp
     have hb : b < ids.length := (List.getElem?_eq_some_iff.1 ha).1
     rw [hsub b (by omega)] at hy
     have := lB (f := fun _ _ => none) ha hy
     simp only [backBox, hgen] at this
     simp only
     rw [this]; exact hL
    ·simp at hp
   ·rename_i hno
    cases hlt : Nat.blt b sub.length with
    | false => rw [hlt] at hp; simp at hp
    | true =>
     rw [hlt] at hp; simp only [cond_true] at hp
     obtain rfl := Option.some.inj hp
     have hb : b < sub.length := by simp [Nat.blt] at hlt; omega
     have hge := List.getElem?_eq_none_iff.1 hno
     have := lN (i := b - ids.length) (by omega)
     simp only
     rw [this, show ids.length + (b - ids.length) = b by omega]; exact hL
 have hp4 : ∀ {l : Bool}, l = emptyN lent → ∀ β B o, (β = true → l = true) → G4.prot β B o → G'.prot β B o := by
  intro l hl β B o hβ h
  show pr β B o
  simp only [pr]
  cases β with
  | true => simp only [if_true]; rw [if_pos (by rw [← hl]; exact hβ rfl)]; exact h
  | false => simp only [Bool.false_eq_true, if_false]; exact h
 have hren3 : RenOk G3 G' (renBack mem sub ids) := fun b g p L hp hL => hren b g p L hp (by rw [h4l]; exact hL)
 have hrowlent : ∀ {j : Nat} {y : Box}, q[j]? = some (some y) → rowLent y.row = true → emptyN lent = true := by
  intro j y hy hl
  rcases hlent with h | ⟨_, h⟩
  ·exact h
  ·rw [zbE hy hl] at h; cases h
 -- a box of the callee's, at its new number
 have hbox : ∀ {j a g : Nat} {y : Box}, j < sub.length → q[j]? = some (some y) → G'.loc a g = G3.loc j 0 → BoxR G' w' a { gen := g, frz := y.frz, row := y.row.ren (renBack mem sub ids) } := by
  intro j a g y hjs hy hloc
  have hg0 := hgens j y hy
  have hby := hM3.box j y hy
  obtain ⟨o, hl, hm⟩ := hby.loc
  refine ⟨by simp only [zbg]; exact hby.e, o, by simp only [zbg, zaB]; rw [hloc, ← hg0]; exact hl, ?_⟩
  cases o with
  | none => simp only [zaB, zN]; exact hm
  | some B =>
   obtain ⟨h1, h2, h3, h4, h5⟩ := hm
   have hmB : G.mine B := Come.mine hM (hcome B h1)
   refine ⟨hmB, h2, h3, h4.ren (l := emptyN lent) hren3 (fun β B o hβ h => hp4 rfl β B o hβ (h4p β B o h)) (hrowlent hy), fun hf β o hp => ?_⟩
   obtain ⟨β', hp'⟩ := hpr4 β B o hp
   rcases h4n β' B o hp' with hp' | ⟨b, x, L, hb, hx, hL, hB⟩
   ·exact h5 hf β' o hp'
   ·have := hM3.apart j b y x _ L B hy hx hl hL rfl hB
    omega
 -- entries
 have hent : ∀ (a : Nat) (z : Box), (setMem mem (backBoxes (renBack mem sub ids) mem ids q) ++ newBoxes (renBack mem sub ids) (sub.drop ids.length))[a]? = some (some z) →
   (a < mem.length ∧ a ∉ ids ∧ mem[a]? = some (some z)) ∨
   (∃ j y, j < sub.length ∧ q[j]? = some (some y) ∧ z = { gen := z.gen, frz := y.frz, row := y.row.ren (renBack mem sub ids) } ∧ G'.loc a z.gen = G3.loc j 0 ∧ ((∃ x, ids[j]? = some a ∧ mem[a]? = some (some x) ∧ x.gen ≤ z.gen) ∨ (∃ i, j = ids.length + i ∧ a = mem.length + i ∧ z.gen = 0))) := by
  intro a z hz
  by_cases ha : a < mem.length
  ·rw [List.getElem?_append_left (by rw [hlen]; exact ha)] at hz
   by_cases hi : ∃ (j : Nat) (y : Box), ids[j]? = some a ∧ q[j]? = some (some y)
   ·obtain ⟨j, y, hj, hy⟩ := hi
    rw [zdc hn hj hy ha] at hz
    obtain rfl : backBox (renBack mem sub ids) mem a y = z := by simpa using hz
    obtain ⟨x, hx, hk, _⟩ := hq hj hy
    have hjl := (List.getElem?_eq_some_iff.1 hj).1
    refine .inr ⟨j, y, by omega, hy, rfl, lB hj hy, .inl ⟨x, hj, hx, ?_⟩⟩
    rw [hbgen hx]
    cases y.row.isCells <;> simp
   ·rw [zbp (fun j y h1 h2 => hi ⟨j, y, h1, h2⟩)] at hz
    refine .inl ⟨ha, fun hm => ?_, hz⟩
    obtain ⟨j, hj, rfl⟩ := List.getElem_of_mem hm
    obtain ⟨y, hy⟩ := hq2 (List.getElem?_eq_getElem hj) hz
    exact hi ⟨j, y, List.getElem?_eq_getElem hj, hy⟩
  ·rw [List.getElem?_append_right (by rw [hlen]; omega), hlen, zbb, List.getElem?_drop] at hz
   obtain ⟨o, ho, hz⟩ := Option.map_eq_some_iff.1 hz
   cases o with
   | none => simp at hz
   | some y =>
    simp only [Option.map_some, Option.some.injEq] at hz
    have hjl := (List.getElem?_eq_some_iff.1 ho).1
    rw [hsub _ hjl] at ho
    refine .inr ⟨_, y, hjl, ho, by rw [← hz], ?_, .inr ⟨a - mem.length, rfl, by omega, by rw [← hz]⟩⟩
    have := lN hjl
    rw [show mem.length + (a - mem.length) = a by omega] at this
    rw [← hz]; exact this
 have hblk : ∀ {j : Nat} {y : Box} {L : Loc} {B : Nat}, q[j]? = some (some y) → G3.loc j 0 = some L → L.blk = some B → Come G w mem ids B := by
  intro j y L B hy hl hB
  rw [← hgens j y hy] at hl
  exact hcome B (hM3.mine hy hl hB)
 have hother : ∀ {a : Nat} {z : Box} {L : Loc} {B : Nat}, a ∉ ids → mem[a]? = some (some z) → G.loc a z.gen = some L → L.blk = some B → ¬ Come G w mem ids B := by
  intro a z L B ha hz hl hB hc
  rcases hc with hc | ⟨b, x, L', hb, hx, hl', hB'⟩
  ·have := hM.blk_lt hz hl hB; omega
  ·have := hM.apart a b z x L L' B hz hx hl hl' hB hB'
   subst this; exact ha hb
 refine ⟨G', hv.ren (l := emptyN lent) hren (hp4 rfl) (fun hl => ?_), hGle, hEv, ?_⟩
 ·rcases hlent with h | ⟨h, _⟩
  ·exact h
  ·rw [h] at hl; cases hl
 refine ⟨fun a z hz => ?_, fun a g hz => ?_, fun a z g hz hlt => ?_, fun a a' z z' L L' B hz hz' hl hl' hk hk' => ?_, fun B hB => hM.own B (Nat.le_trans hEv.size hB), fun B o h => ?_, fun β B o h => ?_, hM.glob.mono (hGle.prot true) (hEv.prot true)⟩
 ·rcases hent a z hz with ⟨ha, hni, hz⟩ | ⟨j, y, hjs, hy, hze, hloc, _⟩
  ·have hbz := hM.box a z hz
   obtain ⟨o, hl, hm⟩ := hbz.loc
   refine ⟨hbz.e, o, by rw [lO ha hni]; exact hl, ?_⟩
   cases o with
   | none => exact hm
   | some B =>
    obtain ⟨h1, h2, h3, h4, h5⟩ := hm
    have hnc := hother hni hz hl rfl
    have hh : w'.heap[B]? = w.heap[B]? := hev.away B h2 hnc
    refine ⟨h1, Nat.lt_of_lt_of_le h2 hEv.size, h3.of_heap hh, h4.mono hGle hEv (fun o _ => zT hh o), fun hf β o hp => ?_⟩
    rcases hprle β B o hp with ⟨β', hp⟩ | hp
    ·exact h5 hf β' o hp
    ·exact hnc hp
  ·rw [hze]; exact hbox hjs hy hloc
 ·by_cases ha : a < mem.length
  ·by_cases hni : a ∈ ids
   ·obtain ⟨j, hj, rfl⟩ := List.getElem_of_mem hni
    have hjj := List.getElem?_eq_getElem hj
    cases hy : q[j]? with
    | none =>
     have := hql; have := (List.getElem?_eq_none_iff.1 hy); omega
    | some o =>
     cases o with
     | some y =>
      refine absurd ?_ (hz (backBox (renBack mem sub ids) mem ids[j] y))
      rw [List.getElem?_append_left (by rw [hlen]; exact ha)]
      exact zdc hn hjj hy ha
     | none =>
      show locOut G G3 mem q ids sub.length _ g = none
      unfold locOut
      rw [if_pos ha, zcr hn hjj]
      simp only [Nat.zero_add, hy]
      refine hM.unset _ g (fun x hx => ?_)
      obtain ⟨y, hy'⟩ := hq2 hjj hx
      rw [hy] at hy'; cases hy'
   ·rw [lO ha hni]
    refine hM.unset a g (fun x hx => hz x ?_)
    rw [List.getElem?_append_left (by rw [hlen]; exact ha), zbp (fun j y h1 _ => hni (List.mem_of_getElem? h1))]; exact hx
  ·show locOut G G3 mem q ids sub.length a g = none
   unfold locOut
   rw [if_neg ha]
   split
   ·rename_i hc
    refine hM3.unset _ 0 (fun x hx => ?_)
    refine hz { gen := 0, frz := x.frz, row := x.row.ren (renBack mem sub ids) } ?_
    rw [List.getElem?_append_right (by rw [hlen]; omega), hlen, zbb, List.getElem?_drop, hsub _ hc.2, hx]; rfl
   ·rfl
 ·rcases hent a z hz with ⟨ha, hni, hz⟩ | ⟨j, y, hjs, hy, hze, hloc, ⟨x, hj, hx, hge⟩ | ⟨i, rfl, rfl, h0⟩⟩
  ·rw [lO ha hni]; exact hM.gens a z g hz hlt
  ·have ha : a < mem.length := (List.getElem?_eq_some_iff.1 hx).1
   have hloc' := lB (f := fun _ _ => none) hj hy
   show locOut G G3 mem q ids sub.length a g = none
   unfold locOut
   rw [if_pos ha, zcr hn hj]
   simp only [Nat.zero_add, hy]
   have hzg : z.gen = (backBox (fun _ _ => none) mem a y).gen := by
    have hz2 := hz
    rw [List.getElem?_append_left (by rw [hlen]; exact ha), zdc hn hj hy ha] at hz2
    obtain rfl : backBox (renBack mem sub ids) mem a y = z := by simpa using hz2
    rfl
   rw [if_neg (by omega)]
   exact hM.gens a x g hx (by omega)
  ·show locOut G G3 mem q ids sub.length _ g = none
   unfold locOut
   rw [if_neg (by omega), if_neg (by omega)]
 ·rcases hent a z hz with ⟨ha, hni, hz⟩ | ⟨j, y, hjs, hy, hze, hloc, hw⟩
  ·rw [lO ha hni] at hl
   rcases hent a' z' hz' with ⟨ha', hni', hz'⟩ | ⟨j', y', hjs', hy', hze', hloc', hw'⟩
   ·rw [lO ha' hni'] at hl'
    exact hM.apart a a' z z' L L' B hz hz' hl hl' hk hk'
   ·rw [hloc'] at hl'
    exact absurd (hblk hy' hl' hk') (hother hni hz hl hk)
  ·rw [hloc] at hl
   rcases hent a' z' hz' with ⟨ha', hni', hz'⟩ | ⟨j', y', hjs', hy', hze', hloc', hw'⟩
   ·rw [lO ha' hni'] at hl'
    exact absurd (hblk hy hl hk) (hother hni' hz' hl' hk')
   ·rw [hloc'] at hl'
    have hjj := hM3.apart j j' y y' L L' B hy hy' (by rw [hgens j y hy]; exact hl) (by rw [hgens j' y' hy']; exact hl') hk hk'
    subst hjj
    rcases hw with ⟨x, hj, _⟩ | ⟨i, hi, rfl, _⟩
    ·rcases hw' with ⟨x', hj', _⟩ | ⟨i', hi', rfl, _⟩
     ·rw [hj] at hj'; exact Option.some.inj hj'
     ·have := (List.getElem?_eq_some_iff.1 hj).1; omega
    ·rcases hw' with ⟨x', hj', _⟩ | ⟨i', hi', rfl, _⟩
     ·have := (List.getElem?_eq_some_iff.1 hj').1; omega
     ·omega
 ·show pr true B o
  have h' : pr false B o := h
  simp only [pr, Bool.false_eq_true, if_false] at h'
  simp only [pr, if_true]
  split
  ·exact h4lab B o h'
  ·exact .inr h'
 ·obtain ⟨β', hp'⟩ := hpr4 β B o h
  rcases h4n β' B o hp' with hp' | ⟨b, x, L, hb, hx, hL, hB⟩
  ·exact hM3.away β' B o hp'
  ·exact hM3.blk_lt hx hL hB
end
end Go.Ab
end
section
/- Calls. -/
set_option linter.unusedVariables false
set_option linter.unusedSectionVars false
set_option linter.unusedSimpArgs false
namespace Go.Ab
variable [GTab]
section
variable {P : Program}
theorem VRs.append {G : Gh} {w : World} {a b : List AV} {u v : Array Value} (h : VRs G w a u) (h' : VRs G w b v) : VRs G w (a ++ b) (u ++ v) := by
 refine ⟨by simp [h.1, h'.1], fun j y hy => ?_⟩
 by_cases hj : j < a.length
 ·rw [List.getElem?_append_left hj] at hy
  have := h.2 j y hy
  rw [Array.getD_eq_getD_getElem?, Array.getElem?_append_left (by rw [← h.1]; exact hj), ← Array.getD_eq_getD_getElem?]; exact this
 ·rw [List.getElem?_append_right (by omega)] at hy
  have := h'.2 _ y hy
  rw [Array.getD_eq_getD_getElem?, Array.getElem?_append_right (by rw [← h.1]; omega), ← h.1, ← Array.getD_eq_getD_getElem?]; exact this
theorem VRs.renAll {G G2 : Gh} {w : World} {f : Ren} {as : List AV} {vs : Array Value} (h : VRs G w as vs) (hr : RenOk G G2 f) (hp : ∀ β B o, G.prot β B o → G2.prot β B o) : VRs G2 w (AV.renAll f as) vs := by
 refine ⟨by rw [zV]; simpa using h.1, fun j y hy => ?_⟩
 obtain ⟨x, hx, rfl⟩ := zcd hy
 exact (h.2 j x hx).ren (l := true) hr (fun β B o _ => hp β B o) (fun _ => rfl)
theorem zkM {C : Oracle} (hC : OracleOK P C) {G : Gh} {w : World} {mem : Mem} (hM : MemR G w mem) {raw keep : Bool} {g : FuncId} {ts : List TypeId} {fi args ca : List AV} {out : Out} {fv av cv : Array Value}
  (h : callA P C raw keep g ts fi args ca mem = some out) (hf : VRs G w fi fv) (ha : VRs G w args av) (hc : VRs G w ca cv) : CallsW P G w mem g (fv ++ av ++ cv) out := by
 unfold callA at h
 rw [bind_some] at h; obtain ⟨la, hla, h⟩ := h
 simp only at h
 generalize hids : reach mem (reachFuel mem (AV.refsAll (fi ++ la.1 ++ ca)).length) (AV.refsAll (fi ++ la.1 ++ ca)) [] = ids at h
 rw [za] at h; obtain ⟨hg, h⟩ := h
 simp only [Bool.and_eq_true] at hg
 obtain ⟨hn, hd⟩ := hg
 rw [bind_some] at h; obtain ⟨q, hq, h⟩ := h
 rw [za] at h; obtain ⟨hg, h⟩ := h
 simp only [Bool.and_eq_true, Bool.or_eq_true, Bool.not_eq_true', Bool.or_eq_false_iff] at hg
 obtain ⟨hml, hlent⟩ := hg
 have hml := bleN.1 hml
 have hgl := Gle.lend G (InBoxes G mem la.2) hM.inBoxes
 have hla' := zkt (us := av.toList) (S := la.2) hM hla ⟨by simpa using ha.1, fun j y hy => by rw [zJ]; exact ha.2 j y hy⟩ (fun b h => h)
 have hall : VRs (G.lend (InBoxes G mem la.2)) w (fi ++ la.1 ++ ca) (fv ++ av ++ cv) :=
  ((hf.mono hgl (Ev.refl G w)).append ⟨by simpa using hla'.1, fun j y hy => by rw [← zJ]; exact hla'.2 j y hy⟩).append (hc.mono hgl (Ev.refl G w))
 have hM1 := zoU (lent := la.2) hM hn hd
 have hargs : VRs (callG G w mem ids la.2) w (AV.renAll (renTo mem ids) (fi ++ la.1 ++ ca)) (fv ++ av ++ cv) := hall.renAll (zgu (G := G.lend (InBoxes G mem la.2)) rfl) (fun _ _ _ h => h)
 obtain ⟨hen, hcl⟩ := hC g _ _ q hq _ w _ hM1 (fun j x hx => by obtain ⟨b, y, _, _, rfl⟩ := zan hx; rfl) hargs
 refine ⟨hen, Calls.mono hcl fun e w' he => ?_⟩
 obtain ⟨G3, qv, rfl, hR⟩ := he
 obtain ⟨qr, qm⟩ := q
 simp only at h hlent hml hR
 have hR' := hR
 obtain ⟨hv3, hev, hmine3, hprot3, hnew3, hM3, hgens, hkept, hnones⟩ := hR'
 simp only at hv3 hM3
 have hl3 : ∀ B o, G3.prot false B o → G3.prot true B o := hM3.lab
 cases hcd : (allLt ids.length (bif raw then qr else frzRes ids.length qm qr).refs && allLt ids.length (memRefs (List.take ids.length qm))) with
 | true =>
  rw [hcd] at h; simp only [cond_true] at h
  obtain rfl := Option.some.inj h
  have htl : (qm.take ids.length).length = ids.length := by simp; omega
  have key : ∃ r, r = (bif raw then qr else frzRes ids.length qm qr) ∧ VR (G3.frz (NewBlk G3 qm ids.length)) w' r qv ∧ (qr.lent = false ∧ memLent qm = false → r.lent = false) := by
   cases raw with
   | true => exact ⟨_, rfl, hv3.mono (Gle.frz G3 _ (by rintro B o ⟨b, x, L, _, hx, hl, hB⟩; exact hM3.mine hx hl hB)) (Ev.refl G3 w'), fun h => h.1⟩
   | false => exact ⟨_, rfl, ziX hM3 hv3, fun h => zkA h.2 h.1⟩
  obtain ⟨r, hr, hvr, hrl⟩ := key
  obtain ⟨G', hv', hgle, hEv, hM'⟩ := zkJ (sub := qm.take ids.length) (lent := la.2) (r := r) (cv := qv) hM hn hd hR (hlent.imp id (fun h => ⟨hrl h, h.2⟩)) hvr rfl rfl (fun _ _ _ h => .inl h)
   (fun β B o h => by rw [htl]; exact h) (fun B o h => h.imp (hl3 B o) id) (fun j hj => by rw [htl] at hj; rw [List.getElem?_take, if_pos hj]) (by omega) (by omega)
  refine ⟨G', qv, rfl, by rw [← hr]; exact hv', hgle, hEv, ?_⟩
  have hnil : (qm.take ids.length).drop ids.length = [] := List.drop_eq_nil_of_le (by omega)
  rw [hnil] at hM'
  exact hM'
 | false =>
  rw [hcd] at h; simp only [cond_false] at h
  obtain rfl := Option.some.inj h
  obtain ⟨G', hv', hgle, hEv, hM'⟩ := zkJ (sub := qm) (lent := la.2) (r := qr) (cv := qv) hM hn hd hR hlent hv3 rfl rfl (fun _ _ _ h => h)
   (fun β B o h => .inl h) hl3 (fun j hj => rfl) hml (Nat.le_refl _)
  exact ⟨G', qv, rfl, hv', hgle, hEv, hM'⟩
end
end Go.Ab
end
section
/- Regions in their order; code; functions. -/
set_option linter.unusedVariables false
set_option linter.unusedSectionVars false
set_option linter.unusedSimpArgs false
namespace Go.Ab
variable [GTab]
structure SR (G : Gh) (w : World) (st : St) (a : Act) : Prop where
 memr : MemR G w st.mem
 len : st.tmps.length = a.tmps.size
 tmps : ∀ (j : Nat) (x : AV), st.tmps[j]? = some x → isGone x = true ∨ VR G w x (a.tmps.getD j undef)
 defers : a.defers = []
structure Inv (G0 : Gh) (w0 : World) (old : List (Option Bool)) (G : Gh) (w : World) : Prop where
 ev : Ev G0 w0 w
 mine : G.mine = G0.mine
 prot : ∀ β B o, G0.prot β B o → G.prot β B o
 new : ∀ β B o, G.prot β B o → G0.prot β B o ∨ G0.mine B
 keep : ∀ j, old[j]? = some (some true) → ∀ L, G0.loc j 0 = some L → G.loc j 0 = some L
theorem Inv.refl (G : Gh) (w : World) (old : List (Option Bool)) : Inv G w old G w := ⟨Ev.refl G w, rfl, fun _ _ _ h => h, fun _ _ _ h => .inl h, fun _ _ _ h => h⟩
theorem Inv.step {G0 : Gh} {w0 : World} {old : List (Option Bool)} {G G' : Gh} {w w' : World} (h : Inv G0 w0 old G w) (hg : Gle G G') (he : Ev G w w') : Inv G0 w0 old G' w' where
 ev :=
  ⟨Nat.le_trans h.ev.size he.size, he.out.trans h.ev.out, he.os.trans h.ev.os, fun B hb hm => (he.away B (Nat.lt_of_lt_of_le hb h.ev.size) (by rw [h.mine]; exact hm)).trans (h.ev.away B hb hm),
   fun B o x => he.some B o (h.ev.some B o x), fun β B o x => (he.prot β B o (h.prot _ _ _ x)).trans (h.ev.prot β B o x), fun B o x => (he.fz B o (h.ev.some B o x)).trans (h.ev.fz B o x), he.tape.trans h.ev.tape⟩
 mine := hg.mine.trans h.mine
 prot β B o x := hg.prot _ _ _ (h.prot _ _ _ x)
 new β B o x := (hg.new _ _ _ x).elim (h.new _ _ _) (fun y => .inr (by rw [← h.mine]; exact y))
 keep j hj L hL := hg.loc _ _ _ (h.keep j hj L hL)
theorem zmn {tmps : List AV} {t : Nat} {v : AV} (h : getT tmps t = some v) : tmps[t]? = some v ∧ isGone v = false := by
 unfold getT at h
 rw [zq] at h
 rw [bind_some] at h; obtain ⟨u, hu, h⟩ := h
 cases hg : isGone u with
 | true => rw [hg] at h; simp at h
 | false => rw [hg] at h; simp only [cond_false] at h; obtain rfl := Option.some.inj h; exact ⟨hu, hg⟩
section
variable {P : Program}
theorem SR.get {G : Gh} {w : World} {st : St} {a : Act} (h : SR G w st a) {t : Nat} {v : AV} (ht : getT st.tmps t = some v) : VR G w v (a.tmps.getD t undef) := by
 obtain ⟨h1, h2⟩ := zmn ht
 rcases h.tmps t v h1 with h3 | h3
 ·rw [h2] at h3; cases h3
 ·exact h3
theorem zlt {G : Gh} {w : World} {mem : Mem} (hM : MemR G w mem) {g : Nat} {q : Int × Int} (h : GTab.tab g = some q) : VR G w (.el true (.agg [.lit (.int .i64 q.1), .lit (.int .i64 q.2)]) 0) (.pointer (some ⟨g, 0, none⟩)) := by
 obtain ⟨⟨h1, h2⟩, h3, h4⟩ := hM.glob g q h
 refine .el true _ 0 g 0 (fun j => if j = 0 then .int .i64 q.1 else .int .i64 q.2) (fun j y hy => ?_) (fun j y hy => ?_)
 ·match j, hy with
  | 0, hy => exact ⟨h1, h2⟩
  | 1, hy => exact ⟨h3, h4⟩
 ·match j, hy with
  | 0, hy => obtain rfl := Option.some.inj hy; exact .lit _ rfl
  | 1, hy => obtain rfl := Option.some.inj hy; exact .lit _ rfl
theorem SR.eval {G : Gh} {w : World} {st : St} {a : Act} (h : SR G w st a) : EvR G w (evalA st.tmps) a := by
 intro x v hx
 cases x with
 | tmp t => exact h.get hx
 | const c => exact zbT hx
 | func f =>
  obtain rfl := Option.some.inj hx
  exact .fn (.func f) [] [] #[] #[] rfl rfl (fun j y hy => by simp at hy) (fun j y hy => by simp at hy)
 | global g =>
  simp only [evalA] at hx
  obtain ⟨q, hq, rfl⟩ := Option.map_eq_some_iff.1 hx
  exact zlt h.memr hq
theorem zkp (a : Act) (dst : Option Tmp) (v : Value) : (a.put dst v).defers = a.defers ∧ (a.put dst v).tmps.size = a.tmps.size := by
 cases dst <;> simp [Act.put]
theorem SR.put {G G' : Gh} {w w' : World} {st : St} {a : Act} {dst : Option Tmp} {v : AV} {cv : Value} {mem' : Mem} (h : SR G w st a) (hg : Gle G G') (he : Ev G w w') (hv : VR G' w' v cv) (hM : MemR G' w' mem') :
  SR G' w' { tmps := putA st.tmps dst v, mem := mem' } (a.put dst cv) := by
 refine ⟨hM, ?_, fun j x hx => ?_, by rw [(zkp a dst cv).1]; exact h.defers⟩
 ·rw [(zkp a dst cv).2, ← h.len]
  cases dst <;> simp [putA, zS]
 ·cases dst with
  | none => exact (h.tmps j x hx).imp id (fun h => h.mono hg he)
  | some d =>
   simp only [putA, zS] at hx
   simp only [Act.put]
   by_cases hj : j = d
   ·subst hj
    have hjl : j < st.tmps.length := by have := (List.getElem?_eq_some_iff.1 hx).1; simpa using this
    rw [List.getElem?_set_self hjl] at hx
    obtain rfl := Option.some.inj hx
    right
    rw [Array.getD_eq_getD_getElem?, Array.getElem?_setIfInBounds_self_of_lt (by rw [← h.len]; exact hjl)]
    exact hv
   ·rw [List.getElem?_set_ne (fun e => hj e.symm)] at hx
    refine (h.tmps j x hx).imp id (fun h => ?_)
    rw [Array.getD_eq_getD_getElem?, Array.getElem?_setIfInBounds_ne (fun e => hj e.symm), ← Array.getD_eq_getD_getElem?]
    exact h.mono hg he
theorem MemR.congr {G : Gh} {w : World} {mem mem' : Mem} (hM : MemR G w mem) (h : ∀ (b : Nat) (x : Box), mem'[b]? = some (some x) ↔ mem[b]? = some (some x)) : MemR G w mem' :=
 ⟨fun b x hx => hM.box b x ((h b x).1 hx), fun b g hx => hM.unset b g (fun x hx' => hx x ((h b x).2 hx')), fun b x g hx => hM.gens b x g ((h b x).1 hx),
  fun b b' x x' L L' B hx hx' => hM.apart b b' x x' L L' B ((h b x).1 hx) ((h b' x').1 hx'), hM.own, hM.lab, hM.away, hM.glob⟩
theorem zjX : ∀ {m : Mem} {b : Nat} {x : Box}, (trim m)[b]? = some (some x) ↔ m[b]? = some (some x)
 | [], b, x => by simp [trim]
 | y :: m, b, x => by
  have ih := fun b => zjX (m := m) (b := b) (x := x)
  simp only [trim]
  split
  ·rename_i hn
   rw [hn] at ih
   have hno : ∀ b : Nat, m[b]? ≠ some (some x) := fun b hb => by have := (ih b).2 hb; simp at this
   cases y with
   | none =>
    simp only [isNew, cond_true]
    cases b with
    | zero => simp
    | succ b => simp [hno b]
   | some y =>
    simp only [isNew, cond_false]
    cases b with
    | zero => simp
    | succ b => simp [hno b]
  ·rename_i z hz
   cases b with
   | zero => simp
   | succ b => simp only [List.getElem?_cons_succ]; exact ih b
theorem zmz {mem : Mem} {rs : Nat} : isRes mem rs = true ↔ mem[rs]? = some none := by
 unfold isRes
 split
 ·rename_i h; simp [h]
 ·rename_i h; constructor
  ·intro h'; cases h'
  ·intro h'; exact absurd h' h
inductive OStep (P : Program) (C : Oracle) (an : Ann) (rid : Nat) (ops : Array Oper) (o : Oper) (i rs : Nat) (st : St) : St → Option Tr → Prop
 | run (out : Out) (st1 : St) (hst : st1.mem = st.mem ∧ ∀ t : Nat, st1.tmps[t]? = st.tmps[t]?) (hres : makes o.op = true → isRes st.mem rs = true) (h : opA P C (hasPair rid i an.boxed) (hasPair rid i an.raw) (hasPair rid i an.vars) o (evalA st1.tmps) st1.mem rs = some out)
   (hg : ∀ j want, o.guard = some (j, want) → ∃ d, (ops[j]?).bind (·.dst) = some d ∧ st.tmps[d]? = some (.lit (.bool want))) :
   OStep P C an rid ops o i rs st { tmps := putA st1.tmps o.dst out.v, mem := out.apply st1.mem } (some (out.tr (makes o.op) rs i o.op st1.mem))
 | skip (st1 : St) (hst : st1.mem = st.mem ∧ ∀ t : Nat, st1.tmps[t]? = st.tmps[t]?) (j : Nat) (want : Bool) (d : Nat) (hg : o.guard = some (j, want)) (hd : (ops[j]?).bind (·.dst) = some d)
   (h : st.tmps[d]? = some (.lit (.bool (!want))) ∨ ∃ x, st.tmps[d]? = some (.lit (.tuple x))) : OStep P C an rid ops o i rs st { tmps := putA st1.tmps o.dst (.lit undef), mem := st1.mem } none
theorem znx {tmps : List AV} {d : Nat} {v : AV} (h : tmps[d]? = some v) : ∀ t : Nat, (tmps.set d v)[t]? = tmps[t]? := by
 intro t
 by_cases e : t = d
 ·subst e; rw [List.getElem?_set_self (List.getElem?_eq_some_iff.1 h).1, h]
 ·rw [List.getElem?_set_ne (fun x => e x.symm)]
variable {R : Type}
theorem zjM {h : Option Int} {v : AV} {k : AV → Option R} {r : R} (hh : hintOk h v k = some r) : k v = some r := by
 unfold hintOk at hh
 split at hh
 ·exact hh
 ·split at hh
  ·rw [za] at hh
   rw [decide_eq_true_eq] at hh
   rw [hh.1]; exact hh.2
  ·rename_i x _ b
   cases hx : decide (x = 0) with
   | true =>
    rw [hx] at hh; simp only [cond_true] at hh
    rw [za] at hh
    cases b with
    | false => exact hh.2
    | true => simp at hh
   | false =>
    rw [hx] at hh; simp only [cond_false] at hh
    rw [za] at hh
    cases b with
    | true => exact hh.2
    | false => simp at hh
  ·exact hh
theorem zix {C : Oracle} {an : Ann} {rid : Nat} {ops : Array Oper} {o : Oper} {rest : List Oper} {i rs : Nat} {st : St} {tr : List Tr} {k : St → List Tr → Option R} {r : R}
  (h : opsA P C an rid (ops.toList.map (·.dst)) (o :: rest) i rs st tr k = some r) :
  ∃ st' t, OStep P C an rid ops o i rs st st' t ∧ opsA P C an rid (ops.toList.map (·.dst)) rest (i + 1) (bif makes o.op then rs + 1 else rs) st' (t.toList ++ tr) k = some r := by
 simp only [opsA, zq, zS] at h
 have hds : ∀ {j : Nat} {d : Nat}, (ops.toList.map (·.dst))[j]? = some (some d) → (ops[j]?).bind (·.dst) = some d := by
  intro j d hj
  rw [List.getElem?_map] at hj
  obtain ⟨x, hx, hd⟩ := Option.map_eq_some_iff.1 hj
  rw [Array.getElem?_toList] at hx
  rw [hx]; exact hd
 have hrun : ∀ (st1 : St), (st1.mem = st.mem ∧ ∀ t : Nat, st1.tmps[t]? = st.tmps[t]?) → (∀ j want, o.guard = some (j, want) → ∃ d, (ops[j]?).bind (·.dst) = some d ∧ st.tmps[d]? = some (.lit (.bool want))) →
   guardB (bif makes o.op then isRes st1.mem rs else true) ((opA P C (hasPair rid i an.boxed) (hasPair rid i an.raw) (hasPair rid i an.vars) o (evalA st1.tmps) st1.mem rs).bind fun out =>
    hintOk (hintAt rid i an.hint) out.v fun v => opsA P C an rid (ops.toList.map (·.dst)) rest (i + 1) (bif makes o.op then rs + 1 else rs) { tmps := putA st1.tmps o.dst v, mem := out.apply st1.mem } (out.tr (makes o.op) rs i o.op st1.mem :: tr) k) = some r →
   ∃ st' t, OStep P C an rid ops o i rs st st' t ∧ opsA P C an rid (ops.toList.map (·.dst)) rest (i + 1) (bif makes o.op then rs + 1 else rs) st' (t.toList ++ tr) k = some r := by
  intro st1 hst hg h
  rw [za] at h; obtain ⟨hr, h⟩ := h
  rw [bind_some] at h; obtain ⟨out, hout, h⟩ := h
  have h := zjM h
  refine ⟨_, _, .run out st1 hst (fun hm => ?_) hout hg, by simpa using h⟩
  rw [hm] at hr; rw [← hst.1]; exact hr
 have hskip : ∀ (st1 : St), (st1.mem = st.mem ∧ ∀ t : Nat, st1.tmps[t]? = st.tmps[t]?) → ∀ (j : Nat) (want : Bool) (d : Nat), o.guard = some (j, want) → (ops[j]?).bind (·.dst) = some d → (st.tmps[d]? = some (.lit (.bool (!want))) ∨ ∃ x, st.tmps[d]? = some (.lit (.tuple x))) →
   opsA P C an rid (ops.toList.map (·.dst)) rest (i + 1) (bif makes o.op then rs + 1 else rs) { tmps := putA st1.tmps o.dst (.lit undef), mem := st1.mem } tr k = some r →
   ∃ st' t, OStep P C an rid ops o i rs st st' t ∧ opsA P C an rid (ops.toList.map (·.dst)) rest (i + 1) (bif makes o.op then rs + 1 else rs) st' (t.toList ++ tr) k = some r := by
  intro st1 hst j want d hg hd hh h
  exact ⟨_, _, .skip st1 hst j want d hg hd hh, by simpa using h⟩
 have hset : ∀ {d : Nat} {v : AV}, st.tmps[d]? = some v → (({ st with tmps := st.tmps.set d v } : St).mem = st.mem ∧ ∀ t : Nat, ({ st with tmps := st.tmps.set d v } : St).tmps[t]? = st.tmps[t]?) := fun h => ⟨rfl, znx h⟩
 split at h
 ·rename_i hg
  exact hrun st ⟨rfl, fun _ => rfl⟩ (fun j want h => by rw [hg] at h; cases h) h
 ·rename_i j want hg
  split at h
  ·rename_i d hd
   have hd' := hds hd
   split at h
   ·rename_i b hb
    cases b with
    | true =>
     simp only [cond_true] at h
     cases want with
     | true => simp only [cond_true, cond_false] at h; exact hrun _ (hset hb) (fun j' want' h' => by rw [hg] at h'; obtain ⟨rfl, rfl⟩ := Prod.mk.inj (Option.some.inj h'); exact ⟨d, hd', hb⟩) h
     | false => simp only [cond_true, cond_false] at h; exact hskip _ (hset hb) j false d hg hd' (.inl hb) h
    | false =>
     simp only [cond_false] at h
     cases want with
     | true => simp only [cond_true, cond_false] at h; exact hskip _ (hset hb) j true d hg hd' (.inl hb) h
     | false => simp only [cond_true, cond_false] at h; exact hrun _ (hset hb) (fun j' want' h' => by rw [hg] at h'; obtain ⟨rfl, rfl⟩ := Prod.mk.inj (Option.some.inj h'); exact ⟨d, hd', hb⟩) h
   ·rename_i x hx
    exact hskip st ⟨rfl, fun _ => rfl⟩ j want d hg hd' (.inr ⟨x, hx⟩) h
   ·simp at h
  ·simp at h
theorem SR.same {G : Gh} {w : World} {st st1 : St} {a : Act} (h : SR G w st a) (hst : st1.mem = st.mem ∧ ∀ t : Nat, st1.tmps[t]? = st.tmps[t]?) : SR G w st1 a := by
 refine ⟨by rw [hst.1]; exact h.memr, ?_, fun j x hx => h.tmps j x (by rw [← hst.2]; exact hx), h.defers⟩
 rw [← h.len]
 rcases Nat.lt_trichotomy st1.tmps.length st.tmps.length with hlt | he | hlt
 ·have := hst.2 st1.tmps.length
  rw [List.getElem?_eq_none (Nat.le_refl _), List.getElem?_eq_getElem hlt] at this; cases this
 ·exact he
 ·have := hst.2 st.tmps.length
  rw [List.getElem?_eq_none (Nat.le_refl _), List.getElem?_eq_getElem hlt] at this; cases this
theorem SR.lit {G : Gh} {w : World} {st : St} {a : Act} (h : SR G w st a) {d : Nat} {v : Value} (hd : st.tmps[d]? = some (.lit v)) : a.tmps[d]? = some v := by
 have hl : d < a.tmps.size := by rw [← h.len]; exact (List.getElem?_eq_some_iff.1 hd).1
 rcases h.tmps d _ hd with h1 | h1
 ·simp [isGone] at h1
 ·have := h1.lit_inv
  rw [Array.getD_eq_getD_getElem?, Array.getElem?_eq_getElem hl] at this
  rw [Array.getElem?_eq_getElem hl]; simpa using this
theorem OStep.sound {C : Oracle} (hC : OracleOK P C) {an : Ann} {rid : Nat} {ops : Array Oper} {o : Oper} {i rs : Nat} {st st' : St} {t : Option Tr} {G : Gh} {w : World} {a : Act} (hi : ops[i]? = some o)
  (h : OStep P C an rid ops o i rs st st' t) (hS : SR G w st a) (K : Act → World → Prop) (Q : Exit → Act → World → Prop) (hK : ∀ G' w' a', Gle G G' → Ev G w w' → SR G' w' st' a' → K a' w') : wpOp P ops Q i K a w := by
 unfold wpOp
 simp only [hi]
 cases h with
 | run out st1 hst hres ho hg =>
  have hS1 := hS.same hst
  have hw : Region.wanted o (yielded ops a.tmps) = true := by
   unfold Region.wanted
   cases hgo : o.guard with
   | none => rfl
   | some q =>
    obtain ⟨j, want⟩ := q
    obtain ⟨d, hd, hb⟩ := hg j want hgo
    have := hS.lit hb
    simp [yielded, hd, this]
  rw [if_pos hw]
  left
  exact zmB hS1.memr (fun hm => by rw [hst.1]; exact zmz.1 (hres hm)) hS1.eval (fun hc hf ha hcv => zkM hC hS1.memr hc hf ha hcv) ho K Q
   (fun G' w' cv hv hgl hev hM' => hK G' w' _ hgl hev (hS1.put hgl hev hv hM'))
 | skip st1 hst j want d hg hd h =>
  have hS1 := hS.same hst
  have hw : Region.wanted o (yielded ops a.tmps) = false := by
   unfold Region.wanted
   simp only [hg]
   rcases h with hb | ⟨x, hb⟩
   ·have := hS.lit hb
    cases want <;> simp [yielded, hd, this]
   ·have := hS.lit hb
    simp [yielded, hd, this]
  rw [hw]
  simp only [Bool.false_eq_true, if_false]
  exact hK G w _ (Gle.refl G) (Ev.refl G w) (hS1.put (Gle.refl G) (Ev.refl G w) (.lit _ rfl) hS1.memr)
theorem zha {C : Oracle} (hC : OracleOK P C) {an : Ann} {rid : Nat} {ops : Array Oper} {k : St → List Tr → Option R} {r : R} {Q : Exit → Act → World → Prop} {G0 : Gh} {w0 : World} {old : List (Option Bool)} :
  ∀ {rest : List Oper} {i rs : Nat} {st : St} {tr : List Tr} {G : Gh} {w : World} {a : Act}, ops.toList.drop i = rest → opsA P C an rid (ops.toList.map (·.dst)) rest i rs st tr k = some r → SR G w st a → Inv G0 w0 old G w →
   (∀ st' tr' G' w' a', k st' tr' = some r → SR G' w' st' a' → Inv G0 w0 old G' w' → Q .normal a' w') → wpOps P ops Q (List.range' i rest.length) a w
 | [], i, rs, st, tr, G, w, a, hd, h, hS, hI, hk => by
  simp only [opsA] at h
  exact hk st tr G w a h hS hI
 | o :: rest, i, rs, st, tr, G, w, a, hd, h, hS, hI, hk => by
  obtain ⟨st', t, hst, h'⟩ := zix h
  have hi : ops[i]? = some o := by
   have : (ops.toList.drop i)[0]? = some o := by rw [hd]; rfl
   rw [List.getElem?_drop, Nat.add_zero, Array.getElem?_toList] at this; exact this
  rw [List.length_cons, List.range'_succ, wpOps_cons]
  refine hst.sound hC hi hS _ _ (fun G' w' a' hg he hS' => ?_)
  exact zha hC (by rw [← List.drop_drop, hd]; rfl) h' hS' (hI.step hg he) hk
end
end Go.Ab
end
section
/- Code, functions, calls of calls. -/
set_option linter.unusedVariables false
set_option linter.unusedSectionVars false
set_option linter.unusedSimpArgs false
namespace Go.Ab
variable [GTab]
theorem zhz {p : Nat → Prop} (h : ∃ n, p n) : ∃ n, p n ∧ ∀ m, p m → n ≤ m := by
 obtain ⟨n, hn⟩ := h
 induction n using Nat.strongRecOn with
 | _ n ih =>
  by_cases hm : ∃ m, m < n ∧ p m
  ·obtain ⟨m, hlt, hm⟩ := hm; exact ih m hlt hm
  ·exact ⟨n, hn, fun m hpm => Nat.le_of_not_lt fun hlt => hm ⟨m, hlt, hpm⟩⟩
section
variable {P : Program}
theorem zjy {c : Code} {Q : Exit → Act → World → Prop} {a : Act} {w : World} (I : Nat → Act → World → Prop) {n : Nat} (h0 : I n a w)
  (round : ∀ n a w, I n a w → c.wp P (Exit.then (fun a' w' => ∃ m, m < n ∧ I m a' w') Q) a w) : (Code.loop c).wp P Q a w := by
 refine wp_loop (fun a w => ∃ n, I n a w) (fun a w => Classical.epsilon fun n => I n a w ∧ ∀ m, I m a w → n ≤ m) ⟨n, h0⟩ fun a w hI => ?_
 have hmin := Classical.epsilon_spec (zhz hI)
 refine wp_mono (round _ a w hmin.1) fun e a' w' he => ?_
 cases e <;> try exact he
 obtain ⟨m, hlt, hm⟩ := he
 have hmin' := Classical.epsilon_spec (zhz (p := fun n => I n a' w') ⟨m, hm⟩)
 exact ⟨⟨m, hm⟩, Nat.lt_of_le_of_lt (hmin'.2 m hm) hlt⟩
def Ex.to : Ex → Exit
 | .normal => .normal
 | .exit id => .exit id
 | .ret => .ret
theorem zfq : ∀ {live : List Nat} {vs : List AV} {i j : Nat}, (clearTo live vs i)[j]? = (vs[j]?).map fun v => bif memN (i + j) live then v else .goneV
 | live, [], i, j => by simp [clearTo]
 | live, v :: r, i, 0 => by simp [clearTo]
 | live, v :: r, i, j + 1 => by simp only [clearTo, List.getElem?_cons_succ]; rw [zfq (vs := r), show i + 1 + j = i + (j + 1) by omega]
theorem zkY {G0 : Gh} {w0 : World} {old : List (Option Bool)} {live : List Nat} {st st1 : St} {G : Gh} {w : World} {a : Act} (h : headA old live st = some st1) (hS : SR G w st a) (hI : Inv G0 w0 old G w) :
  ∃ G1, SR G1 w st1 a ∧ Inv G0 w0 old G1 w := by
 unfold headA at h
 obtain ⟨q, hq, rfl⟩ := Option.map_eq_some_iff.1 h
 obtain ⟨f, G2, hr, hm, hp, hM, hren, hk, _, _, _⟩ := zcQ hS.memr hq
 refine ⟨G2, ⟨hM, ?_, fun j x hx => ?_, hS.defers⟩, ⟨hI.ev, hm.trans hI.mine, fun β B o h => by rw [hp]; exact hI.prot β B o h, fun β B o h => hI.new β B o (by rw [hp] at h; exact h), fun j hj L hL => hk j hj L (hI.keep j hj L hL)⟩⟩
 ·simp only [hr, zV, List.length_map]
  rw [← hS.len]
  have : ∀ (vs : List AV) i, (clearTo live vs i).length = vs.length := by
   intro vs; induction vs with
   | nil => intro i; rfl
   | cons v r ih => intro i; simp [clearTo, ih]
  exact this _ _
 ·simp only [hr] at hx
  obtain ⟨y, hy, rfl⟩ := zcd hx
  rw [zfq] at hy
  obtain ⟨z, hz, rfl⟩ := Option.map_eq_some_iff.1 hy
  cases hmn : memN (0 + j) live with
  | false => left; rfl
  | true =>
   simp only [cond_true]
   rcases hS.tmps j z hz with h | h
   ·left
    unfold isGone at h
    split at h
    ·rfl
    ·cases h
   ·right; exact h.ren (l := true) hren (fun β B o _ hb => by rw [hp]; exact hb) (fun _ => rfl)
variable {R : Type}
def DrawsOK (P : Program) (C : Oracle) (an : Ann) : Prop := ∀ (R : Type) (rid : Nat) (ops : Array Oper) (st : St) (k : St → Option R) (r : R) (G0 : Gh) (w0 : World) (old : List (Option Bool)) (G : Gh) (w : World) (a : Act) (Q : Exit → Act → World → Prop),
 regionA P C an rid ops true st k = some r → SR G w st a → Inv G0 w0 old G w → (∀ st' G' w' a', k st' = some r → SR G' w' st' a' → Inv G0 w0 old G' w' → Q .normal a' w') → (Code.region rid ops true).wp P Q a w
theorem zfT {m : Mem} {n b : Nat} {x : Box} : (m ++ List.replicate n none)[b]? = some (some x) ↔ m[b]? = some (some x) := by
 by_cases hb : b < m.length
 ·rw [List.getElem?_append_left hb]
 ·rw [List.getElem?_append_right (by omega), List.getElem?_replicate]
  constructor
  ·intro h; split at h <;> simp at h
  ·intro h; rw [List.getElem?_eq_none (by omega)] at h; cases h
theorem SR.widen {G : Gh} {w : World} {st : St} {a : Act} (h : SR G w st a) (n : Nat) : SR G w { st with mem := st.mem ++ List.replicate n none } a :=
 ⟨h.memr.congr fun b x => zfT, h.len, h.tmps, h.defers⟩
theorem SR.trim {G : Gh} {w : World} {st : St} {a : Act} (h : SR G w st a) : SR G w { st with mem := trim st.mem } a :=
 ⟨h.memr.congr fun b x => zjX, h.len, h.tmps, h.defers⟩
theorem zjk {C : Oracle} (hC : OracleOK P C) {an : Ann} (hD : DrawsOK P C an) {rid : Nat} {ops : Array Oper} {draw : Bool} {st : St} {k : St → Option R} {r : R} {G0 : Gh} {w0 : World} {old : List (Option Bool)} {G : Gh} {w : World} {a : Act}
  {Q : Exit → Act → World → Prop} (h : regionA P C an rid ops draw st k = some r) (hS : SR G w st a) (hI : Inv G0 w0 old G w) (hk : ∀ st' G' w' a', k st' = some r → SR G' w' st' a' → Inv G0 w0 old G' w' → Q .normal a' w') :
  (Code.region rid ops draw).wp P Q a w := by
 cases draw with
 | true => exact hD R rid ops st k r G0 w0 old G w a Q h hS hI hk
 | false =>
  unfold regionA at h
  apply wp_region
  have := zha (Q := Q) (G0 := G0) (w0 := w0) (old := old) hC (ops := ops) (rest := ops.toList) (i := 0) (by simp) h (hS.widen _) hI (fun st' tr' G' w' a' hk' hS' hI' => by
   rw [za] at hk'
   exact hk _ G' w' a' hk'.2 hS'.trim hI')
  rw [List.range_eq_range']
  simpa using this
theorem zjH {α : Type} {a b : Option α} {r : α} (h : amb a b = some r) : a = some r ∧ b = some r := by
 unfold amb at h
 split at h
 ·rename_i e; exact ⟨h, e ▸ h⟩
 ·cases h
theorem VR.unk_inv {G : Gh} {w : World} {v : Value} (h : VR G w (.imm true (.lit (.bool false))) v) : ∃ b, v = .bool b := by
 cases h with
 | imm _ _ _ _ hs => cases hs
 | unkB b => exact ⟨b, rfl⟩
theorem zbD {C : Oracle} (hC : OracleOK P C) {an : Ann} (hD : DrawsOK P C an) {n : Nat} {old : List (Option Bool)} {G0 : Gh} {w0 : World} : ∀ (c : Code) {bid : Nat} {st : St} {k : Ex → St → Option R} {r : R} {G : Gh} {w : World} {a : Act} {Q : Exit → Act → World → Prop},
  codeA P C an n old c bid st k = some r → SR G w st a → Inv G0 w0 old G w → (∀ e st' G' w' a', k e st' = some r → SR G' w' st' a' → Inv G0 w0 old G' w' → Q e.to a' w') → c.wp P Q a w := by
 intro c
 induction c with
 | skip => intro bid st k r G w a Q h hS hI hk; exact wp_skip (hk .normal st G w a h hS hI)
 | ret => intro bid st k r G w a Q h hS hI hk; exact wp_ret (hk .ret st G w a h hS hI)
 | exit id => intro bid st k r G w a Q h hS hI hk; exact wp_exit (hk (.exit id) st G w a h hS hI)
 | seq x y ihx ihy =>
  intro bid st k r G w a Q h hS hI hk
  simp only [codeA] at h
  refine wp_seq (ihx h hS hI fun e st' G' w' a' he hS' hI' => ?_)
  cases e with
  | normal => exact ihy he hS' hI' hk
  | exit id => exact hk (.exit id) st' G' w' a' he hS' hI'
  | ret => exact hk .ret st' G' w' a' he hS' hI'
 | cond c x y ihx ihy =>
  intro bid st k r G w a Q h hS hI hk
  simp only [codeA] at h
  split at h
  ·rename_i t ht
   have hc := (hS.eval c _ ht).lit_inv
   cases t with
   | true => exact wp_cond_true hc (ihx h hS hI hk)
   | false => exact wp_cond_false hc (ihy h hS hI hk)
  ·rename_i ht
   obtain ⟨b, hc⟩ := (hS.eval c _ ht).unk_inv
   obtain ⟨h1, h2⟩ := zjH h
   cases b with
   | true => exact wp_cond_true hc (ihx h1 hS hI hk)
   | false => exact wp_cond_false hc (ihy h2 hS hI hk)
  ·simp at h
 | block id c ih =>
  intro bid st k r G w a Q h hS hI hk
  simp only [codeA] at h
  refine wp_block (ih h hS hI fun e st' G' w' a' he hS' hI' => ?_)
  cases e with
  | normal => exact hk .normal st' G' w' a' he hS' hI'
  | ret => exact hk .ret st' G' w' a' he hS' hI'
  | exit j =>
   simp only at he
   cases hj : Nat.beq j id with
   | true =>
    rw [hj] at he; simp only [cond_true] at he
    obtain rfl := beqN.1 hj
    simp only [Ex.to, Exit.inBlock, if_true]
    exact hk .normal st' G' w' a' he hS' hI'
   | false =>
    rw [hj] at he; simp only [cond_false] at he
    have hne : ¬ j = id := fun h => by rw [beqN.2 h] at hj; cases hj
    simp only [Ex.to, Exit.inBlock, hne, if_false]
    exact hk (.exit j) st' G' w' a' he hS' hI'
 | loop c ih =>
  intro bid st k r G w a Q h hS hI hk
  simp only [codeA] at h
  rw [bind_some] at h; obtain ⟨live, hl, h⟩ := h
  refine zjy (fun m a w => ∃ st G, iterA old live (fun st k => codeA P C an n old c bid st k) m st k = some r ∧ SR G w st a ∧ Inv G0 w0 old G w) ⟨st, G, h, hS, hI⟩ ?_
  rintro m a w ⟨st, G, h, hS, hI⟩
  cases m with
  | zero => simp [iterA] at h
  | succ m =>
   simp only [iterA] at h
   rw [bind_some] at h; obtain ⟨st1, h1, h⟩ := h
   obtain ⟨G1, hS1, hI1⟩ := zkY h1 hS hI
   refine ih h hS1 hI1 fun e st' G' w' a' he hS' hI' => ?_
   cases e with
   | normal => exact ⟨m, Nat.lt_succ_self _, st', G', he, hS', hI'⟩
   | exit id => exact hk (.exit id) st' G' w' a' he hS' hI'
   | ret => exact hk .ret st' G' w' a' he hS' hI'
 | region rid ops draw =>
  intro bid st k r G w a Q h hS hI hk
  simp only [codeA] at h
  exact zjk hC hD h hS hI (fun st' G' w' a' he hS' hI' => hk .normal st' G' w' a' he hS' hI')
 | _ => intro bid st k r G w a Q h hS hI hk; simp [codeA] at h
def resV (tmps : Array Value) : ResultVar → Sem Value
 | .tmp t => pure (tmps.getD t undef)
 | .cell c t => do loadVar t (← asAddr (tmps.getD c undef))
theorem zkZ (fn : Func) (tmps : Array Value) : results fn tmps = (do let vs ← fn.results.mapM (resV tmps); pure (if h : vs.size = 1 then vs[0] else .tuple vs)) := by
 unfold results
 congr 1
theorem zdW {G : Gh} {w : World} {st : St} {a : Act} (hS : SR G w st a) : ∀ {rs : List ResultVar} {vs : List AV}, resA P st.tmps st.mem rs = some vs →
  ∃ us : List Value, LRs G w vs us ∧ (rs.mapM (resV a.tmps)).run P w = .ok us w
 | [], vs, h => by
  simp [resA] at h; subst h
  exact ⟨[], ⟨rfl, fun j y hy => by simp at hy⟩, by simp⟩
 | .tmp t :: rs, vs, h => by
  simp only [resA] at h
  rw [bind_some] at h; obtain ⟨v, hv, h⟩ := h
  obtain ⟨vs', h', rfl⟩ := Option.map_eq_some_iff.1 h
  obtain ⟨us, hL, hrun⟩ := zdW hS h'
  refine ⟨a.tmps.getD t undef :: us, ⟨by simp [hL.1], fun j y hy => ?_⟩, ?_⟩
  ·cases j with
   | zero => simp at hy; subst hy; exact hS.get hv
   | succ j => simpa using hL.2 j y (by simpa using hy)
  ·rw [List.mapM_cons]
   simp only [resV, Sem.run_bind, Sem.run_pure, Result.andThen_ok, hrun]
 | .cell c t :: rs, vs, h => by
  simp only [resA] at h
  rw [bind_some] at h; obtain ⟨x, hx, h⟩ := h
  rw [bind_some] at h; obtain ⟨o, ho, h⟩ := h
  obtain ⟨vs', h', rfl⟩ := Option.map_eq_some_iff.1 h
  obtain ⟨us, hL, hrun⟩ := zdW hS h'
  have hxr := hS.get hx
  obtain ⟨v, rd, rfl, cv, hld, hvr⟩ := zfL hS.memr ho hxr
  refine ⟨cv :: us, ⟨by simp [hL.1], fun j y hy => ?_⟩, ?_⟩
  ·cases j with
   | zero => simp at hy; subst hy; exact hvr
   | succ j => simpa using hL.2 j y (by simpa using hy)
  ·rw [List.mapM_cons]
   have : (resV a.tmps (.cell c t)).run P w = .ok cv w := by
    have hp : ∃ p, a.tmps.getD c undef = .pointer (some p) := by
     unfold loadA at ho
     split at ho
     ·generalize a.tmps.getD c undef = z at hxr; cases hxr; exact ⟨_, rfl⟩
     ·generalize a.tmps.getD c undef = z at hxr; cases hxr; exact ⟨_, rfl⟩
     ·simp at ho
    obtain ⟨p, hp⟩ := hp
    show Sem.run P (do loadVar t (← asAddr (a.tmps.getD c undef))) w = _
    rw [hp] at hld ⊢
    simpa [Instr.loadAt, Instr.sureAddr, asAddr] using hld
   simp only [Sem.run_bind, this, Result.andThen_ok, hrun, Sem.run_pure]
def namesOK (P : Program) : Bool := P.funcs.all fun fn => !(fn.name == "runtime.NumGoroutine")
theorem zcf {f : FuncId} {fn : Func} {vargs : Array Value} {w : World} (hf : P.funcs[f]? = some fn) (hn : namesOK P = true) (hb : fn.body.isSome = true) : (callFunc f vargs).run P w = .ok (.enter f vargs) w := by
 have h1 : (fn.name == "runtime.NumGoroutine") = false := by
  unfold namesOK at hn
  rw [Array.all_eq_true_iff_forall_mem] at hn
  have := hn fn (Array.mem_of_getElem? hf)
  simpa using this
 have h2 : fn.body.isNone = false := by cases h : fn.body <;> simp_all
 unfold callFunc
 simp only [Sem.run_bind, run_program, Result.andThen_ok, hf, h1, h2, Bool.false_eq_true, if_false, Sem.run_pure]
end
end Go.Ab
end
section
/- The evaluator looks at no more than what it says: at other states that agree there it says the same. -/
set_option linter.unusedVariables false
set_option linter.unusedSectionVars false
set_option linter.unusedSimpArgs false
namespace Go.Ab
variable [GTab]
def Ag (S : List Nat) (mem mem' : Mem) : Prop := ∀ b ∈ S, mem'[b]? = mem[b]?
theorem Ag.sub {S S' : List Nat} {mem mem' : Mem} (h : Ag S mem mem') (hs : ∀ b ∈ S', b ∈ S) : Ag S' mem mem' := fun b hb => h b (hs b hb)
theorem box?_ag {mem mem' : Mem} {b g : Nat} (h : mem'[b]? = mem[b]?) : box? mem' b g = box? mem b g := by unfold box?; rw [h]
theorem zhg {mem mem' : Mem} {b : Nat} (h : mem'[b]? = mem[b]?) : genOf mem' b = genOf mem b := by unfold genOf; rw [h]
theorem zdN {α β : Type} {f f' : α → Option (Bool × β × List Nat)} : ∀ {xs : List α} {r : Bool × List β × List Nat}, foldEls f xs = some r → (∀ x q, f x = some q → (∀ b ∈ q.2.2, b ∈ r.2.2) → f' x = some q) → foldEls f' xs = some r
 | [], r, h, _ => h
 | v :: xs, r, h, hf => by
  simp only [foldEls] at h ⊢
  rw [bind_some] at h; obtain ⟨a, ha, h⟩ := h
  rw [bind_some] at h; obtain ⟨q, hq, h⟩ := h
  obtain rfl := Option.some.inj h
  rw [hf v a ha (fun b hb => List.mem_append_left _ hb), zdN hq (fun x q' h1 h2 => hf x q' h1 (fun b hb => List.mem_append_right _ (h2 b hb)))]
  rfl
theorem zeH {α β γ : Type} {f f' : γ → α → Option (Bool × β × List Nat)} : ∀ {ls : List γ} {xs : List α} {r : Bool × List β × List Nat}, zipEls f ls xs = some r → (∀ l x q, f l x = some q → (∀ b ∈ q.2.2, b ∈ r.2.2) → f' l x = some q) → zipEls f' ls xs = some r
 | [], [], r, h, _ => h
 | [], v :: xs, r, h, hf => by simp [zipEls] at h
 | l :: ls, [], r, h, hf => by simp [zipEls] at h
 | l :: ls, v :: xs, r, h, hf => by
  simp only [zipEls] at h ⊢
  rw [bind_some] at h; obtain ⟨a, ha, h⟩ := h
  rw [bind_some] at h; obtain ⟨q, hq, h⟩ := h
  obtain rfl := Option.some.inj h
  rw [hf l v a ha (fun b hb => List.mem_append_left _ hb), zeH hq (fun l x q' h1 h2 => hf l x q' h1 (fun b hb => List.mem_append_right _ (h2 b hb)))]
  rfl
section
variable {P : Program}
theorem zdZ {k : IntKind} {b : Nat} {w : View} {r : Bool × PV × List Nat} (h : tree.treeInts k b w = some r) : b ∈ r.2.2 := by
 unfold tree.treeInts at h
 split at h
 ·rw [za] at h; obtain ⟨_, h⟩ := h; obtain rfl := Option.some.inj h; simp
 ·rw [za] at h; obtain ⟨_, h⟩ := h; obtain ⟨xs, _, rfl⟩ := Option.map_eq_some_iff.1 h; simp
 ·simp at h
theorem zhh {f : LK → AV → Option (Bool × PV × List Nat)} {t : TypeId} {e b : Nat} {w : View} {r : Bool × PV × List Nat} (h : tree.treeSl P f t e b w = some r) : b ∈ r.2.2 := by
 unfold tree.treeSl at h
 split at h
 ·rw [za] at h; obtain ⟨_, h⟩ := h; obtain rfl := Option.some.inj h; simp
 ·rw [za] at h; obtain ⟨_, h⟩ := h
  rw [bind_some] at h; obtain ⟨_, _, h⟩ := h
  obtain ⟨xs, _, rfl⟩ := Option.map_eq_some_iff.1 h; simp
 ·simp at h
theorem ziE {f f' : LK → AV → Option (Bool × PV × List Nat)} {t : TypeId} {e b : Nat} {w : View} {r : Bool × PV × List Nat} (h : tree.treeSl P f t e b w = some r)
  (hf : ∀ l v q, f l v = some q → (∀ b ∈ q.2.2, b ∈ r.2.2) → f' l v = some q) : tree.treeSl P f' t e b w = some r := by
 unfold tree.treeSl at h ⊢
 split at h
 ·exact h
 ·rw [za] at h ⊢; obtain ⟨hg, h⟩ := h
  refine ⟨hg, ?_⟩
  rw [bind_some] at h ⊢; obtain ⟨ls, hls, h⟩ := h
  refine ⟨ls, hls, ?_⟩
  obtain ⟨q, hq, rfl⟩ := Option.map_eq_some_iff.1 h
  refine Option.map_eq_some_iff.2 ⟨q, zdN hq (fun vs q1 h1 h2 => ?_), rfl⟩
  rw [bind_some] at h1 ⊢; obtain ⟨q2, hq2, h1⟩ := h1
  obtain ⟨p, hp, rfl⟩ := Option.map_eq_some_iff.1 h1
  refine ⟨q2, zeH hq2 (fun l x q' h3 h4 => hf l x q' h3 (fun b hb => List.mem_cons_of_mem _ (h2 b (h4 b hb)))), h1⟩
 ·simp at h
theorem zew {mem mem' : Mem} : ∀ {n : Nat} {l : LK} {v : AV} {r : Bool × PV × List Nat}, tree P mem n l v = some r → Ag r.2.2 mem mem' → tree P mem' n l v = some r
 | 0, l, v, r, h, _ => by simp [tree] at h
 | n + 1, l, v, r, h, hA => by
  unfold tree at h ⊢
  split at h <;> try exact h
  ·rename_i k b g
   rw [bind_some] at h ⊢; obtain ⟨x, hx, h⟩ := h
   exact ⟨x, by rw [box?_ag (hA b (zdZ h))]; exact hx, h⟩
  ·rename_i k b g o m
   rw [bind_some] at h ⊢; obtain ⟨x, hx, h⟩ := h
   have h' := h
   rw [bind_some] at h; obtain ⟨w, hw, h⟩ := h
   exact ⟨x, by rw [box?_ag (hA b (zdZ h))]; exact hx, h'⟩
  ·rename_i t e b g
   rw [bind_some] at h ⊢; obtain ⟨x, hx, h⟩ := h
   exact ⟨x, by rw [box?_ag (hA b (zhh h))]; exact hx, ziE h (fun l v q hq hs => zew hq (hA.sub hs))⟩
  ·rename_i t e b g o m
   rw [bind_some] at h ⊢; obtain ⟨x, hx, h⟩ := h
   rw [bind_some] at h; obtain ⟨w, hw, h⟩ := h
   refine ⟨x, by rw [box?_ag (hA b (zhh h))]; exact hx, ?_⟩
   rw [bind_some]
   exact ⟨w, hw, ziE h (fun l v q hq hs => zew hq (hA.sub hs))⟩
variable {mem mem' : Mem}
theorem zgh {t : TypeId} {v : AV} {r : Bool × PV × List Nat} (h : toPV P mem t v = some r) (hA : Ag r.2.2 mem mem') : toPV P mem' t v = some r := by
 unfold toPV at h ⊢
 rw [bind_some] at h ⊢; obtain ⟨ls, hls, h⟩ := h
 refine ⟨ls, hls, ?_⟩
 rw [bind_some] at h ⊢; obtain ⟨q, hq, h⟩ := h
 refine ⟨q, zeH hq (fun l x q' h1 h2 => zew h1 (hA.sub fun b hb => ?_)), h⟩
 obtain ⟨p, _, rfl⟩ := Option.map_eq_some_iff.1 h
 exact h2 b hb
theorem zmS {vars : Bool} {t : TypeId} {vs : List AV} {r : View × List Nat} (h : toView P vars mem t vs = some r) (hA : Ag r.2 mem mem') : toView P vars mem' t vs = some r := by
 unfold toView at h ⊢
 split at h
 ·exact h
 ·rw [bind_some] at h ⊢; obtain ⟨e, he, h⟩ := h
  refine ⟨e, he, ?_⟩
  cases vars with
  | true => exact h
  | false =>
   simp only [cond_false] at h ⊢
   obtain ⟨q, hq, rfl⟩ := Option.map_eq_some_iff.1 h
   exact Option.map_eq_some_iff.2 ⟨q, zdN hq (fun v q' h1 h2 => zgh h1 (hA.sub h2)), rfl⟩
theorem zcP : ∀ {ids : List Nat}, Ag ids mem mem' → frozenAt mem' ids = frozenAt mem ids
 | [], _ => rfl
 | b :: r, h => by
  have ih := zcP (ids := r) (h.sub fun b hb => List.mem_cons_of_mem _ hb)
  simp only [frozenAt, h b (List.mem_cons_self ..), ih]
theorem zgd {et : TypeId} {y : AV} {v : View × List Nat} (h : view P et mem y = some v) (hA : Ag v.2 mem mem') : view P et mem' y = some v := by
 unfold view at h ⊢
 split at h <;> try exact h
 ·rename_i b g o n
  have h' := h
  rw [bind_some] at h ⊢; obtain ⟨x, hx, h⟩ := h
  obtain ⟨w, hw, rfl⟩ := Option.map_eq_some_iff.1 h
  exact ⟨x, by rw [box?_ag (hA b (by simp))]; exact hx, h⟩
 ·rename_i b g
  rw [bind_some] at h ⊢; obtain ⟨x, hx, h⟩ := h
  obtain rfl := Option.some.inj h
  exact ⟨x, by rw [box?_ag (hA b (by simp))]; exact hx, rfl⟩
theorem znD {t : TypeId} {x : AV} {n : Nat × List Nat} (h : lenOf P t mem x = some n) (hA : Ag n.2 mem mem') : lenOf P t mem' x = some n := by
 unfold lenOf at h ⊢
 split at h
 ·exact h
 ·split at h <;> try exact h
  rename_i b g
  obtain ⟨x, hx, rfl⟩ := Option.map_eq_some_iff.1 h
  exact Option.map_eq_some_iff.2 ⟨x, by rw [box?_ag (hA b (by simp))]; exact hx, rfl⟩
 ·simp at h
variable {out : Out}
theorem znV {t : TypeId} {a : AV} (h : loadA P t mem a = some out) (hA : Ag out.rd mem mem') : loadA P t mem' a = some out := by
 unfold loadA at h ⊢
 split at h
 ·exact h
 ·rename_i b g i c
  rw [bind_some] at h ⊢; obtain ⟨x, hx, h⟩ := h
  refine ⟨x, ?_, h⟩
  have : b ∈ out.rd := by
   split at h
   ·rw [bind_some] at h; obtain ⟨ag, _, h⟩ := h
    cases ag with
    | true =>
     simp only [cond_true] at h
     rw [bind_some] at h; obtain ⟨n, _, h⟩ := h
     rw [za] at h; obtain ⟨_, h⟩ := h
     obtain rfl := Option.some.inj h; simp
    | false =>
     simp only [cond_false] at h
     obtain ⟨v, _, rfl⟩ := Option.map_eq_some_iff.1 h; simp
   ·rw [za] at h; obtain ⟨_, h⟩ := h
    rw [za] at h; obtain ⟨_, h⟩ := h
    obtain ⟨v, _, rfl⟩ := Option.map_eq_some_iff.1 h; simp
   ·rw [bind_some] at h; obtain ⟨y, _, h⟩ := h
    obtain ⟨v, _, rfl⟩ := Option.map_eq_some_iff.1 h; simp
  rw [box?_ag (hA b this)]; exact hx
 ·simp at h
theorem zni {t : TypeId} {a x : AV} (h : storeA P t mem a x = some out) (hA : Ag out.rd mem mem') : storeA P t mem' a x = some out := by
 unfold storeA at h ⊢
 split at h
 ·rename_i b g i c
  rw [bind_some] at h ⊢; obtain ⟨bx, hbx, h⟩ := h
  refine ⟨bx, ?_, ?_⟩
  ·have : b ∈ out.rd := by
    rw [bind_some] at h; obtain ⟨n, _, h⟩ := h
    rw [za] at h; obtain ⟨_, h⟩ := h
    split at h
    ·rw [za] at h; obtain ⟨_, h⟩ := h
     obtain rfl := Option.some.inj h; simp
    ·split at h
     ·rw [za] at h; obtain ⟨_, h⟩ := h
      obtain rfl := Option.some.inj h; simp
     ·simp at h
    ·rw [bind_some] at h; obtain ⟨p, _, h⟩ := h
     rw [bind_some] at h; obtain ⟨q, _, h⟩ := h
     rw [za] at h; obtain ⟨_, h⟩ := h
     obtain rfl := Option.some.inj h; simp
   rw [box?_ag (hA b this)]; exact hbx
  ·rw [bind_some] at h ⊢; obtain ⟨n, hn, h⟩ := h
   refine ⟨n, hn, ?_⟩
   rw [za] at h ⊢; obtain ⟨hg, h⟩ := h
   refine ⟨hg, ?_⟩
   split at h
   ·exact h
   ·exact h
   ·rw [bind_some] at h ⊢; obtain ⟨p, hp, h⟩ := h
    refine ⟨p, hp, ?_⟩
    rw [bind_some] at h ⊢; obtain ⟨q, hq, h⟩ := h
    have h' := h
    rw [za] at h; obtain ⟨_, h⟩ := h
    obtain rfl := Option.some.inj h
    have hA' : Ag q.2.2 mem mem' := hA.sub fun b hb => List.mem_cons_of_mem _ hb
    exact ⟨q, zgh hq hA', by rw [zcP hA']; exact h'⟩
 ·simp at h
theorem zmE {t : TypeId} {x : AV} {i : Int} (h : indexA P t mem x i = some out) (hA : Ag out.rd mem mem') : indexA P t mem' x i = some out := by
 unfold indexA at h ⊢
 split at h
 ·rw [bind_some] at h ⊢; obtain ⟨s, hs, h⟩ := h
  refine ⟨s, hs, ?_⟩
  split at h <;> try exact h
  ·rename_i b g o n
   rw [bind_some] at h ⊢; obtain ⟨bx, hbx, h⟩ := h
   refine ⟨bx, ?_, h⟩
   rw [za] at h; obtain ⟨_, h⟩ := h
   obtain rfl := Option.some.inj h
   rw [box?_ag (hA b (by simp))]; exact hbx
  ·rename_i b g
   rw [bind_some] at h ⊢; obtain ⟨bx, hbx, h⟩ := h
   refine ⟨bx, ?_, h⟩
   rw [za] at h; obtain ⟨_, h⟩ := h
   obtain rfl := Option.some.inj h
   rw [box?_ag (hA b (by simp))]; exact hbx
 ·exact h
 ·simp at h
theorem znc {t : TypeId} {x : AV} {lo hi mx : Option Int} (h : sliceA P t mem x lo hi mx = some out) (hA : Ag out.rd mem mem') : sliceA P t mem' x lo hi mx = some out := by
 unfold sliceA at h ⊢
 split at h
 ·exact h
 ·rw [bind_some] at h ⊢; obtain ⟨s, hs, h⟩ := h
  refine ⟨s, hs, ?_⟩
  split at h <;> try exact h
  ·rename_i b g o n
   rw [bind_some] at h ⊢; obtain ⟨bx, hbx, h⟩ := h
   refine ⟨bx, ?_, h⟩
   rw [za] at h; obtain ⟨_, h⟩ := h
   obtain ⟨q, _, rfl⟩ := Option.map_eq_some_iff.1 h
   rw [box?_ag (hA b (by simp))]; exact hbx
  ·rename_i b g
   rw [bind_some] at h ⊢; obtain ⟨bx, hbx, h⟩ := h
   refine ⟨bx, ?_, h⟩
   rw [za] at h; obtain ⟨_, h⟩ := h
   obtain ⟨q, _, rfl⟩ := Option.map_eq_some_iff.1 h
   rw [box?_ag (hA b (by simp))]; exact hbx
 ·rw [bind_some] at h ⊢; obtain ⟨s, hs, h⟩ := h
  refine ⟨s, hs, ?_⟩
  split at h
  ·rename_i b g c
   rw [za] at h ⊢; obtain ⟨hg, h⟩ := h
   refine ⟨hg, ?_⟩
   rw [bind_some] at h ⊢; obtain ⟨bx, hbx, h⟩ := h
   refine ⟨bx, ?_, h⟩
   split at h
   ·rw [za] at h; obtain ⟨_, h⟩ := h
    obtain ⟨q, _, rfl⟩ := Option.map_eq_some_iff.1 h
    rw [box?_ag (hA b (by simp))]; exact hbx
   ·simp at h
  ·simp at h
 ·simp at h
theorem zlD {boxed vars : Bool} {t tx : TypeId} {rs : Nat} {x y : AV} (h : appendA P boxed vars t tx mem rs x y = some out) (hA : Ag out.rd mem mem') : appendA P boxed vars t tx mem' rs x y = some out := by
 unfold appendA at h ⊢
 rw [bind_some] at h ⊢; obtain ⟨et, het, h⟩ := h; refine ⟨et, het, ?_⟩
 rw [bind_some] at h ⊢; obtain ⟨s, hs, h⟩ := h; refine ⟨s, hs, ?_⟩
 rw [bind_some] at h ⊢; obtain ⟨bytes, hby, h⟩ := h; refine ⟨bytes, hby, ?_⟩
 rw [bind_some] at h ⊢; obtain ⟨z, hz, h⟩ := h; refine ⟨z, hz, ?_⟩
 rw [bind_some] at h ⊢; obtain ⟨yv, hyv, h⟩ := h
 have h0 := h
 rw [za] at h; obtain ⟨hg, h⟩ := h
 split at h
 ·refine ⟨yv, ?_, h0⟩
  rw [za] at h; obtain ⟨_, h⟩ := h
  refine zgd hyv (hA.sub fun b hb => ?_)
  cases boxed with
  | true => simp only [cond_true] at h; obtain ⟨row, _, rfl⟩ := Option.map_eq_some_iff.1 h; exact hb
  | false => simp only [cond_false] at h; obtain ⟨v, _, rfl⟩ := Option.map_eq_some_iff.1 h; exact hb
 ·rename_i b g
  have h1 := h
  rw [bind_some] at h; obtain ⟨bx, hbx, h⟩ := h
  have h2 := h
  rw [bind_some] at h; obtain ⟨zv, _, h⟩ := h
  rw [za] at h; obtain ⟨_, h⟩ := h
  obtain rfl := Option.some.inj h
  refine ⟨yv, zgd hyv (hA.sub fun b hb => List.mem_cons_of_mem _ hb), ?_⟩
  rw [za]
  refine ⟨hg, ?_⟩
  rw [bind_some]
  exact ⟨bx, by rw [box?_ag (hA b (List.mem_cons_self ..))]; exact hbx, h2⟩
 ·rename_i b g n
  have h1 := h
  rw [bind_some] at h; obtain ⟨bx, hbx, h⟩ := h
  have h2 := h
  rw [bind_some] at h; obtain ⟨xv, _, h⟩ := h
  rw [bind_some] at h; obtain ⟨zv, _, h⟩ := h
  rw [za] at h; obtain ⟨_, h⟩ := h
  obtain rfl := Option.some.inj h
  refine ⟨yv, zgd hyv (hA.sub fun b hb => List.mem_cons_of_mem _ hb), ?_⟩
  rw [za]
  refine ⟨hg, ?_⟩
  rw [bind_some]
  exact ⟨bx, by rw [box?_ag (hA b (List.mem_cons_self ..))]; exact hbx, h2⟩
 ·simp at h
theorem znP {t tx : TypeId} {rs : Nat} {n : Int} (h : zappA P t tx mem rs n = some out) : zappA P t tx mem' rs n = some out := by
 unfold zappA at h ⊢
 split at h
 ·rw [bind_some] at h ⊢; obtain ⟨et, het, h⟩ := h
  refine ⟨et, het, ?_⟩
  rw [bind_some] at h ⊢; obtain ⟨z, hz, h⟩ := h
  refine ⟨z, hz, ?_⟩
  split at h
  ·rw [bind_some] at h ⊢; obtain ⟨q, hq, h⟩ := h
   have h1 := h
   rw [bind_some] at h; obtain ⟨e, _, h⟩ := h
   rw [bind_some] at h; obtain ⟨bytes, _, h⟩ := h
   rw [za] at h
   have hg := h.1
   simp only [Bool.and_eq_true] at hg
   exact ⟨q, zgh hq (by rw [zbu hg.2.2]; exact fun b hb => by cases hb), h1⟩
  ·cases h
 ·cases h
theorem zkr {boxed vars : Bool} {b : Builtin} {ts : List TypeId} {rs : Nat} {args : List AV} (h : builtinA P boxed vars b ts mem rs args = some out) (hA : Ag out.rd mem mem') : builtinA P boxed vars b ts mem' rs args = some out := by
 unfold builtinA at h ⊢
 split at h
 ·obtain ⟨n, hn, rfl⟩ := Option.map_eq_some_iff.1 h
  exact Option.map_eq_some_iff.2 ⟨n, znD hn hA, rfl⟩
 ·exact znP h
 ·exact zlD h hA
 ·exact h
 ·exact h
 ·exact h
 ·simp at h
theorem zjF {boxed : Bool} {src dst : TypeId} {rs : Nat} {x : AV} (h : convertA P boxed src dst mem rs x = some out) (hA : Ag out.rd mem mem') : convertA P boxed src dst mem' rs x = some out := by
 unfold convertA at h ⊢
 split at h
 ·exact h
 ·exact h
 ·split at h
  ·rw [bind_some] at h ⊢; obtain ⟨v, hv, h⟩ := h
   refine ⟨v, zgd hv ?_, h⟩
   rw [za] at h; obtain ⟨_, h⟩ := h
   split at h
   ·obtain rfl := Option.some.inj h; exact hA
   ·simp at h
  ·exact h
 ·split at h
  ·rw [za] at h ⊢; obtain ⟨hg, h⟩ := h; refine ⟨hg, ?_⟩
   rw [bind_some] at h ⊢; obtain ⟨x, hx, h⟩ := h
   refine ⟨x, ?_, h⟩
   rw [za] at h; obtain ⟨_, h⟩ := h
   obtain rfl := Option.some.inj h
   rw [box?_ag (hA _ (by simp))]; exact hx
  ·exact h
 ·simp at h
theorem zcJ {l : LK} {v : AV} {r : AV × List Nat} (h : lendLeaf P mem l v = some r) (hA : Ag r.2 mem mem') : lendLeaf P mem' l v = some r := by
 unfold lendLeaf at h ⊢
 split at h
 ·obtain ⟨q, hq, rfl⟩ := Option.map_eq_some_iff.1 h
  exact Option.map_eq_some_iff.2 ⟨q, zew hq hA, rfl⟩
 ·obtain ⟨q, hq, rfl⟩ := Option.map_eq_some_iff.1 h
  exact Option.map_eq_some_iff.2 ⟨q, zew hq hA, rfl⟩
 ·exact h
theorem zex : ∀ {ls : List LK} {vs : List AV} {r : List AV × List Nat}, lendCells P mem ls vs = some r → Ag r.2 mem mem' → lendCells P mem' ls vs = some r
 | [], [], r, h, _ => h
 | [], v :: vs, r, h, _ => by simp [lendCells] at h
 | l :: ls, [], r, h, _ => by simp [lendCells] at h
 | l :: ls, v :: vs, r, h, hA => by
  simp only [lendCells] at h ⊢
  rw [bind_some] at h; obtain ⟨a, ha, h⟩ := h
  rw [bind_some] at h; obtain ⟨b, hb, h⟩ := h
  obtain rfl := Option.some.inj h
  rw [zcJ ha (hA.sub fun b hb => List.mem_append_left _ hb), zex hb (hA.sub fun b hb => List.mem_append_right _ hb)]
  rfl
theorem zoJ {t : TypeId} {v : AV} {r : AV × List Nat} (h : lend P mem t v = some r) (hA : Ag r.2 mem mem') : lend P mem' t v = some r := by
 unfold lend at h ⊢
 split at h
 ·rw [bind_some] at h ⊢; obtain ⟨l, hl, h⟩ := h
  exact ⟨l, hl, zcJ h hA⟩
 ·rw [bind_some] at h ⊢; obtain ⟨l, hl, h⟩ := h
  exact ⟨l, hl, zcJ h hA⟩
 ·rename_i cs
  cases hms : hasMs cs with
  | true =>
   rw [hms] at h; simp only [cond_true] at h ⊢
   rw [bind_some] at h ⊢; obtain ⟨ls, hls, h⟩ := h
   refine ⟨ls, hls, ?_⟩
   obtain ⟨q, hq, rfl⟩ := Option.map_eq_some_iff.1 h
   exact Option.map_eq_some_iff.2 ⟨q, zex hq hA, rfl⟩
  | false => rw [hms] at h; exact h
 ·exact h
theorem zgT : ∀ {ts : List TypeId} {vs : List AV} {r : List AV × List Nat}, lendAll P mem ts vs = some r → Ag r.2 mem mem' → lendAll P mem' ts vs = some r
 | [], [], r, h, _ => h
 | [], v :: vs, r, h, _ => by simp [lendAll] at h
 | t :: ts, [], r, h, _ => by simp [lendAll] at h
 | t :: ts, v :: vs, r, h, hA => by
  simp only [lendAll] at h ⊢
  rw [bind_some] at h; obtain ⟨a, ha, h⟩ := h
  rw [bind_some] at h; obtain ⟨b, hb, h⟩ := h
  obtain rfl := Option.some.inj h
  rw [zoJ ha (hA.sub fun b hb => List.mem_append_left _ hb), zgT hb (hA.sub fun b hb => List.mem_append_right _ hb)]
  rfl
theorem zeO : ∀ {n : Nat} {todo seen : List Nat}, ∀ b ∈ seen, b ∈ reach mem n todo seen
 | 0, todo, seen, b, hb => by simpa [reach] using hb
 | n + 1, [], seen, b, hb => by simpa [reach] using hb
 | n + 1, t :: todo, seen, b, hb => by
  simp only [reach]
  cases memN t seen with
  | true => simp only [cond_true]; exact zeO b hb
  | false => simp only [cond_false]; exact zeO b (List.mem_append_left _ hb)
theorem zht : ∀ {n : Nat} {todo seen : List Nat}, Ag (reach mem n todo seen) mem mem' → reach mem' n todo seen = reach mem n todo seen
 | 0, todo, seen, _ => by simp [reach]
 | n + 1, [], seen, _ => by simp [reach]
 | n + 1, t :: todo, seen, hA => by
  simp only [reach] at hA ⊢
  cases hm : memN t seen with
  | true => rw [hm] at hA; simp only [cond_true] at hA ⊢; exact zht hA
  | false =>
   rw [hm] at hA; simp only [cond_false] at hA ⊢
   have ht : mem'[t]? = mem[t]? := hA t (zeO t (by simp))
   have : refsAt mem' t = refsAt mem t := by unfold refsAt; rw [ht]
   rw [this]
   exact zht hA
theorem zhQ : ∀ {ids : List Nat} {b n : Nat}, b ∉ ids → idx b ids n = none
 | [], b, n, _ => rfl
 | m :: r, b, n, h => by
  simp only [idx]
  cases hb : Nat.beq m b with
  | true => exact absurd (by rw [beqN.1 hb]; exact List.mem_cons_self ..) h
  | false => simp only [cond_false]; exact zhQ fun hh => h (List.mem_cons_of_mem _ hh)
theorem zns {ids : List Nat} (hA : Ag ids mem mem') : renTo mem' ids = renTo mem ids := by
 funext b g
 by_cases hb : b ∈ ids
 ·unfold renTo; rw [zhg (hA b hb)]
 ·have hi : idx b ids 0 = none := zhQ hb
  have : ∀ m : Mem, renTo m ids b g = none := by
   intro m
   unfold renTo
   split
   ·rw [hi]; cases Nat.beq _ g <;> rfl
   ·rfl
  rw [this, this]
theorem zhq (f : Ren) : ∀ {ids : List Nat}, Ag ids mem mem' → pickMem f mem' ids = pickMem f mem ids
 | [], _ => rfl
 | b :: r, h => by
  simp only [pickMem, h b (List.mem_cons_self ..), zhq f (ids := r) (h.sub fun b hb => List.mem_cons_of_mem _ hb)]
theorem zcx (f : Ren) : ∀ {ids : List Nat} {q : Mem}, Ag ids mem mem' → backBoxes f mem' ids q = backBoxes f mem ids q
 | [], q, _ => by simp [backBoxes]
 | a :: ids, [], _ => by simp [backBoxes]
 | a :: ids, none :: q, h => by simp only [backBoxes]; exact zcx f (h.sub fun b hb => List.mem_cons_of_mem _ hb)
 | a :: ids, some x :: q, h => by
  simp only [backBoxes, zhg (h a (List.mem_cons_self ..)), zcx f (ids := ids) (q := q) (h.sub fun b hb => List.mem_cons_of_mem _ hb)]
theorem zlp {sub : Mem} {ids : List Nat} (hl : mem'.length = mem.length) (hA : Ag ids mem mem') : renBack mem' sub ids = renBack mem sub ids := by
 funext b g
 unfold renBack
 cases Nat.beq g 0 with
 | false => rfl
 | true =>
  simp only [cond_true]
  cases ha : ids[b]? with
  | none => rw [hl]
  | some a => simp only [zhg (hA a (List.mem_of_getElem? ha))]
theorem znL {keep : Bool} {ts : List TypeId} {vs : List AV} {r : List AV × List Nat} (h : lends P keep mem ts vs = some r) (hA : Ag r.2 mem mem') : lends P keep mem' ts vs = some r := by
 cases keep with
 | true => exact h
 | false => exact zgT h hA
theorem znY {C : Oracle} {raw keep : Bool} {g : FuncId} {ts : List TypeId} {fi args ca : List AV} (hl : mem'.length = mem.length) (h : callA P C raw keep g ts fi args ca mem = some out) (hA : Ag out.rd mem mem') : callA P C raw keep g ts fi args ca mem' = some out := by
 unfold callA at h ⊢
 rw [bind_some] at h ⊢; obtain ⟨la, hla, h⟩ := h
 simp only at h
 have hrd : out.rd = la.2 ++ reach mem (reachFuel mem (AV.refsAll (fi ++ la.1 ++ ca)).length) (AV.refsAll (fi ++ la.1 ++ ca)) [] := by
  rw [za] at h; obtain ⟨_, h⟩ := h
  rw [bind_some] at h; obtain ⟨q, _, h⟩ := h
  rw [za] at h; obtain ⟨_, h⟩ := h
  revert h
  cases (allLt (reach mem (reachFuel mem (AV.refsAll (fi ++ la.1 ++ ca)).length) (AV.refsAll (fi ++ la.1 ++ ca)) []).length
    (bif raw then q.1 else frzRes (reach mem (reachFuel mem (AV.refsAll (fi ++ la.1 ++ ca)).length) (AV.refsAll (fi ++ la.1 ++ ca)) []).length q.2 q.1).refs &&
     allLt (reach mem (reachFuel mem (AV.refsAll (fi ++ la.1 ++ ca)).length) (AV.refsAll (fi ++ la.1 ++ ca)) []).length
      (memRefs (List.take (reach mem (reachFuel mem (AV.refsAll (fi ++ la.1 ++ ca)).length) (AV.refsAll (fi ++ la.1 ++ ca)) []).length q.2))) with
  | true => intro h; simp only [cond_true] at h; obtain rfl := Option.some.inj h; rfl
  | false => intro h; simp only [cond_false] at h; obtain rfl := Option.some.inj h; rfl
 rw [hrd] at hA
 refine ⟨la, znL hla (hA.sub fun b hb => List.mem_append_left _ hb), ?_⟩
 have hfuel : ∀ n, reachFuel mem' n = reachFuel mem n := fun n => by unfold reachFuel; rw [hl]
 have hA' := hA.sub (S' := reach mem (reachFuel mem (AV.refsAll (fi ++ la.1 ++ ca)).length) (AV.refsAll (fi ++ la.1 ++ ca)) []) fun b hb => List.mem_append_right _ hb
 simp only [hfuel, zht hA', zns hA', zhq _ hA', zlp hl hA', zcx _ hA']
 exact h
theorem zph {C : Oracle} {boxed raw vars : Bool} {o : Oper} {ρ : Operand → Option AV} {rs : Nat} (hl : isCallOp o = true → mem'.length = mem.length) (h : opA P C boxed raw vars o ρ mem rs = some out) (hA : Ag out.rd mem mem') :
  opA P C boxed raw vars o ρ mem' rs = some out := by
 unfold opA opPick opAlloc opBox opBuild opBuildSlice opStore opNil opBin opUn opFunc opMake opSlice opFieldAddr opField opIndex opExtract opCall at h ⊢
 split at h <;> rename_i hop <;> try exact h
 ·rw [bind_some] at h ⊢; obtain ⟨et, het, h⟩ := h; refine ⟨et, het, ?_⟩
  rw [bind_some] at h ⊢; obtain ⟨z, hz, h⟩ := h; refine ⟨z, hz, ?_⟩
  rw [bind_some] at h ⊢; obtain ⟨s, hs, h⟩ := h; refine ⟨s, hs, ?_⟩
  rw [bind_some] at h ⊢; obtain ⟨ps, hps, h⟩ := h; refine ⟨ps, hps, ?_⟩
  rw [za] at h ⊢; obtain ⟨hg, h⟩ := h; refine ⟨hg, ?_⟩
  rw [bind_some] at h ⊢; obtain ⟨wv, hwv, h⟩ := h
  have h' := h
  rw [za] at h; obtain ⟨_, h⟩ := h
  obtain ⟨ov, _, rfl⟩ := Option.map_eq_some_iff.1 h
  exact ⟨wv, zmS hwv hA, by rw [zcP hA]; exact h'⟩
 ·rw [bind_some] at h ⊢; obtain ⟨a, ha, h⟩ := h
  exact ⟨a, ha, znV h hA⟩
 ·rw [bind_some] at h ⊢; obtain ⟨a, ha, h⟩ := h; refine ⟨a, ha, ?_⟩
  rw [bind_some] at h ⊢; obtain ⟨x, hx, h⟩ := h
  exact ⟨x, hx, zni h hA⟩
 ·rw [bind_some] at h ⊢; obtain ⟨a, ha, h⟩ := h
  exact ⟨a, ha, zjF h hA⟩
 ·rw [bind_some] at h ⊢; obtain ⟨et, het, h⟩ := h; refine ⟨et, het, ?_⟩
  rw [bind_some] at h ⊢; obtain ⟨z, hz, h⟩ := h; refine ⟨z, hz, ?_⟩
  rw [bind_some] at h ⊢; obtain ⟨l, hl', h⟩ := h; refine ⟨l, hl', ?_⟩
  rw [bind_some] at h ⊢; obtain ⟨c, hc, h⟩ := h; refine ⟨c, hc, ?_⟩
  split at h
  ·rw [za] at h ⊢; obtain ⟨hg, h⟩ := h; refine ⟨hg, ?_⟩
   split at h
   ·exact h
   ·rw [bind_some] at h ⊢; obtain ⟨q, hq, h⟩ := h
    refine ⟨q, ?_, h⟩
    rw [bind_some] at h; obtain ⟨e, _, h⟩ := h
    rw [bind_some] at h; obtain ⟨bytes, _, h⟩ := h
    rw [za] at h; obtain ⟨hg, h⟩ := h
    simp only [Bool.and_eq_true] at hg
    have : q.2.2 = [] := zbu hg.2
    exact zgh hq (by rw [this]; intro b hb; cases hb)
  ·exact h
 ·rw [bind_some] at h ⊢; obtain ⟨x, hx, h⟩ := h; refine ⟨x, hx, ?_⟩
  rw [bind_some] at h ⊢; obtain ⟨lo, hlo, h⟩ := h; refine ⟨lo, hlo, ?_⟩
  rw [bind_some] at h ⊢; obtain ⟨hi, hhi, h⟩ := h; refine ⟨hi, hhi, ?_⟩
  rw [bind_some] at h ⊢; obtain ⟨mx, hmx, h⟩ := h
  exact ⟨mx, hmx, znc h hA⟩
 ·rw [bind_some] at h ⊢; obtain ⟨x, hx, h⟩ := h; refine ⟨x, hx, ?_⟩
  rw [bind_some] at h ⊢; obtain ⟨ix, hix, h⟩ := h; refine ⟨ix, hix, ?_⟩
  split at h
  ·exact zmE h hA
  ·exact h
 ·rename_i c
  rw [bind_some] at h ⊢; obtain ⟨args, hargs, h⟩ := h; refine ⟨args, hargs, ?_⟩
  split at h
  ·exact zkr h hA
  ·rename_i f hc
   rw [bind_some] at h ⊢; obtain ⟨fv, hf, h⟩ := h; refine ⟨fv, hf, ?_⟩
   split at h
   ·exact znY (hl (by unfold isCallOp; rw [hop]; simp only; rw [hc])) h hA
   ·exact h
  ·exact h
theorem zcq {ρ ρ' : Operand → Option AV} : ∀ {xs : List Operand}, (∀ x ∈ xs, ρ' x = ρ x) → allA ρ' xs = allA ρ xs
 | [], _ => rfl
 | x :: r, h => by simp only [allA, h x (List.mem_cons_self ..), zcq (xs := r) (fun y hy => h y (List.mem_cons_of_mem _ hy))]
theorem zcp {ρ ρ' : Operand → Option AV} : ∀ {xs : List (Nat × Operand)}, (∀ x ∈ xs.map (·.2), ρ' x = ρ x) → partsA ρ' xs = partsA ρ xs
 | [], _ => rfl
 | (i, x) :: r, h => by simp only [partsA, h x (by simp), zcp (xs := r) (fun y hy => h y (List.mem_cons_of_mem _ hy))]
theorem zdY {ρ ρ' : Operand → Option AV} {x : Option Operand} (h : ∀ y, x = some y → ρ' y = ρ y) : optA ρ' x = optA ρ x := by
 cases x with
 | none => rfl
 | some y => simp only [optA, h y rfl]
theorem zoL {C : Oracle} {boxed raw vars : Bool} {o : Oper} {ρ ρ' : Operand → Option AV} {rs : Nat} (h : ∀ x ∈ o.op.operands, ρ' x = ρ x) : opA P C boxed raw vars o ρ' mem rs = opA P C boxed raw vars o ρ mem rs := by
 obtain ⟨dst, op, type, pos, after, guard⟩ := o
 cases op <;> simp only [Op.operands] at h <;> simp only [opA, opPick, opAlloc, opBox, opBuild, opBuildSlice, opStore, opNil, opBin, opUn, opFunc, opMake, opSlice, opFieldAddr, opField, opIndex, opIndexV, opExtract, opCall]
 case move x => simp only [opMove, h x (by simp)]
 case assign x => simp only [opMove, h x (by simp)]
 case build t ps => rw [zcp (fun x hx => h x (by simpa using hx))]
 case buildSlice t n ps => rw [zcp (fun x hx => h x (by simpa using hx))]
 case makeFunc fn first captured =>
  rw [zcq (xs := first.toList) fun x hx => h x (by simp at hx ⊢; exact .inl hx), zcq (xs := captured.toList) fun x hx => h x (by simp at hx ⊢; exact .inr hx)]
 case slice t x lo hi mx =>
  rw [h x (by simp), zdY (x := lo) fun y hy => h y (by simp [hy]), zdY (x := hi) fun y hy => h y (by simp [hy]), zdY (x := mx) fun y hy => h y (by simp [hy])]
 case call c =>
  obtain ⟨cal, args, ts⟩ := c
  simp only [Call.operands] at h
  rw [zcq (xs := args.toList) fun x hx => h x (by simp at hx ⊢; exact .inr hx)]
  cases cal with
  | builtin b => rfl
  | value f => simp only [h f (by simp)]
  | invoke r m => rfl
 all_goals (first | rfl | (simp_all; done))
end
end Go.Ab
end
section
/- Regions that draw their order: what is done in another order comes to the same. -/
set_option linter.unusedVariables false
set_option linter.unusedSectionVars false
set_option linter.unusedSimpArgs false
namespace Go.Ab
variable [GTab]
structure Eff where
 v : AV
 wr : List (Nat × Box)
 push : Mem
 tr : Option Tr
noncomputable def Eff.app (e : Eff) (dst : Option Tmp) (st : St) : St := { tmps := putA st.tmps dst e.v, mem := setMem st.mem e.wr ++ e.push }
section
variable {P : Program}
inductive OStep2 (P : Program) (C : Oracle) (an : Ann) (rid : Nat) (ops : Array Oper) (o : Oper) (i rs : Nat) (st : St) : Eff → Prop
 | run (out : Out) (hres : makes o.op = true → isRes st.mem rs = true) (h : opA P C (hasPair rid i an.boxed) (hasPair rid i an.raw) (hasPair rid i an.vars) o (evalA st.tmps) st.mem rs = some out)
   (hg : ∀ j want, o.guard = some (j, want) → ∃ d, (ops[j]?).bind (·.dst) = some d ∧ st.tmps[d]? = some (.lit (.bool want))) :
   OStep2 P C an rid ops o i rs st { v := out.v, wr := out.wr, push := out.push, tr := some (out.tr (makes o.op) rs i o.op st.mem) }
 | skip (j : Nat) (want : Bool) (d : Nat) (hg : o.guard = some (j, want)) (hd : (ops[j]?).bind (·.dst) = some d)
   (h : st.tmps[d]? = some (.lit (.bool (!want))) ∨ ∃ x, st.tmps[d]? = some (.lit (.tuple x))) : OStep2 P C an rid ops o i rs st { v := .lit undef, wr := [], push := [], tr := none }
theorem Same.eq {st st1 : St} (h : st1.mem = st.mem ∧ ∀ t : Nat, st1.tmps[t]? = st.tmps[t]?) : st1 = st := by
 obtain ⟨t1, m1⟩ := st1
 obtain ⟨t, m⟩ := st
 simp only at h
 obtain ⟨rfl, h⟩ := h
 rw [List.ext_getElem? h]
variable {C : Oracle} {an : Ann} {rid : Nat} {ops : Array Oper}
theorem OStep.two {o : Oper} {i rs : Nat} {st st' : St} {t : Option Tr} (h : OStep P C an rid ops o i rs st st' t) : ∃ e, OStep2 P C an rid ops o i rs st e ∧ e.tr = t ∧ st' = e.app o.dst st := by
 cases h with
 | run out st1 hst hres ho hg =>
  obtain rfl := Same.eq hst
  exact ⟨_, .run out hres ho hg, rfl, rfl⟩
 | skip st1 hst j want d hg hd h =>
  obtain rfl := Same.eq hst
  exact ⟨_, .skip j want d hg hd h, rfl, by simp [Eff.app, setMem]⟩
theorem OStep2.one {o : Oper} {i rs : Nat} {st : St} {e : Eff} (h : OStep2 P C an rid ops o i rs st e) : OStep P C an rid ops o i rs st (e.app o.dst st) e.tr := by
 cases h with
 | run out hres ho hg => exact .run out st ⟨rfl, fun _ => rfl⟩ hres ho hg
 | skip j want d hg hd h =>
  have := OStep.skip (P := P) (C := C) (an := an) (rid := rid) (ops := ops) (o := o) (i := i) (rs := rs) (st := st) st ⟨rfl, fun _ => rfl⟩ j want d hg hd h
  simpa [Eff.app, setMem] using this
def Slot (ops : Array Oper) (o : Oper) (d : Nat) : Prop := d ∈ o.looksAt ops
def Foot (L : Nat) (all : List Tr) (e : Eff) (b : Nat) : Prop := ∃ t, e.tr = some t ∧ (b ∈ (fixT L all t).rd ∨ b ∈ t.wr)
def Agree (S F : Nat → Prop) (st st' : St) : Prop := (∀ d : Nat, S d → st'.tmps[d]? = st.tmps[d]?) ∧ (∀ b : Nat, F b → st'.mem[b]? = st.mem[b]?)
theorem zkd {v : AV} {q : Nat × Nat × Nat × Nat} (h : ptrOf v = some q) : v = .ptr q.1 q.2.1 q.2.2.1 q.2.2.2 := by
 unfold ptrOf at h
 split at h
 ·cases h; rfl
 ·cases h
theorem znG {t : TypeId} {mem mem' : Mem} {a : AV} {out : Out} (h : loadA P t mem a = some out) (hp : (ptrOf out.v).isSome = true) {b : Nat} (hb : out.rd = [b]) (hc : (ptrCodeAt mem b).isSome = true) (he : ptrCodeAt mem' b = ptrCodeAt mem b) : loadA P t mem' a = some out := by
 unfold loadA at h ⊢
 cases a with
 | ptr b' g i c =>
  simp only at h ⊢
  rw [bind_some] at h
  obtain ⟨bx, hbx, h⟩ := h
  unfold box? at hbx
  split at hbx
  ·rename_i x hx
   have hg : Nat.beq x.gen g = true := by
    cases hg : Nat.beq x.gen g with
    | true => rfl
    | false => rw [hg] at hbx; cases hbx
   rw [hg] at hbx
   obtain rfl := Option.some.inj (show some x = some bx from hbx)
   split at h
   ·rename_i e cs hrow
    rw [bind_some] at h
    obtain ⟨ag, hag, h⟩ := h
    cases ag with
    | true =>
     simp only [cond_true] at h
     rw [bind_some] at h
     obtain ⟨n, _, h⟩ := h
     rw [za] at h
     obtain rfl := (Option.some.inj h.2)
     simp [ptrOf] at hp
    | false =>
     simp only [cond_false] at h
     obtain ⟨v, hv, rfl⟩ := Option.map_eq_some_iff.1 h
     obtain rfl : b' = b := by simpa using hb
     obtain ⟨q, hq⟩ := Option.isSome_iff_exists.1 hp
     have hc1 : ptrCodeAt mem b' = some (x.gen, e, cs.map ptrOf) := by unfold ptrCodeAt ptrCode; rw [hx]; simp only [hrow]
     rw [hc1] at he
     unfold ptrCodeAt at he
     split at he
     ·rename_i x' hx'
      unfold ptrCode at he
      split at he
      ·rename_i e' cs' hrow'
       obtain ⟨hg', he', hl'⟩ : x'.gen = x.gen ∧ e' = e ∧ cs'.map ptrOf = cs.map ptrOf := by
        have := Option.some.inj he
        simp only [Prod.mk.injEq] at this
        exact this
       unfold box?
       rw [hx']
       simp only [hg', hg, cond_true, Option.bind_some, hrow', he', hag, cond_false]
       have : (cs'.map ptrOf)[i * e + c]? = some (some q) := by rw [hl', List.getElem?_map, hv]; simp [hq]
       rw [List.getElem?_map] at this
       obtain ⟨v', hv', hq'⟩ := Option.map_eq_some_iff.1 this
       rw [hv', Option.map_some, zkd hq', show v = _ from zkd hq]
      ·cases he
     ·cases he
   ·rename_i k xs hrow
    rw [za] at h; obtain ⟨_, h⟩ := h
    rw [za] at h; obtain ⟨_, h⟩ := h
    obtain ⟨y, _, rfl⟩ := Option.map_eq_some_iff.1 h
    simp [ptrOf] at hp
   ·rename_i β e xs hrow
    rw [bind_some] at h; obtain ⟨y, _, h⟩ := h
    obtain ⟨u, _, rfl⟩ := Option.map_eq_some_iff.1 h
    obtain rfl : b' = b := by simpa using hb
    unfold ptrCodeAt ptrCode at hc
    rw [hx] at hc
    simp only [hrow] at hc
    cases hc
  ·cases hbx
 | el β p c =>
  simp only at h
  obtain ⟨u, _, rfl⟩ := Option.map_eq_some_iff.1 h
  cases hb
 | _ => cases h
theorem zob {op : Op} {mem : Mem} {v : AV} {rd : List Nat} (h : rcOf op mem v rd = true) : (∃ t a, op = .load t a) ∧ (ptrOf v).isSome = true ∧ ∃ b, rd = [b] ∧ (ptrCodeAt mem b).isSome = true := by
 unfold rcOf at h
 simp only [Bool.and_eq_true] at h
 obtain ⟨⟨h1, h2⟩, h3⟩ := h
 refine ⟨?_, ?_, ?_⟩
 ·unfold isLoad at h1
  split at h1
  ·exact ⟨_, _, rfl⟩
  ·cases h1
 ·split at h2
  ·rename_i q hq; rw [hq]; rfl
  ·cases h2
 ·split at h3
  ·rename_i b
   refine ⟨b, rfl, ?_⟩
   split at h3
   ·rename_i q hq; rw [hq]; rfl
   ·cases h3
  ·cases h3
theorem zoC {L : Nat} {all : List Tr} {t : Tr} : (fixT L all t).rd = t.rd ∨ (t.rc = true ∧ ∃ b, t.rd = [b] ∧ cstB L all b = true) := by
 unfold fixT
 cases hc : (t.rc && (match t.rd with | [b] => cstB L all b | _ => false)) with
 | false => left; rfl
 | true =>
  right
  simp only [Bool.and_eq_true] at hc
  refine ⟨hc.1, ?_⟩
  have h2 := hc.2
  split at h2
  ·rename_i b hb; exact ⟨b, hb, h2⟩
  ·cases h2
theorem zav {L : Nat} {all : List Tr} {t : Tr} : (fixT L all t).i = t.i ∧ (fixT L all t).wr = t.wr ∧ (fixT L all t).push = t.push := by
 unfold fixT
 cases (t.rc && (match t.rd with | [b] => cstB L all b | _ => false)) <;> exact ⟨rfl, rfl, rfl⟩
theorem OStep2.agree {L : Nat} {all : List Tr} {o : Oper} {i rs : Nat} {st st' : St} {e : Eff} (h : OStep2 P C an rid ops o i rs st e) (hA : Agree (Slot ops o) (Foot L all e) st st') (hl : isCallOp o = true → st'.mem.length = st.mem.length)
  (hK : ∀ t b, e.tr = some t → cstB L all b = true → t.rc = true → t.rd = [b] → ptrCodeAt st'.mem b = ptrCodeAt st.mem b) : ∃ e', OStep2 P C an rid ops o i rs st' e' ∧ e'.v = e.v ∧ e'.wr = e.wr ∧ e'.push = e.push := by
 have hguard : ∀ {j : Nat} {want : Bool} {d : Nat}, o.guard = some (j, want) → (ops[j]?).bind (·.dst) = some d → st'.tmps[d]? = st.tmps[d]? := by
  intro j want d hg hd
  refine hA.1 d ?_
  unfold Slot Oper.looksAt
  rw [hg]
  refine List.mem_append_right _ ?_
  simp [hd]
 cases h with
 | run out hres ho hg =>
  refine ⟨_, .run out (fun hm => ?_) ?_ (fun j want h => ?_), rfl, rfl, rfl⟩
  ·have := hres hm
   unfold isRes at this ⊢
   rw [hA.2 rs ⟨_, rfl, .inr (by simp [Out.tr, hm])⟩]; exact this
  ·have h1 : opA P C (hasPair rid i an.boxed) (hasPair rid i an.raw) (hasPair rid i an.vars) o (evalA st.tmps) st'.mem rs = some out := by
    rcases zoC (L := L) (all := all) (t := out.tr (makes o.op) rs i o.op st.mem) with hrd | ⟨hrc, b, hb, hcst⟩
    ·exact zph (mem' := st'.mem) hl ho (fun b hb => hA.2 b ⟨_, rfl, .inl (by rw [hrd]; simpa [Out.tr] using hb)⟩)
    ·obtain ⟨⟨t, a, hop⟩, hp, b', hb', hcode⟩ := zob (show rcOf o.op st.mem out.v out.rd = true from hrc)
     have hb : out.rd = [b] := hb
     obtain rfl : b = b' := by rw [hb] at hb'; simpa using hb'
     have hke := hK _ b rfl hcst hrc hb
     unfold opA at ho ⊢
     rw [hop] at ho ⊢
     simp only at ho ⊢
     rw [bind_some] at ho ⊢
     obtain ⟨x, hx, ho⟩ := ho
     exact ⟨x, hx, znG ho hp hb hcode hke⟩
   rw [← h1]
   refine zoL fun x hx => ?_
   cases x with
   | tmp t =>
    simp only [evalA, getT, zq]
    rw [hA.1 t]
    unfold Slot Oper.looksAt
    exact List.mem_append_left _ (List.mem_filterMap.2 ⟨.tmp t, by simpa using hx, rfl⟩)
   | const v => rfl
   | func f => rfl
   | global g => rfl
  ·obtain ⟨d, hd, hb⟩ := hg j want h
   exact ⟨d, hd, by rw [hguard h hd]; exact hb⟩
 | skip j want d hg hd h =>
  refine ⟨_, .skip j want d hg hd ?_, rfl, rfl, rfl⟩
  rw [hguard hg hd]; exact h
noncomputable def foldD (D : Nat → Bool) : Nat → List (Oper × Eff) → St → St
 | _, [], st => st
 | i, (o, e) :: r, st => foldD D (i + 1) r (bif D i then e.app o.dst st else st)
theorem zbA {D D' : Nat → Bool} : ∀ {l : List (Oper × Eff)} {i : Nat} {st : St}, (∀ k, i ≤ k → k < i + l.length → D k = D' k) → foldD D i l st = foldD D' i l st
 | [], i, st, _ => rfl
 | (o, e) :: r, i, st, h => by
  simp only [foldD]
  rw [h i (Nat.le_refl _) (by simp)]
  exact zbA fun k h1 h2 => h k (by omega) (by simp at h2 ⊢; omega)
inductive Chain (P : Program) (C : Oracle) (an : Ann) (rid : Nat) (ops : Array Oper) : Nat → Nat → St → List (Oper × Eff) → Prop
 | nil (i rs : Nat) (st : St) : Chain P C an rid ops i rs st []
 | cons (o : Oper) (e : Eff) (r : List (Oper × Eff)) (i rs : Nat) (st : St) (h : OStep2 P C an rid ops o i rs st e) (hr : Chain P C an rid ops (i + 1) (bif makes o.op then rs + 1 else rs) (e.app o.dst st) r) :
   Chain P C an rid ops i rs st ((o, e) :: r)
variable {R : Type}
theorem zhD {k : St → List Tr → Option R} {r : R} : ∀ {rest : List Oper} {i rs : Nat} {st : St} {tr : List Tr}, opsA P C an rid (ops.toList.map (·.dst)) rest i rs st tr k = some r →
  ∃ l, l.map (·.1) = rest ∧ Chain P C an rid ops i rs st l ∧ k (foldD (fun _ => true) i l st) ((l.filterMap (·.2.tr)).reverse ++ tr) = some r
 | [], i, rs, st, tr, h => ⟨[], rfl, .nil i rs st, by simpa [opsA, foldD] using h⟩
 | o :: rest, i, rs, st, tr, h => by
  obtain ⟨st', t, hst, h'⟩ := zix h
  obtain ⟨e, he, rfl, rfl⟩ := hst.two
  obtain ⟨l, hl, hc, hk⟩ := zhD h'
  refine ⟨(o, e) :: l, by simp [hl], .cons o e l i rs st he hc, ?_⟩
  simp only [foldD, cond_true]
  have : ((((o, e) :: l).filterMap (·.2.tr)).reverse ++ tr) = (l.filterMap (·.2.tr)).reverse ++ (e.tr.toList ++ tr) := by
   cases ht : e.tr with
   | none => simp [List.filterMap_cons, ht]
   | some t => simp [List.filterMap_cons, ht]
  rw [this]; exact hk
theorem zch {D : Nat → Bool} : ∀ {l : List (Oper × Eff)} {i : Nat} {st : St}, (∀ k, i ≤ k → D k = false) → foldD D i l st = st
 | [], i, st, _ => rfl
 | (o, e) :: r, i, st, h => by
  simp only [foldD, h i (Nat.le_refl _), cond_false]
  exact zch fun k hk => h k (by omega)
theorem Chain.get : ∀ {l : List (Oper × Eff)} {i rs : Nat} {st : St} {j : Nat} {o : Oper} {e : Eff}, Chain P C an rid ops i rs st l → l[j]? = some (o, e) → ∃ rs', OStep2 P C an rid ops o (i + j) rs' (foldD (fun k => Nat.blt k (i + j)) i l st) e
 | [], i, rs, st, j, o, e, _, h => by simp at h
 | (o', e') :: l, i, rs, st, 0, o, e, hc, h => by
  cases hc with
  | cons _ _ _ _ _ _ h1 hr =>
   simp at h; obtain ⟨rfl, rfl⟩ := h
   refine ⟨rs, ?_⟩
   rw [zch (fun k hk => by cases hb : Nat.blt k (i + 0) with | false => rfl | true => simp [Nat.blt] at hb; omega)]
   exact h1
 | (o', e') :: l, i, rs, st, j + 1, o, e, hc, h => by
  cases hc with
  | cons _ _ _ _ _ _ h1 hr =>
   obtain ⟨rs', h'⟩ := hr.get (j := j) (by simpa using h)
   refine ⟨rs', ?_⟩
   rw [show i + 1 + j = i + (j + 1) by omega] at h'
   simp only [foldD]
   have : Nat.blt i (i + (j + 1)) = true := by simp [Nat.blt]
   rw [this]; exact h'
theorem zmo {m m' : Mem} {b : Nat} (h : m'[b]? = m[b]?) : ∀ {wr : List (Nat × Box)}, (setMem m' wr)[b]? = (setMem m wr)[b]? := by
 intro wr
 induction wr generalizing m m' with
 | nil => exact h
 | cons q r ih =>
  obtain ⟨c, x⟩ := q
  simp only [setMem]
  refine ih ?_
  rw [List.getElem?_set, List.getElem?_set]
  by_cases hc : c = b
  ·subst hc
   simp only [if_true]
   by_cases hl : c < m.length
   ·have : c < m'.length := by
     rcases Nat.lt_or_ge c m'.length with h' | h'
     ·exact h'
     ·rw [List.getElem?_eq_none h', List.getElem?_eq_getElem hl] at h; cases h
    rw [if_pos hl, if_pos this]
   ·have : ¬ c < m'.length := by
     intro h'
     rw [List.getElem?_eq_getElem h', List.getElem?_eq_none (by omega)] at h; cases h
    rw [if_neg hl, if_neg this]
  ·rw [if_neg hc, if_neg hc]; exact h
theorem zlK {m : Mem} {b : Nat} : ∀ {wr : List (Nat × Box)}, (∀ q ∈ wr, q.1 ≠ b) → (setMem m wr)[b]? = m[b]? := by
 intro wr
 induction wr generalizing m with
 | nil => intro _; rfl
 | cons q r ih =>
  obtain ⟨c, x⟩ := q
  intro h
  simp only [setMem]
  rw [ih (fun q hq => h q (List.mem_cons_of_mem _ hq)), List.getElem?_set_ne (h (c, x) (List.mem_cons_self ..))]
theorem zlF {m : Mem} {c : Nat} {x : Option Box} : ∀ {wr : List (Nat × Box)}, (∀ q ∈ wr, q.1 ≠ c) → setMem (m.set c x) wr = (setMem m wr).set c x := by
 intro wr
 induction wr generalizing m with
 | nil => intro _; rfl
 | cons q r ih =>
  obtain ⟨d, y⟩ := q
  intro h
  simp only [setMem]
  rw [List.set_comm _ _ (fun e => h (d, y) (List.mem_cons_self ..) e.symm), ih (fun q hq => h q (List.mem_cons_of_mem _ hq))]
theorem zkU {m : Mem} {a : List (Nat × Box)} : ∀ {b : List (Nat × Box)}, (∀ q ∈ b, ∀ q' ∈ a, q.1 ≠ q'.1) → setMem (setMem m a) b = setMem (setMem m b) a := by
 intro b
 induction b generalizing m with
 | nil => intro _; rfl
 | cons q r ih =>
  obtain ⟨c, x⟩ := q
  intro h
  simp only [setMem]
  rw [← ih (fun q hq => h q (List.mem_cons_of_mem _ hq)), zlF (fun q' hq' e => h (c, x) (List.mem_cons_self ..) q' hq' e.symm)]
theorem zeC {m p : Mem} : ∀ {wr : List (Nat × Box)}, (∀ q ∈ wr, q.1 < m.length) → setMem (m ++ p) wr = setMem m wr ++ p := by
 intro wr
 induction wr generalizing m with
 | nil => intro _; rfl
 | cons q r ih =>
  obtain ⟨c, x⟩ := q
  intro h
  simp only [setMem]
  rw [List.set_append_left _ _ (h (c, x) (List.mem_cons_self ..)), ih (fun q hq => by simpa using h q (List.mem_cons_of_mem _ hq))]
structure Mate (L : Nat) (d1 d2 : Option Tmp) (e1 e2 : Eff) : Prop where
 dst : ∀ d, d1 = some d → d2 ≠ some d
 wr : ∀ q ∈ e1.wr, ∀ q' ∈ e2.wr, q.1 ≠ q'.1
 push : e1.push = [] ∨ e2.push = []
 low1 : e1.push ≠ [] → ∀ q ∈ e2.wr, q.1 < L
 low2 : e2.push ≠ [] → ∀ q ∈ e1.wr, q.1 < L
theorem zng {tmps : List AV} {d1 d2 : Option Tmp} {v1 v2 : AV} (h : ∀ d, d1 = some d → d2 ≠ some d) : putA (putA tmps d1 v1) d2 v2 = putA (putA tmps d2 v2) d1 v1 := by
 cases d1 with
 | none => rfl
 | some a =>
  cases d2 with
  | none => rfl
  | some b => simp only [putA, zS]; rw [List.set_comm _ _ (fun e => h a rfl (by rw [e]))]
theorem Eff.comm {L : Nat} {d1 d2 : Option Tmp} {e1 e2 : Eff} {st : St} (hm : Mate L d1 d2 e1 e2) (hl : st.mem.length = L ∨ (e1.push = [] ∧ e2.push = [])) : e2.app d2 (e1.app d1 st) = e1.app d1 (e2.app d2 st) := by
 have hmem : setMem (setMem st.mem e1.wr ++ e1.push) e2.wr ++ e2.push = setMem (setMem st.mem e2.wr ++ e2.push) e1.wr ++ e1.push := by
  have hcomm := zkU (m := st.mem) (a := e1.wr) (b := e2.wr) (fun q hq q' hq' e => hm.wr q' hq' q hq e.symm)
  by_cases h1 : e1.push = []
  ·by_cases h2 : e2.push = []
   ·rw [h1, h2]; simp only [List.append_nil]; exact hcomm
   ·rcases hl with hl | ⟨_, h⟩
    ·rw [h1]; simp only [List.append_nil]
     rw [zeC (m := setMem st.mem e2.wr) (fun q hq => by rw [zp, hl]; exact hm.low2 h2 q hq), hcomm]
    ·exact absurd h h2
  ·rcases hl with hl | ⟨h, _⟩
   ·have h2 : e2.push = [] := hm.push.resolve_left h1
    rw [h2]; simp only [List.append_nil]
    rw [zeC (m := setMem st.mem e1.wr) (fun q hq => by rw [zp, hl]; exact hm.low1 h1 q hq), hcomm]
   ·exact absurd h h1
 simp only [Eff.app, hmem, zng hm.dst]
end
end Go.Ab
end
section
/- What stands ahead of what; effects that have nothing to do with one another, in another order. -/
set_option linter.unusedVariables false
set_option linter.unusedSectionVars false
set_option linter.unusedSimpArgs false
namespace Go.Ab
variable [GTab]
def Closed (ops : Array Oper) (D : Nat → Bool) : Prop := ∀ (j : Nat) (o : Oper), ops[j]? = some o → ∀ e ∈ o.after, Region.binds .any e = true → D j = true → D e.on = true
theorem zdO {acc : List Nat} : ∀ {es : List Edge} {i : Nat}, (maskOf acc es).testBit i = true → ∃ e ∈ es, Region.binds .any e = true ∧ (i = e.on ∨ (acc.getD e.on 0).testBit i = true)
 | [], i, h => by simp [maskOf] at h
 | e :: r, i, h => by
  simp only [maskOf] at h
  cases hb : Region.binds .any e with
  | true =>
   rw [hb] at h; simp only [cond_true, Nat.testBit_or, Bool.or_eq_true] at h
   rcases h with (h | h) | h
   ·refine ⟨e, List.mem_cons_self .., hb, .inl ?_⟩
    rw [Nat.testBit_two_pow] at h
    exact (of_decide_eq_true h).symm
   ·exact ⟨e, List.mem_cons_self .., hb, .inr h⟩
   ·obtain ⟨e', he, h1, h2⟩ := zdO h
    exact ⟨e', List.mem_cons_of_mem _ he, h1, h2⟩
  | false =>
   rw [hb] at h; simp only [cond_false] at h
   obtain ⟨e', he, h1, h2⟩ := zdO h
   exact ⟨e', List.mem_cons_of_mem _ he, h1, h2⟩
theorem zcH {i : Nat} : ∀ {es : List Edge}, edgesLt i es = true → ∀ e ∈ es, Region.binds .any e = true → e.on < i
 | [], _, e, he, _ => by simp at he
 | x :: r, h, e, he, hb => by
  simp only [edgesLt, Bool.and_eq_true, Bool.or_eq_true, Bool.not_eq_true'] at h
  rcases List.mem_cons.1 he with rfl | he
  ·rcases h.1 with h1 | h1
   ·rw [hb] at h1; cases h1
   ·simp [Nat.blt] at h1; omega
  ·exact zcH h.2 e he hb
theorem zbG : ∀ {l : List Oper} {i j : Nat} {o : Oper}, edgesBack l i = true → l[j]? = some o → edgesLt (i + j) o.after.toList = true
 | [], i, j, o, _, h => by simp at h
 | x :: r, i, 0, o, h, hj => by
  simp only [edgesBack, Bool.and_eq_true] at h
  simp at hj; subst hj; exact h.1
 | x :: r, i, j + 1, o, h, hj => by
  simp only [edgesBack, Bool.and_eq_true] at h
  have := zbG (j := j) h.2 (by simpa using hj)
  rw [show i + (j + 1) = i + 1 + j by omega]; exact this
theorem zkc {ops : Array Oper} (hE : edgesBack ops.toList 0 = true) : ∀ {l : List Oper} {acc : List Nat}, ops.toList.drop acc.length = l → acc.length ≤ ops.size →
  (∀ j i, j < acc.length → (acc.getD j 0).testBit i = true → i < j ∧ ∀ D, Closed ops D → D j = true → D i = true) →
  ∀ j i, ((befL l acc).getD j 0).testBit i = true → i < j ∧ j < ops.size ∧ ∀ D, Closed ops D → D j = true → D i = true
 | [], acc, hd, hle, h => by
  intro j i hb
  simp only [befL] at hb
  by_cases hj : j < acc.length
  ·exact ⟨(h j i hj hb).1, by omega, (h j i hj hb).2⟩
  ·rw [List.getD_eq_getElem?_getD, List.getElem?_eq_none (by omega)] at hb; simp at hb
 | o :: r, acc, hd, hle, h => by
  simp only [befL]
  have ho : ops[acc.length]? = some o := by
   have : (ops.toList.drop acc.length)[0]? = some o := by rw [hd]; rfl
   rw [List.getElem?_drop, Nat.add_zero, Array.getElem?_toList] at this; exact this
  have hlt : acc.length < ops.size := (Array.getElem?_eq_some_iff.1 ho).1
  refine zkc hE (l := r) (by rw [List.length_append, ← List.drop_drop, hd]; rfl) (by simp; omega) fun j i hj hb => ?_
  by_cases hjl : j < acc.length
  ·rw [List.getD_eq_getElem?_getD, List.getElem?_append_left hjl, ← List.getD_eq_getElem?_getD] at hb
   exact h j i hjl hb
  ·have hje : j = acc.length := by simp at hj; omega
   subst hje
   rw [List.getD_eq_getElem?_getD, List.getElem?_append_right (Nat.le_refl _)] at hb
   simp only [Nat.sub_self, List.getElem?_cons_zero, Option.getD_some] at hb
   obtain ⟨e, he, hbind, hi⟩ := zdO hb
   have hon := zcH (by have := zbG (j := acc.length) hE (by rw [Array.getElem?_toList]; exact ho); rwa [Nat.zero_add] at this) e he hbind
   have hcl : ∀ D, Closed ops D → D acc.length = true → D e.on = true := fun D hD hd => hD acc.length o ho e (by simpa using he) hbind hd
   rcases hi with rfl | hi
   ·exact ⟨hon, hcl⟩
   ·obtain ⟨h1, h2⟩ := h e.on i hon hi
    exact ⟨by omega, fun D hD hd => h2 D hD (hcl D hD hd)⟩
theorem zef {ops : Array Oper} (hE : edgesBack ops.toList 0 = true) {j i : Nat} (h : ((befL ops.toList []).getD j 0).testBit i = true) : i < j ∧ ∀ D, Closed ops D → D j = true → D i = true := by
 obtain ⟨h1, _, h2⟩ := zkc hE (l := ops.toList) (acc := []) (by simp) (by simp) (fun j i hj _ => by simp at hj) j i h
 exact ⟨h1, h2⟩
theorem zgE : ∀ {n a j : Nat}, a ≤ j → j < a + n → j ∈ rangeN a n
 | 0, a, j, h1, h2 => by omega
 | n + 1, a, j, h1, h2 => by
  simp only [rangeN]
  rcases Nat.lt_or_ge a j with h | h
  ·exact List.mem_cons_of_mem _ (zgE (by omega) (by omega))
  ·obtain rfl : j = a := by omega
   exact List.mem_cons_self ..
theorem zeo {ops : Array Oper} {bs : List Nat} {i : Nat} : ∀ {l : List Nat}, apartAll ops bs i l = true → ∀ j ∈ l, ordered bs i j = true ∨ apartAt ops i j = true
 | [], _, j, hj => by simp at hj
 | x :: r, h, j, hj => by
  simp only [apartAll, Bool.and_eq_true, Bool.or_eq_true] at h
  rcases List.mem_cons.1 hj with rfl | hj
  ·exact h.1
  ·exact zeo h.2 j hj
theorem zcu {ops : Array Oper} {bs : List Nat} : ∀ {n a i j : Nat}, apartsOk ops bs (rangeN a n) = true → a ≤ i → i < j → j < a + n → ordered bs i j = true ∨ apartAt ops i j = true
 | 0, a, i, j, _, h1, h2, h3 => by omega
 | n + 1, a, i, j, h, h1, h2, h3 => by
  simp only [rangeN, apartsOk, Bool.and_eq_true] at h
  rcases Nat.lt_or_ge a i with hlt | hge
  ·exact zcu h.2 (by omega) h2 (by omega)
  ·obtain rfl : i = a := by omega
   exact zeo h.1 j (zgE (by omega) (by omega))
theorem zfC {bs : List Nat} {i : Nat} : ∀ {l : List Oper} {s j : Nat} {o : Oper}, noCalls bs i l s = true → l[j]? = some o → i = s + j ∨ ordered bs i (s + j) = true ∨ isCallOp o = false
 | [], s, j, o, _, h => by simp at h
 | x :: r, s, 0, o, h, hj => by
  simp only [noCalls, Bool.and_eq_true, Bool.or_eq_true, Bool.not_eq_true'] at h
  simp at hj; subst hj
  rcases h.1 with (h | h) | h
  ·exact .inl (beqN.1 h)
  ·exact .inr (.inl h)
  ·exact .inr (.inr h)
 | x :: r, s, j + 1, o, h, hj => by
  simp only [noCalls, Bool.and_eq_true] at h
  have := zfC (j := j) h.2 (by simpa using hj)
  rw [show s + (j + 1) = s + 1 + j by omega]; exact this
theorem zgR {ops : Array Oper} {bs : List Nat} : ∀ {l : List Tr}, pushOk ops bs l = true → ∀ a ∈ l, a.push = true → noCalls bs a.i ops.toList 0 = true
 | [], _, a, ha, _ => by simp at ha
 | x :: r, h, a, ha, hp => by
  simp only [pushOk, Bool.and_eq_true, Bool.or_eq_true, Bool.not_eq_true'] at h
  rcases List.mem_cons.1 ha with rfl | ha
  ·rcases h.1 with h1 | h1
   ·rw [hp] at h1; cases h1
   ·exact h1
  ·exact zgR h.2 a ha hp
structure TrRel (bs : List Nat) (L : Nat) (a b : Tr) : Prop where
 push : a.push = true → b.push = true → False
 far : ordered bs a.i b.i = false → (∀ x ∈ a.wr, x ∉ b.rd) ∧ (∀ x ∈ a.rd, x ∉ b.wr) ∧ (∀ x ∈ a.wr, x ∉ b.wr) ∧ (a.push = true → (∀ x ∈ b.rd, x < L) ∧ ∀ x ∈ b.wr, x < L) ∧ (b.push = true → (∀ x ∈ a.rd, x < L) ∧ ∀ x ∈ a.wr, x < L)
theorem zbY {m : Nat} : ∀ {l : List Nat}, allLt m l = true → ∀ b ∈ l, b < m
 | [], _, b, h => by simp at h
 | x :: r, h, b, hb => by
  simp only [allLt, Bool.and_eq_true] at h
  rcases List.mem_cons.1 hb with rfl | hb
  ·have := h.1; simp [Nat.blt] at this; omega
  ·exact zbY h.2 b hb
theorem zkT {bs : List Nat} {L : Nat} {a : Tr} : ∀ {l : List Tr}, trOk bs L a l = true → ∀ b ∈ l, TrRel bs L a b
 | [], _, b, h => by simp at h
 | x :: r, h, b, hb => by
  simp only [trOk, Bool.and_eq_true] at h
  rcases List.mem_cons.1 hb with rfl | hb
  ·refine ⟨fun h1 h2 => by have := h.1.1; rw [h1, h2] at this; simp at this, fun ho => ?_⟩
   have := h.1.2
   rw [ho] at this
   simp only [Bool.false_or, Bool.and_eq_true, Bool.or_eq_true, Bool.not_eq_true'] at this
   obtain ⟨⟨⟨⟨h1, h2⟩, h3⟩, h4⟩, h5⟩ := this
   refine ⟨zdn h1, zdn h2, zdn h3, fun hp => ?_, fun hp => ?_⟩
   ·rcases h4 with h4 | h4
    ·rw [hp] at h4; cases h4
    ·exact ⟨zbY h4.1, zbY h4.2⟩
   ·rcases h5 with h5 | h5
    ·rw [hp] at h5; cases h5
    ·exact ⟨zbY h5.1, zbY h5.2⟩
  ·exact zkT h.2 b hb
theorem zcK {bs : List Nat} {L : Nat} : ∀ {l : List Tr}, trsOk bs L l = true → l.Pairwise (TrRel bs L)
 | [], _ => .nil
 | a :: r, h => by
  simp only [trsOk, Bool.and_eq_true] at h
  exact .cons (zkT h.1) (zcK h.2)
theorem zcy {bs : List Nat} {i j : Nat} : ordered bs i j = ordered bs j i := by unfold ordered; rw [Bool.or_comm]
theorem TrRel.symm {bs : List Nat} {L : Nat} {a b : Tr} (h : TrRel bs L a b) : TrRel bs L b a :=
 ⟨fun h1 h2 => h.push h2 h1, fun ho => by
  obtain ⟨h1, h2, h3, h4, h5⟩ := h.far (by rw [zcy]; exact ho)
  exact ⟨fun x hx hb => h2 x hb hx, fun x hx hb => h1 x hb hx, fun x hx hb => h3 x hb hx, h5, h4⟩⟩
section
variable {P : Program} {C : Oracle} {an : Ann} {rid : Nat} {ops : Array Oper}
theorem OStep2.facts {o : Oper} {i rs : Nat} {st : St} {e : Eff} (h : OStep2 P C an rid ops o i rs st e) :
  (∀ q ∈ e.wr, ∃ t, e.tr = some t ∧ q.1 ∈ t.wr) ∧ (e.push ≠ [] → ∃ t, e.tr = some t ∧ t.push = true) ∧ (∀ t, e.tr = some t → t.i = i) := by
 cases h with
 | run out hres ho hg =>
  refine ⟨fun q hq => ⟨_, rfl, ?_⟩, fun hp => ⟨_, rfl, ?_⟩, fun t ht => ?_⟩
  ·simp only [Out.tr]
   cases makes o.op with
   | true => simp only [cond_true]; exact List.mem_cons_of_mem _ (List.mem_map.2 ⟨q, hq, rfl⟩)
   | false => simp only [cond_false]; exact List.mem_map.2 ⟨q, hq, rfl⟩
  ·show (match out.push with | [] => false | _ => true) = true
   split
   ·rename_i hh; exact absurd hh hp
   ·rfl
  ·cases ht; rfl
 | skip j want d hg hd h => exact ⟨fun q hq => by simp at hq, fun hp => absurd rfl hp, fun t ht => by cases ht⟩
structure NoTouch (S F : Nat → Prop) (L : Nat) (o : Oper) (e : Eff) : Prop where
 dst : ∀ d, o.dst = some d → ¬ S d
 wr : ∀ q ∈ e.wr, ¬ F q.1
 push : e.push ≠ [] → ∀ b, F b → b < L
theorem zdo (e : Eff) (d : Option Tmp) (st : St) : (e.app d st).mem.length = st.mem.length + e.push.length := by simp [Eff.app, zp]
theorem Agree.symm {S F : Nat → Prop} {st st' : St} (h : Agree S F st st') : Agree S F st' st := ⟨fun d hd => (h.1 d hd).symm, fun b hb => (h.2 b hb).symm⟩
theorem zip {S F : Nat → Prop} {L : Nat} {o : Oper} {e : Eff} {st st' : St} (h : Agree S F st st') (hn : NoTouch S F L o e) (hl : e.push ≠ [] → st'.mem.length = L) : Agree S F st (e.app o.dst st') := by
 refine ⟨fun d hd => ?_, fun b hb => ?_⟩
 ·rw [← h.1 d hd]
  simp only [Eff.app]
  cases hdst : o.dst with
  | none => rfl
  | some t =>
   simp only [putA, zS]
   exact List.getElem?_set_ne (fun e => hn.dst t hdst (by rw [e]; exact hd))
 ·rw [← h.2 b hb]
  simp only [Eff.app]
  have hoff : (setMem st'.mem e.wr)[b]? = st'.mem[b]? := zlK fun q hq e => hn.wr q hq (by rw [e]; exact hb)
  by_cases hp : e.push = []
  ·rw [hp, List.append_nil]; exact hoff
  ·rw [List.getElem?_append_left (by rw [zp, hl hp]; exact hn.push hp b hb)]; exact hoff
theorem zlb {S F : Nat → Prop} {d : Option Tmp} {e : Eff} {st st' : St} (h : Agree S F st st') (hl : e.push ≠ [] → st'.mem.length = st.mem.length) : Agree S F (e.app d st) (e.app d st') := by
 refine ⟨fun t ht => ?_, fun b hb => ?_⟩
 ·simp only [Eff.app]
  cases d with
  | none => exact h.1 t ht
  | some d =>
   simp only [putA, zS]
   have := h.1 t ht
   rw [List.getElem?_set, List.getElem?_set]
   by_cases hd : d = t
   ·subst hd
    simp only [if_true]
    by_cases hl : d < st.tmps.length
    ·have h' : d < st'.tmps.length := by
      rcases Nat.lt_or_ge d st'.tmps.length with h' | h'
      ·exact h'
      ·rw [List.getElem?_eq_none h', List.getElem?_eq_getElem hl] at this; cases this
     rw [if_pos hl, if_pos h']
    ·have h' : ¬ d < st'.tmps.length := by
      intro h'
      rw [List.getElem?_eq_getElem h', List.getElem?_eq_none (Nat.le_of_not_lt hl)] at this; cases this
     rw [if_neg hl, if_neg h']
   ·rw [if_neg hd, if_neg hd]; exact this
 ·simp only [Eff.app]
  have hs : (setMem st'.mem e.wr)[b]? = (setMem st.mem e.wr)[b]? := zmo (h.2 b hb)
  by_cases hp : e.push = []
  ·rw [hp, List.append_nil, List.append_nil]; exact hs
  ·have hl := hl hp
   by_cases hb2 : b < st.mem.length
   ·rw [List.getElem?_append_left (by rw [zp, hl]; exact hb2), List.getElem?_append_left (by rw [zp]; exact hb2)]; exact hs
   ·rw [List.getElem?_append_right (by rw [zp, hl]; omega), List.getElem?_append_right (by rw [zp]; omega), zp, zp, hl]
def noPush (l : List (Oper × Eff)) : Prop := ∀ q ∈ l, q.2.push = []
def onePush (l : List (Oper × Eff)) : Prop := l.Pairwise fun a b => a.2.push = [] ∨ b.2.push = []
theorem zbs {S F : Nat → Prop} {L : Nat} {D D' : Nat → Bool} : ∀ {l : List (Oper × Eff)} {i : Nat} {st st' : St}, (st.mem.length = L ∨ noPush l) → (st'.mem.length = L ∨ noPush l) → onePush l →
  (∀ k o e, l[k]? = some (o, e) → D (i + k) ≠ D' (i + k) → NoTouch S F L o e) → Agree S F st st' → Agree S F (foldD D i l st) (foldD D' i l st')
 | [], i, st, st', _, _, _, _, h => h
 | (o, e) :: r, i, st, st', hl, hl', ho, hn, h => by
  simp only [foldD]
  have h1 : ∀ {s : St}, (s.mem.length = L ∨ noPush ((o, e) :: r)) → (e.push ≠ [] → s.mem.length = L) := by
   intro s hs hp
   rcases hs with hs | hs
   ·exact hs
   ·exact absurd (hs (o, e) (List.mem_cons_self ..)) hp
  have hrest : e.push ≠ [] → noPush r := by
   intro hp q hq
   have := List.pairwise_cons.1 ho
   exact (this.1 q hq).resolve_left hp
  have h2 : ∀ {s : St}, (s.mem.length = L ∨ noPush ((o, e) :: r)) → ((e.app o.dst s).mem.length = L ∨ noPush r) := by
   intro s hs
   by_cases hp : e.push = []
   ·rw [zdo, hp]
    exact hs.imp (fun h => by simpa using h) (fun h q hq => h q (List.mem_cons_of_mem _ hq))
   ·exact .inr (hrest hp)
  have h3 : ∀ {s : St}, (s.mem.length = L ∨ noPush ((o, e) :: r)) → (s.mem.length = L ∨ noPush r) := fun hs => hs.imp id (fun h q hq => h q (List.mem_cons_of_mem _ hq))
  have hn' : ∀ k o' e', r[k]? = some (o', e') → D (i + 1 + k) ≠ D' (i + 1 + k) → NoTouch S F L o' e' := fun k o' e' hk hne => hn (k + 1) o' e' (by simpa using hk) (by rw [show i + (k + 1) = i + 1 + k by omega]; exact hne)
  have ho' := (List.pairwise_cons.1 ho).2
  cases hD : D i with
  | true =>
   cases hD' : D' i with
   | true => exact zbs (h2 hl) (h2 hl') ho' hn' (zlb h (fun hp => by rw [h1 hl hp, h1 hl' hp]))
   | false =>
    have hnt := hn 0 o e rfl (by rw [Nat.add_zero, hD, hD']; simp)
    exact zbs (h2 hl) (h3 hl') ho' hn' (zip h.symm hnt (h1 hl)).symm
  | false =>
   cases hD' : D' i with
   | true =>
    have hnt := hn 0 o e rfl (by rw [Nat.add_zero, hD, hD']; simp)
    exact zbs (h3 hl) (h2 hl') ho' hn' (zip h hnt (h1 hl'))
   | false => exact zbs (h3 hl) (h3 hl') ho' hn' h
theorem zgF {D D' : Nat → Bool} : ∀ {l : List (Oper × Eff)} {i : Nat} {st st' : St}, st'.mem.length = st.mem.length → (∀ k o e, l[k]? = some (o, e) → e.push ≠ [] → D (i + k) = D' (i + k)) → (foldD D' i l st').mem.length = (foldD D i l st).mem.length
 | [], i, st, st', h, _ => h
 | (o, e) :: r, i, st, st', h, hn => by
  simp only [foldD]
  refine zgF ?_ (fun k o' e' hk hp => by have := hn (k + 1) o' e' (by simpa using hk) hp; rwa [show i + (k + 1) = i + 1 + k by omega] at this)
  by_cases hp : e.push = []
  ·cases D i <;> cases D' i <;> simp only [cond_true, cond_false, zdo, hp, List.length_nil, Nat.add_zero] <;> exact h
  ·have := hn 0 o e rfl hp
   rw [Nat.add_zero] at this
   rw [this]
   cases D' i <;> simp only [cond_true, cond_false, zdo, h]
theorem zci {D : Nat → Bool} : ∀ {a b : List (Oper × Eff)} {i : Nat} {st : St}, foldD D i (a ++ b) st = foldD D (i + a.length) b (foldD D i a st)
 | [], b, i, st => rfl
 | (o, e) :: a, b, i, st => by
  simp only [List.cons_append, foldD, List.length_cons]
  rw [zci, show i + 1 + a.length = i + (a.length + 1) by omega]
theorem zhN {L : Nat} {D : Nat → Bool} {e : Eff} {d : Option Tmp} : ∀ {l : List (Oper × Eff)} {i : Nat} {st : St}, (st.mem.length = L ∨ (e.push = [] ∧ noPush l)) → onePush l → (∀ q ∈ l, e.push = [] ∨ q.2.push = []) →
  (∀ k o' e', l[k]? = some (o', e') → D (i + k) = true → Mate L d o'.dst e e') → foldD D i l (e.app d st) = e.app d (foldD D i l st)
 | [], i, st, _, _, _, _ => rfl
 | (o', e') :: r, i, st, hl, ho, hpp, hm => by
  simp only [foldD]
  have ho' := List.pairwise_cons.1 ho
  have hm' : ∀ k o2 e2, r[k]? = some (o2, e2) → D (i + 1 + k) = true → Mate L d o2.dst e e2 := fun k o2 e2 hk hd => hm (k + 1) o2 e2 (by simpa using hk) (by rw [show i + (k + 1) = i + 1 + k by omega]; exact hd)
  have hpp' : ∀ q ∈ r, e.push = [] ∨ q.2.push = [] := fun q hq => hpp q (List.mem_cons_of_mem _ hq)
  cases hD : D i with
  | true =>
   simp only [cond_true]
   have hmate := hm 0 o' e' rfl (by rw [Nat.add_zero]; exact hD)
   rw [Eff.comm hmate (hl.imp id (fun h => ⟨h.1, h.2 (o', e') (List.mem_cons_self ..)⟩))]
   refine zhN (L := L) ?_ ho'.2 hpp' hm'
   by_cases hp : e'.push = []
   ·rw [zdo, hp]
    exact hl.imp (fun h => by simpa using h) (fun h => ⟨h.1, fun q hq => h.2 q (List.mem_cons_of_mem _ hq)⟩)
   ·exact .inr ⟨hmate.push.resolve_right hp, fun q hq => (ho'.1 q hq).resolve_left hp⟩
  | false =>
   simp only [cond_false]
   exact zhN (L := L) (hl.imp id (fun h => ⟨h.1, fun q hq => h.2 q (List.mem_cons_of_mem _ hq)⟩)) ho'.2 hpp' hm'
end
end Go.Ab
end
section
/- A region that draws its order. -/
set_option linter.unusedVariables false
set_option linter.unusedSectionVars false
set_option linter.unusedSimpArgs false
namespace Go.Ab
variable [GTab]
section
variable {P : Program} {C : Oracle} {an : Ann} {rid : Nat} {ops : Array Oper} {R : Type}
theorem zmC {D : Nat → Bool} {n : Nat} (h : ∃ i, i < n ∧ D i = false) : ∃ i, i < n ∧ D i = false ∧ ∀ j, j < i → D j = true := by
 obtain ⟨i, ⟨hi, hd⟩, hmin⟩ := zhz (p := fun i => i < n ∧ D i = false) h
 refine ⟨i, hi, hd, fun j hj => ?_⟩
 cases hD : D j with
 | true => rfl
 | false => have := hmin j ⟨by omega, hD⟩; omega
def left (D : Nat → Bool) : Nat → Nat
 | 0 => 0
 | n + 1 => left D n + (bif D n then 0 else 1)
theorem ziG {D : Nat → Bool} : ∀ {n : Nat}, left D n = 0 → ∀ i, i < n → D i = true
 | 0, _, i, h => by omega
 | n + 1, h, i, hi => by
  simp only [left] at h
  rcases Nat.lt_or_ge i n with h' | h'
  ·exact ziG (by omega) i h'
  ·obtain rfl : i = n := by omega
   cases hD : D i with
   | true => rfl
   | false => rw [hD] at h; simp at h
theorem zjT {D D' : Nat → Bool} {i : Nat} (hD : D i = false) (hD' : D' i = true) (hs : ∀ j, j ≠ i → D' j = D j) : ∀ {n : Nat}, (i < n → left D n = left D' n + 1) ∧ (n ≤ i → left D n = left D' n)
 | 0 => ⟨fun h => by omega, fun _ => rfl⟩
 | n + 1 => by
  obtain ⟨h1, h2⟩ := zjT hD hD' hs (n := n)
  refine ⟨fun h => ?_, fun h => ?_⟩
  ·simp only [left]
   rcases Nat.lt_or_ge i n with hi | hi
   ·rw [h1 hi, hs n (by omega)]; omega
   ·obtain rfl : i = n := by omega
    rw [h2 (Nat.le_refl _), hD, hD']; rfl
  ·simp only [left]
   rw [h2 (by omega), hs n (by omega)]
theorem zku {D : Nat → Bool} : ∀ {n : Nat}, 0 < left D n → ∃ i, i < n ∧ D i = false
 | 0, h => by simp [left] at h
 | n + 1, h => by
  simp only [left] at h
  cases hD : D n with
  | false => exact ⟨n, Nat.lt_succ_self _, hD⟩
  | true =>
   rw [hD] at h; simp only [cond_true, Nat.add_zero] at h
   obtain ⟨i, hi, hd⟩ := zku h
   exact ⟨i, by omega, hd⟩
theorem zmJ (n : Nat) : left (fun _ => false) n = n := by
 induction n with
 | zero => rfl
 | succ n ih => simp [left, ih]
def doneOf (listed : Array Bool) : Nat → Bool := fun i => listed.getD i false
theorem zpi {x y : Option (Nat × Nat × Nat × Nat)} (h : eqQ x y = true) : x = y := by
 unfold eqQ at h
 split at h
 ·rfl
 ·simp only [Bool.and_eq_true] at h
  obtain ⟨⟨⟨h1, h2⟩, h3⟩, h4⟩ := h
  rw [beqN.1 h1, beqN.1 h2, beqN.1 h3, beqN.1 h4]
 ·cases h
theorem zlU : ∀ {x y : List (Option (Nat × Nat × Nat × Nat))}, eqQs x y = true → x = y
 | [], [], _ => rfl
 | x :: xs, y :: ys, h => by
  simp only [eqQs, Bool.and_eq_true] at h
  rw [zpi h.1, zlU h.2]
 | [], _ :: _, h => by cases h
 | _ :: _, [], h => by cases h
theorem znl {x y : Option (Nat × Nat × List (Option (Nat × Nat × Nat × Nat)))} (h : eqCode x y = true) : x = y := by
 unfold eqCode at h
 split at h
 ·simp only [Bool.and_eq_true] at h
  obtain ⟨⟨h1, h2⟩, h3⟩ := h
  rw [beqN.1 h1, beqN.1 h2, zlU h3]
 ·cases h
theorem zcb {b : Nat} {V : Option (Nat × Nat × List (Option (Nat × Nat × Nat × Nat)))} : ∀ {wr : List (Nat × Box)} {m : Mem}, (∀ q ∈ wr, q.1 = b → ptrCode q.2 = V) → ptrCodeAt m b = V → ptrCodeAt (setMem m wr) b = V
 | [], m, _, h => h
 | (c, x) :: wr, m, hw, h => by
  unfold setMem
  refine zcb (fun q hq => hw q (List.mem_cons_of_mem _ hq)) ?_
  by_cases hc : c = b
  ·subst hc
   by_cases hl : c < m.length
   ·unfold ptrCodeAt
    rw [List.getElem?_set_self hl]
    exact hw (c, x) (List.mem_cons_self ..) rfl
   ·rw [List.set_eq_of_length_le (by omega)]; exact h
  ·unfold ptrCodeAt
   rw [List.getElem?_set_ne hc]
   exact h
theorem zdz {b : Nat} {V : Option (Nat × Nat × List (Option (Nat × Nat × Nat × Nat)))} {e : Eff} {d : Option Tmp} {st : St} (hb : b < st.mem.length) (hw : ∀ q ∈ e.wr, q.1 = b → ptrCode q.2 = V) (h : ptrCodeAt st.mem b = V) : ptrCodeAt (e.app d st).mem b = V := by
 have h1 := zcb hw h
 unfold Eff.app
 simp only
 unfold ptrCodeAt at h1 ⊢
 rw [List.getElem?_append_left (by rw [zp]; exact hb)]
 exact h1
theorem zbq {b : Nat} {V : Option (Nat × Nat × List (Option (Nat × Nat × Nat × Nat)))} {D : Nat → Bool} : ∀ {l : List (Oper × Eff)} {i : Nat} {st : St}, b < st.mem.length → (∀ p ∈ l, ∀ q ∈ p.2.wr, q.1 = b → ptrCode q.2 = V) → ptrCodeAt st.mem b = V → ptrCodeAt (foldD D i l st).mem b = V
 | [], i, st, _, _, h => h
 | (o, e) :: l, i, st, hb, hw, h => by
  simp only [foldD]
  cases hD : D i with
  | true =>
   exact zbq (by rw [cond_true, zdo]; omega) (fun p hp => hw p (List.mem_cons_of_mem _ hp)) (zdz hb (hw (o, e) (List.mem_cons_self ..)) h)
  | false => exact zbq hb (fun p hp => hw p (List.mem_cons_of_mem _ hp)) h
theorem zgD {b : Nat} {all : List Tr} (hall : ∀ u ∈ all, b ∉ u.wr ∨ u.wk b = true) : ∀ {l : List (Oper × Eff)} {i rs : Nat} {st : St}, Chain P C an rid ops i rs st l → (∀ p ∈ l, ∀ t, p.2.tr = some t → t ∈ all) → b < st.mem.length →
  ∀ p ∈ l, ∀ q ∈ p.2.wr, q.1 = b → ptrCode q.2 = ptrCodeAt st.mem b
 | [], i, rs, st, _, _, _, p, hp => by cases hp
 | (o, e) :: l, i, rs, st, hc, hm, hb, p, hp => by
  cases hc with
  | cons _ _ _ _ _ _ h hr =>
  have hkeep : ∀ q ∈ e.wr, q.1 = b → ptrCode q.2 = ptrCodeAt st.mem b := by
   intro q hq hqb
   cases h with
   | run out hres ho hg =>
    rcases hall _ (hm (o, _) (List.mem_cons_self ..) _ rfl) with h1 | h1
    ·exfalso
     apply h1
     have : b ∈ out.wr.map (·.1) := List.mem_map.2 ⟨q, hq, hqb⟩
     simp only [Out.tr]
     cases makes o.op with
     | true => exact List.mem_cons_of_mem _ this
     | false => exact this
    ·have h1 : keepsPtrs st.mem out.wr b = true := h1
     unfold keepsPtrs at h1
     have := List.all_eq_true.1 h1 q hq
     simp only [Bool.or_eq_true, Bool.not_eq_true'] at this
     rcases this with h2 | h2
     ·exact absurd hqb (fun e => by rw [e, Nat.beq_refl] at h2; cases h2)
     ·exact znl h2
   | skip j want d hg hd h => cases hq
  rcases List.mem_cons.1 hp with rfl | hp
  ·exact hkeep
  ·intro q hq hqb
   have hlen : b < (e.app o.dst st).mem.length := by rw [zdo]; omega
   rw [zgD hall hr (fun p hp => hm p (List.mem_cons_of_mem _ hp)) hlen p hp q hq hqb]
   exact zdz hb hkeep rfl
structure DrawFacts (P : Program) (C : Oracle) (an : Ann) (rid : Nat) (ops : Array Oper) (L : Nat) (st0 : St) (l : List (Oper × Eff)) (all : List Tr) : Prop where
 map : l.map (·.1) = ops.toList
 len : st0.mem.length = L
 one : onePush l
 step : ∀ (j : Nat) (o : Oper) (e : Eff), l[j]? = some (o, e) → ∃ rs, OStep2 P C an rid ops o j rs (foldD (fun k => Nat.blt k j) 0 l st0) e
 mate : ∀ (i j : Nat) (o o' : Oper) (e e' : Eff), i ≠ j → l[i]? = some (o, e) → l[j]? = some (o', e') → ordered (befL ops.toList []) i j = false →
  Mate L o.dst o'.dst e e' ∧ NoTouch (Slot ops o) (Foot L all e) L o' e' ∧ (e'.push ≠ [] → isCallOp o = false)
 back : edgesBack ops.toList 0 = true
 const : ∀ b, cstB L all b = true → ∀ D, ptrCodeAt (foldD D 0 l st0).mem b = ptrCodeAt st0.mem b
theorem drawFacts {st0 : St} {l : List (Oper × Eff)} {rs L : Nat} (hmap : l.map (·.1) = ops.toList) (hc : Chain P C an rid ops 0 rs st0 l) (hlen : st0.mem.length = L) (hd : drawOk ops L ((l.filterMap (·.2.tr)).reverse) = true) :
  DrawFacts P C an rid ops L st0 l ((l.filterMap (·.2.tr)).reverse) := by
 generalize hall : (l.filterMap (·.2.tr)).reverse = all at hd ⊢
 unfold drawOk at hd
 simp only [Bool.and_eq_true] at hd
 obtain ⟨⟨⟨hback, htrs⟩, hpush⟩, hapart⟩ := hd
 have hstep : ∀ (j : Nat) (o : Oper) (e : Eff), l[j]? = some (o, e) → ∃ rs, OStep2 P C an rid ops o j rs (foldD (fun k => Nat.blt k j) 0 l st0) e := by
  intro j o e hj
  have := hc.get hj
  simpa using this
 have hop : ∀ (j : Nat) (o : Oper) (e : Eff), l[j]? = some (o, e) → ops[j]? = some o := by
  intro j o e hj
  have : (l.map (·.1))[j]? = some o := by rw [List.getElem?_map, hj]; rfl
  rw [hmap, Array.getElem?_toList] at this; exact this
 have hpw := zcK htrs
 rw [List.pairwise_map] at hpw
 conv at hpw => arg 2; rw [← hall]
 rw [List.pairwise_reverse, List.pairwise_filterMap] at hpw
 have hrel : ∀ (i j : Nat) (o o' : Oper) (e e' : Eff), i ≠ j → l[i]? = some (o, e) → l[j]? = some (o', e') → ∀ t t', e.tr = some t → e'.tr = some t' → TrRel (befL ops.toList []) L (fixT L all t) (fixT L all t') := by
  intro i j o o' e e' hne hi hj t t' ht ht'
  obtain ⟨hil, hi2⟩ := List.getElem?_eq_some_iff.1 hi
  obtain ⟨hjl, hj2⟩ := List.getElem?_eq_some_iff.1 hj
  rw [List.pairwise_iff_getElem] at hpw
  rcases Nat.lt_or_gt_of_ne hne with h | h
  ·exact (hpw i j hil hjl h t (by rw [hi2]; exact ht) t' (by rw [hj2]; exact ht')).symm
  ·exact hpw j i hjl hil h t' (by rw [hj2]; exact ht') t (by rw [hi2]; exact ht)
 have hone2 : ∀ (i j : Nat) (o o' : Oper) (e e' : Eff), i ≠ j → l[i]? = some (o, e) → l[j]? = some (o', e') → e.push = [] ∨ e'.push = [] := by
  intro i j o o' e e' hne hi hj
  by_cases h1 : e.push = []
  ·exact .inl h1
  ·by_cases h2 : e'.push = []
   ·exact .inr h2
   ·obtain ⟨rs1, hs1⟩ := hstep i o e hi
    obtain ⟨rs2, hs2⟩ := hstep j o' e' hj
    obtain ⟨t, ht, hp⟩ := hs1.facts.2.1 h1
    obtain ⟨t', ht', hp'⟩ := hs2.facts.2.1 h2
    exact ((hrel i j o o' e e' hne hi hj t t' ht ht').push (by rw [zav.2.2]; exact hp) (by rw [zav.2.2]; exact hp')).elim
 refine ⟨hmap, hlen, ?_, hstep, ?_, hback, ?_⟩
 ·unfold onePush
  rw [List.pairwise_iff_getElem]
  intro i j hi hj hlt
  exact hone2 i j l[i].1 l[j].1 l[i].2 l[j].2 (by omega) (List.getElem?_eq_getElem hi) (List.getElem?_eq_getElem hj)
 ·intro i j o o' e e' hne hi hj hun
  obtain ⟨rs1, hs1⟩ := hstep i o e hi
  obtain ⟨rs2, hs2⟩ := hstep j o' e' hj
  obtain ⟨f1, f2, f3⟩ := hs1.facts
  obtain ⟨g1, g2, g3⟩ := hs2.facts
  have hoi := hop i o e hi
  have hoj := hop j o' e' hj
  have hin : i < ops.size := (Array.getElem?_eq_some_iff.1 hoi).1
  have hjn : j < ops.size := (Array.getElem?_eq_some_iff.1 hoj).1
  have hfar : ∀ t t', e.tr = some t → e'.tr = some t' → _ := fun t t' ht ht' => (hrel i j o o' e e' hne hi hj t t' ht ht').far (by rw [zav.1, zav.1, f3 t ht, g3 t' ht']; exact hun)
  -- slots
  have hsl : (∀ d, o.dst = some d → d ∉ o'.looksAt ops) ∧ (∀ d, o.dst = some d → o'.dst ≠ some d) ∧ (∀ d, o'.dst = some d → d ∉ o.looksAt ops) := by
   rcases Nat.lt_or_gt_of_ne hne with h | h
   ·rcases zcu hapart (Nat.zero_le _) h (by omega) with h' | h'
    ·rw [hun] at h'; cases h'
    ·unfold apartAt at h'
     rw [hoi, hoj] at h'
     exact Oper.apart_spec h'
   ·rcases zcu hapart (Nat.zero_le _) h (by omega) with h' | h'
    ·rw [zcy, hun] at h'; cases h'
    ·unfold apartAt at h'
     rw [hoi, hoj] at h'
     obtain ⟨a1, a2, a3⟩ := Oper.apart_spec h'
     exact ⟨a3, fun d hd hd' => a2 d hd' hd, a1⟩
  refine ⟨⟨hsl.2.1, fun q hq q' hq' => ?_, hone2 i j o o' e e' hne hi hj, fun hp q hq => ?_, fun hp q hq => ?_⟩, ⟨fun d hd hS => hsl.2.2 d hd hS, fun q hq hF => ?_, fun hp b hF => ?_⟩, fun hp => ?_⟩
  ·obtain ⟨t, ht, hm⟩ := f1 q hq
   obtain ⟨t', ht', hm'⟩ := g1 q' hq'
   intro he
   exact (hfar t t' ht ht').2.2.1 _ (by rw [zav.2.1]; exact hm) (by rw [zav.2.1, he]; exact hm')
  ·obtain ⟨t, ht, hpt⟩ := f2 hp
   obtain ⟨t', ht', hm'⟩ := g1 q hq
   exact ((hfar t t' ht ht').2.2.2.1 (by rw [zav.2.2]; exact hpt)).2 _ (by rw [zav.2.1]; exact hm')
  ·obtain ⟨t', ht', hpt⟩ := g2 hp
   obtain ⟨t, ht, hm⟩ := f1 q hq
   exact ((hfar t t' ht ht').2.2.2.2 (by rw [zav.2.2]; exact hpt)).2 _ (by rw [zav.2.1]; exact hm)
  ·obtain ⟨t', ht', hm'⟩ := g1 q hq
   obtain ⟨t, ht, hb⟩ := hF
   obtain ⟨k1, k2, k3, _⟩ := hfar t t' ht ht'
   rcases hb with hb | hb
   ·exact k2 _ hb (by rw [zav.2.1]; exact hm')
   ·exact k3 _ (by rw [zav.2.1]; exact hb) (by rw [zav.2.1]; exact hm')
  ·obtain ⟨t', ht', hpt⟩ := g2 hp
   obtain ⟨t, ht, hb⟩ := hF
   obtain ⟨k1, k2⟩ := (hfar t t' ht ht').2.2.2.2 (by rw [zav.2.2]; exact hpt)
   rcases hb with hb | hb
   ·exact k1 _ hb
   ·exact k2 _ (by rw [zav.2.1]; exact hb)
  ·obtain ⟨t', ht', hpt⟩ := g2 hp
   have hmem : t' ∈ all := by
    rw [← hall, List.mem_reverse, List.mem_filterMap]
    exact ⟨(o', e'), List.mem_of_getElem? hj, ht'⟩
   have hnc := zgR hpush t' hmem hpt
   rw [g3 t' ht'] at hnc
   have := zfC (j := i) hnc (by rw [Array.getElem?_toList]; exact hoi)
   rw [Nat.zero_add] at this
   rcases this with h | h | h
   ·exact absurd h.symm hne
   ·rw [zcy, hun] at h; cases h
   ·exact h
 ·intro b hb D
  unfold cstB at hb
  simp only [Bool.and_eq_true] at hb
  have hbL : b < st0.mem.length := by
   have := hb.1; simp [Nat.blt] at this; omega
  have hall2 : ∀ u ∈ all, b ∉ u.wr ∨ u.wk b = true := by
   intro u hu
   have := List.all_eq_true.1 hb.2 u hu
   simp only [Bool.or_eq_true, Bool.not_eq_true'] at this
   rcases this with h | h
   ·left; intro hm; rw [zbO.2 hm] at h; cases h
   ·exact .inr h
  exact zbq hbL (zgD hall2 hc (fun p hp t ht => by rw [← hall, List.mem_reverse, List.mem_filterMap]; exact ⟨p, hp, ht⟩) hbL) rfl
theorem zjm {listed : Array Bool} {i j : Nat} (hi : i < listed.size) : (listed.setIfInBounds i true).getD j false = (if j = i then true else listed.getD j false) := by
 by_cases h : j = i
 ·subst h
  rw [if_pos rfl, Array.getD_eq_getD_getElem?, Array.getElem?_setIfInBounds_self_of_lt hi]; rfl
 ·rw [if_neg h, Array.getD_eq_getD_getElem?, Array.getElem?_setIfInBounds_ne (fun e => h e.symm), ← Array.getD_eq_getD_getElem?]
theorem zmv (hC : OracleOK P C) {L : Nat} {st0 : St} {l : List (Oper × Eff)} {all : List Tr} (hF : DrawFacts P C an rid ops L st0 l all) {G0 : Gh} {w0 : World} {old : List (Option Bool)} {Q : Exit → Act → World → Prop}
  (hQ : ∀ G w a, SR G w (foldD (fun _ => true) 0 l st0) a → Inv G0 w0 old G w → Q .normal a w) :
  ∀ (fuel : Nat) (listed : Array Bool) (G : Gh) (w : World) (a : Act), listed.size = ops.size → Closed ops (doneOf listed) → left (doneOf listed) ops.size = fuel → SR G w (foldD (doneOf listed) 0 l st0) a → Inv G0 w0 old G w →
   wpAny P .any ops Q fuel listed a w := by
 have hll : l.length = ops.size := by rw [← List.length_map (f := (·.1)) (as := l), hF.map]; simp
 intro fuel
 induction fuel with
 | zero =>
  intro listed G w a hsz hcl hleft hS hI
  have hall := ziG hleft
  refine ⟨?_, hQ G w a ?_ hI⟩
  ·apply List.eq_nil_iff_forall_not_mem.2
   intro j hj
   obtain ⟨h1, o, ho, _⟩ := mem_ready.1 hj
   have hjn := (Array.getElem?_eq_some_iff.1 ho).1
   have := hall j hjn
   unfold doneOf at this
   rw [Array.getD_eq_getD_getElem?, Array.getElem?_eq_getElem (by omega)] at this h1
   simp only [Option.getD_some] at this h1
   rw [this] at h1; cases h1
  ·rw [← zbA (D := doneOf listed) (D' := fun _ => true) (fun k _ hk => hall k (by omega))]; exact hS
 | succ fuel ih =>
  intro listed G w a hsz hcl hleft hS hI
  have hfalse : ∀ i, i < ops.size → listed.getD i true = doneOf listed i := by
   intro i hi
   unfold doneOf
   rw [Array.getD_eq_getD_getElem?, Array.getD_eq_getD_getElem?, Array.getElem?_eq_getElem (by omega)]; rfl
  refine ⟨fun hnil => ?_, fun i hi => ?_⟩
  ·obtain ⟨i, hin, hid, hmin⟩ := zmC (zku (D := doneOf listed) (n := ops.size) (by omega))
   have : i ∈ Region.ready .any ops listed := by
    refine mem_ready.2 ⟨by rw [hfalse i hin]; exact hid, ops[i], Array.getElem?_eq_getElem hin, fun e he hb => ?_⟩
    refine hmin e.on ?_
    have := zbG (j := i) hF.back (by rw [Array.getElem?_toList]; exact Array.getElem?_eq_getElem hin)
    rw [Nat.zero_add] at this
    exact zcH this e (by simpa using he) hb
   rw [hnil] at this; cases this
  ·obtain ⟨h1, o, ho, hpre⟩ := mem_ready.1 hi
   have hin := (Array.getElem?_eq_some_iff.1 ho).1
   rw [hfalse i hin] at h1
   obtain ⟨e, hle⟩ : ∃ e, l[i]? = some (o, e) := by
    have hi2 : i < l.length := by omega
    have : (l.map (·.1))[i]? = some o := by rw [hF.map, Array.getElem?_toList]; exact ho
    rw [List.getElem?_map, List.getElem?_eq_getElem hi2] at this
    exact ⟨l[i].2, by rw [List.getElem?_eq_getElem hi2]; simp at this; rw [← this]⟩
   let D := doneOf listed
   let D1 := doneOf (listed.setIfInBounds i true)
   have hD1 : ∀ j, D1 j = if j = i then true else D j := fun j => zjm (by omega)
   have hD1i : D1 i = true := by rw [hD1, if_pos rfl]
   have hD1n : ∀ j, j ≠ i → D1 j = D j := fun j hj => by rw [hD1, if_neg hj]
   have hcl1 : Closed ops D1 := by
    intro j o' hj e' he hb hd
    by_cases hji : j = i
    ·subst hji
     rw [ho] at hj; obtain rfl := Option.some.inj hj
     have := hpre e' he hb
     rw [hD1]; split
     ·rfl
     ·exact this
    ·rw [hD1n j hji] at hd
     have := hcl j o' hj e' he hb hd
     rw [hD1]; split
     ·rfl
     ·exact this
   -- what differs stands apart
   have hun1 : ∀ k, D k = true → i < k → ordered (befL ops.toList []) i k = false := by
    intro k hk hik
    cases hor : ordered (befL ops.toList []) i k with
    | false => rfl
    | true =>
     unfold ordered at hor
     rw [Bool.or_eq_true] at hor
     rcases hor with hor | hor
     ·have := (zef hF.back hor).2 D hcl hk
      rw [show D i = false from h1] at this; cases this
     ·have := (zef hF.back hor).1; omega
   have hun2 : ∀ k, D k = false → k < i → ordered (befL ops.toList []) i k = false := by
    intro k hk hik
    cases hor : ordered (befL ops.toList []) i k with
    | false => rfl
    | true =>
     unfold ordered at hor
     rw [Bool.or_eq_true] at hor
     rcases hor with hor | hor
     ·have := (zef hF.back hor).1; omega
     ·have := (zef hF.back hor).2 D1 hcl1 hD1i
      rw [hD1n k (by omega), hk] at this; cases this
   have hdiff : ∀ k, (Nat.blt k i) ≠ D k → ordered (befL ops.toList []) i k = false ∧ k ≠ i := by
    intro k hne
    rcases Nat.lt_trichotomy k i with h | h | h
    ·have hb : Nat.blt k i = true := by simp [Nat.blt]; omega
     rw [hb] at hne
     have hk : D k = false := by cases hh : D k with | false => rfl | true => rw [hh] at hne; exact absurd rfl hne
     exact ⟨hun2 k hk h, by omega⟩
    ·subst h
     have hb : Nat.blt k k = false := by cases hb : Nat.blt k k with | false => rfl | true => simp [Nat.blt] at hb; omega
     rw [hb, show D k = false from h1] at hne; exact absurd rfl hne
    ·have hb : Nat.blt k i = false := by cases hb : Nat.blt k i with | false => rfl | true => simp [Nat.blt] at hb; omega
     rw [hb] at hne
     have hk : D k = true := by cases hh : D k with | true => rfl | false => rw [hh] at hne; exact absurd rfl hne
     exact ⟨hun1 k hk h, by omega⟩
   obtain ⟨rs, hstep⟩ := hF.step i o e hle
   have hagree : Agree (Slot ops o) (Foot L all e) (foldD (fun k => Nat.blt k i) 0 l st0) (foldD D 0 l st0) := by
    refine zbs (L := L) (.inl hF.len) (.inl hF.len) hF.one (fun k o' e' hk hne => ?_) ⟨fun _ _ => rfl, fun _ _ => rfl⟩
    rw [Nat.zero_add] at hne
    obtain ⟨hu, hki⟩ := hdiff k hne
    exact (hF.mate i k o o' e e' (fun h => hki h.symm) hle hk hu).2.1
   have hlens : isCallOp o = true → (foldD D 0 l st0).mem.length = (foldD (fun k => Nat.blt k i) 0 l st0).mem.length := by
    intro hcall
    refine zgF rfl (fun k o' e' hk hp => ?_)
    rw [Nat.zero_add]
    by_cases heq : Nat.blt k i = D k
    ·exact heq
    ·obtain ⟨hu, hki⟩ := hdiff k heq
     have := (hF.mate i k o o' e e' (fun h => hki h.symm) hle hk hu).2.2 hp
     rw [this] at hcall; cases hcall
   obtain ⟨e1, hstep1, hv1, hw1, hp1⟩ := hstep.agree hagree hlens (fun t b ht hc _ _ => (hF.const b hc D).trans (hF.const b hc _).symm)
   have hstep' := hstep1.one
   have happ : e1.app o.dst (foldD D 0 l st0) = e.app o.dst (foldD D 0 l st0) := by unfold Eff.app; rw [hv1, hw1, hp1]
   rw [happ] at hstep'
   -- and afterwards
   have hafter : e.app o.dst (foldD D 0 l st0) = foldD D1 0 l st0 := by
    have hil : i < l.length := by omega
    have hel : l[i] = (o, e) := by
     rw [List.getElem?_eq_getElem hil] at hle; exact Option.some.inj hle
    have hsplit : l = l.take i ++ (o, e) :: l.drop (i + 1) := by
     rw [← hel, ← List.drop_eq_getElem_cons hil, List.take_append_drop]
    have htl : (l.take i).length = i := by simp; omega
    have hone := hF.one
    unfold onePush at hone
    rw [hsplit, List.pairwise_append, List.pairwise_cons] at hone
    obtain ⟨ho1, ⟨ho2, ho3⟩, ho4⟩ := hone
    generalize hb : l.drop (i + 1) = b at hsplit ho2 ho3 ho4
    generalize ha : l.take i = pre at hsplit ho1 ho4 htl
    rw [hsplit, zci, zci, Nat.zero_add, htl]
    have hpre' : foldD D1 0 pre st0 = foldD D 0 pre st0 := zbA (fun k _ hk => by rw [Nat.zero_add, htl] at hk; exact hD1n k (by omega))
    rw [hpre']
    simp only [foldD]
    rw [show D i = false from h1, hD1i]
    simp only [cond_true, cond_false]
    rw [zbA (D := D1) (D' := D) (l := b) (fun k hk _ => hD1n k (by omega))]
    refine (zhN (L := L) ?_ ho3 (fun q hq => ho2 q hq) (fun k o' e' hk hd => ?_)).symm
    ·by_cases hp : noPush pre
     ·left
      have : (foldD D 0 pre st0).mem.length = (foldD (fun _ => false) 0 pre st0).mem.length := zgF rfl (fun k o' e' hk hp' => absurd (hp (o', e') (List.mem_of_getElem? hk)) hp')
      rw [this, zch (fun _ _ => rfl)]; exact hF.len
     ·right
      have : ∃ q ∈ pre, q.2.push ≠ [] := by
       apply Classical.byContradiction
       intro hno
       exact hp fun q hq => Classical.byContradiction fun hne => hno ⟨q, hq, hne⟩
      obtain ⟨q, hq, hqp⟩ := this
      exact ⟨(ho4 q hq (o, e) (List.mem_cons_self ..)).resolve_left hqp, fun q' hq' => (ho4 q hq q' (List.mem_cons_of_mem _ hq')).resolve_left hqp⟩
    ·have hk' : l[i + 1 + k]? = some (o', e') := by
      rw [← hb, List.getElem?_drop] at hk; exact hk
     exact (hF.mate i (i + 1 + k) o o' e e' (by omega) hle hk' (hun1 _ hd (by omega))).1
   refine hstep'.sound hC ho hS _ _ (fun G' w' a' hg he hS' => ?_)
   rw [hafter] at hS'
   refine ih (listed.setIfInBounds i true) G' w' a' (by simpa using hsz) hcl1 ?_ hS' (hI.step hg he)
   have := (zjT (D := D) (D' := D1) h1 hD1i hD1n (n := ops.size)).1 hin
   have h2 : left D ops.size = fuel + 1 := hleft
   show left D1 ops.size = fuel
   omega
theorem drawsOK (hm : P.follows .mixedOrders = true) (hC : OracleOK P C) (an : Ann) : DrawsOK P C an := by
 intro R rid ops st k r G0 w0 old G w a Q h hS hI hk
 unfold regionA at h
 obtain ⟨l, hmap, hc, hfin⟩ := zhD h
 rw [List.append_nil] at hfin
 rw [za] at hfin
 obtain ⟨hd, hfin⟩ := hfin
 simp only [Bool.not_true, Bool.false_or] at hd
 have hF := drawFacts (L := st.mem.length + makesN ops.toList) hmap hc (by simp) hd
 have hev : Ev G w w.drew := Ev.drew G w
 have hS' : SR G w.drew { st with mem := st.mem ++ List.replicate (makesN ops.toList) none } a := by
  have hw := hS.widen (makesN ops.toList)
  exact ⟨hw.memr.ev hev (.inl rfl) (fun B _ => rfl), hw.len, fun j x hx => (hw.tmps j x hx).imp id (fun h => h.mono (Gle.refl G) hev), hw.defers⟩
 refine wp_region_any hm ?_
 refine zmv hC hF (G0 := G0) (w0 := w0) (old := old) (fun G' w' a' hS2 hI2 => hk _ G' w' a' hfin hS2.trim hI2) ops.size (Array.replicate ops.size false) G w.drew a (by simp) ?_ ?_ ?_ (hI.step (Gle.refl G) hev)
 ·intro j o ho e he hb hd
  unfold doneOf at hd
  rw [Array.getD_eq_getD_getElem?, Array.getElem?_replicate] at hd
  split at hd <;> simp at hd
 ·have : left (doneOf (Array.replicate ops.size false)) ops.size = left (fun _ => false) ops.size := by
   congr 1
   funext i
   unfold doneOf
   rw [Array.getD_eq_getD_getElem?, Array.getElem?_replicate]
   split <;> rfl
  rw [this, zmJ]
 ·rw [zch]
  ·exact hS'
  ·intro k _
   unfold doneOf
   rw [Array.getD_eq_getD_getElem?, Array.getElem?_replicate]
   split <;> rfl
end
end Go.Ab
end
