import Derived.Test.YtdlbbdbbpoggfaaGreatDoorLib22
set_option linter.unusedVariables false
set_option linter.unusedSectionVars false
set_option linter.unusedSimpArgs false
namespace Go.Ab
variable [cD]
noncomputable section
variable {P : Program} {tab : TypeId → Option TI} {C : bZ} {tbl : FuncId → List aG} {an : mR} {loops : Nat → Option aL} {old : List (Option Bool)}
def Je.down : Je → Ex
 | .normal => .normal
 | .exit id => .exit id
 | .ret => .ret
def s9 : (l : List kS) → eP l → Je × Ah
 | [], d => (.normal, ⟨fun _ => .gone, []⟩)
 | [a], d => (a.ex, rI a d)
 | a :: b :: r, d => match d with
  | .inl x => (a.ex, rI a x)
  | .inr y => s9 (b :: r) y
theorem sU {R : Type} {r : R} : ∀ {l : List kS} {d : eP l} {k : Je → Ah → Option R}, B3 (bI R) l d k = some r → k (s9 l d).1 (s9 l d).2 = some r
 | [], d, k, h => by cases h
 | [a], d, k, h => h
 | a :: b :: l, .inl x, k, h => h
 | a :: b :: l, .inr y, k, h => sU (l := b :: l) h
theorem H1 {a b : Je} (h : E1 a b = true) : a = b := by
 cases a <;> cases b <;> first | rfl | (cases h; done) | (rw [nb.1 h])
theorem HN {env : Nat → KV} : ∀ (h : List Nat) (t : Nat), dP h (i9 env h) t = .gone ∨ dP h (i9 env h) t = env t
 | [], t => .inl rfl
 | s :: h, t => by
  show (bif Nat.beq t s then env s else dP h (i9 env h) t) = .gone ∨ (bif Nat.beq t s then env s else dP h (i9 env h) t) = env t
  cases z : Nat.beq t s with
  | true => right; rw [nb.1 z]; rfl
  | false => exact HN h t
theorem H8 {a : kS} {st : Ah} {d : a.den} (h : m7 false a st = some d) : (rI a d).mem = st.mem ∧ ∀ t, (rI a d).env t = .gone ∨ (rI a d).env t = st.env t := by
 unfold m7 at h
 split at h <;> try contradiction
 rename_i x hx
 split at h <;> try contradiction
 rename_i y A
 have z := yb h
 have J := (nJ hx).trans (congrArg (eX a.sh) (P2.fst_mk' z).symm)
 have H := (zW A).trans (congrArg (fV a.msh) (P2.snd_mk' z).symm)
 refine ⟨H.symm, fun t => ?_⟩
 have K : (rI a d).env t = dP a.slots (i9 st.env a.slots) t := by
  rw [J]; rfl
 rw [K]
 exact HN a.slots t
theorem w6 {e : Je} {st : Ah} : ∀ {l : List kS} {d : eP l}, x8 false l e st = some d → (s9 l d).1 = e ∧ (s9 l d).2.mem = st.mem ∧ ∀ t, (s9 l d).2.env t = .gone ∨ (s9 l d).2.env t = st.env t
 | [], d, h => by cases h
 | [a], d, h => by
  have z : (bif E1 a.ex e then m7 false a st else none) = some d := h
  obtain ⟨h1, h2⟩ := c9.1 z
  exact ⟨H1 h1, H8 h2⟩
 | a :: b :: l, d, h => by
  have z : (match (bif E1 a.ex e then m7 false a st else none) with
   | some x => some (Sum.inl x)
   | none => (match x8 false (b :: l) e st with | some y => some (Sum.inr y) | none => none)) = some d := h
  split at z
  ·rename_i x hx
   obtain ⟨h1, h2⟩ := c9.1 hx
   have := yb z
   subst this
   exact ⟨H1 h1, H8 h2⟩
  ·split at z <;> try contradiction
   rename_i y A
   have := yb z
   subst this
   exact w6 (l := b :: l) A
theorem gQ.of_le {env z : Nat → KV} {tmps : List AV} (A : gQ env tmps) (h : ∀ t, z t = .gone ∨ z t = env t) : gQ z tmps := by
 intro t
 rcases h t with h | h
 ·exact .inl h
 ·rw [h]; exact A t
def kX (m : Nat) : Code → Bool
 | .seq a b => kX m a && kX m b
 | .cond _ x y => kX m x && kX m y
 | .block _ c => kX m c
 | .loop c => kX m c
 | .region _ ops _ => ops.toList.all fun o => match o.dst with | some d => Nat.blt d m | none => true
 | _ => true
def Ni (tab : TypeId → Option TI) (tbl : FuncId → List aG) (loops : Nat → Option aL) (an : mR) (old : List (Option Bool)) (n : Nat) (bid : Nat) (c : Code) : Prop :=
 ∀ L, loops bid = some L → ∃ (live : List Nat) (B : eP L.heads → Option (eP L.heads ⊕ eP L.outs)), dW bid an.live = some live ∧ dN 0 live = true ∧ (∀ s, L.run s = aK B n s) ∧
  ∀ s, Dc (bI _) tab tbl loops an old c bid live L.heads L.outs s some = B s
def sH (tab : TypeId → Option TI) (tbl : FuncId → List aG) (loops : Nat → Option aL) (an : mR) (old : List (Option Bool)) (n : Nat) (c : Code) (bid : Nat) : Prop :=
 ∀ q ∈ e8 c bid, Ni tab tbl loops an old n q.1 q.2
theorem Lt {R : Type} {r : R} {a b : Option R} (h : a = some r ∧ b = some r) : Go.Ab.amb a b = some r := by
 unfold Go.Ab.amb
 rw [if_pos (h.1.trans h.2.symm)]; exact h.1
def QR (P : Program) (C : bZ) (tab : TypeId → Option TI) (tbl : FuncId → List aG) (loops : Nat → Option aL) (an : mR) (old : List (Option Bool)) (n m : Nat) (c : Code) : Prop :=
 ∀ {R R1 : Type} {r : R} {r1 : R1} {bid : Nat} {st : Ah} {k : Je → Ah → Option R} {k1 : Ex → St → Option R1} {tmps : List AV}, sH tab tbl loops an old n c bid → gQ st.env tmps → tmps.length = m →
  iV (bI R) tab tbl loops an old c bid st k = some r →
  (∀ e st' tmps', k e st' = some r → gQ st'.env tmps' → tmps'.length = m → k1 e.down ⟨tmps', aF st'.mem⟩ = some r1) →
  eG P C an n old c bid ⟨tmps, aF st.mem⟩ k1 = some r1
theorem F9 {n m : Nat} {c : Code} (ih : QR P C tab tbl loops an old n m c) {J : Nat} (W : sH tab tbl loops an old n c J) {L : aL} {live : List Nat} {B : eP L.heads → Option (eP L.heads ⊕ eP L.outs)}
  (K : dN 0 live = true) (hB : ∀ s, Dc (bI _) tab tbl loops an old c J live L.heads L.outs s some = B s) {R1 : Type} {r1 : R1} {k1 : Ex → St → Option R1} {x : eP L.outs}
  (hk : ∀ z, gQ (s9 L.outs x).2.env z → z.length = m → k1 (s9 L.outs x).1.down ⟨z, aF (s9 L.outs x).2.mem⟩ = some r1) :
  ∀ (j : Nat) (s : eP L.heads) (tmps : List AV), aK B (j + 1) s = some x → gQ (s9 L.heads s).2.env tmps → tmps.length = m →
   (eG P C an n old c J ⟨tmps, aF (s9 L.heads s).2.mem⟩ fun e H => match e with
    | .normal => vC old live (fun st k => eG P C an n old c J st k) j H k1
    | .exit id => k1 (.exit id) H
    | .ret => k1 .ret H) = some r1
 | j, s, tmps, h, he, hm => by
  have V : ((B s).bind fun q => Sum.rec (fun s' => aK B j s') (fun x => some x) q) = some x := h
  obtain ⟨q, hq, V⟩ := yo1.1 V
  rw [← hB] at hq
  have hq := sU hq
  refine ih W he hm hq fun e H z A M U => ?_
  cases e with
  | normal =>
   obtain ⟨st1, N, h1, h2, h3, h4⟩ := Gd M K A
   split at h1 <;> try contradiction
   rename_i s' hs'
   have := yb h1
   subst this
   obtain ⟨_, Y, Z⟩ := w6 hs'
   cases j with
   | zero => cases V
   | succ j =>
    have := F9 ih W K hB hk j s' N V (h3.of_le Z) (h4.trans U)
    show vC old live _ (j + 1) ⟨z, aF H.mem⟩ k1 = some r1
    simp only [vC]
    rw [h2, ← Y]
    exact this
  | exit id =>
   simp only at A
   split at A <;> try contradiction
   rename_i x' O
   have := yb A
   subst this
   have := yb V
   subst this
   obtain ⟨e1, Y, Z⟩ := w6 O
   have := hk z (M.of_le Z) U
   rw [e1, Y] at this
   exact this
  | ret =>
   simp only at A
   split at A <;> try contradiction
   rename_i x' O
   have := yb A
   subst this
   have := yb V
   subst this
   obtain ⟨e1, Y, Z⟩ := w6 O
   have := hk z (M.of_le Z) U
   rw [e1, Y] at this
   exact this
 termination_by j => j
theorem Gg (ht : cF P tab) (hC : Fx C tbl) {n m : Nat} (c : Code) (hd : kX m c = true) : QR P C tab tbl loops an old n m c := by
 induction c with
 | skip =>
  intro R R1 r r1 z st k k1 tmps J U hm h O
  exact O .normal st tmps h U hm
 | ret =>
  intro R R1 r r1 z st k k1 tmps J U hm h O
  exact O .ret st tmps h U hm
 | exit id =>
  intro R R1 r r1 z st k k1 tmps J U hm h O
  exact O (.exit id) st tmps h U hm
 | seq a b iha ihb =>
  intro R R1 r r1 z st k k1 tmps J U hm h O
  have M : (kX m a && kX m b) = true := hd
  rw [yc] at M
  have Z : iV (bI R) tab tbl loops an old a z st (fun e H => match e with
   | .normal => iV (bI R) tab tbl loops an old b z H k
   | .exit id => k (.exit id) H
   | .ret => k .ret H) = some r := h
  refine iha M.1 (fun q Y => J q (yr1 _ Y)) U hm Z fun e H A h1 K N => ?_
  cases e with
  | normal => exact ihb M.2 (fun q Y => J q (ys1 _ Y)) K N h1 O
  | exit id => exact O (.exit id) H A h1 K N
  | ret => exact O .ret H A h1 K N
 | cond c x y ihx ihy =>
  intro R R1 r r1 z st k k1 tmps J U hm h O
  have M : (kX m x && kX m y) = true := hd
  rw [yc] at M
  have Z : (gI st.env c fun v => match v with
   | .lit (.bool t) => (bI R).ite t (iV (bI R) tab tbl loops an old x z ⟨mY st.env c true, st.mem⟩ k) (iV (bI R) tab tbl loops an old y z ⟨mY st.env c false, st.mem⟩ k)
   | .unkB => (bI R).amb (iV (bI R) tab tbl loops an old x z st k) (iV (bI R) tab tbl loops an old y z st k)
   | _ => none) = some r := h
  obtain ⟨v, hv, h1, hne⟩ := bC U Z
  clear hne
  have W : eG P C an n old (.cond c x y) z ⟨tmps, aF st.mem⟩ k1 = (match fP tmps c with
   | some (.lit (.bool t)) => bif t then eG P C an n old x z ⟨tmps, aF st.mem⟩ k1 else eG P C an n old y z ⟨tmps, aF st.mem⟩ k1
   | some (.imm true (.lit (.bool false))) => Go.Ab.amb (eG P C an n old x z ⟨tmps, aF st.mem⟩ k1) (eG P C an n old y z ⟨tmps, aF st.mem⟩ k1)
   | _ => none) := rfl
  rw [W, hv]
  split at h1 <;> try contradiction
  ·rename_i t
   have hkn : gQ (mY st.env c t) tmps := by
    unfold mY
    split
    ·rename_i d
     intro V
     show mP st.env d (.lit (.bool t)) V = .gone ∨ kU tmps V = some (mP st.env d (.lit (.bool t)) V).down ∧ fW (mP st.env d (.lit (.bool t)) V).down = false
     by_cases e : V = d
     ·subst e
      right
      have e2 : mP st.env V (.lit (.bool t)) V = .lit (.bool t) := by
       show (bif Nat.beq V V then KV.lit (.bool t) else st.env V) = _
       rw [ys3]; rfl
      rw [e2]
      refine ⟨?_, rfl⟩
      have := hv
      simp only [fP] at this
      rcases U V with h0 | ⟨h0, h2⟩
      ·exfalso
       have hg := Z
       unfold gI at hg
       simp only [h0] at hg
       cases hg
      ·rw [h0]
       unfold B9 at this
       rw [h0] at this
       simpa [h2] using this
     ·have e2 : mP st.env d (.lit (.bool t)) V = st.env V := by
       show (bif Nat.beq V d then KV.lit (.bool t) else st.env V) = _
       have : Nat.beq V d = false := by
        cases hb : Nat.beq V d with
        | true => exact absurd (nb.1 hb) e
        | false => rfl
       rw [this]; rfl
      rw [e2]
      exact U V
    ·exact U
   cases t with
   | true => exact ihx M.1 (fun q Y => J q (yr1 _ Y)) (st := ⟨mY st.env c true, st.mem⟩) hkn hm h1 O
   | false => exact ihy M.2 (fun q Y => J q (ys1 _ Y)) (st := ⟨mY st.env c false, st.mem⟩) hkn hm h1 O
  ·have h1 : Go.Ab.amb (iV (bI R) tab tbl loops an old x z st k) (iV (bI R) tab tbl loops an old y z st k) = some r := h1
   have h1 := I4 h1
   show Go.Ab.amb (eG P C an n old x z ⟨tmps, aF st.mem⟩ k1) (eG P C an n old y z ⟨tmps, aF st.mem⟩ k1) = some r1
   exact Lt ⟨ihx M.1 (fun q Y => J q (yr1 _ Y)) U hm h1.1 O, ihy M.2 (fun q Y => J q (ys1 _ Y)) U hm h1.2 O⟩
 | block id c ih =>
  intro R R1 r r1 z st k k1 tmps J U hm h O
  have Z : iV (bI R) tab tbl loops an old c id st (fun e H => match e with
   | .normal => k .normal H
   | .exit j => bif Nat.beq j id then k .normal H else k (.exit j) H
   | .ret => k .ret H) = some r := h
  refine ih hd J U hm Z fun e H A h1 K N => ?_
  cases e with
  | normal => exact O .normal H A h1 K N
  | exit j =>
   have h1 : (bif Nat.beq j id then k .normal H else k (.exit j) H) = some r := h1
   show (bif Nat.beq j id then k1 .normal ⟨A, aF H.mem⟩ else k1 (.exit j) ⟨A, aF H.mem⟩) = some r1
   cases hj : Nat.beq j id with
   | true => rw [hj] at h1; exact O .normal H A h1 K N
   | false => rw [hj] at h1; exact O (.exit j) H A h1 K N
  | ret => exact O .ret H A h1 K N
 | loop c ih =>
  intro R R1 r r1 z st k k1 tmps J U hm h O
  have Z : (match dW z an.live with
   | some live => Gi old live st fun st1 =>
    (match loops z with
    | some L => (match x8 false L.heads .normal st1 with
     | some s => (bI R).bind (L.run s) fun x => B3 (bI R) L.outs x k
     | none => none)
    | none => none)
   | none => none) = some r := h
  split at Z <;> try contradiction
  rename_i live hlive
  obtain ⟨hL, hrest⟩ : Ni tab tbl loops an old n z c ∧ sH tab tbl loops an old n c z := ⟨J (z, c) (yn ..), fun q Y => J q (yk _ Y)⟩
  cases hlo : loops z with
  | none =>
   simp only [hlo] at Z
   unfold Gi at Z
   exfalso
   obtain ⟨vs, h2, _⟩ := AM U Z
   obtain ⟨_, _, h3, _⟩ := CZ h2
   cases h3
  | some L =>
   obtain ⟨live', B, hl', hinc, hrun, hB⟩ := hL L hlo
   rw [hlive] at hl'
   obtain rfl := yb hl'
   obtain ⟨st1, tmps1, h1, h2, h3, h4⟩ := Gd U hinc Z
   simp only [hlo] at h1
   split at h1 <;> try contradiction
   rename_i s hs
   have h1' : ((L.run s).bind fun x => B3 (bI R) L.outs x k) = some r := h1
   obtain ⟨x, hx, h1'⟩ := yo1.1 h1'
   have h5 := sU h1'
   obtain ⟨_, e2, e3⟩ := w6 hs
   rw [hrun] at hx
   have W : eG P C an n old (.loop c) z ⟨tmps, aF st.mem⟩ k1 = (dW z an.live).bind fun live => vC old live (fun st k => eG P C an n old c z st k) n ⟨tmps, aF st.mem⟩ k1 := rfl
   rw [W, hlive, ya]
   cases n with
   | zero => cases hx
   | succ j =>
    have := F9 (k1 := k1) (ih hd) hrest hinc hB (fun A K N => O _ _ A h5 K N) j s tmps1 hx (h3.of_le e3) (h4.trans hm)
    simp only [vC]
    rw [h2, ← e2]
    exact this
 | region rid ops draw =>
  intro R R1 r r1 z st k k1 tmps J U hm h O
  refine IG ht hC (st := st) (fun o ho d hdst => ?_) U h fun H A h1 K N => O .normal H A h1 K (N.trans hm)
  have M : (ops.toList.all fun o => match o.dst with | some d => Nat.blt d m | none => true) = true := hd
  rw [yx] at M
  have := M o ho
  rw [hdst] at this
  simp only at this
  rw [hm]
  rw [Nat.blt_eq] at this; exact this
 | _ => intro R R1 r r1 z st k k1 tmps J U hm h O; cases h
end
end Go.Ab
