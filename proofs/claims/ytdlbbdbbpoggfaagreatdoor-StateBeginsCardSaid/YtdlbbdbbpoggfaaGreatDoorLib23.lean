import Derived.Test.YtdlbbdbbpoggfaaGreatDoorLib22
set_option linter.unusedVariables false
set_option linter.unusedSectionVars false
set_option linter.unusedSimpArgs false
namespace Go.Ab
variable [cD]
noncomputable section
variable {P : Program} {tab : TypeId → Option TI} {C : bZ} {tbl : FuncId → List aG} {an : mQ} {loops : Nat → Option aK} {old : List (Option Bool)}
def Jd.down : Jd → Ex
 | .normal => .normal
 | .exit id => .exit id
 | .ret => .ret
def s6 : (l : List kX) → eP l → Jd × Ah
 | [], d => (.normal, ⟨fun _ => .gone, []⟩)
 | [a], d => (a.ex, q9 a d)
 | a :: b :: r, d => match d with
  | .inl x => (a.ex, q9 a x)
  | .inr y => s6 (b :: r) y
theorem s2 {R : Type} {r : R} : ∀ {l : List kX} {d : eP l} {k : Jd → Ah → Option R}, BX (bI R) l d k = some r → k (s6 l d).1 (s6 l d).2 = some r
 | [], d, k, h => by cases h
 | [a], d, k, h => h
 | a :: b :: l, .inl x, k, h => h
 | a :: b :: l, .inr y, k, h => s2 (l := b :: l) h
theorem HJ {a b : Jd} (h : C8 a b = true) : a = b := by
 cases a <;> cases b <;> first | rfl | (cases h; done) | (rw [nb.1 h])
theorem HG {env : Nat → KV} : ∀ (h : List Nat) (t : Nat), dP h (iW env h) t = .gone ∨ dP h (iW env h) t = env t
 | [], t => .inl rfl
 | s :: h, t => by
  show (bif Nat.beq t s then env s else dP h (iW env h) t) = .gone ∨ (bif Nat.beq t s then env s else dP h (iW env h) t) = env t
  cases z : Nat.beq t s with
  | true => right; rw [nb.1 z]; rfl
  | false => exact HG h t
theorem IW {a : kX} {st : Ah} {d : a.den} (h : nD false a st = some d) : (q9 a d).mem = st.mem ∧ ∀ t, (q9 a d).env t = .gone ∨ (q9 a d).env t = st.env t := by
 unfold nD at h
 split at h <;> try contradiction
 rename_i x hx
 split at h <;> try contradiction
 rename_i y K
 have z := yb h
 have A := (nB hx).trans (congrArg (eY a.sh) (P2.fst_mk' z).symm)
 have J := (w8 K).trans (congrArg (fV a.msh) (P2.snd_mk' z).symm)
 refine ⟨J.symm, fun t => ?_⟩
 have H : (q9 a d).env t = dP a.slots (iW st.env a.slots) t := by
  rw [A]; rfl
 rw [H]
 exact HG a.slots t
theorem zF {e : Jd} {st : Ah} : ∀ {l : List kX} {d : eP l}, z4 false l e st = some d → (s6 l d).1 = e ∧ (s6 l d).2.mem = st.mem ∧ ∀ t, (s6 l d).2.env t = .gone ∨ (s6 l d).2.env t = st.env t
 | [], d, h => by cases h
 | [a], d, h => by
  have z : (bif C8 a.ex e then nD false a st else none) = some d := h
  obtain ⟨h1, h2⟩ := c9.1 z
  exact ⟨HJ h1, IW h2⟩
 | a :: b :: l, d, h => by
  have z : (match (bif C8 a.ex e then nD false a st else none) with
   | some x => some (Sum.inl x)
   | none => (match z4 false (b :: l) e st with | some y => some (Sum.inr y) | none => none)) = some d := h
  split at z
  ·rename_i x hx
   obtain ⟨h1, h2⟩ := c9.1 hx
   have := yb z
   subst this
   exact ⟨HJ h1, IW h2⟩
  ·split at z <;> try contradiction
   rename_i y A
   have := yb z
   subst this
   exact zF (l := b :: l) A
theorem gR.of_le {env z : Nat → KV} {tmps : List AV} (A : gR env tmps) (h : ∀ t, z t = .gone ∨ z t = env t) : gR z tmps := by
 intro t
 rcases h t with h | h
 ·exact .inl h
 ·rw [h]; exact A t
def kW (m : Nat) : Code → Bool
 | .seq a b => kW m a && kW m b
 | .cond _ x y => kW m x && kW m y
 | .block _ c => kW m c
 | .loop c => kW m c
 | .region _ ops _ => ops.toList.all fun o => match o.dst with | some d => Nat.blt d m | none => true
 | _ => true
def ME (tab : TypeId → Option TI) (tbl : FuncId → List aG) (loops : Nat → Option aK) (an : mQ) (old : List (Option Bool)) (n : Nat) (bid : Nat) (c : Code) : Prop :=
 ∀ L, loops bid = some L → ∃ (live : List Nat) (B : eP L.heads → Option (eP L.heads ⊕ eP L.outs)), dU bid an.live = some live ∧ dM 0 live = true ∧ (∀ s, L.run s = aL B n s) ∧
  ∀ s, CC (bI _) tab tbl loops an old c bid live L.heads L.outs s some = B s
def sX (tab : TypeId → Option TI) (tbl : FuncId → List aG) (loops : Nat → Option aK) (an : mQ) (old : List (Option Bool)) (n : Nat) (c : Code) (bid : Nat) : Prop :=
 ∀ q ∈ fD c bid, ME tab tbl loops an old n q.1 q.2
theorem Me {R : Type} {r : R} {a b : Option R} (h : a = some r ∧ b = some r) : Go.Ab.amb a b = some r := by
 unfold Go.Ab.amb
 rw [if_pos (h.1.trans h.2.symm)]; exact h.1
def Q1 (P : Program) (C : bZ) (tab : TypeId → Option TI) (tbl : FuncId → List aG) (loops : Nat → Option aK) (an : mQ) (old : List (Option Bool)) (n m : Nat) (c : Code) : Prop :=
 ∀ {R R1 : Type} {r : R} {r1 : R1} {bid : Nat} {st : Ah} {k : Jd → Ah → Option R} {k1 : Ex → St → Option R1} {tmps : List AV}, sX tab tbl loops an old n c bid → gR st.env tmps → tmps.length = m →
  jD (bI R) tab tbl loops an old c bid st k = some r →
  (∀ e st' tmps', k e st' = some r → gR st'.env tmps' → tmps'.length = m → k1 e.down ⟨tmps', aF st'.mem⟩ = some r1) →
  eG P C an n old c bid ⟨tmps, aF st.mem⟩ k1 = some r1
theorem FM {n m : Nat} {c : Code} (ih : Q1 P C tab tbl loops an old n m c) {J : Nat} (Y : sX tab tbl loops an old n c J) {L : aK} {live : List Nat} {B : eP L.heads → Option (eP L.heads ⊕ eP L.outs)}
  (K : dM 0 live = true) (hB : ∀ s, CC (bI _) tab tbl loops an old c J live L.heads L.outs s some = B s) {R1 : Type} {r1 : R1} {k1 : Ex → St → Option R1} {x : eP L.outs}
  (hk : ∀ z, gR (s6 L.outs x).2.env z → z.length = m → k1 (s6 L.outs x).1.down ⟨z, aF (s6 L.outs x).2.mem⟩ = some r1) :
  ∀ (j : Nat) (s : eP L.heads) (tmps : List AV), aL B (j + 1) s = some x → gR (s6 L.heads s).2.env tmps → tmps.length = m →
   (eG P C an n old c J ⟨tmps, aF (s6 L.heads s).2.mem⟩ fun e H => match e with
    | .normal => vU old live (fun st k => eG P C an n old c J st k) j H k1
    | .exit id => k1 (.exit id) H
    | .ret => k1 .ret H) = some r1
 | j, s, tmps, h, he, hm => by
  have V : ((B s).bind fun q => Sum.rec (fun s' => aL B j s') (fun x => some x) q) = some x := h
  obtain ⟨q, hq, V⟩ := yo1.1 V
  rw [← hB] at hq
  have hq := s2 hq
  refine ih Y he hm hq fun e H z A U O => ?_
  cases e with
  | normal =>
   obtain ⟨st1, M, h1, h2, h3, h4⟩ := FC U K A
   split at h1 <;> try contradiction
   rename_i s' hs'
   have := yb h1
   subst this
   obtain ⟨_, Z, W⟩ := zF hs'
   cases j with
   | zero => cases V
   | succ j =>
    have := FM ih Y K hB hk j s' M V (h3.of_le W) (h4.trans O)
    show vU old live _ (j + 1) ⟨z, aF H.mem⟩ k1 = some r1
    simp only [vU]
    rw [h2, ← Z]
    exact this
  | exit id =>
   simp only at A
   split at A <;> try contradiction
   rename_i x' N
   have := yb A
   subst this
   have := yb V
   subst this
   obtain ⟨e1, Z, W⟩ := zF N
   have := hk z (U.of_le W) O
   rw [e1, Z] at this
   exact this
  | ret =>
   simp only at A
   split at A <;> try contradiction
   rename_i x' N
   have := yb A
   subst this
   have := yb V
   subst this
   obtain ⟨e1, Z, W⟩ := zF N
   have := hk z (U.of_le W) O
   rw [e1, Z] at this
   exact this
 termination_by j => j
theorem Fs (ht : cF P tab) (hC : F4 C tbl) {n m : Nat} (c : Code) (hd : kW m c = true) : Q1 P C tab tbl loops an old n m c := by
 induction c with
 | skip =>
  intro R R1 r r1 z st k k1 tmps J U hm h O
  exact O .normal st tmps h U hm
 | ret =>
  intro R R1 r r1 z st k k1 tmps J U hm h O
  exact O .ret st tmps h U hm
 | exit id =>
  intro R R1 r r1 z st k k1 tmps J U hm h O
  exact O (.exit id) st tmps h U hm
 | seq a b iha ihb =>
  intro R R1 r r1 z st k k1 tmps J U hm h O
  have K : (kW m a && kW m b) = true := hd
  rw [yc] at K
  have Z : jD (bI R) tab tbl loops an old a z st (fun e H => match e with
   | .normal => jD (bI R) tab tbl loops an old b z H k
   | .exit id => k (.exit id) H
   | .ret => k .ret H) = some r := h
  refine iha K.1 (fun q Y => J q (yr1 _ Y)) U hm Z fun e H A h1 N M => ?_
  cases e with
  | normal => exact ihb K.2 (fun q Y => J q (ys1 _ Y)) N M h1 O
  | exit id => exact O (.exit id) H A h1 N M
  | ret => exact O .ret H A h1 N M
 | cond c x y ihx ihy =>
  intro R R1 r r1 z st k k1 tmps J U hm h O
  have K : (kW m x && kW m y) = true := hd
  rw [yc] at K
  have Z : (gK st.env c fun v => match v with
   | .lit (.bool t) => (bI R).ite t (jD (bI R) tab tbl loops an old x z ⟨mS st.env c true, st.mem⟩ k) (jD (bI R) tab tbl loops an old y z ⟨mS st.env c false, st.mem⟩ k)
   | .unkB => (bI R).amb (jD (bI R) tab tbl loops an old x z st k) (jD (bI R) tab tbl loops an old y z st k)
   | _ => none) = some r := h
  obtain ⟨v, hv, h1, hne⟩ := bC U Z
  clear hne
  have W : eG P C an n old (.cond c x y) z ⟨tmps, aF st.mem⟩ k1 = (match fR tmps c with
   | some (.lit (.bool t)) => bif t then eG P C an n old x z ⟨tmps, aF st.mem⟩ k1 else eG P C an n old y z ⟨tmps, aF st.mem⟩ k1
   | some (.imm true (.lit (.bool false))) => Go.Ab.amb (eG P C an n old x z ⟨tmps, aF st.mem⟩ k1) (eG P C an n old y z ⟨tmps, aF st.mem⟩ k1)
   | _ => none) := rfl
  rw [W, hv]
  split at h1 <;> try contradiction
  ·rename_i t
   have hkn : gR (mS st.env c t) tmps := by
    unfold mS
    split
    ·rename_i d
     intro V
     show lV st.env d (.lit (.bool t)) V = .gone ∨ kO tmps V = some (lV st.env d (.lit (.bool t)) V).down ∧ fY (lV st.env d (.lit (.bool t)) V).down = false
     by_cases e : V = d
     ·subst e
      right
      have e2 : lV st.env V (.lit (.bool t)) V = .lit (.bool t) := by
       show (bif Nat.beq V V then KV.lit (.bool t) else st.env V) = _
       rw [ys3]; rfl
      rw [e2]
      refine ⟨?_, rfl⟩
      have := hv
      simp only [fR] at this
      rcases U V with h0 | ⟨h0, h2⟩
      ·exfalso
       have hg := Z
       unfold gK at hg
       simp only [h0] at hg
       cases hg
      ·rw [h0]
       unfold BY at this
       rw [h0] at this
       simpa [h2] using this
     ·have e2 : lV st.env d (.lit (.bool t)) V = st.env V := by
       show (bif Nat.beq V d then KV.lit (.bool t) else st.env V) = _
       have : Nat.beq V d = false := by
        cases hb : Nat.beq V d with
        | true => exact absurd (nb.1 hb) e
        | false => rfl
       rw [this]; rfl
      rw [e2]
      exact U V
    ·exact U
   cases t with
   | true => exact ihx K.1 (fun q Y => J q (yr1 _ Y)) (st := ⟨mS st.env c true, st.mem⟩) hkn hm h1 O
   | false => exact ihy K.2 (fun q Y => J q (ys1 _ Y)) (st := ⟨mS st.env c false, st.mem⟩) hkn hm h1 O
  ·have h1 : Go.Ab.amb (jD (bI R) tab tbl loops an old x z st k) (jD (bI R) tab tbl loops an old y z st k) = some r := h1
   have h1 := Iv h1
   show Go.Ab.amb (eG P C an n old x z ⟨tmps, aF st.mem⟩ k1) (eG P C an n old y z ⟨tmps, aF st.mem⟩ k1) = some r1
   exact Me ⟨ihx K.1 (fun q Y => J q (yr1 _ Y)) U hm h1.1 O, ihy K.2 (fun q Y => J q (ys1 _ Y)) U hm h1.2 O⟩
 | block id c ih =>
  intro R R1 r r1 z st k k1 tmps J U hm h O
  have Z : jD (bI R) tab tbl loops an old c id st (fun e H => match e with
   | .normal => k .normal H
   | .exit j => bif Nat.beq j id then k .normal H else k (.exit j) H
   | .ret => k .ret H) = some r := h
  refine ih hd J U hm Z fun e H A h1 N M => ?_
  cases e with
  | normal => exact O .normal H A h1 N M
  | exit j =>
   have h1 : (bif Nat.beq j id then k .normal H else k (.exit j) H) = some r := h1
   show (bif Nat.beq j id then k1 .normal ⟨A, aF H.mem⟩ else k1 (.exit j) ⟨A, aF H.mem⟩) = some r1
   cases hj : Nat.beq j id with
   | true => rw [hj] at h1; exact O .normal H A h1 N M
   | false => rw [hj] at h1; exact O (.exit j) H A h1 N M
  | ret => exact O .ret H A h1 N M
 | loop c ih =>
  intro R R1 r r1 z st k k1 tmps J U hm h O
  have Z : (match dU z an.live with
   | some live => Fu old live st fun st1 =>
    (match loops z with
    | some L => (match z4 false L.heads .normal st1 with
     | some s => (bI R).bind (L.run s) fun x => BX (bI R) L.outs x k
     | none => none)
    | none => none)
   | none => none) = some r := h
  split at Z <;> try contradiction
  rename_i live hlive
  obtain ⟨hL, hrest⟩ : ME tab tbl loops an old n z c ∧ sX tab tbl loops an old n c z := ⟨J (z, c) (yn ..), fun q Y => J q (yk _ Y)⟩
  cases hlo : loops z with
  | none =>
   simp only [hlo] at Z
   unfold Fu at Z
   exfalso
   obtain ⟨vs, h2, _⟩ := AJ U Z
   obtain ⟨_, _, h3, _⟩ := Ea h2
   cases h3
  | some L =>
   obtain ⟨live', B, hl', hinc, hrun, hB⟩ := hL L hlo
   rw [hlive] at hl'
   obtain rfl := yb hl'
   obtain ⟨st1, tmps1, h1, h2, h3, h4⟩ := FC U hinc Z
   simp only [hlo] at h1
   split at h1 <;> try contradiction
   rename_i s hs
   have h1' : ((L.run s).bind fun x => BX (bI R) L.outs x k) = some r := h1
   obtain ⟨x, hx, h1'⟩ := yo1.1 h1'
   have h5 := s2 h1'
   obtain ⟨_, e2, e3⟩ := zF hs
   rw [hrun] at hx
   have W : eG P C an n old (.loop c) z ⟨tmps, aF st.mem⟩ k1 = (dU z an.live).bind fun live => vU old live (fun st k => eG P C an n old c z st k) n ⟨tmps, aF st.mem⟩ k1 := rfl
   rw [W, hlive, ya]
   cases n with
   | zero => cases hx
   | succ j =>
    have := FM (k1 := k1) (ih hd) hrest hinc hB (fun A N M => O _ _ A h5 N M) j s tmps1 hx (h3.of_le e3) (h4.trans hm)
    simp only [vU]
    rw [h2, ← e2]
    exact this
 | region rid ops draw =>
  intro R R1 r r1 z st k k1 tmps J U hm h O
  refine H1 ht hC (st := st) (fun o ho d hdst => ?_) U h fun H A h1 N M => O .normal H A h1 N (M.trans hm)
  have K : (ops.toList.all fun o => match o.dst with | some d => Nat.blt d m | none => true) = true := hd
  rw [yx] at K
  have := K o ho
  rw [hdst] at this
  simp only at this
  rw [hm]
  rw [Nat.blt_eq] at this; exact this
 | _ => intro R R1 r r1 z st k k1 tmps J U hm h O; cases h
end
end Go.Ab
