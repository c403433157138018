import Derived.Test.YtdlbbdbbpoggfaaLib23
set_option linter.unusedVariables false
set_option linter.unusedSectionVars false
set_option linter.unusedSimpArgs false
namespace Go.Ab
variable [b4]
noncomputable section
variable {P : Program} {tab : TypeId → Option TI} {C : bQ} {tbl : FuncId → List aC} {an : lC} {loops : Nat → Option aL} {old : List (Option Bool)}
def Iu.down : Iu → Ex
 | .normal => .normal
 | .exit id => .exit id
 | .ret => .ret
def wW : (l : List jD) → eO l → Iu × yP
 | [], d => (.normal, ⟨fun _ => .gone, []⟩)
 | [a], d => (a.ex, dY a d)
 | a :: b :: r, d => match d with
  | .inl x => (a.ex, dY a x)
  | .inr y => wW (b :: r) y
theorem vZ {R : Type} {r : R} : ∀ {l : List jD} {d : eO l} {k : Iu → yP → Option R}, IV (aP R) l d k = some r → k (wW l d).1 (wW l d).2 = some r
 | [], d, k, h => by cases h
 | [a], d, k, h => h
 | a :: b :: l, .inl x, k, h => h
 | a :: b :: l, .inr y, k, h => vZ (l := b :: l) h
theorem IS {a b : Iu} (h : FH a b = true) : a = b := by
 cases a <;> cases b <;> first | rfl | (cases h; done) | (rw [nb.1 h])
theorem JN {env : Nat → KV} : ∀ (H : List Nat) (t : Nat), dR H (jF env H) t = .gone ∨ dR H (jF env H) t = env t
 | [], t => .inl rfl
 | s :: H, t => by
  show (bif Nat.beq t s then env s else dR H (jF env H) t) = .gone ∨ (bif Nat.beq t s then env s else dR H (jF env H) t) = env t
  cases I : Nat.beq t s with
  | true => right; rw [nb.1 I]; rfl
  | false => exact JN H t
theorem IF {a : jD} {st : yP} {d : a.den} (h : nH false a st = some d) : (dY a d).mem = st.mem ∧ ∀ t, (dY a d).env t = .gone ∨ (dY a d).env t = st.env t := by
 unfold nH at h
 split at h <;> try contradiction
 rename_i x J
 split at h <;> try contradiction
 rename_i y I
 have H := ya h
 have M := (lM J).trans (congrArg (c9 a.sh) (P2.fst_mk' H).symm)
 have N := (At I).trans (congrArg (e8 a.msh) (P2.snd_mk' H).symm)
 refine ⟨N.symm, fun t => ?_⟩
 have K : (dY a d).env t = dR a.slots (jF st.env a.slots) t := by
  rw [M]; rfl
 rw [K]
 exact JN a.slots t
theorem wC {e : Iu} {st : yP} : ∀ {l : List jD} {d : eO l}, sR false l e st = some d → (wW l d).1 = e ∧ (wW l d).2.mem = st.mem ∧ ∀ t, (wW l d).2.env t = .gone ∨ (wW l d).2.env t = st.env t
 | [], d, h => by cases h
 | [a], d, h => by
  have H : (bif FH a.ex e then nH false a st else none) = some d := h
  obtain ⟨I, J⟩ := bR.1 H
  exact ⟨IS I, IF J⟩
 | a :: b :: l, d, h => by
  have H : (match (bif FH a.ex e then nH false a st else none) with
   | some x => some (Sum.inl x)
   | none => (match sR false (b :: l) e st with | some y => some (Sum.inr y) | none => none)) = some d := h
  split at H
  ·rename_i x M
   obtain ⟨I, J⟩ := bR.1 M
   have := ya H
   subst this
   exact ⟨IS I, IF J⟩
  ·split at H <;> try contradiction
   rename_i y K
   have := ya H
   subst this
   exact wC (l := b :: l) K
theorem fB.of_le {env H : Nat → KV} {tmps : List AV} (I : fB env tmps) (h : ∀ t, H t = .gone ∨ H t = env t) : fB H tmps := by
 intro t
 rcases h t with h | h
 ·exact .inl h
 ·rw [h]; exact I t
def kD (m : Nat) : Code → Bool
 | .seq a b => kD m a && kD m b
 | .cond _ x y => kD m x && kD m y
 | .block _ c => kD m c
 | .loop c => kD m c
 | .region _ ops _ => ops.toList.all fun o => match o.dst with | some d => Nat.blt d m | none => true
 | _ => true
def Oc (tab : TypeId → Option TI) (tbl : FuncId → List aC) (loops : Nat → Option aL) (an : lC) (old : List (Option Bool)) (n : Nat) (bid : Nat) (c : Code) : Prop :=
 ∀ L, loops bid = some L → ∃ (live : List Nat) (B : eO L.heads → Option (eO L.heads ⊕ eO L.outs)), eE bid an.live = some live ∧ dU 0 live = true ∧ (∀ s, L.run s = bL B n s) ∧
  ∀ s, Fg (aP _) tab tbl loops an old c bid live L.heads L.outs s some = B s
def qE (tab : TypeId → Option TI) (tbl : FuncId → List aC) (loops : Nat → Option aL) (an : lC) (old : List (Option Bool)) (n : Nat) (c : Code) (bid : Nat) : Prop :=
 ∀ q ∈ fH c bid, Oc tab tbl loops an old n q.1 q.2
theorem Mb {R : Type} {r : R} {a b : Option R} (h : a = some r ∧ b = some r) : Go.Ab.amb a b = some r := by
 unfold Go.Ab.amb
 rw [if_pos (h.1.trans h.2.symm)]; exact h.1
def QF (P : Program) (C : bQ) (tab : TypeId → Option TI) (tbl : FuncId → List aC) (loops : Nat → Option aL) (an : lC) (old : List (Option Bool)) (n m : Nat) (c : Code) : Prop :=
 ∀ {R R1 : Type} {r : R} {r1 : R1} {bid : Nat} {st : yP} {k : Iu → yP → Option R} {k1 : Ex → St → Option R1} {tmps : List AV}, qE tab tbl loops an old n c bid → fB st.env tmps → tmps.length = m →
  gY (aP R) tab tbl loops an old c bid st k = some r →
  (∀ e st' tmps', k e st' = some r → fB st'.env tmps' → tmps'.length = m → k1 e.down ⟨tmps', aB st'.mem⟩ = some r1) →
  eF P C an n old c bid ⟨tmps, aB st.mem⟩ k1 = some r1
theorem Gw {n m : Nat} {c : Code} (ih : QF P C tab tbl loops an old n m c) {J : Nat} (hls : qE tab tbl loops an old n c J) {L : aL} {live : List Nat} {B : eO L.heads → Option (eO L.heads ⊕ eO L.outs)}
  (M : dU 0 live = true) (hB : ∀ s, Fg (aP _) tab tbl loops an old c J live L.heads L.outs s some = B s) {R1 : Type} {r1 : R1} {k1 : Ex → St → Option R1} {x : eO L.outs}
  (hk : ∀ H, fB (wW L.outs x).2.env H → H.length = m → k1 (wW L.outs x).1.down ⟨H, aB (wW L.outs x).2.mem⟩ = some r1) :
  ∀ (j : Nat) (s : eO L.heads) (tmps : List AV), bL B (j + 1) s = some x → fB (wW L.heads s).2.env tmps → tmps.length = m →
   (eF P C an n old c J ⟨tmps, aB (wW L.heads s).2.mem⟩ fun e K => match e with
    | .normal => yM (eZ J an.keep) old live (fun st k => eF P C an n old c J st k) j K k1
    | .exit id => k1 (.exit id) K
    | .ret => k1 .ret K) = some r1
 | j, s, tmps, h, he, hm => by
  have W : ((B s).bind fun q => Sum.rec (fun s' => bL B j s') (fun x => some x) q) = some x := h
  obtain ⟨q, hq, W⟩ := yd2.1 W
  rw [← hB] at hq
  have hq := vZ hq
  refine ih hls he hm hq fun e K H I O V => ?_
  cases e with
  | normal =>
   obtain ⟨st1, N, h1, h2, h3, h4⟩ := G7 O M I
   split at h1 <;> try contradiction
   rename_i s' hs'
   have := ya h1
   subst this
   obtain ⟨_, Z, Y⟩ := wC hs'
   cases j with
   | zero => cases W
   | succ j =>
    have := Gw ih hls M hB hk j s' N W (h3.of_le Y) (h4.trans V)
    show yM (eZ J an.keep) old live _ (j + 1) ⟨H, aB K.mem⟩ k1 = some r1
    simp only [yM]
    rw [h2, ← Z]
    exact this
  | exit id =>
   simp only at I
   split at I <;> try contradiction
   rename_i x' U
   have := ya I
   subst this
   have := ya W
   subst this
   obtain ⟨e1, Z, Y⟩ := wC U
   have := hk H (O.of_le Y) V
   rw [e1, Z] at this
   exact this
  | ret =>
   simp only at I
   split at I <;> try contradiction
   rename_i x' U
   have := ya I
   subst this
   have := ya W
   subst this
   obtain ⟨e1, Z, Y⟩ := wC U
   have := hk H (O.of_le Y) V
   rw [e1, Z] at this
   exact this
 termination_by j => j
theorem A7 (ht : bG P tab) (hC : Eh C tbl) {n m : Nat} (c : Code) (hd : kD m c = true) : QF P C tab tbl loops an old n m c := by
 induction c with
 | skip =>
  intro R R1 r r1 H st k k1 tmps K Y hm h V
  exact V .normal st tmps h Y hm
 | ret =>
  intro R R1 r r1 H st k k1 tmps K Y hm h V
  exact V .ret st tmps h Y hm
 | exit id =>
  intro R R1 r r1 H st k k1 tmps K Y hm h V
  exact V (.exit id) st tmps h Y hm
 | seq a b iha ihb =>
  intro R R1 r r1 H st k k1 tmps K Y hm h V
  have O : (kD m a && kD m b) = true := hd
  rw [yb] at O
  have h' : gY (aP R) tab tbl loops an old a H st (fun e J => match e with
   | .normal => gY (aP R) tab tbl loops an old b H J k
   | .exit id => k (.exit id) J
   | .ret => k .ret J) = some r := h
  refine iha O.1 (fun q hq => K q (yq1 _ hq)) Y hm h' fun e J I M N U => ?_
  cases e with
  | normal => exact ihb O.2 (fun q hq => K q (ys1 _ hq)) N U M V
  | exit id => exact V (.exit id) J I M N U
  | ret => exact V .ret J I M N U
 | cond c x y ihx ihy =>
  intro R R1 r r1 H st k k1 tmps K Y hm h V
  have O : (kD m x && kD m y) = true := hd
  rw [yb] at O
  have h' : (eP st.env c fun v => match v with
   | .lit (.bool t) => (aP R).ite t (gY (aP R) tab tbl loops an old x H ⟨nO st.env c true, st.mem⟩ k) (gY (aP R) tab tbl loops an old y H ⟨nO st.env c false, st.mem⟩ k)
   | .unkB => (aP R).amb (gY (aP R) tab tbl loops an old x H st k) (gY (aP R) tab tbl loops an old y H st k)
   | _ => none) = some r := h
  obtain ⟨v, hv, M, hne⟩ := aO Y h'
  clear hne
  have W : eF P C an n old (.cond c x y) H ⟨tmps, aB st.mem⟩ k1 = (match bY tmps c with
   | some (.lit (.bool t)) => bif t then eF P C an n old x H ⟨tmps, aB st.mem⟩ k1 else eF P C an n old y H ⟨tmps, aB st.mem⟩ k1
   | some (.imm true (.lit (.bool false))) => Go.Ab.amb (eF P C an n old x H ⟨tmps, aB st.mem⟩ k1) (eF P C an n old y H ⟨tmps, aB st.mem⟩ k1)
   | _ => none) := rfl
  rw [W, hv]
  split at M <;> try contradiction
  ·rename_i t
   have hkn : fB (nO st.env c t) tmps := by
    unfold nO
    split
    ·rename_i d
     intro Z
     show mD st.env d (.lit (.bool t)) Z = .gone ∨ dZ tmps Z = some (mD st.env d (.lit (.bool t)) Z).down ∧ eL (mD st.env d (.lit (.bool t)) Z).down = false
     by_cases e : Z = d
     ·subst e
      right
      have e2 : mD st.env Z (.lit (.bool t)) Z = .lit (.bool t) := by
       show (bif Nat.beq Z Z then KV.lit (.bool t) else st.env Z) = _
       rw [yp3]; rfl
      rw [e2]
      refine ⟨?_, rfl⟩
      have := hv
      simp only [bY] at this
      rcases Y Z with h0 | ⟨h0, h2⟩
      ·exfalso
       have hg := h'
       unfold eP at hg
       simp only [h0] at hg
       cases hg
      ·rw [h0]
       unfold CM at this
       rw [h0] at this
       simpa [h2] using this
     ·have e2 : mD st.env d (.lit (.bool t)) Z = st.env Z := by
       show (bif Nat.beq Z d then KV.lit (.bool t) else st.env Z) = _
       have : Nat.beq Z d = false := by
        cases hb : Nat.beq Z d with
        | true => exact absurd (nb.1 hb) e
        | false => rfl
       rw [this]; rfl
      rw [e2]
      exact Y Z
    ·exact Y
   cases t with
   | true => exact ihx O.1 (fun q hq => K q (yq1 _ hq)) (st := ⟨nO st.env c true, st.mem⟩) hkn hm M V
   | false => exact ihy O.2 (fun q hq => K q (ys1 _ hq)) (st := ⟨nO st.env c false, st.mem⟩) hkn hm M V
  ·have M : Go.Ab.amb (gY (aP R) tab tbl loops an old x H st k) (gY (aP R) tab tbl loops an old y H st k) = some r := M
   have M := IX M
   show Go.Ab.amb (eF P C an n old x H ⟨tmps, aB st.mem⟩ k1) (eF P C an n old y H ⟨tmps, aB st.mem⟩ k1) = some r1
   exact Mb ⟨ihx O.1 (fun q hq => K q (yq1 _ hq)) Y hm M.1 V, ihy O.2 (fun q hq => K q (ys1 _ hq)) Y hm M.2 V⟩
 | block id c ih =>
  intro R R1 r r1 H st k k1 tmps K Y hm h V
  have h' : gY (aP R) tab tbl loops an old c id st (fun e J => match e with
   | .normal => k .normal J
   | .exit j => bif Nat.beq j id then k .normal J else k (.exit j) J
   | .ret => k .ret J) = some r := h
  refine ih hd K Y hm h' fun e J I M N U => ?_
  cases e with
  | normal => exact V .normal J I M N U
  | exit j =>
   have M : (bif Nat.beq j id then k .normal J else k (.exit j) J) = some r := M
   show (bif Nat.beq j id then k1 .normal ⟨I, aB J.mem⟩ else k1 (.exit j) ⟨I, aB J.mem⟩) = some r1
   cases hj : Nat.beq j id with
   | true => rw [hj] at M; exact V .normal J I M N U
   | false => rw [hj] at M; exact V (.exit j) J I M N U
  | ret => exact V .ret J I M N U
 | loop c ih =>
  intro R R1 r r1 H st k k1 tmps K Y hm h V
  have h' : (match eE H an.live with
   | some live => Gr (aP R) (eZ H an.keep) old live st fun st1 =>
    (match loops H with
    | some L => (match sR false L.heads .normal st1 with
     | some s => (aP R).bind (L.run s) fun x => IV (aP R) L.outs x k
     | none => none)
    | none => none)
   | none => none) = some r := h
  split at h' <;> try contradiction
  rename_i live hlive
  obtain ⟨hL, hrest⟩ : Oc tab tbl loops an old n H c ∧ qE tab tbl loops an old n c H := ⟨K (H, c) (ym ..), fun q hq => K q (yh _ hq)⟩
  cases hlo : loops H with
  | none =>
   simp only [hlo] at h'
   unfold Gr at h'
   exfalso
   obtain ⟨vs, h2, _⟩ := v7 Y h'
   obtain ⟨_, _, h3, _⟩ := Fj h2
   cases h3
  | some L =>
   obtain ⟨live', B, hl', hinc, hrun, hB⟩ := hL L hlo
   rw [hlive] at hl'
   obtain rfl := ya hl'
   obtain ⟨st1, tmps1, M, h2, h3, h4⟩ := G7 Y hinc h'
   simp only [hlo] at M
   split at M <;> try contradiction
   rename_i s hs
   have h1' : ((L.run s).bind fun x => IV (aP R) L.outs x k) = some r := M
   obtain ⟨x, hx, h1'⟩ := yd2.1 h1'
   have h5 := vZ h1'
   obtain ⟨_, e2, e3⟩ := wC hs
   rw [hrun] at hx
   have W : eF P C an n old (.loop c) H ⟨tmps, aB st.mem⟩ k1 = (eE H an.live).bind fun live => yM (eZ H an.keep) old live (fun st k => eF P C an n old c H st k) n ⟨tmps, aB st.mem⟩ k1 := rfl
   rw [W, hlive, ye]
   cases n with
   | zero => cases hx
   | succ j =>
    have := Gw (k1 := k1) (ih hd) hrest hinc hB (fun I N U => V _ _ I h5 N U) j s tmps1 hx (h3.of_le e3) (h4.trans hm)
    simp only [yM]
    rw [h2, ← e2]
    exact this
 | region rid ops draw =>
  intro R R1 r r1 H st k k1 tmps K Y hm h V
  have h : LQ (aP R) an rid old st (fun st => C3 (aP R) tab tbl an rid ops draw st (fun J => k .normal J)) = some r := h
  obtain ⟨st1, tmps1, h, htd, he1, hlen⟩ := Mh Y h
  have hm1 := hlen.trans hm
  have W : eF P C an n old (.region rid ops draw) H ⟨tmps, aB st.mem⟩ k1 = (Gb an rid old ⟨tmps, aB st.mem⟩).bind fun st => nE P C an rid ops draw st (fun J => k1 .normal J) := rfl
  rw [W, htd, ye]
  refine Jk ht hC (st := st1) (fun o ho d hdst => ?_) he1 h fun J I M N U => V .normal J I M N (U.trans hm1)
  have O : (ops.toList.all fun o => match o.dst with | some d => Nat.blt d m | none => true) = true := hd
  rw [yr1] at O
  have := O o ho
  rw [hdst] at this
  simp only at this
  rw [hm1]
  rw [Nat.blt_eq] at this; exact this
 | _ => intro R R1 r r1 H st k k1 tmps K Y hm h V; cases h
end
end Go.Ab
