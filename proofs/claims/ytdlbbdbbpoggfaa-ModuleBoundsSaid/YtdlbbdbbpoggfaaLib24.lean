import Derived.Test.YtdlbbdbbpoggfaaLib23
set_option linter.unusedVariables false
set_option linter.unusedSectionVars false
set_option linter.unusedSimpArgs false
namespace Go.Ab
variable [b4]
noncomputable section
variable {P : Program} {tab : TypeId → Option TI} {C : bQ} {tbl : FuncId → List aC} {an : lA} {loops : Nat → Option aL} {old : List (Option Bool)}
def Jk.down : Jk → Ex
 | .normal => .normal
 | .exit id => .exit id
 | .ret => .ret
def wX : (l : List jD) → eN l → Jk × w9
 | [], d => (.normal, ⟨fun _ => .gone, []⟩)
 | [a], d => (a.ex, dZ a d)
 | a :: b :: r, d => match d with
  | .inl x => (a.ex, dZ a x)
  | .inr y => wX (b :: r) y
theorem wK {R : Type} {r : R} : ∀ {l : List jD} {d : eN l} {k : Jk → w9 → Option R}, JB (aP R) l d k = some r → k (wX l d).1 (wX l d).2 = some r
 | [], d, k, h => by cases h
 | [a], d, k, h => h
 | a :: b :: l, .inl x, k, h => h
 | a :: b :: l, .inr y, k, h => wK (l := b :: l) h
theorem JK {a b : Jk} (h : D0 a b = true) : a = b := by
 cases a <;> cases b <;> first | rfl | (cases h; done) | (rw [nb.1 h])
theorem IT {env : Nat → KV} : ∀ (H : List Nat) (t : Nat), dP H (jE env H) t = .gone ∨ dP H (jE env H) t = env t
 | [], t => .inl rfl
 | s :: H, t => by
  show (bif Nat.beq t s then env s else dP H (jE env H) t) = .gone ∨ (bif Nat.beq t s then env s else dP H (jE env H) t) = env t
  cases I : Nat.beq t s with
  | true => right; rw [nb.1 I]; rfl
  | false => exact IT H t
theorem I9 {a : jD} {st : w9} {d : a.den} (h : nL false a st = some d) : (dZ a d).mem = st.mem ∧ ∀ t, (dZ a d).env t = .gone ∨ (dZ a d).env t = st.env t := by
 unfold nL at h
 split at h <;> try contradiction
 rename_i x I
 split at h <;> try contradiction
 rename_i y K
 have H := ya h
 have N := (lL I).trans (congrArg (c9 a.sh) (P2.fst_mk' H).symm)
 have M := (Ak K).trans (congrArg (e8 a.msh) (P2.snd_mk' H).symm)
 refine ⟨M.symm, fun t => ?_⟩
 have J : (dZ a d).env t = dP a.slots (jE st.env a.slots) t := by
  rw [N]; rfl
 rw [J]
 exact IT a.slots t
theorem wE {e : Jk} {st : w9} : ∀ {l : List jD} {d : eN l}, rX false l e st = some d → (wX l d).1 = e ∧ (wX l d).2.mem = st.mem ∧ ∀ t, (wX l d).2.env t = .gone ∨ (wX l d).2.env t = st.env t
 | [], d, h => by cases h
 | [a], d, h => by
  have H : (bif D0 a.ex e then nL false a st else none) = some d := h
  obtain ⟨I, J⟩ := bP.1 H
  exact ⟨JK I, I9 J⟩
 | a :: b :: l, d, h => by
  have H : (match (bif D0 a.ex e then nL false a st else none) with
   | some x => some (Sum.inl x)
   | none => (match rX false (b :: l) e st with | some y => some (Sum.inr y) | none => none)) = some d := h
  split at H
  ·rename_i x K
   obtain ⟨I, J⟩ := bP.1 K
   have := ya H
   subst this
   exact ⟨JK I, I9 J⟩
  ·split at H <;> try contradiction
   rename_i y M
   have := ya H
   subst this
   exact wE (l := b :: l) M
theorem fB.of_le {env H : Nat → KV} {tmps : List AV} (I : fB env tmps) (h : ∀ t, H t = .gone ∨ H t = env t) : fB H tmps := by
 intro t
 rcases h t with h | h
 ·exact .inl h
 ·rw [h]; exact I t
def j2 (m : Nat) : Code → Bool
 | .seq a b => j2 m a && j2 m b
 | .cond _ x y => j2 m x && j2 m y
 | .block _ c => j2 m c
 | .loop c => j2 m c
 | .region _ ops _ => ops.toList.all fun o => match o.dst with | some d => Nat.blt d m | none => true
 | _ => true
def Nv (tab : TypeId → Option TI) (tbl : FuncId → List aC) (loops : Nat → Option aL) (an : lA) (old : List (Option Bool)) (n : Nat) (bid : Nat) (c : Code) : Prop :=
 ∀ L, loops bid = some L → ∃ (live : List Nat) (B : eN L.heads → Option (eN L.heads ⊕ eN L.outs)), eF bid an.live = some live ∧ dS 0 live = true ∧ (∀ s, L.run s = bL B n s) ∧
  ∀ s, FO (aP _) tab tbl loops an old c bid live L.heads L.outs s some = B s
def pN (tab : TypeId → Option TI) (tbl : FuncId → List aC) (loops : Nat → Option aL) (an : lA) (old : List (Option Bool)) (n : Nat) (c : Code) (bid : Nat) : Prop :=
 ∀ q ∈ fK c bid, Nv tab tbl loops an old n q.1 q.2
theorem MQ {R : Type} {r : R} {a b : Option R} (h : a = some r ∧ b = some r) : Go.Ab.amb a b = some r := by
 unfold Go.Ab.amb
 rw [if_pos (h.1.trans h.2.symm)]; exact h.1
def Ql (P : Program) (C : bQ) (tab : TypeId → Option TI) (tbl : FuncId → List aC) (loops : Nat → Option aL) (an : lA) (old : List (Option Bool)) (n m : Nat) (c : Code) : Prop :=
 ∀ {R R1 : Type} {r : R} {r1 : R1} {bid : Nat} {st : w9} {k : Jk → w9 → Option R} {k1 : Ex → St → Option R1} {tmps : List AV}, pN tab tbl loops an old n c bid → fB st.env tmps → tmps.length = m →
  iF (aP R) tab tbl loops an old c bid st k = some r →
  (∀ e st' tmps', k e st' = some r → fB st'.env tmps' → tmps'.length = m → k1 e.down ⟨tmps', aB st'.mem⟩ = some r1) →
  eH P C an n old c bid ⟨tmps, aB st.mem⟩ k1 = some r1
theorem G7 {n m : Nat} {c : Code} (ih : Ql P C tab tbl loops an old n m c) {J : Nat} (Z : pN tab tbl loops an old n c J) {L : aL} {live : List Nat} {B : eN L.heads → Option (eN L.heads ⊕ eN L.outs)}
  (M : dS 0 live = true) (hB : ∀ s, FO (aP _) tab tbl loops an old c J live L.heads L.outs s some = B s) {R1 : Type} {r1 : R1} {k1 : Ex → St → Option R1} {x : eN L.outs}
  (hk : ∀ H, fB (wX L.outs x).2.env H → H.length = m → k1 (wX L.outs x).1.down ⟨H, aB (wX L.outs x).2.mem⟩ = some r1) :
  ∀ (j : Nat) (s : eN L.heads) (tmps : List AV), bL B (j + 1) s = some x → fB (wX L.heads s).2.env tmps → tmps.length = m →
   (eH P C an n old c J ⟨tmps, aB (wX L.heads s).2.mem⟩ fun e K => match e with
    | .normal => yK (eZ J an.keep) old live (fun st k => eH P C an n old c J st k) j K k1
    | .exit id => k1 (.exit id) K
    | .ret => k1 .ret K) = some r1
 | j, s, tmps, h, he, hm => by
  have W : ((B s).bind fun q => Sum.rec (fun s' => bL B j s') (fun x => some x) q) = some x := h
  obtain ⟨q, hq, W⟩ := yd2.1 W
  rw [← hB] at hq
  have hq := wK hq
  refine ih Z he hm hq fun e K H I U O => ?_
  cases e with
  | normal =>
   obtain ⟨st1, N, h1, h2, h3, h4⟩ := GT U M I
   split at h1 <;> try contradiction
   rename_i s' hs'
   have := ya h1
   subst this
   obtain ⟨_, Y, e3⟩ := wE hs'
   cases j with
   | zero => cases W
   | succ j =>
    have := G7 ih Z M hB hk j s' N W (h3.of_le e3) (h4.trans O)
    show yK (eZ J an.keep) old live _ (j + 1) ⟨H, aB K.mem⟩ k1 = some r1
    simp only [yK]
    rw [h2, ← Y]
    exact this
  | exit id =>
   simp only at I
   split at I <;> try contradiction
   rename_i x' V
   have := ya I
   subst this
   have := ya W
   subst this
   obtain ⟨e1, Y, e3⟩ := wE V
   have := hk H (U.of_le e3) O
   rw [e1, Y] at this
   exact this
  | ret =>
   simp only at I
   split at I <;> try contradiction
   rename_i x' V
   have := ya I
   subst this
   have := ya W
   subst this
   obtain ⟨e1, Y, e3⟩ := wE V
   have := hk H (U.of_le e3) O
   rw [e1, Y] at this
   exact this
 termination_by j => j
theorem BH (ht : bI P tab) (hC : Ft C tbl) {n m : Nat} (c : Code) (hd : j2 m c = true) : Ql P C tab tbl loops an old n m c := by
 induction c with
 | skip =>
  intro R R1 r r1 H st k k1 tmps K Y hm h V
  exact V .normal st tmps h Y hm
 | ret =>
  intro R R1 r r1 H st k k1 tmps K Y hm h V
  exact V .ret st tmps h Y hm
 | exit id =>
  intro R R1 r r1 H st k k1 tmps K Y hm h V
  exact V (.exit id) st tmps h Y hm
 | seq a b iha ihb =>
  intro R R1 r r1 H st k k1 tmps K Y hm h V
  have U : (j2 m a && j2 m b) = true := hd
  rw [yb] at U
  have h' : iF (aP R) tab tbl loops an old a H st (fun e J => match e with
   | .normal => iF (aP R) tab tbl loops an old b H J k
   | .exit id => k (.exit id) J
   | .ret => k .ret J) = some r := h
  refine iha U.1 (fun q hq => K q (yq1 _ hq)) Y hm h' fun e J I M O N => ?_
  cases e with
  | normal => exact ihb U.2 (fun q hq => K q (ys1 _ hq)) O N M V
  | exit id => exact V (.exit id) J I M O N
  | ret => exact V .ret J I M O N
 | cond c x y ihx ihy =>
  intro R R1 r r1 H st k k1 tmps K Y hm h V
  have U : (j2 m x && j2 m y) = true := hd
  rw [yb] at U
  have h' : (eQ st.env c fun v => match v with
   | .lit (.bool t) => (aP R).ite t (iF (aP R) tab tbl loops an old x H ⟨nD st.env c true, st.mem⟩ k) (iF (aP R) tab tbl loops an old y H ⟨nD st.env c false, st.mem⟩ k)
   | .unkB => (aP R).amb (iF (aP R) tab tbl loops an old x H st k) (iF (aP R) tab tbl loops an old y H st k)
   | _ => none) = some r := h
  obtain ⟨v, hv, M, hne⟩ := aO Y h'
  clear hne
  have W : eH P C an n old (.cond c x y) H ⟨tmps, aB st.mem⟩ k1 = (match bW tmps c with
   | some (.lit (.bool t)) => bif t then eH P C an n old x H ⟨tmps, aB st.mem⟩ k1 else eH P C an n old y H ⟨tmps, aB st.mem⟩ k1
   | some (.imm true (.lit (.bool false))) => Go.Ab.amb (eH P C an n old x H ⟨tmps, aB st.mem⟩ k1) (eH P C an n old y H ⟨tmps, aB st.mem⟩ k1)
   | _ => none) := rfl
  rw [W, hv]
  split at M <;> try contradiction
  ·rename_i t
   have hkn : fB (nD st.env c t) tmps := by
    unfold nD
    split
    ·rename_i d
     intro Z
     show mT st.env d (.lit (.bool t)) Z = .gone ∨ dX tmps Z = some (mT st.env d (.lit (.bool t)) Z).down ∧ eL (mT st.env d (.lit (.bool t)) Z).down = false
     by_cases e : Z = d
     ·subst e
      right
      have e2 : mT st.env Z (.lit (.bool t)) Z = .lit (.bool t) := by
       show (bif Nat.beq Z Z then KV.lit (.bool t) else st.env Z) = _
       rw [yp3]; rfl
      rw [e2]
      refine ⟨?_, rfl⟩
      have := hv
      simp only [bW] at this
      rcases Y Z with h0 | ⟨h0, h2⟩
      ·exfalso
       have hg := h'
       unfold eQ at hg
       simp only [h0] at hg
       cases hg
      ·rw [h0]
       unfold CV at this
       rw [h0] at this
       simpa [h2] using this
     ·have e2 : mT st.env d (.lit (.bool t)) Z = st.env Z := by
       show (bif Nat.beq Z d then KV.lit (.bool t) else st.env Z) = _
       have : Nat.beq Z d = false := by
        cases hb : Nat.beq Z d with
        | true => exact absurd (nb.1 hb) e
        | false => rfl
       rw [this]; rfl
      rw [e2]
      exact Y Z
    ·exact Y
   cases t with
   | true => exact ihx U.1 (fun q hq => K q (yq1 _ hq)) (st := ⟨nD st.env c true, st.mem⟩) hkn hm M V
   | false => exact ihy U.2 (fun q hq => K q (ys1 _ hq)) (st := ⟨nD st.env c false, st.mem⟩) hkn hm M V
  ·have M : Go.Ab.amb (iF (aP R) tab tbl loops an old x H st k) (iF (aP R) tab tbl loops an old y H st k) = some r := M
   have M := JP M
   show Go.Ab.amb (eH P C an n old x H ⟨tmps, aB st.mem⟩ k1) (eH P C an n old y H ⟨tmps, aB st.mem⟩ k1) = some r1
   exact MQ ⟨ihx U.1 (fun q hq => K q (yq1 _ hq)) Y hm M.1 V, ihy U.2 (fun q hq => K q (ys1 _ hq)) Y hm M.2 V⟩
 | block id c ih =>
  intro R R1 r r1 H st k k1 tmps K Y hm h V
  have h' : iF (aP R) tab tbl loops an old c id st (fun e J => match e with
   | .normal => k .normal J
   | .exit j => bif Nat.beq j id then k .normal J else k (.exit j) J
   | .ret => k .ret J) = some r := h
  refine ih hd K Y hm h' fun e J I M O N => ?_
  cases e with
  | normal => exact V .normal J I M O N
  | exit j =>
   have M : (bif Nat.beq j id then k .normal J else k (.exit j) J) = some r := M
   show (bif Nat.beq j id then k1 .normal ⟨I, aB J.mem⟩ else k1 (.exit j) ⟨I, aB J.mem⟩) = some r1
   cases hj : Nat.beq j id with
   | true => rw [hj] at M; exact V .normal J I M O N
   | false => rw [hj] at M; exact V (.exit j) J I M O N
  | ret => exact V .ret J I M O N
 | loop c ih =>
  intro R R1 r r1 H st k k1 tmps K Y hm h V
  have h' : (match eF H an.live with
   | some live => Gv (aP R) (eZ H an.keep) old live st fun st1 =>
    (match loops H with
    | some L => (match rX false L.heads .normal st1 with
     | some s => (aP R).bind (L.run s) fun x => JB (aP R) L.outs x k
     | none => none)
    | none => none)
   | none => none) = some r := h
  split at h' <;> try contradiction
  rename_i live hlive
  obtain ⟨hL, hrest⟩ : Nv tab tbl loops an old n H c ∧ pN tab tbl loops an old n c H := ⟨K (H, c) (ym ..), fun q hq => K q (yh _ hq)⟩
  cases hlo : loops H with
  | none =>
   simp only [hlo] at h'
   unfold Gv at h'
   exfalso
   obtain ⟨vs, h2, _⟩ := wF Y h'
   obtain ⟨_, _, h3, _⟩ := E9 h2
   cases h3
  | some L =>
   obtain ⟨live', B, hl', hinc, hrun, hB⟩ := hL L hlo
   rw [hlive] at hl'
   obtain rfl := ya hl'
   obtain ⟨st1, tmps1, M, h2, h3, h4⟩ := GT Y hinc h'
   simp only [hlo] at M
   split at M <;> try contradiction
   rename_i s hs
   have h1' : ((L.run s).bind fun x => JB (aP R) L.outs x k) = some r := M
   obtain ⟨x, hx, h1'⟩ := yd2.1 h1'
   have h5 := wK h1'
   obtain ⟨_, e2, e3⟩ := wE hs
   rw [hrun] at hx
   have W : eH P C an n old (.loop c) H ⟨tmps, aB st.mem⟩ k1 = (eF H an.live).bind fun live => yK (eZ H an.keep) old live (fun st k => eH P C an n old c H st k) n ⟨tmps, aB st.mem⟩ k1 := rfl
   rw [W, hlive, ye]
   cases n with
   | zero => cases hx
   | succ j =>
    have := G7 (k1 := k1) (ih hd) hrest hinc hB (fun I O N => V _ _ I h5 O N) j s tmps1 hx (h3.of_le e3) (h4.trans hm)
    simp only [yK]
    rw [h2, ← e2]
    exact this
 | region rid ops draw =>
  intro R R1 r r1 H st k k1 tmps K Y hm h V
  have h : LH (aP R) an rid old st (fun st => Db (aP R) tab tbl an rid ops draw st (fun J => k .normal J)) = some r := h
  obtain ⟨st1, tmps1, h, htd, he1, hlen⟩ := Ma Y h
  have hm1 := hlen.trans hm
  have W : eH P C an n old (.region rid ops draw) H ⟨tmps, aB st.mem⟩ k1 = (Gj an rid old ⟨tmps, aB st.mem⟩).bind fun st => nC P C an rid ops draw st (fun J => k1 .normal J) := rfl
  rw [W, htd, ye]
  refine IG ht hC (st := st1) (fun o ho d hdst => ?_) he1 h fun J I M O N => V .normal J I M O (N.trans hm1)
  have U : (ops.toList.all fun o => match o.dst with | some d => Nat.blt d m | none => true) = true := hd
  rw [yr1] at U
  have := U o ho
  rw [hdst] at this
  simp only at this
  rw [hm1]
  rw [Nat.blt_eq] at this; exact this
 | _ => intro R R1 r r1 H st k k1 tmps K Y hm h V; cases h
end
end Go.Ab
