import Derived.Test.YtmoldheenagboaaLib22
set_option linter.unusedVariables false
set_option linter.unusedSectionVars false
set_option linter.unusedSimpArgs false
namespace Go.Ab
variable [b8]
noncomputable section
variable {P : Program} {tab : TypeId → Option TI} {C : bZ} {tbl : FuncId → List aD} {an : dJ} {loops : Nat → Option aH} {old : List (Option Bool)}
def FP.down : FP → Ex
 | .normal => .normal
 | .exit id => .exit id
 | .ret => .ret
def rE : (l : List aI) → eU l → FP × wZ
 | [], d => (.normal, ⟨fun _ => .gone, []⟩)
 | [a], d => (a.ex, cU a d)
 | a :: b :: r, d => match d with
  | .inl x => (a.ex, cU a x)
  | .inr y => rE (b :: r) y
theorem rC {R : Type} {r : R} : ∀ {l : List aI} {d : eU l} {k : FP → wZ → Option R}, GL (aL R) l d k = some r → k (rE l d).1 (rE l d).2 = some r
 | [], d, k, h => by cases h
 | [a], d, k, h => h
 | a :: b :: l, .inl x, k, h => h
 | a :: b :: l, .inr y, k, h => rC (l := b :: l) h
theorem Hi {a b : FP} (h : A4 a b = true) : a = b := by
 cases a <;> cases b <;> first | rfl | (cases h; done) | (rw [nb.1 h])
theorem FS {env : Nat → KV} : ∀ (z : List Nat) (t : Nat), cX z (iD env z) t = .gone ∨ cX z (iD env z) t = env t
 | [], t => .inl rfl
 | s :: z, t => by
  show (bif Nat.beq t s then env s else cX z (iD env z) t) = .gone ∨ (bif Nat.beq t s then env s else cX z (iD env z) t) = env t
  cases H : Nat.beq t s with
  | true => right; rw [nb.1 H]; rfl
  | false => exact FS z t
theorem F7 {a : aI} {st : wZ} {d : a.den} (h : lE false a st = some d) : (cU a d).mem = st.mem ∧ ∀ t, (cU a d).env t = .gone ∨ (cU a d).env t = st.env t := by
 unfold lE at h
 split at h <;> try contradiction
 rename_i x K
 split at h <;> try contradiction
 rename_i y H
 have z := ya h
 have N := (lX K).trans (congrArg (dG a.sh) (P2.fst_mk' z).symm)
 have J := (wG H).trans (congrArg (eH a.msh) (P2.snd_mk' z).symm)
 refine ⟨J.symm, fun t => ?_⟩
 have O : (cU a d).env t = cX a.slots (iD st.env a.slots) t := by
  rw [N]; rfl
 rw [O]
 exact FS a.slots t
theorem q7 {e : FP} {st : wZ} : ∀ {l : List aI} {d : eU l}, mJ false l e st = some d → (rE l d).1 = e ∧ (rE l d).2.mem = st.mem ∧ ∀ t, (rE l d).2.env t = .gone ∨ (rE l d).2.env t = st.env t
 | [], d, h => by cases h
 | [a], d, h => by
  have z : (bif A4 a.ex e then lE false a st else none) = some d := h
  obtain ⟨H, J⟩ := cK.1 z
  exact ⟨Hi H, F7 J⟩
 | a :: b :: l, d, h => by
  have z : (match (bif A4 a.ex e then lE false a st else none) with
   | some x => some (Sum.inl x)
   | none => (match mJ false (b :: l) e st with | some y => some (Sum.inr y) | none => none)) = some d := h
  split at z
  ·rename_i x N
   obtain ⟨H, J⟩ := cK.1 N
   have := ya z
   subst this
   exact ⟨Hi H, F7 J⟩
  ·split at z <;> try contradiction
   rename_i y K
   have := ya z
   subst this
   exact q7 (l := b :: l) K
theorem fW.of_le {env z : Nat → KV} {tmps : List AV} (H : fW env tmps) (h : ∀ t, z t = .gone ∨ z t = env t) : fW z tmps := by
 intro t
 rcases h t with h | h
 ·exact .inl h
 ·rw [h]; exact H t
def iR (m : Nat) : Code → Bool
 | .seq a b => iR m a && iR m b
 | .cond _ x y => iR m x && iR m y
 | .block _ c => iR m c
 | .loop c => iR m c
 | .region _ ops _ => ops.toList.all fun o => match o.dst with | some d => Nat.blt d m | none => true
 | _ => true
def KJ (tab : TypeId → Option TI) (tbl : FuncId → List aD) (loops : Nat → Option aH) (an : dJ) (old : List (Option Bool)) (n : Nat) (bid : Nat) (c : Code) : Prop :=
 ∀ L, loops bid = some L → ∃ (live : List Nat) (B : eU L.heads → Option (eU L.heads ⊕ eU L.outs)), bR bid an.live = some live ∧ dP 0 live = true ∧ (∀ s, L.run s = bI B n s) ∧
  ∀ s, bU (aL _) tab tbl loops an old c bid live L.heads L.outs s some = B s
def nY (tab : TypeId → Option TI) (tbl : FuncId → List aD) (loops : Nat → Option aH) (an : dJ) (old : List (Option Bool)) (n : Nat) (c : Code) (bid : Nat) : Prop :=
 ∀ q ∈ aU c bid, KJ tab tbl loops an old n q.1 q.2
theorem JK {R : Type} {r : R} {a b : Option R} (h : a = some r ∧ b = some r) : Go.Ab.amb a b = some r := by
 unfold Go.Ab.amb
 rw [if_pos (h.1.trans h.2.symm)]; exact h.1
def Oj (P : Program) (C : bZ) (tab : TypeId → Option TI) (tbl : FuncId → List aD) (loops : Nat → Option aH) (an : dJ) (old : List (Option Bool)) (n m : Nat) (c : Code) : Prop :=
 ∀ {R R1 : Type} {r : R} {r1 : R1} {bid : Nat} {st : wZ} {k : FP → wZ → Option R} {k1 : Ex → St → Option R1} {tmps : List AV}, nY tab tbl loops an old n c bid → fW st.env tmps → tmps.length = m →
  f5 (aL R) tab tbl loops an old c bid st k = some r →
  (∀ e st' tmps', k e st' = some r → fW st'.env tmps' → tmps'.length = m → k1 e.down ⟨tmps', aB st'.mem⟩ = some r1) →
  dF P C an n old c bid ⟨tmps, aB st.mem⟩ k1 = some r1
theorem Db {n m : Nat} {c : Code} (ih : Oj P C tab tbl loops an old n m c) {K : Nat} (hls : nY tab tbl loops an old n c K) {L : aH} {live : List Nat} {B : eU L.heads → Option (eU L.heads ⊕ eU L.outs)}
  (N : dP 0 live = true) (hB : ∀ s, bU (aL _) tab tbl loops an old c K live L.heads L.outs s some = B s) {R1 : Type} {r1 : R1} {k1 : Ex → St → Option R1} {x : eU L.outs}
  (hk : ∀ z, fW (rE L.outs x).2.env z → z.length = m → k1 (rE L.outs x).1.down ⟨z, aB (rE L.outs x).2.mem⟩ = some r1) :
  ∀ (j : Nat) (s : eU L.heads) (tmps : List AV), bI B (j + 1) s = some x → fW (rE L.heads s).2.env tmps → tmps.length = m →
   (dF P C an n old c K ⟨tmps, aB (rE L.heads s).2.mem⟩ fun e J => match e with
    | .normal => sA old live (fun st k => dF P C an n old c K st k) j J k1
    | .exit id => k1 (.exit id) J
    | .ret => k1 .ret J) = some r1
 | j, s, tmps, h, he, hm => by
  have Y : ((B s).bind fun q => Sum.rec (fun s' => bI B j s') (fun x => some x) q) = some x := h
  obtain ⟨q, hq, Y⟩ := yz1.1 Y
  rw [← hB] at hq
  have hq := rC hq
  refine ih hls he hm hq fun e J z H U W => ?_
  cases e with
  | normal =>
   obtain ⟨st1, V, h1, h2, h3, h4⟩ := Dq U N H
   split at h1 <;> try contradiction
   rename_i s' hs'
   have := ya h1
   subst this
   obtain ⟨_, Z, e3⟩ := q7 hs'
   cases j with
   | zero => cases Y
   | succ j =>
    have := Db ih hls N hB hk j s' V Y (h3.of_le e3) (h4.trans W)
    show sA old live _ (j + 1) ⟨z, aB J.mem⟩ k1 = some r1
    simp only [sA]
    rw [h2, ← Z]
    exact this
  | exit id =>
   simp only at H
   split at H <;> try contradiction
   rename_i x' O
   have := ya H
   subst this
   have := ya Y
   subst this
   obtain ⟨e1, Z, e3⟩ := q7 O
   have := hk z (U.of_le e3) W
   rw [e1, Z] at this
   exact this
  | ret =>
   simp only at H
   split at H <;> try contradiction
   rename_i x' O
   have := ya H
   subst this
   have := ya Y
   subst this
   obtain ⟨e1, Z, e3⟩ := q7 O
   have := hk z (U.of_le e3) W
   rw [e1, Z] at this
   exact this
 termination_by j => j
theorem w5 (ht : b9 P tab) (hC : Dh C tbl) {n m : Nat} (c : Code) (hd : iR m c = true) : Oj P C tab tbl loops an old n m c := by
 induction c with
 | skip =>
  intro R R1 r r1 z st k k1 tmps K Y Z h W
  exact W .normal st tmps h Y Z
 | ret =>
  intro R R1 r r1 z st k k1 tmps K Y Z h W
  exact W .ret st tmps h Y Z
 | exit id =>
  intro R R1 r r1 z st k k1 tmps K Y Z h W
  exact W (.exit id) st tmps h Y Z
 | seq a b iha ihb =>
  intro R R1 r r1 z st k k1 tmps K Y Z h W
  have O : (iR m a && iR m b) = true := hd
  rw [yc] at O
  have h' : f5 (aL R) tab tbl loops an old a z st (fun e J => match e with
   | .normal => f5 (aL R) tab tbl loops an old b z J k
   | .exit id => k (.exit id) J
   | .ret => k .ret J) = some r := h
  refine iha O.1 (fun q hq => K q (yk1 _ hq)) Y Z h' fun e J H N V U => ?_
  cases e with
  | normal => exact ihb O.2 (fun q hq => K q (yl1 _ hq)) V U N W
  | exit id => exact W (.exit id) J H N V U
  | ret => exact W .ret J H N V U
 | cond c x y ihx ihy =>
  intro R R1 r r1 z st k k1 tmps K Y Z h W
  have O : (iR m x && iR m y) = true := hd
  rw [yc] at O
  have h' : (fN st.env c fun v => match v with
   | .lit (.bool t) => (aL R).ite t (f5 (aL R) tab tbl loops an old x z ⟨lS st.env c true, st.mem⟩ k) (f5 (aL R) tab tbl loops an old y z ⟨lS st.env c false, st.mem⟩ k)
   | .unkB => (aL R).amb (f5 (aL R) tab tbl loops an old x z st k) (f5 (aL R) tab tbl loops an old y z st k)
   | _ => none) = some r := h
  obtain ⟨v, hv, N, hne⟩ := a5 Y h'
  clear hne
  have hgoal : dF P C an n old (.cond c x y) z ⟨tmps, aB st.mem⟩ k1 = (match eQ tmps c with
   | some (.lit (.bool t)) => bif t then dF P C an n old x z ⟨tmps, aB st.mem⟩ k1 else dF P C an n old y z ⟨tmps, aB st.mem⟩ k1
   | some (.imm true (.lit (.bool false))) => Go.Ab.amb (dF P C an n old x z ⟨tmps, aB st.mem⟩ k1) (dF P C an n old y z ⟨tmps, aB st.mem⟩ k1)
   | _ => none) := rfl
  rw [hgoal, hv]
  split at N <;> try contradiction
  ·rename_i t
   have hkn : fW (lS st.env c t) tmps := by
    unfold lS
    split
    ·rename_i d
     intro t'
     show kO st.env d (.lit (.bool t)) t' = .gone ∨ iB tmps t' = some (kO st.env d (.lit (.bool t)) t').down ∧ dV (kO st.env d (.lit (.bool t)) t').down = false
     by_cases e : t' = d
     ·subst e
      right
      have e2 : kO st.env t' (.lit (.bool t)) t' = .lit (.bool t) := by
       show (bif Nat.beq t' t' then KV.lit (.bool t) else st.env t') = _
       rw [ym3]; rfl
      rw [e2]
      refine ⟨?_, rfl⟩
      have := hv
      simp only [eQ] at this
      rcases Y t' with h0 | ⟨h0, h2⟩
      ·exfalso
       have hg := h'
       unfold fN at hg
       simp only [h0] at hg
       cases hg
      ·rw [h0]
       unfold Au at this
       rw [h0] at this
       simpa [h2] using this
     ·have e2 : kO st.env d (.lit (.bool t)) t' = st.env t' := by
       show (bif Nat.beq t' d then KV.lit (.bool t) else st.env t') = _
       have : Nat.beq t' d = false := by
        cases hb : Nat.beq t' d with
        | true => exact absurd (nb.1 hb) e
        | false => rfl
       rw [this]; rfl
      rw [e2]
      exact Y t'
    ·exact Y
   cases t with
   | true => exact ihx O.1 (fun q hq => K q (yk1 _ hq)) (st := ⟨lS st.env c true, st.mem⟩) hkn Z N W
   | false => exact ihy O.2 (fun q hq => K q (yl1 _ hq)) (st := ⟨lS st.env c false, st.mem⟩) hkn Z N W
  ·have N : Go.Ab.amb (f5 (aL R) tab tbl loops an old x z st k) (f5 (aL R) tab tbl loops an old y z st k) = some r := N
   have N := GG N
   show Go.Ab.amb (dF P C an n old x z ⟨tmps, aB st.mem⟩ k1) (dF P C an n old y z ⟨tmps, aB st.mem⟩ k1) = some r1
   exact JK ⟨ihx O.1 (fun q hq => K q (yk1 _ hq)) Y Z N.1 W, ihy O.2 (fun q hq => K q (yl1 _ hq)) Y Z N.2 W⟩
 | block id c ih =>
  intro R R1 r r1 z st k k1 tmps K Y Z h W
  have h' : f5 (aL R) tab tbl loops an old c id st (fun e J => match e with
   | .normal => k .normal J
   | .exit j => bif Nat.beq j id then k .normal J else k (.exit j) J
   | .ret => k .ret J) = some r := h
  refine ih hd K Y Z h' fun e J H N V U => ?_
  cases e with
  | normal => exact W .normal J H N V U
  | exit j =>
   have N : (bif Nat.beq j id then k .normal J else k (.exit j) J) = some r := N
   show (bif Nat.beq j id then k1 .normal ⟨H, aB J.mem⟩ else k1 (.exit j) ⟨H, aB J.mem⟩) = some r1
   cases hj : Nat.beq j id with
   | true => rw [hj] at N; exact W .normal J H N V U
   | false => rw [hj] at N; exact W (.exit j) J H N V U
  | ret => exact W .ret J H N V U
 | loop c ih =>
  intro R R1 r r1 z st k k1 tmps K Y Z h W
  have h' : (match bR z an.live with
   | some live => Ej old live st fun st1 =>
    (match loops z with
    | some L => (match mJ false L.heads .normal st1 with
     | some s => (aL R).bind (L.run s) fun x => GL (aL R) L.outs x k
     | none => none)
    | none => none)
   | none => none) = some r := h
  split at h' <;> try contradiction
  rename_i live hlive
  obtain ⟨hL, hrest⟩ : KJ tab tbl loops an old n z c ∧ nY tab tbl loops an old n c z := ⟨K (z, c) (ym ..), fun q hq => K q (yi _ hq)⟩
  cases hlo : loops z with
  | none =>
   simp only [hlo] at h'
   unfold Ej at h'
   exfalso
   obtain ⟨vs, h2, _⟩ := yD Y h'
   obtain ⟨_, _, h3, _⟩ := CA h2
   cases h3
  | some L =>
   obtain ⟨live', B, hl', hinc, hrun, hB⟩ := hL L hlo
   rw [hlive] at hl'
   obtain rfl := ya hl'
   obtain ⟨st1, tmps1, N, h2, h3, h4⟩ := Dq Y hinc h'
   simp only [hlo] at N
   split at N <;> try contradiction
   rename_i s hs
   have h1' : ((L.run s).bind fun x => GL (aL R) L.outs x k) = some r := N
   obtain ⟨x, hx, h1'⟩ := yz1.1 h1'
   have h5 := rC h1'
   obtain ⟨_, e2, e3⟩ := q7 hs
   rw [hrun] at hx
   have hgoal : dF P C an n old (.loop c) z ⟨tmps, aB st.mem⟩ k1 = (bR z an.live).bind fun live => sA old live (fun st k => dF P C an n old c z st k) n ⟨tmps, aB st.mem⟩ k1 := rfl
   rw [hgoal, hlive, yb]
   cases n with
   | zero => cases hx
   | succ j =>
    have := Db (k1 := k1) (ih hd) hrest hinc hB (fun H V U => W _ _ H h5 V U) j s tmps1 hx (h3.of_le e3) (h4.trans Z)
    simp only [sA]
    rw [h2, ← e2]
    exact this
 | region rid ops draw =>
  intro R R1 r r1 z st k k1 tmps K Y Z h W
  refine FY ht hC (st := st) (fun o ho d hdst => ?_) Y h fun J H N V U => W .normal J H N V (U.trans Z)
  have O : (ops.toList.all fun o => match o.dst with | some d => Nat.blt d m | none => true) = true := hd
  rw [yi2] at O
  have := O o ho
  rw [hdst] at this
  simp only at this
  rw [Z]
  rw [Nat.blt_eq] at this; exact this
 | _ => intro R R1 r r1 z st k k1 tmps K Y Z h W; cases h
end
end Go.Ab
