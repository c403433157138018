import Derived.Test.YtdlbbdbbpoggfaaLib24
set_option linter.unusedVariables false
set_option linter.unusedSectionVars false
set_option linter.unusedSimpArgs false
namespace Go.Ab
variable [GTab]
noncomputable section
variable {P : Program} {tab : TypeId → Option TI} {C : Oracle} {tbl : FuncId → List Entry} {an : Ann} {loops : Nat → Option LEntry} {old : List (Option Bool)}
def ExK.down : ExK → Ex
 | .normal => .normal
 | .exit id => .exit id
 | .ret => .ret
def outP : (l : List StSh) → VDen l → ExK × KSt
 | [], d => (.normal, ⟨fun _ => .gone, []⟩)
 | [a], d => (a.ex, encSt a d)
 | a :: b :: r, d => match d with
  | .inl x => (a.ex, encSt a x)
  | .inr y => outP (b :: r) y
theorem zej {R : Type} {r : R} : ∀ {l : List StSh} {d : VDen l} {k : ExK → KSt → Option R}, encV (real R) l d k = some r → k (outP l d).1 (outP l d).2 = some r
 | [], d, k, h => by cases h
 | [a], d, k, h => h
 | a :: b :: l, .inl x, k, h => h
 | a :: b :: l, .inr y, k, h => zej (l := b :: l) h
theorem zmm {a b : ExK} (h : beqEx a b = true) : a = b := by
 cases a <;> cases b <;> first | rfl | (cases h; done) | (rw [nb.1 h])
theorem zmB {env : Nat → KV} : ∀ (ss : List Nat) (t : Nat), envOf ss (envsAt env ss) t = .gone ∨ envOf ss (envsAt env ss) t = env t
 | [], t => .inl rfl
 | s :: ss, t => by
  show (bif Nat.beq t s then env s else envOf ss (envsAt env ss) t) = .gone ∨ (bif Nat.beq t s then env s else envOf ss (envsAt env ss) t) = env t
  cases hb : Nat.beq t s with
  | true => right; rw [nb.1 hb]; rfl
  | false => exact zmB ss t
theorem zla {a : StSh} {st : KSt} {d : a.den} (h : decSt false a st = some d) : (encSt a d).mem = st.mem ∧ ∀ t, (encSt a d).env t = .gone ∨ (encSt a d).env t = st.env t := by
 unfold decSt at h
 split at h <;> try contradiction
 rename_i x hx
 split at h <;> try contradiction
 rename_i y hy
 have hp := ya h
 have e1 := (zbt hx).trans (congrArg (encS a.sh) (P2.fst_mk' hp).symm)
 have e2 := (zfF hy).trans (congrArg (encM a.msh) (P2.snd_mk' hp).symm)
 refine ⟨e2.symm, fun t => ?_⟩
 have e3 : (encSt a d).env t = envOf a.slots (envsAt st.env a.slots) t := by
  rw [e1]; rfl
 rw [e3]
 exact zmB a.slots t
theorem zfP {e : ExK} {st : KSt} : ∀ {l : List StSh} {d : VDen l}, decV false l e st = some d → (outP l d).1 = e ∧ (outP l d).2.mem = st.mem ∧ ∀ t, (outP l d).2.env t = .gone ∨ (outP l d).2.env t = st.env t
 | [], d, h => by cases h
 | [a], d, h => by
  have h' : (bif beqEx a.ex e then decSt false a st else none) = some d := h
  obtain ⟨h1, h2⟩ := cds.1 h'
  exact ⟨zmm h1, zla h2⟩
 | a :: b :: l, d, h => by
  have h' : (match (bif beqEx a.ex e then decSt false a st else none) with
   | some x => some (Sum.inl x)
   | none => (match decV false (b :: l) e st with | some y => some (Sum.inr y) | none => none)) = some d := h
  split at h'
  ·rename_i x hx
   obtain ⟨h1, h2⟩ := cds.1 hx
   have := ya h'
   subst this
   exact ⟨zmm h1, zla h2⟩
  ·split at h' <;> try contradiction
   rename_i y hy
   have := ya h'
   subst this
   exact zfP (l := b :: l) hy
theorem EnvR.of_le {env env' : Nat → KV} {tmps : List AV} (he : EnvR env tmps) (h : ∀ t, env' t = .gone ∨ env' t = env t) : EnvR env' tmps := by
 intro t
 rcases h t with h | h
 ·exact .inl h
 ·rw [h]; exact he t
def dstsOk (m : Nat) : Code → Bool
 | .seq a b => dstsOk m a && dstsOk m b
 | .cond _ x y => dstsOk m x && dstsOk m y
 | .block _ c => dstsOk m c
 | .loop c => dstsOk m c
 | .region _ ops _ => ops.toList.all fun o => match o.dst with | some d => Nat.blt d m | none => true
 | _ => true
def LoopOK (tab : TypeId → Option TI) (tbl : FuncId → List Entry) (loops : Nat → Option LEntry) (an : Ann) (old : List (Option Bool)) (n : Nat) (bid : Nat) (c : Code) : Prop :=
 ∀ L, loops bid = some L → ∃ (live : List Nat) (B : VDen L.heads → Option (VDen L.heads ⊕ VDen L.outs)), assoc bid an.live = some live ∧ incFrom 0 live = true ∧ (∀ s, L.run s = loopS B n s) ∧
  ∀ s, roundK (real _) tab tbl loops an old c bid live L.heads L.outs s some = B s
def LoopsOK (tab : TypeId → Option TI) (tbl : FuncId → List Entry) (loops : Nat → Option LEntry) (an : Ann) (old : List (Option Bool)) (n : Nat) (c : Code) (bid : Nat) : Prop :=
 ∀ q ∈ loopsIn c bid, LoopOK tab tbl loops an old n q.1 q.2
theorem zoe {R : Type} {r : R} {a b : Option R} (h : a = some r ∧ b = some r) : Go.Ab.amb a b = some r := by
 unfold Go.Ab.amb
 rw [if_pos (h.1.trans h.2.symm)]; exact h.1
def Sim (P : Program) (C : Oracle) (tab : TypeId → Option TI) (tbl : FuncId → List Entry) (loops : Nat → Option LEntry) (an : Ann) (old : List (Option Bool)) (n m : Nat) (c : Code) : Prop :=
 ∀ {R R1 : Type} {r : R} {r1 : R1} {bid : Nat} {st : KSt} {k : ExK → KSt → Option R} {k1 : Ex → St → Option R1} {tmps : List AV}, LoopsOK tab tbl loops an old n c bid → EnvR st.env tmps → tmps.length = m →
  codeK (real R) tab tbl loops an old c bid st k = some r →
  (∀ e st' tmps', k e st' = some r → EnvR st'.env tmps' → tmps'.length = m → k1 e.down ⟨tmps', kdown st'.mem⟩ = some r1) →
  codeA P C an n old c bid ⟨tmps, kdown st.mem⟩ k1 = some r1
theorem zjs {n m : Nat} {c : Code} (ih : Sim P C tab tbl loops an old n m c) {bid : Nat} (hls : LoopsOK tab tbl loops an old n c bid) {L : LEntry} {live : List Nat} {B : VDen L.heads → Option (VDen L.heads ⊕ VDen L.outs)}
  (hinc : incFrom 0 live = true) (hB : ∀ s, roundK (real _) tab tbl loops an old c bid live L.heads L.outs s some = B s) {R1 : Type} {r1 : R1} {k1 : Ex → St → Option R1} {x : VDen L.outs}
  (hk : ∀ tmps', EnvR (outP L.outs x).2.env tmps' → tmps'.length = m → k1 (outP L.outs x).1.down ⟨tmps', kdown (outP L.outs x).2.mem⟩ = some r1) :
  ∀ (j : Nat) (s : VDen L.heads) (tmps : List AV), loopS B (j + 1) s = some x → EnvR (outP L.heads s).2.env tmps → tmps.length = m →
   (codeA P C an n old c bid ⟨tmps, kdown (outP L.heads s).2.mem⟩ fun e st' => match e with
    | .normal => iterA (memN bid an.keep) old live (fun st k => codeA P C an n old c bid st k) j st' k1
    | .exit id => k1 (.exit id) st'
    | .ret => k1 .ret st') = some r1
 | j, s, tmps, h, he, hm => by
  have h' : ((B s).bind fun q => Sum.rec (fun s' => loopS B j s') (fun x => some x) q) = some x := h
  obtain ⟨q, hq, h'⟩ := yd2.1 h'
  rw [← hB] at hq
  have hq := zej hq
  refine ih hls he hm hq fun e st' tmps' hk' he' hm' => ?_
  cases e with
  | normal =>
   obtain ⟨st1, tmps1, h1, h2, h3, h4⟩ := zjJ he' hinc hk'
   split at h1 <;> try contradiction
   rename_i s' hs'
   have := ya h1
   subst this
   obtain ⟨_, e2, e3⟩ := zfP hs'
   cases j with
   | zero => cases h'
   | succ j =>
    have := zjs ih hls hinc hB hk j s' tmps1 h' (h3.of_le e3) (h4.trans hm')
    show iterA (memN bid an.keep) old live _ (j + 1) ⟨tmps', kdown st'.mem⟩ k1 = some r1
    simp only [iterA]
    rw [h2, ← e2]
    exact this
  | exit id =>
   simp only at hk'
   split at hk' <;> try contradiction
   rename_i x' hx'
   have := ya hk'
   subst this
   have := ya h'
   subst this
   obtain ⟨e1, e2, e3⟩ := zfP hx'
   have := hk tmps' (he'.of_le e3) hm'
   rw [e1, e2] at this
   exact this
  | ret =>
   simp only at hk'
   split at hk' <;> try contradiction
   rename_i x' hx'
   have := ya hk'
   subst this
   have := ya h'
   subst this
   obtain ⟨e1, e2, e3⟩ := zfP hx'
   have := hk tmps' (he'.of_le e3) hm'
   rw [e1, e2] at this
   exact this
 termination_by j => j
theorem zjl (ht : TabOK P tab) (hC : AskOK C tbl) {n m : Nat} (c : Code) (hd : dstsOk m c = true) : Sim P C tab tbl loops an old n m c := by
 induction c with
 | skip =>
  intro R R1 r r1 bid st k k1 tmps hls he hm h hk
  exact hk .normal st tmps h he hm
 | ret =>
  intro R R1 r r1 bid st k k1 tmps hls he hm h hk
  exact hk .ret st tmps h he hm
 | exit id =>
  intro R R1 r r1 bid st k k1 tmps hls he hm h hk
  exact hk (.exit id) st tmps h he hm
 | seq a b iha ihb =>
  intro R R1 r r1 bid st k k1 tmps hls he hm h hk
  have hd' : (dstsOk m a && dstsOk m b) = true := hd
  rw [yb] at hd'
  have h' : codeK (real R) tab tbl loops an old a bid st (fun e st' => match e with
   | .normal => codeK (real R) tab tbl loops an old b bid st' k
   | .exit id => k (.exit id) st'
   | .ret => k .ret st') = some r := h
  refine iha hd'.1 (fun q hq => hls q (yq1 _ hq)) he hm h' fun e st' tmps' h1 he' hm' => ?_
  cases e with
  | normal => exact ihb hd'.2 (fun q hq => hls q (yr1 _ hq)) he' hm' h1 hk
  | exit id => exact hk (.exit id) st' tmps' h1 he' hm'
  | ret => exact hk .ret st' tmps' h1 he' hm'
 | cond c x y ihx ihy =>
  intro R R1 r r1 bid st k k1 tmps hls he hm h hk
  have hd' : (dstsOk m x && dstsOk m y) = true := hd
  rw [yb] at hd'
  have h' : (getK st.env c fun v => match v with
   | .lit (.bool t) => (real R).ite t (codeK (real R) tab tbl loops an old x bid ⟨envKnow st.env c true, st.mem⟩ k) (codeK (real R) tab tbl loops an old y bid ⟨envKnow st.env c false, st.mem⟩ k)
   | .unkB => (real R).amb (codeK (real R) tab tbl loops an old x bid st k) (codeK (real R) tab tbl loops an old y bid st k)
   | _ => none) = some r := h
  obtain ⟨v, hv, h1, hne⟩ := zd he h'
  clear hne
  have hgoal : codeA P C an n old (.cond c x y) bid ⟨tmps, kdown st.mem⟩ k1 = (match evalA tmps c with
   | some (.lit (.bool t)) => bif t then codeA P C an n old x bid ⟨tmps, kdown st.mem⟩ k1 else codeA P C an n old y bid ⟨tmps, kdown st.mem⟩ k1
   | some (.imm true (.lit (.bool false))) => Go.Ab.amb (codeA P C an n old x bid ⟨tmps, kdown st.mem⟩ k1) (codeA P C an n old y bid ⟨tmps, kdown st.mem⟩ k1)
   | _ => none) := rfl
  rw [hgoal, hv]
  split at h1 <;> try contradiction
  ·rename_i t
   have hkn : EnvR (envKnow st.env c t) tmps := by
    unfold envKnow
    split
    ·rename_i d
     intro t'
     show envSet st.env d (.lit (.bool t)) t' = .gone ∨ getR tmps t' = some (envSet st.env d (.lit (.bool t)) t').down ∧ isGone (envSet st.env d (.lit (.bool t)) t').down = false
     by_cases e : t' = d
     ·subst e
      right
      have e2 : envSet st.env t' (.lit (.bool t)) t' = .lit (.bool t) := by
       show (bif Nat.beq t' t' then KV.lit (.bool t) else st.env t') = _
       rw [yq2]; rfl
      rw [e2]
      refine ⟨?_, rfl⟩
      have := hv
      simp only [evalA] at this
      rcases he t' with h0 | ⟨h0, h2⟩
      ·exfalso
       have hg := h'
       unfold getK at hg
       simp only [h0] at hg
       cases hg
      ·rw [h0]
       unfold getT at this
       rw [h0] at this
       simpa [h2] using this
     ·have e2 : envSet st.env d (.lit (.bool t)) t' = st.env t' := by
       show (bif Nat.beq t' d then KV.lit (.bool t) else st.env t') = _
       have : Nat.beq t' d = false := by
        cases hb : Nat.beq t' d with
        | true => exact absurd (nb.1 hb) e
        | false => rfl
       rw [this]; rfl
      rw [e2]
      exact he t'
    ·exact he
   cases t with
   | true => exact ihx hd'.1 (fun q hq => hls q (yq1 _ hq)) (st := ⟨envKnow st.env c true, st.mem⟩) hkn hm h1 hk
   | false => exact ihy hd'.2 (fun q hq => hls q (yr1 _ hq)) (st := ⟨envKnow st.env c false, st.mem⟩) hkn hm h1 hk
  ·have h1 : Go.Ab.amb (codeK (real R) tab tbl loops an old x bid st k) (codeK (real R) tab tbl loops an old y bid st k) = some r := h1
   have h1 := zmv h1
   show Go.Ab.amb (codeA P C an n old x bid ⟨tmps, kdown st.mem⟩ k1) (codeA P C an n old y bid ⟨tmps, kdown st.mem⟩ k1) = some r1
   exact zoe ⟨ihx hd'.1 (fun q hq => hls q (yq1 _ hq)) he hm h1.1 hk, ihy hd'.2 (fun q hq => hls q (yr1 _ hq)) he hm h1.2 hk⟩
 | block id c ih =>
  intro R R1 r r1 bid st k k1 tmps hls he hm h hk
  have h' : codeK (real R) tab tbl loops an old c id st (fun e st' => match e with
   | .normal => k .normal st'
   | .exit j => bif Nat.beq j id then k .normal st' else k (.exit j) st'
   | .ret => k .ret st') = some r := h
  refine ih hd hls he hm h' fun e st' tmps' h1 he' hm' => ?_
  cases e with
  | normal => exact hk .normal st' tmps' h1 he' hm'
  | exit j =>
   have h1 : (bif Nat.beq j id then k .normal st' else k (.exit j) st') = some r := h1
   show (bif Nat.beq j id then k1 .normal ⟨tmps', kdown st'.mem⟩ else k1 (.exit j) ⟨tmps', kdown st'.mem⟩) = some r1
   cases hj : Nat.beq j id with
   | true => rw [hj] at h1; exact hk .normal st' tmps' h1 he' hm'
   | false => rw [hj] at h1; exact hk (.exit j) st' tmps' h1 he' hm'
  | ret => exact hk .ret st' tmps' h1 he' hm'
 | loop c ih =>
  intro R R1 r r1 bid st k k1 tmps hls he hm h hk
  have h' : (match assoc bid an.live with
   | some live => headK (real R) (memN bid an.keep) old live st fun st1 =>
    (match loops bid with
    | some L => (match decV false L.heads .normal st1 with
     | some s => (real R).bind (L.run s) fun x => encV (real R) L.outs x k
     | none => none)
    | none => none)
   | none => none) = some r := h
  split at h' <;> try contradiction
  rename_i live hlive
  obtain ⟨hL, hrest⟩ : LoopOK tab tbl loops an old n bid c ∧ LoopsOK tab tbl loops an old n c bid := ⟨hls (bid, c) (yn ..), fun q hq => hls q (yi _ hq)⟩
  cases hlo : loops bid with
  | none =>
   simp only [hlo] at h'
   unfold headK at h'
   exfalso
   obtain ⟨vs, h2, _⟩ := zee he h'
   obtain ⟨_, _, h3, _⟩ := zhH h2
   cases h3
  | some L =>
   obtain ⟨live', B, hl', hinc, hrun, hB⟩ := hL L hlo
   rw [hlive] at hl'
   obtain rfl := ya hl'
   obtain ⟨st1, tmps1, h1, h2, h3, h4⟩ := zjJ he hinc h'
   simp only [hlo] at h1
   split at h1 <;> try contradiction
   rename_i s hs
   have h1' : ((L.run s).bind fun x => encV (real R) L.outs x k) = some r := h1
   obtain ⟨x, hx, h1'⟩ := yd2.1 h1'
   have h5 := zej h1'
   obtain ⟨_, e2, e3⟩ := zfP hs
   rw [hrun] at hx
   have hgoal : codeA P C an n old (.loop c) bid ⟨tmps, kdown st.mem⟩ k1 = (assoc bid an.live).bind fun live => iterA (memN bid an.keep) old live (fun st k => codeA P C an n old c bid st k) n ⟨tmps, kdown st.mem⟩ k1 := rfl
   rw [hgoal, hlive, yc]
   cases n with
   | zero => cases hx
   | succ j =>
    have := zjs (k1 := k1) (ih hd) hrest hinc hB (fun tmps' he' hm' => hk _ _ tmps' h5 he' hm') j s tmps1 hx (h3.of_le e3) (h4.trans hm)
    simp only [iterA]
    rw [h2, ← e2]
    exact this
 | region rid ops draw =>
  intro R R1 r r1 bid st k k1 tmps hls he hm h hk
  have h : tidyK (real R) an rid old st (fun st => regionK (real R) tab tbl an rid ops draw st (fun st' => k .normal st')) = some r := h
  obtain ⟨st1, tmps1, h, htd, he1, hlen⟩ := zoQ he h
  have hm1 := hlen.trans hm
  have hgoal : codeA P C an n old (.region rid ops draw) bid ⟨tmps, kdown st.mem⟩ k1 = (tidyA an rid old ⟨tmps, kdown st.mem⟩).bind fun st => regionA P C an rid ops draw st (fun st' => k1 .normal st') := rfl
  rw [hgoal, htd, yc]
  refine zmz ht hC (st := st1) (fun o ho d hdst => ?_) he1 h fun st' tmps' h1 he' hm' => hk .normal st' tmps' h1 he' (hm'.trans hm1)
  have hd' : (ops.toList.all fun o => match o.dst with | some d => Nat.blt d m | none => true) = true := hd
  rw [yo2] at hd'
  have := hd' o ho
  rw [hdst] at this
  simp only at this
  rw [hm1]
  rw [Nat.blt_eq] at this; exact this
 | _ => intro R R1 r r1 bid st k k1 tmps hls he hm h hk; cases h
end
end Go.Ab
