import Derived.Test.YtdlbbdbbpoggfaaLib17
set_option linter.unusedVariables false
set_option linter.unusedSectionVars false
set_option linter.unusedSimpArgs false
namespace Go.Ab
variable [GTab]
section
variable {P : Program} {R : Type} {r : R} {mem : KMem} {tab : TypeId → Option TI}
def EnvR (env : Nat → KV) (tmps : List AV) : Prop := ∀ t, env t = .gone ∨ getR tmps t = some (env t).down ∧ isGone (env t).down = false
theorem zbV {v : KV} : isGone v.down = true ↔ v = .gone := by
 cases v with
 | tsl β ag T xs =>
  constructor
  ·intro h
   have := zdJ ag T xs
   simp only [KV.down] at h
   cases hp : pvSl ag T xs with
   | agg _ => rw [hp] at this; cases this
   | lit _ => rw [hp] at h; cases β <;> cases h
   | ints _ _ => rw [hp] at h; cases β <;> cases h
   | sl _ _ => rw [hp] at h; cases β <;> cases h
  ·intro h; cases h
 | gone => simp [KV.down, AV.goneV, isGone]
 | dead => simp [KV.down, AV.dead, isGone]
 | unkB => simp [KV.down, AV.unkB, isGone]
 | _ => simp [KV.down, isGone]
theorem znT : ∀ {l : List Value}, allNotAgg l = true → lits l = some (KV.downs (l.map .lit))
 | [], _ => rfl
 | v :: l, h => by
  simp only [allNotAgg, yb] at h
  simp [lits, guardB, h.1, znT h.2, KV.downs, KV.down]
theorem zlv {v : Value} (h : constOk v = true) : ofVal v = some (ofValK v).down := by
 cases v <;> try rfl
 rename_i cs
 simp only [constOk] at h
 simp [ofVal, ofValK, znT h, KV.down]
theorem zd {env : Nat → KV} {tmps : List AV} (he : EnvR env tmps) {x : Operand} {k : KV → Option R} (h : getK env x k = some r) : ∃ v, evalA tmps x = some v.down ∧ k v = some r ∧ v ≠ .gone := by
 unfold getK at h
 split at h
 ·rename_i t
  have ht := he t
  have key : ∀ v, env t = v → v ≠ .gone → k v = some r → ∃ v, evalA tmps (.tmp t) = some v.down ∧ k v = some r ∧ v ≠ .gone := by
   intro v hv hg hk
   rcases ht with h1 | ⟨h1, h2⟩
   ·exact absurd (hv ▸ h1) hg
   ·rw [hv] at h1 h2
    refine ⟨v, ?_, hk, hg⟩
    simp only [evalA, getT, h1, yc, h2, yh]
  split at h
  ·cases h
  ·rename_i hne
   exact key _ rfl (fun e => hne e) h
 ·rename_i c
  rw [cds] at h
  refine ⟨_, zlv h.1, h.2, ?_⟩
  cases c <;> simp [ofValK]
 ·exact ⟨_, rfl, h, by simp⟩
 ·rename_i g
  split at h
  ·rename_i q hq
   exact ⟨_, by simp only [evalA, hq]; rfl, h, by simp⟩
  ·cases h
theorem zaX {env : Nat → KV} {tmps : List AV} (he : EnvR env tmps) : ∀ {xs : List Operand} {k : List KV → Option R}, getsK env xs k = some r → ∃ vs, allA (evalA tmps) xs = some (KV.downs vs) ∧ k vs = some r ∧ ∀ v ∈ vs, v ≠ .gone
 | [], k, h => ⟨[], rfl, h, by simp⟩
 | x :: xs, k, h => by
  simp only [getsK] at h
  obtain ⟨v, hv, h, hg⟩ := zd he h
  obtain ⟨vs, hvs, h, hgs⟩ := zaX he h
  exact ⟨v :: vs, by simp [allA, hv, hvs, KV.downs], h, by simpa using ⟨hg, hgs⟩⟩
noncomputable def dparts (ps : List (Nat × KV)) : List (Nat × AV) := ps.map fun q => (q.1, q.2.down)
theorem zcS {env : Nat → KV} {tmps : List AV} (he : EnvR env tmps) : ∀ {xs : List (Nat × Operand)} {k : List (Nat × KV) → Option R}, partsK env xs k = some r → ∃ ps, partsA (evalA tmps) xs = some (dparts ps) ∧ k ps = some r
 | [], k, h => ⟨[], rfl, h⟩
 | (i, x) :: xs, k, h => by
  simp only [partsK] at h
  obtain ⟨v, hv, h, hg⟩ := zd he h
  obtain ⟨vs, hvs, h⟩ := zcS he h
  exact ⟨(i, v) :: vs, by simp [partsA, hv, hvs, dparts], h⟩
theorem zct {env : Nat → KV} {tmps : List AV} (he : EnvR env tmps) {x : Option Operand} {k : Option Int → Option R} (h : optK env x k = some r) : ∃ i, optA (evalA tmps) x = some i ∧ k i = some r := by
 cases x with
 | none => exact ⟨none, rfl, h⟩
 | some x =>
  simp only [optK] at h
  obtain ⟨v, hv, h, hg⟩ := zd he h
  split at h
  ·rename_i kd n
   exact ⟨some n, by simp [optA, hv, KV.down, optInt], h⟩
  ·cases h
theorem zja (ht : TabOK P tab) {s : TypeId} {f : Nat} {k : Nat → Nat → TypeId → Option R} (h : fieldK tab s f k = some r) : ∃ off n t, fieldOff P s f = some (off, n, t) ∧ k off n t = some r := by
 unfold fieldK at h
 split at h
 ·rename_i ti hti
  split at h
  ·rename_i fs hk
   obtain ⟨l, hu, hc⟩ := (TIok.of (ht _ _ hti)).under_st hk
   split at h
   ·rename_i q hq
    rw [cds] at h
    obtain ⟨h1, h⟩ := h
    obtain ⟨fd, hf, hoff, hty, hsz⟩ := chkFs_get hc (by rw [← zf]; exact hq)
    refine ⟨_, _, _, ?_, h⟩
    unfold fieldOff
    rw [hu]
    simp only
    rw [← yo1, hf]
    rw [hty] at hsz
    simp only [yc, hoff, hty, hsz]
    rw [gds]
    exact ⟨h1, rfl⟩
   ·cases h
  ·cases h
 ·cases h
 where
 chkFs_get : ∀ {fs : List (Nat × Nat × TypeId)} {l : List Field} {f : Nat} {q : Nat × Nat × TypeId}, chkFs P fs l = true → fs[f]? = some q → ∃ fd, l[f]? = some fd ∧ fd.offset = q.1 ∧ fd.type = q.2.2 ∧ tsz P fd.type = some q.2.1
  | q0 :: fs, fd :: l, 0, q, hc, hq => by
   simp only [chkFs, yb] at hc
   obtain rfl := ya hq
   refine ⟨fd, rfl, (nb.1 hc.1.1.1).symm, (nb.1 hc.1.1.2).symm, ?_⟩
   have := hc.1.2
   split at this
   ·rename_i n hn; rw [hn, nb.1 this]
   ·cases this
  | q0 :: fs, fd :: l, f + 1, q, hc, hq => by
   simp only [chkFs, yb] at hc
   exact chkFs_get (fs := fs) (l := l) hc.2 (by simpa using hq)
  | [], _, f, q, _, hq => by simp at hq
  | _ :: _, [], f, q, hc, _ => by cases hc
theorem zgi {place : Nat → Option (Nat × Nat)} : ∀ {ps : List (Nat × KV)} {cs cs' : List KV}, fillK place cs ps = some cs' → fillA place (KV.downs cs) (dparts ps) = some (KV.downs cs')
 | [], cs, cs', h => by simp only [fillK, Option.some.injEq] at h; subst h; rfl
 | (i, v) :: ps, cs, cs', h => by
  simp only [fillK] at h
  split at h
  ·rename_i q hq
   rw [cds] at h
   obtain ⟨hg, h⟩ := h
   have ih := zgi h
   rw [zdt] at ih
   simp only [dparts, yu1, fillA, hq, yc, gds, zW, zb]
   exact ⟨hg, ih⟩
  ·cases h
theorem zgJ : ∀ {fs : List (Nat × Nat × TypeId)} {l : List Field}, chkFs P fs l = true → places? P l = some (fs.map fun q => (q.1, q.2.1))
 | [], [], _ => rfl
 | q :: fs, f :: l, h => by
  simp only [chkFs, yb] at h
  have h1 := nb.1 h.1.1.1
  have h3 := h.1.2
  split at h3
  ·rename_i n hn
   simp [places?, hn, zgJ h.2, h1, nb.1 h3]
  ·cases h3
 | [], _ :: _, h => by cases h
 | _ :: _, [], h => by cases h
theorem zmE (ht : TabOK P tab) {t : TypeId} {ps : List (Nat × KV)} {k : KOut → Option R} (h : (match tab t with
  | some ti =>
   (match ti.tk with
   | .st fs => (match fillK (fun i => match getR fs i with | some q => some (q.1, q.2.1) | none => none) (zeroK ti).cells ps with | some cs => k (outV (.agg cs)) | none => none)
   | .arr _ e => (match tab e with | some te => (match fillK (fun i => some (i * te.n, te.n)) (zeroK ti).cells ps with | some cs => k (outV (.agg cs)) | none => none) | none => none)
   | _ => none)
  | none => none) = some r) : ∃ v, buildA P t (dparts ps) = some v.down ∧ k (outV v) = some r := by
 split at h
 ·rename_i ti hti
  have hok := TIok.of (ht _ _ hti)
  have hz := hok.zero_eq.1
  split at h
  ·rename_i fs hk
   obtain ⟨l, hu, hc⟩ := hok.under_st hk
   split at h
   ·rename_i cs hcs
    refine ⟨.agg cs, ?_, h⟩
    have := zgi hcs
    unfold buildA
    rw [hz, hu]
    simp only [yc, zgJ hc]
    rw [(zeroCells hok).1]
    rw [show (fun i => (fs.map fun q => (q.1, q.2.1))[i]?) = (fun i => match getR fs i with | some q => some (q.1, q.2.1) | none => none) from ?_, this]
    ·rfl
    ·funext i
     rw [zf, yc1]
     cases fs[i]? <;> rfl
   ·cases h
  ·rename_i n e hk
   have hu := hok.under_arr hk
   split at h
   ·rename_i te hte
    have hoe := TIok.of (ht _ _ hte)
    split at h
    ·rename_i cs hcs
     refine ⟨.agg cs, ?_, h⟩
     have := zgi hcs
     unfold buildA
     rw [hz, hu]
     simp only [yc, hoe.n]
     rw [(zeroCells hok).1, this]; rfl
    ·cases h
   ·cases h
  ·cases h
 ·cases h
theorem zoj {c a b : KV} {k : KV → Option R} (h : pickK (real R) c a b k = some r) : ∃ v, pickA c.down a.down b.down = some v.down ∧ k v = some r := by
 unfold pickK at h
 split at h
 ·rename_i t
  split at h
  ·rename_i x y
   exact ⟨_, rfl, h⟩
  ·rename_i hne
   simp only [real_ite] at h
   have hp : pickA (.lit (.bool t)) a.down b.down = (bif t then some a.down else some b.down) := by
    unfold pickA
    simp only
    split
    ·rename_i x y ha hb
     exfalso
     cases a <;> simp [KV.down, AV.dead, AV.goneV, AV.unkB] at ha
     cases b <;> simp [KV.down, AV.dead, AV.goneV, AV.unkB] at hb
     subst ha; subst hb
     exact hne _ _ rfl rfl
    ·rfl
   cases t with
   | true => exact ⟨a, by rw [show KV.down (.lit (.bool true)) = .lit (.bool true) from rfl, hp]; rfl, h⟩
   | false => exact ⟨b, by rw [show KV.down (.lit (.bool false)) = .lit (.bool false) from rfl, hp]; rfl, h⟩
 ·cases h
theorem ziG (ht : TabOK P tab) {t et : TypeId} {ti : TI} (hti : tab t = some ti) (hk : ti.tk = .sl et) {te : TI} {T : Ty} (hte : tab et = some te) (hT : te.ty = some T) :
  emptyPV P t = some (pvSl te.ag T []) ∧ rowOfPV (pvSl te.ag T []) = some (KRow.ts false te.ag T []).down := by
 have hok := TIok.of (ht _ _ hti)
 have hoe := TIok.of (ht _ _ hte)
 have hu := hok.under_sl hk
 unfold emptyPV elemOf?
 rw [hu]
 simp only [yc]
 cases hi : isIntsK te.ag T with
 | true =>
  obtain ⟨hag, kk, rfl⟩ := zc.1 hi
  rw [(hoe.intKind hT hag).1, hag]
  exact ⟨rfl, rfl⟩
 | false =>
  rw [hoe.intKind_none hT hi, zo hi, KRow.down_sl hi]
  have hn := (hoe.ty T hT).2.1
  simp only [hoe.n, yc, hn, yp3, rowOfPV, and_true]
  rw [gds]
  exact ⟨nl.2 (by rw [← hn]; exact Ty.size_pos), rfl⟩
theorem zjA (ht : TabOK P tab) {boxed vars : Bool} {t : TypeId} {rs : Nat} {env : Nat → KV} {tmps : List AV} (he : EnvR env tmps) {x : Operand} {k : KOut → Option R} (h : moveK tab boxed vars t rs env x k = some r) :
  ∃ out, k out = some r ∧ opMove P boxed vars (evalA tmps) t rs x = some out.down := by
 unfold moveK at h
 unfold opMove
 cases hc : isNilC x && boxed && !vars with
 | true =>
  rw [hc] at h; simp only [yg] at h ⊢
  split at h
  ·rename_i ti hti
   split at h
   ·rename_i et hk
    obtain ⟨te, T, hte, hT, h⟩ := zcj ht h
    obtain ⟨h1, h2⟩ := ziG ht hti hk hte hT
    refine ⟨_, h, ?_⟩
    rw [h1]; simp only [yc, h2, yk]; rfl
   ·cases h
  ·cases h
 | false =>
  rw [hc] at h; simp only [yh] at h ⊢
  obtain ⟨v, hv, h, hg⟩ := zd he h
  rw [hv]; simp only [yc]
  split at h
  ·cases boxed with
   | true => simp only [yg] at h; exact ⟨_, h, rfl⟩
   | false =>
    simp only [yh] at h
    split at h
    ·rename_i ti hti
     split at h
     ·rename_i et hk
      obtain ⟨te, T, hte, hT, h⟩ := zcj ht h
      obtain ⟨h1, h2⟩ := ziG ht hti hk hte hT
      refine ⟨_, h, ?_⟩
      simp only [KV.down, yh, h1, yk]; rfl
     ·cases h
    ·cases h
  ·rename_i hne
   refine ⟨_, h, ?_⟩
   have : ∀ w, w = v.down → (match w with
    | .lit (.slice none 0 0) => bif boxed then some ({ v := w } : Out) else (emptyPV P t).map fun p => { v := .imm false p }
    | w => some { v := w }) = some (outV v).down := by
    intro w hw
    split
    ·exfalso
     cases v <;> simp [KV.down, AV.dead, AV.goneV, AV.unkB] at hw
     subst hw; exact hne rfl
    ·rw [hw]; rfl
   exact this _ rfl
theorem zlX (ht : TabOK P tab) {t : TypeId} {x ix : KV} {k : KOut → Option R} {ρ : Operand → Option AV} {ox oi : Operand} (hx : ρ ox = some x.down) (hi : ρ oi = some ix.down) (h : indexVK (real R) tab t x ix k = some r) :
  ∃ out, k out = some r ∧ opIndexV P ρ t ox oi = some out.down := by
 unfold opIndexV
 rw [hx, hi]; simp only [yc]
 unfold indexVK at h
 split at h
 ·rename_i cs kd i
  split at h
  ·rename_i ti hti
   have hok := TIok.of (ht _ _ hti)
   split at h
   ·rename_i n e hk
    have hu := hok.under_arr hk
    split at h
    ·rename_i te hte
     have hoe := TIok.of (ht _ _ hte)
     rw [cds] at h
     obtain ⟨hg, h⟩ := h
     simp only [yb, yt] at hg
     have hn1 := nb.1 hg.2
     simp only [real_guard] at h
     rw [cds] at h
     obtain ⟨hb, h⟩ := h
     obtain ⟨v, _, hv, h⟩ := zhU h
     rw [Nat.sub_zero] at hv
     refine ⟨_, h, ?_⟩
     have ha := hoe.ag; rw [hg.1] at ha
     simp only [KV.down, hu, ha, yc, hoe.n, hn1]
     rw [gds]
     refine ⟨?_, by rw [zcs hv]; rfl⟩
     simp only [yb] at hb ⊢
     exact ⟨⟨⟨rfl, rfl⟩, hb.1⟩, hb.2⟩
    ·cases h
   ·cases h
  ·cases h
 ·rename_i s kd i
  split at h
  ·rename_i ti hti
   have hok := TIok.of (ht _ _ hti)
   split at h
   ·rename_i hk
    have hu := hok.under_str hk
    simp only [real_get] at h
    rw [obs] at h
    obtain ⟨n, hn, h⟩ := h
    refine ⟨_, h, ?_⟩
    simp only [KV.down, hu, hn, yk]; rfl
   ·cases h
  ·cases h
 ·cases h
theorem zea {boxed : Bool} {rs : Nat} {row : KRow} {rd : List Nat} {wr : List (Nat × KBox)} {k : KOut → Option R} (h : madeK boxed rs row rd wr k = some r) :
  ∃ v w, k ⟨v, rd, wr ++ w, []⟩ = some r ∧ madeA boxed rs row.view = some { v := v.down, wr := w.map fun q => (q.1, q.2.down) } := by
 unfold madeK at h
 cases boxed with
 | true =>
  simp only [yg] at h
  cases ho : rowOwn row with
  | true => rw [ho] at h; cases h
  | false =>
   rw [ho] at h
   exact ⟨_, _, h, by simp [madeA, KV.down, KBox.down, zhW _ ho]⟩
 | false =>
  simp only [yh] at h
  split at h
  ·exact ⟨_, [], by simpa using h, by simp only [madeA, yh, zpz]; rfl⟩
  ·cases h
theorem zdA : ∀ (ps : List (Nat × KV)) (vs : List KV), KV.downs (setElsK vs ps) = setEls (KV.downs vs) (dparts ps)
 | [], vs => rfl
 | (i, v) :: ps, vs => by simp only [setElsK, dparts, yu1, setEls, zP, zdA ps, zgp]
theorem zcN {e : Nat} : ∀ {vs : List KV}, sizesOkK e vs = true → sizesOk e (KV.downs vs) = true
 | [], _ => rfl
 | v :: vs, h => by
  simp only [sizesOkK, yb] at h
  simp only [KV.downs, sizesOk, yb, zW, zb]
  exact ⟨h.1, zcN h.2⟩
theorem zdj {n : Nat} : ∀ {ps : List (Nat × KV)}, partsLtK n ps = true → partsLt n (dparts ps) = true
 | [], _ => rfl
 | (i, v) :: ps, h => by
  simp only [partsLtK, yb] at h
  simp only [dparts, yu1, partsLt, yb]
  exact ⟨h.1, zdj h.2⟩
theorem zcb : ∀ {vs : List KV}, cellsAll (KV.downs vs) = KV.downs (cellsAllK vs)
 | [] => rfl
 | v :: vs => by simp only [KV.downs, cellsAll, cellsAllK, zcb, zW]; simp [zy]
theorem zjo (n : Nat) (v : KV) : KV.downs (List.replicate n v) = List.replicate n v.down := by simp [zy]
theorem zhp (ht : TabOK P tab) {boxed vars : Bool} {env : Nat → KV} {tmps : List AV} (he : EnvR env tmps) {rs : Nat} {t : TypeId} {len : Nat} {parts : Array (Nat × Operand)} {k : KOut → Option R}
  (h : buildSliceK (real R) tab boxed vars env mem rs t len parts k = some r) : ∃ out, k out = some r ∧ opBuildSlice P boxed vars (evalA tmps) (kdown mem) rs t len parts = some out.down := by
 unfold buildSliceK at h
 have h0 := zal ht h
 clear h
 obtain ⟨et, te, het, hte, h, hu⟩ := h0
 have hoe := TIok.of (ht _ _ hte)
 have h0 := zcS he h
 clear h
 obtain ⟨ps, hps, h⟩ := h0
 simp only at h
 rw [cds] at h
 obtain ⟨hg, h⟩ := h
 simp only [yb] at hg
 obtain ⟨⟨⟨⟨⟨g1, g2⟩, g3⟩, g4⟩, g5⟩, g6⟩ := hg
 have pre : ∀ {wv : View × List Nat} {o : Out} {out : KOut}, toView P vars (kdown mem) et (KV.downs (setElsK (List.replicate len (zeroK te)) ps)) = some wv → wv.1.e = te.n → madeA (boxed || Nat.beq len 0) rs wv.1 = some o →
   ({ v := o.v, rd := wv.2, wr := frozenAt (kdown mem) wv.2 ++ o.wr } : Out) = out.down → opBuildSlice P boxed vars (evalA tmps) (kdown mem) rs t len parts = some out.down := by
  intro wv o out h1 h2 h3 h4
  unfold opBuildSlice
  rw [het]; simp only [yc, hoe.zero_eq.1, hoe.n, hps]
  rw [gds]
  constructor
  ·simp only [yb]
   refine ⟨⟨⟨⟨zdj g1, g2⟩, g3⟩, g4⟩, ?_⟩
   have : (zeroK te).down :: (dparts ps).map (·.2) = KV.downs (zeroK te :: ps.map (·.2)) := by simp [KV.downs, dparts, zy]
   rw [this]; exact zcN g5
  ·rw [← zjo, ← zdA, h1]
   simp only [yc]
   rw [gds]
   exact ⟨nb.2 h2, by rw [h3, ← h4]; rfl⟩
 split at h
 ·rename_i kd hk
  rw [cds] at h
  obtain ⟨hn1, h⟩ := h
  split at h
  ·rename_i xs hxs
   obtain ⟨v, w, h, hm⟩ := zea h
   refine ⟨_, h, pre (wv := (.ints kd xs, [])) ?_ (nb.1 hn1).symm hm ?_⟩
   ·unfold toView
    have : intKind? P et = some kd := by unfold intKind?; rw [hoe.under_int hk]
    rw [this]; simp only [zfN hxs, yk]
   ·simp [KOut.down, kdown, frozenAt]
  ·cases h
 ·rename_i hnk
  have hik : intKind? P et = none := by
   have htk := hoe.tk
   unfold intKind?
   cases hu2 : P.underlying et with
   | none => rfl
   | some d =>
    cases d with
    | int kk =>
     exfalso
     unfold chkTK at htk
     rw [hu2] at htk
     cases hk : te.tk with
     | int k2 => exact hnk k2 hk
     | _ => rw [hk] at htk; cases htk
    | _ => rfl
  cases vars with
  | true =>
   simp only [yg] at h
   rw [cds] at h
   obtain ⟨h1, h⟩ := h
   obtain ⟨v, w, h, hm⟩ := zea h
   refine ⟨_, h, pre (wv := ((KRow.cells te.n (cellsAllK (setElsK (List.replicate len (zeroK te)) ps))).view, [])) ?_ rfl hm (by simp [KOut.down, kdown, frozenAt])⟩
   unfold toView
   rw [hik]
   simp only [hoe.n, yc, yg]
   rw [gds]
   simp only [yb, zcb]
   exact ⟨⟨⟨zcN g6, g3⟩, zab h1⟩, rfl⟩
  | false =>
   simp only [yh] at h
   split at h
   ·rename_i T hT
    have h0 := zgV hoe hT h
    clear h
    obtain ⟨xs, β, l, h, hfe⟩ := h0
    obtain ⟨v, w, h, hm⟩ := zea h
    have hni : isIntsK te.ag T = false := by
     cases hi : isIntsK te.ag T with
     | false => rfl
     | true =>
      obtain ⟨hag, kk, rfl⟩ := zc.1 hi
      rw [(hoe.intKind hT hag).1] at hik; cases hik
    refine ⟨_, h, pre (wv := ((KRow.ts β te.ag T xs).view, l)) ?_ (by rw [zjU]; exact (hoe.ty T hT).2.1) hm ?_⟩
    ·unfold toView
     rw [hik]
     simp only [hoe.n, yc, yh, hfe, yk]
     rw [KRow.view_sl hni, (hoe.ty T hT).2.1]
    ·simp only [KOut.down, yl3, zdw]; simp [kdown]
   ·cases h
theorem zil (ht : TabOK P tab) {boxed : Bool} {rs : Nat} {t : TypeId} {l c : KV} {k : KOut → Option R} {ρ : Operand → Option AV} {ol oc : Operand} (hl : ρ ol = some l.down) (hc : ρ oc = some c.down)
  (h : makeSliceK (real R) tab boxed mem t rs l c k = some r) : ∃ out, k out = some r ∧ opMake P boxed ρ (kdown mem) rs t ol oc = some out.down := by
 unfold makeSliceK at h
 have h0 := zal ht h
 clear h
 obtain ⟨et, te, het, hte, h, hu⟩ := h0
 have hoe := TIok.of (ht _ _ hte)
 unfold opMake
 rw [het]; simp only [yc, hoe.zero_eq.1, hl, hc]
 split at h
 ·rename_i k1 n k2 n'
  split at h
  ·rename_i T hT
   rw [cds] at h
   obtain ⟨hg, h⟩ := h
   simp only [yb] at hg
   obtain ⟨⟨⟨g1, g2⟩, g3⟩, g4⟩ := hg
   obtain ⟨⟨ls, hls, hcl⟩, hn, hag, hd⟩ := hoe.ty T hT
   have h0 := zby hcl hd h
   clear h
   obtain ⟨z, β, ids, h, hz⟩ := h0
   cases he : emptyN ids with
   | false => rw [he] at h; cases h
   | true =>
    rw [he] at h; simp only [yn3, yh, real_guard] at h
    rw [cds] at h
    obtain ⟨hb, h⟩ := h
    obtain ⟨v, w, h, hm⟩ := zea h
    refine ⟨_, h, ?_⟩
    simp only [KV.down]
    rw [gds]
    refine ⟨hb, ?_⟩
    have hzc : (zeroK te).down.cells = KV.downs (te.zero.map .lit) := by rw [(zeroCells hoe).1, (zeroCells hoe).2.1]
    have htp : toPV P (kdown mem) et (zeroK te).down = some (β, pvEl te.ag T z, ids) := by
     unfold toPV
     rw [hls, yc, hzc, hz]
     simp only [yc, zcE hoe.ag hag, yk]
    have ho : (madeA boxed rs (KRow.ts β te.ag T (List.replicate n.toNat z)).view) = some (KOut.mk v [] ([] ++ w) []).down := by
     rw [hm]; simp [KOut.down, kdown]
    cases hi : isIntsK te.ag T with
    | true =>
     obtain ⟨hag0, kk, rfl⟩ := zc.1 hi
     rw [(hoe.intKind hT hag0).1]
     have hn1 : te.n = 1 := (hn : 1 = te.n).symm
     simp only [hoe.n, hoe.bytes, yc]
     have hzs : ∃ zi : Int, intsOf kk [(zeroK te).down] = some [zi] ∧ (zi : den (.int kk)) = z := by
      obtain ⟨_, _, h3⟩ := hoe.zero_eq
      obtain ⟨v0, hv0, hzk⟩ := h3 hag0
      rw [hzk]
      rw [hv0] at hz
      have hz1 : zipEls (treeX P (kdown mem)) ls [AV.lit v0] = some (β, [.lit (.int kk z)], ids) := hz
      have hls1 : ls = [.int kk] := by
       simp only [chkLs] at hcl
       split at hcl
       ·rw [keq.1 hcl]
       ·cases hcl
      rw [hls1] at hz1
      simp only [zipEls, obs] at hz1
      obtain ⟨a, ha, b, hb', hz1⟩ := hz1
      obtain rfl := ya hb'
      simp only [Option.some.injEq, Prod.mk.injEq, List.cons.injEq, and_true] at hz1
      replace ha : tree P (kdown mem) 6 (.int kk) (.lit v0) = some a := ha
      cases v0 <;> simp only [tree] at ha <;> first | cases ha | skip
      rename_i k3 n3
      rw [gds] at ha
      obtain ⟨hk3, ha⟩ := ha
      obtain rfl := ya ha
      obtain rfl := keq.1 hk3
      simp only [PV.lit.injEq, Value.int.injEq, true_and] at hz1
      exact ⟨n3, by simp [KV.down, intsOf, keq.2], (Value.int.inj hz1.2.1).2⟩
     obtain ⟨zi, hzs, rfl⟩ := hzs
     rw [hzs]; simp only [yc, List.headD_cons]
     rw [gds]
     refine ⟨by simp only [yb]; exact ⟨nb.2 hn1, g2⟩, ?_⟩
     rw [← ho, hag0]; rfl
    | false =>
     rw [hoe.intKind_none hT hi, htp]
     simp only [yc, hoe.n, hoe.bytes]
     rw [gds]
     refine ⟨?_, ?_⟩
     ·simp only [yb]
      exact ⟨⟨⟨g1, g2⟩, by rw [hzc, zb, yf1]; exact g4⟩, he⟩
     ·rw [← ho, KRow.view_sl hi, List.map_replicate, hn]
  ·cases h
 ·cases h
theorem zkH (ht : TabOK P tab) {boxed : Bool} {src dst : TypeId} {rs : Nat} {x : KV} {k : KOut → Option R} (h : convertK (real R) tab boxed src dst mem rs x k = some r) :
  ∃ out, k out = some r ∧ convertA P boxed src dst (kdown mem) rs x.down = some out.down := by
 unfold convertK at h
 split at h
 ·rename_i s d hs hd
  have hos := TIok.of (ht _ _ hs)
  have hod := TIok.of (ht _ _ hd)
  unfold convertA
  split at h
  ·rename_i k1 kd hk1 hk2
   split at h
   ·rename_i n
    refine ⟨_, h, ?_⟩
    rw [hos.under_int hk1, hod.under_int hk2]; rfl
   ·cases h
  ·rename_i hk1 hk2
   split at h
   ·refine ⟨_, h, ?_⟩
    rw [hos.under_str hk1, hod.under_str hk2]; rfl
   ·cases h
  ·rename_i e hk1 hk2
   rw [hos.under_sl hk1, hod.under_str hk2]
   split at h
   ·rename_i te hte
    have hoe := TIok.of (ht _ _ hte)
    split at h
    ·rename_i ke hke
     rw [cds] at h
     obtain ⟨hg, h⟩ := h
     simp only [yb] at hg
     obtain ⟨⟨g1, g2⟩, g3⟩ := hg
     have h0 := zgs ht h
     clear h
     obtain ⟨row, rd, h, hv⟩ := h0
     split at h
     ·rename_i β ag ke' xs
      rw [cds] at h
      obtain ⟨hg4, h⟩ := h
      simp only [yb, yt] at hg4
      obtain ⟨g4, rfl⟩ := hg4
      refine ⟨_, h, ?_⟩
      simp only
      rw [hoe.under_int hke, keq.1 g1]
      simp only [hv, yc, hoe.n, nb.1 g2]
      rw [gds]
      refine ⟨by simp only [yi3]; exact zeR ht g3, ?_⟩
      obtain rfl := keq.1 g4
      rfl
     ·cases h
    ·cases h
   ·cases h
  ·rename_i e0 e hk1 hk2
   rw [hos.under_sl hk1, hod.under_sl hk2]
   split at h
   ·rename_i te b g hte
    have hoe := TIok.of (ht _ _ hte)
    split at h
    ·rename_i ke hke
     rw [cds] at h
     obtain ⟨hg, h⟩ := h
     simp only [yb] at hg
     have h0 := zw h
     clear h
     obtain ⟨bx, hbx, h⟩ := h0
     simp only [real_guard] at h
     rw [cds] at h
     refine ⟨_, h.2, ?_⟩
     simp only [KV.down]
     rw [hoe.under_int hke, keq.1 hg.1]
     simp only
     rw [gds]
     refine ⟨hg.2, ?_⟩
     rw [hbx]; simp only [yc, show bx.down.row = bx.row.down from rfl, zdf]
     rw [gds]
     exact ⟨h.1, rfl⟩
    ·cases h
   ·cases h
  ·cases h
 ·cases h
end
end Go.Ab
