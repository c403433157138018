import Derived.Test.YtdlbbdbbpoggfaaLib16
set_option linter.unusedVariables false
set_option linter.unusedSectionVars false
set_option linter.unusedSimpArgs false
namespace Go.Ab
variable [b4]
section
variable {P : Program} {R : Type} {r : R} {mem : aD} {tab : TypeId → Option TI}
def fB (env : Nat → KV) (tmps : List AV) : Prop := ∀ t, env t = .gone ∨ dX tmps t = some (env t).down ∧ eL (env t).down = false
theorem nM {v : KV} : eL v.down = true ↔ v = .gone := by
 cases v with
 | tsl β ag T xs =>
  constructor
  ·intro h
   have := vR ag T xs
   simp only [KV.down] at h
   cases H : dL ag T xs with
   | agg _ => rw [H] at this; cases this
   | lit _ => rw [H] at h; cases β <;> cases h
   | ints _ _ => rw [H] at h; cases β <;> cases h
   | sl _ _ => rw [H] at h; cases β <;> cases h
  ·intro h; cases h
 | gone => simp [KV.down, AV.goneV, eL]
 | dead => simp [KV.down, AV.dead, eL]
 | unkB => simp [KV.down, AV.unkB, eL]
 | _ => simp [KV.down, eL]
theorem Ls : ∀ {l : List Value}, wV l = true → HN l = some (KV.downs (l.map .lit))
 | [], _ => rfl
 | v :: l, h => by
  simp only [wV, yb] at h
  simp [HN, guardB, h.1, Ls h.2, KV.downs, KV.down]
theorem Jo {v : Value} (h : HI v = true) : yG v = some (HF v).down := by
 cases v <;> try rfl
 rename_i cs
 simp only [HI] at h
 simp [yG, HF, Ls h, KV.down]
theorem aO {env : Nat → KV} {tmps : List AV} (O : fB env tmps) {x : Operand} {k : KV → Option R} (h : eQ env x k = some r) : ∃ v, bW tmps x = some v.down ∧ k v = some r ∧ v ≠ .gone := by
 unfold eQ at h
 split at h
 ·rename_i t
  have ht := O t
  have I : ∀ v, env t = v → v ≠ .gone → k v = some r → ∃ v, bW tmps (.tmp t) = some v.down ∧ k v = some r ∧ v ≠ .gone := by
   intro v M N U
   rcases ht with H | ⟨H, K⟩
   ·exact absurd (M ▸ H) N
   ·rw [M] at H K
    refine ⟨v, ?_, U, N⟩
    simp only [bW, CV, H, ye, K, yk]
  split at h
  ·cases h
  ·rename_i J
   exact I _ rfl (fun e => J e) h
 ·rename_i c
  rw [bP] at h
  refine ⟨_, Jo h.1, h.2, ?_⟩
  cases c <;> simp [HF]
 ·exact ⟨_, rfl, h, by simp⟩
 ·rename_i g
  split at h
  ·rename_i q V
   exact ⟨_, by simp only [bW, V]; rfl, h, by simp⟩
  ·cases h
theorem jY {env : Nat → KV} {tmps : List AV} (J : fB env tmps) : ∀ {xs : List Operand} {k : List KV → Option R}, q9 env xs k = some r → ∃ vs, m7 (bW tmps) xs = some (KV.downs vs) ∧ k vs = some r ∧ ∀ v ∈ vs, v ≠ .gone
 | [], k, h => ⟨[], rfl, h, by simp⟩
 | x :: xs, k, h => by
  simp only [q9] at h
  obtain ⟨v, M, h, K⟩ := aO J h
  obtain ⟨vs, H, h, I⟩ := jY J h
  exact ⟨v :: vs, by simp [m7, M, H, KV.downs], h, by simpa using ⟨K, I⟩⟩
noncomputable def kD (ps : List (Nat × KV)) : List (Nat × AV) := ps.map fun q => (q.1, q.2.down)
theorem qR {env : Nat → KV} {tmps : List AV} (I : fB env tmps) : ∀ {xs : List (Nat × Operand)} {k : List (Nat × KV) → Option R}, A6 env xs k = some r → ∃ ps, jW (bW tmps) xs = some (kD ps) ∧ k ps = some r
 | [], k, h => ⟨[], rfl, h⟩
 | (i, x) :: xs, k, h => by
  simp only [A6] at h
  obtain ⟨v, J, h, hg⟩ := aO I h
  obtain ⟨vs, H, h⟩ := qR I h
  exact ⟨(i, v) :: vs, by simp [jW, J, H, kD], h⟩
theorem oK {env : Nat → KV} {tmps : List AV} (H : fB env tmps) {x : Option Operand} {k : Option Int → Option R} (h : IQ env x k = some r) : ∃ i, AH (bW tmps) x = some i ∧ k i = some r := by
 cases x with
 | none => exact ⟨none, rfl, h⟩
 | some x =>
  simp only [IQ] at h
  obtain ⟨v, I, h, hg⟩ := aO H h
  split at h
  ·rename_i kd n
   exact ⟨some n, by simp [AH, I, KV.down, KC], h⟩
  ·cases h
theorem Dm (ht : bI P tab) {s : TypeId} {f : Nat} {k : Nat → Nat → TypeId → Option R} (h : Hw tab s f k = some r) : ∃ K n t, kU P s f = some (K, n, t) ∧ k K n t = some r := by
 unfold Hw at h
 split at h
 ·rename_i ti U
  split at h
  ·rename_i fs V
   obtain ⟨l, Z, H⟩ := (bV.of (ht _ _ U)).under_st V
   split at h
   ·rename_i q J
    rw [bP] at h
    obtain ⟨Y, h⟩ := h
    obtain ⟨I, W, M, O, N⟩ := chkFs_get H (by rw [← aX]; exact J)
    refine ⟨_, _, _, ?_, h⟩
    unfold kU
    rw [Z]
    simp only
    rw [← yp1, W]
    rw [O] at N
    simp only [ye, M, O, N]
    rw [d9]
    exact ⟨Y, rfl⟩
   ·cases h
  ·cases h
 ·cases h
 where
 chkFs_get : ∀ {fs : List (Nat × Nat × TypeId)} {l : List Field} {f : Nat} {q : Nat × Nat × TypeId}, CD P fs l = true → fs[f]? = some q → ∃ I, l[f]? = some I ∧ I.offset = q.1 ∧ I.type = q.2.2 ∧ iR P I.type = some q.2.1
  | q0 :: fs, I :: l, 0, q, H, J => by
   simp only [CD, yb] at H
   obtain rfl := ya J
   refine ⟨I, rfl, (nb.1 H.1.1.1).symm, (nb.1 H.1.1.2).symm, ?_⟩
   have := H.1.2
   split at this
   ·rename_i n hn; rw [hn, nb.1 this]
   ·cases this
  | q0 :: fs, I :: l, f + 1, q, H, J => by
   simp only [CD, yb] at H
   exact chkFs_get (fs := fs) (l := l) H.2 (by simpa using J)
  | [], _, f, q, _, J => by simp at J
  | _ :: _, [], f, q, H, _ => by cases H
theorem BM {H : Nat → Option (Nat × Nat)} : ∀ {ps : List (Nat × KV)} {cs I : List KV}, BW H cs ps = some I → Cw H (KV.downs cs) (kD ps) = some (KV.downs I)
 | [], cs, I, h => by simp only [BW, Option.some.injEq] at h; subst h; rfl
 | (i, v) :: ps, cs, I, h => by
  simp only [BW] at h
  split at h
  ·rename_i q K
   rw [bP] at h
   obtain ⟨M, h⟩ := h
   have J := BM h
   rw [sK] at J
   simp only [kD, yx1, Cw, K, ye, d9, eG, aG]
   exact ⟨M, J⟩
  ·cases h
theorem Cz : ∀ {fs : List (Nat × Nat × TypeId)} {l : List Field}, CD P fs l = true → places? P l = some (fs.map fun q => (q.1, q.2.1))
 | [], [], _ => rfl
 | q :: fs, f :: l, h => by
  simp only [CD, yb] at h
  have I := nb.1 h.1.1.1
  have H := h.1.2
  split at H
  ·rename_i n hn
   simp [places?, hn, Cz h.2, I, nb.1 H]
  ·cases H
 | [], _ :: _, h => by cases h
 | _ :: _, [], h => by cases h
theorem K7 (ht : bI P tab) {t : TypeId} {ps : List (Nat × KV)} {k : aZ → Option R} (h : (match tab t with
  | some J =>
   (match J.tk with
   | .st fs => (match BW (fun i => match dX fs i with | some q => some (q.1, q.2.1) | none => none) (eP J).cells ps with | some cs => k (f8 (.agg cs)) | none => none)
   | .arr _ e => (match tab e with | some V => (match BW (fun i => some (i * V.n, V.n)) (eP J).cells ps with | some cs => k (f8 (.agg cs)) | none => none) | none => none)
   | _ => none)
  | none => none) = some r) : ∃ v, Bf P t (kD ps) = some v.down ∧ k (f8 v) = some r := by
 split at h
 ·rename_i J U
  have H := bV.of (ht _ _ U)
  have W := H.zero_eq.1
  split at h
  ·rename_i fs K
   obtain ⟨l, O, Y⟩ := H.under_st K
   split at h
   ·rename_i cs I
    refine ⟨.agg cs, ?_, h⟩
    have := BM I
    unfold Bf
    rw [W, O]
    simp only [ye, Cz Y]
    rw [(zeroCells H).1]
    rw [show (fun i => (fs.map fun q => (q.1, q.2.1))[i]?) = (fun i => match dX fs i with | some q => some (q.1, q.2.1) | none => none) from ?_, this]
    ·rfl
    ·funext i
     rw [aX, yb1]
     cases fs[i]? <;> rfl
   ·cases h
  ·rename_i n e K
   have O := H.under_arr K
   split at h
   ·rename_i V N
    have M := bV.of (ht _ _ N)
    split at h
    ·rename_i cs I
     refine ⟨.agg cs, ?_, h⟩
     have := BM I
     unfold Bf
     rw [W, O]
     simp only [ye, M.n]
     rw [(zeroCells H).1, this]; rfl
    ·cases h
   ·cases h
  ·cases h
 ·cases h
theorem M9 {c a b : KV} {k : KV → Option R} (h : Nr (aP R) c a b k = some r) : ∃ v, Gn c.down a.down b.down = some v.down ∧ k v = some r := by
 unfold Nr at h
 split at h
 ·rename_i t
  split at h
  ·rename_i x y
   exact ⟨_, rfl, h⟩
  ·rename_i H
   simp only [real_ite] at h
   have J : Gn (.lit (.bool t)) a.down b.down = (bif t then some a.down else some b.down) := by
    unfold Gn
    simp only
    split
    ·rename_i x y K I
     exfalso
     cases a <;> simp [KV.down, AV.dead, AV.goneV, AV.unkB] at K
     cases b <;> simp [KV.down, AV.dead, AV.goneV, AV.unkB] at I
     subst K; subst I
     exact H _ _ rfl rfl
    ·rfl
   cases t with
   | true => exact ⟨a, by rw [show KV.down (.lit (.bool true)) = .lit (.bool true) from rfl, J]; rfl, h⟩
   | false => exact ⟨b, by rw [show KV.down (.lit (.bool false)) = .lit (.bool false) from rfl, J]; rfl, h⟩
 ·cases h
theorem Du (ht : bI P tab) {t V : TypeId} {U : TI} (N : tab t = some U) (W : U.tk = .sl V) {I : TI} {T : Ty} (O : tab V = some I) (hT : I.ty = some T) :
  qB P t = some (dL I.ag T []) ∧ H4 (dL I.ag T []) = some (KRow.ts false I.ag T []).down := by
 have M := bV.of (ht _ _ N)
 have H := bV.of (ht _ _ O)
 have Y := M.under_sl W
 unfold qB elemOf?
 rw [Y]
 simp only [ye]
 cases K : aY I.ag T with
 | true =>
  obtain ⟨J, kk, rfl⟩ := aK.1 K
  rw [(H.intKind hT J).1, J]
  exact ⟨rfl, rfl⟩
 | false =>
  rw [H.intKind_none hT K, bX K, KRow.down_sl K]
  have hn := (H.ty T hT).2.1
  simp only [H.n, ye, hn, yq3, H4, and_true]
  rw [d9]
  exact ⟨nl.2 (by rw [← hn]; exact Ty.size_pos), rfl⟩
theorem GN (ht : bI P tab) {boxed vars : Bool} {t : TypeId} {rs : Nat} {env : Nat → KV} {tmps : List AV} (V : fB env tmps) {x : Operand} {k : aZ → Option R} (h : LL tab boxed vars t rs env x k = some r) :
  ∃ out, k out = some r ∧ sO P boxed vars (bW tmps) t rs x = some out.down := by
 unfold LL at h
 unfold sO
 cases O : jP x && boxed && !vars with
 | true =>
  rw [O] at h; simp only [yl] at h ⊢
  split at h
  ·rename_i Z I
   split at h
   ·rename_i W J
    obtain ⟨te, T, H, hT, h⟩ := oA ht h
    obtain ⟨K, U⟩ := Du ht I J H hT
    refine ⟨_, h, ?_⟩
    rw [K]; simp only [ye, U, yg]; rfl
   ·cases h
  ·cases h
 | false =>
  rw [O] at h; simp only [yk] at h ⊢
  obtain ⟨v, Y, h, hg⟩ := aO V h
  rw [Y]; simp only [ye]
  split at h
  ·cases boxed with
   | true => simp only [yl] at h; exact ⟨_, h, rfl⟩
   | false =>
    simp only [yk] at h
    split at h
    ·rename_i Z I
     split at h
     ·rename_i W J
      obtain ⟨te, T, H, hT, h⟩ := oA ht h
      obtain ⟨K, U⟩ := Du ht I J H hT
      refine ⟨_, h, ?_⟩
      simp only [KV.down, yk, K, yg]; rfl
     ·cases h
    ·cases h
  ·rename_i M
   refine ⟨_, h, ?_⟩
   have : ∀ w, w = v.down → (match w with
    | .lit (.slice none 0 0) => bif boxed then some ({ v := w } : dD) else (qB P t).map fun p => { v := .imm false p }
    | w => some { v := w }) = some (f8 v).down := by
    intro w N
    split
    ·exfalso
     cases v <;> simp [KV.down, AV.dead, AV.goneV, AV.unkB] at N
     subst N; exact M rfl
    ·rw [N]; rfl
   exact this _ rfl
theorem Ix (ht : bI P tab) {t : TypeId} {x ix : KV} {k : aZ → Option R} {ρ : Operand → Option AV} {Z W : Operand} (hx : ρ Z = some x.down) (hi : ρ W = some ix.down) (h : HA (aP R) tab t x ix k = some r) :
  ∃ out, k out = some r ∧ oO P ρ t Z W = some out.down := by
 unfold oO
 rw [hx, hi]; simp only [ye]
 unfold HA at h
 split at h
 ·rename_i cs kd i
  split at h
  ·rename_i ti I
   have H := bV.of (ht _ _ I)
   split at h
   ·rename_i n e M
    have O := H.under_arr M
    split at h
    ·rename_i te N
     have J := bV.of (ht _ _ N)
     rw [bP] at h
     obtain ⟨V, h⟩ := h
     simp only [yb, yq] at V
     have U := nb.1 V.2
     simp only [real_guard] at h
     rw [bP] at h
     obtain ⟨K, h⟩ := h
     obtain ⟨v, _, hv, h⟩ := Fe h
     rw [Nat.sub_zero] at hv
     refine ⟨_, h, ?_⟩
     have Y := J.ag; rw [V.1] at Y
     simp only [KV.down, O, Y, ye, J.n, U]
     rw [d9]
     refine ⟨?_, by rw [oT hv]; rfl⟩
     simp only [yb] at K ⊢
     exact ⟨⟨⟨rfl, rfl⟩, K.1⟩, K.2⟩
    ·cases h
   ·cases h
  ·cases h
 ·rename_i s kd i
  split at h
  ·rename_i ti I
   have H := bV.of (ht _ _ I)
   split at h
   ·rename_i M
    have O := H.under_str M
    simp only [real_get] at h
    rw [C3] at h
    obtain ⟨n, hn, h⟩ := h
    refine ⟨_, h, ?_⟩
    simp only [KV.down, O, hn, yg]; rfl
   ·cases h
  ·cases h
 ·cases h
theorem wO {boxed : Bool} {rs : Nat} {row : KRow} {rd : List Nat} {wr : List (Nat × dE)} {k : aZ → Option R} (h : GP boxed rs row rd wr k = some r) :
  ∃ v w, k ⟨v, rd, wr ++ w, []⟩ = some r ∧ rA boxed rs row.view = some { v := v.down, wr := w.map fun q => (q.1, q.2.down) } := by
 unfold GP at h
 cases boxed with
 | true =>
  simp only [yl] at h
  cases H : gV row with
  | true => rw [H] at h; cases h
  | false =>
   rw [H] at h
   exact ⟨_, _, h, by simp [rA, KV.down, dE.down, FW _ H]⟩
 | false =>
  simp only [yk] at h
  split at h
  ·exact ⟨_, [], by simpa using h, by simp only [rA, yk, N7]; rfl⟩
  ·cases h
theorem vW : ∀ (ps : List (Nat × KV)) (vs : List KV), KV.downs (qY vs ps) = mJ (KV.downs vs) (kD ps)
 | [], vs => rfl
 | (i, v) :: ps, vs => by simp only [qY, kD, yx1, mJ, d5, vW ps, A2]
theorem qG {e : Nat} : ∀ {vs : List KV}, oX e vs = true → lP e (KV.downs vs) = true
 | [], _ => rfl
 | v :: vs, h => by
  simp only [oX, yb] at h
  simp only [KV.downs, lP, yb, eG, aG]
  exact ⟨h.1, qG h.2⟩
theorem p5 {n : Nat} : ∀ {ps : List (Nat × KV)}, vG n ps = true → nB n (kD ps) = true
 | [], _ => rfl
 | (i, v) :: ps, h => by
  simp only [vG, yb] at h
  simp only [kD, yx1, nB, yb]
  exact ⟨h.1, p5 h.2⟩
theorem n7 : ∀ {vs : List KV}, gA (KV.downs vs) = KV.downs (kC vs)
 | [] => rfl
 | v :: vs => by simp only [KV.downs, gA, kC, n7, eG]; simp [cZ]
theorem Gl (n : Nat) (v : KV) : KV.downs (List.replicate n v) = List.replicate n v.down := by simp [cZ]
theorem CU (ht : bI P tab) {boxed vars : Bool} {env : Nat → KV} {tmps : List AV} (he : fB env tmps) {rs : Nat} {t : TypeId} {len : Nat} {I : Array (Nat × Operand)} {k : aZ → Option R}
  (h : r9 (aP R) tab boxed vars env mem rs t len I k = some r) : ∃ out, k out = some r ∧ fH P boxed vars (bW tmps) (aB mem) rs t len I = some out.down := by
 unfold r9 at h
 have O := fP ht h
 clear h
 obtain ⟨U, J, het, Z, h, hu⟩ := O
 have H := bV.of (ht _ _ Z)
 have O := qR he h
 clear h
 obtain ⟨ps, hps, h⟩ := O
 simp only at h
 rw [bP] at h
 obtain ⟨hg, h⟩ := h
 simp only [yb] at hg
 obtain ⟨⟨⟨⟨⟨g1, g2⟩, g3⟩, g4⟩, g5⟩, g6⟩ := hg
 have N : ∀ {wv : aI × List Nat} {o : dD} {out : aZ}, mE P vars (aB mem) U (KV.downs (qY (List.replicate len (eP J)) ps)) = some wv → wv.1.e = J.n → rA (boxed || Nat.beq len 0) rs wv.1 = some o →
   ({ v := o.v, rd := wv.2, wr := bY (aB mem) wv.2 ++ o.wr } : dD) = out.down → fH P boxed vars (bW tmps) (aB mem) rs t len I = some out.down := by
  intro wv o out W h2 h3 h4
  unfold fH
  rw [het]; simp only [ye, H.zero_eq.1, H.n, hps]
  rw [d9]
  constructor
  ·simp only [yb]
   refine ⟨⟨⟨⟨p5 g1, g2⟩, g3⟩, g4⟩, ?_⟩
   have : (eP J).down :: (kD ps).map (·.2) = KV.downs (eP J :: ps.map (·.2)) := by simp [KV.downs, kD, cZ]
   rw [this]; exact qG g5
  ·rw [← Gl, ← vW, W]
   simp only [ye]
   rw [d9]
   exact ⟨nb.2 h2, by rw [h3, ← h4]; rfl⟩
 split at h
 ·rename_i kd V
  rw [bP] at h
  obtain ⟨hn1, h⟩ := h
  split at h
  ·rename_i xs hxs
   obtain ⟨v, w, h, hm⟩ := wO h
   refine ⟨_, h, N (wv := (.ints kd xs, [])) ?_ (nb.1 hn1).symm hm ?_⟩
   ·unfold mE
    have : intKind? P U = some kd := by unfold intKind?; rw [H.under_int V]
    rw [this]; simp only [z7 hxs, yg]
   ·simp [aZ.down, aB, bY]
  ·cases h
 ·rename_i hnk
  have K : intKind? P U = none := by
   have M := H.tk
   unfold intKind?
   cases hu2 : P.underlying U with
   | none => rfl
   | some d =>
    cases d with
    | int kk =>
     exfalso
     unfold nJ at M
     rw [hu2] at M
     cases V : J.tk with
     | int k2 => exact hnk k2 V
     | _ => rw [V] at M; cases M
    | _ => rfl
  cases vars with
  | true =>
   simp only [yl] at h
   rw [bP] at h
   obtain ⟨W, h⟩ := h
   obtain ⟨v, w, h, hm⟩ := wO h
   refine ⟨_, h, N (wv := ((KRow.cells J.n (kC (qY (List.replicate len (eP J)) ps))).view, [])) ?_ rfl hm (by simp [aZ.down, aB, bY])⟩
   unfold mE
   rw [K]
   simp only [H.n, ye, yl]
   rw [d9]
   simp only [yb, n7]
   exact ⟨⟨⟨qG g6, g3⟩, eY W⟩, rfl⟩
  | false =>
   simp only [yk] at h
   split at h
   ·rename_i T hT
    have O := Cl H hT h
    clear h
    obtain ⟨xs, β, l, h, Y⟩ := O
    obtain ⟨v, w, h, hm⟩ := wO h
    have hni : aY J.ag T = false := by
     cases hi : aY J.ag T with
     | false => rfl
     | true =>
      obtain ⟨hag, kk, rfl⟩ := aK.1 hi
      rw [(H.intKind hT hag).1] at K; cases K
    refine ⟨_, h, N (wv := ((KRow.ts β J.ag T xs).view, l)) ?_ (by rw [HC]; exact (H.ty T hT).2.1) hm ?_⟩
    ·unfold mE
     rw [K]
     simp only [H.n, ye, yk, Y, yg]
     rw [KRow.view_sl hni, (H.ty T hT).2.1]
    ·simp only [aZ.down, yk3, sW]; simp [aB]
   ·cases h
theorem Dp (ht : bI P tab) {boxed : Bool} {rs : Nat} {t : TypeId} {l c : KV} {k : aZ → Option R} {ρ : Operand → Option AV} {ol oc : Operand} (hl : ρ ol = some l.down) (hc : ρ oc = some c.down)
  (h : zK (aP R) tab boxed mem t rs l c k = some r) : ∃ out, k out = some r ∧ Bi P boxed ρ (aB mem) rs t ol oc = some out.down := by
 unfold zK at h
 have h0 := fP ht h
 clear h
 obtain ⟨et, M, het, hte, h, hu⟩ := h0
 have H := bV.of (ht _ _ hte)
 unfold Bi
 rw [het]; simp only [ye, H.zero_eq.1, hl, hc]
 split at h
 ·rename_i k1 n k2 n'
  split at h
  ·rename_i T hT
   rw [bP] at h
   obtain ⟨hg, h⟩ := h
   simp only [yb] at hg
   obtain ⟨⟨⟨g1, g2⟩, g3⟩, g4⟩ := hg
   obtain ⟨⟨ls, hls, K⟩, hn, hag, hd⟩ := H.ty T hT
   have h0 := l9 K hd h
   clear h
   obtain ⟨z, β, ids, h, hz⟩ := h0
   cases Y : fM ids with
   | false => rw [Y] at h; cases h
   | true =>
    rw [Y] at h; simp only [Bool.not_true, yk, real_guard] at h
    rw [bP] at h
    obtain ⟨hb, h⟩ := h
    obtain ⟨v, w, h, hm⟩ := wO h
    refine ⟨_, h, ?_⟩
    simp only [KV.down]
    rw [d9]
    refine ⟨hb, ?_⟩
    have U : (eP M).down.cells = KV.downs (M.zero.map .lit) := by rw [(zeroCells H).1, (zeroCells H).2.1]
    have htp : rQ P (aB mem) et (eP M).down = some (β, cT M.ag T z, ids) := by
     unfold rQ
     rw [hls, ye, U, hz]
     simp only [ye, oV H.ag hag, yg]
    have ho : (rA boxed rs (KRow.ts β M.ag T (List.replicate n.toNat z)).view) = some (aZ.mk v [] ([] ++ w) []).down := by
     rw [hm]; simp [aZ.down, aB]
    cases hi : aY M.ag T with
    | true =>
     obtain ⟨J, W, rfl⟩ := aK.1 hi
     rw [(H.intKind hT J).1]
     have hn1 : M.n = 1 := (hn : 1 = M.n).symm
     simp only [H.n, H.bytes, ye]
     have O : ∃ zi : Int, e5 W [(eP M).down] = some [zi] ∧ (zi : den (.int W)) = z := by
      obtain ⟨_, _, h3⟩ := H.zero_eq
      obtain ⟨Z, hv0, hzk⟩ := h3 J
      rw [hzk]
      rw [hv0] at hz
      have I : b3 (i4 P (aB mem)) ls [AV.lit Z] = some (β, [.lit (.int W z)], ids) := hz
      have V : ls = [.int W] := by
       simp only [aS] at K
       split at K
       ·rw [rW.1 K]
       ·cases K
      rw [V] at I
      simp only [b3, C3] at I
      obtain ⟨a, N, b, hb', I⟩ := I
      obtain rfl := ya hb'
      simp only [Option.some.injEq, Prod.mk.injEq, List.cons.injEq, and_true] at I
      replace N : a5 P (aB mem) 6 (.int W) (.lit Z) = some a := N
      cases Z <;> simp only [a5] at N <;> first | cases N | skip
      rename_i k3 n3
      rw [d9] at N
      obtain ⟨hk3, N⟩ := N
      obtain rfl := ya N
      obtain rfl := rW.1 hk3
      simp only [PV.lit.injEq, Value.int.injEq, true_and] at I
      exact ⟨n3, by simp [KV.down, e5, rW.2], (Value.int.inj I.2.1).2⟩
     obtain ⟨zi, O, rfl⟩ := O
     rw [O]; simp only [ye, List.headD_cons]
     rw [d9]
     refine ⟨by simp only [yb]; exact ⟨nb.2 hn1, g2⟩, ?_⟩
     rw [← ho, J]; rfl
    | false =>
     rw [H.intKind_none hT hi, htp]
     simp only [ye, H.n, H.bytes]
     rw [d9]
     refine ⟨?_, ?_⟩
     ·simp only [yb]
      exact ⟨⟨⟨g1, g2⟩, by rw [U, aG, ye1]; exact g4⟩, Y⟩
     ·rw [← ho, KRow.view_sl hi, List.map_replicate, hn]
  ·cases h
 ·cases h
theorem Hz (ht : bI P tab) {boxed : Bool} {W dst : TypeId} {rs : Nat} {x : KV} {k : aZ → Option R} (h : FJ (aP R) tab boxed W dst mem rs x k = some r) :
  ∃ out, k out = some r ∧ k8 P boxed W dst (aB mem) rs x.down = some out.down := by
 unfold FJ at h
 split at h
 ·rename_i s d hs hd
  have M := bV.of (ht _ _ hs)
  have J := bV.of (ht _ _ hd)
  unfold k8
  split at h
  ·rename_i k1 kd H I
   split at h
   ·rename_i n
    refine ⟨_, h, ?_⟩
    rw [M.under_int H, J.under_int I]; rfl
   ·cases h
  ·rename_i H I
   split at h
   ·refine ⟨_, h, ?_⟩
    rw [M.under_str H, J.under_str I]; rfl
   ·cases h
  ·rename_i e H I
   rw [M.under_sl H, J.under_str I]
   split at h
   ·rename_i te N
    have K := bV.of (ht _ _ N)
    split at h
    ·rename_i ke O
     rw [bP] at h
     obtain ⟨U, h⟩ := h
     simp only [yb] at U
     obtain ⟨⟨g1, g2⟩, g3⟩ := U
     have Z := BE ht h
     clear h
     obtain ⟨row, rd, h, hv⟩ := Z
     split at h
     ·rename_i β ag ke' xs
      rw [bP] at h
      obtain ⟨V, h⟩ := h
      simp only [yb, yq] at V
      obtain ⟨g4, rfl⟩ := V
      refine ⟨_, h, ?_⟩
      simp only
      rw [K.under_int O, rW.1 g1]
      simp only [hv, ye, K.n, nb.1 g2]
      rw [d9]
      refine ⟨by simp only [yg3]; exact zG ht g3, ?_⟩
      obtain rfl := rW.1 g4
      rfl
     ·cases h
    ·cases h
   ·cases h
  ·rename_i e0 e H I
   rw [M.under_sl H, J.under_sl I]
   split at h
   ·rename_i te b g N
    have K := bV.of (ht _ _ N)
    split at h
    ·rename_i ke O
     rw [bP] at h
     obtain ⟨U, h⟩ := h
     simp only [yb] at U
     have Z := cQ h
     clear h
     obtain ⟨bx, Y, h⟩ := Z
     simp only [real_guard] at h
     rw [bP] at h
     refine ⟨_, h.2, ?_⟩
     simp only [KV.down]
     rw [K.under_int O, rW.1 U.1]
     simp only
     rw [d9]
     refine ⟨U.2, ?_⟩
     rw [Y]; simp only [ye, show bx.down.row = bx.row.down from rfl, qQ]
     rw [d9]
     exact ⟨h.1, rfl⟩
    ·cases h
   ·cases h
  ·cases h
 ·cases h
end
end Go.Ab
