import Derived.Test.YtdlbbdbbpoggfaaLib16
set_option linter.unusedVariables false
set_option linter.unusedSectionVars false
set_option linter.unusedSimpArgs false
namespace Go.Ab
variable [b4]
section
variable {P : Program} {R : Type} {r : R} {mem : aD} {tab : TypeId → Option TI}
def fB (env : Nat → KV) (tmps : List AV) : Prop := ∀ t, env t = .gone ∨ dZ tmps t = some (env t).down ∧ eL (env t).down = false
theorem nQ {v : KV} : eL v.down = true ↔ v = .gone := by
 cases v with
 | tsl β ag T xs =>
  constructor
  ·intro h
   have := vU ag T xs
   simp only [KV.down] at h
   cases H : dN ag T xs with
   | agg _ => rw [H] at this; cases this
   | lit _ => rw [H] at h; cases β <;> cases h
   | ints _ _ => rw [H] at h; cases β <;> cases h
   | sl _ _ => rw [H] at h; cases β <;> cases h
  ·intro h; cases h
 | gone => simp [KV.down, AV.goneV, eL]
 | dead => simp [KV.down, AV.dead, eL]
 | unkB => simp [KV.down, AV.unkB, eL]
 | _ => simp [KV.down, eL]
theorem Lx : ∀ {l : List Value}, wM l = true → Ih l = some (KV.downs (l.map .lit))
 | [], _ => rfl
 | v :: l, h => by
  simp only [wM, yb] at h
  simp [Ih, guardB, h.1, Lx h.2, KV.downs, KV.down]
theorem JQ {v : Value} (h : HT v = true) : yN v = some (H7 v).down := by
 cases v <;> try rfl
 rename_i cs
 simp only [HT] at h
 simp [yN, H7, Lx h, KV.down]
theorem aO {env : Nat → KV} {tmps : List AV} (V : fB env tmps) {x : Operand} {k : KV → Option R} (h : eP env x k = some r) : ∃ v, bY tmps x = some v.down ∧ k v = some r ∧ v ≠ .gone := by
 unfold eP at h
 split at h
 ·rename_i t
  have ht := V t
  have J : ∀ v, env t = v → v ≠ .gone → k v = some r → ∃ v, bY tmps (.tmp t) = some v.down ∧ k v = some r ∧ v ≠ .gone := by
   intro v M N O
   rcases ht with H | ⟨H, K⟩
   ·exact absurd (M ▸ H) N
   ·rw [M] at H K
    refine ⟨v, ?_, O, N⟩
    simp only [bY, CM, H, ye, K, yk]
  split at h
  ·cases h
  ·rename_i I
   exact J _ rfl (fun e => I e) h
 ·rename_i c
  rw [bR] at h
  refine ⟨_, JQ h.1, h.2, ?_⟩
  cases c <;> simp [H7]
 ·exact ⟨_, rfl, h, by simp⟩
 ·rename_i g
  split at h
  ·rename_i q U
   exact ⟨_, by simp only [bY, U]; rfl, h, by simp⟩
  ·cases h
theorem j8 {env : Nat → KV} {tmps : List AV} (J : fB env tmps) : ∀ {xs : List Operand} {k : List KV → Option R}, rI env xs k = some r → ∃ vs, m6 (bY tmps) xs = some (KV.downs vs) ∧ k vs = some r ∧ ∀ v ∈ vs, v ≠ .gone
 | [], k, h => ⟨[], rfl, h, by simp⟩
 | x :: xs, k, h => by
  simp only [rI] at h
  obtain ⟨v, K, h, M⟩ := aO J h
  obtain ⟨vs, H, h, I⟩ := j8 J h
  exact ⟨v :: vs, by simp [m6, K, H, KV.downs], h, by simpa using ⟨M, I⟩⟩
noncomputable def j6 (ps : List (Nat × KV)) : List (Nat × AV) := ps.map fun q => (q.1, q.2.down)
theorem qI {env : Nat → KV} {tmps : List AV} (I : fB env tmps) : ∀ {xs : List (Nat × Operand)} {k : List (Nat × KV) → Option R}, Bp env xs k = some r → ∃ ps, kC (bY tmps) xs = some (j6 ps) ∧ k ps = some r
 | [], k, h => ⟨[], rfl, h⟩
 | (i, x) :: xs, k, h => by
  simp only [Bp] at h
  obtain ⟨v, J, h, hg⟩ := aO I h
  obtain ⟨vs, H, h⟩ := qI I h
  exact ⟨(i, v) :: vs, by simp [kC, J, H, j6], h⟩
theorem oN {env : Nat → KV} {tmps : List AV} (I : fB env tmps) {x : Option Operand} {k : Option Int → Option R} (h : IU env x k = some r) : ∃ i, z6 (bY tmps) x = some i ∧ k i = some r := by
 cases x with
 | none => exact ⟨none, rfl, h⟩
 | some x =>
  simp only [IU] at h
  obtain ⟨v, H, h, hg⟩ := aO I h
  split at h
  ·rename_i kd n
   exact ⟨some n, by simp [z6, H, KV.down, Lm], h⟩
  ·cases h
theorem Fv (ht : bG P tab) {s : TypeId} {f : Nat} {k : Nat → Nat → TypeId → Option R} (h : Ij tab s f k = some r) : ∃ O n t, kZ P s f = some (O, n, t) ∧ k O n t = some r := by
 unfold Ij at h
 split at h
 ·rename_i ti U
  split at h
  ·rename_i fs Y
   obtain ⟨l, Z, H⟩ := (bU.of (ht _ _ U)).under_st Y
   split at h
   ·rename_i q J
    rw [bR] at h
    obtain ⟨V, h⟩ := h
    obtain ⟨I, W, K, M, N⟩ := chkFs_get H (by rw [← aX]; exact J)
    refine ⟨_, _, _, ?_, h⟩
    unfold kZ
    rw [Z]
    simp only
    rw [← yp1, W]
    rw [M] at N
    simp only [ye, K, M, N]
    rw [eB]
    exact ⟨V, rfl⟩
   ·cases h
  ·cases h
 ·cases h
 where
 chkFs_get : ∀ {fs : List (Nat × Nat × TypeId)} {l : List Field} {f : Nat} {q : Nat × Nat × TypeId}, B3 P fs l = true → fs[f]? = some q → ∃ I, l[f]? = some I ∧ I.offset = q.1 ∧ I.type = q.2.2 ∧ iN P I.type = some q.2.1
  | q0 :: fs, I :: l, 0, q, H, J => by
   simp only [B3, yb] at H
   obtain rfl := ya J
   refine ⟨I, rfl, (nb.1 H.1.1.1).symm, (nb.1 H.1.1.2).symm, ?_⟩
   have := H.1.2
   split at this
   ·rename_i n hn; rw [hn, nb.1 this]
   ·cases this
  | q0 :: fs, I :: l, f + 1, q, H, J => by
   simp only [B3, yb] at H
   exact chkFs_get (fs := fs) (l := l) H.2 (by simpa using J)
  | [], _, f, q, _, J => by simp at J
  | _ :: _, [], f, q, H, _ => by cases H
theorem Bo {H : Nat → Option (Nat × Nat)} : ∀ {ps : List (Nat × KV)} {cs I : List KV}, Ce H cs ps = some I → CG H (KV.downs cs) (j6 ps) = some (KV.downs I)
 | [], cs, I, h => by simp only [Ce, Option.some.injEq] at h; subst h; rfl
 | (i, v) :: ps, cs, I, h => by
  simp only [Ce] at h
  split at h
  ·rename_i q M
   rw [bR] at h
   obtain ⟨K, h⟩ := h
   have J := Bo h
   rw [vJ] at J
   simp only [j6, yx1, CG, M, ye, eB, eH, aG]
   exact ⟨K, J⟩
  ·cases h
theorem Cu : ∀ {fs : List (Nat × Nat × TypeId)} {l : List Field}, B3 P fs l = true → places? P l = some (fs.map fun q => (q.1, q.2.1))
 | [], [], _ => rfl
 | q :: fs, f :: l, h => by
  simp only [B3, yb] at h
  have I := nb.1 h.1.1.1
  have H := h.1.2
  split at H
  ·rename_i n hn
   simp [places?, hn, Cu h.2, I, nb.1 H]
  ·cases H
 | [], _ :: _, h => by cases h
 | _ :: _, [], h => by cases h
theorem K9 (ht : bG P tab) {t : TypeId} {ps : List (Nat × KV)} {k : aZ → Option R} (h : (match tab t with
  | some J =>
   (match J.tk with
   | .st fs => (match Ce (fun i => match dZ fs i with | some q => some (q.1, q.2.1) | none => none) (eN J).cells ps with | some cs => k (f8 (.agg cs)) | none => none)
   | .arr _ e => (match tab e with | some V => (match Ce (fun i => some (i * V.n, V.n)) (eN J).cells ps with | some cs => k (f8 (.agg cs)) | none => none) | none => none)
   | _ => none)
  | none => none) = some r) : ∃ v, BB P t (j6 ps) = some v.down ∧ k (f8 v) = some r := by
 split at h
 ·rename_i J M
  have H := bU.of (ht _ _ M)
  have W := H.zero_eq.1
  split at h
  ·rename_i fs O
   obtain ⟨l, U, Y⟩ := H.under_st O
   split at h
   ·rename_i cs I
    refine ⟨.agg cs, ?_, h⟩
    have := Bo I
    unfold BB
    rw [W, U]
    simp only [ye, Cu Y]
    rw [(zeroCells H).1]
    rw [show (fun i => (fs.map fun q => (q.1, q.2.1))[i]?) = (fun i => match dZ fs i with | some q => some (q.1, q.2.1) | none => none) from ?_, this]
    ·rfl
    ·funext i
     rw [aX, yb1]
     cases fs[i]? <;> rfl
   ·cases h
  ·rename_i n e O
   have U := H.under_arr O
   split at h
   ·rename_i V K
    have N := bU.of (ht _ _ K)
    split at h
    ·rename_i cs I
     refine ⟨.agg cs, ?_, h⟩
     have := Bo I
     unfold BB
     rw [W, U]
     simp only [ye, N.n]
     rw [(zeroCells H).1, this]; rfl
    ·cases h
   ·cases h
  ·cases h
 ·cases h
theorem M7 {c a b : KV} {k : KV → Option R} (h : N2 (aP R) c a b k = some r) : ∃ v, GO c.down a.down b.down = some v.down ∧ k v = some r := by
 unfold N2 at h
 split at h
 ·rename_i t
  split at h
  ·rename_i x y
   exact ⟨_, rfl, h⟩
  ·rename_i H
   simp only [real_ite] at h
   have K : GO (.lit (.bool t)) a.down b.down = (bif t then some a.down else some b.down) := by
    unfold GO
    simp only
    split
    ·rename_i x y I J
     exfalso
     cases a <;> simp [KV.down, AV.dead, AV.goneV, AV.unkB] at I
     cases b <;> simp [KV.down, AV.dead, AV.goneV, AV.unkB] at J
     subst I; subst J
     exact H _ _ rfl rfl
    ·rfl
   cases t with
   | true => exact ⟨a, by rw [show KV.down (.lit (.bool true)) = .lit (.bool true) from rfl, K]; rfl, h⟩
   | false => exact ⟨b, by rw [show KV.down (.lit (.bool false)) = .lit (.bool false) from rfl, K]; rfl, h⟩
 ·cases h
theorem E9 (ht : bG P tab) {t V : TypeId} {U : TI} (N : tab t = some U) (W : U.tk = .sl V) {I : TI} {T : Ty} (M : tab V = some I) (hT : I.ty = some T) :
  qL P t = some (dN I.ag T []) ∧ Hq (dN I.ag T []) = some (KRow.ts false I.ag T []).down := by
 have O := bU.of (ht _ _ N)
 have H := bU.of (ht _ _ M)
 have Y := O.under_sl W
 unfold qL elemOf?
 rw [Y]
 simp only [ye]
 cases K : aY I.ag T with
 | true =>
  obtain ⟨J, kk, rfl⟩ := aK.1 K
  rw [(H.intKind hT J).1, J]
  exact ⟨rfl, rfl⟩
 | false =>
  rw [H.intKind_none hT K, bX K, KRow.down_sl K]
  have hn := (H.ty T hT).2.1
  simp only [H.n, ye, hn, yq3, Hq, and_true]
  rw [eB]
  exact ⟨nl.2 (by rw [← hn]; exact Ty.size_pos), rfl⟩
theorem GJ (ht : bG P tab) {boxed vars : Bool} {t : TypeId} {rs : Nat} {env : Nat → KV} {tmps : List AV} (he : fB env tmps) {x : Operand} {k : aZ → Option R} (h : Lr tab boxed vars t rs env x k = some r) :
  ∃ out, k out = some r ∧ rX P boxed vars (bY tmps) t rs x = some out.down := by
 unfold Lr at h
 unfold rX
 cases U : jM x && boxed && !vars with
 | true =>
  rw [U] at h; simp only [yl] at h ⊢
  split at h
  ·rename_i V I
   split at h
   ·rename_i W M
    obtain ⟨Z, T, H, hT, h⟩ := n9 ht h
    obtain ⟨J, O⟩ := E9 ht I M H hT
    refine ⟨_, h, ?_⟩
    rw [J]; simp only [ye, O, yg]; rfl
   ·cases h
  ·cases h
 | false =>
  rw [U] at h; simp only [yk] at h ⊢
  obtain ⟨v, Y, h, hg⟩ := aO he h
  rw [Y]; simp only [ye]
  split at h
  ·cases boxed with
   | true => simp only [yl] at h; exact ⟨_, h, rfl⟩
   | false =>
    simp only [yk] at h
    split at h
    ·rename_i V I
     split at h
     ·rename_i W M
      obtain ⟨Z, T, H, hT, h⟩ := n9 ht h
      obtain ⟨J, O⟩ := E9 ht I M H hT
      refine ⟨_, h, ?_⟩
      simp only [KV.down, yk, J, yg]; rfl
     ·cases h
    ·cases h
  ·rename_i K
   refine ⟨_, h, ?_⟩
   have : ∀ w, w = v.down → (match w with
    | .lit (.slice none 0 0) => bif boxed then some ({ v := w } : dE) else (qL P t).map fun p => { v := .imm false p }
    | w => some { v := w }) = some (f8 v).down := by
    intro w N
    split
    ·exfalso
     cases v <;> simp [KV.down, AV.dead, AV.goneV, AV.unkB] at N
     subst N; exact K rfl
    ·rw [N]; rfl
   exact this _ rfl
theorem IZ (ht : bG P tab) {t : TypeId} {x ix : KV} {k : aZ → Option R} {ρ : Operand → Option AV} {Z W : Operand} (hx : ρ Z = some x.down) (hi : ρ W = some ix.down) (h : HL (aP R) tab t x ix k = some r) :
  ∃ out, k out = some r ∧ oR P ρ t Z W = some out.down := by
 unfold oR
 rw [hx, hi]; simp only [ye]
 unfold HL at h
 split at h
 ·rename_i cs kd i
  split at h
  ·rename_i ti H
   have I := bU.of (ht _ _ H)
   split at h
   ·rename_i n e N
    have O := I.under_arr N
    split at h
    ·rename_i te K
     have J := bU.of (ht _ _ K)
     rw [bR] at h
     obtain ⟨U, h⟩ := h
     simp only [yb, yq] at U
     have V := nb.1 U.2
     simp only [real_guard] at h
     rw [bR] at h
     obtain ⟨M, h⟩ := h
     obtain ⟨v, _, Y, h⟩ := Fi h
     rw [Nat.sub_zero] at Y
     refine ⟨_, h, ?_⟩
     have ha := J.ag; rw [U.1] at ha
     simp only [KV.down, O, ha, ye, J.n, V]
     rw [eB]
     refine ⟨?_, by rw [o9 Y]; rfl⟩
     simp only [yb] at M ⊢
     exact ⟨⟨⟨rfl, rfl⟩, M.1⟩, M.2⟩
    ·cases h
   ·cases h
  ·cases h
 ·rename_i s kd i
  split at h
  ·rename_i ti H
   have I := bU.of (ht _ _ H)
   split at h
   ·rename_i N
    have O := I.under_str N
    simp only [real_get] at h
    rw [C7] at h
    obtain ⟨n, hn, h⟩ := h
    refine ⟨_, h, ?_⟩
    simp only [KV.down, O, hn, yg]; rfl
   ·cases h
  ·cases h
 ·cases h
theorem wO {boxed : Bool} {rs : Nat} {row : KRow} {rd : List Nat} {wr : List (Nat × dD)} {k : aZ → Option R} (h : Gq boxed rs row rd wr k = some r) :
  ∃ v w, k ⟨v, rd, wr ++ w, []⟩ = some r ∧ rD boxed rs row.view = some { v := v.down, wr := w.map fun q => (q.1, q.2.down) } := by
 unfold Gq at h
 cases boxed with
 | true =>
  simp only [yl] at h
  cases H : gX row with
  | true => rw [H] at h; cases h
  | false =>
   rw [H] at h
   exact ⟨_, _, h, by simp [rD, KV.down, dD.down, FK _ H]⟩
 | false =>
  simp only [yk] at h
  split at h
  ·exact ⟨_, [], by simpa using h, by simp only [rD, yk, Nz]; rfl⟩
  ·cases h
theorem vP : ∀ (ps : List (Nat × KV)) (vs : List KV), KV.downs (pH vs ps) = mS (KV.downs vs) (j6 ps)
 | [], vs => rfl
 | (i, v) :: ps, vs => by simp only [pH, j6, yx1, mS, d8, vP ps, BU]
theorem pY {e : Nat} : ∀ {vs : List KV}, pB e vs = true → lV e (KV.downs vs) = true
 | [], _ => rfl
 | v :: vs, h => by
  simp only [pB, yb] at h
  simp only [KV.downs, lV, yb, eH, aG]
  exact ⟨h.1, pY h.2⟩
theorem pS {n : Nat} : ∀ {ps : List (Nat × KV)}, vL n ps = true → nG n (j6 ps) = true
 | [], _ => rfl
 | (i, v) :: ps, h => by
  simp only [vL, yb] at h
  simp only [j6, yx1, nG, yb]
  exact ⟨h.1, pS h.2⟩
theorem nZ : ∀ {vs : List KV}, gC (KV.downs vs) = KV.downs (j0 vs)
 | [] => rfl
 | v :: vs => by simp only [KV.downs, gC, j0, nZ, eH]; simp [cY]
theorem Gc (n : Nat) (v : KV) : KV.downs (List.replicate n v) = List.replicate n v.down := by simp [cY]
theorem CO (ht : bG P tab) {boxed vars : Bool} {env : Nat → KV} {tmps : List AV} (he : fB env tmps) {rs : Nat} {t : TypeId} {len : Nat} {I : Array (Nat × Operand)} {k : aZ → Option R}
  (h : sC (aP R) tab boxed vars env mem rs t len I k = some r) : ∃ out, k out = some r ∧ fJ P boxed vars (bY tmps) (aB mem) rs t len I = some out.down := by
 unfold sC at h
 have O := fQ ht h
 clear h
 obtain ⟨U, J, het, Y, h, hu⟩ := O
 have H := bU.of (ht _ _ Y)
 have O := qI he h
 clear h
 obtain ⟨ps, hps, h⟩ := O
 simp only at h
 rw [bR] at h
 obtain ⟨hg, h⟩ := h
 simp only [yb] at hg
 obtain ⟨⟨⟨⟨⟨g1, g2⟩, g3⟩, g4⟩, g5⟩, g6⟩ := hg
 have N : ∀ {wv : aI × List Nat} {o : dE} {out : aZ}, mR P vars (aB mem) U (KV.downs (pH (List.replicate len (eN J)) ps)) = some wv → wv.1.e = J.n → rD (boxed || Nat.beq len 0) rs wv.1 = some o →
   ({ v := o.v, rd := wv.2, wr := bZ (aB mem) wv.2 ++ o.wr } : dE) = out.down → fJ P boxed vars (bY tmps) (aB mem) rs t len I = some out.down := by
  intro wv o out Z h2 h3 h4
  unfold fJ
  rw [het]; simp only [ye, H.zero_eq.1, H.n, hps]
  rw [eB]
  constructor
  ·simp only [yb]
   refine ⟨⟨⟨⟨pS g1, g2⟩, g3⟩, g4⟩, ?_⟩
   have : (eN J).down :: (j6 ps).map (·.2) = KV.downs (eN J :: ps.map (·.2)) := by simp [KV.downs, j6, cY]
   rw [this]; exact pY g5
  ·rw [← Gc, ← vP, Z]
   simp only [ye]
   rw [eB]
   exact ⟨nb.2 h2, by rw [h3, ← h4]; rfl⟩
 split at h
 ·rename_i kd V
  rw [bR] at h
  obtain ⟨hn1, h⟩ := h
  split at h
  ·rename_i xs hxs
   obtain ⟨v, w, h, hm⟩ := wO h
   refine ⟨_, h, N (wv := (.ints kd xs, [])) ?_ (nb.1 hn1).symm hm ?_⟩
   ·unfold mR
    have : intKind? P U = some kd := by unfold intKind?; rw [H.under_int V]
    rw [this]; simp only [AG hxs, yg]
   ·simp [aZ.down, aB, bZ]
  ·cases h
 ·rename_i hnk
  have M : intKind? P U = none := by
   have K := H.tk
   unfold intKind?
   cases hu2 : P.underlying U with
   | none => rfl
   | some d =>
    cases d with
    | int kk =>
     exfalso
     unfold m9 at K
     rw [hu2] at K
     cases V : J.tk with
     | int k2 => exact hnk k2 V
     | _ => rw [V] at K; cases K
    | _ => rfl
  cases vars with
  | true =>
   simp only [yl] at h
   rw [bR] at h
   obtain ⟨Z, h⟩ := h
   obtain ⟨v, w, h, hm⟩ := wO h
   refine ⟨_, h, N (wv := ((KRow.cells J.n (j0 (pH (List.replicate len (eN J)) ps))).view, [])) ?_ rfl hm (by simp [aZ.down, aB, bZ])⟩
   unfold mR
   rw [M]
   simp only [H.n, ye, yl]
   rw [eB]
   simp only [yb, nZ]
   exact ⟨⟨⟨pY g6, g3⟩, eU Z⟩, rfl⟩
  | false =>
   simp only [yk] at h
   split at h
   ·rename_i T hT
    have O := Cn H hT h
    clear h
    obtain ⟨xs, β, l, h, hfe⟩ := O
    obtain ⟨v, w, h, hm⟩ := wO h
    have W : aY J.ag T = false := by
     cases hi : aY J.ag T with
     | false => rfl
     | true =>
      obtain ⟨hag, kk, rfl⟩ := aK.1 hi
      rw [(H.intKind hT hag).1] at M; cases M
    refine ⟨_, h, N (wv := ((KRow.ts β J.ag T xs).view, l)) ?_ (by rw [HG]; exact (H.ty T hT).2.1) hm ?_⟩
    ·unfold mR
     rw [M]
     simp only [H.n, ye, yk, hfe, yg]
     rw [KRow.view_sl W, (H.ty T hT).2.1]
    ·simp only [aZ.down, yk3, s5]; simp [aB]
   ·cases h
theorem Dm (ht : bG P tab) {boxed : Bool} {rs : Nat} {t : TypeId} {l c : KV} {k : aZ → Option R} {ρ : Operand → Option AV} {ol oc : Operand} (hl : ρ ol = some l.down) (hc : ρ oc = some c.down)
  (h : yZ (aP R) tab boxed mem t rs l c k = some r) : ∃ out, k out = some r ∧ BQ P boxed ρ (aB mem) rs t ol oc = some out.down := by
 unfold yZ at h
 have h0 := fQ ht h
 clear h
 obtain ⟨et, M, het, Y, h, hu⟩ := h0
 have H := bU.of (ht _ _ Y)
 unfold BQ
 rw [het]; simp only [ye, H.zero_eq.1, hl, hc]
 split at h
 ·rename_i k1 n k2 n'
  split at h
  ·rename_i T hT
   rw [bR] at h
   obtain ⟨hg, h⟩ := h
   simp only [yb] at hg
   obtain ⟨⟨⟨g1, g2⟩, g3⟩, g4⟩ := hg
   obtain ⟨⟨ls, hls, J⟩, hn, hag, hd⟩ := H.ty T hT
   have h0 := l8 J hd h
   clear h
   obtain ⟨z, β, ids, h, hz⟩ := h0
   cases he : fM ids with
   | false => rw [he] at h; cases h
   | true =>
    rw [he] at h; simp only [Bool.not_true, yk, real_guard] at h
    rw [bR] at h
    obtain ⟨hb, h⟩ := h
    obtain ⟨v, w, h, hm⟩ := wO h
    refine ⟨_, h, ?_⟩
    simp only [KV.down]
    rw [eB]
    refine ⟨hb, ?_⟩
    have U : (eN M).down.cells = KV.downs (M.zero.map .lit) := by rw [(zeroCells H).1, (zeroCells H).2.1]
    have Z : rP P (aB mem) et (eN M).down = some (β, cT M.ag T z, ids) := by
     unfold rP
     rw [hls, ye, U, hz]
     simp only [ye, pA H.ag hag, yg]
    have ho : (rD boxed rs (KRow.ts β M.ag T (List.replicate n.toNat z)).view) = some (aZ.mk v [] ([] ++ w) []).down := by
     rw [hm]; simp [aZ.down, aB]
    cases hi : aY M.ag T with
    | true =>
     obtain ⟨K, V, rfl⟩ := aK.1 hi
     rw [(H.intKind hT K).1]
     have hn1 : M.n = 1 := (hn : 1 = M.n).symm
     simp only [H.n, H.bytes, ye]
     have O : ∃ zi : Int, fA V [(eN M).down] = some [zi] ∧ (zi : den (.int V)) = z := by
      obtain ⟨_, _, h3⟩ := H.zero_eq
      obtain ⟨v0, hv0, hzk⟩ := h3 K
      rw [hzk]
      rw [hv0] at hz
      have I : b3 (i9 P (aB mem)) ls [AV.lit v0] = some (β, [.lit (.int V z)], ids) := hz
      have W : ls = [.int V] := by
       simp only [aS] at J
       split at J
       ·rw [rW.1 J]
       ·cases J
      rw [W] at I
      simp only [b3, C7] at I
      obtain ⟨a, N, b, hb', I⟩ := I
      obtain rfl := ya hb'
      simp only [Option.some.injEq, Prod.mk.injEq, List.cons.injEq, and_true] at I
      replace N : a5 P (aB mem) 6 (.int V) (.lit v0) = some a := N
      cases v0 <;> simp only [a5] at N <;> first | cases N | skip
      rename_i k3 n3
      rw [eB] at N
      obtain ⟨hk3, N⟩ := N
      obtain rfl := ya N
      obtain rfl := rW.1 hk3
      simp only [PV.lit.injEq, Value.int.injEq, true_and] at I
      exact ⟨n3, by simp [KV.down, fA, rW.2], (Value.int.inj I.2.1).2⟩
     obtain ⟨zi, O, rfl⟩ := O
     rw [O]; simp only [ye, List.headD_cons]
     rw [eB]
     refine ⟨by simp only [yb]; exact ⟨nb.2 hn1, g2⟩, ?_⟩
     rw [← ho, K]; rfl
    | false =>
     rw [H.intKind_none hT hi, Z]
     simp only [ye, H.n, H.bytes]
     rw [eB]
     refine ⟨?_, ?_⟩
     ·simp only [yb]
      exact ⟨⟨⟨g1, g2⟩, by rw [U, aG, ye1]; exact g4⟩, he⟩
     ·rw [← ho, KRow.view_sl hi, List.map_replicate, hn]
  ·cases h
 ·cases h
theorem HB (ht : bG P tab) {boxed : Bool} {W dst : TypeId} {rs : Nat} {x : KV} {k : aZ → Option R} (h : FR (aP R) tab boxed W dst mem rs x k = some r) :
  ∃ out, k out = some r ∧ kX P boxed W dst (aB mem) rs x.down = some out.down := by
 unfold FR at h
 split at h
 ·rename_i s d hs hd
  have K := bU.of (ht _ _ hs)
  have M := bU.of (ht _ _ hd)
  unfold kX
  split at h
  ·rename_i k1 kd H I
   split at h
   ·rename_i n
    refine ⟨_, h, ?_⟩
    rw [K.under_int H, M.under_int I]; rfl
   ·cases h
  ·rename_i H I
   split at h
   ·refine ⟨_, h, ?_⟩
    rw [K.under_str H, M.under_str I]; rfl
   ·cases h
  ·rename_i e H I
   rw [K.under_sl H, M.under_str I]
   split at h
   ·rename_i te N
    have J := bU.of (ht _ _ N)
    split at h
    ·rename_i ke O
     rw [bR] at h
     obtain ⟨U, h⟩ := h
     simp only [yb] at U
     obtain ⟨⟨g1, g2⟩, g3⟩ := U
     have Y := Bw ht h
     clear h
     obtain ⟨row, rd, h, hv⟩ := Y
     split at h
     ·rename_i β ag ke' xs
      rw [bR] at h
      obtain ⟨V, h⟩ := h
      simp only [yb, yq] at V
      obtain ⟨g4, rfl⟩ := V
      refine ⟨_, h, ?_⟩
      simp only
      rw [J.under_int O, rW.1 g1]
      simp only [hv, ye, J.n, nb.1 g2]
      rw [eB]
      refine ⟨by simp only [yg3]; exact zJ ht g3, ?_⟩
      obtain rfl := rW.1 g4
      rfl
     ·cases h
    ·cases h
   ·cases h
  ·rename_i e0 e H I
   rw [K.under_sl H, M.under_sl I]
   split at h
   ·rename_i te b g N
    have J := bU.of (ht _ _ N)
    split at h
    ·rename_i ke O
     rw [bR] at h
     obtain ⟨U, h⟩ := h
     simp only [yb] at U
     have Y := cQ h
     clear h
     obtain ⟨bx, Z, h⟩ := Y
     simp only [real_guard] at h
     rw [bR] at h
     refine ⟨_, h.2, ?_⟩
     simp only [KV.down]
     rw [J.under_int O, rW.1 U.1]
     simp only
     rw [eB]
     refine ⟨U.2, ?_⟩
     rw [Z]; simp only [ye, show bx.down.row = bx.row.down from rfl, pN]
     rw [eB]
     exact ⟨h.1, rfl⟩
    ·cases h
   ·cases h
  ·cases h
 ·cases h
end
end Go.Ab
