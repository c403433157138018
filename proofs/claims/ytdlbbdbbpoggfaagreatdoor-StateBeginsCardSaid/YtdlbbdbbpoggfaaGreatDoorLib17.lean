import Derived.Test.YtdlbbdbbpoggfaaGreatDoorLib16
set_option linter.unusedVariables false
set_option linter.unusedSectionVars false
set_option linter.unusedSimpArgs false
namespace Go.Ab
variable [cD]
section
variable {P : Program} {R : Type} {r : R} {mem : aR} {tab : TypeId → Option TI}
def gR (env : Nat → KV) (tmps : List AV) : Prop := ∀ t, env t = .gone ∨ kO tmps t = some (env t).down ∧ fY (env t).down = false
theorem rH {v : KV} : fY v.down = true ↔ v = .gone := by
 cases v with
 | tsl β ag T xs =>
  constructor
  ·intro h
   have := BN ag T xs
   simp only [KV.down] at h
   cases z : iB ag T xs with
   | agg _ => rw [z] at this; cases this
   | lit _ => rw [z] at h; cases β <;> cases h
   | ints _ _ => rw [z] at h; cases β <;> cases h
   | sl _ _ => rw [z] at h; cases β <;> cases h
  ·intro h; cases h
 | gone => simp [KV.down, AV.goneV, fY]
 | dead => simp [KV.down, AV.dead, fY]
 | unkB => simp [KV.down, AV.unkB, fY]
 | _ => simp [KV.down, fY]
theorem KU : ∀ {l : List Value}, sS l = true → Gt l = some (KV.downs (l.map .lit))
 | [], _ => rfl
 | v :: l, h => by
  simp only [sS, yc] at h
  simp [Gt, guardB, h.1, KU h.2, KV.downs, KV.down]
theorem Ij {v : Value} (h : GL v = true) : vK v = some (GZ v).down := by
 cases v <;> try rfl
 rename_i cs
 simp only [GL] at h
 simp [vK, GZ, KU h, KV.down]
theorem bC {env : Nat → KV} {tmps : List AV} (N : gR env tmps) {x : Operand} {k : KV → Option R} (h : gK env x k = some r) : ∃ v, fR tmps x = some v.down ∧ k v = some r ∧ v ≠ .gone := by
 unfold gK at h
 split at h
 ·rename_i t
  have ht := N t
  have z : ∀ v, env t = v → v ≠ .gone → k v = some r → ∃ v, fR tmps (.tmp t) = some v.down ∧ k v = some r ∧ v ≠ .gone := by
   intro v J H M
   rcases ht with h1 | ⟨h1, h2⟩
   ·exact absurd (J ▸ h1) H
   ·rw [J] at h1 h2
    refine ⟨v, ?_, M, H⟩
    simp only [fR, BY, h1, ya, h2, ye]
  split at h
  ·cases h
  ·rename_i A
   exact z _ rfl (fun e => A e) h
 ·rename_i c
  rw [c9] at h
  refine ⟨_, Ij h.1, h.2, ?_⟩
  cases c <;> simp [GZ]
 ·exact ⟨_, rfl, h, by simp⟩
 ·rename_i g
  split at h
  ·rename_i q K
   exact ⟨_, by simp only [fR, K]; rfl, h, by simp⟩
  ·cases h
theorem r6 {env : Nat → KV} {tmps : List AV} (H : gR env tmps) : ∀ {xs : List Operand} {k : List KV → Option R}, yV env xs k = some r → ∃ vs, AQ (fR tmps) xs = some (KV.downs vs) ∧ k vs = some r ∧ ∀ v ∈ vs, v ≠ .gone
 | [], k, h => ⟨[], rfl, h, by simp⟩
 | x :: xs, k, h => by
  simp only [yV] at h
  obtain ⟨v, K, h, J⟩ := bC H h
  obtain ⟨vs, A, h, z⟩ := r6 H h
  exact ⟨v :: vs, by simp [AQ, K, A, KV.downs], h, by simpa using ⟨J, z⟩⟩
noncomputable def mE (ps : List (Nat × KV)) : List (Nat × AV) := ps.map fun q => (q.1, q.2.down)
theorem wL {env : Nat → KV} {tmps : List AV} (A : gR env tmps) : ∀ {xs : List (Nat × Operand)} {k : List (Nat × KV) → Option R}, Dt env xs k = some r → ∃ ps, kQ (fR tmps) xs = some (mE ps) ∧ k ps = some r
 | [], k, h => ⟨[], rfl, h⟩
 | (i, x) :: xs, k, h => by
  simp only [Dt] at h
  obtain ⟨v, H, h, hg⟩ := bC A h
  obtain ⟨vs, z, h⟩ := wL A h
  exact ⟨(i, v) :: vs, by simp [kQ, H, z, mE], h⟩
theorem CH {env : Nat → KV} {tmps : List AV} (z : gR env tmps) {x : Option Operand} {k : Option Int → Option R} (h : NJ env x k = some r) : ∃ i, CA (fR tmps) x = some i ∧ k i = some r := by
 cases x with
 | none => exact ⟨none, rfl, h⟩
 | some x =>
  simp only [NJ] at h
  obtain ⟨v, A, h, hg⟩ := bC z h
  split at h
  ·rename_i kd n
   exact ⟨some n, by simp [CA, A, KV.down, JQ], h⟩
  ·cases h
theorem Ej (ht : cF P tab) {s : TypeId} {f : Nat} {k : Nat → Nat → TypeId → Option R} (h : Hd tab s f k = some r) : ∃ M n t, kG P s f = some (M, n, t) ∧ k M n t = some r := by
 unfold Hd at h
 split at h
 ·rename_i ti O
  split at h
  ·rename_i fs V
   obtain ⟨l, U, z⟩ := (b8.of (ht _ _ O)).under_st V
   split at h
   ·rename_i q H
    rw [c9] at h
    obtain ⟨h1, h⟩ := h
    obtain ⟨A, hf, N, K, J⟩ := chkFs_get z (by rw [← bU]; exact H)
    refine ⟨_, _, _, ?_, h⟩
    unfold kG
    rw [U]
    simp only
    rw [← yk1, hf]
    rw [K] at J
    simp only [ya, N, K, J]
    rw [g8]
    exact ⟨h1, rfl⟩
   ·cases h
  ·cases h
 ·cases h
 where
 chkFs_get : ∀ {fs : List (Nat × Nat × TypeId)} {l : List Field} {f : Nat} {q : Nat × Nat × TypeId}, Bu P fs l = true → fs[f]? = some q → ∃ A, l[f]? = some A ∧ A.offset = q.1 ∧ A.type = q.2.2 ∧ k6 P A.type = some q.2.1
  | q0 :: fs, A :: l, 0, q, z, H => by
   simp only [Bu, yc] at z
   obtain rfl := yb H
   refine ⟨A, rfl, (nb.1 z.1.1.1).symm, (nb.1 z.1.1.2).symm, ?_⟩
   have := z.1.2
   split at this
   ·rename_i n hn; rw [hn, nb.1 this]
   ·cases this
  | q0 :: fs, A :: l, f + 1, q, z, H => by
   simp only [Bu, yc] at z
   exact chkFs_get (fs := fs) (l := l) z.2 (by simpa using H)
  | [], _, f, q, _, H => by simp at H
  | _ :: _, [], f, q, z, _ => by cases z
theorem Aj {k7 : Nat → Option (Nat × Nat)} : ∀ {ps : List (Nat × KV)} {cs z : List KV}, Bx k7 cs ps = some z → Bp k7 (KV.downs cs) (mE ps) = some (KV.downs z)
 | [], cs, z, h => by simp only [Bx, Option.some.injEq] at h; subst h; rfl
 | (i, v) :: ps, cs, z, h => by
  simp only [Bx] at h
  split at h
  ·rename_i q H
   rw [c9] at h
   obtain ⟨J, h⟩ := h
   have A := Aj h
   rw [rP] at A
   simp only [mE, yh2, Bp, H, ya, g8, eK, aQ]
   exact ⟨J, A⟩
  ·cases h
theorem BR : ∀ {fs : List (Nat × Nat × TypeId)} {l : List Field}, Bu P fs l = true → places? P l = some (fs.map fun q => (q.1, q.2.1))
 | [], [], _ => rfl
 | q :: fs, f :: l, h => by
  simp only [Bu, yc] at h
  have h1 := nb.1 h.1.1.1
  have z := h.1.2
  split at z
  ·rename_i n hn
   simp [places?, hn, BR h.2, h1, nb.1 z]
  ·cases z
 | [], _ :: _, h => by cases h
 | _ :: _, [], h => by cases h
theorem JI (ht : cF P tab) {t : TypeId} {ps : List (Nat × KV)} {k : bY → Option R} (h : (match tab t with
  | some H =>
   (match H.tk with
   | .st fs => (match Bx (fun i => match kO fs i with | some q => some (q.1, q.2.1) | none => none) (fJ H).cells ps with | some cs => k (fU (.agg cs)) | none => none)
   | .arr _ e => (match tab e with | some K => (match Bx (fun i => some (i * K.n, K.n)) (fJ H).cells ps with | some cs => k (fU (.agg cs)) | none => none) | none => none)
   | _ => none)
  | none => none) = some r) : ∃ v, AA P t (mE ps) = some v.down ∧ k (fU v) = some r := by
 split at h
 ·rename_i H J
  have z := b8.of (ht _ _ J)
  have V := z.zero_eq.1
  split at h
  ·rename_i fs U
   obtain ⟨l, O, W⟩ := z.under_st U
   split at h
   ·rename_i cs A
    refine ⟨.agg cs, ?_, h⟩
    have := Aj A
    unfold AA
    rw [V, O]
    simp only [ya, BR W]
    rw [(zeroCells z).1]
    rw [show (fun i => (fs.map fun q => (q.1, q.2.1))[i]?) = (fun i => match kO fs i with | some q => some (q.1, q.2.1) | none => none) from ?_, this]
    ·rfl
    ·funext i
     rw [bU, yh1]
     cases fs[i]? <;> rfl
   ·cases h
  ·rename_i n e U
   have O := z.under_arr U
   split at h
   ·rename_i K N
    have M := b8.of (ht _ _ N)
    split at h
    ·rename_i cs A
     refine ⟨.agg cs, ?_, h⟩
     have := Aj A
     unfold AA
     rw [V, O]
     simp only [ya, M.n]
     rw [(zeroCells z).1, this]; rfl
    ·cases h
   ·cases h
  ·cases h
 ·cases h
theorem Ln {c a b : KV} {k : KV → Option R} (h : Nz (bI R) c a b k = some r) : ∃ v, FN c.down a.down b.down = some v.down ∧ k v = some r := by
 unfold Nz at h
 split at h
 ·rename_i t
  split at h
  ·rename_i x y
   exact ⟨_, rfl, h⟩
  ·rename_i z
   simp only [real_ite] at h
   have J : FN (.lit (.bool t)) a.down b.down = (bif t then some a.down else some b.down) := by
    unfold FN
    simp only
    split
    ·rename_i x y A H
     exfalso
     cases a <;> simp [KV.down, AV.dead, AV.goneV, AV.unkB] at A
     cases b <;> simp [KV.down, AV.dead, AV.goneV, AV.unkB] at H
     subst A; subst H
     exact z _ _ rfl rfl
    ·rfl
   cases t with
   | true => exact ⟨a, by rw [show KV.down (.lit (.bool true)) = .lit (.bool true) from rfl, J]; rfl, h⟩
   | false => exact ⟨b, by rw [show KV.down (.lit (.bool false)) = .lit (.bool false) from rfl, J]; rfl, h⟩
 ·cases h
theorem C5 (ht : cF P tab) {t O : TypeId} {N : TI} (J : tab t = some N) (U : N.tk = .sl O) {z : TI} {T : Ty} (K : tab O = some z) (hT : z.ty = some T) :
  pI P t = some (iB z.ag T []) ∧ GQ (iB z.ag T []) = some (KRow.ts false z.ag T []).down := by
 have M := b8.of (ht _ _ J)
 have h := b8.of (ht _ _ K)
 have V := M.under_sl U
 unfold pI elemOf?
 rw [V]
 simp only [ya]
 cases H : bT z.ag T with
 | true =>
  obtain ⟨A, kk, rfl⟩ := aX.1 H
  rw [(h.intKind hT A).1, A]
  exact ⟨rfl, rfl⟩
 | false =>
  rw [h.intKind_none hT H, d7 H, KRow.down_sl H]
  have hn := (h.ty T hT).2.1
  simp only [h.n, ya, hn, List.map_nil, GQ, and_true]
  rw [g8]
  exact ⟨nl.2 (by rw [← hn]; exact Ty.size_pos), rfl⟩
theorem Fv (ht : cF P tab) {boxed vars : Bool} {t : TypeId} {rs : Nat} {env : Nat → KV} {tmps : List AV} (W : gR env tmps) {x : Operand} {k : bY → Option R} (h : KY tab boxed vars t rs env x k = some r) :
  ∃ out, k out = some r ∧ rU P boxed vars (fR tmps) t rs x = some out.down := by
 unfold KY at h
 unfold rU
 cases M : qY x && boxed && !vars with
 | true =>
  rw [M] at h; simp only [yg] at h ⊢
  split at h
  ·rename_i U z
   split at h
   ·rename_i V K
    obtain ⟨N, T, A, hT, h⟩ := nU ht h
    obtain ⟨h1, h2⟩ := C5 ht z K A hT
    refine ⟨_, h, ?_⟩
    rw [h1]; simp only [ya, h2, yo]; rfl
   ·cases h
  ·cases h
 | false =>
  rw [M] at h; simp only [ye] at h ⊢
  obtain ⟨v, O, h, hg⟩ := bC W h
  rw [O]; simp only [ya]
  split at h
  ·cases boxed with
   | true => simp only [yg] at h; exact ⟨_, h, rfl⟩
   | false =>
    simp only [ye] at h
    split at h
    ·rename_i U z
     split at h
     ·rename_i V K
      obtain ⟨N, T, A, hT, h⟩ := nU ht h
      obtain ⟨h1, h2⟩ := C5 ht z K A hT
      refine ⟨_, h, ?_⟩
      simp only [KV.down, ye, h1, yo]; rfl
     ·cases h
    ·cases h
  ·rename_i J
   refine ⟨_, h, ?_⟩
   have : ∀ w, w = v.down → (match w with
    | .lit (.slice none 0 0) => bif boxed then some ({ v := w } : eL) else (pI P t).map fun p => { v := .imm false p }
    | w => some { v := w }) = some (fU v).down := by
    intro w H
    split
    ·exfalso
     cases v <;> simp [KV.down, AV.dead, AV.goneV, AV.unkB] at H
     subst H; exact J rfl
    ·rw [H]; rfl
   exact this _ rfl
theorem H3 (ht : cF P tab) {t : TypeId} {x ix : KV} {k : bY → Option R} {ρ : Operand → Option AV} {Z Y : Operand} (hx : ρ Z = some x.down) (hi : ρ Y = some ix.down) (h : GJ (bI R) tab t x ix k = some r) :
  ∃ out, k out = some r ∧ oG P ρ t Z Y = some out.down := by
 unfold oG
 rw [hx, hi]; simp only [ya]
 unfold GJ at h
 split at h
 ·rename_i cs kd i
  split at h
  ·rename_i ti z
   have A := b8.of (ht _ _ z)
   split at h
   ·rename_i n e U
    have O := A.under_arr U
    split at h
    ·rename_i te N
     have H := b8.of (ht _ _ N)
     rw [c9] at h
     obtain ⟨J, h⟩ := h
     simp only [yc, yy] at J
     have K := nb.1 J.2
     simp only [real_guard] at h
     rw [c9] at h
     obtain ⟨M, h⟩ := h
     obtain ⟨v, _, W, h⟩ := Et h
     rw [Nat.sub_zero] at W
     refine ⟨_, h, ?_⟩
     have V := H.ag; rw [J.1] at V
     simp only [KV.down, O, V, ya, H.n, K]
     rw [g8]
     refine ⟨?_, by rw [sA W]; rfl⟩
     simp only [yc] at M ⊢
     exact ⟨⟨⟨rfl, rfl⟩, M.1⟩, M.2⟩
    ·cases h
   ·cases h
  ·cases h
 ·rename_i s kd i
  split at h
  ·rename_i ti z
   have A := b8.of (ht _ _ z)
   split at h
   ·rename_i U
    have O := A.under_str U
    simp only [real_get] at h
    rw [Lz] at h
    obtain ⟨n, hn, h⟩ := h
    refine ⟨_, h, ?_⟩
    simp only [KV.down, O, hn, yo]; rfl
   ·cases h
  ·cases h
 ·cases h
theorem sI {boxed : Bool} {rs : Nat} {row : KRow} {rd : List Nat} {wr : List (Nat × fG)} {k : bY → Option R} (h : FF boxed rs row rd wr k = some r) :
  ∃ v w, k ⟨v, rd, wr ++ w, []⟩ = some r ∧ p9 boxed rs row.view = some { v := v.down, wr := w.map fun q => (q.1, q.2.down) } := by
 unfold FF at h
 cases boxed with
 | true => simp only [yg] at h; exact ⟨_, _, h, by simp [p9, KV.down, fG.down, Eb]⟩
 | false =>
  simp only [ye] at h
  split at h
  ·exact ⟨_, [], by simpa using h, by simp only [p9, ye, MT]; rfl⟩
  ·cases h
theorem Bv : ∀ (ps : List (Nat × KV)) (vs : List KV), KV.downs (sW vs ps) = qM (KV.downs vs) (mE ps)
 | [], vs => rfl
 | (i, v) :: ps, vs => by simp only [sW, mE, yh2, qM, eF, Bv ps, AM]
theorem wB {e : Nat} : ∀ {vs : List KV}, rI e vs = true → mU e (KV.downs vs) = true
 | [], _ => rfl
 | v :: vs, h => by
  simp only [rI, yc] at h
  simp only [KV.downs, mU, yc, eK, aQ]
  exact ⟨h.1, wB h.2⟩
theorem zA {n : Nat} : ∀ {ps : List (Nat × KV)}, x5 n ps = true → pW n (mE ps) = true
 | [], _ => rfl
 | (i, v) :: ps, h => by
  simp only [x5, yc] at h
  simp only [mE, yh2, pW, yc]
  exact ⟨h.1, zA h.2⟩
theorem vM : ∀ {vs : List KV}, gX (KV.downs vs) = KV.downs (lL vs)
 | [] => rfl
 | v :: vs => by simp only [KV.downs, gX, lL, vM, eK]; simp [dC]
theorem L9 (n : Nat) (v : KV) : KV.downs (List.replicate n v) = List.replicate n v.down := by simp [dC]
theorem B1 (ht : cF P tab) {boxed vars : Bool} {env : Nat → KV} {tmps : List AV} (he : gR env tmps) {rs : Nat} {t : TypeId} {len : Nat} {A : Array (Nat × Operand)} {k : bY → Option R}
  (h : rO (bI R) tab boxed vars env mem rs t len A k = some r) : ∃ out, k out = some r ∧ fC P boxed vars (fR tmps) (aF mem) rs t len A = some out.down := by
 unfold rO at h
 have N := sR ht h
 clear h
 obtain ⟨O, H, het, hte, h, hu⟩ := N
 have z := b8.of (ht _ _ hte)
 have N := wL he h
 clear h
 obtain ⟨ps, hps, h⟩ := N
 simp only at h
 rw [c9] at h
 obtain ⟨hg, h⟩ := h
 simp only [yc] at hg
 obtain ⟨⟨⟨⟨⟨g1, g2⟩, g3⟩, g4⟩, g5⟩, g6⟩ := hg
 have M : ∀ {wv : aN × List Nat} {o : eL} {out : bY}, lS P vars (aF mem) O (KV.downs (sW (List.replicate len (fJ H)) ps)) = some wv → wv.1.e = H.n → p9 (boxed || Nat.beq len 0) rs wv.1 = some o →
   ({ v := o.v, rd := wv.2, wr := bV (aF mem) wv.2 ++ o.wr } : eL) = out.down → fC P boxed vars (fR tmps) (aF mem) rs t len A = some out.down := by
  intro wv o out h1 h2 h3 h4
  unfold fC
  rw [het]; simp only [ya, z.zero_eq.1, z.n, hps]
  rw [g8]
  constructor
  ·simp only [yc]
   refine ⟨⟨⟨⟨zA g1, g2⟩, g3⟩, g4⟩, ?_⟩
   have : (fJ H).down :: (mE ps).map (·.2) = KV.downs (fJ H :: ps.map (·.2)) := by simp [KV.downs, mE, dC]
   rw [this]; exact wB g5
  ·rw [← L9, ← Bv, h1]
   simp only [ya]
   rw [g8]
   exact ⟨nb.2 h2, by rw [h3, ← h4]; rfl⟩
 split at h
 ·rename_i kd U
  rw [c9] at h
  obtain ⟨W, h⟩ := h
  split at h
  ·rename_i xs V
   obtain ⟨v, w, h, hm⟩ := sI h
   refine ⟨_, h, M (wv := (.ints kd xs, [])) ?_ (nb.1 W).symm hm ?_⟩
   ·unfold lS
    have : intKind? P O = some kd := by unfold intKind?; rw [z.under_int U]
    rw [this]; simp only [zP V, yo]
   ·simp [bY.down, aF, bV]
  ·cases h
 ·rename_i Y
  have J : intKind? P O = none := by
   have K := z.tk
   unfold intKind?
   cases hu2 : P.underlying O with
   | none => rfl
   | some d =>
    cases d with
    | int kk =>
     exfalso
     unfold mT at K
     rw [hu2] at K
     cases U : H.tk with
     | int k2 => exact Y k2 U
     | _ => rw [U] at K; cases K
    | _ => rfl
  cases vars with
  | true =>
   simp only [yg] at h
   rw [c9] at h
   obtain ⟨h1, h⟩ := h
   obtain ⟨v, w, h, hm⟩ := sI h
   refine ⟨_, h, M (wv := ((KRow.cells H.n (lL (sW (List.replicate len (fJ H)) ps))).view, [])) ?_ rfl hm (by simp [bY.down, aF, bV])⟩
   unfold lS
   rw [J]
   simp only [z.n, ya, yg]
   rw [g8]
   simp only [yc, vM]
   exact ⟨⟨⟨wB g6, g3⟩, iA h1⟩, rfl⟩
  | false =>
   simp only [ye] at h
   split at h
   ·rename_i T hT
    have N := A6 z hT h
    clear h
    obtain ⟨xs, β, l, h, hfe⟩ := N
    obtain ⟨v, w, h, hm⟩ := sI h
    have Z : bT H.ag T = false := by
     cases hi : bT H.ag T with
     | false => rfl
     | true =>
      obtain ⟨hag, kk, rfl⟩ := aX.1 hi
      rw [(z.intKind hT hag).1] at J; cases J
    refine ⟨_, h, M (wv := ((KRow.ts β H.ag T xs).view, l)) ?_ (by rw [GE]; exact (z.ty T hT).2.1) hm ?_⟩
    ·unfold lS
     rw [J]
     simp only [z.n, ya, ye, hfe, yo]
     rw [KRow.view_sl Z, (z.ty T hT).2.1]
    ·simp only [bY.down, List.map_append, qP]; simp [aF]
   ·cases h
theorem CN (ht : cF P tab) {boxed : Bool} {rs : Nat} {t : TypeId} {l c : KV} {k : bY → Option R} {ρ : Operand → Option AV} {ol oc : Operand} (hl : ρ ol = some l.down) (hc : ρ oc = some c.down)
  (h : wE (bI R) tab boxed mem t rs l c k = some r) : ∃ out, k out = some r ∧ AU P boxed ρ (aF mem) rs t ol oc = some out.down := by
 unfold wE at h
 have Y := sR ht h
 clear h
 obtain ⟨et, M, het, hte, h, hu⟩ := Y
 have A := b8.of (ht _ _ hte)
 unfold AU
 rw [het]; simp only [ya, A.zero_eq.1, hl, hc]
 split at h
 ·rename_i k1 n k2 n'
  split at h
  ·rename_i T hT
   rw [c9] at h
   obtain ⟨hg, h⟩ := h
   simp only [yc] at hg
   obtain ⟨⟨⟨g1, g2⟩, g3⟩, g4⟩ := hg
   obtain ⟨⟨ls, hls, K⟩, hn, hag, hd⟩ := A.ty T hT
   have Y := jS K hd h
   clear h
   obtain ⟨z, β, ids, h, hz⟩ := Y
   cases he : e8 ids with
   | false => rw [he] at h; cases h
   | true =>
    rw [he] at h; simp only [yw, ye, real_guard] at h
    rw [c9] at h
    obtain ⟨hb, h⟩ := h
    obtain ⟨v, w, h, hm⟩ := sI h
    refine ⟨_, h, ?_⟩
    simp only [KV.down]
    rw [g8]
    refine ⟨hb, ?_⟩
    have V : (fJ M).down.cells = KV.downs (M.zero.map .lit) := by rw [(zeroCells A).1, (zeroCells A).2.1]
    have htp : qJ P (aF mem) et (fJ M).down = some (β, fK M.ag T z, ids) := by
     unfold qJ
     rw [hls, ya, V, show iP = 6 from rfl, hz]
     simp only [ya, yS A.ag hag, yo]
    have ho : (p9 boxed rs (KRow.ts β M.ag T (List.replicate n.toNat z)).view) = some (bY.mk v [] ([] ++ w) []).down := by
     rw [hm]; simp [bY.down, aF]
    cases Z : bT M.ag T with
    | true =>
     obtain ⟨J, W, rfl⟩ := aX.1 Z
     rw [(A.intKind hT J).1]
     have hn1 : M.n = 1 := (hn : 1 = M.n).symm
     simp only [A.n, A.bytes, ya]
     have N : ∃ zi : Int, eS W [(fJ M).down] = some [zi] ∧ (zi : den (.int W)) = z := by
      obtain ⟨_, _, h3⟩ := A.zero_eq
      obtain ⟨v0, hv0, hzk⟩ := h3 J
      rw [hzk]
      rw [hv0] at hz
      have H : cS (bK P (aF mem) 6) ls [AV.lit v0] = some (β, [.lit (.int W z)], ids) := hz
      have U : ls = [.int W] := by
       simp only [bR] at K
       split at K
       ·rw [vV.1 K]
       ·cases K
      rw [U] at H
      simp only [cS, Lz] at H
      obtain ⟨a, O, b, hb', H⟩ := H
      obtain rfl := yb hb'
      simp only [Option.some.injEq, Prod.mk.injEq, List.cons.injEq, and_true] at H
      cases v0 <;> simp only [bK] at O <;> first | cases O | skip
      rename_i k3 n3
      rw [g8] at O
      obtain ⟨hk3, O⟩ := O
      obtain rfl := yb O
      obtain rfl := vV.1 hk3
      simp only [PV.lit.injEq, Value.int.injEq, true_and] at H
      exact ⟨n3, by simp [KV.down, eS, vV.2], (Value.int.inj H.2.1).2⟩
     obtain ⟨zi, N, rfl⟩ := N
     rw [N]; simp only [ya, List.headD_cons]
     rw [g8]
     refine ⟨by simp only [yc]; exact ⟨nb.2 hn1, g2⟩, ?_⟩
     rw [← ho, J]; rfl
    | false =>
     rw [A.intKind_none hT Z, htp]
     simp only [ya, A.n, A.bytes]
     rw [g8]
     refine ⟨?_, ?_⟩
     ·simp only [yc]
      exact ⟨⟨⟨g1, g2⟩, by rw [V, aQ, ye2]; exact g4⟩, he⟩
     ·rw [← ho, KRow.view_sl Z, List.map_replicate, hn]
  ·cases h
 ·cases h
theorem Gk (ht : cF P tab) {boxed : Bool} {V dst : TypeId} {rs : Nat} {x : KV} {k : bY → Option R} (h : Dy (bI R) tab boxed V dst mem rs x k = some r) :
  ∃ out, k out = some r ∧ kJ P boxed V dst (aF mem) rs x.down = some out.down := by
 unfold Dy at h
 split at h
 ·rename_i s d hs hd
  have J := b8.of (ht _ _ hs)
  have K := b8.of (ht _ _ hd)
  unfold kJ
  split at h
  ·rename_i k1 kd z A
   split at h
   ·rename_i n
    refine ⟨_, h, ?_⟩
    rw [J.under_int z, K.under_int A]; rfl
   ·cases h
  ·rename_i z A
   split at h
   ·refine ⟨_, h, ?_⟩
    rw [J.under_str z, K.under_str A]; rfl
   ·cases h
  ·rename_i e z A
   rw [J.under_sl z, K.under_str A]
   split at h
   ·rename_i te N
    have H := b8.of (ht _ _ N)
    split at h
    ·rename_i ke M
     rw [c9] at h
     obtain ⟨O, h⟩ := h
     simp only [yc] at O
     obtain ⟨⟨g1, g2⟩, g3⟩ := O
     have W := Gg ht h
     clear h
     obtain ⟨row, rd, h, hv⟩ := W
     split at h
     ·rename_i β ag ke' xs
      rw [c9] at h
      obtain ⟨U, h⟩ := h
      simp only [yc, yy] at U
      obtain ⟨g4, rfl⟩ := U
      refine ⟨_, h, ?_⟩
      simp only
      rw [H.under_int M, vV.1 g1]
      simp only [hv, ya, H.n, nb.1 g2]
      rw [g8]
      refine ⟨by simp only [yt3]; exact Df ht g3, ?_⟩
      obtain rfl := vV.1 g4
      rfl
     ·cases h
    ·cases h
   ·cases h
  ·rename_i e0 e z A
   rw [J.under_sl z, K.under_sl A]
   split at h
   ·rename_i te b g N
    have H := b8.of (ht _ _ N)
    split at h
    ·rename_i ke M
     rw [c9] at h
     obtain ⟨O, h⟩ := h
     simp only [yc] at O
     have W := cY h
     clear h
     obtain ⟨Z, Y, h⟩ := W
     simp only [real_guard] at h
     rw [c9] at h
     refine ⟨_, h.2, ?_⟩
     simp only [KV.down]
     rw [H.under_int M, vV.1 O.1]
     simp only
     rw [g8]
     refine ⟨O.2, ?_⟩
     rw [Y]; simp only [ya, show Z.down.row = Z.row.down from rfl, Co]
     rw [g8]
     exact ⟨h.1, rfl⟩
    ·cases h
   ·cases h
  ·cases h
 ·cases h
end
end Go.Ab
