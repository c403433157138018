import Derived.Test.YtdlbbdbbpoggfaaGreatDoorLib16
set_option linter.unusedVariables false
set_option linter.unusedSectionVars false
set_option linter.unusedSimpArgs false
namespace Go.Ab
variable [cD]
section
variable {P : Program} {R : Type} {r : R} {mem : aR} {tab : TypeId → Option TI}
def gQ (env : Nat → KV) (tmps : List AV) : Prop := ∀ t, env t = .gone ∨ kU tmps t = some (env t).down ∧ fW (env t).down = false
theorem rA {v : KV} : fW v.down = true ↔ v = .gone := by
 cases v with
 | tsl β ag T xs =>
  constructor
  ·intro h
   have := BH ag T xs
   simp only [KV.down] at h
   cases z : iH ag T xs with
   | agg _ => rw [z] at this; cases this
   | lit _ => rw [z] at h; cases β <;> cases h
   | ints _ _ => rw [z] at h; cases β <;> cases h
   | sl _ _ => rw [z] at h; cases β <;> cases h
  ·intro h; cases h
 | gone => simp [KV.down, AV.goneV, fW]
 | dead => simp [KV.down, AV.dead, fW]
 | unkB => simp [KV.down, AV.unkB, fW]
 | _ => simp [KV.down, fW]
theorem KX : ∀ {l : List Value}, sK l = true → G8 l = some (KV.downs (l.map .lit))
 | [], _ => rfl
 | v :: l, h => by
  simp only [sK, yc] at h
  simp [G8, guardB, h.1, KX h.2, KV.downs, KV.down]
theorem HL {v : Value} (h : Gy v = true) : vM v = some (Hg v).down := by
 cases v <;> try rfl
 rename_i cs
 simp only [Gy] at h
 simp [vM, Hg, KX h, KV.down]
theorem bC {env : Nat → KV} {tmps : List AV} (N : gQ env tmps) {x : Operand} {k : KV → Option R} (h : gI env x k = some r) : ∃ v, fP tmps x = some v.down ∧ k v = some r ∧ v ≠ .gone := by
 unfold gI at h
 split at h
 ·rename_i t
  have ht := N t
  have z : ∀ v, env t = v → v ≠ .gone → k v = some r → ∃ v, fP tmps (.tmp t) = some v.down ∧ k v = some r ∧ v ≠ .gone := by
   intro v H J M
   rcases ht with h1 | ⟨h1, h2⟩
   ·exact absurd (H ▸ h1) J
   ·rw [H] at h1 h2
    refine ⟨v, ?_, M, J⟩
    simp only [fP, B9, h1, ya, h2, ye]
  split at h
  ·cases h
  ·rename_i A
   exact z _ rfl (fun e => A e) h
 ·rename_i c
  rw [c9] at h
  refine ⟨_, HL h.1, h.2, ?_⟩
  cases c <;> simp [Hg]
 ·exact ⟨_, rfl, h, by simp⟩
 ·rename_i g
  split at h
  ·rename_i q K
   exact ⟨_, by simp only [fP, K]; rfl, h, by simp⟩
  ·cases h
theorem sT {env : Nat → KV} {tmps : List AV} (H : gQ env tmps) : ∀ {xs : List Operand} {k : List KV → Option R}, z5 env xs k = some r → ∃ vs, Ay (fP tmps) xs = some (KV.downs vs) ∧ k vs = some r ∧ ∀ v ∈ vs, v ≠ .gone
 | [], k, h => ⟨[], rfl, h, by simp⟩
 | x :: xs, k, h => by
  simp only [z5] at h
  obtain ⟨v, J, h, K⟩ := bC H h
  obtain ⟨vs, z, h, A⟩ := sT H h
  exact ⟨v :: vs, by simp [Ay, J, z, KV.downs], h, by simpa using ⟨K, A⟩⟩
noncomputable def mF (ps : List (Nat × KV)) : List (Nat × AV) := ps.map fun q => (q.1, q.2.down)
theorem wD {env : Nat → KV} {tmps : List AV} (A : gQ env tmps) : ∀ {xs : List (Nat × Operand)} {k : List (Nat × KV) → Option R}, E4 env xs k = some r → ∃ ps, kR (fP tmps) xs = some (mF ps) ∧ k ps = some r
 | [], k, h => ⟨[], rfl, h⟩
 | (i, x) :: xs, k, h => by
  simp only [E4] at h
  obtain ⟨v, H, h, hg⟩ := bC A h
  obtain ⟨vs, z, h⟩ := wD A h
  exact ⟨(i, v) :: vs, by simp [kR, H, z, mF], h⟩
theorem D8 {env : Nat → KV} {tmps : List AV} (z : gQ env tmps) {x : Option Operand} {k : Option Int → Option R} (h : NC env x k = some r) : ∃ i, Cr (fP tmps) x = some i ∧ k i = some r := by
 cases x with
 | none => exact ⟨none, rfl, h⟩
 | some x =>
  simp only [NC] at h
  obtain ⟨v, A, h, hg⟩ := bC z h
  split at h
  ·rename_i kd n
   exact ⟨some n, by simp [Cr, A, KV.down, Kk], h⟩
  ·cases h
theorem Dw (ht : cF P tab) {s : TypeId} {f : Nat} {k : Nat → Nat → TypeId → Option R} (h : GL tab s f k = some r) : ∃ K n t, kL P s f = some (K, n, t) ∧ k K n t = some r := by
 unfold GL at h
 split at h
 ·rename_i ti O
  split at h
  ·rename_i fs V
   obtain ⟨l, U, z⟩ := (cA.of (ht _ _ O)).under_st V
   split at h
   ·rename_i q H
    rw [c9] at h
    obtain ⟨h1, h⟩ := h
    obtain ⟨A, hf, N, J, M⟩ := chkFs_get z (by rw [← bU]; exact H)
    refine ⟨_, _, _, ?_, h⟩
    unfold kL
    rw [U]
    simp only
    rw [← yk1, hf]
    rw [J] at M
    simp only [ya, N, J, M]
    rw [h9]
    exact ⟨h1, rfl⟩
   ·cases h
  ·cases h
 ·cases h
 where
 chkFs_get : ∀ {fs : List (Nat × Nat × TypeId)} {l : List Field} {f : Nat} {q : Nat × Nat × TypeId}, Bz P fs l = true → fs[f]? = some q → ∃ A, l[f]? = some A ∧ A.offset = q.1 ∧ A.type = q.2.2 ∧ k7 P A.type = some q.2.1
  | q0 :: fs, A :: l, 0, q, z, H => by
   simp only [Bz, yc] at z
   obtain rfl := yb H
   refine ⟨A, rfl, (nb.1 z.1.1.1).symm, (nb.1 z.1.1.2).symm, ?_⟩
   have := z.1.2
   split at this
   ·rename_i n hn; rw [hn, nb.1 this]
   ·cases this
  | q0 :: fs, A :: l, f + 1, q, z, H => by
   simp only [Bz, yc] at z
   exact chkFs_get (fs := fs) (l := l) z.2 (by simpa using H)
  | [], _, f, q, _, H => by simp at H
  | _ :: _, [], f, q, z, _ => by cases z
theorem AP {k8 : Nat → Option (Nat × Nat)} : ∀ {ps : List (Nat × KV)} {cs z : List KV}, Bn k8 cs ps = some z → Be k8 (KV.downs cs) (mF ps) = some (KV.downs z)
 | [], cs, z, h => by simp only [Bn, Option.some.injEq] at h; subst h; rfl
 | (i, v) :: ps, cs, z, h => by
  simp only [Bn] at h
  split at h
  ·rename_i q H
   rw [c9] at h
   obtain ⟨J, h⟩ := h
   have A := AP h
   rw [rT] at A
   simp only [mF, yi2, Be, H, ya, h9, eK, aP]
   exact ⟨J, A⟩
  ·cases h
theorem BA : ∀ {fs : List (Nat × Nat × TypeId)} {l : List Field}, Bz P fs l = true → places? P l = some (fs.map fun q => (q.1, q.2.1))
 | [], [], _ => rfl
 | q :: fs, f :: l, h => by
  simp only [Bz, yc] at h
  have h1 := nb.1 h.1.1.1
  have z := h.1.2
  split at z
  ·rename_i n hn
   simp [places?, hn, BA h.2, h1, nb.1 z]
  ·cases z
 | [], _ :: _, h => by cases h
 | _ :: _, [], h => by cases h
theorem Jr (ht : cF P tab) {t : TypeId} {ps : List (Nat × KV)} {k : bY → Option R} (h : (match tab t with
  | some H =>
   (match H.tk with
   | .st fs => (match Bn (fun i => match kU fs i with | some q => some (q.1, q.2.1) | none => none) (fF H).cells ps with | some cs => k (fT (.agg cs)) | none => none)
   | .arr _ e => (match tab e with | some O => (match Bn (fun i => some (i * O.n, O.n)) (fF H).cells ps with | some cs => k (fT (.agg cs)) | none => none) | none => none)
   | _ => none)
  | none => none) = some r) : ∃ v, AB P t (mF ps) = some v.down ∧ k (fT v) = some r := by
 split at h
 ·rename_i H K
  have z := cA.of (ht _ _ K)
  have V := z.zero_eq.1
  split at h
  ·rename_i fs U
   obtain ⟨l, N, W⟩ := z.under_st U
   split at h
   ·rename_i cs A
    refine ⟨.agg cs, ?_, h⟩
    have := AP A
    unfold AB
    rw [V, N]
    simp only [ya, BA W]
    rw [(zeroCells z).1]
    rw [show (fun i => (fs.map fun q => (q.1, q.2.1))[i]?) = (fun i => match kU fs i with | some q => some (q.1, q.2.1) | none => none) from ?_, this]
    ·rfl
    ·funext i
     rw [bU, yh1]
     cases fs[i]? <;> rfl
   ·cases h
  ·rename_i n e U
   have N := z.under_arr U
   split at h
   ·rename_i O J
    have M := cA.of (ht _ _ J)
    split at h
    ·rename_i cs A
     refine ⟨.agg cs, ?_, h⟩
     have := AP A
     unfold AB
     rw [V, N]
     simp only [ya, M.n]
     rw [(zeroCells z).1, this]; rfl
    ·cases h
   ·cases h
  ·cases h
 ·cases h
theorem LI {c a b : KV} {k : KV → Option R} (h : MI (bI R) c a b k = some r) : ∃ v, Fp c.down a.down b.down = some v.down ∧ k v = some r := by
 unfold MI at h
 split at h
 ·rename_i t
  split at h
  ·rename_i x y
   exact ⟨_, rfl, h⟩
  ·rename_i z
   simp only [real_ite] at h
   have H : Fp (.lit (.bool t)) a.down b.down = (bif t then some a.down else some b.down) := by
    unfold Fp
    simp only
    split
    ·rename_i x y J A
     exfalso
     cases a <;> simp [KV.down, AV.dead, AV.goneV, AV.unkB] at J
     cases b <;> simp [KV.down, AV.dead, AV.goneV, AV.unkB] at A
     subst J; subst A
     exact z _ _ rfl rfl
    ·rfl
   cases t with
   | true => exact ⟨a, by rw [show KV.down (.lit (.bool true)) = .lit (.bool true) from rfl, H]; rfl, h⟩
   | false => exact ⟨b, by rw [show KV.down (.lit (.bool false)) = .lit (.bool false) from rfl, H]; rfl, h⟩
 ·cases h
theorem C4 (ht : cF P tab) {t O : TypeId} {N : TI} (K : tab t = some N) (U : N.tk = .sl O) {z : TI} {T : Ty} (J : tab O = some z) (hT : z.ty = some T) :
  pZ P t = some (iH z.ag T []) ∧ GZ (iH z.ag T []) = some (KRow.ts false z.ag T []).down := by
 have M := cA.of (ht _ _ K)
 have h := cA.of (ht _ _ J)
 have V := M.under_sl U
 unfold pZ elemOf?
 rw [V]
 simp only [ya]
 cases H : bT z.ag T with
 | true =>
  obtain ⟨A, kk, rfl⟩ := aX.1 H
  rw [(h.intKind hT A).1, A]
  exact ⟨rfl, rfl⟩
 | false =>
  rw [h.intKind_none hT H, d6 H, KRow.down_sl H]
  have hn := (h.ty T hT).2.1
  simp only [h.n, ya, hn, List.map_nil, GZ, and_true]
  rw [h9]
  exact ⟨nl.2 (by rw [← hn]; exact Ty.size_pos), rfl⟩
theorem F2 (ht : cF P tab) {boxed vars : Bool} {t : TypeId} {rs : Nat} {env : Nat → KV} {tmps : List AV} (V : gQ env tmps) {x : Operand} {k : bY → Option R} (h : KY tab boxed vars t rs env x k = some r) :
  ∃ out, k out = some r ∧ qM P boxed vars (fP tmps) t rs x = some out.down := by
 unfold KY at h
 unfold qM
 cases M : rO x && boxed && !vars with
 | true =>
  rw [M] at h; simp only [yg] at h ⊢
  split at h
  ·rename_i W A
   split at h
   ·rename_i N J
    obtain ⟨U, T, z, hT, h⟩ := nX ht h
    obtain ⟨h1, h2⟩ := C4 ht A J z hT
    refine ⟨_, h, ?_⟩
    rw [h1]; simp only [ya, h2, yo]; rfl
   ·cases h
  ·cases h
 | false =>
  rw [M] at h; simp only [ye] at h ⊢
  obtain ⟨v, O, h, hg⟩ := bC V h
  rw [O]; simp only [ya]
  split at h
  ·cases boxed with
   | true => simp only [yg] at h; exact ⟨_, h, rfl⟩
   | false =>
    simp only [ye] at h
    split at h
    ·rename_i W A
     split at h
     ·rename_i N J
      obtain ⟨U, T, z, hT, h⟩ := nX ht h
      obtain ⟨h1, h2⟩ := C4 ht A J z hT
      refine ⟨_, h, ?_⟩
      simp only [KV.down, ye, h1, yo]; rfl
     ·cases h
    ·cases h
  ·rename_i K
   refine ⟨_, h, ?_⟩
   have : ∀ w, w = v.down → (match w with
    | .lit (.slice none 0 0) => bif boxed then some ({ v := w } : eM) else (pZ P t).map fun p => { v := .imm false p }
    | w => some { v := w }) = some (fT v).down := by
    intro w H
    split
    ·exfalso
     cases v <;> simp [KV.down, AV.dead, AV.goneV, AV.unkB] at H
     subst H; exact K rfl
    ·rw [H]; rfl
   exact this _ rfl
theorem Hu (ht : cF P tab) {t : TypeId} {x W : KV} {k : bY → Option R} {ρ : Operand → Option AV} {ox V : Operand} (hx : ρ ox = some x.down) (hi : ρ V = some W.down) (h : GF (bI R) tab t x W k = some r) :
  ∃ out, k out = some r ∧ oV P ρ t ox V = some out.down := by
 unfold oV
 rw [hx, hi]; simp only [ya]
 unfold GF at h
 split at h
 ·rename_i cs kd i
  split at h
  ·rename_i ti z
   have A := cA.of (ht _ _ z)
   split at h
   ·rename_i n e N
    have K := A.under_arr N
    split at h
    ·rename_i te J
     have H := cA.of (ht _ _ J)
     rw [c9] at h
     obtain ⟨O, h⟩ := h
     simp only [yc, yy] at O
     have U := nb.1 O.2
     simp only [real_guard] at h
     rw [c9] at h
     obtain ⟨M, h⟩ := h
     obtain ⟨v, _, Z, h⟩ := Eb h
     rw [Nat.sub_zero] at Z
     refine ⟨_, h, ?_⟩
     have Y := H.ag; rw [O.1] at Y
     simp only [KV.down, K, Y, ya, H.n, U]
     rw [h9]
     refine ⟨?_, by rw [sA Z]; rfl⟩
     simp only [yc] at M ⊢
     exact ⟨⟨⟨rfl, rfl⟩, M.1⟩, M.2⟩
    ·cases h
   ·cases h
  ·cases h
 ·rename_i s kd i
  split at h
  ·rename_i ti z
   have A := cA.of (ht _ _ z)
   split at h
   ·rename_i N
    have K := A.under_str N
    simp only [real_get] at h
    rw [LM] at h
    obtain ⟨n, hn, h⟩ := h
    refine ⟨_, h, ?_⟩
    simp only [KV.down, K, hn, yo]; rfl
   ·cases h
  ·cases h
 ·cases h
theorem sG {boxed : Bool} {rs : Nat} {row : KRow} {rd : List Nat} {wr : List (Nat × fJ)} {k : bY → Option R} (h : FH boxed rs row rd wr k = some r) :
  ∃ v w, k ⟨v, rd, wr ++ w, []⟩ = some r ∧ p6 boxed rs row.view = some { v := v.down, wr := w.map fun q => (q.1, q.2.down) } := by
 unfold FH at h
 cases boxed with
 | true => simp only [yg] at h; exact ⟨_, _, h, by simp [p6, KV.down, fJ.down, CN]⟩
 | false =>
  simp only [ye] at h
  split at h
  ·exact ⟨_, [], by simpa using h, by simp only [p6, ye, MH]; rfl⟩
  ·cases h
theorem A5 : ∀ (ps : List (Nat × KV)) (vs : List KV), KV.downs (r7 vs ps) = qO (KV.downs vs) (mF ps)
 | [], vs => rfl
 | (i, v) :: ps, vs => by simp only [r7, mF, yi2, qO, eF, A5 ps, AJ]
theorem wF {e : Nat} : ∀ {vs : List KV}, rC e vs = true → mW e (KV.downs vs) = true
 | [], _ => rfl
 | v :: vs, h => by
  simp only [rC, yc] at h
  simp only [KV.downs, mW, yc, eK, aP]
  exact ⟨h.1, wF h.2⟩
theorem zB {n : Nat} : ∀ {ps : List (Nat × KV)}, x6 n ps = true → pB n (mF ps) = true
 | [], _ => rfl
 | (i, v) :: ps, h => by
  simp only [x6, yc] at h
  simp only [mF, yi2, pB, yc]
  exact ⟨h.1, zB h.2⟩
theorem vO : ∀ {vs : List KV}, gW (KV.downs vs) = KV.downs (lL vs)
 | [] => rfl
 | v :: vs => by simp only [KV.downs, gW, lL, vO, eK]; simp [dE]
theorem LO (n : Nat) (v : KV) : KV.downs (List.replicate n v) = List.replicate n v.down := by simp [dE]
theorem B4 (ht : cF P tab) {boxed vars : Bool} {env : Nat → KV} {tmps : List AV} (he : gQ env tmps) {rs : Nat} {t : TypeId} {len : Nat} {A : Array (Nat × Operand)} {k : bY → Option R}
  (h : qX (bI R) tab boxed vars env mem rs t len A k = some r) : ∃ out, k out = some r ∧ fA P boxed vars (fP tmps) (aF mem) rs t len A = some out.down := by
 unfold qX at h
 have N := sE ht h
 clear h
 obtain ⟨O, H, V, W, h, hu⟩ := N
 have z := cA.of (ht _ _ W)
 have N := wD he h
 clear h
 obtain ⟨ps, hps, h⟩ := N
 simp only at h
 rw [c9] at h
 obtain ⟨hg, h⟩ := h
 simp only [yc] at hg
 obtain ⟨⟨⟨⟨⟨g1, g2⟩, g3⟩, g4⟩, g5⟩, g6⟩ := hg
 have M : ∀ {wv : aO × List Nat} {o : eM} {out : bY}, mA P vars (aF mem) O (KV.downs (r7 (List.replicate len (fF H)) ps)) = some wv → wv.1.e = H.n → p6 (boxed || Nat.beq len 0) rs wv.1 = some o →
   ({ v := o.v, rd := wv.2, wr := bW (aF mem) wv.2 ++ o.wr } : eM) = out.down → fA P boxed vars (fP tmps) (aF mem) rs t len A = some out.down := by
  intro wv o out h1 h2 h3 h4
  unfold fA
  rw [V]; simp only [ya, z.zero_eq.1, z.n, hps]
  rw [h9]
  constructor
  ·simp only [yc]
   refine ⟨⟨⟨⟨zB g1, g2⟩, g3⟩, g4⟩, ?_⟩
   have : (fF H).down :: (mF ps).map (·.2) = KV.downs (fF H :: ps.map (·.2)) := by simp [KV.downs, mF, dE]
   rw [this]; exact wF g5
  ·rw [← LO, ← A5, h1]
   simp only [ya]
   rw [h9]
   exact ⟨nb.2 h2, by rw [h3, ← h4]; rfl⟩
 split at h
 ·rename_i kd U
  rw [c9] at h
  obtain ⟨hn1, h⟩ := h
  split at h
  ·rename_i xs Z
   obtain ⟨v, w, h, hm⟩ := sG h
   refine ⟨_, h, M (wv := (.ints kd xs, [])) ?_ (nb.1 hn1).symm hm ?_⟩
   ·unfold mA
    have : intKind? P O = some kd := by unfold intKind?; rw [z.under_int U]
    rw [this]; simp only [zR Z, yo]
   ·simp [bY.down, aF, bW]
  ·cases h
 ·rename_i Y
  have J : intKind? P O = none := by
   have K := z.tk
   unfold intKind?
   cases hu2 : P.underlying O with
   | none => rfl
   | some d =>
    cases d with
    | int kk =>
     exfalso
     unfold mZ at K
     rw [hu2] at K
     cases U : H.tk with
     | int k2 => exact Y k2 U
     | _ => rw [U] at K; cases K
    | _ => rfl
  cases vars with
  | true =>
   simp only [yg] at h
   rw [c9] at h
   obtain ⟨h1, h⟩ := h
   obtain ⟨v, w, h, hm⟩ := sG h
   refine ⟨_, h, M (wv := ((KRow.cells H.n (lL (r7 (List.replicate len (fF H)) ps))).view, [])) ?_ rfl hm (by simp [bY.down, aF, bW])⟩
   unfold mA
   rw [J]
   simp only [z.n, ya, yg]
   rw [h9]
   simp only [yc, vO]
   exact ⟨⟨⟨wF g6, g3⟩, iF h1⟩, rfl⟩
  | false =>
   simp only [ye] at h
   split at h
   ·rename_i T hT
    have N := Ba z hT h
    clear h
    obtain ⟨xs, β, l, h, hfe⟩ := N
    obtain ⟨v, w, h, hm⟩ := sG h
    have hni : bT H.ag T = false := by
     cases hi : bT H.ag T with
     | false => rfl
     | true =>
      obtain ⟨hag, kk, rfl⟩ := aX.1 hi
      rw [(z.intKind hT hag).1] at J; cases J
    refine ⟨_, h, M (wv := ((KRow.ts β H.ag T xs).view, l)) ?_ (by rw [Hi]; exact (z.ty T hT).2.1) hm ?_⟩
    ·unfold mA
     rw [J]
     simp only [z.n, ya, ye, hfe, yo]
     rw [KRow.view_sl hni, (z.ty T hT).2.1]
    ·simp only [bY.down, List.map_append, rS]; simp [aF]
   ·cases h
theorem Es (ht : cF P tab) {boxed : Bool} {rs : Nat} {t : TypeId} {l c : KV} {k : bY → Option R} {ρ : Operand → Option AV} {ol oc : Operand} (hl : ρ ol = some l.down) (hc : ρ oc = some c.down)
  (h : wW (bI R) tab boxed mem t rs l c k = some r) : ∃ out, k out = some r ∧ AH P boxed ρ (aF mem) rs t ol oc = some out.down := by
 unfold wW at h
 have h0 := sE ht h
 clear h
 obtain ⟨et, M, Z, hte, h, hu⟩ := h0
 have A := cA.of (ht _ _ hte)
 unfold AH
 rw [Z]; simp only [ya, A.zero_eq.1, hl, hc]
 split at h
 ·rename_i k1 n k2 n'
  split at h
  ·rename_i T hT
   rw [c9] at h
   obtain ⟨hg, h⟩ := h
   simp only [yc] at hg
   obtain ⟨⟨⟨g1, g2⟩, g3⟩, g4⟩ := hg
   obtain ⟨⟨ls, hls, K⟩, hn, hag, hd⟩ := A.ty T hT
   have h0 := jL K hd h
   clear h
   obtain ⟨z, β, ids, h, hz⟩ := h0
   cases he : eZ ids with
   | false => rw [he] at h; cases h
   | true =>
    rw [he] at h; simp only [yw, ye, real_guard] at h
    rw [c9] at h
    obtain ⟨hb, h⟩ := h
    obtain ⟨v, w, h, hm⟩ := sG h
    refine ⟨_, h, ?_⟩
    simp only [KV.down]
    rw [h9]
    refine ⟨hb, ?_⟩
    have U : (fF M).down.cells = KV.downs (M.zero.map .lit) := by rw [(zeroCells A).1, (zeroCells A).2.1]
    have htp : qJ P (aF mem) et (fF M).down = some (β, fI M.ag T z, ids) := by
     unfold qJ
     rw [hls, ya, U, show iQ = 6 from rfl, hz]
     simp only [ya, zL A.ag hag, yo]
    have ho : (p6 boxed rs (KRow.ts β M.ag T (List.replicate n.toNat z)).view) = some (bY.mk v [] ([] ++ w) []).down := by
     rw [hm]; simp [bY.down, aF]
    cases hi : bT M.ag T with
    | true =>
     obtain ⟨J, W, rfl⟩ := aX.1 hi
     rw [(A.intKind hT J).1]
     have hn1 : M.n = 1 := (hn : 1 = M.n).symm
     simp only [A.n, A.bytes, ya]
     have N : ∃ zi : Int, eR W [(fF M).down] = some [zi] ∧ (zi : den (.int W)) = z := by
      obtain ⟨_, _, h3⟩ := A.zero_eq
      obtain ⟨v0, Y, hzk⟩ := h3 J
      rw [hzk]
      rw [Y] at hz
      have H : cS (bK P (aF mem) 6) ls [AV.lit v0] = some (β, [.lit (.int W z)], ids) := hz
      have V : ls = [.int W] := by
       simp only [bR] at K
       split at K
       ·rw [vJ.1 K]
       ·cases K
      rw [V] at H
      simp only [cS, LM] at H
      obtain ⟨a, O, b, hb', H⟩ := H
      obtain rfl := yb hb'
      simp only [Option.some.injEq, Prod.mk.injEq, List.cons.injEq, and_true] at H
      cases v0 <;> simp only [bK] at O <;> first | cases O | skip
      rename_i k3 n3
      rw [h9] at O
      obtain ⟨hk3, O⟩ := O
      obtain rfl := yb O
      obtain rfl := vJ.1 hk3
      simp only [PV.lit.injEq, Value.int.injEq, true_and] at H
      exact ⟨n3, by simp [KV.down, eR, vJ.2], (Value.int.inj H.2.1).2⟩
     obtain ⟨zi, N, rfl⟩ := N
     rw [N]; simp only [ya, List.headD_cons]
     rw [h9]
     refine ⟨by simp only [yc]; exact ⟨nb.2 hn1, g2⟩, ?_⟩
     rw [← ho, J]; rfl
    | false =>
     rw [A.intKind_none hT hi, htp]
     simp only [ya, A.n, A.bytes]
     rw [h9]
     refine ⟨?_, ?_⟩
     ·simp only [yc]
      exact ⟨⟨⟨g1, g2⟩, by rw [U, aP, ye2]; exact g4⟩, he⟩
     ·rw [← ho, KRow.view_sl hi, List.map_replicate, hn]
  ·cases h
 ·cases h
theorem G6 (ht : cF P tab) {boxed : Bool} {V dst : TypeId} {rs : Nat} {x : KV} {k : bY → Option R} (h : Cx (bI R) tab boxed V dst mem rs x k = some r) :
  ∃ out, k out = some r ∧ kH P boxed V dst (aF mem) rs x.down = some out.down := by
 unfold Cx at h
 split at h
 ·rename_i s d hs hd
  have K := cA.of (ht _ _ hs)
  have J := cA.of (ht _ _ hd)
  unfold kH
  split at h
  ·rename_i k1 kd A z
   split at h
   ·rename_i n
    refine ⟨_, h, ?_⟩
    rw [K.under_int A, J.under_int z]; rfl
   ·cases h
  ·rename_i A z
   split at h
   ·refine ⟨_, h, ?_⟩
    rw [K.under_str A, J.under_str z]; rfl
   ·cases h
  ·rename_i e A z
   rw [K.under_sl A, J.under_str z]
   split at h
   ·rename_i te M
    have H := cA.of (ht _ _ M)
    split at h
    ·rename_i ke N
     rw [c9] at h
     obtain ⟨O, h⟩ := h
     simp only [yc] at O
     obtain ⟨⟨g1, g2⟩, g3⟩ := O
     have W := F1 ht h
     clear h
     obtain ⟨row, rd, h, hv⟩ := W
     split at h
     ·rename_i β ag ke' xs
      rw [c9] at h
      obtain ⟨U, h⟩ := h
      simp only [yc, yy] at U
      obtain ⟨g4, rfl⟩ := U
      refine ⟨_, h, ?_⟩
      simp only
      rw [H.under_int N, vJ.1 g1]
      simp only [hv, ya, H.n, nb.1 g2]
      rw [h9]
      refine ⟨by simp only [yt3]; exact Ed ht g3, ?_⟩
      obtain rfl := vJ.1 g4
      rfl
     ·cases h
    ·cases h
   ·cases h
  ·rename_i e0 e A z
   rw [K.under_sl A, J.under_sl z]
   split at h
   ·rename_i te b g M
    have H := cA.of (ht _ _ M)
    split at h
    ·rename_i ke N
     rw [c9] at h
     obtain ⟨O, h⟩ := h
     simp only [yc] at O
     have W := c7 h
     clear h
     obtain ⟨Z, Y, h⟩ := W
     simp only [real_guard] at h
     rw [c9] at h
     refine ⟨_, h.2, ?_⟩
     simp only [KV.down]
     rw [H.under_int N, vJ.1 O.1]
     simp only
     rw [h9]
     refine ⟨O.2, ?_⟩
     rw [Y]; simp only [ya, show Z.down.row = Z.row.down from rfl, Cg]
     rw [h9]
     exact ⟨h.1, rfl⟩
    ·cases h
   ·cases h
  ·cases h
 ·cases h
end
end Go.Ab
