import Derived.Test.YtmoldheenagboaaLib16
set_option linter.unusedVariables false
set_option linter.unusedSectionVars false
set_option linter.unusedSimpArgs false
namespace Go.Ab
variable [b8]
section
variable {P : Program} {R : Type} {r : R} {mem : aO} {tab : TypeId → Option TI}
def fW (env : Nat → KV) (tmps : List AV) : Prop := ∀ t, env t = .gone ∨ iB tmps t = some (env t).down ∧ dV (env t).down = false
theorem p3 {v : KV} : dV v.down = true ↔ v = .gone := by
 cases v with
 | tsl β ag T xs =>
  constructor
  ·intro h
   have := zT ag T xs
   simp only [KV.down] at h
   cases z : gF ag T xs with
   | agg _ => rw [z] at this; cases this
   | lit _ => rw [z] at h; cases β <;> cases h
   | ints _ _ => rw [z] at h; cases β <;> cases h
   | sl _ _ => rw [z] at h; cases β <;> cases h
  ·intro h; cases h
 | gone => simp [KV.down, AV.goneV, dV]
 | dead => simp [KV.down, AV.dead, dV]
 | unkB => simp [KV.down, AV.unkB, dV]
 | _ => simp [KV.down, dV]
theorem IC : ∀ {l : List Value}, qG l = true → E0 l = some (KV.downs (l.map .lit))
 | [], _ => rfl
 | v :: l, h => by
  simp only [qG, yc] at h
  simp [E0, guardB, h.1, IC h.2, KV.downs, KV.down]
theorem F4 {v : Value} (h : Fl v = true) : rN v = some (E8 v).down := by
 cases v <;> try rfl
 rename_i cs
 simp only [Fl] at h
 simp [rN, E8, IC h, KV.down]
theorem a5 {env : Nat → KV} {tmps : List AV} (U : fW env tmps) {x : Operand} {k : KV → Option R} (h : fN env x k = some r) : ∃ v, eQ tmps x = some v.down ∧ k v = some r ∧ v ≠ .gone := by
 unfold fN at h
 split at h
 ·rename_i t
  have Y := U t
  have J : ∀ v, env t = v → v ≠ .gone → k v = some r → ∃ v, eQ tmps (.tmp t) = some v.down ∧ k v = some r ∧ v ≠ .gone := by
   intro v N K V
   rcases Y with z | ⟨z, O⟩
   ·exact absurd (N ▸ z) K
   ·rw [N] at z O
    refine ⟨v, ?_, V, K⟩
    simp only [eQ, Au, z, yb, O, yh]
  split at h
  ·cases h
  ·rename_i H
   exact J _ rfl (fun e => H e) h
 ·rename_i c
  rw [cK] at h
  refine ⟨_, F4 h.1, h.2, ?_⟩
  cases c <;> simp [E8]
 ·exact ⟨_, rfl, h, by simp⟩
 ·rename_i g
  split at h
  ·rename_i q W
   exact ⟨_, by simp only [eQ, W]; rfl, h, by simp⟩
  ·cases h
theorem rD {env : Nat → KV} {tmps : List AV} (J : fW env tmps) : ∀ {xs : List Operand} {k : List KV → Option R}, wQ env xs k = some r → ∃ vs, yT (eQ tmps) xs = some (KV.downs vs) ∧ k vs = some r ∧ ∀ v ∈ vs, v ≠ .gone
 | [], k, h => ⟨[], rfl, h, by simp⟩
 | x :: xs, k, h => by
  simp only [wQ] at h
  obtain ⟨v, K, h, N⟩ := a5 J h
  obtain ⟨vs, z, h, H⟩ := rD J h
  exact ⟨v :: vs, by simp [yT, K, z, KV.downs], h, by simpa using ⟨N, H⟩⟩
noncomputable def k6 (ps : List (Nat × KV)) : List (Nat × AV) := ps.map fun q => (q.1, q.2.down)
theorem sJ {env : Nat → KV} {tmps : List AV} (H : fW env tmps) : ∀ {xs : List (Nat × Operand)} {k : List (Nat × KV) → Option R}, A6 env xs k = some r → ∃ ps, jW (eQ tmps) xs = some (k6 ps) ∧ k ps = some r
 | [], k, h => ⟨[], rfl, h⟩
 | (i, x) :: xs, k, h => by
  simp only [A6] at h
  obtain ⟨v, J, h, hg⟩ := a5 H h
  obtain ⟨vs, z, h⟩ := sJ H h
  exact ⟨(i, v) :: vs, by simp [jW, J, z, k6], h⟩
theorem B7 {env : Nat → KV} {tmps : List AV} (H : fW env tmps) {x : Option Operand} {k : Option Int → Option R} (h : KL env x k = some r) : ∃ i, A2 (eQ tmps) x = some i ∧ k i = some r := by
 cases x with
 | none => exact ⟨none, rfl, h⟩
 | some x =>
  simp only [KL] at h
  obtain ⟨v, z, h, hg⟩ := a5 H h
  split at h
  ·rename_i kd n
   exact ⟨some n, by simp [A2, z, KV.down, HV], h⟩
  ·cases h
theorem Cm (ht : b9 P tab) {s : TypeId} {f : Nat} {k : Nat → Nat → TypeId → Option R} (h : FJ tab s f k = some r) : ∃ O n t, jI P s f = some (O, n, t) ∧ k O n t = some r := by
 unfold FJ at h
 split at h
 ·rename_i ti V
  split at h
  ·rename_i fs Y
   obtain ⟨l, hu, z⟩ := (bX.of (ht _ _ V)).under_st Y
   split at h
   ·rename_i q J
    rw [cK] at h
    obtain ⟨h1, h⟩ := h
    obtain ⟨H, Z, K, U, N⟩ := chkFs_get z (by rw [← bO]; exact J)
    refine ⟨_, _, _, ?_, h⟩
    unfold jI
    rw [hu]
    simp only
    rw [← ym1, Z]
    rw [U] at N
    simp only [yb, K, U, N]
    rw [f8]
    exact ⟨h1, rfl⟩
   ·cases h
  ·cases h
 ·cases h
 where
 chkFs_get : ∀ {fs : List (Nat × Nat × TypeId)} {l : List Field} {f : Nat} {q : Nat × Nat × TypeId}, zJ P fs l = true → fs[f]? = some q → ∃ H, l[f]? = some H ∧ H.offset = q.1 ∧ H.type = q.2.2 ∧ j0 P H.type = some q.2.1
  | q0 :: fs, H :: l, 0, q, z, J => by
   simp only [zJ, yc] at z
   obtain rfl := ya J
   refine ⟨H, rfl, (nb.1 z.1.1.1).symm, (nb.1 z.1.1.2).symm, ?_⟩
   have := z.1.2
   split at this
   ·rename_i n W; rw [W, nb.1 this]
   ·cases this
  | q0 :: fs, H :: l, f + 1, q, z, J => by
   simp only [zJ, yc] at z
   exact chkFs_get (fs := fs) (l := l) z.2 (by simpa using J)
  | [], _, f, q, _, J => by simp at J
  | _ :: _, [], f, q, z, _ => by cases z
theorem yU {z : Nat → Option (Nat × Nat)} : ∀ {ps : List (Nat × KV)} {cs H : List KV}, z1 z cs ps = some H → zU z (KV.downs cs) (k6 ps) = some (KV.downs H)
 | [], cs, H, h => by simp only [z1, Option.some.injEq] at h; subst h; rfl
 | (i, v) :: ps, cs, H, h => by
  simp only [z1] at h
  split at h
  ·rename_i q K
   rw [cK] at h
   obtain ⟨N, h⟩ := h
   have J := yU h
   rw [pD] at J
   simp only [k6, yc2, zU, K, yb, f8, dR, aK]
   exact ⟨N, J⟩
  ·cases h
theorem zI : ∀ {fs : List (Nat × Nat × TypeId)} {l : List Field}, zJ P fs l = true → places? P l = some (fs.map fun q => (q.1, q.2.1))
 | [], [], _ => rfl
 | q :: fs, f :: l, h => by
  simp only [zJ, yc] at h
  have J := nb.1 h.1.1.1
  have z := h.1.2
  split at z
  ·rename_i n H
   simp [places?, H, zI h.2, J, nb.1 z]
  ·cases z
 | [], _ :: _, h => by cases h
 | _ :: _, [], h => by cases h
theorem Ia (Y : b9 P tab) {t : TypeId} {ps : List (Nat × KV)} {k : bW → Option R} (h : (match tab t with
  | some J =>
   (match J.tk with
   | .st fs => (match z1 (fun i => match iB fs i with | some q => some (q.1, q.2.1) | none => none) (eD J).cells ps with | some cs => k (eW (.agg cs)) | none => none)
   | .arr _ e => (match tab e with | some K => (match z1 (fun i => some (i * K.n, K.n)) (eD J).cells ps with | some cs => k (eW (.agg cs)) | none => none) | none => none)
   | _ => none)
  | none => none) = some r) : ∃ v, yR P t (k6 ps) = some v.down ∧ k (eW v) = some r := by
 split at h
 ·rename_i J W
  have z := bX.of (Y _ _ W)
  have Z := z.zero_eq.1
  split at h
  ·rename_i fs N
   obtain ⟨l, V, hc⟩ := z.under_st N
   split at h
   ·rename_i cs H
    refine ⟨.agg cs, ?_, h⟩
    have := yU H
    unfold yR
    rw [Z, V]
    simp only [yb, zI hc]
    rw [(zeroCells z).1]
    rw [show (fun i => (fs.map fun q => (q.1, q.2.1))[i]?) = (fun i => match iB fs i with | some q => some (q.1, q.2.1) | none => none) from ?_, this]
    ·rfl
    ·funext i
     rw [bO, yc1]
     cases fs[i]? <;> rfl
   ·cases h
  ·rename_i n e N
   have V := z.under_arr N
   split at h
   ·rename_i K U
    have O := bX.of (Y _ _ U)
    split at h
    ·rename_i cs H
     refine ⟨.agg cs, ?_, h⟩
     have := yU H
     unfold yR
     rw [Z, V]
     simp only [yb, O.n]
     rw [(zeroCells z).1, this]; rfl
    ·cases h
   ·cases h
  ·cases h
 ·cases h
theorem Jp {c a b : KV} {k : KV → Option R} (h : K1 (aL R) c a b k = some r) : ∃ v, Eh c.down a.down b.down = some v.down ∧ k v = some r := by
 unfold K1 at h
 split at h
 ·rename_i t
  split at h
  ·rename_i x y
   exact ⟨_, rfl, h⟩
  ·rename_i z
   simp only [real_ite] at h
   have J : Eh (.lit (.bool t)) a.down b.down = (bif t then some a.down else some b.down) := by
    unfold Eh
    simp only
    split
    ·rename_i x y H K
     exfalso
     cases a <;> simp [KV.down, AV.dead, AV.goneV, AV.unkB] at H
     cases b <;> simp [KV.down, AV.dead, AV.goneV, AV.unkB] at K
     subst H; subst K
     exact z _ _ rfl rfl
    ·rfl
   cases t with
   | true => exact ⟨a, by rw [show KV.down (.lit (.bool true)) = .lit (.bool true) from rfl, J]; rfl, h⟩
   | false => exact ⟨b, by rw [show KV.down (.lit (.bool false)) = .lit (.bool false) from rfl, J]; rfl, h⟩
 ·cases h
theorem CG (Z : b9 P tab) {t et : TypeId} {Y : TI} (O : tab t = some Y) (hk : Y.tk = .sl et) {H : TI} {T : Ty} (U : tab et = some H) (N : H.ty = some T) :
  n6 P t = some (gF H.ag T []) ∧ Fb (gF H.ag T []) = some (KRow.ts false H.ag T []).down := by
 have V := bX.of (Z _ _ O)
 have z := bX.of (Z _ _ U)
 have hu := V.under_sl hk
 unfold n6 elemOf?
 rw [hu]
 simp only [yb]
 cases K : bP H.ag T with
 | true =>
  obtain ⟨J, kk, rfl⟩ := aT.1 K
  rw [(z.intKind N J).1, J]
  exact ⟨rfl, rfl⟩
 | false =>
  rw [z.intKind_none N K, dB K, KRow.down_sl K]
  have W := (z.ty T N).2.1
  simp only [z.n, yb, W, List.map_nil, Fb, and_true]
  rw [f8]
  exact ⟨nl.2 (by rw [← W]; exact Ty.size_pos), rfl⟩
theorem De (J : b9 P tab) {boxed vars : Bool} {t : TypeId} {rs : Nat} {env : Nat → KV} {tmps : List AV} (he : fW env tmps) {x : Operand} {k : bW → Option R} (h : IA tab boxed vars t rs env x k = some r) :
  ∃ out, k out = some r ∧ pM P boxed vars (eQ tmps) t rs x = some out.down := by
 unfold IA at h
 unfold pM
 cases W : pI x && boxed && !vars with
 | true =>
  rw [W] at h; simp only [yg] at h ⊢
  split at h
  ·rename_i ti H
   split at h
   ·rename_i et K
    obtain ⟨Z, T, z, U, h⟩ := mB J h
    obtain ⟨N, Y⟩ := CG J H K z U
    refine ⟨_, h, ?_⟩
    rw [N]; simp only [yb, Y, yn]; rfl
   ·cases h
  ·cases h
 | false =>
  rw [W] at h; simp only [yh] at h ⊢
  obtain ⟨v, hv, h, hg⟩ := a5 he h
  rw [hv]; simp only [yb]
  split at h
  ·cases boxed with
   | true => simp only [yg] at h; exact ⟨_, h, rfl⟩
   | false =>
    simp only [yh] at h
    split at h
    ·rename_i ti H
     split at h
     ·rename_i et K
      obtain ⟨Z, T, z, U, h⟩ := mB J h
      obtain ⟨N, Y⟩ := CG J H K z U
      refine ⟨_, h, ?_⟩
      simp only [KV.down, yh, N, yn]; rfl
     ·cases h
    ·cases h
  ·rename_i O
   refine ⟨_, h, ?_⟩
   have : ∀ w, w = v.down → (match w with
    | .lit (.slice none 0 0) => bif boxed then some ({ v := w } : dX) else (n6 P t).map fun p => { v := .imm false p }
    | w => some { v := w }) = some (eW v).down := by
    intro w V
    split
    ·exfalso
     cases v <;> simp [KV.down, AV.dead, AV.goneV, AV.unkB] at V
     subst V; exact O rfl
    ·rw [V]; rfl
   exact this _ rfl
theorem GP (V : b9 P tab) {t : TypeId} {x ix : KV} {k : bW → Option R} {ρ : Operand → Option AV} {ox oi : Operand} (hx : ρ ox = some x.down) (hi : ρ oi = some ix.down) (h : E2 (aL R) tab t x ix k = some r) :
  ∃ out, k out = some r ∧ mW P ρ t ox oi = some out.down := by
 unfold mW
 rw [hx, hi]; simp only [yb]
 unfold E2 at h
 split at h
 ·rename_i cs kd i
  split at h
  ·rename_i ti H
   have z := bX.of (V _ _ H)
   split at h
   ·rename_i n e N
    have U := z.under_arr N
    split at h
    ·rename_i te O
     have J := bX.of (V _ _ O)
     rw [cK] at h
     obtain ⟨W, h⟩ := h
     simp only [yc, yz] at W
     have K := nb.1 W.2
     simp only [real_guard] at h
     rw [cK] at h
     obtain ⟨Y, h⟩ := h
     obtain ⟨v, _, hv, h⟩ := BW h
     rw [Nat.sub_zero] at hv
     refine ⟨_, h, ?_⟩
     have Z := J.ag; rw [W.1] at Z
     simp only [KV.down, U, Z, yb, J.n, K]
     rw [f8]
     refine ⟨?_, by rw [qJ hv]; rfl⟩
     simp only [yc] at Y ⊢
     exact ⟨⟨⟨rfl, rfl⟩, Y.1⟩, Y.2⟩
    ·cases h
   ·cases h
  ·cases h
 ·rename_i s kd i
  split at h
  ·rename_i ti H
   have z := bX.of (V _ _ H)
   split at h
   ·rename_i N
    have U := z.under_str N
    simp only [real_get] at h
    rw [Jc] at h
    obtain ⟨n, hn, h⟩ := h
    refine ⟨_, h, ?_⟩
    simp only [KV.down, U, hn, yn]; rfl
   ·cases h
  ·cases h
 ·cases h
theorem rB {boxed : Bool} {rs : Nat} {row : KRow} {rd : List Nat} {wr : List (Nat × eI)} {k : bW → Option R} (h : Du boxed rs row rd wr k = some r) :
  ∃ v w, k ⟨v, rd, wr ++ w, []⟩ = some r ∧ oT boxed rs row.view = some { v := v.down, wr := w.map fun q => (q.1, q.2.down) } := by
 unfold Du at h
 cases boxed with
 | true => simp only [yg] at h; exact ⟨_, _, h, by simp [oT, KV.down, eI.down, Ch]⟩
 | false =>
  simp only [yh] at h
  split at h
  ·exact ⟨_, [], by simpa using h, by simp only [oT, yh, Ks]; rfl⟩
  ·cases h
theorem zM : ∀ (ps : List (Nat × KV)) (vs : List KV), KV.downs (qE vs ps) = pL (KV.downs vs) (k6 ps)
 | [], vs => rfl
 | (i, v) :: ps, vs => by simp only [qE, k6, yc2, pL, dM, zM ps, zD]
theorem sB {e : Nat} : ∀ {vs : List KV}, pZ e vs = true → lP e (KV.downs vs) = true
 | [], _ => rfl
 | v :: vs, h => by
  simp only [pZ, yc] at h
  simp only [KV.downs, lP, yc, dR, aK]
  exact ⟨h.1, sB h.2⟩
theorem vB {n : Nat} : ∀ {ps : List (Nat × KV)}, vV n ps = true → nT n (k6 ps) = true
 | [], _ => rfl
 | (i, v) :: ps, h => by
  simp only [vV, yc] at h
  simp only [k6, yc2, nT, yc]
  exact ⟨h.1, vB h.2⟩
theorem rK : ∀ {vs : List KV}, f0 (KV.downs vs) = KV.downs (kC vs)
 | [] => rfl
 | v :: vs => by simp only [KV.downs, f0, kC, rK, dR]; simp [cO]
theorem I5 (n : Nat) (v : KV) : KV.downs (List.replicate n v) = List.replicate n v.down := by simp [cO]
theorem AE (ht : b9 P tab) {boxed vars : Bool} {env : Nat → KV} {tmps : List AV} (he : fW env tmps) {rs : Nat} {t : TypeId} {len : Nat} {H : Array (Nat × Operand)} {k : bW → Option R}
  (h : pC (aL R) tab boxed vars env mem rs t len H k = some r) : ∃ out, k out = some r ∧ eC P boxed vars (eQ tmps) (aB mem) rs t len H = some out.down := by
 unfold pC at h
 have U := q8 ht h
 clear h
 obtain ⟨Y, J, het, hte, h, hu⟩ := U
 have z := bX.of (ht _ _ hte)
 have U := sJ he h
 clear h
 obtain ⟨ps, hps, h⟩ := U
 simp only at h
 rw [cK] at h
 obtain ⟨hg, h⟩ := h
 simp only [yc] at hg
 obtain ⟨⟨⟨⟨⟨g1, g2⟩, g3⟩, g4⟩, g5⟩, g6⟩ := hg
 have O : ∀ {wv : aM × List Nat} {o : dX} {out : bW}, k7 P vars (aB mem) Y (KV.downs (qE (List.replicate len (eD J)) ps)) = some wv → wv.1.e = J.n → oT (boxed || Nat.beq len 0) rs wv.1 = some o →
   ({ v := o.v, rd := wv.2, wr := bS (aB mem) wv.2 ++ o.wr } : dX) = out.down → eC P boxed vars (eQ tmps) (aB mem) rs t len H = some out.down := by
  intro wv o out h1 h2 h3 h4
  unfold eC
  rw [het]; simp only [yb, z.zero_eq.1, z.n, hps]
  rw [f8]
  constructor
  ·simp only [yc]
   refine ⟨⟨⟨⟨vB g1, g2⟩, g3⟩, g4⟩, ?_⟩
   have : (eD J).down :: (k6 ps).map (·.2) = KV.downs (eD J :: ps.map (·.2)) := by simp [KV.downs, k6, cO]
   rw [this]; exact sB g5
  ·rw [← I5, ← zM, h1]
   simp only [yb]
   rw [f8]
   exact ⟨nb.2 h2, by rw [h3, ← h4]; rfl⟩
 split at h
 ·rename_i kd W
  rw [cK] at h
  obtain ⟨hn1, h⟩ := h
  split at h
  ·rename_i xs hxs
   obtain ⟨v, w, h, V⟩ := rB h
   refine ⟨_, h, O (wv := (.ints kd xs, [])) ?_ (nb.1 hn1).symm V ?_⟩
   ·unfold k7
    have : intKind? P Y = some kd := by unfold intKind?; rw [z.under_int W]
    rw [this]; simp only [v7 hxs, yn]
   ·simp [bW.down, aB, bS]
  ·cases h
 ·rename_i hnk
  have K : intKind? P Y = none := by
   have N := z.tk
   unfold intKind?
   cases hu2 : P.underlying Y with
   | none => rfl
   | some d =>
    cases d with
    | int kk =>
     exfalso
     unfold lF at N
     rw [hu2] at N
     cases W : J.tk with
     | int k2 => exact hnk k2 W
     | _ => rw [W] at N; cases N
    | _ => rfl
  cases vars with
  | true =>
   simp only [yg] at h
   rw [cK] at h
   obtain ⟨h1, h⟩ := h
   obtain ⟨v, w, h, V⟩ := rB h
   refine ⟨_, h, O (wv := ((KRow.cells J.n (kC (qE (List.replicate len (eD J)) ps))).view, [])) ?_ rfl V (by simp [bW.down, aB, bS])⟩
   unfold k7
   rw [K]
   simp only [z.n, yb, yg]
   rw [f8]
   simp only [yc, rK]
   exact ⟨⟨⟨sB g6, g3⟩, gD h1⟩, rfl⟩
  | false =>
   simp only [yh] at h
   split at h
   ·rename_i T Z
    have U := zY z Z h
    clear h
    obtain ⟨xs, β, l, h, hfe⟩ := U
    obtain ⟨v, w, h, V⟩ := rB h
    have hni : bP J.ag T = false := by
     cases hi : bP J.ag T with
     | false => rfl
     | true =>
      obtain ⟨hag, kk, rfl⟩ := aT.1 hi
      rw [(z.intKind Z hag).1] at K; cases K
    refine ⟨_, h, O (wv := ((KRow.ts β J.ag T xs).view, l)) ?_ (by rw [Fe]; exact (z.ty T Z).2.1) V ?_⟩
    ·unfold k7
     rw [K]
     simp only [z.n, yb, yh, hfe, yn]
     rw [KRow.view_sl hni, (z.ty T Z).2.1]
    ·simp only [bW.down, List.map_append, pK]; simp [aB]
   ·cases h
theorem A9 (ht : b9 P tab) {boxed : Bool} {rs : Nat} {t : TypeId} {l c : KV} {k : bW → Option R} {ρ : Operand → Option AV} {ol oc : Operand} (hl : ρ ol = some l.down) (hc : ρ oc = some c.down)
  (h : sL (aL R) tab boxed mem t rs l c k = some r) : ∃ out, k out = some r ∧ yF P boxed ρ (aB mem) rs t ol oc = some out.down := by
 unfold sL at h
 have h0 := q8 ht h
 clear h
 obtain ⟨et, O, het, hte, h, hu⟩ := h0
 have H := bX.of (ht _ _ hte)
 unfold yF
 rw [het]; simp only [yb, H.zero_eq.1, hl, hc]
 split at h
 ·rename_i k1 n k2 n'
  split at h
  ·rename_i T hT
   rw [cK] at h
   obtain ⟨hg, h⟩ := h
   simp only [yc] at hg
   obtain ⟨⟨⟨g1, g2⟩, g3⟩, g4⟩ := hg
   obtain ⟨⟨ls, hls, N⟩, hn, hag, hd⟩ := H.ty T hT
   have h0 := iS N hd h
   clear h
   obtain ⟨z, β, ids, h, hz⟩ := h0
   cases he : eA ids with
   | false => rw [he] at h; cases h
   | true =>
    rw [he] at h; simp only [Bool.not_true, yh, real_guard] at h
    rw [cK] at h
    obtain ⟨hb, h⟩ := h
    obtain ⟨v, w, h, hm⟩ := rB h
    refine ⟨_, h, ?_⟩
    simp only [KV.down]
    rw [f8]
    refine ⟨hb, ?_⟩
    have W : (eD O).down.cells = KV.downs (O.zero.map .lit) := by rw [(zeroCells H).1, (zeroCells H).2.1]
    have htp : oZ P (aB mem) et (eD O).down = some (β, eF O.ag T z, ids) := by
     unfold oZ
     rw [hls, yb, W, show gU = 6 from rfl, hz]
     simp only [yb, v3 H.ag hag, yn]
    have ho : (oT boxed rs (KRow.ts β O.ag T (List.replicate n.toNat z)).view) = some (bW.mk v [] ([] ++ w) []).down := by
     rw [hm]; simp [bW.down, aB]
    cases hi : bP O.ag T with
    | true =>
     obtain ⟨K, Z, rfl⟩ := aT.1 hi
     rw [(H.intKind hT K).1]
     have hn1 : O.n = 1 := (hn : 1 = O.n).symm
     simp only [H.n, H.bytes, yb]
     have U : ∃ zi : Int, d4 Z [(eD O).down] = some [zi] ∧ (zi : den (.int Z)) = z := by
      obtain ⟨_, _, h3⟩ := H.zero_eq
      obtain ⟨v0, hv0, hzk⟩ := h3 K
      rw [hzk]
      rw [hv0] at hz
      have J : cG (bD P (aB mem) 6) ls [AV.lit v0] = some (β, [.lit (.int Z z)], ids) := hz
      have Y : ls = [.int Z] := by
       simp only [bN] at N
       split at N
       ·rw [rT.1 N]
       ·cases N
      rw [Y] at J
      simp only [cG, Jc] at J
      obtain ⟨a, V, b, hb', J⟩ := J
      obtain rfl := ya hb'
      simp only [Option.some.injEq, Prod.mk.injEq, List.cons.injEq, and_true] at J
      cases v0 <;> simp only [bD] at V <;> first | cases V | skip
      rename_i k3 n3
      rw [f8] at V
      obtain ⟨hk3, V⟩ := V
      obtain rfl := ya V
      obtain rfl := rT.1 hk3
      simp only [PV.lit.injEq, Value.int.injEq, true_and] at J
      exact ⟨n3, by simp [KV.down, d4, rT.2], (Value.int.inj J.2.1).2⟩
     obtain ⟨zi, U, rfl⟩ := U
     rw [U]; simp only [yb, List.headD_cons]
     rw [f8]
     refine ⟨by simp only [yc]; exact ⟨nb.2 hn1, g2⟩, ?_⟩
     rw [← ho, K]; rfl
    | false =>
     rw [H.intKind_none hT hi, htp]
     simp only [yb, H.n, H.bytes]
     rw [f8]
     refine ⟨?_, ?_⟩
     ·simp only [yc]
      exact ⟨⟨⟨g1, g2⟩, by rw [W, aK, ya2]; exact g4⟩, he⟩
     ·rw [← ho, KRow.view_sl hi, List.map_replicate, hn]
  ·cases h
 ·cases h
theorem FA (V : b9 P tab) {boxed : Bool} {Z dst : TypeId} {rs : Nat} {x : KV} {k : bW → Option R} (h : A5 (aL R) tab boxed Z dst mem rs x k = some r) :
  ∃ out, k out = some r ∧ jM P boxed Z dst (aB mem) rs x.down = some out.down := by
 unfold A5 at h
 split at h
 ·rename_i s d hs hd
  have K := bX.of (V _ _ hs)
  have N := bX.of (V _ _ hd)
  unfold jM
  split at h
  ·rename_i k1 kd H z
   split at h
   ·rename_i n
    refine ⟨_, h, ?_⟩
    rw [K.under_int H, N.under_int z]; rfl
   ·cases h
  ·rename_i H z
   split at h
   ·refine ⟨_, h, ?_⟩
    rw [K.under_str H, N.under_str z]; rfl
   ·cases h
  ·rename_i e H z
   rw [K.under_sl H, N.under_str z]
   split at h
   ·rename_i te U
    have J := bX.of (V _ _ U)
    split at h
    ·rename_i ke O
     rw [cK] at h
     obtain ⟨W, h⟩ := h
     simp only [yc] at W
     obtain ⟨⟨g1, g2⟩, g3⟩ := W
     have h0 := Ee V h
     clear h
     obtain ⟨row, rd, h, hv⟩ := h0
     split at h
     ·rename_i β ag ke' xs
      rw [cK] at h
      obtain ⟨Y, h⟩ := h
      simp only [yc, yz] at Y
      obtain ⟨g4, rfl⟩ := Y
      refine ⟨_, h, ?_⟩
      simp only
      rw [J.under_int O, rT.1 g1]
      simp only [hv, yb, J.n, nb.1 g2]
      rw [f8]
      refine ⟨by simp only [Bool.and_true]; exact Bc V g3, ?_⟩
      obtain rfl := rT.1 g4
      rfl
     ·cases h
    ·cases h
   ·cases h
  ·rename_i e0 e H z
   rw [K.under_sl H, N.under_sl z]
   split at h
   ·rename_i te b g U
    have J := bX.of (V _ _ U)
    split at h
    ·rename_i ke O
     rw [cK] at h
     obtain ⟨W, h⟩ := h
     simp only [yc] at W
     have h0 := cM h
     clear h
     obtain ⟨bx, hbx, h⟩ := h0
     simp only [real_guard] at h
     rw [cK] at h
     refine ⟨_, h.2, ?_⟩
     simp only [KV.down]
     rw [J.under_int O, rT.1 W.1]
     simp only
     rw [f8]
     refine ⟨W.2, ?_⟩
     rw [hbx]; simp only [yb, show bx.down.row = bx.row.down from rfl, AY]
     rw [f8]
     exact ⟨h.1, rfl⟩
    ·cases h
   ·cases h
  ·cases h
 ·cases h
end
end Go.Ab
