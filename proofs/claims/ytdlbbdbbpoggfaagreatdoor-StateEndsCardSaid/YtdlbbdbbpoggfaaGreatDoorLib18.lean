import Derived.Test.YtdlbbdbbpoggfaaGreatDoorLib17
set_option linter.unusedVariables false
set_option linter.unusedSectionVars false
set_option linter.unusedSimpArgs false
namespace Go.Ab
variable [cD]
section
variable {P : Program} {R : Type} {r : R} {mem : aR} {tab : TypeId → Option TI}
mutual
theorem AG : ∀ v : KV, v.down.refs = v.refs
 | .lit _ => rfl
 | .tsl _ _ _ _ => rfl
 | .el _ _ _ _ _ => rfl
 | .ptr _ _ _ _ => rfl
 | .ms _ _ _ _ => rfl
 | .msw _ _ => rfl
 | .fn f z h => by simp only [KV.down, AV.refs, KV.refs, dL z, dL h]
 | .agg cs => by simp only [KV.down, AV.refs, KV.refs, dL cs]
 | .tup vs => by simp only [KV.down, AV.refs, KV.refs, dL vs]
 | .dead => rfl
 | .gone => rfl
 | .unkB => rfl
theorem dL : ∀ vs : List KV, AV.refsAll (KV.downs vs) = KV.refsAll vs
 | [] => rfl
 | v :: vs => by simp only [KV.downs, AV.refsAll, KV.refsAll, AG v, dL vs]
end
mutual
theorem zE (f : lI) : ∀ v : KV, v.down.ren f = (v.ren f).down
 | .lit _ => rfl
 | .tsl _ _ _ _ => rfl
 | .el _ _ _ _ _ => rfl
 | .ptr b g i c => by simp only [KV.down, AV.ren, KV.ren]; cases f b g <;> rfl
 | .ms b g o n => by simp only [KV.down, AV.ren, KV.ren]; cases f b g <;> rfl
 | .msw b g => by simp only [KV.down, AV.ren, KV.ren]; cases f b g <;> rfl
 | .fn h A z => by simp only [KV.down, AV.ren, KV.ren, eV f A, eV f z]
 | .agg cs => by simp only [KV.down, AV.ren, KV.ren, eV f cs]
 | .tup vs => by simp only [KV.down, AV.ren, KV.ren, eV f vs]
 | .dead => rfl
 | .gone => rfl
 | .unkB => rfl
theorem eV (f : lI) : ∀ vs : List KV, AV.renAll f (KV.downs vs) = KV.downs (KV.renAll f vs)
 | [] => rfl
 | v :: vs => by simp only [KV.downs, AV.renAll, KV.renAll, zE f v, eV f vs]
end
mutual
theorem F9 : ∀ v : KV, v.down.lent = v.lent
 | .lit _ => rfl
 | .tsl _ _ _ _ => rfl
 | .el _ _ _ _ _ => rfl
 | .ptr _ _ _ _ => rfl
 | .ms _ _ _ _ => rfl
 | .msw _ _ => rfl
 | .fn f z h => by simp only [KV.down, AV.lent, KV.lent, gH z, gH h]
 | .agg cs => by simp only [KV.down, AV.lent, KV.lent, gH cs]
 | .tup vs => by simp only [KV.down, AV.lent, KV.lent, gH vs]
 | .dead => rfl
 | .gone => rfl
 | .unkB => rfl
theorem gH : ∀ vs : List KV, AV.lentAny (KV.downs vs) = KV.lentAny vs
 | [] => rfl
 | v :: vs => by simp only [KV.downs, AV.lentAny, KV.lentAny, F9 v, gH vs]
end
theorem IE (x : KRow) : x.down.refs = x.refs := by
 cases x with
 | cells e cs => exact dL cs
 | ts β ag T xs =>
  cases h : bT ag T with
  | true => obtain ⟨rfl, kk, rfl⟩ := aX.1 h; rfl
  | false => rw [KRow.down_sl h]; rfl
theorem Ch (f : lI) (x : KRow) : x.down.ren f = (x.ren f).down := by
 cases x with
 | cells e cs => simp only [KRow.down, cI.ren, KRow.ren, eV]
 | ts β ag T xs =>
  cases h : bT ag T with
  | true => obtain ⟨rfl, kk, rfl⟩ := aX.1 h; rfl
  | false => simp only [KRow.ren]; rw [KRow.down_sl h]; rfl
theorem Ja (mem : aR) (b : Nat) : AD (aF mem) b = Gn mem b := by
 unfold AD Gn
 rw [bU, gC]
 cases mem[b]? with
 | none => rfl
 | some x => cases x with
  | none => rfl
  | some x => exact IE x.row
theorem pV (mem : aR) : ∀ (n : Nat) (h seen : List Nat), fO (aF mem) n h seen = jP mem n h seen
 | 0, _, _ => rfl
 | n + 1, [], _ => rfl
 | n + 1, b :: h, seen => by
  simp only [fO, jP, Ja, pV mem n]
theorem wU (mem : aR) (b : Nat) : mY (aF mem) b = rB mem b := by
 unfold mY rB
 rw [bU, gC]
 cases mem[b]? with
 | none => rfl
 | some x => cases x <;> rfl
theorem wT (mem : aR) (ids : List Nat) : fX (aF mem) ids = mI mem ids := by
 funext b g
 unfold fX mI
 rw [wU]
 cases rB mem b with
 | none => rfl
 | some h =>
  simp only
  cases rX b ids 0 <;> rfl
theorem sM (f : lI) (mem : aR) : ∀ ids : List Nat, eQ f (aF mem) ids = aF (oJ f mem ids)
 | [] => rfl
 | b :: ids => by
  have h := sM f mem ids
  simp only [eQ, oJ, h]
  rw [bU, gC]
  cases mem[b]? with
  | none => rfl
  | some x => cases x with
   | none => rfl
   | some x => simp only [yo]; rw [show x.down.row = x.row.down from rfl, Ch]; rfl
theorem AK (mem : aR) (n : Nat) : c7 (aF mem) n = dV mem n := by simp only [c7, dV, iY]
theorem o8 : ∀ mem : aR, rT (aF mem) = eX mem
 | [] => rfl
 | none :: m => by
  have := o8 m
  simp only [aF, rT, yh2, eX] at this ⊢
  rw [this]; rfl
 | some x :: m => by
  have := o8 m
  simp only [aF, rT, yh2, eX] at this ⊢
  rw [this]; simp [fG.down, eW]
theorem oY : ∀ (old : List (Option Bool)) (mem : aR), mZ old (aF mem) = CZ old mem
 | [], _ => by simp [mZ, CZ]
 | some k :: old, some x :: m => by
  have := oY old m
  show ((bif k then x.row.down.isCells && Nat.beq x.gen 0 else !x.row.down.isCells) && mZ old (aF m)) = _
  rw [this, eW]; rfl
 | none :: old, none :: m => oY old m
 | some k :: old, none :: m => rfl
 | none :: old, some x :: m => rfl
 | some k :: old, [] => rfl
 | none :: old, [] => rfl
theorem Ea {old : List (Option Bool)} {vs : List KV} {k : List KV → aR → Option R} (h : Aw old vs mem k = some r) : ∃ z mem', k z mem' = some r ∧ rQ old (KV.downs vs) (aF mem) = some (KV.downs z, aF mem') := by
 unfold Aw at h
 simp only at h
 rw [c9] at h
 refine ⟨_, _, h.2, ?_⟩
 unfold rQ
 simp only [dL, AK, pV, oY, wT, eV, sM]
 rw [g8]
 exact ⟨h.1, rfl⟩
theorem Eh (m : Nat) (mem : aR) (v : KV) : v.down.frz m (aF mem) = (v.frz m mem).down := by
 cases v with
 | msw b g =>
  simp only [KV.down, AV.frz, KV.frz]
  cases Nat.ble m b with
  | false => rfl
  | true =>
   simp only [yg]
   unfold box?
   rw [bU, gC]
   cases mem[b]? with
   | none => rfl
   | some x => cases x with
    | none => rfl
    | some x =>
     simp only [yo]
     cases z : Nat.beq x.gen g with
     | false => rw [show x.down.gen = x.gen from rfl, z]; rfl
     | true =>
      rw [show x.down.gen = x.gen from rfl, z]
      simp only [yg, show x.down.row = x.row.down from rfl]
      cases x.row with
      | cells e cs => rfl
      | ts β ag T xs =>
       simp only
       cases h : bT ag T with
       | true => obtain ⟨rfl, kk, rfl⟩ := aX.1 h; rfl
       | false => rw [KRow.down_sl h, zX h, qT h]
 | tsl β ag T xs => rfl
 | _ => rfl
theorem qS (m : Nat) (mem : aR) : ∀ vs : List KV, AV.frzAll m (aF mem) (KV.downs vs) = KV.downs (KV.frzAll m mem vs)
 | [] => rfl
 | v :: vs => by simp only [KV.downs, AV.frzAll, KV.frzAll, Eh, qS m mem vs]
theorem If (m : Nat) (mem : aR) (v : KV) : kT m (aF mem) v.down = (s0 m mem v).down := by
 cases v with
 | tup vs => simp only [KV.down, kT, s0, qS]
 | agg vs => simp only [KV.down, kT, s0, qS]
 | msw b g => exact Eh m mem (.msw b g)
 | _ => rfl
theorem pA : ∀ mem : aR, gL (aF mem) = rG mem
 | [] => rfl
 | none :: m => pA m
 | some x :: m => by
  have z := pA m
  show ((match x.row.down with | .cells _ cs => AV.lentAny cs | .pvs β _ _ => β | .ints _ _ => false) || gL (aF m)) = _
  rw [z]
  simp only [rG]
  congr 1
  cases x.row with
  | cells e cs => exact gH cs
  | ts β ag T xs =>
   cases h : bT ag T with
   | true => obtain ⟨rfl, kk, rfl⟩ := aX.1 h; rfl
   | false => rw [KRow.down_sl h]; simp only [zX h]
theorem lA : ∀ mem : aR, lE (aF mem) = mF mem
 | [] => rfl
 | none :: m => lA m
 | some x :: m => by
  have h := lA m
  show x.row.down.refs ++ lE (aF m) = _
  rw [h, IE]; rfl
theorem Hj (mem sub : aR) (ids : List Nat) : cG (aF mem) (aF sub) ids = mA mem sub ids := by
 funext b g
 unfold cG mA
 rw [bU]
 cases Nat.beq g 0 with
 | false => rfl
 | true =>
  simp only [yg]
  cases ids[b]? with
  | none => simp only [iY]
  | some a =>
   simp only
   rw [wU, bU, gC]
   cases sub[b]? with
   | none => rfl
   | some x => cases x with
    | none => rfl
    | some x =>
     simp only [yo]
     cases rB mem a with
     | none => rfl
     | some h => simp only; rw [show x.down.row = x.row.down from rfl, eW]
theorem lP (f : lI) (mem : aR) : ∀ (ids : List Nat) (sub : aR), bF f (aF mem) ids (aF sub) = (iC f mem ids sub).map fun q => (q.1, q.2.down)
 | a :: ids, some x :: sub => by
  have h := lP f mem ids sub
  show (a, _) :: bF f (aF mem) ids (aF sub) = _
  rw [h]
  simp only [iC, yh2]
  congr 2
  simp only [fG.down, eW, Ch, wU]
  cases rB mem a <;> rfl
 | a :: ids, none :: sub => lP f mem ids sub
 | [], [] => rfl
 | [], _ :: _ => by simp [bF, iC, aF]
 | a :: ids, [] => rfl
theorem nQ (f : lI) : ∀ sub : aR, eH f (aF sub) = aF (s3 f sub)
 | [] => rfl
 | none :: m => by
  have h := nQ f m
  show none :: eH f (aF m) = _
  rw [h]; rfl
 | some x :: m => by
  have h := nQ f m
  show some _ :: eH f (aF m) = _
  rw [h]
  show some ({ gen := 0, frz := x.frz, row := x.row.down.ren f } : d8) :: _ = _
  rw [Ch]; rfl
theorem Cx (mem : aR) (n : Nat) : (aF mem).take n = aF (mem.take n) := by simp [aF, ym3]
theorem Ku (mem : aR) (n : Nat) : (aF mem).drop n = aF (mem.drop n) := by simp [aF, yn3]
theorem wR : ∀ cs : List KV, FA (KV.downs cs) = oN.hasMsK cs
 | [] => rfl
 | v :: cs => by
  have ih := wR cs
  cases v <;> simp_all [KV.downs, KV.down, FA, oN.hasMsK, AV.dead, AV.goneV, AV.unkB]
theorem yP {ag : Bool} {T : Ty} {l : LK} {v : KV} {k : List (den T) → Bool → List Nat → Option R} (M : (∃ b g, v = .msw b g) ∨ ∃ b g o n, v = .ms b g o n) (O : bR P (.sl ag T) [l] = true) (K : (Ty.sl ag T).depth ≤ 6)
  (h : eZ (bI R) mem (.sl ag T) [v] k = some r) : ∃ xs β ids, k xs β ids = some r ∧ gA P (aF mem) l v.down = some ((KV.tsl true ag T xs).down, ids) := by
 obtain ⟨x, β, ids, h, A⟩ := jS O K h
 refine ⟨x, β, ids, h, ?_⟩
 simp only [KV.downs, cS, Lz] at A
 obtain ⟨a, H, b, N, A⟩ := A
 obtain rfl := yb N
 simp only [Option.some.injEq, Prod.mk.injEq, Bool.or_false, yu1] at A
 obtain ⟨h1, h2, J⟩ := A
 have z : a.2.1 = iB ag T x := (yc1 h2).1
 rcases M with ⟨b, g, rfl⟩ | ⟨b, g, o, n, rfl⟩
 ·simp only [KV.down, gA] at H ⊢
  rw [show iP = 6 from rfl, H, yo, z, J]
 ·simp only [KV.down, gA] at H ⊢
  rw [show iP = 6 from rfl, H, yo, z, J]
theorem JC {t : TypeId} {v : KV} (h1 : ∀ b g, v ≠ .msw b g) (h2 : ∀ b g o n, v ≠ .ms b g o n) (h : ∀ cs, v ≠ .agg cs) : lend P (aF mem) t v.down = some (v.down, []) := by
 cases v with
 | ms b g o n => exact absurd rfl (h2 b g o n)
 | msw b g => exact absurd rfl (h1 b g)
 | agg cs => exact absurd rfl (h cs)
 | _ => rfl
theorem Ef {l : LK} {v : KV} (h1 : ∀ b g, v ≠ .msw b g) (h2 : ∀ b g o n, v ≠ .ms b g o n) : gA P (aF mem) l v.down = some (v.down, []) := by
 cases v with
 | ms b g o n => exact absurd rfl (h2 b g o n)
 | msw b g => exact absurd rfl (h1 b g)
 | _ => rfl
theorem rZ : ∀ {T : Ty} {H : List LK} {vs : List KV} {k : List KV → List Nat → Option R}, bR P T H = true → T.depth ≤ 6 → oN.lendCellsK (bI R) mem (d6 T) vs k = some r →
  ∃ z ids, k z ids = some r ∧ bP P (aF mem) H (KV.downs vs) = some (KV.downs z, ids)
 | .cons a b, H, vs, k, A, J, h => by
  simp only [bR] at A
  split at A
  ·rename_i l H
   simp only [yc] at A
   obtain ⟨⟨h1, U⟩, O⟩ := A
   have W : a.depth ≤ 6 := yt2 (Nat.le_max_left _ _) (show max a.depth b.depth ≤ 6 from J)
   have Z : b.depth ≤ 6 := yt2 (Nat.le_max_right _ _) (show max a.depth b.depth ≤ 6 from J)
   simp only [d6, j0 (nb.1 h1), List.singleton_append] at h
   exact one U W (fun h => rZ O Z h) h
  ·cases A
 | .int kk, H, vs, k, A, J, h => lendOne rfl A J h
 | .bool, H, vs, k, A, J, h => lendOne rfl A J h
 | .str, H, vs, k, A, J, h => lendOne rfl A J h
 | .sl ag T, H, vs, k, A, J, h => lendOne rfl A J h
 where
 one {T : Ty} {l : LK} {K : List Ty} {H : List LK} {vs : List KV} {k : List KV → List Nat → Option R} (A : bR P T [l] = true) (J : T.depth ≤ 6)
   (N : ∀ {vs : List KV} {k : List KV → List Nat → Option R}, oN.lendCellsK (bI R) mem K vs k = some r → ∃ z ids, k z ids = some r ∧ bP P (aF mem) H (KV.downs vs) = some (KV.downs z, ids))
   (h : oN.lendCellsK (bI R) mem (T :: K) vs k = some r) : ∃ z ids, k z ids = some r ∧ bP P (aF mem) (l :: H) (KV.downs vs) = some (KV.downs z, ids) := by
  cases vs with
  | nil => cases h
  | cons v vs =>
   have plain : (∀ b g, v ≠ .msw b g) → (∀ b g o n, v ≠ .ms b g o n) → (oN.lendCellsK (bI R) mem K vs fun z V => k (v :: z) V) = some r → ∃ z ids, k z ids = some r ∧ bP P (aF mem) (l :: H) (KV.downs (v :: vs)) = some (KV.downs z, ids) := by
    intro h1 h2 h
    obtain ⟨z, M, h, Y⟩ := N h
    exact ⟨_, _, h, by simp [KV.downs, bP, Ef h1 h2, Y]⟩
   cases v with
   | msw b g =>
    cases T with
    | sl ag T => exact boxed (.inl ⟨_, _, rfl⟩) A J N h
    | _ => cases h
   | ms b g o n =>
    cases T with
    | sl ag T => exact boxed (.inr ⟨_, _, _, _, rfl⟩) A J N h
    | _ => cases h
   | _ => exact plain (by simp) (by simp) h
 boxed {ag : Bool} {T : Ty} {l : LK} {K : List Ty} {H : List LK} {v : KV} {vs : List KV} {k : List KV → List Nat → Option R} (hv : (∃ b g, v = .msw b g) ∨ (∃ b g o n, v = .ms b g o n)) (A : bR P (.sl ag T) [l] = true) (J : (Ty.sl ag T).depth ≤ 6)
   (N : ∀ {vs : List KV} {k : List KV → List Nat → Option R}, oN.lendCellsK (bI R) mem K vs k = some r → ∃ z ids, k z ids = some r ∧ bP P (aF mem) H (KV.downs vs) = some (KV.downs z, ids))
   (h : (eZ (bI R) mem (.sl ag T) [v] fun xs _ l => oN.lendCellsK (bI R) mem K vs fun z V => k (.tsl true ag T xs :: z) (l ++ V)) = some r) :
   ∃ z ids, k z ids = some r ∧ bP P (aF mem) (l :: H) (KV.downs (v :: vs)) = some (KV.downs z, ids) := by
  obtain ⟨xs, β, ids, h, hl⟩ := yP hv A J h
  obtain ⟨z, M, h, Y⟩ := N h
  exact ⟨_, _, h, by simp [KV.downs, bP, hl, Y]⟩
 lendOne {T : Ty} {H : List LK} {vs : List KV} {k : List KV → List Nat → Option R} (h1 : T.size = 1) (A : bR P T H = true) (J : T.depth ≤ 6) (h : oN.lendCellsK (bI R) mem (d6 T) vs k = some r) :
   ∃ z ids, k z ids = some r ∧ bP P (aF mem) H (KV.downs vs) = some (KV.downs z, ids) := by
  have hl := gJ A
  rw [h1] at hl
  obtain ⟨l, rfl⟩ := yg2.1 hl
  rw [j0 h1] at h
  exact one A J (fun {vs k} h => by
   cases vs with
   | nil => exact ⟨[], [], h, rfl⟩
   | cons v vs => cases h) h
theorem LR (ht : cF P tab) {t : TypeId} {v : KV} {k : KV → List Nat → Option R} (h : oN (bI R) tab mem t v k = some r) : ∃ w ids, k w ids = some r ∧ lend P (aF mem) t v.down = some (w.down, ids) := by
 have box : (∃ b g, v = .msw b g) ∨ (∃ b g o n, v = .ms b g o n) → (match tab t with
   | some K => bif K.ag then none else (match K.ty with
    | some (.sl ag T) => eZ (bI R) mem (.sl ag T) [v] fun xs _ l => k (.tsl true ag T xs) l
    | _ => none)
   | none => none) = some r → ∃ w ids, k w ids = some r ∧ lend P (aF mem) t v.down = some (w.down, ids) := by
  intro W h
  split at h
  ·rename_i K A
   have z := b8.of (ht _ _ A)
   cases N : K.ag with
   | true => rw [N] at h; cases h
   | false =>
   rw [N] at h; simp only [ye] at h
   split at h
   ·rename_i ag T hT
    obtain ⟨⟨Y, H, M⟩, hn, _, O⟩ := z.ty _ hT
    have U := gJ M
    obtain ⟨l, rfl⟩ := yg2.1 (U : Y.length = 1)
    obtain ⟨xs, β, ids, h, hl⟩ := yP W M O h
    have J : leaf? P t = some l := by
     have V := z.ag; rw [N] at V
     obtain ⟨l2, h3, Z⟩ := gB V H
     rw [h3, (yc1 Z).1]
    refine ⟨_, ids, h, ?_⟩
    rcases W with ⟨b, g, rfl⟩ | ⟨b, g, o, n, rfl⟩
    ·simp only [KV.down, lend, J, ya]; exact hl
    ·simp only [KV.down, lend, J, ya]; exact hl
   ·cases h
  ·cases h
 cases v with
 | msw b g => exact box (.inl ⟨_, _, rfl⟩) h
 | ms b g o n => exact box (.inr ⟨_, _, _, _, rfl⟩) h
 | agg cs =>
  simp only [oN] at h
  cases hm : oN.hasMsK cs with
  | true =>
   rw [hm] at h; simp only [yg] at h
   split at h
   ·rename_i K A
    have z := b8.of (ht _ _ A)
    split at h
    ·rename_i T hT
     obtain ⟨⟨Y, H, M⟩, hn, _, O⟩ := z.ty _ hT
     obtain ⟨ws, ids, h, hl⟩ := rZ M O h
     refine ⟨_, _, h, ?_⟩
     simp only [KV.down, lend, wR, hm, yg, H, ya, hl, yo]
    ·cases h
   ·cases h
  | false =>
   rw [hm] at h; simp only [ye] at h
   exact ⟨_, _, h, by simp only [KV.down, lend, wR, hm, ye]⟩
 | _ => exact ⟨_, _, h, JC (by simp) (by simp) (by simp)⟩
theorem w4 (ht : cF P tab) : ∀ {ts : List TypeId} {vs : List KV} {k : List KV → List Nat → Option R}, Ac (bI R) tab mem ts vs k = some r → ∃ A ids, k A ids = some r ∧ fQ P (aF mem) ts (KV.downs vs) = some (KV.downs A, ids)
 | [], [], k, h => ⟨[], [], h, rfl⟩
 | t :: ts, v :: vs, k, h => by
  simp only [Ac] at h
  obtain ⟨w, l, h, H⟩ := LR ht h
  obtain ⟨A, ids, h, z⟩ := w4 ht h
  exact ⟨_, _, h, by simp [KV.downs, fQ, H, z]⟩
 | [], _ :: _, k, h => by cases h
 | _ :: _, [], k, h => by cases h
theorem Jf (ht : cF P tab) {keep : Bool} {ts : List TypeId} {vs : List KV} {k : List KV → List Nat → Option R} (h : MI (bI R) tab keep mem ts vs k = some r) : ∃ z ids, k z ids = some r ∧ HP P keep (aF mem) ts (KV.downs vs) = some (KV.downs z, ids) := by
 cases keep with
 | true => exact ⟨vs, [], h, rfl⟩
 | false => exact w4 ht h
def F4 (C : bZ) (tbl : FuncId → List aG) : Prop := ∀ {R : Type} {r : R} {g : FuncId} {args : List KV} {mem : aR} {k : KV → aR → Option R}, P5 (bI R) tbl g args mem k = some r →
 ∃ v m, C g (KV.downs args) (aF mem) = some (v.down, aF m) ∧ k v m = some r
theorem LJ (ht : cF P tab) {C : bZ} {J : FuncId → List aG} (hC : F4 C J) {raw keep : Bool} {g : FuncId} {ts : List TypeId} {H args A : List KV} {k : bY → Option R} (h : MR (bI R) tab J raw keep g ts H args A mem k = some r) :
  ∃ out, k out = some r ∧ z1 P C raw keep g ts (KV.downs H) (KV.downs args) (KV.downs A) (aF mem) = some out.down := by
 unfold MR at h
 have U := Jf ht h
 clear h
 obtain ⟨M, lb, h, hl⟩ := U
 simp only at h
 rw [c9] at h
 obtain ⟨N, h⟩ := h
 obtain ⟨v, sub, V, h⟩ := hC h
 rw [c9] at h
 obtain ⟨z, h⟩ := h
 unfold z1
 have K : KV.downs H ++ KV.downs M ++ KV.downs A = KV.downs (H ++ M ++ A) := by simp [dC]
 simp only [hl, ya, K, dL, AK, pV, wT, eV, sM, V]
 simp only [Cx, Ku, iY, lA, pA, F9, Hj, lP, nQ]
 generalize jP mem (dV mem (KV.refsAll (H ++ M ++ A)).length) (KV.refsAll (H ++ M ++ A)) [] = ids at h N z ⊢
 have W : (bif raw then v.down else kT ids.length (aF sub) v.down) = (bif raw then v else s0 ids.length sub v).down := by
  cases raw with
  | true => rfl
  | false => exact If _ _ _
 rw [W]
 simp only [AG, zE]
 cases O : fI ids.length (bif raw then v else s0 ids.length sub v).refs && fI ids.length (mF (sub.take ids.length)) with
 | true =>
  rw [O] at h; simp only [yg] at h
  refine ⟨_, h, ?_⟩
  rw [g8]; refine ⟨N, ?_⟩
  rw [g8]; refine ⟨z, ?_⟩
  simp only [yg]; rfl
 | false =>
  rw [O] at h; simp only [ye] at h
  refine ⟨_, h, ?_⟩
  rw [g8]; refine ⟨N, ?_⟩
  rw [g8]; refine ⟨z, ?_⟩
  simp only [ye]; rfl
end
end Go.Ab
