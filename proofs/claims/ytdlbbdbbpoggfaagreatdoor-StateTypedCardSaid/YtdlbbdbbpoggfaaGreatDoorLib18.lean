import Derived.Test.YtdlbbdbbpoggfaaGreatDoorLib17
set_option linter.unusedVariables false
set_option linter.unusedSectionVars false
set_option linter.unusedSimpArgs false
namespace Go.Ab
variable [cD]
section
variable {P : Program} {R : Type} {r : R} {mem : aR} {tab : TypeId → Option TI}
mutual
theorem A2 : ∀ v : KV, v.down.refs = v.refs
 | .lit _ => rfl
 | .tsl _ _ _ _ => rfl
 | .el _ _ _ _ _ => rfl
 | .ptr _ _ _ _ => rfl
 | .ms _ _ _ _ => rfl
 | .msw _ _ => rfl
 | .fn f h z => by simp only [KV.down, AV.refs, KV.refs, dO h, dO z]
 | .agg cs => by simp only [KV.down, AV.refs, KV.refs, dO cs]
 | .tup vs => by simp only [KV.down, AV.refs, KV.refs, dO vs]
 | .dead => rfl
 | .gone => rfl
 | .unkB => rfl
theorem dO : ∀ vs : List KV, AV.refsAll (KV.downs vs) = KV.refsAll vs
 | [] => rfl
 | v :: vs => by simp only [KV.downs, AV.refsAll, KV.refsAll, A2 v, dO vs]
end
mutual
theorem zJ (f : k9) : ∀ v : KV, v.down.ren f = (v.ren f).down
 | .lit _ => rfl
 | .tsl _ _ _ _ => rfl
 | .el _ _ _ _ _ => rfl
 | .ptr b g i c => by simp only [KV.down, AV.ren, KV.ren]; cases f b g <;> rfl
 | .ms b g o n => by simp only [KV.down, AV.ren, KV.ren]; cases f b g <;> rfl
 | .msw b g => by simp only [KV.down, AV.ren, KV.ren]; cases f b g <;> rfl
 | .fn h z A => by simp only [KV.down, AV.ren, KV.ren, eW f z, eW f A]
 | .agg cs => by simp only [KV.down, AV.ren, KV.ren, eW f cs]
 | .tup vs => by simp only [KV.down, AV.ren, KV.ren, eW f vs]
 | .dead => rfl
 | .gone => rfl
 | .unkB => rfl
theorem eW (f : k9) : ∀ vs : List KV, AV.renAll f (KV.downs vs) = KV.downs (KV.renAll f vs)
 | [] => rfl
 | v :: vs => by simp only [KV.downs, AV.renAll, KV.renAll, zJ f v, eW f vs]
end
mutual
theorem F3 : ∀ v : KV, v.down.lent = v.lent
 | .lit _ => rfl
 | .tsl _ _ _ _ => rfl
 | .el _ _ _ _ _ => rfl
 | .ptr _ _ _ _ => rfl
 | .ms _ _ _ _ => rfl
 | .msw _ _ => rfl
 | .fn f h z => by simp only [KV.down, AV.lent, KV.lent, gD h, gD z]
 | .agg cs => by simp only [KV.down, AV.lent, KV.lent, gD cs]
 | .tup vs => by simp only [KV.down, AV.lent, KV.lent, gD vs]
 | .dead => rfl
 | .gone => rfl
 | .unkB => rfl
theorem gD : ∀ vs : List KV, AV.lentAny (KV.downs vs) = KV.lentAny vs
 | [] => rfl
 | v :: vs => by simp only [KV.downs, AV.lentAny, KV.lentAny, F3 v, gD vs]
end
theorem HQ (x : KRow) : x.down.refs = x.refs := by
 cases x with
 | cells e cs => exact dO cs
 | ts β ag T xs =>
  cases h : bT ag T with
  | true => obtain ⟨rfl, kk, rfl⟩ := aX.1 h; rfl
  | false => rw [KRow.down_sl h]; rfl
theorem Cd (f : k9) (x : KRow) : x.down.ren f = (x.ren f).down := by
 cases x with
 | cells e cs => simp only [KRow.down, cI.ren, KRow.ren, eW]
 | ts β ag T xs =>
  cases h : bT ag T with
  | true => obtain ⟨rfl, kk, rfl⟩ := aX.1 h; rfl
  | false => simp only [KRow.ren]; rw [KRow.down_sl h]; rfl
theorem Il (mem : aR) (b : Nat) : Av (aF mem) b = Gs mem b := by
 unfold Av Gs
 rw [bU, gJ]
 cases mem[b]? with
 | none => rfl
 | some x => cases x with
  | none => rfl
  | some x => exact HQ x.row
theorem o4 (mem : aR) : ∀ (n : Nat) (h seen : List Nat), fN (aF mem) n h seen = jN mem n h seen
 | 0, _, _ => rfl
 | n + 1, [], _ => rfl
 | n + 1, b :: h, seen => by
  simp only [fN, jN, Il, o4 mem n]
theorem wS (mem : aR) (b : Nat) : mX (aF mem) b = rY mem b := by
 unfold mX rY
 rw [bU, gJ]
 cases mem[b]? with
 | none => rfl
 | some x => cases x <;> rfl
theorem vY (mem : aR) (ids : List Nat) : fZ (aF mem) ids = mB mem ids := by
 funext b g
 unfold fZ mB
 rw [wS]
 cases rY mem b with
 | none => rfl
 | some h =>
  simp only
  cases rD b ids 0 <;> rfl
theorem s2 (f : k9) (mem : aR) : ∀ ids : List Nat, eQ f (aF mem) ids = aF (oC f mem ids)
 | [] => rfl
 | b :: ids => by
  have h := s2 f mem ids
  simp only [eQ, oC, h]
  rw [bU, gJ]
  cases mem[b]? with
  | none => rfl
  | some x => cases x with
   | none => rfl
   | some x => simp only [yo]; rw [show x.down.row = x.row.down from rfl, Cd]; rfl
theorem AA (mem : aR) (n : Nat) : cZ (aF mem) n = dX mem n := by simp only [cZ, dX, jA]
theorem pA : ∀ mem : aR, rG (aF mem) = e9 mem
 | [] => rfl
 | none :: m => by
  have := pA m
  simp only [aF, rG, yi2, e9] at this ⊢
  rw [this]; rfl
 | some x :: m => by
  have := pA m
  simp only [aF, rG, yi2, e9] at this ⊢
  rw [this]; simp [fJ.down, eV]
theorem o5 : ∀ (old : List (Option Bool)) (mem : aR), nG old (aF mem) = D5 old mem
 | [], _ => by simp [nG, D5]
 | some k :: old, some x :: m => by
  have := o5 old m
  show ((bif k then x.row.down.isCells && Nat.beq x.gen 0 else !x.row.down.isCells) && nG old (aF m)) = _
  rw [this, eV]; rfl
 | none :: old, none :: m => o5 old m
 | some k :: old, none :: m => rfl
 | none :: old, some x :: m => rfl
 | some k :: old, [] => rfl
 | none :: old, [] => rfl
theorem CZ {old : List (Option Bool)} {vs : List KV} {k : List KV → aR → Option R} (h : Az old vs mem k = some r) : ∃ z mem', k z mem' = some r ∧ rQ old (KV.downs vs) (aF mem) = some (KV.downs z, aF mem') := by
 unfold Az at h
 simp only at h
 rw [c9] at h
 refine ⟨_, _, h.2, ?_⟩
 unfold rQ
 simp only [dO, AA, o4, o5, vY, eW, s2]
 rw [h9]
 exact ⟨h.1, rfl⟩
theorem Dy (m : Nat) (mem : aR) (v : KV) : v.down.frz m (aF mem) = (v.frz m mem).down := by
 cases v with
 | msw b g =>
  simp only [KV.down, AV.frz, KV.frz]
  cases Nat.ble m b with
  | false => rfl
  | true =>
   simp only [yg]
   unfold box?
   rw [bU, gJ]
   cases mem[b]? with
   | none => rfl
   | some x => cases x with
    | none => rfl
    | some x =>
     simp only [yo]
     cases z : Nat.beq x.gen g with
     | false => rw [show x.down.gen = x.gen from rfl, z]; rfl
     | true =>
      rw [show x.down.gen = x.gen from rfl, z]
      simp only [yg, show x.down.row = x.row.down from rfl]
      cases x.row with
      | cells e cs => rfl
      | ts β ag T xs =>
       simp only
       cases h : bT ag T with
       | true => obtain ⟨rfl, kk, rfl⟩ := aX.1 h; rfl
       | false => rw [KRow.down_sl h, y9 h, qZ h]
 | tsl β ag T xs => rfl
 | _ => rfl
theorem rM (m : Nat) (mem : aR) : ∀ vs : List KV, AV.frzAll m (aF mem) (KV.downs vs) = KV.downs (KV.frzAll m mem vs)
 | [] => rfl
 | v :: vs => by simp only [KV.downs, AV.frzAll, KV.frzAll, Dy, rM m mem vs]
theorem HE (m : Nat) (mem : aR) (v : KV) : kT m (aF mem) v.down = (r6 m mem v).down := by
 cases v with
 | tup vs => simp only [KV.down, kT, r6, rM]
 | agg vs => simp only [KV.down, kT, r6, rM]
 | msw b g => exact Dy m mem (.msw b g)
 | _ => rfl
theorem pH : ∀ mem : aR, gN (aF mem) = rF mem
 | [] => rfl
 | none :: m => pH m
 | some x :: m => by
  have z := pH m
  show ((match x.row.down with | .cells _ cs => AV.lentAny cs | .pvs β _ _ => β | .ints _ _ => false) || gN (aF m)) = _
  rw [z]
  simp only [rF]
  congr 1
  cases x.row with
  | cells e cs => exact gD cs
  | ts β ag T xs =>
   cases h : bT ag T with
   | true => obtain ⟨rfl, kk, rfl⟩ := aX.1 h; rfl
   | false => rw [KRow.down_sl h]; simp only [y9 h]
theorem lE : ∀ mem : aR, lJ (aF mem) = lT mem
 | [] => rfl
 | none :: m => lE m
 | some x :: m => by
  have h := lE m
  show x.row.down.refs ++ lJ (aF m) = _
  rw [h, HQ]; rfl
theorem Hb (mem sub : aR) (ids : List Nat) : cH (aF mem) (aF sub) ids = lP mem sub ids := by
 funext b g
 unfold cH lP
 rw [bU]
 cases Nat.beq g 0 with
 | false => rfl
 | true =>
  simp only [yg]
  cases ids[b]? with
  | none => simp only [jA]
  | some a =>
   simp only
   rw [wS, bU, gJ]
   cases sub[b]? with
   | none => rfl
   | some x => cases x with
    | none => rfl
    | some x =>
     simp only [yo]
     cases rY mem a with
     | none => rfl
     | some h => simp only; rw [show x.down.row = x.row.down from rfl, eV]
theorem mE (f : k9) (mem : aR) : ∀ (ids : List Nat) (sub : aR), bF f (aF mem) ids (aF sub) = (iA f mem ids sub).map fun q => (q.1, q.2.down)
 | a :: ids, some x :: sub => by
  have h := mE f mem ids sub
  show (a, _) :: bF f (aF mem) ids (aF sub) = _
  rw [h]
  simp only [iA, yi2]
  congr 2
  simp only [fJ.down, eV, Cd, wS]
  cases rY mem a <;> rfl
 | a :: ids, none :: sub => mE f mem ids sub
 | [], [] => rfl
 | [], _ :: _ => by simp [bF, iA, aF]
 | a :: ids, [] => rfl
theorem nZ (f : k9) : ∀ sub : aR, eE f (aF sub) = aF (sJ f sub)
 | [] => rfl
 | none :: m => by
  have h := nZ f m
  show none :: eE f (aF m) = _
  rw [h]; rfl
 | some x :: m => by
  have h := nZ f m
  show some _ :: eE f (aF m) = _
  rw [h]
  show some ({ gen := 0, frz := x.frz, row := x.row.down.ren f } : d8) :: _ = _
  rw [Cd]; rfl
theorem Ec (mem : aR) (n : Nat) : (aF mem).take n = aF (mem.take n) := by simp [aF, ym3]
theorem Kh (mem : aR) (n : Nat) : (aF mem).drop n = aF (mem.drop n) := by simp [aF, yn3]
theorem wC : ∀ cs : List KV, Ga (KV.downs cs) = oM.hasMsK cs
 | [] => rfl
 | v :: cs => by
  have ih := wC cs
  cases v <;> simp_all [KV.downs, KV.down, Ga, oM.hasMsK, AV.dead, AV.goneV, AV.unkB]
theorem w9 {ag : Bool} {T : Ty} {l : LK} {v : KV} {k : List (den T) → Bool → List Nat → Option R} (M : (∃ b g, v = .msw b g) ∨ ∃ b g o n, v = .ms b g o n) (N : bR P (.sl ag T) [l] = true) (K : (Ty.sl ag T).depth ≤ 6)
  (h : fC (bI R) mem (.sl ag T) [v] k = some r) : ∃ xs β ids, k xs β ids = some r ∧ f9 P (aF mem) l v.down = some ((KV.tsl true ag T xs).down, ids) := by
 obtain ⟨x, β, ids, h, A⟩ := jL N K h
 refine ⟨x, β, ids, h, ?_⟩
 simp only [KV.downs, cS, LM] at A
 obtain ⟨a, H, b, O, A⟩ := A
 obtain rfl := yb O
 simp only [Option.some.injEq, Prod.mk.injEq, Bool.or_false, yu1] at A
 obtain ⟨h1, h2, J⟩ := A
 have z : a.2.1 = iH ag T x := (yc1 h2).1
 rcases M with ⟨b, g, rfl⟩ | ⟨b, g, o, n, rfl⟩
 ·simp only [KV.down, f9] at H ⊢
  rw [show iQ = 6 from rfl, H, yo, z, J]
 ·simp only [KV.down, f9] at H ⊢
  rw [show iQ = 6 from rfl, H, yo, z, J]
theorem J9 {t : TypeId} {v : KV} (h1 : ∀ b g, v ≠ .msw b g) (h2 : ∀ b g o n, v ≠ .ms b g o n) (h : ∀ cs, v ≠ .agg cs) : lend P (aF mem) t v.down = some (v.down, []) := by
 cases v with
 | ms b g o n => exact absurd rfl (h2 b g o n)
 | msw b g => exact absurd rfl (h1 b g)
 | agg cs => exact absurd rfl (h cs)
 | _ => rfl
theorem Dm {l : LK} {v : KV} (h1 : ∀ b g, v ≠ .msw b g) (h2 : ∀ b g o n, v ≠ .ms b g o n) : f9 P (aF mem) l v.down = some (v.down, []) := by
 cases v with
 | ms b g o n => exact absurd rfl (h2 b g o n)
 | msw b g => exact absurd rfl (h1 b g)
 | _ => rfl
theorem rU : ∀ {T : Ty} {H : List LK} {vs : List KV} {k : List KV → List Nat → Option R}, bR P T H = true → T.depth ≤ 6 → oM.lendCellsK (bI R) mem (dZ T) vs k = some r →
  ∃ z ids, k z ids = some r ∧ bQ P (aF mem) H (KV.downs vs) = some (KV.downs z, ids)
 | .cons a b, H, vs, k, A, J, h => by
  simp only [bR] at A
  split at A
  ·rename_i l H
   simp only [yc] at A
   obtain ⟨⟨h1, V⟩, W⟩ := A
   have O : a.depth ≤ 6 := yt2 (Nat.le_max_left _ _) (show max a.depth b.depth ≤ 6 from J)
   have Y : b.depth ≤ 6 := yt2 (Nat.le_max_right _ _) (show max a.depth b.depth ≤ 6 from J)
   simp only [dZ, jW (nb.1 h1), List.singleton_append] at h
   exact one V O (fun h => rU W Y h) h
  ·cases A
 | .int kk, H, vs, k, A, J, h => lendOne rfl A J h
 | .bool, H, vs, k, A, J, h => lendOne rfl A J h
 | .str, H, vs, k, A, J, h => lendOne rfl A J h
 | .sl ag T, H, vs, k, A, J, h => lendOne rfl A J h
 where
 one {T : Ty} {l : LK} {K : List Ty} {H : List LK} {vs : List KV} {k : List KV → List Nat → Option R} (A : bR P T [l] = true) (J : T.depth ≤ 6)
   (M : ∀ {vs : List KV} {k : List KV → List Nat → Option R}, oM.lendCellsK (bI R) mem K vs k = some r → ∃ z ids, k z ids = some r ∧ bQ P (aF mem) H (KV.downs vs) = some (KV.downs z, ids))
   (h : oM.lendCellsK (bI R) mem (T :: K) vs k = some r) : ∃ z ids, k z ids = some r ∧ bQ P (aF mem) (l :: H) (KV.downs vs) = some (KV.downs z, ids) := by
  cases vs with
  | nil => cases h
  | cons v vs =>
   have plain : (∀ b g, v ≠ .msw b g) → (∀ b g o n, v ≠ .ms b g o n) → (oM.lendCellsK (bI R) mem K vs fun z Z => k (v :: z) Z) = some r → ∃ z ids, k z ids = some r ∧ bQ P (aF mem) (l :: H) (KV.downs (v :: vs)) = some (KV.downs z, ids) := by
    intro h1 h2 h
    obtain ⟨z, N, h, U⟩ := M h
    exact ⟨_, _, h, by simp [KV.downs, bQ, Dm h1 h2, U]⟩
   cases v with
   | msw b g =>
    cases T with
    | sl ag T => exact boxed (.inl ⟨_, _, rfl⟩) A J M h
    | _ => cases h
   | ms b g o n =>
    cases T with
    | sl ag T => exact boxed (.inr ⟨_, _, _, _, rfl⟩) A J M h
    | _ => cases h
   | _ => exact plain (by simp) (by simp) h
 boxed {ag : Bool} {T : Ty} {l : LK} {K : List Ty} {H : List LK} {v : KV} {vs : List KV} {k : List KV → List Nat → Option R} (hv : (∃ b g, v = .msw b g) ∨ (∃ b g o n, v = .ms b g o n)) (A : bR P (.sl ag T) [l] = true) (J : (Ty.sl ag T).depth ≤ 6)
   (M : ∀ {vs : List KV} {k : List KV → List Nat → Option R}, oM.lendCellsK (bI R) mem K vs k = some r → ∃ z ids, k z ids = some r ∧ bQ P (aF mem) H (KV.downs vs) = some (KV.downs z, ids))
   (h : (fC (bI R) mem (.sl ag T) [v] fun xs _ l => oM.lendCellsK (bI R) mem K vs fun z Z => k (.tsl true ag T xs :: z) (l ++ Z)) = some r) :
   ∃ z ids, k z ids = some r ∧ bQ P (aF mem) (l :: H) (KV.downs (v :: vs)) = some (KV.downs z, ids) := by
  obtain ⟨xs, β, ids, h, hl⟩ := w9 hv A J h
  obtain ⟨z, N, h, U⟩ := M h
  exact ⟨_, _, h, by simp [KV.downs, bQ, hl, U]⟩
 lendOne {T : Ty} {H : List LK} {vs : List KV} {k : List KV → List Nat → Option R} (h1 : T.size = 1) (A : bR P T H = true) (J : T.depth ≤ 6) (h : oM.lendCellsK (bI R) mem (dZ T) vs k = some r) :
   ∃ z ids, k z ids = some r ∧ bQ P (aF mem) H (KV.downs vs) = some (KV.downs z, ids) := by
  have hl := gL A
  rw [h1] at hl
  obtain ⟨l, rfl⟩ := yh2.1 hl
  rw [jW h1] at h
  exact one A J (fun {vs k} h => by
   cases vs with
   | nil => exact ⟨[], [], h, rfl⟩
   | cons v vs => cases h) h
theorem L5 (ht : cF P tab) {t : TypeId} {v : KV} {k : KV → List Nat → Option R} (h : oM (bI R) tab mem t v k = some r) : ∃ w ids, k w ids = some r ∧ lend P (aF mem) t v.down = some (w.down, ids) := by
 have box : (∃ b g, v = .msw b g) ∨ (∃ b g o n, v = .ms b g o n) → (match tab t with
   | some K => bif K.ag then none else (match K.ty with
    | some (.sl ag T) => fC (bI R) mem (.sl ag T) [v] fun xs _ l => k (.tsl true ag T xs) l
    | _ => none)
   | none => none) = some r → ∃ w ids, k w ids = some r ∧ lend P (aF mem) t v.down = some (w.down, ids) := by
  intro W h
  split at h
  ·rename_i K A
   have z := cA.of (ht _ _ A)
   cases U : K.ag with
   | true => rw [U] at h; cases h
   | false =>
   rw [U] at h; simp only [ye] at h
   split at h
   ·rename_i ag T hT
    obtain ⟨⟨Y, H, M⟩, hn, _, N⟩ := z.ty _ hT
    have O := gL M
    obtain ⟨l, rfl⟩ := yh2.1 (O : Y.length = 1)
    obtain ⟨xs, β, ids, h, hl⟩ := w9 W M N h
    have J : leaf? P t = some l := by
     have V := z.ag; rw [U] at V
     obtain ⟨l2, Z, h4⟩ := gB V H
     rw [Z, (yc1 h4).1]
    refine ⟨_, ids, h, ?_⟩
    rcases W with ⟨b, g, rfl⟩ | ⟨b, g, o, n, rfl⟩
    ·simp only [KV.down, lend, J, ya]; exact hl
    ·simp only [KV.down, lend, J, ya]; exact hl
   ·cases h
  ·cases h
 cases v with
 | msw b g => exact box (.inl ⟨_, _, rfl⟩) h
 | ms b g o n => exact box (.inr ⟨_, _, _, _, rfl⟩) h
 | agg cs =>
  simp only [oM] at h
  cases hm : oM.hasMsK cs with
  | true =>
   rw [hm] at h; simp only [yg] at h
   split at h
   ·rename_i K A
    have z := cA.of (ht _ _ A)
    split at h
    ·rename_i T hT
     obtain ⟨⟨Y, H, M⟩, hn, _, N⟩ := z.ty _ hT
     obtain ⟨ws, ids, h, hl⟩ := rU M N h
     refine ⟨_, _, h, ?_⟩
     simp only [KV.down, lend, wC, hm, yg, H, ya, hl, yo]
    ·cases h
   ·cases h
  | false =>
   rw [hm] at h; simp only [ye] at h
   exact ⟨_, _, h, by simp only [KV.down, lend, wC, hm, ye]⟩
 | _ => exact ⟨_, _, h, J9 (by simp) (by simp) (by simp)⟩
theorem Ac (ht : cF P tab) : ∀ {ts : List TypeId} {vs : List KV} {k : List KV → List Nat → Option R}, y5 (bI R) tab mem ts vs k = some r → ∃ z ids, k z ids = some r ∧ fS P (aF mem) ts (KV.downs vs) = some (KV.downs z, ids)
 | [], [], k, h => ⟨[], [], h, rfl⟩
 | t :: ts, v :: vs, k, h => by
  simp only [y5] at h
  obtain ⟨w, l, h, H⟩ := L5 ht h
  obtain ⟨z, ids, h, A⟩ := Ac ht h
  exact ⟨_, _, h, by simp [KV.downs, fS, H, A]⟩
 | [], _ :: _, k, h => by cases h
 | _ :: _, [], k, h => by cases h
theorem Jk (ht : cF P tab) {keep : Bool} {ts : List TypeId} {vs : List KV} {k : List KV → List Nat → Option R} (h : MR (bI R) tab keep mem ts vs k = some r) : ∃ z ids, k z ids = some r ∧ Iz P keep (aF mem) ts (KV.downs vs) = some (KV.downs z, ids) := by
 cases keep with
 | true => exact ⟨vs, [], h, rfl⟩
 | false => exact Ac ht h
def Fx (C : bZ) (tbl : FuncId → List aG) : Prop := ∀ {R : Type} {r : R} {g : FuncId} {args : List KV} {mem : aR} {k : KV → aR → Option R}, PY (bI R) tbl g args mem k = some r →
 ∃ v m, C g (KV.downs args) (aF mem) = some (v.down, aF m) ∧ k v m = some r
theorem Lx (ht : cF P tab) {C : bZ} {J : FuncId → List aG} (hC : Fx C J) {raw keep : Bool} {g : FuncId} {ts : List TypeId} {A args H : List KV} {k : bY → Option R} (h : NG (bI R) tab J raw keep g ts A args H mem k = some r) :
  ∃ out, k out = some r ∧ z7 P C raw keep g ts (KV.downs A) (KV.downs args) (KV.downs H) (aF mem) = some out.down := by
 unfold NG at h
 have W := Jk ht h
 clear h
 obtain ⟨M, lb, h, hl⟩ := W
 simp only at h
 rw [c9] at h
 obtain ⟨N, h⟩ := h
 obtain ⟨v, sub, U, h⟩ := hC h
 rw [c9] at h
 obtain ⟨z, h⟩ := h
 unfold z7
 have K : KV.downs A ++ KV.downs M ++ KV.downs H = KV.downs (A ++ M ++ H) := by simp [dE]
 simp only [hl, ya, K, dO, AA, o4, vY, eW, s2, U]
 simp only [Ec, Kh, jA, lE, pH, F3, Hb, mE, nZ]
 generalize jN mem (dX mem (KV.refsAll (A ++ M ++ H)).length) (KV.refsAll (A ++ M ++ H)) [] = ids at h N z ⊢
 have V : (bif raw then v.down else kT ids.length (aF sub) v.down) = (bif raw then v else r6 ids.length sub v).down := by
  cases raw with
  | true => rfl
  | false => exact HE _ _ _
 rw [V]
 simp only [A2, zJ]
 cases O : fG ids.length (bif raw then v else r6 ids.length sub v).refs && fG ids.length (lT (sub.take ids.length)) with
 | true =>
  rw [O] at h; simp only [yg] at h
  refine ⟨_, h, ?_⟩
  rw [h9]; refine ⟨N, ?_⟩
  rw [h9]; refine ⟨z, ?_⟩
  simp only [yg]; rfl
 | false =>
  rw [O] at h; simp only [ye] at h
  refine ⟨_, h, ?_⟩
  rw [h9]; refine ⟨N, ?_⟩
  rw [h9]; refine ⟨z, ?_⟩
  simp only [ye]; rfl
end
end Go.Ab
