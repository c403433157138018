import Derived.Test.YtmoldheenagboaaLib17
set_option linter.unusedVariables false
set_option linter.unusedSectionVars false
set_option linter.unusedSimpArgs false
namespace Go.Ab
variable [b8]
section
variable {P : Program} {R : Type} {r : R} {mem : aO} {tab : TypeId → Option TI}
mutual
theorem y4 : ∀ v : KV, v.down.refs = v.refs
 | .lit _ => rfl
 | .tsl _ _ _ _ => rfl
 | .el _ _ _ _ _ => rfl
 | .ptr _ _ _ _ => rfl
 | .ms _ _ _ _ => rfl
 | .msw _ _ => rfl
 | .fn f z H => by simp only [KV.down, AV.refs, KV.refs, cV z, cV H]
 | .agg cs => by simp only [KV.down, AV.refs, KV.refs, cV cs]
 | .tup vs => by simp only [KV.down, AV.refs, KV.refs, cV vs]
 | .dead => rfl
 | .gone => rfl
 | .unkB => rfl
theorem cV : ∀ vs : List KV, AV.refsAll (KV.downs vs) = KV.refsAll vs
 | [] => rfl
 | v :: vs => by simp only [KV.downs, AV.refsAll, KV.refsAll, y4 v, cV vs]
end
mutual
theorem u9 (f : j8) : ∀ v : KV, v.down.ren f = (v.ren f).down
 | .lit _ => rfl
 | .tsl _ _ _ _ => rfl
 | .el _ _ _ _ _ => rfl
 | .ptr b g i c => by simp only [KV.down, AV.ren, KV.ren]; cases f b g <;> rfl
 | .ms b g o n => by simp only [KV.down, AV.ren, KV.ren]; cases f b g <;> rfl
 | .msw b g => by simp only [KV.down, AV.ren, KV.ren]; cases f b g <;> rfl
 | .fn h z H => by simp only [KV.down, AV.ren, KV.ren, d8 f z, d8 f H]
 | .agg cs => by simp only [KV.down, AV.ren, KV.ren, d8 f cs]
 | .tup vs => by simp only [KV.down, AV.ren, KV.ren, d8 f vs]
 | .dead => rfl
 | .gone => rfl
 | .unkB => rfl
theorem d8 (f : j8) : ∀ vs : List KV, AV.renAll f (KV.downs vs) = KV.downs (KV.renAll f vs)
 | [] => rfl
 | v :: vs => by simp only [KV.downs, AV.renAll, KV.renAll, u9 f v, d8 f vs]
end
mutual
theorem C6 : ∀ v : KV, v.down.lent = v.lent
 | .lit _ => rfl
 | .tsl _ _ _ _ => rfl
 | .el _ _ _ _ _ => rfl
 | .ptr _ _ _ _ => rfl
 | .ms _ _ _ _ => rfl
 | .msw _ _ => rfl
 | .fn f z H => by simp only [KV.down, AV.lent, KV.lent, fU z, fU H]
 | .agg cs => by simp only [KV.down, AV.lent, KV.lent, fU cs]
 | .tup vs => by simp only [KV.down, AV.lent, KV.lent, fU vs]
 | .dead => rfl
 | .gone => rfl
 | .unkB => rfl
theorem fU : ∀ vs : List KV, AV.lentAny (KV.downs vs) = KV.lentAny vs
 | [] => rfl
 | v :: vs => by simp only [KV.downs, AV.lentAny, KV.lentAny, C6 v, fU vs]
end
theorem F6 (x : KRow) : x.down.refs = x.refs := by
 cases x with
 | cells e cs => exact cV cs
 | ts β ag T xs =>
  cases z : bP ag T with
  | true => obtain ⟨rfl, kk, rfl⟩ := aT.1 z; rfl
  | false => rw [KRow.down_sl z]; rfl
theorem AM (f : j8) (x : KRow) : x.down.ren f = (x.ren f).down := by
 cases x with
 | cells e cs => simp only [KRow.down, Row.ren, KRow.ren, d8]
 | ts β ag T xs =>
  cases z : bP ag T with
  | true => obtain ⟨rfl, kk, rfl⟩ := aT.1 z; rfl
  | false => simp only [KRow.ren]; rw [KRow.down_sl z]; rfl
theorem F9 (mem : aO) (b : Nat) : zC (aB mem) b = Fs mem b := by
 unfold zC Fs
 rw [bO, fT]
 cases mem[b]? with
 | none => rfl
 | some x => cases x with
  | none => rfl
  | some x => exact F6 x.row
theorem nH (mem : aO) : ∀ (n : Nat) (z H : List Nat), eT (aB mem) n z H = iZ mem n z H
 | 0, _, _ => rfl
 | n + 1, [], _ => rfl
 | n + 1, b :: z, H => by
  simp only [eT, iZ, F9, nH mem n]
theorem s6 (mem : aO) (b : Nat) : lM (aB mem) b = pR mem b := by
 unfold lM pR
 rw [bO, fT]
 cases mem[b]? with
 | none => rfl
 | some x => cases x <;> rfl
theorem sD (mem : aO) (ids : List Nat) : fB (aB mem) ids = kI mem ids := by
 funext b g
 unfold fB kI
 rw [s6]
 cases pR mem b with
 | none => rfl
 | some h =>
  simp only
  cases pY b ids 0 <;> rfl
theorem qN (f : j8) (mem : aO) : ∀ ids : List Nat, dY f (aB mem) ids = aB (mN f mem ids)
 | [] => rfl
 | b :: ids => by
  have z := qN f mem ids
  simp only [dY, mN, z]
  rw [bO, fT]
  cases mem[b]? with
  | none => rfl
  | some x => cases x with
   | none => rfl
   | some x => simp only [yn]; rw [show x.down.row = x.row.down from rfl, AM]; rfl
theorem y0 (mem : aO) (n : Nat) : cL (aB mem) n = c6 mem n := by simp only [cL, c6, g8]
theorem iQ : ∀ mem : aO, iM (aB mem) = gO mem
 | [] => rfl
 | none :: m => by
  have := iQ m
  simp only [aB, iM, yc2, gO] at this ⊢
  rw [this]; rfl
 | some x :: m => by
  have := iQ m
  simp only [aB, iM, yc2, gO] at this ⊢
  rw [this]; simp [eI.down, d7]
theorem nN : ∀ (old : List (Option Bool)) (mem : aO), lU old (aB mem) = Ci old mem
 | [], _ => by simp [lU, Ci]
 | some k :: old, some x :: m => by
  have := nN old m
  show ((bif k then x.row.down.isCells && Nat.beq x.gen 0 else !x.row.down.isCells) && lU old (aB m)) = _
  rw [this, d7]; rfl
 | none :: old, none :: m => nN old m
 | some k :: old, none :: m => rfl
 | none :: old, some x :: m => rfl
 | some k :: old, [] => rfl
 | none :: old, [] => rfl
theorem CA {old : List (Option Bool)} {vs : List KV} {k : List KV → aO → Option R} (h : yK old vs mem k = some r) : ∃ z mem', k z mem' = some r ∧ oU old (KV.downs vs) (aB mem) = some (KV.downs z, aB mem') := by
 unfold yK at h
 simp only at h
 rw [cK] at h
 refine ⟨_, _, h.2, ?_⟩
 unfold oU
 simp only [cV, y0, nH, nN, sD, d8, qN]
 rw [f8]
 exact ⟨h.1, rfl⟩
theorem Ce (m : Nat) (mem : aO) (v : KV) : v.down.frz m (aB mem) = (v.frz m mem).down := by
 cases v with
 | msw b g =>
  simp only [KV.down, AV.frz, KV.frz]
  cases Nat.ble m b with
  | false => rfl
  | true =>
   simp only [yg]
   unfold box?
   rw [bO, fT]
   cases mem[b]? with
   | none => rfl
   | some x => cases x with
    | none => rfl
    | some x =>
     simp only [yn]
     cases H : Nat.beq x.gen g with
     | false => rw [show x.down.gen = x.gen from rfl, H]; rfl
     | true =>
      rw [show x.down.gen = x.gen from rfl, H]
      simp only [yg, show x.down.row = x.row.down from rfl]
      cases x.row with
      | cells e cs => rfl
      | ts β ag T xs =>
       simp only
       cases z : bP ag T with
       | true => obtain ⟨rfl, kk, rfl⟩ := aT.1 z; rfl
       | false => rw [KRow.down_sl z, vW z, pQ z]
 | tsl β ag T xs => rfl
 | _ => rfl
theorem qC (m : Nat) (mem : aO) : ∀ vs : List KV, AV.frzAll m (aB mem) (KV.downs vs) = KV.downs (KV.frzAll m mem vs)
 | [] => rfl
 | v :: vs => by simp only [KV.downs, AV.frzAll, KV.frzAll, Ce, qC m mem vs]
theorem Ge (m : Nat) (mem : aO) (v : KV) : jR m (aB mem) v.down = (qO m mem v).down := by
 cases v with
 | tup vs => simp only [KV.down, jR, qO, qC]
 | agg vs => simp only [KV.down, jR, qO, qC]
 | msw b g => exact Ce m mem (.msw b g)
 | _ => rfl
theorem nO : ∀ mem : aO, fL (aB mem) = o8 mem
 | [] => rfl
 | none :: m => nO m
 | some x :: m => by
  have H := nO m
  show ((match x.row.down with | .cells _ cs => AV.lentAny cs | .pvs β _ _ => β | .ints _ _ => false) || fL (aB m)) = _
  rw [H]
  simp only [o8]
  congr 1
  cases x.row with
  | cells e cs => exact fU cs
  | ts β ag T xs =>
   cases z : bP ag T with
   | true => obtain ⟨rfl, kk, rfl⟩ := aT.1 z; rfl
   | false => rw [KRow.down_sl z]; simp only [vW z]
theorem j9 : ∀ mem : aO, j7 (aB mem) = kT mem
 | [] => rfl
 | none :: m => j9 m
 | some x :: m => by
  have z := j9 m
  show x.row.down.refs ++ j7 (aB m) = _
  rw [z, F6]; rfl
theorem Ew (mem sub : aO) (ids : List Nat) : cA (aB mem) (aB sub) ids = kR mem sub ids := by
 funext b g
 unfold cA kR
 rw [bO]
 cases Nat.beq g 0 with
 | false => rfl
 | true =>
  simp only [yg]
  cases ids[b]? with
  | none => simp only [g8]
  | some a =>
   simp only
   rw [s6, bO, fT]
   cases sub[b]? with
   | none => rfl
   | some x => cases x with
    | none => rfl
    | some x =>
     simp only [yn]
     cases pR mem a with
     | none => rfl
     | some h => simp only; rw [show x.down.row = x.row.down from rfl, d7]
theorem lC (f : j8) (mem : aO) : ∀ (ids : List Nat) (sub : aO), a9 f (aB mem) ids (aB sub) = (gJ f mem ids sub).map fun q => (q.1, q.2.down)
 | a :: ids, some x :: sub => by
  have z := lC f mem ids sub
  show (a, _) :: a9 f (aB mem) ids (aB sub) = _
  rw [z]
  simp only [gJ, yc2]
  congr 2
  simp only [eI.down, d7, AM, s6]
  cases pR mem a <;> rfl
 | a :: ids, none :: sub => lC f mem ids sub
 | [], [] => rfl
 | [], _ :: _ => by simp [a9, gJ, aB]
 | a :: ids, [] => rfl
theorem mG (f : j8) : ∀ sub : aO, dK f (aB sub) = aB (qU f sub)
 | [] => rfl
 | none :: m => by
  have z := mG f m
  show none :: dK f (aB m) = _
  rw [z]; rfl
 | some x :: m => by
  have z := mG f m
  show some _ :: dK f (aB m) = _
  rw [z]
  show some ({ gen := 0, frz := x.frz, row := x.row.down.ren f } : c7) :: _ = _
  rw [AM]; rfl
theorem CO (mem : aO) (n : Nat) : (aB mem).take n = aB (mem.take n) := by simp [aB, yi3]
theorem Io (mem : aO) (n : Nat) : (aB mem).drop n = aB (mem.drop n) := by simp [aB, yj3]
theorem sR : ∀ cs : List KV, Ea (KV.downs cs) = mS.hasMsK cs
 | [] => rfl
 | v :: cs => by
  have ih := sR cs
  cases v <;> simp_all [KV.downs, KV.down, Ea, mS.hasMsK, AV.dead, AV.goneV, AV.unkB]
theorem vH {ag : Bool} {T : Ty} {l : LK} {v : KV} {k : List (den T) → Bool → List Nat → Option R} (U : (∃ b g, v = .msw b g) ∨ ∃ b g o n, v = .ms b g o n) (N : bN P (.sl ag T) [l] = true) (O : (Ty.sl ag T).depth ≤ 6)
  (h : eB (aL R) mem (.sl ag T) [v] k = some r) : ∃ xs β ids, k xs β ids = some r ∧ fD P (aB mem) l v.down = some ((KV.tsl true ag T xs).down, ids) := by
 obtain ⟨x, β, ids, h, H⟩ := iS N O h
 refine ⟨x, β, ids, h, ?_⟩
 simp only [KV.downs, cG, Jc] at H
 obtain ⟨a, J, b, W, H⟩ := H
 obtain rfl := ya W
 simp only [Option.some.injEq, Prod.mk.injEq, Bool.or_false, yp1] at H
 obtain ⟨h1, V, K⟩ := H
 have z : a.2.1 = gF ag T x := (yx V).1
 rcases U with ⟨b, g, rfl⟩ | ⟨b, g, o, n, rfl⟩
 ·simp only [KV.down, fD] at J ⊢
  rw [show gU = 6 from rfl, J, yn, z, K]
 ·simp only [KV.down, fD] at J ⊢
  rw [show gU = 6 from rfl, J, yn, z, K]
theorem Hy {t : TypeId} {v : KV} (z : ∀ b g, v ≠ .msw b g) (H : ∀ b g o n, v ≠ .ms b g o n) (J : ∀ cs, v ≠ .agg cs) : lend P (aB mem) t v.down = some (v.down, []) := by
 cases v with
 | ms b g o n => exact absurd rfl (H b g o n)
 | msw b g => exact absurd rfl (z b g)
 | agg cs => exact absurd rfl (J cs)
 | _ => rfl
theorem Bu {l : LK} {v : KV} (z : ∀ b g, v ≠ .msw b g) (H : ∀ b g o n, v ≠ .ms b g o n) : fD P (aB mem) l v.down = some (v.down, []) := by
 cases v with
 | ms b g o n => exact absurd rfl (H b g o n)
 | msw b g => exact absurd rfl (z b g)
 | _ => rfl
theorem pH : ∀ {T : Ty} {J : List LK} {vs : List KV} {k : List KV → List Nat → Option R}, bN P T J = true → T.depth ≤ 6 → mS.lendCellsK (aL R) mem (c9 T) vs k = some r →
  ∃ z ids, k z ids = some r ∧ bL P (aB mem) J (KV.downs vs) = some (KV.downs z, ids)
 | .cons a b, J, vs, k, H, K, h => by
  simp only [bN] at H
  split at H
  ·rename_i l J
   simp only [yc] at H
   obtain ⟨⟨N, Z⟩, Y⟩ := H
   have hda : a.depth ≤ 6 := yt1 (Nat.le_max_left _ _) (show max a.depth b.depth ≤ 6 from K)
   have hdb : b.depth ≤ 6 := yt1 (Nat.le_max_right _ _) (show max a.depth b.depth ≤ 6 from K)
   simp only [c9, jC (nb.1 N), List.singleton_append] at h
   exact one Z hda (fun h => pH Y hdb h) h
  ·cases H
 | .int kk, J, vs, k, H, K, h => lendOne rfl H K h
 | .bool, J, vs, k, H, K, h => lendOne rfl H K h
 | .str, J, vs, k, H, K, h => lendOne rfl H K h
 | .sl ag T, J, vs, k, H, K, h => lendOne rfl H K h
 where
 one {T : Ty} {l : LK} {O : List Ty} {J : List LK} {vs : List KV} {k : List KV → List Nat → Option R} (H : bN P T [l] = true) (K : T.depth ≤ 6)
   (V : ∀ {vs : List KV} {k : List KV → List Nat → Option R}, mS.lendCellsK (aL R) mem O vs k = some r → ∃ z ids, k z ids = some r ∧ bL P (aB mem) J (KV.downs vs) = some (KV.downs z, ids))
   (h : mS.lendCellsK (aL R) mem (T :: O) vs k = some r) : ∃ z ids, k z ids = some r ∧ bL P (aB mem) (l :: J) (KV.downs vs) = some (KV.downs z, ids) := by
  cases vs with
  | nil => cases h
  | cons v vs =>
   have plain : (∀ b g, v ≠ .msw b g) → (∀ b g o n, v ≠ .ms b g o n) → (mS.lendCellsK (aL R) mem O vs fun z l' => k (v :: z) l') = some r → ∃ z ids, k z ids = some r ∧ bL P (aB mem) (l :: J) (KV.downs (v :: vs)) = some (KV.downs z, ids) := by
    intro N h2 h
    obtain ⟨z, U, h, hr⟩ := V h
    exact ⟨_, _, h, by simp [KV.downs, bL, Bu N h2, hr]⟩
   cases v with
   | msw b g =>
    cases T with
    | sl ag T => exact boxed (.inl ⟨_, _, rfl⟩) H K V h
    | _ => cases h
   | ms b g o n =>
    cases T with
    | sl ag T => exact boxed (.inr ⟨_, _, _, _, rfl⟩) H K V h
    | _ => cases h
   | _ => exact plain (by simp) (by simp) h
 boxed {ag : Bool} {T : Ty} {l : LK} {O : List Ty} {J : List LK} {v : KV} {vs : List KV} {k : List KV → List Nat → Option R} (hv : (∃ b g, v = .msw b g) ∨ (∃ b g o n, v = .ms b g o n)) (H : bN P (.sl ag T) [l] = true) (K : (Ty.sl ag T).depth ≤ 6)
   (V : ∀ {vs : List KV} {k : List KV → List Nat → Option R}, mS.lendCellsK (aL R) mem O vs k = some r → ∃ z ids, k z ids = some r ∧ bL P (aB mem) J (KV.downs vs) = some (KV.downs z, ids))
   (h : (eB (aL R) mem (.sl ag T) [v] fun xs _ l => mS.lendCellsK (aL R) mem O vs fun z l' => k (.tsl true ag T xs :: z) (l ++ l')) = some r) :
   ∃ z ids, k z ids = some r ∧ bL P (aB mem) (l :: J) (KV.downs (v :: vs)) = some (KV.downs z, ids) := by
  obtain ⟨xs, β, ids, h, W⟩ := vH hv H K h
  obtain ⟨z, U, h, hr⟩ := V h
  exact ⟨_, _, h, by simp [KV.downs, bL, W, hr]⟩
 lendOne {T : Ty} {J : List LK} {vs : List KV} {k : List KV → List Nat → Option R} (N : T.size = 1) (H : bN P T J = true) (K : T.depth ≤ 6) (h : mS.lendCellsK (aL R) mem (c9 T) vs k = some r) :
   ∃ z ids, k z ids = some r ∧ bL P (aB mem) J (KV.downs vs) = some (KV.downs z, ids) := by
  have W := fK H
  rw [N] at W
  obtain ⟨l, rfl⟩ := yb2.1 W
  rw [jC N] at h
  exact one H K (fun {vs k} h => by
   cases vs with
   | nil => exact ⟨[], [], h, rfl⟩
   | cons v vs => cases h) h
theorem Jo (ht : b9 P tab) {t : TypeId} {v : KV} {k : KV → List Nat → Option R} (h : mS (aL R) tab mem t v k = some r) : ∃ w ids, k w ids = some r ∧ lend P (aB mem) t v.down = some (w.down, ids) := by
 have box : (∃ b g, v = .msw b g) ∨ (∃ b g o n, v = .ms b g o n) → (match tab t with
   | some N => bif N.ag then none else (match N.ty with
    | some (.sl ag T) => eB (aL R) mem (.sl ag T) [v] fun xs _ l => k (.tsl true ag T xs) l
    | _ => none)
   | none => none) = some r → ∃ w ids, k w ids = some r ∧ lend P (aB mem) t v.down = some (w.down, ids) := by
  intro hv h
  split at h
  ·rename_i N J
   have z := bX.of (ht _ _ J)
   cases Z : N.ag with
   | true => rw [Z] at h; cases h
   | false =>
   rw [Z] at h; simp only [yh] at h
   split at h
   ·rename_i ag T Y
    obtain ⟨⟨ls, H, U⟩, hn, _, W⟩ := z.ty _ Y
    have hl1 := fK U
    obtain ⟨l, rfl⟩ := yb2.1 (hl1 : ls.length = 1)
    obtain ⟨xs, β, ids, h, O⟩ := vH hv U W h
    have K : leaf? P t = some l := by
     have ha := z.ag; rw [Z] at ha
     obtain ⟨l2, h3, h4⟩ := eY ha H
     rw [h3, (yx h4).1]
    refine ⟨_, ids, h, ?_⟩
    rcases hv with ⟨b, g, rfl⟩ | ⟨b, g, o, n, rfl⟩
    ·simp only [KV.down, lend, K, yb]; exact O
    ·simp only [KV.down, lend, K, yb]; exact O
   ·cases h
  ·cases h
 cases v with
 | msw b g => exact box (.inl ⟨_, _, rfl⟩) h
 | ms b g o n => exact box (.inr ⟨_, _, _, _, rfl⟩) h
 | agg cs =>
  simp only [mS] at h
  cases V : mS.hasMsK cs with
  | true =>
   rw [V] at h; simp only [yg] at h
   split at h
   ·rename_i N J
    have z := bX.of (ht _ _ J)
    split at h
    ·rename_i T Y
     obtain ⟨⟨ls, H, U⟩, hn, _, W⟩ := z.ty _ Y
     obtain ⟨ws, ids, h, O⟩ := pH U W h
     refine ⟨_, _, h, ?_⟩
     simp only [KV.down, lend, sR, V, yg, H, yb, O, yn]
    ·cases h
   ·cases h
  | false =>
   rw [V] at h; simp only [yh] at h
   exact ⟨_, _, h, by simp only [KV.down, lend, sR, V, yh]⟩
 | _ => exact ⟨_, _, h, Hy (by simp) (by simp) (by simp)⟩
theorem v8 (J : b9 P tab) : ∀ {ts : List TypeId} {vs : List KV} {k : List KV → List Nat → Option R}, wC (aL R) tab mem ts vs k = some r → ∃ H ids, k H ids = some r ∧ eP P (aB mem) ts (KV.downs vs) = some (KV.downs H, ids)
 | [], [], k, h => ⟨[], [], h, rfl⟩
 | t :: ts, v :: vs, k, h => by
  simp only [wC] at h
  obtain ⟨w, l, h, K⟩ := Jo J h
  obtain ⟨H, ids, h, z⟩ := v8 J h
  exact ⟨_, _, h, by simp [KV.downs, eP, K, z]⟩
 | [], _ :: _, k, h => by cases h
 | _ :: _, [], k, h => by cases h
theorem Il (H : b9 P tab) {keep : Bool} {ts : List TypeId} {vs : List KV} {k : List KV → List Nat → Option R} (h : K9 (aL R) tab keep mem ts vs k = some r) : ∃ z ids, k z ids = some r ∧ G8 P keep (aB mem) ts (KV.downs vs) = some (KV.downs z, ids) := by
 cases keep with
 | true => exact ⟨vs, [], h, rfl⟩
 | false => exact v8 H h
def Dh (C : bZ) (tbl : FuncId → List aD) : Prop := ∀ {R : Type} {r : R} {g : FuncId} {args : List KV} {mem : aO} {k : KV → aO → Option R}, MA (aL R) tbl g args mem k = some r →
 ∃ v m, C g (KV.downs args) (aB mem) = some (v.down, aB m) ∧ k v m = some r
theorem Ji (Z : b9 P tab) {C : bZ} {tbl : FuncId → List aD} (hC : Dh C tbl) {raw keep : Bool} {g : FuncId} {ts : List TypeId} {J args H : List KV} {k : bW → Option R} (h : Kq (aL R) tab tbl raw keep g ts J args H mem k = some r) :
  ∃ out, k out = some r ∧ wM P C raw keep g ts (KV.downs J) (KV.downs args) (KV.downs H) (aB mem) = some out.down := by
 unfold Kq at h
 have h0 := Il Z h
 clear h
 obtain ⟨N, lb, h, V⟩ := h0
 simp only at h
 rw [cK] at h
 obtain ⟨O, h⟩ := h
 obtain ⟨v, sub, Y, h⟩ := hC h
 rw [cK] at h
 obtain ⟨z, h⟩ := h
 unfold wM
 have K : KV.downs J ++ KV.downs N ++ KV.downs H = KV.downs (J ++ N ++ H) := by simp [cO]
 simp only [V, yb, K, cV, y0, nH, sD, d8, qN, Y]
 simp only [CO, Io, g8, j9, nO, C6, Ew, lC, mG]
 generalize iZ mem (c6 mem (KV.refsAll (J ++ N ++ H)).length) (KV.refsAll (J ++ N ++ H)) [] = ids at h O z ⊢
 have W : (bif raw then v.down else jR ids.length (aB sub) v.down) = (bif raw then v else qO ids.length sub v).down := by
  cases raw with
  | true => rfl
  | false => exact Ge _ _ _
 rw [W]
 simp only [y4, u9]
 cases U : eE ids.length (bif raw then v else qO ids.length sub v).refs && eE ids.length (kT (sub.take ids.length)) with
 | true =>
  rw [U] at h; simp only [yg] at h
  refine ⟨_, h, ?_⟩
  rw [f8]; refine ⟨O, ?_⟩
  rw [f8]; refine ⟨z, ?_⟩
  simp only [yg]; rfl
 | false =>
  rw [U] at h; simp only [yh] at h
  refine ⟨_, h, ?_⟩
  rw [f8]; refine ⟨O, ?_⟩
  rw [f8]; refine ⟨z, ?_⟩
  simp only [yh]; rfl
end
end Go.Ab
