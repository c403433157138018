import Derived.Test.YtdlbbdbbpoggfaaLib18
set_option linter.unusedVariables false
set_option linter.unusedSectionVars false
set_option linter.unusedSimpArgs false
namespace Go.Ab
variable [GTab]
section
variable {P : Program} {R : Type} {r : R} {mem : KMem} {tab : TypeId → Option TI}
mutual
theorem zeh : ∀ v : KV, v.down.refs = v.refs
 | .lit _ => rfl
 | .tsl _ _ _ _ => rfl
 | .el _ _ _ _ _ => rfl
 | .ptr _ _ _ _ => rfl
 | .ms _ _ _ _ => rfl
 | .msw _ _ => rfl
 | .fn f fi ca => by simp only [KV.down, AV.refs, KV.refs, zn fi, zn ca]
 | .agg cs => by simp only [KV.down, AV.refs, KV.refs, zn cs]
 | .tup vs => by simp only [KV.down, AV.refs, KV.refs, zn vs]
 | .dead => rfl
 | .gone => rfl
 | .unkB => rfl
theorem zn : ∀ vs : List KV, AV.refsAll (KV.downs vs) = KV.refsAll vs
 | [] => rfl
 | v :: vs => by simp only [KV.downs, AV.refsAll, KV.refsAll, zeh v, zn vs]
end
mutual
theorem zdR (f : Ren) : ∀ v : KV, v.down.ren f = (v.ren f).down
 | .lit _ => rfl
 | .tsl _ _ _ _ => rfl
 | .el _ _ _ _ _ => rfl
 | .ptr b g i c => by simp only [KV.down, AV.ren, KV.ren]; cases f b g <;> rfl
 | .ms b g o n => by simp only [KV.down, AV.ren, KV.ren]; cases f b g <;> rfl
 | .msw b g => by simp only [KV.down, AV.ren, KV.ren]; cases f b g <;> rfl
 | .fn h fi ca => by simp only [KV.down, AV.ren, KV.ren, zag f fi, zag f ca]
 | .agg cs => by simp only [KV.down, AV.ren, KV.ren, zag f cs]
 | .tup vs => by simp only [KV.down, AV.ren, KV.ren, zag f vs]
 | .dead => rfl
 | .gone => rfl
 | .unkB => rfl
theorem zag (f : Ren) : ∀ vs : List KV, AV.renAll f (KV.downs vs) = KV.downs (KV.renAll f vs)
 | [] => rfl
 | v :: vs => by simp only [KV.downs, AV.renAll, KV.renAll, zdR f v, zag f vs]
end
mutual
theorem zgn : ∀ v : KV, v.down.lent = v.lent
 | .lit _ => rfl
 | .tsl _ _ _ _ => rfl
 | .el _ _ _ _ _ => rfl
 | .ptr _ _ _ _ => rfl
 | .ms _ _ _ _ => rfl
 | .msw _ _ => rfl
 | .fn f fi ca => by simp only [KV.down, AV.lent, KV.lent, zaw fi, zaw ca]
 | .agg cs => by simp only [KV.down, AV.lent, KV.lent, zaw cs]
 | .tup vs => by simp only [KV.down, AV.lent, KV.lent, zaw vs]
 | .dead => rfl
 | .gone => rfl
 | .unkB => rfl
theorem zaw : ∀ vs : List KV, AV.lentAny (KV.downs vs) = KV.lentAny vs
 | [] => rfl
 | v :: vs => by simp only [KV.downs, AV.lentAny, KV.lentAny, zgn v, zaw vs]
end
theorem zey : ∀ hs : Holes, holeRefs (holesD hs) = holeRefsK hs
 | [] => rfl
 | (i, c, v) :: hs => by simp only [holesD, holeRefs, holeRefsK, zeh, zey hs]
theorem zfg (f : Ren) : ∀ hs : Holes, holeRen f (holesD hs) = holesD (holeRenK f hs)
 | [] => rfl
 | (i, c, v) :: hs => by simp only [holesD, holeRen, holeRenK, zdR, zfg f hs]
theorem zeu : ∀ hs : Holes, holeLent (holesD hs) = holeLentK hs
 | [] => rfl
 | (i, c, v) :: hs => by simp only [holesD, holeLent, holeLentK, zgn, zeu hs]
theorem zlt (x : KRow) : x.down.refs = x.refs := by
 cases x with
 | os T xs hs => exact zey hs
 | cells e cs => exact zn cs
 | ts β ag T xs =>
  cases hi : isIntsK ag T with
  | true => obtain ⟨rfl, kk, rfl⟩ := zc.1 hi; rfl
  | false => rw [KRow.down_sl hi]; rfl
theorem zhu (f : Ren) (x : KRow) : x.down.ren f = (x.ren f).down := by
 cases x with
 | os T xs hs => simp only [KRow.down, Row.ren, KRow.ren, zfg]
 | cells e cs => simp only [KRow.down, Row.ren, KRow.ren, zag]
 | ts β ag T xs =>
  cases hi : isIntsK ag T with
  | true => obtain ⟨rfl, kk, rfl⟩ := zc.1 hi; rfl
  | false => simp only [KRow.ren]; rw [KRow.down_sl hi]; rfl
theorem zly (mem : KMem) (b : Nat) : refsAt (kdown mem) b = refsAtK mem b := by
 unfold refsAt refsAtK
 rw [zf, zX]
 cases mem[b]? with
 | none => rfl
 | some x => cases x with
  | none => rfl
  | some x => exact zlt x.row
theorem zdo (mem : KMem) : ∀ (n : Nat) (todo seen : List Nat), reach (kdown mem) n todo seen = reachK mem n todo seen
 | 0, _, _ => rfl
 | n + 1, [], _ => rfl
 | n + 1, b :: todo, seen => by
  simp only [reach, reachK, zly, zdo mem n]
theorem zeZ (mem : KMem) (b : Nat) : genOf (kdown mem) b = genOfK mem b := by
 unfold genOf genOfK
 rw [zf, zX]
 cases mem[b]? with
 | none => rfl
 | some x => cases x <;> rfl
theorem zks (mem : KMem) (b : Nat) : cellsAt (kdown mem) b = cellsAtK mem b := by
 unfold cellsAt cellsAtK
 rw [zf, zX]
 cases mem[b]? with
 | none => rfl
 | some x => cases x with
  | none => rfl
  | some x => exact zaf x.row
theorem zeP (m : Nat) (keep : Bool) (mem : KMem) (ids : List Nat) : renTo m keep (kdown mem) ids = renToK m keep mem ids := by
 funext b g
 unfold renTo renToK
 rw [zeZ]
 cases genOfK mem b with
 | none => rfl
 | some h =>
  simp only [zks]
  cases idx b ids 0 <;> rfl
theorem zem (m : Nat) (keep : Bool) (f : Ren) (mem : KMem) : ∀ (j : Nat) (ids : List Nat), pickMem m keep f (kdown mem) j ids = kdown (pickMemK m keep f mem j ids)
 | _, [] => rfl
 | j, b :: ids => by
  have ih := zem m keep f mem (j + 1) ids
  simp only [pickMem, pickMemK, ih]
  rw [zf, zX]
  cases mem[b]? with
  | none => rfl
  | some x => cases x with
   | none => rfl
   | some x => simp only [yk]; rw [show x.down.row = x.row.down from rfl, zhu, zaf]; rfl
theorem zgc (mem : KMem) (n : Nat) : reachFuel (kdown mem) n = reachFuelK mem n := by simp only [reachFuel, reachFuelK, zQ]
theorem zcJ : ∀ mem : KMem, kinds (kdown mem) = kindsK mem
 | [] => rfl
 | none :: m => by
  have := zcJ m
  simp only [kdown, kinds, yu1, kindsK] at this ⊢
  rw [this]; rfl
 | some x :: m => by
  have := zcJ m
  simp only [kdown, kinds, yu1, kindsK] at this ⊢
  rw [this]; simp [KBox.down, zaf]
theorem zcH : ∀ (old : List (Option Bool)) (mem : KMem), oldOk old (kdown mem) = oldOkK old mem
 | [], _ => by simp [oldOk, oldOkK]
 | some k :: old, some x :: m => by
  have := zcH old m
  show ((bif k then x.row.down.isCells && Nat.beq x.gen 0 else !x.row.down.isCells) && oldOk old (kdown m)) = _
  rw [this, zaf]; rfl
 | none :: old, none :: m => zcH old m
 | some k :: old, none :: m => rfl
 | none :: old, some x :: m => rfl
 | some k :: old, [] => rfl
 | none :: old, [] => rfl
theorem dropAtD : ∀ (hs : Holes) (j : Nat), dropAt (holesD hs) j = holesD (dropAt hs j)
 | [], _ => rfl
 | h :: r, 0 => rfl
 | h :: r, j + 1 => by simp only [holesD, dropAt, dropAtD r j]
theorem findCD (c : Nat) : ∀ hs : Holes, findC c (holesD hs) = (findCK c hs).map fun q => (q.1, q.2.down)
 | [] => rfl
 | (i, c', v) :: r => by
  simp only [holesD, findC, findCK]
  cases Nat.beq c c' with
  | true => rfl
  | false => simpa using findCD c r
theorem zeg {α : Type} (x : Option α) : noneB x = x.isNone := by cases x <;> rfl
theorem zdh {α β : Type} (x : Option α) (f : α → β) : (x.map f).isNone = x.isNone := by cases x <;> rfl
theorem getD (hs : Holes) (j : Nat) : (holesD hs)[j]? = (hs[j]?).map fun h => (h.1, h.2.1, h.2.2.down) := by
 induction hs generalizing j with
 | nil => rfl
 | cons h r ih =>
  cases j with
  | zero => rfl
  | succ j => simpa [holesD] using ih j
theorem zkB {mem : KMem} {b : Nat} : (kdown mem)[b]? = (getR mem b).map fun x => x.map KBox.down := by rw [zX, zf]
theorem zkI (m : Nat) (refs : List Nat) (mem : KMem) (v : KV) : givable m refs (kdown mem) v.down = givableK m refs mem v := by
 have main : ∀ (b g : Nat) (w : AV), (w = .msw b g ∨ ∃ o n, w = .ms b g o n) →
   givable m refs (kdown mem) w = (Nat.ble m b && Nat.beq (countN b refs) 1 && (match getR mem b with
  | some (some x) => Nat.beq x.gen g && !x.frz && (match x.row with | .ts β ag T _ => !(rowB β ag T) | _ => false)
  | _ => false)) := by
  intro b g w hw
  have hb := zkB (mem := mem) (b := b)
  rcases hw with rfl | ⟨o, n, rfl⟩
  ·simp only [givable, holeBox, hb]
   cases getR mem b with
   | none => rfl
   | some y => cases y with
    | none => rfl
    | some x =>
     simp only [yk, KBox.down]
     cases x.row with
     | cells e cs => rfl
     | os T xs hs => rfl
     | ts β ag T xs =>
      cases hi : isIntsK ag T with
      | true => obtain ⟨rfl, kk, rfl⟩ := zc.1 hi; rfl
      | false => rw [KRow.down_sl hi]; simp only [zbp hi]
  ·simp only [givable, holeBox, hb]
   cases getR mem b with
   | none => rfl
   | some y => cases y with
    | none => rfl
    | some x =>
     simp only [yk, KBox.down]
     cases x.row with
     | cells e cs => rfl
     | os T xs hs => rfl
     | ts β ag T xs =>
      cases hi : isIntsK ag T with
      | true => obtain ⟨rfl, kk, rfl⟩ := zc.1 hi; rfl
      | false => rw [KRow.down_sl hi]; simp only [zbp hi]
 cases v with
 | msw b g => exact main b g (.msw b g) (.inl rfl)
 | ms b g o n => exact main b g (.ms b g o n) (.inr ⟨o, n, rfl⟩)
 | _ => rfl
theorem zdG (m : Nat) (refs : List Nat) (mem : KMem) (all : Holes) : ∀ (hs : Holes) (j : Nat), firstHole m refs (kdown mem) (holesD all) (holesD hs) j = firstHoleK m refs mem all hs j
 | [], _ => rfl
 | (i, c, v) :: r, j => by
  simp only [holesD, firstHole, firstHoleK, zkI, dropAtD, findCD, zdh, zeg, zdG m refs mem all r]
theorem zcl (m : Nat) (refs : List Nat) (mem : KMem) : ∀ (l : KMem) (b : Nat), findHole m refs (kdown mem) (kdown l) b = findHoleK m refs mem l b
 | [], _ => rfl
 | none :: r, b => zcl m refs mem r (b + 1)
 | some x :: r, b => by
  have ih := zcl m refs mem r (b + 1)
  obtain ⟨gn, fz, row⟩ := x
  cases row with
  | cells e cs => exact ih
  | ts β ag T xs =>
   cases hi : isIntsK ag T with
   | true => obtain ⟨rfl, kk, rfl⟩ := zc.1 hi; exact ih
   | false =>
    show findHole m refs (kdown mem) (some ⟨gn, fz, (KRow.ts β ag T xs).down⟩ :: kdown r) b = _
    rw [KRow.down_sl hi]
    exact ih
  | os T xs hs =>
   show (match firstHole m refs (kdown mem) (holesD hs) (holesD hs) 0 with | some k => some (b, k) | none => findHole m refs (kdown mem) (kdown r) (b + 1)) = _
   rw [zdG, ih]
   rfl
theorem zdL {cs : List KV} {i : Nat} {v : KV} : setRowCells cs i [v] = cs.set i v := by simp [setRowCells, zP]
theorem ziy {T : Ty} {x : den T} : (agOf T = true ∧ pvEl (agOf T) T x = .agg (pvCells T x)) ∨ (agOf T = false ∧ ∃ p, pvCells T x = [p] ∧ pvEl (agOf T) T x = p ∧ notAggP p = true) := by
 cases T with
 | sl ag T => exact .inr ⟨rfl, pvSl ag T x, rfl, rfl, zdJ ag T x⟩
 | int k => exact .inl ⟨rfl, zaO (.inl rfl)⟩
 | bool => exact .inl ⟨rfl, zaO (.inl rfl)⟩
 | str => exact .inl ⟨rfl, zaO (.inl rfl)⟩
 | cons a b => exact .inl ⟨rfl, zaO (.inl rfl)⟩
theorem zhZ {T : Ty} {x z : den T} {c : Nat} {q : PV} (hc : c < (pvCells T x).length) (h : pvCells T z = (pvCells T x).set c q) : putPV (pvEl (agOf T) T x) c q = pvEl (agOf T) T z := by
 rcases ziy (T := T) (x := x) with ⟨ha, h1⟩ | ⟨ha, p, h1, h2, h3⟩
 ·rcases ziy (T := T) (x := z) with ⟨_, h4⟩ | ⟨h4, _⟩
  ·rw [h1, h4, h]; rfl
  ·rw [ha] at h4; cases h4
 ·rcases ziy (T := T) (x := z) with ⟨h4, _⟩ | ⟨_, p', h5, h6, h7⟩
  ·rw [ha] at h4; cases h4
  ·rw [h2, h6]
   rw [h1] at hc h
   have hc0 : c = 0 := by simp at hc; exact hc
   subst hc0
   rw [h5] at h
   have hp : p' = q := by simpa using h
   cases p <;> first | exact hp.symm | cases h3
theorem zmW {T : Ty} {xs : List (den T)} {i : Nat} {z : den T} : (xs.map (pvEl (agOf T) T)).set i (pvEl (agOf T) T z) = (xs.set i z).map (pvEl (agOf T) T) := by rw [List.map_set]
theorem zdc (mem : KMem) (b : Nat) (x : Option KBox) : kdown (setR x mem b) = (kdown mem).set b (x.map KBox.down) := by simp [kdown, zP, List.map_set]
theorem zkC {v : KV} {k : Nat → KRow → Option R} (h : holeRowK (real R) mem v k = some r) : ∃ b row, k b row = some r ∧ ∀ β ag T ys, row = .ts β ag T ys → rowB β ag T = false → holePV (kdown mem) v.down = some (b, pvSl ag T ys) := by
 unfold holeRowK at h
 split at h
 ·rename_i b g
  obtain ⟨x, hx, h⟩ := zw h
  cases hf : x.frz with
  | true => rw [hf] at h; cases h
  | false =>
   rw [hf] at h
   refine ⟨b, x.row, h, ?_⟩
   intro β ag T ys hr hb
   simp only [KV.down, holePV, hx, yc, show x.down.frz = x.frz from rfl, hf, yh, show x.down.row = x.row.down from rfl, hr]
   cases hi : isIntsK ag T with
   | true => obtain ⟨rfl, kk, rfl⟩ := zc.1 hi; rfl
   | false =>
    rw [zbp hi] at hb; subst hb
    rw [KRow.down_sl hi, zo hi]
 ·rename_i b g o n
  simp only [real_guard] at h
  rw [cds] at h
  obtain ⟨ho, h⟩ := h
  obtain rfl := nb.1 ho
  obtain ⟨x, hx, h⟩ := zw h
  cases hf : x.frz with
  | true => rw [hf] at h; cases h
  | false =>
   rw [hf] at h
   simp only [yh] at h
   split at h
   ·rename_i β ag T xs hr
    rw [cds] at h
    refine ⟨b, _, h.2, ?_⟩
    intro β' ag' T' ys he hb
    cases he
    simp only [KV.down, holePV, hx, yc, show x.down.frz = x.frz from rfl, hf, yh, show x.down.row = x.row.down from rfl, hr]
    have h1 := h.1
    clear h
    cases hi : isIntsK ag T with
    | true =>
     obtain ⟨rfl, kk, rfl⟩ := zc.1 hi
     show guardB (Nat.ble n xs.length) (some (b, PV.ints kk (xs.take n))) = some (b, .ints kk (xs.take n))
     rw [gds]; exact ⟨h1, rfl⟩
    | false =>
     rw [zbp hi] at hb; subst hb
     rw [KRow.down_sl hi, zo hi]
     simp only
     rw [gds]
     exact ⟨by rw [yf1]; exact h1, by rw [yz2]⟩
   ·cases h
 ·cases h
theorem zoN {ag : Bool} {T : Ty} (xs ys : List (den T)) : samePV (pvSl ag T xs) (pvSl ag T ys) = true := by
 cases hi : isIntsK ag T with
 | true => obtain ⟨rfl, kk, rfl⟩ := zc.1 hi; exact keq.2 rfl
 | false => rw [zo hi, zo hi]; exact nb.2 rfl
theorem zjc {b j : Nat} {k : KMem → Option R} (h : giveBackK (real R) mem b j k = some r) : ∃ mem', k mem' = some r ∧ giveBack (kdown mem) b j = some (kdown mem') := by
 unfold giveBackK at h
 split at h
 ·rename_i x hx
  split at h
  ·rename_i T xs hs hrow
   split at h
   ·rename_i hl hhl
    obtain ⟨b', row, h, hp⟩ := zkC h
    split at h
    ·rename_i β ag' T' ys
     rw [cds] at h
     obtain ⟨hg, h⟩ := h
     simp only [yb, yt] at hg
     obtain ⟨⟨g1, g2⟩, g3⟩ := hg
     have hp := hp β ag' T' ys rfl g1
     simp only [real_getN] at h
     rw [obs] at h
     obtain ⟨p, hpx, h⟩ := h
     split at h
     ·rename_i β2 ag'' T'' ys2 hcell
      rw [cds] at h
      obtain ⟨hg, h⟩ := h
      simp only [yb] at hg
      obtain rfl := bbq.1 hg.1
      obtain rfl := Ty.beq_iff.1 hg.2
      rw [zf] at hcell
      obtain ⟨y, hy, hcy⟩ := (CellsR.of false T p).2 _ _ hcell
      have hcy' : y = pvSl ag'' T'' ys2 := by
       rcases hcy with ⟨_, _, e, _⟩ | ⟨_, e, _⟩ | ⟨_, e, _⟩ | ⟨_, _, _, e, rfl⟩ <;> cases e
       rfl
      have hlt : hl.2.1 < (pvCells T p).length := (ye.1 hy).1
      rw [zdL] at h
      obtain ⟨z, _, _, h, hz⟩ := zbk ((CellsR.of false T p).set (v := .tsl false ag'' T'' ys) (q := pvSl ag'' T'' ys) (.inr (.inr (.inr ⟨_, _, _, rfl, rfl⟩))) hl.2.1) h
      refine ⟨_, h, ?_⟩
      unfold giveBack
      rw [zbR hx]
      obtain ⟨gn, fz, row⟩ := x
      simp only at hrow
      subst hrow
      rw [zf] at hhl
      simp only [KBox.down, KRow.down, getD, hhl, yk, yc]
      rw [yc1, hpx]
      simp only [yk, yc, zr, hy, hp]
      rw [gds]
      refine ⟨?_, ?_⟩
      ·simp only [yb, yt]
       refine ⟨⟨?_, g2⟩, ?_⟩
       ·rw [hcy']; exact zoN _ _
       ·rw [dropAtD, findCD, zdh, ← zeg]; exact g3
      ·rw [zdc, zdc, zhZ hlt hz, zmW, dropAtD]; rfl
     ·cases h
    ·cases h
   ·cases h
  ·cases h
 ·cases h
theorem zay : ∀ mem : KMem, memRefs (kdown mem) = memRefsK mem
 | [] => rfl
 | none :: m => zay m
 | some x :: m => by
  have ih := zay m
  show x.row.down.refs ++ memRefs (kdown m) = _
  rw [ih, zlt]; rfl
theorem zfk {m : Nat} {vs : List KV} : ∀ {n : Nat} {mem : KMem} {k : KMem → Option R}, settleHK (real R) m vs n mem k = some r → ∃ mem', k mem' = some r ∧ settleH m (KV.downs vs) n (kdown mem) = some (kdown mem')
 | 0, mem, k, h => ⟨mem, h, rfl⟩
 | n + 1, mem, k, h => by
  simp only [settleHK] at h
  simp only [settleH, zn, zay, zcl]
  split at h
  ·rename_i hf
   rw [hf]
   exact ⟨mem, h, rfl⟩
  ·rename_i q hf
   rw [hf]
   obtain ⟨mem1, h, hb⟩ := zjc h
   obtain ⟨mem2, h, hs⟩ := zfk h
   exact ⟨mem2, h, by simp only [hb, yc, hs]⟩
theorem znl (mem : KMem) (b : Nat) : isBox (kdown mem) b = isBoxK mem b := by
 unfold isBox isBoxK
 rw [zkB]
 cases getR mem b with
 | none => rfl
 | some y => cases y <;> rfl
theorem zhB (m : Nat) (vs : List KV) : ∀ (n : Nat) (mem : KMem), sweepH m (KV.downs vs) n (kdown mem) = kdown (sweepHK m vs n mem)
 | 0, _ => rfl
 | b + 1, mem => by
  simp only [sweepH, sweepHK, znl, zn, zay]
  rw [← zhB m vs b]
  congr 1
  cases (Nat.ble m b && isBoxK mem b && Nat.beq (countN b (KV.refsAll vs ++ memRefsK mem)) 0) with
  | false => rfl
  | true => simp only [yg, zdc]; rfl
theorem zff {m : Nat} {vs : List KV} {mem : KMem} {k : KMem → Option R} (h : tidyHK (real R) m vs mem k = some r) : ∃ mem', k mem' = some r ∧ tidyH m (KV.downs vs) (kdown mem) = some (kdown mem') := by
 obtain ⟨mem', h1, h2⟩ := zfk h
 refine ⟨mem', h1, ?_⟩
 unfold tidyH
 rw [zQ, zhB]; exact h2
theorem zhH {keep : Bool} {old : List (Option Bool)} {vs : List KV} {k : List KV → KMem → Option R} (h : canonK (real R) keep old vs mem k = some r) : ∃ vs' mem', k vs' mem' = some r ∧ canon keep old (KV.downs vs) (kdown mem) = some (KV.downs vs', kdown mem') := by
 unfold canonK at h
 obtain ⟨mem1, h, hs⟩ := zff h
 simp only at h
 rw [cds] at h
 refine ⟨_, _, h.2, ?_⟩
 unfold canon
 simp only [hs, yc, zn, zgc, zdo, zcH, zeP, zag, zem]
 rw [gds]
 exact ⟨h.1, rfl⟩
theorem zhS (m : Nat) (mem : KMem) (v : KV) : v.down.frz m (kdown mem) = (v.frz m mem).down := by
 cases v with
 | msw b g =>
  simp only [KV.down, AV.frz, KV.frz]
  cases Nat.ble m b with
  | false => rfl
  | true =>
   simp only [yg]
   unfold box?
   rw [zf, zX]
   cases mem[b]? with
   | none => rfl
   | some x => cases x with
    | none => rfl
    | some x =>
     obtain ⟨gn, fz, row⟩ := x
     simp only [yk, KBox.down, zG]
     cases hg : Nat.beq gn g with
     | false => rfl
     | true =>
      cases row with
      | os T xs hs => rfl
      | cells e cs => rfl
      | ts β ag T xs =>
       cases hi : isIntsK ag T with
       | true => obtain ⟨rfl, kk, rfl⟩ := zc.1 hi; rfl
       | false =>
        simp only [rowOwn, Bool.not_false, yk3, yg]
        rw [KRow.down_sl hi, zbp hi, zdx hi]
 | tsl β ag T xs => rfl
 | _ => rfl
theorem zds (m : Nat) (mem : KMem) : ∀ vs : List KV, AV.frzAll m (kdown mem) (KV.downs vs) = KV.downs (KV.frzAll m mem vs)
 | [] => rfl
 | v :: vs => by simp only [KV.downs, AV.frzAll, KV.frzAll, zhS, zds m mem vs]
theorem zkY (m : Nat) (mem : KMem) (v : KV) : frzRes m (kdown mem) v.down = (frzResK m mem v).down := by
 cases v with
 | tup vs => simp only [KV.down, frzRes, frzResK, zds]
 | agg vs => simp only [KV.down, frzRes, frzResK, zds]
 | msw b g => exact zhS m mem (.msw b g)
 | _ => rfl
theorem zde : ∀ mem : KMem, memLent (kdown mem) = memLentK mem
 | [] => rfl
 | none :: m => zde m
 | some x :: m => by
  have ih := zde m
  show ((match x.row.down with | .cells _ cs => AV.lentAny cs | .pvs β _ _ => β | .ints _ _ => false | .own _ _ hs => holeLent hs) || memLent (kdown m)) = _
  rw [ih]
  simp only [memLentK]
  congr 1
  cases x.row with
  | os T xs hs => exact zeu hs
  | cells e cs => exact zaw cs
  | ts β ag T xs =>
   cases hi : isIntsK ag T with
   | true => obtain ⟨rfl, kk, rfl⟩ := zc.1 hi; rfl
   | false => rw [KRow.down_sl hi]; simp only [zbp hi]
theorem zkJ (mem sub : KMem) (ids : List Nat) : renBack (kdown mem) (kdown sub) ids = renBackK mem sub ids := by
 funext b g
 unfold renBack renBackK
 rw [zf]
 cases ids[b]? with
 | none => simp only [zQ]
 | some a =>
  simp only
  rw [zeZ, zf, zX]
  cases sub[b]? with
  | none => rfl
  | some x => cases x with
   | none => rfl
   | some x =>
    simp only [yk]
    cases genOfK mem a with
    | none => rfl
    | some h => rfl
theorem zbQ (f : Ren) (mem : KMem) : ∀ (ids : List Nat) (sub : KMem), backBoxes f (kdown mem) ids (kdown sub) = (backBoxesK f mem ids sub).map fun q => (q.1, q.2.down)
 | a :: ids, some x :: sub => by
  have ih := zbQ f mem ids sub
  show (a, _) :: backBoxes f (kdown mem) ids (kdown sub) = _
  rw [ih]
  simp only [backBoxesK, yu1]
  congr 2
  simp only [KBox.down, zhu, zeZ]
  cases genOfK mem a <;> rfl
 | a :: ids, none :: sub => zbQ f mem ids sub
 | [], [] => rfl
 | [], _ :: _ => by simp [backBoxes, backBoxesK, kdown]
 | a :: ids, [] => rfl
theorem zcc (f : Ren) : ∀ sub : KMem, newBoxes f (kdown sub) = kdown (newBoxesK f sub)
 | [] => rfl
 | none :: m => by
  have ih := zcc f m
  show none :: newBoxes f (kdown m) = _
  rw [ih]; rfl
 | some x :: m => by
  have ih := zcc f m
  show some _ :: newBoxes f (kdown m) = _
  rw [ih]
  show some ({ gen := 0, frz := x.frz, row := x.row.down.ren f } : Box) :: _ = _
  rw [zhu]; rfl
theorem ziQ (mem : KMem) (n : Nat) : (kdown mem).take n = kdown (mem.take n) := by simp [kdown, yz2]
theorem zmK (mem : KMem) (n : Nat) : (kdown mem).drop n = kdown (mem.drop n) := by simp [kdown, yo3]
theorem zeH : ∀ cs : List KV, hasMs (KV.downs cs) = lendK.hasMsK cs
 | [] => rfl
 | v :: cs => by
  have ih := zeH cs
  cases v <;> simp_all [KV.downs, KV.down, hasMs, lendK.hasMsK, AV.dead, AV.goneV, AV.unkB]
theorem zfG {ag : Bool} {T : Ty} {l : LK} {v : KV} {k : List (den T) → Bool → List Nat → Option R} (hv : (∃ b g, v = .msw b g) ∨ ∃ b g o n, v = .ms b g o n) (hc : chkLs P (.sl ag T) [l] = true) (hd : (Ty.sl ag T).depth ≤ 6)
  (h : denX (real R) mem (.sl ag T) [v] k = some r) : ∃ xs β ids, k xs β ids = some r ∧ lendLeaf P (kdown mem) l v.down = some ((KV.tsl true ag T xs).down, ids) := by
 obtain ⟨x, β, ids, h, hz⟩ := zby hc hd h
 refine ⟨x, β, ids, h, ?_⟩
 simp only [KV.downs, zipEls, obs] at hz
 obtain ⟨a, ha, b, hb, hz⟩ := hz
 obtain rfl := ya hb
 simp only [Option.some.injEq, Prod.mk.injEq, Bool.or_false, yh1] at hz
 obtain ⟨h1, h2, h3⟩ := hz
 have h2' : a.2.1 = pvSl ag T x := (yz h2).1
 rcases hv with ⟨b, g, rfl⟩ | ⟨b, g, o, n, rfl⟩
 ·simp only [KV.down, lendLeaf] at ha ⊢
  rw [ha, yk, h2', h3]
 ·simp only [KV.down, lendLeaf] at ha ⊢
  rw [ha, yk, h2', h3]
theorem zmP {t : TypeId} {v : KV} (h1 : ∀ b g, v ≠ .msw b g) (h2 : ∀ b g o n, v ≠ .ms b g o n) (h3 : ∀ cs, v ≠ .agg cs) : lend P (kdown mem) t v.down = some (v.down, []) := by
 cases v with
 | ms b g o n => exact absurd rfl (h2 b g o n)
 | msw b g => exact absurd rfl (h1 b g)
 | agg cs => exact absurd rfl (h3 cs)
 | _ => rfl
theorem zhy {l : LK} {v : KV} (h1 : ∀ b g, v ≠ .msw b g) (h2 : ∀ b g o n, v ≠ .ms b g o n) : lendLeaf P (kdown mem) l v.down = some (v.down, []) := by
 cases v with
 | ms b g o n => exact absurd rfl (h2 b g o n)
 | msw b g => exact absurd rfl (h1 b g)
 | _ => rfl
theorem zdM : ∀ {T : Ty} {ls : List LK} {vs : List KV} {k : List KV → List Nat → Option R}, chkLs P T ls = true → T.depth ≤ 6 → lendK.lendCellsK (real R) mem (leavesT T) vs k = some r →
  ∃ ws ids, k ws ids = some r ∧ lendCells P (kdown mem) ls (KV.downs vs) = some (KV.downs ws, ids)
 | .cons a b, ls, vs, k, hc, hd, h => by
  simp only [chkLs] at hc
  split at hc
  ·rename_i l ls
   simp only [yb] at hc
   obtain ⟨⟨h1, hca⟩, hcb⟩ := hc
   have hda : a.depth ≤ 6 := yb2 (Nat.le_max_left _ _) (show max a.depth b.depth ≤ 6 from hd)
   have hdb : b.depth ≤ 6 := yb2 (Nat.le_max_right _ _) (show max a.depth b.depth ≤ 6 from hd)
   simp only [leavesT, zak (nb.1 h1), List.singleton_append] at h
   exact one hca hda (fun h => zdM hcb hdb h) h
  ·cases hc
 | .int kk, ls, vs, k, hc, hd, h => lendOne rfl hc hd h
 | .bool, ls, vs, k, hc, hd, h => lendOne rfl hc hd h
 | .str, ls, vs, k, hc, hd, h => lendOne rfl hc hd h
 | .sl ag T, ls, vs, k, hc, hd, h => lendOne rfl hc hd h
 where
 one {T : Ty} {l : LK} {Ts : List Ty} {ls : List LK} {vs : List KV} {k : List KV → List Nat → Option R} (hc : chkLs P T [l] = true) (hd : T.depth ≤ 6)
   (ih : ∀ {vs : List KV} {k : List KV → List Nat → Option R}, lendK.lendCellsK (real R) mem Ts vs k = some r → ∃ ws ids, k ws ids = some r ∧ lendCells P (kdown mem) ls (KV.downs vs) = some (KV.downs ws, ids))
   (h : lendK.lendCellsK (real R) mem (T :: Ts) vs k = some r) : ∃ ws ids, k ws ids = some r ∧ lendCells P (kdown mem) (l :: ls) (KV.downs vs) = some (KV.downs ws, ids) := by
  cases vs with
  | nil => cases h
  | cons v vs =>
   have plain : (∀ b g, v ≠ .msw b g) → (∀ b g o n, v ≠ .ms b g o n) → (lendK.lendCellsK (real R) mem Ts vs fun ws l' => k (v :: ws) l') = some r → ∃ ws ids, k ws ids = some r ∧ lendCells P (kdown mem) (l :: ls) (KV.downs (v :: vs)) = some (KV.downs ws, ids) := by
    intro h1 h2 h
    obtain ⟨ws, ids', h, hr⟩ := ih h
    exact ⟨_, _, h, by simp [KV.downs, lendCells, zhy h1 h2, hr]⟩
   cases v with
   | msw b g =>
    cases T with
    | sl ag T => exact boxed (.inl ⟨_, _, rfl⟩) hc hd ih h
    | _ => cases h
   | ms b g o n =>
    cases T with
    | sl ag T => exact boxed (.inr ⟨_, _, _, _, rfl⟩) hc hd ih h
    | _ => cases h
   | _ => exact plain (by simp) (by simp) h
 boxed {ag : Bool} {T : Ty} {l : LK} {Ts : List Ty} {ls : List LK} {v : KV} {vs : List KV} {k : List KV → List Nat → Option R} (hv : (∃ b g, v = .msw b g) ∨ (∃ b g o n, v = .ms b g o n)) (hc : chkLs P (.sl ag T) [l] = true) (hd : (Ty.sl ag T).depth ≤ 6)
   (ih : ∀ {vs : List KV} {k : List KV → List Nat → Option R}, lendK.lendCellsK (real R) mem Ts vs k = some r → ∃ ws ids, k ws ids = some r ∧ lendCells P (kdown mem) ls (KV.downs vs) = some (KV.downs ws, ids))
   (h : (denX (real R) mem (.sl ag T) [v] fun xs _ l => lendK.lendCellsK (real R) mem Ts vs fun ws l' => k (.tsl true ag T xs :: ws) (l ++ l')) = some r) :
   ∃ ws ids, k ws ids = some r ∧ lendCells P (kdown mem) (l :: ls) (KV.downs (v :: vs)) = some (KV.downs ws, ids) := by
  obtain ⟨xs, β, ids, h, hl⟩ := zfG hv hc hd h
  obtain ⟨ws, ids', h, hr⟩ := ih h
  exact ⟨_, _, h, by simp [KV.downs, lendCells, hl, hr]⟩
 lendOne {T : Ty} {ls : List LK} {vs : List KV} {k : List KV → List Nat → Option R} (h1 : T.size = 1) (hc : chkLs P T ls = true) (hd : T.depth ≤ 6) (h : lendK.lendCellsK (real R) mem (leavesT T) vs k = some r) :
   ∃ ws ids, k ws ids = some r ∧ lendCells P (kdown mem) ls (KV.downs vs) = some (KV.downs ws, ids) := by
  have hl := zR hc
  rw [h1] at hl
  obtain ⟨l, rfl⟩ := yf2.1 hl
  rw [zak h1] at h
  exact one hc hd (fun {vs k} h => by
   cases vs with
   | nil => exact ⟨[], [], h, rfl⟩
   | cons v vs => cases h) h
theorem zox (ht : TabOK P tab) {t : TypeId} {v : KV} {k : KV → List Nat → Option R} (h : lendK (real R) tab mem t v k = some r) : ∃ w ids, k w ids = some r ∧ lend P (kdown mem) t v.down = some (w.down, ids) := by
 have box : (∃ b g, v = .msw b g) ∨ (∃ b g o n, v = .ms b g o n) → (match tab t with
   | some ti => bif ti.ag then none else (match ti.ty with
    | some (.sl ag T) => denX (real R) mem (.sl ag T) [v] fun xs _ l => k (.tsl true ag T xs) l
    | _ => none)
   | none => none) = some r → ∃ w ids, k w ids = some r ∧ lend P (kdown mem) t v.down = some (w.down, ids) := by
  intro hv h
  split at h
  ·rename_i ti hti
   have hok := TIok.of (ht _ _ hti)
   cases hg : ti.ag with
   | true => rw [hg] at h; cases h
   | false =>
   rw [hg] at h; simp only [yh] at h
   split at h
   ·rename_i ag T hT
    obtain ⟨⟨ls, hls, hc⟩, hn, _, hd⟩ := hok.ty _ hT
    have hl1 := zR hc
    obtain ⟨l, rfl⟩ := yf2.1 (hl1 : ls.length = 1)
    obtain ⟨xs, β, ids, h, hl⟩ := zfG hv hc hd h
    have hlf : leaf? P t = some l := by
     have ha := hok.ag; rw [hg] at ha
     obtain ⟨l2, h3, h4⟩ := zad ha hls
     rw [h3, (yz h4).1]
    refine ⟨_, ids, h, ?_⟩
    rcases hv with ⟨b, g, rfl⟩ | ⟨b, g, o, n, rfl⟩
    ·simp only [KV.down, lend, hlf, yc]; exact hl
    ·simp only [KV.down, lend, hlf, yc]; exact hl
   ·cases h
  ·cases h
 cases v with
 | msw b g => exact box (.inl ⟨_, _, rfl⟩) h
 | ms b g o n => exact box (.inr ⟨_, _, _, _, rfl⟩) h
 | agg cs =>
  simp only [lendK] at h
  cases hm : lendK.hasMsK cs with
  | true =>
   rw [hm] at h; simp only [yg] at h
   split at h
   ·rename_i ti hti
    have hok := TIok.of (ht _ _ hti)
    split at h
    ·rename_i T hT
     obtain ⟨⟨ls, hls, hc⟩, hn, _, hd⟩ := hok.ty _ hT
     obtain ⟨ws, ids, h, hl⟩ := zdM hc hd h
     refine ⟨_, _, h, ?_⟩
     simp only [KV.down, lend, zeH, hm, yg, hls, yc, hl, yk]
    ·cases h
   ·cases h
  | false =>
   rw [hm] at h; simp only [yh] at h
   exact ⟨_, _, h, by simp only [KV.down, lend, zeH, hm, yh]⟩
 | _ => exact ⟨_, _, h, zmP (by simp) (by simp) (by simp)⟩
theorem zfj (ht : TabOK P tab) : ∀ {ts : List TypeId} {vs : List KV} {k : List KV → List Nat → Option R}, lendAllK (real R) tab mem ts vs k = some r → ∃ ws ids, k ws ids = some r ∧ lendAll P (kdown mem) ts (KV.downs vs) = some (KV.downs ws, ids)
 | [], [], k, h => ⟨[], [], h, rfl⟩
 | t :: ts, v :: vs, k, h => by
  simp only [lendAllK] at h
  obtain ⟨w, l, h, hw⟩ := zox ht h
  obtain ⟨ws, ids, h, hws⟩ := zfj ht h
  exact ⟨_, _, h, by simp [KV.downs, lendAll, hw, hws]⟩
 | [], _ :: _, k, h => by cases h
 | _ :: _, [], k, h => by cases h
theorem znw (ht : TabOK P tab) {keep : Bool} {ts : List TypeId} {vs : List KV} {k : List KV → List Nat → Option R} (h : lendsK (real R) tab keep mem ts vs k = some r) : ∃ ws ids, k ws ids = some r ∧ lends P keep (kdown mem) ts (KV.downs vs) = some (KV.downs ws, ids) := by
 cases keep with
 | true => exact ⟨vs, [], h, rfl⟩
 | false => exact zfj ht h
def AskOK (C : Oracle) (tbl : FuncId → List Entry) : Prop := ∀ {R : Type} {r : R} {g : FuncId} {args : List KV} {mem : KMem} {k : KV → KMem → Option R}, askK (real R) tbl g args mem k = some r →
 ∃ v m, C g (KV.downs args) (kdown mem) = some (v.down, kdown m) ∧ k v m = some r
theorem zoD (ht : TabOK P tab) {C : Oracle} {tbl : FuncId → List Entry} (hC : AskOK C tbl) {raw keep : Bool} {g : FuncId} {ts : List TypeId} {fi args ca : List KV} {k : KOut → Option R} (h : callK (real R) tab tbl raw keep g ts fi args ca mem k = some r) :
  ∃ out, k out = some r ∧ callA P C raw keep g ts (KV.downs fi) (KV.downs args) (KV.downs ca) (kdown mem) = some out.down := by
 unfold callK at h
 have h0 := znw ht h
 clear h
 obtain ⟨la, lb, h, hl⟩ := h0
 simp only at h
 rw [cds] at h
 obtain ⟨hg, h⟩ := h
 obtain ⟨v, sub, hq, h⟩ := hC h
 rw [cds] at h
 obtain ⟨hg2, h⟩ := h
 unfold callA
 have hall : KV.downs fi ++ KV.downs la ++ KV.downs ca = KV.downs (fi ++ la ++ ca) := by simp [zy]
 simp only [hl, yc, hall, zn, zgc, zdo, zeP, zag, zem, hq]
 simp only [ziQ, zmK, zQ, zay, zde, zgn, zkJ, zbQ, zcc]
 generalize reachK mem (reachFuelK mem (KV.refsAll (fi ++ la ++ ca)).length) (KV.refsAll (fi ++ la ++ ca)) [] = ids at h hg hg2 ⊢
 have hr : (bif raw then v.down else frzRes ids.length (kdown sub) v.down) = (bif raw then v else frzResK ids.length sub v).down := by
  cases raw with
  | true => rfl
  | false => exact zkY _ _ _
 rw [hr]
 simp only [zeh, zdR]
 cases hb : allLt ids.length (bif raw then v else frzResK ids.length sub v).refs && allLt ids.length (memRefsK (sub.take ids.length)) with
 | true =>
  rw [hb] at h; simp only [yg] at h
  refine ⟨_, h, ?_⟩
  rw [gds]; refine ⟨hg, ?_⟩
  rw [gds]; refine ⟨hg2, ?_⟩
  simp only [yg]; rfl
 | false =>
  rw [hb] at h; simp only [yh] at h
  refine ⟨_, h, ?_⟩
  rw [gds]; refine ⟨hg, ?_⟩
  rw [gds]; refine ⟨hg2, ?_⟩
  simp only [yh]; rfl
end
end Go.Ab
