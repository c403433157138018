/- The second evaluator is the first one: references, renaming, calls. -/
import Derived.Test.YtmoldheenagboaaLib17
set_option linter.unusedVariables false
set_option linter.unusedSectionVars false
set_option linter.unusedSimpArgs false
namespace Go.Ab
variable [GTab]
section
variable {P : Program} {R : Type} {r : R} {mem : KMem} {tab : TypeId → Option TI}
mutual
theorem zeR : ∀ v : KV, v.down.refs = v.refs
 | .lit _ => rfl
 | .tsl _ _ _ _ => rfl
 | .el _ _ _ _ _ => rfl
 | .ptr _ _ _ _ => rfl
 | .ms _ _ _ _ => rfl
 | .msw _ _ => rfl
 | .fn f fi ca => by simp only [KV.down, AV.refs, KV.refs, zI fi, zI ca]
 | .agg cs => by simp only [KV.down, AV.refs, KV.refs, zI cs]
 | .tup vs => by simp only [KV.down, AV.refs, KV.refs, zI vs]
 | .dead => rfl
 | .gone => rfl
 | .unkB => rfl
theorem zI : ∀ vs : List KV, AV.refsAll (KV.downs vs) = KV.refsAll vs
 | [] => rfl
 | v :: vs => by simp only [KV.downs, AV.refsAll, KV.refsAll, zeR v, zI vs]
end
mutual
theorem zet (f : Ren) : ∀ v : KV, v.down.ren f = (v.ren f).down
 | .lit _ => rfl
 | .tsl _ _ _ _ => rfl
 | .el _ _ _ _ _ => rfl
 | .ptr b g i c => by simp only [KV.down, AV.ren, KV.ren]; cases f b g <;> rfl
 | .ms b g o n => by simp only [KV.down, AV.ren, KV.ren]; cases f b g <;> rfl
 | .msw b g => by simp only [KV.down, AV.ren, KV.ren]; cases f b g <;> rfl
 | .fn h fi ca => by simp only [KV.down, AV.ren, KV.ren, zW f fi, zW f ca]
 | .agg cs => by simp only [KV.down, AV.ren, KV.ren, zW f cs]
 | .tup vs => by simp only [KV.down, AV.ren, KV.ren, zW f vs]
 | .dead => rfl
 | .gone => rfl
 | .unkB => rfl
theorem zW (f : Ren) : ∀ vs : List KV, AV.renAll f (KV.downs vs) = KV.downs (KV.renAll f vs)
 | [] => rfl
 | v :: vs => by simp only [KV.downs, AV.renAll, KV.renAll, zet f v, zW f vs]
end
mutual
theorem zim : ∀ v : KV, v.down.lent = v.lent
 | .lit _ => rfl
 | .tsl _ _ _ _ => rfl
 | .el _ _ _ _ _ => rfl
 | .ptr _ _ _ _ => rfl
 | .ms _ _ _ _ => rfl
 | .msw _ _ => rfl
 | .fn f fi ca => by simp only [KV.down, AV.lent, KV.lent, zaq fi, zaq ca]
 | .agg cs => by simp only [KV.down, AV.lent, KV.lent, zaq cs]
 | .tup vs => by simp only [KV.down, AV.lent, KV.lent, zaq vs]
 | .dead => rfl
 | .gone => rfl
 | .unkB => rfl
theorem zaq : ∀ vs : List KV, AV.lentAny (KV.downs vs) = KV.lentAny vs
 | [] => rfl
 | v :: vs => by simp only [KV.downs, AV.lentAny, KV.lentAny, zim v, zaq vs]
end
theorem zjW (x : KRow) : x.down.refs = x.refs := by
 cases x with
 | cells e cs => exact zI cs
 | ts β ag T xs =>
  cases hi : isIntsK ag T with
  | true => obtain ⟨rfl, kk, rfl⟩ := zg.1 hi; rfl
  | false => rw [KRow.down_sl hi]; rfl
theorem zgg (f : Ren) (x : KRow) : x.down.ren f = (x.ren f).down := by
 cases x with
 | cells e cs => simp only [KRow.down, Row.ren, KRow.ren, zW]
 | ts β ag T xs =>
  cases hi : isIntsK ag T with
  | true => obtain ⟨rfl, kk, rfl⟩ := zg.1 hi; rfl
  | false => simp only [KRow.ren]; rw [KRow.down_sl hi]; rfl
theorem zkl (mem : KMem) (b : Nat) : refsAt (kdown mem) b = refsAtK mem b := by
 unfold refsAt refsAtK
 rw [zq, zar]
 cases mem[b]? with
 | none => rfl
 | some x => cases x with
  | none => rfl
  | some x => exact zjW x.row
theorem zcl (mem : KMem) : ∀ (n : Nat) (todo seen : List Nat), reach (kdown mem) n todo seen = reachK mem n todo seen
 | 0, _, _ => rfl
 | n + 1, [], _ => rfl
 | n + 1, b :: todo, seen => by
  simp only [reach, reachK, zkl, zcl mem n]
theorem zdR (mem : KMem) (b : Nat) : genOf (kdown mem) b = genOfK mem b := by
 unfold genOf genOfK
 rw [zq, zar]
 cases mem[b]? with
 | none => rfl
 | some x => cases x <;> rfl
theorem zdS (mem : KMem) (ids : List Nat) : renTo (kdown mem) ids = renToK mem ids := by
 funext b g
 unfold renTo renToK
 rw [zdR]
 cases genOfK mem b with
 | none => rfl
 | some h =>
  simp only
  cases idx b ids 0 <;> rfl
theorem zdg (f : Ren) (mem : KMem) : ∀ ids : List Nat, pickMem f (kdown mem) ids = kdown (pickMemK f mem ids)
 | [] => rfl
 | b :: ids => by
  have ih := zdg f mem ids
  simp only [pickMem, pickMemK, ih]
  rw [zq, zar]
  cases mem[b]? with
  | none => rfl
  | some x => cases x with
   | none => rfl
   | some x => simp only [Option.map_some]; rw [show x.down.row = x.row.down from rfl, zgg]; rfl
theorem zeM (mem : KMem) (n : Nat) : reachFuel (kdown mem) n = reachFuelK mem n := by simp only [reachFuel, reachFuelK, zaH]
theorem zaN : ∀ mem : KMem, kinds (kdown mem) = kindsK mem
 | [] => rfl
 | none :: m => by
  have := zaN m
  simp only [kdown, kinds, List.map_cons, kindsK] at this ⊢
  rw [this]; rfl
 | some x :: m => by
  have := zaN m
  simp only [kdown, kinds, List.map_cons, kindsK] at this ⊢
  rw [this]; simp [KBox.down, zX]
theorem zct : ∀ (old : List (Option Bool)) (mem : KMem), oldOk old (kdown mem) = oldOkK old mem
 | [], _ => by simp [oldOk, oldOkK]
 | some k :: old, some x :: m => by
  have := zct old m
  show ((bif k then x.row.down.isCells && Nat.beq x.gen 0 else !x.row.down.isCells) && oldOk old (kdown m)) = _
  rw [this, zX]; rfl
 | none :: old, none :: m => zct old m
 | some k :: old, none :: m => rfl
 | none :: old, some x :: m => rfl
 | some k :: old, [] => rfl
 | none :: old, [] => rfl
theorem zhH {old : List (Option Bool)} {vs : List KV} {k : List KV → KMem → Option R} (h : canonK old vs mem k = some r) : ∃ vs' mem', k vs' mem' = some r ∧ canon old (KV.downs vs) (kdown mem) = some (KV.downs vs', kdown mem') := by
 unfold canonK at h
 simp only at h
 rw [cds] at h
 refine ⟨_, _, h.2, ?_⟩
 unfold canon
 simp only [zI, zeM, zcl, zct, zdS, zW, zdg]
 rw [gds]
 exact ⟨h.1, rfl⟩
theorem zhF (m : Nat) (mem : KMem) (v : KV) : v.down.frz m (kdown mem) = (v.frz m mem).down := by
 cases v with
 | msw b g =>
  simp only [KV.down, AV.frz, KV.frz]
  cases Nat.ble m b with
  | false => rfl
  | true =>
   simp only [cond_true]
   unfold box?
   rw [zq, zar]
   cases mem[b]? with
   | none => rfl
   | some x => cases x with
    | none => rfl
    | some x =>
     simp only [Option.map_some]
     cases hg : Nat.beq x.gen g with
     | false => rw [show x.down.gen = x.gen from rfl, hg]; rfl
     | true =>
      rw [show x.down.gen = x.gen from rfl, hg]
      simp only [cond_true, show x.down.row = x.row.down from rfl]
      cases x.row with
      | cells e cs => rfl
      | ts β ag T xs =>
       simp only
       cases hi : isIntsK ag T with
       | true => obtain ⟨rfl, kk, rfl⟩ := zg.1 hi; rfl
       | false => rw [KRow.down_sl hi, zek hi, zcF hi]
 | tsl β ag T xs => rfl
 | _ => rfl
theorem zcE (m : Nat) (mem : KMem) : ∀ vs : List KV, AV.frzAll m (kdown mem) (KV.downs vs) = KV.downs (KV.frzAll m mem vs)
 | [] => rfl
 | v :: vs => by simp only [KV.downs, AV.frzAll, KV.frzAll, zhF, zcE m mem vs]
theorem zkC (m : Nat) (mem : KMem) (v : KV) : frzRes m (kdown mem) v.down = (frzResK m mem v).down := by
 cases v with
 | tup vs => simp only [KV.down, frzRes, frzResK, zcE]
 | agg vs => simp only [KV.down, frzRes, frzResK, zcE]
 | msw b g => exact zhF m mem (.msw b g)
 | _ => rfl
theorem zcc : ∀ mem : KMem, memLent (kdown mem) = memLentK mem
 | [] => rfl
 | none :: m => zcc m
 | some x :: m => by
  have ih := zcc m
  show ((match x.row.down with | .cells _ cs => AV.lentAny cs | .pvs β _ _ => β | .ints _ _ => false) || memLent (kdown m)) = _
  rw [ih]
  simp only [memLentK]
  congr 1
  cases x.row with
  | cells e cs => exact zaq cs
  | ts β ag T xs =>
   cases hi : isIntsK ag T with
   | true => obtain ⟨rfl, kk, rfl⟩ := zg.1 hi; rfl
   | false => rw [KRow.down_sl hi]; simp only [zek hi]
theorem zbd : ∀ mem : KMem, memRefs (kdown mem) = memRefsK mem
 | [] => rfl
 | none :: m => zbd m
 | some x :: m => by
  have ih := zbd m
  show x.row.down.refs ++ memRefs (kdown m) = _
  rw [ih, zjW]; rfl
theorem zjt (mem sub : KMem) (ids : List Nat) : renBack (kdown mem) (kdown sub) ids = renBackK mem sub ids := by
 funext b g
 unfold renBack renBackK
 rw [zq]
 cases Nat.beq g 0 with
 | false => rfl
 | true =>
  simp only [cond_true]
  cases ids[b]? with
  | none => simp only [zaH]
  | some a =>
   simp only
   rw [zdR, zq, zar]
   cases sub[b]? with
   | none => rfl
   | some x => cases x with
    | none => rfl
    | some x =>
     simp only [Option.map_some]
     cases genOfK mem a with
     | none => rfl
     | some h => simp only; rw [show x.down.row = x.row.down from rfl, zX]
theorem zbr (f : Ren) (mem : KMem) : ∀ (ids : List Nat) (sub : KMem), backBoxes f (kdown mem) ids (kdown sub) = (backBoxesK f mem ids sub).map fun q => (q.1, q.2.down)
 | a :: ids, some x :: sub => by
  have ih := zbr f mem ids sub
  show (a, _) :: backBoxes f (kdown mem) ids (kdown sub) = _
  rw [ih]
  simp only [backBoxesK, List.map_cons]
  congr 2
  simp only [KBox.down, zX, zgg, zdR]
  cases genOfK mem a <;> rfl
 | a :: ids, none :: sub => zbr f mem ids sub
 | [], [] => rfl
 | [], _ :: _ => by simp [backBoxes, backBoxesK, kdown]
 | a :: ids, [] => rfl
theorem zbM (f : Ren) : ∀ sub : KMem, newBoxes f (kdown sub) = kdown (newBoxesK f sub)
 | [] => rfl
 | none :: m => by
  have ih := zbM f m
  show none :: newBoxes f (kdown m) = _
  rw [ih]; rfl
 | some x :: m => by
  have ih := zbM f m
  show some _ :: newBoxes f (kdown m) = _
  rw [ih]
  show some ({ gen := 0, frz := x.frz, row := x.row.down.ren f } : Box) :: _ = _
  rw [zgg]; rfl
theorem zgv (mem : KMem) (n : Nat) : (kdown mem).take n = kdown (mem.take n) := by simp [kdown, List.map_take]
theorem zlc (mem : KMem) (n : Nat) : (kdown mem).drop n = kdown (mem.drop n) := by simp [kdown, List.map_drop]
theorem zdI : ∀ cs : List KV, hasMs (KV.downs cs) = lendK.hasMsK cs
 | [] => rfl
 | v :: cs => by
  have ih := zdI cs
  cases v <;> simp_all [KV.downs, KV.down, hasMs, lendK.hasMsK, AV.dead, AV.goneV, AV.unkB]
theorem zeE {ag : Bool} {T : Ty} {l : LK} {v : KV} {k : List (den T) → Bool → List Nat → Option R} (hv : (∃ b g, v = .msw b g) ∨ ∃ b g o n, v = .ms b g o n) (hc : chkLs P (.sl ag T) [l] = true) (hd : (Ty.sl ag T).depth ≤ 6)
  (h : denK (real R) mem (.sl ag T) [v] k = some r) : ∃ xs β ids, k xs β ids = some r ∧ lendLeaf P (kdown mem) l v.down = some ((KV.tsl true ag T xs).down, ids) := by
 obtain ⟨x, β, ids, h, hz⟩ := zaL hc hd h
 refine ⟨x, β, ids, h, ?_⟩
 simp only [KV.downs, zipEls, obs] at hz
 obtain ⟨a, ha, b, hb, hz⟩ := hz
 obtain rfl := Option.some.inj hb
 simp only [Option.some.injEq, Prod.mk.injEq, Bool.or_false, List.append_nil] at hz
 obtain ⟨h1, h2, h3⟩ := hz
 have h2' : a.2.1 = pvSl ag T x := (List.cons.inj h2).1
 rcases hv with ⟨b, g, rfl⟩ | ⟨b, g, o, n, rfl⟩
 ·simp only [KV.down, lendLeaf] at ha ⊢
  rw [show treeDepth = 6 from rfl, ha, Option.map_some, h2', h3]
 ·simp only [KV.down, lendLeaf] at ha ⊢
  rw [show treeDepth = 6 from rfl, ha, Option.map_some, h2', h3]
theorem zlI {t : TypeId} {v : KV} (h1 : ∀ b g, v ≠ .msw b g) (h2 : ∀ b g o n, v ≠ .ms b g o n) (h3 : ∀ cs, v ≠ .agg cs) : lend P (kdown mem) t v.down = some (v.down, []) := by
 cases v with
 | ms b g o n => exact absurd rfl (h2 b g o n)
 | msw b g => exact absurd rfl (h1 b g)
 | agg cs => exact absurd rfl (h3 cs)
 | _ => rfl
theorem zhO {l : LK} {v : KV} (h1 : ∀ b g, v ≠ .msw b g) (h2 : ∀ b g o n, v ≠ .ms b g o n) : lendLeaf P (kdown mem) l v.down = some (v.down, []) := by
 cases v with
 | ms b g o n => exact absurd rfl (h2 b g o n)
 | msw b g => exact absurd rfl (h1 b g)
 | _ => rfl
theorem zcD : ∀ {T : Ty} {ls : List LK} {vs : List KV} {k : List KV → List Nat → Option R}, chkLs P T ls = true → T.depth ≤ 6 → lendK.lendCellsK (real R) mem (leavesT T) vs k = some r →
  ∃ ws ids, k ws ids = some r ∧ lendCells P (kdown mem) ls (KV.downs vs) = some (KV.downs ws, ids)
 | .cons a b, ls, vs, k, hc, hd, h => by
  simp only [chkLs] at hc
  split at hc
  ·rename_i l ls
   simp only [Bool.and_eq_true] at hc
   obtain ⟨⟨h1, hca⟩, hcb⟩ := hc
   have hda : a.depth ≤ 6 := Nat.le_trans (Nat.le_max_left _ _) (show max a.depth b.depth ≤ 6 from hd)
   have hdb : b.depth ≤ 6 := Nat.le_trans (Nat.le_max_right _ _) (show max a.depth b.depth ≤ 6 from hd)
   simp only [leavesT, zaO (nb.1 h1), List.singleton_append] at h
   exact one hca hda (fun h => zcD hcb hdb h) h
  ·cases hc
 | .int kk, ls, vs, k, hc, hd, h => lendOne rfl hc hd h
 | .bool, ls, vs, k, hc, hd, h => lendOne rfl hc hd h
 | .str, ls, vs, k, hc, hd, h => lendOne rfl hc hd h
 | .sl ag T, ls, vs, k, hc, hd, h => lendOne rfl hc hd h
 where
 one {T : Ty} {l : LK} {Ts : List Ty} {ls : List LK} {vs : List KV} {k : List KV → List Nat → Option R} (hc : chkLs P T [l] = true) (hd : T.depth ≤ 6)
   (ih : ∀ {vs : List KV} {k : List KV → List Nat → Option R}, lendK.lendCellsK (real R) mem Ts vs k = some r → ∃ ws ids, k ws ids = some r ∧ lendCells P (kdown mem) ls (KV.downs vs) = some (KV.downs ws, ids))
   (h : lendK.lendCellsK (real R) mem (T :: Ts) vs k = some r) : ∃ ws ids, k ws ids = some r ∧ lendCells P (kdown mem) (l :: ls) (KV.downs vs) = some (KV.downs ws, ids) := by
  cases vs with
  | nil => cases h
  | cons v vs =>
   have plain : (∀ b g, v ≠ .msw b g) → (∀ b g o n, v ≠ .ms b g o n) → (lendK.lendCellsK (real R) mem Ts vs fun ws l' => k (v :: ws) l') = some r → ∃ ws ids, k ws ids = some r ∧ lendCells P (kdown mem) (l :: ls) (KV.downs (v :: vs)) = some (KV.downs ws, ids) := by
    intro h1 h2 h
    obtain ⟨ws, ids', h, hr⟩ := ih h
    exact ⟨_, _, h, by simp [KV.downs, lendCells, zhO h1 h2, hr]⟩
   cases v with
   | msw b g =>
    cases T with
    | sl ag T => exact boxed (.inl ⟨_, _, rfl⟩) hc hd ih h
    | _ => cases h
   | ms b g o n =>
    cases T with
    | sl ag T => exact boxed (.inr ⟨_, _, _, _, rfl⟩) hc hd ih h
    | _ => cases h
   | _ => exact plain (by simp) (by simp) h
 boxed {ag : Bool} {T : Ty} {l : LK} {Ts : List Ty} {ls : List LK} {v : KV} {vs : List KV} {k : List KV → List Nat → Option R} (hv : (∃ b g, v = .msw b g) ∨ (∃ b g o n, v = .ms b g o n)) (hc : chkLs P (.sl ag T) [l] = true) (hd : (Ty.sl ag T).depth ≤ 6)
   (ih : ∀ {vs : List KV} {k : List KV → List Nat → Option R}, lendK.lendCellsK (real R) mem Ts vs k = some r → ∃ ws ids, k ws ids = some r ∧ lendCells P (kdown mem) ls (KV.downs vs) = some (KV.downs ws, ids))
   (h : (denK (real R) mem (.sl ag T) [v] fun xs _ l => lendK.lendCellsK (real R) mem Ts vs fun ws l' => k (.tsl true ag T xs :: ws) (l ++ l')) = some r) :
   ∃ ws ids, k ws ids = some r ∧ lendCells P (kdown mem) (l :: ls) (KV.downs (v :: vs)) = some (KV.downs ws, ids) := by
  obtain ⟨xs, β, ids, h, hl⟩ := zeE hv hc hd h
  obtain ⟨ws, ids', h, hr⟩ := ih h
  exact ⟨_, _, h, by simp [KV.downs, lendCells, hl, hr]⟩
 lendOne {T : Ty} {ls : List LK} {vs : List KV} {k : List KV → List Nat → Option R} (h1 : T.size = 1) (hc : chkLs P T ls = true) (hd : T.depth ≤ 6) (h : lendK.lendCellsK (real R) mem (leavesT T) vs k = some r) :
   ∃ ws ids, k ws ids = some r ∧ lendCells P (kdown mem) ls (KV.downs vs) = some (KV.downs ws, ids) := by
  have hl := zam hc
  rw [h1] at hl
  obtain ⟨l, rfl⟩ := List.length_eq_one_iff.1 hl
  rw [zaO h1] at h
  exact one hc hd (fun {vs k} h => by
   cases vs with
   | nil => exact ⟨[], [], h, rfl⟩
   | cons v vs => cases h) h
theorem zne (ht : TabOK P tab) {t : TypeId} {v : KV} {k : KV → List Nat → Option R} (h : lendK (real R) tab mem t v k = some r) : ∃ w ids, k w ids = some r ∧ lend P (kdown mem) t v.down = some (w.down, ids) := by
 have box : (∃ b g, v = .msw b g) ∨ (∃ b g o n, v = .ms b g o n) → (match tab t with
   | some ti => bif ti.ag then none else (match ti.ty with
    | some (.sl ag T) => denK (real R) mem (.sl ag T) [v] fun xs _ l => k (.tsl true ag T xs) l
    | _ => none)
   | none => none) = some r → ∃ w ids, k w ids = some r ∧ lend P (kdown mem) t v.down = some (w.down, ids) := by
  intro hv h
  split at h
  ·rename_i ti hti
   have hok := TIok.of (ht _ _ hti)
   cases hg : ti.ag with
   | true => rw [hg] at h; cases h
   | false =>
   rw [hg] at h; simp only [cond_false] at h
   split at h
   ·rename_i ag T hT
    obtain ⟨⟨ls, hls, hc⟩, hn, _, hd⟩ := hok.ty _ hT
    have hl1 := zam hc
    obtain ⟨l, rfl⟩ := List.length_eq_one_iff.1 (hl1 : ls.length = 1)
    obtain ⟨xs, β, ids, h, hl⟩ := zeE hv hc hd h
    have hlf : leaf? P t = some l := by
     have ha := hok.ag; rw [hg] at ha
     obtain ⟨l2, h3, h4⟩ := zak ha hls
     rw [h3, (List.cons.inj h4).1]
    refine ⟨_, ids, h, ?_⟩
    rcases hv with ⟨b, g, rfl⟩ | ⟨b, g, o, n, rfl⟩
    ·simp only [KV.down, lend, hlf, Option.bind_some]; exact hl
    ·simp only [KV.down, lend, hlf, Option.bind_some]; exact hl
   ·cases h
  ·cases h
 cases v with
 | msw b g => exact box (.inl ⟨_, _, rfl⟩) h
 | ms b g o n => exact box (.inr ⟨_, _, _, _, rfl⟩) h
 | agg cs =>
  simp only [lendK] at h
  cases hm : lendK.hasMsK cs with
  | true =>
   rw [hm] at h; simp only [cond_true] at h
   split at h
   ·rename_i ti hti
    have hok := TIok.of (ht _ _ hti)
    split at h
    ·rename_i T hT
     obtain ⟨⟨ls, hls, hc⟩, hn, _, hd⟩ := hok.ty _ hT
     obtain ⟨ws, ids, h, hl⟩ := zcD hc hd h
     refine ⟨_, _, h, ?_⟩
     simp only [KV.down, lend, zdI, hm, cond_true, hls, Option.bind_some, hl, Option.map_some]
    ·cases h
   ·cases h
  | false =>
   rw [hm] at h; simp only [cond_false] at h
   exact ⟨_, _, h, by simp only [KV.down, lend, zdI, hm, cond_false]⟩
 | _ => exact ⟨_, _, h, zlI (by simp) (by simp) (by simp)⟩
theorem zem (ht : TabOK P tab) : ∀ {ts : List TypeId} {vs : List KV} {k : List KV → List Nat → Option R}, lendAllK (real R) tab mem ts vs k = some r → ∃ ws ids, k ws ids = some r ∧ lendAll P (kdown mem) ts (KV.downs vs) = some (KV.downs ws, ids)
 | [], [], k, h => ⟨[], [], h, rfl⟩
 | t :: ts, v :: vs, k, h => by
  simp only [lendAllK] at h
  obtain ⟨w, l, h, hw⟩ := zne ht h
  obtain ⟨ws, ids, h, hws⟩ := zem ht h
  exact ⟨_, _, h, by simp [KV.downs, lendAll, hw, hws]⟩
 | [], _ :: _, k, h => by cases h
 | _ :: _, [], k, h => by cases h
theorem zln (ht : TabOK P tab) {keep : Bool} {ts : List TypeId} {vs : List KV} {k : List KV → List Nat → Option R} (h : lendsK (real R) tab keep mem ts vs k = some r) : ∃ ws ids, k ws ids = some r ∧ lends P keep (kdown mem) ts (KV.downs vs) = some (KV.downs ws, ids) := by
 cases keep with
 | true => exact ⟨vs, [], h, rfl⟩
 | false => exact zem ht h
def AskOK (C : Oracle) (tbl : FuncId → List Entry) : Prop := ∀ {R : Type} {r : R} {g : FuncId} {args : List KV} {mem : KMem} {k : KV → KMem → Option R}, askK (real R) tbl g args mem k = some r →
 ∃ v m, C g (KV.downs args) (kdown mem) = some (v.down, kdown m) ∧ k v m = some r
theorem zno (ht : TabOK P tab) {C : Oracle} {tbl : FuncId → List Entry} (hC : AskOK C tbl) {raw keep : Bool} {g : FuncId} {ts : List TypeId} {fi args ca : List KV} {k : KOut → Option R} (h : callK (real R) tab tbl raw keep g ts fi args ca mem k = some r) :
  ∃ out, k out = some r ∧ callA P C raw keep g ts (KV.downs fi) (KV.downs args) (KV.downs ca) (kdown mem) = some out.down := by
 unfold callK at h
 have h0 := zln ht h
 clear h
 obtain ⟨la, lb, h, hl⟩ := h0
 simp only at h
 rw [cds] at h
 obtain ⟨hg, h⟩ := h
 obtain ⟨v, sub, hq, h⟩ := hC h
 rw [cds] at h
 obtain ⟨hg2, h⟩ := h
 unfold callA
 have hall : KV.downs fi ++ KV.downs la ++ KV.downs ca = KV.downs (fi ++ la ++ ca) := by simp [zC]
 simp only [hl, Option.bind_some, hall, zI, zeM, zcl, zdS, zW, zdg, hq]
 simp only [zgv, zlc, zaH, zbd, zcc, zim, zjt, zbr, zbM]
 generalize reachK mem (reachFuelK mem (KV.refsAll (fi ++ la ++ ca)).length) (KV.refsAll (fi ++ la ++ ca)) [] = ids at h hg hg2 ⊢
 have hr : (bif raw then v.down else frzRes ids.length (kdown sub) v.down) = (bif raw then v else frzResK ids.length sub v).down := by
  cases raw with
  | true => rfl
  | false => exact zkC _ _ _
 rw [hr]
 simp only [zeR, zet]
 cases hb : allLt ids.length (bif raw then v else frzResK ids.length sub v).refs && allLt ids.length (memRefsK (sub.take ids.length)) with
 | true =>
  rw [hb] at h; simp only [cond_true] at h
  refine ⟨_, h, ?_⟩
  rw [gds]; refine ⟨hg, ?_⟩
  rw [gds]; refine ⟨hg2, ?_⟩
  simp only [cond_true]; rfl
 | false =>
  rw [hb] at h; simp only [cond_false] at h
  refine ⟨_, h, ?_⟩
  rw [gds]; refine ⟨hg, ?_⟩
  rw [gds]; refine ⟨hg2, ?_⟩
  simp only [cond_false]; rfl
end
end Go.Ab
