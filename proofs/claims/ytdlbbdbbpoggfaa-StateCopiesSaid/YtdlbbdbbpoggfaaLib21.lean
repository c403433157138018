import Derived.Test.YtdlbbdbbpoggfaaLib20
set_option linter.unusedVariables false
set_option linter.unusedSectionVars false
set_option linter.unusedSimpArgs false
namespace Go.Ab
variable [GTab]
section
variable {P : Program} {R : Type} {r : R} {mem : KMem} {tab : TypeId → Option TI} {C : Oracle} {tbl : FuncId → List Entry}
theorem zcI (mem : KMem) (b : Nat) : ownAt (kdown mem) b = ownAtK mem b := by
 unfold ownAt ownAtK
 rw [zkB]
 cases getR mem b with
 | none => rfl
 | some y => cases y with
  | none => rfl
  | some x => exact zG x.row
theorem zgt (mem : KMem) (v : KV) : ownS (kdown mem) v.down = ownSK mem v := by
 cases v with
 | msw b g => exact zcI mem b
 | ms b g o n => exact zcI mem b
 | _ => rfl
theorem zop (mem : KMem) (v : KV) : ownW (kdown mem) v.down = ownWK mem v := by
 cases v with
 | msw b g => exact zcI mem b
 | _ => rfl
theorem zjB (mem : KMem) (v : KV) : ownP (kdown mem) v.down = ownPK mem v := by
 cases v with
 | ptr b g i c => exact zcI mem b
 | _ => rfl
theorem dropCD (c : Nat) : ∀ hs : Holes, dropC c (holesD hs) = holesD (dropCK c hs)
 | [] => rfl
 | (i, c', v) :: r => by
  simp only [holesD, dropC, dropCK]
  cases Nat.beq c c' with
  | true => rfl
  | false => simp only [yh, holesD, dropCD c r]
theorem zbf (a b : Holes) : holesD (a ++ b) = holesD a ++ holesD b := by
 induction a with
 | nil => rfl
 | cons h a ih => simp only [yv2, holesD, ih]
theorem zke (a b : KMem) : kdown (a ++ b) = kdown a ++ kdown b := by simp [kdown]
noncomputable def lks (P : Program) : List Ty → List LK → Bool
 | [], [] => true
 | T :: Ts, l :: ls => chkLs P T [l] && lks P Ts ls
 | _, _ => false
theorem zkj : ∀ {T : Ty} {ls : List LK}, chkLs P T ls = true → lks P (leavesT T) ls = true
 | .cons a b, ls, h => by
  simp only [chkLs] at h
  split at h
  ·rename_i l ls
   simp only [yb] at h
   simp only [leavesT, zak (nb.1 h.1.1), List.singleton_append, lks, yb]
   exact ⟨h.1.2, zkj h.2⟩
  ·cases h
 | .int k, ls, h => one rfl h
 | .bool, ls, h => one rfl h
 | .str, ls, h => one rfl h
 | .sl ag T, ls, h => one rfl h
 where
 one {T : Ty} {ls : List LK} (h1 : T.size = 1) (h : chkLs P T ls = true) : lks P (leavesT T) ls = true := by
  obtain ⟨l, rfl⟩ := zgj h1 h
  rw [zak h1]
  simp only [lks, h, yk3]
theorem zoM {T : Ty} {u : Value} (h : leafOkK T (.lit u) = true) : T.flat = true := by
 cases T <;> first | rfl | (cases u <;> cases h)
theorem zhX (ag : Bool) (T : Ty) (xs : List (den T)) : leafRow (pvSl ag T xs) = some (KRow.ts false ag T xs).down := by
 cases hi : isIntsK ag T with
 | true => obtain ⟨rfl, kk, rfl⟩ := zc.1 hi; rfl
 | false =>
  rw [zo hi, KRow.down_sl hi]
  simp only [leafRow]
  rw [gds]
  exact ⟨nl.2 Ty.size_pos, rfl⟩
theorem znt {tk : Bool} {i c : Nat} {v : KV} {hs : Holes} {nb : Nat} {k : KV → Holes → List KRow → Option R} {xs : List PV} {p q : PV} {l : LK} {T : Ty} (hc : chkLs P T [l] = true) (hl : leafOkK T v = true)
  (hp : xs[i]? = some p) (hq : p.cells[c]? = some q) (hcell : CellPV true v q) (h : readOK (real R) tk i c v hs nb k = some r) :
  ∃ a hs' rows, k a hs' rows = some r ∧ readO tk xs i c l (holesD hs) nb = some (a.down, holesD hs', rows.map KRow.down) := by
 unfold readOK at h
 unfold readO
 simp only [hp, hq, yc, findCD]
 cases hf : findCK c hs with
 | some hh =>
  rw [hf] at h
  simp only [real_guard] at h
  rw [cds] at h
  refine ⟨_, _, _, h.2, ?_⟩
  simp only [yk]
  rw [gds]
  exact ⟨h.1, rfl⟩
 | none =>
  rw [hf] at h
  simp only [Option.map_none] at h ⊢
  have hfl := zdl hc
  simp only [yj3, List.all_nil, yi3] at hfl
  split at h
  ·rename_i u
   rw [hfl, zoM hl]
   refine ⟨_, _, _, h, ?_⟩
   simp only [yg, zdZ hc hl hcell, yk]; rfl
  ·rename_i β ag T' ys
   rw [cds] at h
   cases T with
   | sl ag' T2 =>
    rw [hfl]
    refine ⟨_, _, _, h.2, ?_⟩
    show guardB tk _ = _
    rw [gds]
    refine ⟨h.1, ?_⟩
    have hq' : q = pvSl ag T' ys := by
     rcases hcell with ⟨_, _, e, _⟩ | ⟨_, e, _⟩ | ⟨_, e, _⟩ | ⟨_, _, _, e, rfl⟩ <;> cases e
     rfl
    rw [hq', zhX]; rfl
   | _ => cases hl
  ·cases h
theorem zgQ {tk : Bool} {i : Nat} {xs : List PV} {p : PV} (hp : xs[i]? = some p) : ∀ {vs : List KV} {Ts : List Ty} {ls : List LK} {c : Nat} {hs : Holes} {nb : Nat} {k : List KV → Holes → List KRow → Option R},
  lks P Ts ls = true → leavesOkK Ts vs = true → (∀ (j : Nat) (v : KV), vs[j]? = some v → ∃ q, p.cells[c + j]? = some q ∧ CellPV true v q) → readsOK (real R) tk i vs c hs nb k = some r →
   ∃ as hs' rows, k as hs' rows = some r ∧ readsO tk xs i ls c (holesD hs) nb = some (KV.downs as, holesD hs', rows.map KRow.down)
 | [], [], [], c, hs, nb, k, hc, hl, hq, h => ⟨[], hs, [], h, rfl⟩
 | v :: vs, T :: Ts, l :: ls, c, hs, nb, k, hc, hl, hq, h => by
  simp only [lks, yb] at hc
  simp only [leavesOkK, yb] at hl
  obtain ⟨q, hq0, hcp⟩ := hq 0 v rfl
  rw [ym1] at hq0
  simp only [readsOK] at h
  obtain ⟨a, hs1, rows, h, hr⟩ := znt hc.1 hl.1 hp hq0 hcp h
  obtain ⟨as, hs2, rows2, h, hrs⟩ := zgQ hp (c := c + 1) hc.2 hl.2 (fun j w hj => by
   obtain ⟨q, h1, h2⟩ := hq (j + 1) w (by simpa using hj)
   exact ⟨q, by rw [show c + 1 + j = c + (j + 1) by omega]; exact h1, h2⟩) h
  refine ⟨a :: as, hs2, rows ++ rows2, h, ?_⟩
  simp only [readsO, hr, yc, yf1, hrs, yk, KV.downs, yl3]
 | [], _ :: _, _, _, _, _, _, hc, hl, hq, h => by cases hl
 | _ :: _, [], _, _, _, _, _, hc, hl, hq, h => by cases hl
 | [], [], _ :: _, _, _, _, _, hc, hl, hq, h => by cases hc
 | _ :: _, _ :: _, [], _, _, _, _, hc, hl, hq, h => by cases hc
theorem zcY : ∀ rows : List KRow, newOnes (rows.map KRow.down) = kdown (newOnesK rows)
 | [] => rfl
 | r :: rs => by
  have ih := zcY rs
  simp only [yu1, newOnes, newOnesK, ih]; rfl
theorem zjx (b : Nat) (bx : KBox) (T : Ty) (xs : List (den T)) (v : KV) (hs : Holes) (rows : List KRow) :
  (tookOK b bx T xs v hs rows).down = tookO b T.size bx.down (xs.map (pvEl (agOf T) T)) v.down (holesD hs, rows.map KRow.down) := by
 cases rows with
 | nil => rfl
 | cons r rs =>
  show Out.mk _ _ _ (kdown (newOnesK (r :: rs))) = _
  rw [← zcY]; rfl
theorem zni (ht : TabOK P tab) {tk : Bool} {t : TypeId} {a : KV} {k : KOut → Option R} (h : loadOK (real R) tab tk t mem a k = some r) : ∃ out, k out = some r ∧ loadO P tk t (kdown mem) a.down = some out.down := by
 unfold loadOK at h
 split at h
 ·rename_i ti hti
  have hok := TIok.of (ht _ _ hti)
  split at h
  ·rename_i b g i c
   obtain ⟨bx, hbx, h⟩ := zaa h
   split at h
   ·rename_i T xs hs hrow
    split at h
    ·rename_i T' hT'
     simp only [real_getN] at h
     rw [obs] at h
     obtain ⟨x, hx, h⟩ := h
     rw [cds] at h
     obtain ⟨hl, h⟩ := h
     obtain ⟨⟨ls, hls, hc⟩, hn, hag, _⟩ := hok.ty T' hT'
     have hp : (xs.map (pvEl (agOf T) T))[i]? = some (pvEl (agOf T) T x) := by rw [yc1, hx]; rfl
     have hq : ∀ (j : Nat) (v : KV), (((cellsOf true T x).drop c).take ti.n)[j]? = some v → ∃ q, (pvEl (agOf T) T x).cells[c + j]? = some q ∧ CellPV true v q := by
      intro j v hj
      rw [yj1] at hj
      split at hj
      ·rw [yb1] at hj
       rw [zr]; exact (zaQ (β := true) (x := x)).2 _ v hj
      ·cases hj
     have hd : bx.down.row = .own T.size (xs.map (pvEl (agOf T) T)) (holesD hs) := by rw [show bx.down.row = bx.row.down from rfl, hrow]; rfl
     obtain ⟨as, hs', rows, h, hr⟩ := zgQ hp (zkj hc) hl hq h
     cases hg : ti.ag with
     | true =>
      rw [hg] at h; simp only [yg] at h
      refine ⟨_, h, ?_⟩
      have ha := hok.ag; rw [hg] at ha
      simp only [KV.down, loadO, hbx, yc, hd, ha, hls, hok.n]
      rw [gds]
      refine ⟨nb.2 (by rw [zR hc, hn]), ?_⟩
      rw [zQ, hr, yk, zjx]; rfl
     | false =>
      rw [hg] at h; simp only [yh] at h
      have ha := hok.ag; rw [hg] at ha
      obtain ⟨l, hl1, rfl⟩ := zad ha hls
      split at h
      ·rename_i v
       refine ⟨_, h, ?_⟩
       simp only [KV.down, loadO, hbx, yc, hd, ha, hl1]
       rw [zQ]
       simp only [readsO, obs] at hr
       obtain ⟨q, hq1, hr⟩ := hr
       rw [yd] at hr
       obtain ⟨q2, hq2, hr⟩ := hr
       obtain rfl := ya hq2
       simp only [yh1, Prod.mk.injEq, KV.downs, List.cons.injEq, and_true] at hr
       obtain ⟨e1, e2, e3⟩ := hr
       rw [hq1, yk, zjx, e1, ← e2, ← e3]
      ·cases h
    ·cases h
   ·cases h
  ·cases h
 ·cases h
theorem zeI {i c : Nat} {hs : Holes} {k : Holes → Option R} (h : freeCK (real R) i c hs k = some r) : ∃ hs', k hs' = some r ∧ freeC i c (holesD hs) = some (holesD hs') := by
 unfold freeCK at h
 unfold freeC
 rw [findCD]
 cases hf : findCK c hs with
 | none => rw [hf] at h; exact ⟨hs, h, rfl⟩
 | some q =>
  rw [hf] at h
  simp only [real_guard] at h
  rw [cds] at h
  obtain ⟨h1, h⟩ := h
  rw [cds] at h
  refine ⟨_, h.2, ?_⟩
  simp only [yk]
  rw [gds]
  rw [dropCD, findCD, zdh, ← zeg, yb]
  exact ⟨⟨h.1, h1⟩, rfl⟩
theorem zmF (ag : Bool) (T : Ty) (xs : List (den T)) : emptyOf (pvSl ag T xs) = some (pvSl ag T []) := by
 cases hi : isIntsK ag T with
 | true => obtain ⟨rfl, kk, rfl⟩ := zc.1 hi; rfl
 | false =>
  rw [zo hi, zo hi]
  simp only [emptyOf]
  rw [gds]
  exact ⟨nl.2 Ty.size_pos, rfl⟩
theorem zkr {u v : Value} (h : sameLit u v = true) : CellPV false (.lit v) (.lit v) := by
 unfold sameLit at h
 split at h
 ·exact .inl ⟨_, _, rfl, rfl⟩
 ·exact .inr (.inl ⟨_, rfl, rfl⟩)
 ·exact .inr (.inr (.inl ⟨_, rfl, rfl⟩))
 ·cases h
theorem zmX (ag : Bool) (T : Ty) (xs : List (den T)) : (∃ k ys, pvSl ag T xs = .ints k ys) ∨ ∃ e ys, pvSl ag T xs = .sl e ys := by
 cases hi : isIntsK ag T with
 | true => obtain ⟨rfl, kk, rfl⟩ := zc.1 hi; exact .inl ⟨kk, xs, rfl⟩
 | false => exact .inr ⟨_, _, zo hi xs⟩
theorem zgO {t : TypeId} {m : Mem} {b g i c e : Nat} {bx : Box} {xs : List PV} {hs hs' : List (Nat × Nat × AV)} {p y : PV} {x : AV} (hb : boxO? m b g = some bx) (hr : bx.row = .own e xs hs) (hn : tsz P t = some 1) (hf : bx.frz = false) (ho : oneA x = true)
  (hx : ∀ v, x ≠ .lit v) (hp : xs[i]? = some p) (hy : p.cells[c]? = some y) (hyy : (∃ k ys, y = .ints k ys) ∨ ∃ e ys, y = .sl e ys) (hfr : freeC i c hs = some hs') :
  storeO P t m (.ptr b g i c) x = some { v := .lit undef, rd := [b], wr := [(b, { bx with row := .own e xs ((i, c, x) :: hs') })] } := by
 simp only [storeO, hb, hr, hn, hf, ho, yc, hp, hy]
 rw [gds]
 refine ⟨rfl, ?_⟩
 rcases hyy with ⟨k, ys, rfl⟩ | ⟨e', ys, rfl⟩ <;> cases x <;> first | exact absurd rfl (hx _) | simp only [hfr, yk]
theorem zmG {t : TypeId} {m : Mem} {b g i c e : Nat} {bx : Box} {xs : List PV} {hs hs' : List (Nat × Nat × AV)} {p y y' : PV} (hb : boxO? m b g = some bx) (hr : bx.row = .own e xs hs) (hn : tsz P t = some 1) (hf : bx.frz = false)
  (hp : xs[i]? = some p) (hy : p.cells[c]? = some y) (hyy : (∃ k ys, y = .ints k ys) ∨ ∃ e ys, y = .sl e ys) (he : emptyOf y = some y') (hfr : freeC i c hs = some hs') :
  storeO P t m (.ptr b g i c) (.lit (.slice none 0 0)) = some { v := .lit undef, rd := [b], wr := [(b, { bx with row := .own e (xs.set i (putPV p c y')) hs' })] } := by
 simp only [storeO, hb, hr, hn, hf, yc, hp, hy]
 rw [gds]
 refine ⟨rfl, ?_⟩
 rcases hyy with ⟨k, ys, rfl⟩ | ⟨e', ys, rfl⟩ <;> simp only [he, yc, hfr, yk]
theorem zlL (ht : TabOK P tab) {t : TypeId} {a x : KV} {k : KOut → Option R} (h : storeOK (real R) tab t mem a x k = some r) : ∃ out, k out = some r ∧ storeO P t (kdown mem) a.down x.down = some out.down := by
 unfold storeOK at h
 split at h
 ·rename_i ti hti
  have hok := TIok.of (ht _ _ hti)
  split at h
  ·rename_i b g i c
   obtain ⟨bx, hbx, h⟩ := zaa h
   split at h
   ·rename_i T xs hs hrow
    rw [cds] at h
    obtain ⟨hg, h⟩ := h
    simp only [yb, yt] at hg
    obtain ⟨⟨g1, g2⟩, g3⟩ := hg
    simp only [real_getN] at h
    rw [obs] at h
    obtain ⟨p, hp, h⟩ := h
    have hn : tsz P t = some 1 := by rw [hok.n, nb.1 g1]
    have hd : bx.down.row = .own T.size (xs.map (pvEl (agOf T) T)) (holesD hs) := by rw [show bx.down.row = bx.row.down from rfl, hrow]; rfl
    have hp' : (xs.map (pvEl (agOf T) T))[i]? = some (pvEl (agOf T) T p) := by rw [yc1, hp]; rfl
    split at h
    ·rename_i u hcell
     rw [zf] at hcell
     obtain ⟨y, hy, hcy⟩ := (CellsR.of false T p).2 _ _ hcell
     have hcy' : y = .lit u := by
      rcases hcy with ⟨_, _, e, rfl⟩ | ⟨_, e, rfl⟩ | ⟨_, e, rfl⟩ | ⟨_, _, _, e, _⟩ <;> cases e <;> rfl
     subst hcy'
     split at h
     ·rename_i v
      rw [cds] at h
      obtain ⟨hs1, h⟩ := h
      simp only [yb] at hs1
      have hlt : c < (pvCells T p).length := (ye.1 hy).1
      rw [zdL] at h
      obtain ⟨z, _, _, h, hz⟩ := zbk ((CellsR.of false T p).set (zkr hs1.1) c) h
      refine ⟨_, h, ?_⟩
      simp only [KV.down, storeO, hbx, hd, hn, yc, hp', zr, hy, show bx.down.frz = bx.frz from rfl, g2]
      rw [gds]
      refine ⟨zcx g3, ?_⟩
      rw [gds]
      refine ⟨?_, ?_⟩
      ·rw [yb, findCD, zdh, ← zeg]; exact hs1
      ·rw [zhZ hlt hz, zmW]; rfl
     ·cases h
    ·rename_i β ag' T' ys hcell
     rw [zf] at hcell
     obtain ⟨y, hy, hcy⟩ := (CellsR.of false T p).2 _ _ hcell
     have hcy' : y = pvSl ag' T' ys := by
      rcases hcy with ⟨_, _, e, _⟩ | ⟨_, e, _⟩ | ⟨_, e, _⟩ | ⟨_, _, _, e, rfl⟩ <;> cases e
      rfl
     have hy' : (pvEl (agOf T) T p).cells[c]? = some y := by rw [zr]; exact hy
     have hyy : (∃ k ys, y = .ints k ys) ∨ ∃ e ys, y = .sl e ys := by rw [hcy']; exact zmX _ _ _
     split at h
     ·obtain ⟨hs', h, hfr⟩ := zeI h
      have hlt : c < (pvCells T p).length := (ye.1 hy).1
      rw [zdL] at h
      obtain ⟨z, _, _, h, hz⟩ := zbk ((CellsR.of false T p).set (v := .tsl false ag' T' []) (q := pvSl ag' T' []) (.inr (.inr (.inr ⟨_, _, _, rfl, rfl⟩))) c) h
      refine ⟨_, h, ?_⟩
      have := zmG (P := P) hbx hd hn g2 hp' hy' hyy (by rw [hcy']; exact zmF _ _ _) hfr
      rw [zhZ hlt hz, zmW] at this
      exact this
     ·obtain ⟨hs', h, hfr⟩ := zeI h
      exact ⟨_, h, zgO (P := P) hbx hd hn g2 (zcx g3) (by simp [KV.down]) hp' hy' hyy hfr⟩
     ·obtain ⟨hs', h, hfr⟩ := zeI h
      exact ⟨_, h, zgO (P := P) hbx hd hn g2 (zcx g3) (by simp [KV.down]) hp' hy' hyy hfr⟩
     ·cases h
    ·cases h
   ·cases h
  ·cases h
 ·cases h
theorem zoW (ht : TabOK P tab) {t : TypeId} {x : KV} {k : KOut → Option R} (h : lenOK tab t mem x k = some r) : ∃ out, k out = some r ∧ lenO P t (kdown mem) x.down = some out.down := by
 unfold lenOK at h
 split at h
 ·rename_i ti hti
  have hok := TIok.of (ht _ _ hti)
  split at h
  ·rename_i et b g hk
   obtain ⟨bx, hbx, h⟩ := zaa h
   split at h
   ·rename_i T xs hs hrow
    refine ⟨_, h, ?_⟩
    simp only [KV.down, lenO, hok.under_sl hk, hbx, yk, show bx.down.row = bx.row.down from rfl, zdf, hrow]
    rfl
   ·cases h
  ·cases h
 ·cases h
theorem zmc (ht : TabOK P tab) {t : TypeId} {x : KV} {i : Int} {k : KOut → Option R} (h : indexOK (real R) tab t mem x i k = some r) : ∃ out, k out = some r ∧ indexO P t (kdown mem) x.down i = some out.down := by
 unfold indexOK at h
 have h0 := zal ht h
 clear h
 obtain ⟨et, te, het, hte, h, hu⟩ := h0
 have hoe := TIok.of (ht _ _ hte)
 split at h
 ·rename_i b g o n
  obtain ⟨bx, hbx, h⟩ := zaa h
  rw [cds] at h
  obtain ⟨hn, h⟩ := h
  simp only [real_guard] at h
  rw [cds] at h
  refine ⟨_, h.2, ?_⟩
  simp only [indexO, KV.down, hu, hoe.n, yc, hbx, show bx.down.row = bx.row.down from rfl, zeF, gds, hn, h.1, ym3]
  exact ⟨by simp, rfl⟩
 ·rename_i b g
  obtain ⟨bx, hbx, h⟩ := zaa h
  rw [cds] at h
  obtain ⟨hn, h⟩ := h
  simp only [real_guard] at h
  rw [cds] at h
  refine ⟨_, h.2, ?_⟩
  simp only [indexO, KV.down, hu, hoe.n, yc, hbx, show bx.down.row = bx.row.down from rfl, zeF, zdf, gds, hn, h.1, ym3]
  exact ⟨by simp, rfl⟩
 ·cases h
theorem zmA (ht : TabOK P tab) {t : TypeId} {x : KV} {lo hi mx : Option Int} {k : KOut → Option R} (h : sliceOK (real R) tab t mem x lo hi mx k = some r) : ∃ out, k out = some r ∧ sliceO P t (kdown mem) x.down lo hi mx = some out.down := by
 unfold sliceOK at h
 have h0 := zal ht h
 clear h
 obtain ⟨et, te, het, hte, h, hu⟩ := h0
 have hoe := TIok.of (ht _ _ hte)
 split at h
 ·rename_i b g o n
  obtain ⟨bx, hbx, h⟩ := zaa h
  rw [cds] at h
  obtain ⟨hn, h⟩ := h
  obtain ⟨q, hq, h⟩ := zai h
  refine ⟨_, h, ?_⟩
  simp only [sliceO, KV.down, hu, hoe.n, yc, hbx, show bx.down.row = bx.row.down from rfl, zeF, gds, hn, hq, yk]
  exact ⟨trivial, rfl⟩
 ·rename_i b g
  obtain ⟨bx, hbx, h⟩ := zaa h
  rw [cds] at h
  obtain ⟨hn, h⟩ := h
  obtain ⟨q, hq, h⟩ := zai h
  refine ⟨_, h, ?_⟩
  simp only [sliceO, KV.down, hu, hoe.n, yc, hbx, show bx.down.row = bx.row.down from rfl, zeF, zdf, gds, hn, hq, yk]
  exact ⟨trivial, rfl⟩
 ·cases h
theorem znY {ag : Bool} {T : Ty} {l : LK} (hc : chkLs P (.sl ag T) [l] = true) : (∃ k, l = .ints k ∧ ag = false ∧ T = .int k) ∨ (∃ t, l = .sl t T.size ∧ isIntsK ag T = false) := by
 simp only [chkLs] at hc
 split at hc
 ·rename_i k hk
  obtain rfl := (yz hk).1
  cases ag with
  | true => simp at hc
  | false =>
   cases T with
   | int k' => simp only at hc; obtain rfl := keq.1 hc; exact .inl ⟨k, rfl, rfl, rfl⟩
   | _ => simp at hc
 ·rename_i t e hk
  obtain rfl := (yz hk).1
  simp only [yb, yt] at hc
  obtain rfl := nb.1 hc.1.1.1.1
  exact .inr ⟨t, rfl, hc.1.1.1.2⟩
 ·cases hc
theorem zgu {T : Ty} {l : LK} (hc : chkLs P T [l] = true) : (∀ k, T = .int k → l = .int k) ∧ (T = .bool → l = .bool) ∧ (T = .str → l = .str) := by
 refine ⟨?_, ?_, ?_⟩
 ·rintro k rfl
  simp only [chkLs] at hc
  split at hc
  ·rename_i k' hk; obtain rfl := (yz hk).1; rw [keq.1 hc]
  ·cases hc
 ·rintro rfl
  simp only [chkLs] at hc
  split at hc
  ·rename_i hk; exact (yz hk).1
  ·cases hc
 ·rintro rfl
  simp only [chkLs] at hc
  split at hc
  ·rename_i hk; exact (yz hk).1
  ·cases hc
theorem znf {T : Ty} {l : LK} {v : KV} {j c : Nat} {a : KV × Holes} (hc : chkLs P T [l] = true) (h : cellOK T v j c = some a) :
  ∃ q, cellO l v.down j c = some (q, holesD a.2) ∧ CellPV false a.1 q := by
 have hole : ∀ {ag : Bool} {T : Ty} {w : AV} (hw : (∃ b g, w = .msw b g) ∨ (∃ b g o n, w = .ms b g o n)) (hc : chkLs P (.sl ag T) [l] = true), cellO l w j c = some (pvSl ag T [], [(j, c, w)]) := by
  intro ag T w hw hc
  rcases znY hc with ⟨k, rfl, rfl, rfl⟩ | ⟨t, rfl, hi⟩
  ·rcases hw with ⟨b, g, rfl⟩ | ⟨b, g, o, n, rfl⟩ <;> rfl
  ·rw [zo hi]
   rcases hw with ⟨b, g, rfl⟩ | ⟨b, g, o, n, rfl⟩
   ·simp only [cellO]; rw [gds]; exact ⟨nl.2 Ty.size_pos, rfl⟩
   ·simp only [cellO]; rw [gds]; exact ⟨nl.2 Ty.size_pos, rfl⟩
 unfold cellOK at h
 split at h
 ·rename_i k k' x
  rw [cds] at h
  obtain ⟨hk, h⟩ := h
  obtain rfl := ya h
  obtain rfl := keq.1 hk
  rw [(zgu hc).1 _ rfl]
  refine ⟨.lit (.int k x), ?_, .inl ⟨_, _, rfl, rfl⟩⟩
  simp only [KV.down, cellO]; rw [gds]; exact ⟨hk, rfl⟩
 ·obtain rfl := ya h
  rw [(zgu hc).2.1 rfl]
  exact ⟨_, rfl, .inr (.inl ⟨_, rfl, rfl⟩)⟩
 ·obtain rfl := ya h
  rw [(zgu hc).2.2 rfl]
  exact ⟨_, rfl, .inr (.inr (.inl ⟨_, rfl, rfl⟩))⟩
 ·rename_i ag T
  obtain rfl := ya h
  refine ⟨pvSl ag T [], ?_, .inr (.inr (.inr ⟨_, _, _, rfl, rfl⟩))⟩
  rcases znY hc with ⟨k, rfl, rfl, rfl⟩ | ⟨t, rfl, hi⟩
  ·rfl
  ·rw [zo hi]
   simp only [KV.down, cellO]; rw [gds]; exact ⟨nl.2 Ty.size_pos, rfl⟩
 ·rename_i ag T b g
  obtain rfl := ya h
  exact ⟨pvSl ag T [], hole (.inl ⟨_, _, rfl⟩) hc, .inr (.inr (.inr ⟨_, _, _, rfl, rfl⟩))⟩
 ·rename_i ag T b g o n
  obtain rfl := ya h
  exact ⟨pvSl ag T [], hole (.inr ⟨_, _, _, _, rfl⟩) hc, .inr (.inr (.inr ⟨_, _, _, rfl, rfl⟩))⟩
 ·cases h
theorem zhT : ∀ {Ts : List Ty} {ls : List LK} {vs : List KV} {j c : Nat} {a : List KV × Holes}, lks P Ts ls = true → elOK Ts vs j c = some a → ∃ qs, elO ls (KV.downs vs) j c = some (qs, holesD a.2) ∧ CellsR false a.1 qs
 | [], [], [], j, c, a, hc, h => by
  obtain rfl := ya h
  exact ⟨[], rfl, rfl, fun j v hj => by cases hj⟩
 | T :: Ts, l :: ls, v :: vs, j, c, a, hc, h => by
  simp only [lks, yb] at hc
  simp only [elOK] at h
  split at h
  ·rename_i a1 h1
   split at h
   ·rename_i a2 h2
    obtain rfl := ya h
    obtain ⟨q, hq, hcp⟩ := znf hc.1 h1
    obtain ⟨qs, hqs, hcs⟩ := zhT hc.2 h2
    refine ⟨q :: qs, ?_, ?_, ?_⟩
    ·simp only [KV.downs, elO, hq, yc, hqs, yk, zbf]
    ·simp only [yh2, hcs.1]
    ·intro j v hj
     cases j with
     | zero => obtain rfl := ya hj; exact ⟨q, rfl, hcp⟩
     | succ j => exact hcs.2 j v (by simpa using hj)
   ·cases h
  ·cases h
 | [], _ :: _, _, _, _, _, hc, h => by cases hc
 | _ :: _, [], _, _, _, _, hc, h => by cases hc
 | [], _, _ :: _, _, _, _, _, h => by cases h
 | _ :: _, _, [], _, _, _, _, h => by cases h
theorem zcw {t : TypeId} {T : Ty} {ls : List LK} (hc : chkLs P T ls = true) (ha : isAgg? P t = some (agOf T)) (hs : agOf T = false → T.size = 1) : ∀ {css : List (List KV)} {j : Nat} {k : List (den T) → Holes → Option R}, elsOK (real R) T css j k = some r →
  ∃ xs hs, k xs hs = some r ∧ elsO P t ls (css.map KV.downs) j = some (xs.map (pvEl (agOf T) T), holesD hs)
 | [], j, k, h => ⟨[], [], h, rfl⟩
 | cs :: css, j, k, h => by
  simp only [elsOK] at h
  split at h
  ·rename_i a h1
   obtain ⟨qs, hq, hcr⟩ := zhT (zkj hc) h1
   obtain ⟨x, _, _, h, hx⟩ := zbk hcr h
   obtain ⟨xs, hs', h, hxs⟩ := zcw hc ha hs h
   refine ⟨x :: xs, a.2 ++ hs', h, ?_⟩
   simp only [yu1, elsO, hq, yc, ← hx, zcE ha hs, hxs, yk, zbf]
  ·cases h
theorem zcM {n : Nat} : ∀ {hs : Holes} {k : Option R}, holesLtK (real R) n hs k = some r → k = some r ∧ holesLt n (holesD hs) = true
 | [], k, h => ⟨h, rfl⟩
 | (i, c, v) :: hs, k, h => by
  simp only [holesLtK, real_guard] at h
  rw [cds] at h
  obtain ⟨hk, hl⟩ := zcM h.2
  exact ⟨hk, by simp only [holesD, holesLt, h.1, hl, yk3]⟩
theorem zdD (e n : Nat) (cs : List KV) : chunks e n (KV.downs cs) = (chunks e n cs).map KV.downs := by
 rw [zy, zfa]
 congr 1
 funext l
 exact (zy l).symm
theorem zka (ht : TabOK P tab) {own : Bool} {t tx : TypeId} {rs : Nat} {x y : KV} {k : KOut → Option R} (h : appendOK (real R) tab own t tx mem rs x y k = some r) :
  ∃ out, k out = some r ∧ appendO P own t tx (kdown mem) rs x.down y.down = some out.down := by
 unfold appendOK at h
 have h0 := zal ht h
 clear h
 obtain ⟨et, te, het, hte, h0, hu⟩ := h0
 have hoe := TIok.of (ht _ _ hte)
 have h := zgs ht h0
 clear h0
 obtain ⟨yr, yrd, h, hyv⟩ := h
 split at h
 ·rename_i e cs
  split at h
  ·rename_i T hT
   rw [cds] at h
   obtain ⟨hg, h⟩ := h
   simp only [yb] at hg
   obtain ⟨⟨⟨⟨⟨⟨g1, g2⟩, g3⟩, g4⟩, g5⟩, g6⟩, g7⟩ := hg
   obtain ⟨⟨ls, hls, hc⟩, hn, hag, _⟩ := hoe.ty T hT
   have g7 := bbq.1 g7
   have hz := hoe.zero_eq.1
   have ha := hoe.ag
   rw [g7] at ha hag
   have pre : ∀ {res : Option Out} {o : Out}, res = some o → (match x.down with
     | .lit (.slice none 0 0) => guardB own ((elsO P et ls (chunks te.n (countBy te.n cs.length) (KV.downs cs)) 0).bind fun q => guardB (Nat.ble 1 q.1.length && Nat.ble q.1.length mostLen)
       (some { v := .msw rs 0, rd := yrd, wr := [(rs, { gen := 0, frz := false, row := .own te.n q.1 q.2 })] }))
     | .msw b g => (boxO? (kdown mem) b g).bind fun bx => match bx.row with
      | .own e' xs hs => (elsO P et ls (chunks te.n (countBy te.n cs.length) (KV.downs cs)) xs.length).bind fun q => guardB (!bx.frz && Nat.beq te.n e' && holesLt xs.length hs && Nat.ble (xs ++ q.1).length mostLen)
        (some { v := .msw b (g + 1), rd := b :: yrd, wr := [(b, { gen := g + 1, frz := false, row := .own e' (xs ++ q.1) (hs ++ q.2) })] })
      | _ => none
     | .ms b g 0 n => (boxO? (kdown mem) b g).bind fun bx => match bx.row with
      | .own e' xs hs => (elsO P et ls (chunks te.n (countBy te.n cs.length) (KV.downs cs)) n).bind fun q => guardB (!bx.frz && Nat.beq te.n e' && Nat.ble n xs.length && holesLt n hs && Nat.ble (xs.take n ++ q.1).length mostLen)
        (some { v := .msw b (g + 1), rd := b :: yrd, wr := [(b, { gen := g + 1, frz := false, row := .own e' (xs.take n ++ q.1) (hs ++ q.2) })] })
      | _ => none
     | _ => none) = res → appendO P own t tx (kdown mem) rs x.down y.down = some o := by
    intro res o hres hm
    unfold appendO
    simp only [het, yc, hoe.n, hoe.bytes, hz, hls, hyv, KRow.view]
    rw [gds]
    refine ⟨?_, ?_⟩
    ·simp only [yb]
     refine ⟨⟨⟨⟨⟨⟨g1, zeR ht g2⟩, g3⟩, g4⟩, ?_⟩, ?_⟩, zab g6⟩
     ·rw [(zeroCells hoe).1, zb, (zeroCells hoe).2.2]; exact g5
     ·rw [zR hc, hn]; exact nb.2 rfl
    ·rw [zb]; exact hm.trans hres
   split at h
   ·rw [cds] at h
    obtain ⟨ho, h⟩ := h
    obtain ⟨xs, hs, h, he⟩ := zcw (t := et) hc ha hag h
    rw [real_guard, cds] at h
    refine ⟨_, h.2, pre (o := (KOut.mk (.msw rs 0) yrd [(rs, ⟨0, false, .os T xs hs⟩)] []).down) rfl ?_⟩
    simp only [KV.down, zdD, he, yc]
    rw [gds]
    refine ⟨ho, ?_⟩
    rw [gds]
    refine ⟨by rw [yf1]; exact h.1, ?_⟩
    rw [← hn]; rfl
   ·rename_i b g
    obtain ⟨bx, hbx, h⟩ := zaa h
    split at h
    ·rename_i T' xs hs hrow
     obtain ⟨zs, hs', h, he⟩ := zcw (t := et) hc ha hag h
     split at h
     ·rename_i ys hys
      obtain ⟨rfl, rfl⟩ := zN hys
      rw [cds] at h
      obtain ⟨hg, h⟩ := h
      simp only [yb, yt] at hg
      obtain ⟨h, hlt⟩ := zcM h
      rw [real_guard, cds] at h
      have hd : bx.down.row = .own T.size (xs.map (pvEl (agOf T) T)) (holesD hs) := by rw [show bx.down.row = bx.row.down from rfl, hrow]; rfl
      refine ⟨_, h.2, pre (o := (KOut.mk (.msw b (g + 1)) (b :: yrd) [(b, ⟨g + 1, false, .os T (xs ++ zs) (hs ++ hs')⟩)] []).down) rfl ?_⟩
      simp only [KV.down, hbx, yc, hd, zdD, yf1, he]
      rw [gds]
      refine ⟨?_, ?_⟩
      ·simp only [yb, yt, show bx.down.frz = bx.frz from rfl]
       refine ⟨⟨⟨hg.1, nb.2 hn.symm⟩, hlt⟩, ?_⟩
       have h1 := h.1
       simp only [yi1] at h1
       simp only [yi1, yf1]
       exact h1
      ·simp only [KOut.down, yu1, yp3, KBox.down, KRow.down, yl3, zbf]; rfl
     ·cases h
    ·cases h
   ·rename_i b g o n
    rw [real_guard, cds] at h
    obtain ⟨ho, h⟩ := h
    obtain rfl := nb.1 ho
    obtain ⟨bx, hbx, h⟩ := zaa h
    split at h
    ·rename_i T' xs hs hrow
     obtain ⟨zs, hs', h, he⟩ := zcw (t := et) hc ha hag h
     split at h
     ·rename_i ys hys
      obtain ⟨rfl, rfl⟩ := zN hys
      rw [cds] at h
      obtain ⟨hg, h⟩ := h
      simp only [yb, yt] at hg
      rw [real_guard, cds] at h
      obtain ⟨hnl, h⟩ := h
      obtain ⟨h, hlt⟩ := zcM h
      rw [real_guard, cds] at h
      have hd : bx.down.row = .own T.size (xs.map (pvEl (agOf T) T)) (holesD hs) := by rw [show bx.down.row = bx.row.down from rfl, hrow]; rfl
      refine ⟨_, h.2, pre (o := (KOut.mk (.msw b (g + 1)) (b :: yrd) [(b, ⟨g + 1, false, .os T (xs.take n ++ zs) (hs ++ hs')⟩)] []).down) rfl ?_⟩
      simp only [KV.down, hbx, yc, hd, zdD, he]
      rw [gds]
      refine ⟨?_, ?_⟩
      ·simp only [yb, yt, show bx.down.frz = bx.frz from rfl]
       refine ⟨⟨⟨⟨hg.1, nb.2 hn.symm⟩, by rw [yf1]; exact hnl⟩, hlt⟩, ?_⟩
       have h1 := h.1
       simp only [yi1, yn2] at h1
       simp only [yi1, yf1, yn2]
       exact h1
      ·simp only [KOut.down, yu1, yp3, KBox.down, KRow.down, yl3, yz2, zbf]; rfl
     ·cases h
    ·cases h
   ·cases h
  ·cases h
 ·cases h
theorem ziF (ht : TabOK P tab) {t : TypeId} {rs : Nat} {k : KOut → Option R} (h : moveOK tab t rs k = some r) : ∃ out, k out = some r ∧ moveO P t rs = some out.down := by
 unfold moveOK at h
 have h0 := zal ht h
 clear h
 obtain ⟨et, te, het, hte, h, hu⟩ := h0
 have hoe := TIok.of (ht _ _ hte)
 split at h
 ·rename_i T hT
  rw [cds] at h
  obtain ⟨_, hn, _, _⟩ := hoe.ty T hT
  refine ⟨_, h.2, ?_⟩
  simp only [moveO, het, yc, hoe.n]
  rw [gds]
  refine ⟨by rw [← hn]; exact nl.2 Ty.size_pos, ?_⟩
  rw [← hn]; rfl
 ·cases h
theorem zmQ (ht : TabOK P tab) {t : TypeId} {rs : Nat} {l c : KV} {ρ : Operand → Option AV} {ol oc : Operand} {k : KOut → Option R} (hl : ρ ol = some l.down) (hcc : ρ oc = some c.down) (h : makeOK (real R) tab rs t l c k = some r) :
  ∃ out, k out = some r ∧ makeO P ρ (kdown mem) rs t ol oc = some out.down := by
 unfold makeOK at h
 have h0 := zal ht h
 clear h
 obtain ⟨et, te, het, hte, h, hu⟩ := h0
 have hoe := TIok.of (ht _ _ hte)
 split at h
 ·rename_i k1 n k2 n'
  split at h
  ·rename_i T hT
   rw [cds] at h
   obtain ⟨hg, h⟩ := h
   simp only [yb] at hg
   obtain ⟨⟨⟨⟨g1, g2⟩, g3⟩, g4⟩, g5⟩ := hg
   have g5 := bbq.1 g5
   obtain ⟨⟨ls, hls, hc⟩, hn, hag, _⟩ := hoe.ty T hT
   have ha := hoe.ag
   rw [g5] at ha hag
   split at h
   ·rename_i a h1
    obtain ⟨qs, hq, hcr⟩ := zhT (zkj hc) h1
    split at h
    ·rename_i ha2
     obtain ⟨z, _, _, h, hz⟩ := zbk hcr h
     rw [real_guard, cds] at h
     refine ⟨_, h.2, ?_⟩
     have hzc : (zeroK te).down.cells = KV.downs (te.zero.map .lit) := by rw [(zeroCells hoe).1, (zeroCells hoe).2.1]
     unfold makeO
     simp only [het, yc, hoe.zero_eq.1, hl, hcc, hls, KV.down]
     rw [gds]
     refine ⟨h.1, ?_⟩
     rw [hzc, hq]
     simp only [yc, ← hz, zcE ha hag, hoe.n, hoe.bytes]
     rw [gds]
     refine ⟨?_, ?_⟩
     ·simp only [yb]
      exact ⟨⟨⟨⟨g1, g2⟩, by rw [zb, yf1]; exact g3⟩, zab g4⟩, by rw [ha2]; rfl⟩
     ·simp only [KOut.down, yu1, yp3, KBox.down, KRow.down, List.map_replicate, hn]; rfl
    ·cases h
   ·cases h
  ·cases h
 ·cases h
theorem zdX : ∀ vs : List KV, (KV.downs vs).map AV.cells = (cellsEachK vs).map KV.downs
 | [] => rfl
 | v :: vs => by simp only [KV.downs, yu1, cellsEachK, zW, zdX vs]
theorem zlA (ht : TabOK P tab) {env : Nat → KV} {tmps : List AV} (he : EnvR env tmps) {rs : Nat} {t : TypeId} {len : Nat} {parts : Array (Nat × Operand)} {k : KOut → Option R}
  (h : buildOK (real R) tab env rs t len parts k = some r) : ∃ out, k out = some r ∧ buildO P (evalA tmps) (kdown mem) rs t len parts = some out.down := by
 unfold buildOK at h
 have h0 := zal ht h
 clear h
 obtain ⟨et, te, het, hte, h, hu⟩ := h0
 have hoe := TIok.of (ht _ _ hte)
 have h0 := zcS he h
 clear h
 obtain ⟨ps, hps, h⟩ := h0
 simp only at h
 split at h
 ·rename_i T hT
  rw [cds] at h
  obtain ⟨hg, h⟩ := h
  simp only [yb] at hg
  obtain ⟨⟨⟨⟨⟨⟨⟨g1, g2⟩, g3⟩, g4⟩, g5⟩, g6⟩, g7⟩, g8⟩ := hg
  have g8 := bbq.1 g8
  obtain ⟨⟨ls, hls, hc⟩, hn, hag, _⟩ := hoe.ty T hT
  have ha := hoe.ag
  rw [g8] at ha hag
  obtain ⟨xs, hs, h, hel⟩ := zcw (t := et) hc ha hag h
  refine ⟨_, h, ?_⟩
  unfold buildO
  rw [het]; simp only [yc, hoe.zero_eq.1, hoe.n, hps, hls]
  rw [gds]
  constructor
  ·simp only [yb]
   refine ⟨⟨⟨⟨⟨⟨zdj g1, g2⟩, g3⟩, g4⟩, ?_⟩, ?_⟩, g6⟩
   ·have : (zeroK te).down :: (dparts ps).map (·.2) = KV.downs (zeroK te :: ps.map (·.2)) := by simp [KV.downs, dparts, zy]
    rw [this]; exact zcN g5
   ·rw [zR hc, hn]; exact nb.2 rfl
  ·rw [← zjo, ← zdA, zdX, hel]
   simp only [yc]
   rw [gds]
   refine ⟨by rw [zcb]; exact zab g7, ?_⟩
   rw [← hn]; rfl
 ·cases h
theorem zfQ {ρ : Operand → Option AV} {p : AV → Bool} {x : Operand} {v : AV} (h : ρ x = some v) : askO ρ p x = p v := by unfold askO; rw [h]
theorem zpC (ht : TabOK P tab) (hC : AskOK C tbl) {own tk boxed raw vars : Bool} {o : Oper} {env : Nat → KV} {tmps : List AV} (he : EnvR env tmps) {rs : Nat} {k : KOut → Option R} (h : opXK (real R) tab tbl own tk boxed raw vars o env mem rs k = some r) :
  ∃ out, k out = some r ∧ opX P C own tk boxed raw vars o (evalA tmps) (kdown mem) rs = some out.down := by
 have plain : isOwnOp own (evalA tmps) (kdown mem) o.op = false → opK (real R) tab tbl boxed raw vars o env mem rs k = some r → ∃ out, k out = some r ∧ opX P C own tk boxed raw vars o (evalA tmps) (kdown mem) rs = some out.down := by
  intro hi h
  obtain ⟨out, h, hop⟩ := znX ht hC he h
  exact ⟨out, h, by unfold opX; rw [hi]; exact hop⟩
 have isO : ∀ {out : KOut}, isOwnOp own (evalA tmps) (kdown mem) o.op = true → opO P own tk o (evalA tmps) (kdown mem) rs = some out.down → opX P C own tk boxed raw vars o (evalA tmps) (kdown mem) rs = some out.down := by
  intro out hi ho
  unfold opX; rw [hi]; exact ho
 unfold opXK at h
 split at h
 ·rename_i x hop
  cases hx : own && isNilC x with
  | true =>
   rw [hx] at h
   obtain ⟨out, h, hm⟩ := ziF ht h
   exact ⟨out, h, isO (by rw [hop]; exact hx) (by unfold opO; rw [hop]; exact hm)⟩
  | false => rw [hx] at h; exact plain (by rw [hop]; exact hx) h
 ·rename_i x hop
  cases hx : own && isNilC x with
  | true =>
   rw [hx] at h
   obtain ⟨out, h, hm⟩ := ziF ht h
   exact ⟨out, h, isO (by rw [hop]; exact hx) (by unfold opO; rw [hop]; exact hm)⟩
  | false => rw [hx] at h; exact plain (by rw [hop]; exact hx) h
 ·rename_i t len parts hop
  cases own with
  | true =>
   obtain ⟨out, h, hm⟩ := zlA ht he h
   exact ⟨out, h, isO (by rw [hop]; rfl) (by unfold opO; rw [hop]; exact hm)⟩
  | false => exact plain (by rw [hop]; rfl) h
 ·rename_i t l c hop
  cases own with
  | true =>
   simp only [yg] at h
   obtain ⟨l', hl, h, _⟩ := zd he h
   obtain ⟨c', hc, h, _⟩ := zd he h
   obtain ⟨out, h, hm⟩ := zmQ (mem := mem) ht hl hc h
   exact ⟨out, h, isO (by rw [hop]; rfl) (by unfold opO; rw [hop]; exact hm)⟩
  | false => exact plain (by rw [hop]; rfl) h
 ·rename_i t a hop
  obtain ⟨v, hv, h, _⟩ := zd he h
  have hi : isOwnOp own (evalA tmps) (kdown mem) o.op = ownPK mem v := by rw [hop]; show askO _ _ _ = _; rw [zfQ hv, zjB]
  cases ho : ownPK mem v with
  | true =>
   rw [ho] at h hi
   obtain ⟨out, h, hm⟩ := zni ht h
   exact ⟨out, h, isO hi (by unfold opO; rw [hop]; simp only [hv, yc]; exact hm)⟩
  | false => rw [ho] at h hi; exact plain hi h
 ·rename_i t a x hop
  obtain ⟨v, hv, h, _⟩ := zd he h
  have hi : isOwnOp own (evalA tmps) (kdown mem) o.op = ownPK mem v := by rw [hop]; show askO _ _ _ = _; rw [zfQ hv, zjB]
  cases ho : ownPK mem v with
  | true =>
   rw [ho] at h hi
   simp only [yg] at h
   obtain ⟨x', hx, h, _⟩ := zd he h
   obtain ⟨out, h, hm⟩ := zlL ht h
   exact ⟨out, h, isO hi (by unfold opO; rw [hop]; simp only [hv, hx, yc]; exact hm)⟩
  | false => rw [ho] at h hi; exact plain hi h
 ·rename_i t x lo hi' mx hop
  obtain ⟨v, hv, h, _⟩ := zd he h
  have hi : isOwnOp own (evalA tmps) (kdown mem) o.op = ownSK mem v := by rw [hop]; show askO _ _ _ = _; rw [zfQ hv, zgt]
  cases ho : ownSK mem v with
  | true =>
   rw [ho] at h hi
   simp only [yg] at h
   obtain ⟨lo, hlo, h⟩ := zct he h
   obtain ⟨hi2, hhi, h⟩ := zct he h
   obtain ⟨mx, hmx, h⟩ := zct he h
   obtain ⟨out, h, hm⟩ := zmA ht h
   exact ⟨out, h, isO hi (by unfold opO; rw [hop]; simp only [hv, hlo, hhi, hmx, yc]; exact hm)⟩
  | false => rw [ho] at h hi; exact plain hi h
 ·rename_i t x ix hop
  obtain ⟨v, hv, h, _⟩ := zd he h
  have hi : isOwnOp own (evalA tmps) (kdown mem) o.op = ownSK mem v := by rw [hop]; show askO _ _ _ = _; rw [zfQ hv, zgt]
  cases ho : ownSK mem v with
  | true =>
   rw [ho] at h hi
   simp only [yg] at h
   obtain ⟨iv, hiv, h, _⟩ := zd he h
   split at h
   ·rename_i kd i
    obtain ⟨out, h, hm⟩ := zmc ht h
    exact ⟨out, h, isO hi (by unfold opO; rw [hop]; simp only [hv, hiv, yc]; exact hm)⟩
   ·cases h
  | false => rw [ho] at h hi; exact plain hi h
 ·rename_i c hop
  split at h
  ·rename_i hcal
   obtain ⟨args, hargs, h, _⟩ := zaX he h
   split at h
   ·rename_i t x hts _hgn
    have hi : isOwnOp own (evalA tmps) (kdown mem) o.op = ownWK mem x := by
     rw [hop]
     show (match c.callee, c.args.toList with
      | .builtin .len, [x] => askO (evalA tmps) (ownW (kdown mem)) x
      | .builtin .append, [x, _] => own || askO (evalA tmps) (ownS (kdown mem)) x
      | _, _ => false) = _
     rw [hcal]
     cases hl : c.args.toList with
     | nil => rw [hl] at hargs; cases hargs
     | cons a as =>
      rw [hl] at hargs
      simp only [allA, obs, KV.downs] at hargs
      obtain ⟨w, hw, hargs⟩ := hargs
      rw [yd] at hargs
      obtain ⟨ws, hws, e⟩ := hargs
      obtain ⟨rfl, rfl⟩ := yz e
      cases as with
      | cons b bs =>
       simp only [allA, obs] at hws
       obtain ⟨_, _, hws⟩ := hws
       rw [yd] at hws
       obtain ⟨_, _, e⟩ := hws
       cases e
      | nil => simp only; rw [zfQ hw, zop]
    cases ho : ownWK mem x with
    | true =>
     rw [ho] at h hi
     obtain ⟨out, h, hm⟩ := zoW ht h
     refine ⟨out, h, isO hi ?_⟩
     unfold opO; rw [hop]; simp only [hargs, yc, hcal, KV.downs, hts, builtinO]; exact hm
    | false => rw [ho] at h hi; exact plain hi h
   ·rename_i args _ _ hno _hgn
    have h2 := h
    obtain ⟨out, h, hop'⟩ := znX ht hC he h
    exfalso
    -- the operation answers nothing at other numbers of arguments
    unfold opK at h2
    rw [hop] at h2
    simp only [hcal] at h2
    obtain ⟨args2, hargs2, h2, _⟩ := zaX he h2
    unfold builtinK at h2
    simp only at h2
    split at h2
    ·rename_i t x hts _
     rw [hargs] at hargs2
     have : ∃ y, args = [y] := by
      have e := ya hargs2
      cases args with
      | nil => cases e
      | cons y ys => cases ys with
       | nil => exact ⟨y, rfl⟩
       | cons z zs => simp [KV.downs] at e
     obtain ⟨y, rfl⟩ := this
     exact hno _ _ hts rfl
    ·cases h2
  ·rename_i hcal
   obtain ⟨args, hargs, h, _⟩ := zaX he h
   split at h
   ·rename_i t tx x y hts _hgn
    have hi : isOwnOp own (evalA tmps) (kdown mem) o.op = (own || ownSK mem x) := by
     rw [hop]
     show (match c.callee, c.args.toList with
      | .builtin .len, [x] => askO (evalA tmps) (ownW (kdown mem)) x
      | .builtin .append, [x, _] => own || askO (evalA tmps) (ownS (kdown mem)) x
      | _, _ => false) = _
     rw [hcal]
     cases hl : c.args.toList with
     | nil => rw [hl] at hargs; cases hargs
     | cons a as =>
      rw [hl] at hargs
      simp only [allA, obs, KV.downs] at hargs
      obtain ⟨w, hw, hargs⟩ := hargs
      rw [yd] at hargs
      obtain ⟨ws, hws, e⟩ := hargs
      obtain ⟨rfl, rfl⟩ := yz e
      cases as with
      | nil => cases hws
      | cons b bs => cases bs with
       | nil => simp only; rw [zfQ hw, zgt]
       | cons b' bs =>
        simp only [allA, obs] at hws
        obtain ⟨_, _, hws⟩ := hws
        rw [yd] at hws
        obtain ⟨_, hws, e⟩ := hws
        rw [obs] at hws
        obtain ⟨_, _, hws⟩ := hws
        rw [yd] at hws
        obtain ⟨_, _, e2⟩ := hws
        subst e2
        cases e
    cases ho : own || ownSK mem x with
    | true =>
     rw [ho] at h hi
     obtain ⟨out, h, hm⟩ := zka ht h
     refine ⟨out, h, isO hi ?_⟩
     unfold opO; rw [hop]; simp only [hargs, yc, hcal, KV.downs, hts, builtinO]; exact hm
    | false => rw [ho] at h hi; exact plain hi h
   ·cases h
  ·rename_i h1 h2
   refine plain ?_ h
   rw [hop]
   show (match c.callee, c.args.toList with
    | .builtin .len, [x] => askO (evalA tmps) (ownW (kdown mem)) x
    | .builtin .append, [x, _] => own || askO (evalA tmps) (ownS (kdown mem)) x
    | _, _ => false) = _
   split
   ·rename_i e _; exact (h1 e).elim
   ·rename_i e _; exact (h2 e).elim
   ·rfl
 ·rename_i g1 g2 g3 g4 g5 g6 g7 g8 g9
  refine plain ?_ h
  unfold isOwnOp
  split <;> first
   | rfl
   | (rename_i e; exact (g1 _ e).elim)
   | (rename_i e; exact (g2 _ e).elim)
   | (rename_i e; exact (g3 _ _ _ e).elim)
   | (rename_i e; exact (g4 _ _ _ e).elim)
   | (rename_i e; exact (g5 _ _ e).elim)
   | (rename_i e; exact (g6 _ _ _ e).elim)
   | (rename_i e; exact (g7 _ _ _ _ _ e).elim)
   | (rename_i e; exact (g8 _ _ _ e).elim)
   | (rename_i e; exact (g9 _ e).elim)
end
end Go.Ab
