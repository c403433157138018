import Derived.Test.YtdlbbdbbpoggfaaLib16
set_option linter.unusedVariables false
set_option linter.unusedSectionVars false
set_option linter.unusedSimpArgs false
namespace Go.Ab
variable [GTab]
section
variable {P : Program} {R : Type} {r : R} {mem : KMem} {tab : TypeId → Option TI}
theorem zal (ht : TabOK P tab) {t : TypeId} {k : TypeId → TI → Option R} (h : elemK tab t k = some r) : ∃ et te, elemOf? P t = some et ∧ tab et = some te ∧ k et te = some r ∧ P.underlying t = some (.slice et) := by
 unfold elemK at h
 split at h
 ·rename_i ti hti
  split at h
  ·rename_i et hk
   have hu := (TIok.of (ht _ _ hti)).under_sl hk
   split at h
   ·rename_i te hte; exact ⟨et, te, by unfold elemOf?; rw [hu], hte, h, hu⟩
   ·cases h
  ·cases h
 ·cases h
theorem zeR (ht : TabOK P tab) {tx : TypeId} {y : KV} (h : srcOkK tab tx y = true) : srcOk P tx y.down = true := by
 unfold srcOkK at h
 cases htab : tab tx with
 | none => rw [htab] at h; cases h
 | some ti =>
  rw [htab] at h
  simp only at h
  have hok := TIok.of (ht _ _ htab)
  unfold srcOk
  cases hk : ti.tk with
  | str =>
   rw [hk] at h; rw [hok.under_str hk]
   cases y with
   | lit v => cases v <;> first | rfl | cases h
   | _ => cases h
  | sl et =>
   rw [hk] at h; rw [hok.under_sl hk]
   cases y with
   | lit v => cases v <;> first | rfl | cases h
   | _ => rfl
  | _ => rw [hk] at h; simp at h
theorem zeroCells {t : TypeId} {ti : TI} (h : TIok P t ti) : (zeroK ti).down.cells = KV.downs (zeroK ti).cells ∧ (zeroK ti).cells = ti.zero.map .lit ∧ (zeroK ti).cells.length = ti.zero.length := by
 obtain ⟨_, h1, h2⟩ := h.zero_eq
 refine ⟨zW _, ?_⟩
 cases hg : ti.ag with
 | true => rw [h1 hg]; simp [KV.cells]
 | false => obtain ⟨v, hv, hz⟩ := h2 hg; rw [hz, hv]; simp [KV.cells]
theorem zhR {t : TypeId} {ti : TI} (ht : TIok P t ti) {T : Ty} (hT : ti.ty = some T) {β : Bool} : ∀ {xs : List (den T)}, rdAll P t β T.size (xs.map (pvEl ti.ag T)) = some (KV.downs (flatMapCells β T xs))
 | [] => rfl
 | x :: xs => by
  have hrd : ∃ v, True ∧ rdT P β t (pvEl ti.ag T x) 0 = some v ∧ v.cells = KV.downs (cellsOf β T x) := by
   obtain ⟨⟨ls, hls, hc⟩, hn, hag, _⟩ := ht.ty T hT
   have hl : leavesOkK (leavesT T) (cellsOf β T x) = true := leavesOk_cells
   have hq : ∀ (j : Nat) (v : KV), (cellsOf β T x)[j]? = some v → ∃ q, (pvEl ti.ag T x).cells[0 + j]? = some q ∧ CellPV β v q := by
    intro j v hj
    rw [yy, zr]; exact zaQ.2 j v hj
   have hr := zck (P := P) (c := 0) hc hl hq
   cases hg : ti.ag with
   | true =>
    refine ⟨.agg (KV.downs (cellsOf β T x)), trivial, ?_, rfl⟩
    unfold rdT
    have ha := ht.ag; rw [hg] at ha
    rw [hg] at hr
    simp only [ha, hls, yc, ht.n, gds, zR hc, hn, hr]
    simp
   | false =>
    have ha := ht.ag; rw [hg] at ha
    obtain ⟨l, hl1, rfl⟩ := zad ha hls
    have hs := hag hg
    have hcl := (zaQ (β := β) (x := x)).1
    rw [hs] at hcl
    obtain ⟨v, hv⟩ := yf2.1 hcl
    rw [hv] at hr hq
    obtain ⟨q, hq0, hcp⟩ := hq 0 v rfl
    rw [ym1] at hq0
    simp only [rdLeaves, hq0, yc, KV.downs] at hr
    rw [obs] at hr
    obtain ⟨a, hra, hr⟩ := hr
    have hav := (yz (ya hr)).1
    refine ⟨v.down, trivial, ?_, ?_⟩
    ·unfold rdT
     rw [hg] at hq0
     simp only [ha, hl1, yc, hq0]
     rw [hra, hav]
    ·rw [hv, zW]
     rcases hcp with ⟨_, _, rfl, _⟩ | ⟨_, rfl, _⟩ | ⟨_, rfl, _⟩ | ⟨_, _, _, rfl, _⟩ <;> rfl
  obtain ⟨v, _, hv, hc⟩ := hrd
  simp only [yu1, rdAll, hv, yc, gds, hc, zb, zaQ.1, zhR ht hT, yk]
  refine ⟨nb.2 rfl, ?_⟩
  simp [flatMapCells, zy]
 where
 leavesOk_cells : ∀ {β : Bool} {T : Ty} {x : den T}, leavesOkK (leavesT T) (cellsOf β T x) = true
  | β, .int k, x => by show leavesOkK [Ty.int k] [.lit (.int k x)] = true; simp [leavesOkK, leafOkK, keq.2]
  | β, .bool, x => rfl
  | β, .str, x => rfl
  | β, .sl ag T, x => by show leavesOkK [Ty.sl ag T] [.tsl β ag T x] = true; simp [leavesOkK, leafOkK, bbq.2, Ty.beq_iff.2]
  | β, .cons a b, x => by
   rw [zcX]
   simp only [leavesT]
   exact leavesOk_append leavesOk_cells leavesOk_cells
 leavesOk_append : ∀ {Ts Us : List Ty} {vs ws : List KV}, leavesOkK Ts vs = true → leavesOkK Us ws = true → leavesOkK (Ts ++ Us) (vs ++ ws) = true
  | [], Us, [], ws, _, h => h
  | T :: Ts, Us, v :: vs, ws, h1, h2 => by
   simp only [leavesOkK, yb] at h1
   simp only [yv2, leavesOkK, yb]
   exact ⟨h1.1, leavesOk_append h1.2 h2⟩
  | [], Us, _ :: _, ws, h, _ => by cases h
  | _ :: _, Us, [], ws, h, _ => by cases h
theorem zfo (β : Bool) (k : IntKind) : ∀ xs : List Int, KV.downs (flatMapCells β (.int k) xs) = xs.map fun x => .lit (.int k x)
 | [] => rfl
 | x :: xs => by
  have := zfo β k xs
  show KV.downs (KV.lit (.int k x) :: flatMapCells β (.int k) xs) = _
  rw [KV.downs, this]; rfl
theorem zex {et : TypeId} {te : TI} (hoe : TIok P et te) {y : KRow} {ys : List KV} (h : rowCells te y = some ys) : y.view.toAvs P et = some (KV.downs ys) := by
 cases y with
 | os => cases h
 | cells e cs => obtain rfl := ya h; rfl
 | ts β ag T xs =>
  simp only [rowCells] at h
  split at h
  ·rename_i T' hT'
   rw [cds] at h
   obtain ⟨hg, h⟩ := h
   simp only [yb] at hg
   obtain rfl := Ty.beq_iff.1 hg.1
   have hag := bbq.1 hg.2
   subst hag
   obtain rfl := ya h
   cases hi : isIntsK te.ag T' with
   | true =>
    obtain ⟨hag, kk, rfl⟩ := zc.1 hi
    rw [hag]
    exact congrArg some (zfo β kk xs).symm
   | false =>
    rw [KRow.view_sl hi]
    exact zhR hoe hT'
  ·cases h
theorem zlc {et : TypeId} {te : TI} (hoe : TIok P et te) {x y : KRow} {k : KRow → Option R} (h : appRow te x y k = some r) : ∃ z, k z = some r ∧ x.view.app P et y.view = some z.view ∧ rowOwn z = false := by
 cases x with
 | os => cases h
 | ts β ag T xs =>
  simp only [appRow] at h
  split at h
  ·rename_i β' ag' T' ys
   rw [cds] at h
   obtain ⟨ha, h⟩ := h
   obtain rfl := bbq.1 ha
   split at h
   ·rename_i zs hz
    obtain ⟨rfl, rfl⟩ := zN hz
    refine ⟨_, h, ?_, rfl⟩
    cases hi : isIntsK ag T' with
    | true =>
     obtain ⟨rfl, kk, rfl⟩ := zc.1 hi
     show View.app P et (.ints kk xs) (.ints kk ys) = some (.ints kk (xs ++ ys))
     simp [View.app, guardB, keq.2]; rfl
    | false =>
     rw [KRow.view_sl hi, KRow.view_sl hi, KRow.view_sl hi]
     simp [View.app, guardB]
   ·cases h
  ·cases h
 | cells e xs =>
  simp only [appRow] at h
  split at h
  ·rename_i ys hys
   rw [cds] at h
   obtain ⟨hg, h⟩ := h
   simp only [yb] at hg
   refine ⟨_, h, ?_, rfl⟩
   show View.app P et (.avs e (KV.downs xs)) y.view = some (.avs e (KV.downs (xs ++ ys)))
   simp only [View.app]
   rw [zex hoe hys]
   simp only [yc, gds, yb, zjU]
   exact ⟨⟨⟨zab hg.1.1, hg.1.2⟩, hg.2⟩, by simp [zy]⟩
  ·cases h
theorem zpz (β ag : Bool) (T : Ty) (xs : List (den T)) : (KRow.ts β ag T xs).view.imm? = some (KV.tsl (rowB β ag T) ag T xs).down := by
 cases hi : isIntsK ag T with
 | true =>
  obtain ⟨rfl, kk, rfl⟩ := zc.1 hi
  rfl
 | false => rw [KRow.view_sl hi, zdx hi, zbp hi]; rfl
theorem zpc (et : TypeId) (β ag : Bool) (T : Ty) (xs : List (den T)) : newRowOf P false et (KRow.ts β ag T xs).view = some (KRow.ts β ag T xs).down := by
 cases hi : isIntsK ag T with
 | true =>
  obtain ⟨rfl, kk, rfl⟩ := zc.1 hi
  rfl
 | false => rw [KRow.view_sl hi, KRow.down_sl hi]; rfl
theorem zme (ht : TabOK P tab) {boxed vars : Bool} {t tx : TypeId} {rs : Nat} {x y : KV} {k : KOut → Option R} (h : appendK (real R) tab boxed vars t tx mem rs x y k = some r) :
  ∃ out, k out = some r ∧ appendA P boxed vars t tx (kdown mem) rs x.down y.down = some out.down := by
 unfold appendK at h
 have h0 := zal ht h
 clear h
 obtain ⟨et, te, het, hte, h0, hu⟩ := h0
 have hoe := TIok.of (ht _ _ hte)
 have h := zgs ht h0
 clear h0
 obtain ⟨yr, yrd, h, hyv⟩ := h
 rw [cds] at h
 obtain ⟨hg, h⟩ := h
 simp only [yb] at hg
 obtain ⟨⟨⟨⟨g1, g2⟩, g3⟩, g4⟩, g5⟩ := hg
 have hz := hoe.zero_eq.1
 have pre : ∀ {res : Option Out} {o : Out}, res = some o → (match x.down with
   | .lit (.slice none 0 0) => guardB (Nat.ble yr.view.len mostLen) (bif boxed then (newRowOf P vars et yr.view).map fun row => { v := .msw rs 0, rd := yrd, wr := [(rs, { gen := 0, frz := false, row })] } else yr.view.imm?.map fun v => { v, rd := yrd })
   | .msw b g => (box? (kdown mem) b g).bind fun bx => (bx.row.all.app P et yr.view).bind fun zv => guardB (!bx.frz && Nat.beq te.n bx.row.e && Nat.ble zv.len mostLen) (some { v := .msw b (g + 1), rd := b :: yrd, wr := [(b, { gen := g + 1, frz := false, row := zv.row })] })
   | .ms b g 0 n => (box? (kdown mem) b g).bind fun bx => (bx.row.sub 0 n).bind fun xv => (xv.app P et yr.view).bind fun zv => guardB (!bx.frz && Nat.beq te.n bx.row.e && Nat.ble zv.len mostLen) (some { v := .msw b (g + 1), rd := b :: yrd, wr := [(b, { gen := g + 1, frz := false, row := zv.row })] })
   | _ => none) = res → appendA P boxed vars t tx (kdown mem) rs x.down y.down = some o := by
  intro res o hres hm
  unfold appendA
  simp only [het, yc, hoe.n, hoe.bytes, hz, hyv]
  rw [gds]
  refine ⟨?_, hm.trans hres⟩
  simp only [yb, zjU]
  exact ⟨⟨⟨⟨g1, zeR ht g2⟩, g3⟩, g4⟩, by rw [(zeroCells hoe).1, zb, (zeroCells hoe).2.2]; exact g5⟩
 split at h
 ·simp only [lenOkK, real_guard] at h
  rw [cds] at h
  obtain ⟨hlen, h⟩ := h
  rw [← zfi] at hlen
  cases boxed with
  | true =>
   simp only [yg] at h
   cases vars with
   | true =>
    simp only [yg] at h
    split at h
    ·rename_i ys hys
     rw [cds] at h
     obtain ⟨h1, h⟩ := h
     simp only [yb] at h1
     refine ⟨_, h, pre (o := (KOut.mk (.msw rs 0) yrd [(rs, ⟨0, false, .cells (rowE yr) ys⟩)] []).down) rfl ?_⟩
     simp only [KV.down, gds, hlen, yg, newRowOf, zex hoe hys, yc]
     simp [guardB, hlen, zfi, h1.1, zab h1.2, KOut.down, KBox.down, KRow.down, zjU, kdown, KV.down]
    ·cases h
   | false =>
    simp only [yh] at h
    split at h
    ·rename_i β ag T xs
     refine ⟨_, h, pre (o := (KOut.mk (.msw rs 0) yrd [(rs, ⟨0, false, .ts β ag T xs⟩)] []).down) rfl ?_⟩
     simp only [KV.down, yg]
     rw [zpc]
     simp [guardB, hlen, KOut.down, KBox.down, kdown, KV.down]
    ·cases h
  | false =>
   simp only [yh] at h
   split at h
   ·rename_i β ag T xs
    refine ⟨_, h, pre (o := (KOut.mk (.tsl (rowB β ag T) ag T xs) yrd [] []).down) rfl ?_⟩
    simp only [KV.down, yh]
    rw [zpz]
    simp [guardB, hlen, KOut.down, kdown, KV.down]
   ·cases h
 ·rename_i b g
  have h' := zw h
  clear h
  obtain ⟨bx, hbx, h⟩ := h'
  obtain ⟨z, h, hz, hzo⟩ := zlc hoe h
  rw [cds] at h
  obtain ⟨hg, h⟩ := h
  simp only [yb] at hg
  simp only [lenOkK, real_guard] at h
  rw [cds] at h
  refine ⟨_, h.2, pre (o := (KOut.mk (.msw b (g + 1)) (b :: yrd) [(b, ⟨g + 1, false, z⟩)] []).down) rfl ?_⟩
  simp only [KV.down, hbx, yc, show bx.down.row = bx.row.down from rfl, zhr, hz, zeF]
  rw [gds]
  refine ⟨?_, by simp [KOut.down, KBox.down, kdown, KV.down, zhW _ hzo]⟩
  simp only [yb, zfi]
  exact ⟨⟨hg.1, hg.2⟩, h.1⟩
 ·rename_i b g o n
  rw [real_guard, cds] at h
  obtain ⟨ho, h⟩ := h
  obtain rfl := nb.1 ho
  have h' := zw h
  clear h
  obtain ⟨bx, hbx, h⟩ := h'
  obtain ⟨xr, hxr, h, _⟩ := ziX h
  obtain ⟨z, h, hz, hzo⟩ := zlc hoe h
  rw [cds] at h
  obtain ⟨hg, h⟩ := h
  simp only [yb] at hg
  simp only [lenOkK, real_guard] at h
  rw [cds] at h
  refine ⟨_, h.2, pre (o := (KOut.mk (.msw b (g + 1)) (b :: yrd) [(b, ⟨g + 1, false, z⟩)] []).down) rfl ?_⟩
  simp only [KV.down, hbx, yc, show bx.down.row = bx.row.down from rfl, hxr, hz, zeF]
  rw [gds]
  refine ⟨?_, by simp [KOut.down, KBox.down, kdown, KV.down, zhW _ hzo]⟩
  simp only [yb, zfi]
  exact ⟨⟨hg.1, hg.2⟩, h.1⟩
 ·cases h
end
end Go.Ab
