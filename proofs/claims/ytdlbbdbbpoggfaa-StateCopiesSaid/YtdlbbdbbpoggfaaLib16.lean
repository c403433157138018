import Derived.Test.YtdlbbdbbpoggfaaLib15
set_option linter.unusedVariables false
set_option linter.unusedSectionVars false
set_option linter.unusedSimpArgs false
namespace Go.Ab
variable [GTab]
section
variable {P : Program} {R : Type} {r : R} {mem : KMem} {tab : TypeId → Option TI}
theorem TIok.under_sl {t : TypeId} {ti : TI} {et : TypeId} (h : TIok P t ti) (hk : ti.tk = .sl et) : P.underlying t = some (.slice et) := by
 have := h.tk
 unfold chkTK at this
 rw [hk] at this
 cases hu : P.underlying t with
 | none => rw [hu] at this; simp at this
 | some d => rw [hu] at this; cases d <;> simp_all [nb]
theorem TIok.under_arr {t : TypeId} {ti : TI} {n : Nat} {e : TypeId} (h : TIok P t ti) (hk : ti.tk = .arr n e) : P.underlying t = some (.array n e) := by
 have := h.tk
 unfold chkTK at this
 rw [hk] at this
 cases hu : P.underlying t with
 | none => rw [hu] at this; simp at this
 | some d => rw [hu] at this; cases d <;> simp_all [nb]
theorem TIok.under_str {t : TypeId} {ti : TI} (h : TIok P t ti) (hk : ti.tk = .str) : P.underlying t = some .string := by
 have := h.tk
 unfold chkTK at this
 rw [hk] at this
 cases hu : P.underlying t with
 | none => rw [hu] at this; simp at this
 | some d => rw [hu] at this; cases d <;> simp_all
theorem TIok.under_int {t : TypeId} {ti : TI} {k : IntKind} (h : TIok P t ti) (hk : ti.tk = .int k) : P.underlying t = some (.int k) := by
 have := h.tk
 unfold chkTK at this
 rw [hk] at this
 cases hu : P.underlying t with
 | none => rw [hu] at this; simp at this
 | some d => rw [hu] at this; cases d <;> simp_all [keq]
theorem TIok.under_st {t : TypeId} {ti : TI} {fs : List (Nat × Nat × TypeId)} (h : TIok P t ti) (hk : ti.tk = .st fs) : ∃ l, P.underlying t = some (.struct l) ∧ chkFs P fs l.toList = true := by
 have := h.tk
 unfold chkTK at this
 rw [hk] at this
 cases hu : P.underlying t with
 | none => rw [hu] at this; simp at this
 | some d => rw [hu] at this; cases d <;> simp_all
theorem zdx {β ag : Bool} {T : Ty} {xs : List (den T)} (h : isIntsK ag T = false) : (KV.tsl β ag T xs).down = .imm β (.sl T.size (xs.map (pvEl ag T))) := by simp only [KV.down, zo h]
theorem zpJ {α β : Type} (f : α → β) (xs : List α) (i : Int) : getI (xs.map f) i = (getI xs i).map f := by
 unfold getI
 cases decide (0 ≤ i) <;> simp
theorem zmL {t et : TypeId} {m : Mem} {β : Bool} {kk : IntKind} {xs : List Int} {i v : Int} (hu : P.underlying t = some (.slice et)) (hn : tsz P et = some 1) (hv : getI xs i = some v) :
  indexA P t m (.imm β (.ints kk xs)) i = some { v := .el β (.lit (.int kk v)) 0 } := by simp [indexA, hu, hn, hv, guardB]
theorem zne {t et : TypeId} {m : Mem} {β : Bool} {kk : IntKind} {xs : List Int} {lo hi mx : Option Int} {b : Nat × Nat} (hu : P.underlying t = some (.slice et)) (hn : tsz P et = some 1) (hb : bounds xs.length lo hi mx = some b) :
  sliceA P t m (.imm β (.ints kk xs)) lo hi mx = some { v := .imm β (.ints kk ((xs.take b.2).drop b.1)) } := by simp [sliceA, hu, hn, hb, guardB]
theorem znz (ht : TabOK P tab) {t : TypeId} {x : KV} {i : Int} {k : KOut → Option R} (h : indexK (real R) tab t mem x i k = some r) : ∃ out, k out = some r ∧ indexA P t (kdown mem) x.down i = some out.down := by
 unfold indexK at h
 split at h
 ·rename_i ti hti
  have hok := TIok.of (ht _ _ hti)
  split at h
  ·rename_i et hk
   have hu := hok.under_sl hk
   split at h
   ·rename_i te hte
    have hoe := TIok.of (ht _ _ hte)
    split at h
    ·rename_i β ag T xs
     rw [cds] at h
     obtain ⟨hn, h⟩ := h
     have hn := nb.1 hn
     simp only [real_get] at h
     rw [obs] at h
     obtain ⟨v, hv, h⟩ := h
     refine ⟨_, h, ?_⟩
     cases hi : isIntsK ag T with
     | true =>
      obtain ⟨rfl, kk, rfl⟩ := zc.1 hi
      have hn1 : te.n = 1 := hn
      show indexA P t (kdown mem) (.imm β (.ints kk xs)) i = _
      have hv' : getI (xs : List Int) i = some v := hv
      exact zmL hu (by rw [hoe.n, hn1]) hv'
     | false =>
      rw [zdx hi]
      simp only [indexA, hu, hoe.n, yc, gds, hn, zpJ, hv, yk]
      exact ⟨nb.2 rfl, rfl⟩
    ·rename_i b g o n
     obtain ⟨bx, hbx, h⟩ := zw h
     rw [cds] at h
     obtain ⟨hn, h⟩ := h
     simp only [real_guard] at h
     rw [cds] at h
     refine ⟨_, h.2, ?_⟩
     simp only [indexA, KV.down, hu, hoe.n, yc, hbx, show bx.down.row = bx.row.down from rfl, zeF, gds, hn, h.1, ym3]
     exact ⟨by simp, rfl⟩
    ·rename_i b g
     obtain ⟨bx, hbx, h⟩ := zw h
     rw [cds] at h
     obtain ⟨hn, h⟩ := h
     simp only [real_guard] at h
     rw [cds] at h
     refine ⟨_, h.2, ?_⟩
     simp only [indexA, KV.down, hu, hoe.n, yc, hbx, show bx.down.row = bx.row.down from rfl, zeF, zdf, gds, hn, h.1, ym3]
     exact ⟨by simp, rfl⟩
    ·cases h
   ·cases h
  ·rename_i n e hk
   have hu := hok.under_arr hk
   split at h
   ·rename_i te hte
    have hoe := TIok.of (ht _ _ hte)
    split at h
    ·rename_i b g j c
     simp only [real_guard] at h
     rw [cds] at h
     refine ⟨_, h.2, ?_⟩
     simp only [indexA, KV.down, hu, hoe.n, yc, gds]
     exact ⟨h.1, rfl⟩
    ·cases h
   ·cases h
  ·cases h
 ·cases h
theorem znh (ht : TabOK P tab) {t : TypeId} {x : KV} {lo hi mx : Option Int} {k : KOut → Option R} (h : sliceK (real R) tab t mem x lo hi mx k = some r) :
  ∃ out, k out = some r ∧ sliceA P t (kdown mem) x.down lo hi mx = some out.down := by
 unfold sliceK at h
 split at h
 ·rename_i ti hti
  have hok := TIok.of (ht _ _ hti)
  split at h
  ·rename_i hk
   have hu := hok.under_str hk
   split at h
   ·rename_i s
    rw [cds] at h
    obtain ⟨hm, h⟩ := h
    obtain ⟨b, hb, h⟩ := zai h
    exact ⟨_, h, by simp only [sliceA, KV.down, hu, gds, hm, hb, yk]; exact ⟨trivial, rfl⟩⟩
   ·cases h
  ·rename_i et hk
   have hu := hok.under_sl hk
   split at h
   ·rename_i te hte
    have hoe := TIok.of (ht _ _ hte)
    split at h
    ·rename_i β ag T xs
     rw [cds] at h
     obtain ⟨hn, h⟩ := h
     have hn := nb.1 hn
     obtain ⟨b, hb, h⟩ := zai h
     refine ⟨_, h, ?_⟩
     cases hi : isIntsK ag T with
     | true =>
      obtain ⟨rfl, kk, rfl⟩ := zc.1 hi
      have hn1 : te.n = 1 := hn
      show sliceA P t (kdown mem) (.imm β (.ints kk xs)) lo _ mx = _
      have hb' : bounds (xs : List Int).length lo _ mx = some b := hb
      exact zne hu (by rw [hoe.n, hn1]) hb'
     | false =>
      rw [zdx hi]
      simp only [sliceA, hu, hoe.n, yc, gds, hn, yf1, hb, yk]
      exact ⟨nb.2 rfl, by simp [KOut.down, outV, zdx hi, kdown, yz2, yo3]⟩
    ·rename_i b g o n
     obtain ⟨bx, hbx, h⟩ := zw h
     rw [cds] at h
     obtain ⟨hn, h⟩ := h
     obtain ⟨q, hq, h⟩ := zai h
     refine ⟨_, h, ?_⟩
     simp only [sliceA, KV.down, hu, hoe.n, yc, hbx, show bx.down.row = bx.row.down from rfl, zeF, gds, hn, hq, yk]
     exact ⟨trivial, rfl⟩
    ·rename_i b g
     obtain ⟨bx, hbx, h⟩ := zw h
     rw [cds] at h
     obtain ⟨hn, h⟩ := h
     obtain ⟨q, hq, h⟩ := zai h
     refine ⟨_, h, ?_⟩
     simp only [sliceA, KV.down, hu, hoe.n, yc, hbx, show bx.down.row = bx.row.down from rfl, zeF, zdf, gds, hn, hq, yk]
     exact ⟨trivial, rfl⟩
    ·obtain ⟨q, hq, h⟩ := zai h
     refine ⟨_, h, ?_⟩
     simp only [sliceA, KV.down, hu, hoe.n, yc, hq, yk]; rfl
    ·cases h
   ·cases h
  ·rename_i n e hk
   have hu := hok.under_arr hk
   split at h
   ·rename_i te hte
    have hoe := TIok.of (ht _ _ hte)
    split at h
    ·rename_i b g i c
     rw [cds] at h
     obtain ⟨hg, h⟩ := h
     simp only [yb] at hg
     obtain rfl := nb.1 hg.1
     have hn1 := nb.1 hg.2
     obtain ⟨bx, hbx, h⟩ := zw h
     split at h
     ·rename_i e' cs hrow
      rw [cds] at h
      obtain ⟨hg2, h⟩ := h
      simp only [yb] at hg2
      obtain rfl := nb.1 hg2.1
      obtain ⟨q, hq, h⟩ := zai h
      refine ⟨_, h, ?_⟩
      have hd : bx.down.row = .cells 1 (KV.downs cs) := by rw [show bx.down.row = bx.row.down from rfl, hrow]; rfl
      simp only [sliceA, KV.down, hu, hoe.n, yc, hn1, gds, hbx, hd, zb, hg2.2, hq, yk]
      exact ⟨rfl, trivial, rfl⟩
     ·cases h
    ·cases h
   ·cases h
  ·cases h
 ·cases h
theorem zgp (cs : List KV) (i : Nat) (v : KV) : KV.downs (cs.set i v) = (KV.downs cs).set i v.down := by simp [zy, List.map_set]
theorem zdt : ∀ (vs : List KV) (cs : List KV) (i : Nat), KV.downs (setRowCells cs i vs) = setCells (KV.downs cs) i (KV.downs vs)
 | [], cs, i => rfl
 | v :: vs, cs, i => by simp only [setRowCells, KV.downs, setCells, zdt vs, zP, zgp]
def CellsR (β : Bool) (cs : List KV) (qs : List PV) : Prop := cs.length = qs.length ∧ ∀ (j : Nat) (v : KV), cs[j]? = some v → ∃ q, qs[j]? = some q ∧ CellPV β v q
theorem CellsR.of (β : Bool) (T : Ty) (x : den T) : CellsR β (cellsOf β T x) (pvCells T x) := ⟨by rw [zaQ.1, zj], zaQ.2⟩
theorem CellsR.set {β : Bool} {cs : List KV} {qs : List PV} (h : CellsR β cs qs) {v : KV} {q : PV} (hv : CellPV β v q) (i : Nat) : CellsR β (cs.set i v) (qs.set i q) := by
 refine ⟨by simp [h.1], fun j w hj => ?_⟩
 by_cases e : j = i
 ·subst e
  have hl : j < cs.length := by have := (ye.1 hj).1; simpa using this
  rw [yw hl] at hj
  obtain rfl := ya hj
  exact ⟨q, yw (by rw [← h.1]; exact hl), hv⟩
 ·rw [yq (fun x => e x.symm)] at hj
  obtain ⟨p, hp, hc⟩ := h.2 j w hj
  exact ⟨p, by rw [yq (fun x => e x.symm)]; exact hp, hc⟩
theorem CellsR.setRow {β : Bool} : ∀ {vs : List KV} {ps : List PV} {cs : List KV} {qs : List PV} (i : Nat), CellsR β vs ps → CellsR β cs qs → CellsR β (setRowCells cs i vs) (setPVs qs i ps)
 | [], [], cs, qs, i, _, h => h
 | [], p :: ps, cs, qs, i, hv, h => by cases hv.1
 | v :: vs, [], cs, qs, i, hv, h => by cases hv.1
 | v :: vs, p :: ps, cs, qs, i, hv, h => by
  obtain ⟨q, hq, hc⟩ := hv.2 0 v rfl
  obtain rfl := ya hq
  simp only [setRowCells, setPVs, zP]
  exact CellsR.setRow (i + 1) ⟨by simpa using hv.1, fun j w hj => by simpa using hv.2 (j + 1) w (by simpa using hj)⟩ (h.set hc i)
theorem CellsR.take {β : Bool} {cs : List KV} {qs : List PV} (h : CellsR β cs qs) (n : Nat) : CellsR β (cs.take n) (qs.take n) := by
 refine ⟨by simp [h.1], fun j v hj => ?_⟩
 rw [yj1] at hj
 split at hj
 ·rename_i hlt
  obtain ⟨q, hq, hc⟩ := h.2 j v hj
  exact ⟨q, by rw [yj1, if_pos hlt]; exact hq, hc⟩
 ·cases hj
theorem CellsR.drop {β : Bool} {cs : List KV} {qs : List PV} (h : CellsR β cs qs) (n : Nat) : CellsR β (cs.drop n) (qs.drop n) := by
 refine ⟨by simp [h.1], fun j v hj => ?_⟩
 rw [yb1] at hj ⊢
 exact h.2 _ v hj
theorem zbk : ∀ {T : Ty} {cs : List KV} {qs : List PV} {K : den T → Bool → List Nat → Option R}, CellsR false cs qs → denK (real R) mem T cs K = some r → ∃ z β l, K z β l = some r ∧ pvCells T z = qs
 | .int k, cs, qs, K, hc, h => by
  simp only [denK] at h
  split at h
  ·rename_i k' x
   rw [cds] at h
   obtain ⟨q, hq, hp⟩ := hc.2 0 _ rfl
   obtain ⟨q', rfl⟩ := yf2.1 hc.1.symm
   obtain rfl := ya hq
   refine ⟨x, _, _, h.2, ?_⟩
   obtain rfl := keq.1 h.1
   rcases hp with ⟨_, _, e, rfl⟩ | ⟨_, e, _⟩ | ⟨_, e, _⟩ | ⟨_, _, _, e, _⟩ <;> cases e
   rfl
  ·cases h
 | .bool, cs, qs, K, hc, h => by
  simp only [denK] at h
  split at h
  ·rename_i x
   obtain ⟨q, hq, hp⟩ := hc.2 0 _ rfl
   obtain ⟨q', rfl⟩ := yf2.1 hc.1.symm
   obtain rfl := ya hq
   refine ⟨x, _, _, h, ?_⟩
   rcases hp with ⟨_, _, e, _⟩ | ⟨_, e, rfl⟩ | ⟨_, e, _⟩ | ⟨_, _, _, e, _⟩ <;> cases e
   rfl
  ·cases h
 | .str, cs, qs, K, hc, h => by
  simp only [denK] at h
  split at h
  ·rename_i x
   obtain ⟨q, hq, hp⟩ := hc.2 0 _ rfl
   obtain ⟨q', rfl⟩ := yf2.1 hc.1.symm
   obtain rfl := ya hq
   refine ⟨x, _, _, h, ?_⟩
   rcases hp with ⟨_, _, e, _⟩ | ⟨_, e, _⟩ | ⟨_, e, rfl⟩ | ⟨_, _, _, e, _⟩ <;> cases e
   rfl
  ·cases h
 | .sl ag T, cs, qs, K, hc, h => by
  simp only [denK] at h
  split at h
  ·rename_i β ag' T' xs
   rw [cds] at h
   obtain ⟨ha, h⟩ := h
   obtain rfl := bbq.1 ha
   split at h
   ·rename_i ys hy
    obtain ⟨rfl, rfl⟩ := zN hy
    obtain ⟨q, hq, hp⟩ := hc.2 0 _ rfl
    obtain ⟨q', rfl⟩ := yf2.1 hc.1.symm
    obtain rfl := ya hq
    refine ⟨xs, _, _, h, ?_⟩
    rcases hp with ⟨_, _, e, _⟩ | ⟨_, e, _⟩ | ⟨_, e, _⟩ | ⟨_, _, _, e, rfl⟩ <;> cases e
    rfl
   ·cases h
  ·obtain ⟨q, hq, hp⟩ := hc.2 0 _ rfl
   rcases hp with ⟨_, _, e, _⟩ | ⟨_, e, _⟩ | ⟨_, e, _⟩ | ⟨_, _, _, e, _⟩ <;> cases e
  ·obtain ⟨q, hq, hp⟩ := hc.2 0 _ rfl
   rcases hp with ⟨_, _, e, _⟩ | ⟨_, e, _⟩ | ⟨_, e, _⟩ | ⟨_, _, _, e, _⟩ <;> cases e
  ·obtain ⟨q, hq, hp⟩ := hc.2 0 _ rfl
   rcases hp with ⟨_, _, e, _⟩ | ⟨_, e, _⟩ | ⟨_, e, _⟩ | ⟨_, _, _, e, _⟩ <;> cases e
  ·cases h
 | .cons a b, cs, qs, K, hc, h => by
  simp only [denK] at h
  obtain ⟨x, _, _, h, hx⟩ := zbk (hc.take a.size) h
  obtain ⟨y, β, l, h, hy⟩ := zbk (hc.drop a.size) h
  exact ⟨(x, y), _, _, h, by simp only [pvCells, hx, hy, List.take_append_drop]⟩
theorem zma (r : KRow) : r.down.okShut = rowOkShut r := by
 cases r with
 | ts β ag T xs =>
  refine KRow.tsCases (P := fun β ag T xs => (KRow.ts β ag T xs).down.okShut = true) (fun β k xs => rfl) (fun β ag T xs h => ?_) β ag T xs
  rw [KRow.down_sl h]; rfl
 | cells => rfl
 | os T xs hs => cases hs <;> rfl
theorem zoL (r : KRow) : (rowShut r).down = r.down.shut := by
 cases r with
 | ts β ag T xs =>
  refine KRow.tsCases (P := fun β ag T xs => (KRow.ts β ag T xs).down = (KRow.ts β ag T xs).down.shut) (fun β k xs => rfl) (fun β ag T xs h => ?_) β ag T xs
  rw [KRow.down_sl h]; rfl
 | cells => rfl
 | os T xs hs => exact KRow.down_sl (zjr T)
theorem zdw (mem : KMem) : ∀ (l : List Nat), (frozenK mem l).map (fun q => (q.1, q.2.down)) = frozenAt (kdown mem) l
 | [] => rfl
 | b :: l => by
  unfold frozenK frozenAt
  rw [zf, zX]
  have ih := zdw mem l
  cases hb : mem[b]? with
  | none => simpa using ih
  | some x =>
   cases x with
   | none => simpa using ih
   | some x =>
    simp only [yk]
    rw [show x.down.row = x.row.down from rfl, zma]
    cases hs : rowOkShut x.row with
    | true =>
     simp only [yg, yu1, ih]
     simp only [KBox.down, zoL]
    | false => simpa using ih
theorem zaO {ag : Bool} {cs : List PV} (h : ag = true ∨ 2 ≤ cs.length) : oneOrAgg ag cs = .agg cs := by
 unfold oneOrAgg
 split
 ·rcases h with h | h
  ·cases h
  ·simp at h
 ·rfl
theorem zng {t : TypeId} {m : Mem} {b g i n : Nat} {bx : Box} {kk : IntKind} {xs : List Int} {v : Int} (hb : box? m b g = some bx) (hn : tsz P t = some n) (hf : (!bx.frz && Nat.beq (AV.lit (.int kk v)).cells.length n) = true) (hr : bx.row = .ints kk xs)
  (hi : Nat.ble (i + 1) xs.length = true) : storeA P t m (.ptr b g i 0) (.lit (.int kk v)) = some { v := .lit undef, rd := [b], wr := [(b, { gen := bx.gen, frz := bx.frz, row := .ints kk (xs.set i v) })] } := by
 simp only [storeA, hb, hn, yc]
 rw [gds]; refine ⟨hf, ?_⟩
 rw [hr]
 simp only [gds, yb]
 exact ⟨⟨⟨keq.2 rfl, rfl⟩, hi⟩, trivial⟩
theorem zmS (ht : TabOK P tab) {t : TypeId} {a x : KV} {k : KOut → Option R} (h : storeK (real R) tab t mem a x k = some r) : ∃ out, k out = some r ∧ storeA P t (kdown mem) a.down x.down = some out.down := by
 unfold storeK at h
 split at h
 ·rename_i ti hti
  have hok := TIok.of (ht _ _ hti)
  split at h
  ·rename_i b g i c
   have h' := zw h
   clear h
   obtain ⟨bx, hbx, h⟩ := h'
   rw [cds] at h
   obtain ⟨hg, h⟩ := h
   simp only [yb] at hg
   have hlen := nb.1 hg.2
   have hfr : (!bx.down.frz && Nat.beq x.down.cells.length ti.n) = true := by
    rw [zW, zb, hlen]; simpa [KBox.down] using hg.1
   split at h
   ·rename_i e cs hrow
    have hd : bx.down.row = .cells e (KV.downs cs) := by rw [show bx.down.row = bx.row.down from rfl, hrow]; rfl
    cases hn1 : Nat.beq ti.n 1 with
    | true =>
     rw [hn1] at h; simp only [yg] at h
     split at h
     ·rename_i v hv
      rw [cds] at h
      obtain ⟨h1, h⟩ := h
      obtain ⟨_, hlt, h⟩ := zgz h
      refine ⟨_, h, ?_⟩
      have hn1 := nb.1 hn1
      simp only [KV.down, storeA, hbx, yc, hok.n]
      rw [gds]; refine ⟨hfr, ?_⟩
      rw [hd]
      simp only [gds, zW, hv, zb, yb]
      refine ⟨⟨nl.2 (by omega), by simp [KV.downs, onesA, zcx h1]⟩, ?_⟩
      simp [KOut.down, KV.down, KV.downs, KBox.down, KRow.down, setCells, zgp, kdown]
     ·cases h
    | false =>
     rw [hn1] at h; simp only [yh] at h
     rw [cds] at h
     obtain ⟨h1, h⟩ := h
     simp only [yb] at h1
     refine ⟨_, h, ?_⟩
     simp only [KV.down, storeA, hbx, yc, hok.n]
     rw [gds]; refine ⟨hfr, ?_⟩
     rw [hd]
     simp only [gds, zW, zb, yb]
     refine ⟨⟨h1.1, zab h1.2⟩, ?_⟩
     simp [KOut.down, KV.down, KBox.down, KRow.down, zdt, kdown]
   ·rename_i β ag T xs hrow
    have hd : bx.down.row = (KRow.ts β ag T xs).down := by rw [show bx.down.row = bx.row.down from rfl, hrow]
    cases hi : isIntsK ag T with
    | true =>
     rw [hi] at h; simp only [yg] at h
     split at h
     ·rename_i kd v
      rw [cds] at h
      obtain ⟨hcn, h⟩ := h
      simp only [yb] at hcn
      obtain rfl := nb.1 hcn.1
      have hn1 := nb.1 hcn.2
      split at h
      ·rename_i z hz
       obtain ⟨rfl, rfl⟩ := zbP (F := den) hz
       simp only [real_guard] at h
       rw [cds] at h
       refine ⟨_, h.2, ?_⟩
       obtain ⟨rfl, _⟩ := zc.1 hi
       have hd' : bx.down.row = .ints kd xs := hd
       exact zng hbx hok.n hfr hd' h.1
      ·cases h
     ·cases h
    | false =>
     rw [hi] at h; simp only [yh] at h
     rw [cds] at h
     obtain ⟨hcn, h⟩ := h
     have hcn := nl.1 hcn
     rw [KRow.down_sl hi] at hd
     split at h
     ·rename_i T' hT'
      obtain ⟨y, β', l, h, hpv⟩ := zhJ hok hT' h
      cases hmb : memN b l with
      | true => rw [hmb] at h; cases h
      | false =>
       rw [hmb] at h; simp only [yh] at h
       have fin : ∀ {p : PV} {z : den T}, (xs.map (pvEl ag T))[i]? = some p → p.cells.length = T.size → pvEl ag T z = (bif Nat.beq ti.n T.size && Nat.beq c 0 then pvEl ti.ag T' y else .agg (setPVs p.cells c (pvEl ti.ag T' y).cells)) →
         k ⟨.lit undef, b :: l, frozenK mem l ++ [(b, ⟨bx.gen, bx.frz, .ts (β || β') ag T (xs.set i z)⟩)], []⟩ = some r → ∃ out, k out = some r ∧ storeA P t (kdown mem) (KV.ptr b g i c).down x.down = some out.down := by
        intro p z hp hpl hz hk
        refine ⟨_, hk, ?_⟩
        simp only [KV.down, storeA, hbx, yc, hok.n]
        rw [gds]; refine ⟨hfr, ?_⟩
        rw [hd]
        simp only [hp, hpv, yc, gds, yb]
        refine ⟨⟨⟨nl.2 hcn, nb.2 hpl⟩, by rw [hmb]; rfl⟩, ?_⟩
        rw [← hz]
        refine congrArg some ?_
        simp only [KOut.down, yl3, zdw, yu1, yp3]
        simp [KV.down, KBox.down, KRow.down_sl hi, kdown, List.map_set]
       cases hfull : Nat.beq c 0 && Nat.beq ti.n T.size with
       | true =>
        rw [hfull] at h; simp only [yg] at h
        split at h
        ·rename_i z hz
         rw [cds] at hz
         obtain ⟨hag, hz⟩ := hz
         have hag := bbq.1 hag
         obtain ⟨rfl, rfl⟩ := zbP (F := den) hz
         simp only [real_guard] at h
         rw [cds] at h
         have hlt := nl.1 h.1
         have hx : (xs.map (pvEl ag T'))[i]? = some (pvEl ag T' xs[i]) := by rw [yc1, yf (by omega)]; rfl
         refine fin hx (by rw [zr, zj]) ?_ h.2
         rw [Bool.and_comm, hfull, hag]; rfl
        ·cases h
       | false =>
        rw [hfull] at h; simp only [yh, real_getN] at h
        rw [obs] at h
        obtain ⟨p, hp, h⟩ := h
        obtain ⟨z, _, _, h, hz⟩ := zbk (CellsR.setRow c (CellsR.of false T' y) (CellsR.of false T p)) h
        refine fin (p := pvEl ag T p) (by rw [yc1, hp]; rfl) (by rw [zr, zj]) ?_ h
        rw [Bool.and_comm, hfull]
        simp only [yh, zr]
        rw [← hz]
        have hsz : ag = true ∨ 2 ≤ T.size := by
         cases ag with
         | true => exact .inl rfl
         | false =>
          right
          have h1 := Ty.size_pos (T := T)
          have h2 := (hok.ty T' hT').2.1
          have h3 := Ty.size_pos (T := T')
          rcases yc2 T.size 2 with hlt | hge
          ·exfalso
           have hc0 : c = 0 := by omega
           have hn1 : ti.n = T.size := by omega
           rw [hc0, hn1] at hfull
           simp at hfull
          ·exact hge
        exact zaO (hsz.imp id fun h => by rw [zj]; exact h)
     ·cases h
   ·cases h
  ·cases h
 ·cases h
end
end Go.Ab
