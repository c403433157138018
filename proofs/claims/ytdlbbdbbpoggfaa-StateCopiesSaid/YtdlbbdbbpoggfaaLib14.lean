import Derived.Test.YtdlbbdbbpoggfaaLib13
set_option linter.unusedVariables false
set_option linter.unusedSectionVars false
set_option linter.unusedSimpArgs false
namespace Go.Ab
variable [GTab]
section
variable {P : Program} {R : Type} {r : R} {mem : KMem} {tab : TypeId → Option TI}
theorem zad {t : TypeId} {ls : List LK} (ha : isAgg? P t = some false) (h : leaves? P 8 t = some ls) : ∃ l, leaf? P t = some l ∧ ls = [l] := by
 unfold leaves? at h
 unfold isAgg? at ha
 split at h
 ·rename_i fs hu; rw [hu] at ha; cases ha
 ·obtain ⟨l, hl, rfl⟩ := yd.1 h
  exact ⟨l, hl, rfl⟩
theorem zhI {t : TypeId} {k : IntKind} (h : leaf? P t = some (.int k)) : P.underlying t = some (.int k) := by
 unfold leaf? at h
 split at h
 ·rename_i k' hu; simp only [Option.some.injEq, LK.int.injEq] at h; rw [hu, h]
 ·cases h
 ·cases h
 ·rename_i e hu
  split at h
  ·cases h
  ·obtain ⟨_, _, h⟩ := yd.1 h; cases h
 ·cases h
theorem TIok.intKind {t : TypeId} {ti : TI} {k : IntKind} (h : TIok P t ti) (hT : ti.ty = some (.int k)) (hag : ti.ag = false) : intKind? P t = some k ∧ P.underlying t = some (.int k) := by
 obtain ⟨⟨ls, hls, hc⟩, _⟩ := h.ty _ hT
 have ha := h.ag; rw [hag] at ha
 obtain ⟨l, hl, rfl⟩ := zad ha hls
 simp only [chkLs] at hc
 split at hc
 ·rename_i k' hk
  obtain rfl := (yz hk).1
  obtain rfl := keq.1 hc
  have := zhI hl
  exact ⟨by unfold intKind?; rw [this], this⟩
 ·cases hc
theorem TIok.intKind_none {t : TypeId} {ti : TI} {T : Ty} (h : TIok P t ti) (hT : ti.ty = some T) (hn : intsRow ti.ag T = false) : intKind? P t = none := by
 cases hk : intKind? P t with
 | none => rfl
 | some k =>
  exfalso
  unfold intKind? at hk
  split at hk
  ·rename_i k' hu
   obtain rfl := ya hk
   have ha : isAgg? P t = some false := by unfold isAgg?; rw [hu]
   have hag : ti.ag = false := by have := h.ag; rw [ha] at this; exact (ya this).symm
   obtain ⟨⟨ls, hls, hc⟩, _⟩ := h.ty _ hT
   obtain ⟨l, hl, rfl⟩ := zad ha hls
   have : leaf? P t = some (.int k') := by unfold leaf?; rw [hu]
   rw [hl] at this
   obtain rfl := ya this
   rw [hag] at hn
   cases T with
   | int _ => cases hn
   | bool => simp [chkLs] at hc
   | str => simp [chkLs] at hc
   | sl g T => simp [chkLs] at hc
   | cons a b =>
    simp only [chkLs, yb] at hc
    have h2 := hc.2
    cases b <;> simp [chkLs] at h2
  ·cases hk
theorem zdl : ∀ {T : Ty} {ls : List LK}, chkLs P T ls = true → ls.all flatLK = T.flat
 | .int k, ls, h => by simp only [chkLs] at h; split at h <;> first | rfl | cases h
 | .bool, ls, h => by simp only [chkLs] at h; split at h <;> first | rfl | cases h
 | .str, ls, h => by simp only [chkLs] at h; split at h <;> first | rfl | cases h
 | .sl ag T, ls, h => by simp only [chkLs] at h; split at h <;> first | rfl | cases h
 | .cons a b, ls, h => by
  simp only [chkLs] at h
  split at h
  ·rename_i l ls
   simp only [yb] at h
   have h1 := zdl h.1.2
   have h2 := zdl h.2
   simp only [yj3, List.all_nil, yi3] at h1
   simp only [yj3, h1, h2]
   show _ = bAnd a.flat b.flat
   rw [zbZ]
  ·cases h
theorem TIok.flat {t : TypeId} {ti : TI} {T : Ty} (h : TIok P t ti) (hT : ti.ty = some T) : flatTy P t = T.flat := by
 obtain ⟨⟨ls, hls, hc⟩, _⟩ := h.ty _ hT
 unfold flatTy
 rw [hls]
 exact zdl hc
theorem zeL : ∀ {T : Ty} {x : den T}, T.flat = true → (pvCells T x).all isLitPV = true
 | .int k, x, h => rfl
 | .bool, x, h => rfl
 | .str, x, h => rfl
 | .sl ag T, x, h => by cases h
 | .cons a b, x, h => by
  have h' : bAnd a.flat b.flat = true := h
  rw [zbZ, yb] at h'
  simp only [pvCells, List.all_append, zeL h'.1, zeL h'.2, yk3]
theorem zpP {ag : Bool} {T : Ty} (h : T.flat = true) (xs : List (den T)) : (xs.map (pvEl ag T)).all flatPV = true := by
 simp only [List.all_map, yo2, Function.comp_apply, flatPV, zr]
 intro x _
 have := zeL (x := x) h
 rwa [yo2] at this
theorem zcj (ht : TabOK P tab) {et : TypeId} {k : KRow → Option R} (h : emptyRow tab et k = some r) : ∃ ti T, tab et = some ti ∧ ti.ty = some T ∧ k (.ts false ti.ag T []) = some r := by
 unfold emptyRow at h
 split at h
 ·rename_i ti hti
  split at h
  ·rename_i T hT; exact ⟨ti, T, hti, hT, h⟩
  ·cases h
 ·cases h
theorem zgs (ht : TabOK P tab) {et : TypeId} {v : KV} {k : KRow → List Nat → Option R} (h : viewK (real R) tab et mem v k = some r) :
  ∃ row rd, k row rd = some r ∧ view P et (kdown mem) v.down = some (row.view, rd) := by
 unfold viewK at h
 split at h
 ·rename_i β ag T xs
  split at h
  ·rename_i te hte
   have hok := TIok.of (ht _ _ hte)
   split at h
   ·rename_i T' hT'
    have hfl := hok.flat hT'
    refine KRow.tsCases (P := fun β ag T xs => ∀ {k : KRow → List Nat → Option R}, (bif T'.flat then (bif T.flat then k (.ts false ag T xs) [] else none) else k (.ts (rowB β ag T) ag T xs) []) = some r → ∃ row rd, k row rd = some r ∧ view P et (kdown mem) (KV.tsl β ag T xs).down = some (row.view, rd)) (fun β kk xs => ?_) (fun β ag T xs hn => ?_) β ag T xs h
    ·intro k h
     cases hf : T'.flat with
     | true => rw [hf] at h; simp only [yg] at h; exact ⟨_, _, h, rfl⟩
     | false => rw [hf] at h; simp only [yh] at h; exact ⟨_, _, h, rfl⟩
    ·intro k h
     have hd : (KV.tsl β ag T xs).down = .imm β (.sl T.size (xs.map (pvEl ag T))) := by simp only [KV.down, zo hn]
     rw [hd]
     cases hf : T'.flat with
     | true =>
      rw [hf] at h; simp only [yg] at h
      rw [cds] at h
      refine ⟨_, _, h.2, ?_⟩
      simp only [view, hfl, hf, zpP h.1, yk3, yg, KRow.view_sl hn]
     | false =>
      rw [hf] at h; simp only [yh] at h
      refine ⟨_, _, h, ?_⟩
      simp only [view, hfl, hf, Bool.false_and, yh, KRow.view_sl hn, zbp hn]
   ·cases h
  ·cases h
 ·rename_i b g o n
  obtain ⟨x, hx, h⟩ := zw h
  obtain ⟨w, hw, h, _⟩ := ziX h
  exact ⟨w, [b], h, by simp only [KV.down, view, hx, yc]; rw [show x.down.row = x.row.down from rfl, hw]; rfl⟩
 ·rename_i b g
  obtain ⟨x, hx, h⟩ := zw h
  exact ⟨x.row, [b], h, by simp only [KV.down, view, hx, yc]; rw [show x.down.row = x.row.down from rfl, zhr]⟩
 ·exact ⟨_, _, h, rfl⟩
 ·obtain ⟨ti, T, hti, hT, h⟩ := zcj ht h
  have hok := TIok.of (ht _ _ hti)
  refine ⟨_, _, h, ?_⟩
  cases hr : intsRow ti.ag T with
  | true =>
   obtain ⟨hag, kk, rfl⟩ := zc.1 hr
   simp only [KV.down, view, (hok.intKind hT hag).1]
   rw [hag]; rfl
  | false =>
   simp only [KV.down, view, hok.intKind_none hT hr, hok.n, yk, KRow.view_sl hr, yp3, (hok.ty T hT).2.1]
 ·cases h
theorem zph (ht : TabOK P tab) {t : TypeId} {x : KV} {k : Int → List Nat → Option R} (h : lenK tab t mem x k = some r) :
  ∃ n rd, k (n : Nat) rd = some r ∧ lenOf P t (kdown mem) x.down = some (n, rd) := by
 unfold lenK at h
 split at h
 ·rename_i ti hti
  have htk := (TIok.of (ht _ _ hti)).tk
  unfold chkTK at htk
  split at h
  ·rename_i hk
   rw [hk] at htk
   cases hu : P.underlying t with
   | none => rw [hu] at htk; simp at htk
   | some d =>
    rw [hu] at htk
    cases d <;> simp only at htk <;> first | cases htk | skip
    split at h
    ·exact ⟨_, _, h, by simp only [lenOf, hu, KV.down]⟩
    ·cases h
  ·rename_i et hk
   rw [hk] at htk
   cases hu : P.underlying t with
   | none => rw [hu] at htk; simp at htk
   | some d =>
    rw [hu] at htk
    cases d <;> simp only at htk <;> first | cases htk | skip
    split at h
    ·rename_i β ag T xs
     refine ⟨_, _, h, ?_⟩
     refine KRow.tsCases (P := fun β ag T xs => lenOf P t (kdown mem) (KV.tsl β ag T xs).down = some (xs.length, [])) (fun β kk xs => ?_) (fun β ag T xs hn => ?_) β ag T xs
     ·show lenOf P t (kdown mem) (.imm β (.ints kk xs)) = _
      simp only [lenOf, hu]; rfl
     ·have hd : (KV.tsl β ag T xs).down = .imm β (.sl T.size (xs.map (pvEl ag T))) := by simp only [KV.down, zo hn]
      rw [hd]; simp only [lenOf, hu, yf1]
    ·exact ⟨_, _, h, by simp only [lenOf, hu, KV.down]⟩
    ·rename_i b g
     obtain ⟨x, hx, h⟩ := zw h
     have hl : lenOf P t (kdown mem) (KV.msw b g).down = some (rowLen x.row, [b]) := by
      simp only [lenOf, hu, KV.down, hx, yk]; rw [show x.down.row = x.row.down from rfl, zdf]
     split at h
     ·rename_i β ag T xs hr
      refine ⟨_, _, h, ?_⟩
      rw [hl, hr]; rfl
     ·rename_i e cs hr
      refine ⟨_, _, h, ?_⟩
      rw [hl, hr]; rfl
     ·cases h
    ·exact ⟨0, [], h, by simp only [lenOf, hu, KV.down]⟩
    ·cases h
  ·cases h
 ·cases h
end
end Go.Ab
