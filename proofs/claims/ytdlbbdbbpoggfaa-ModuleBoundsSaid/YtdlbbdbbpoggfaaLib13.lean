import Derived.Test.YtdlbbdbbpoggfaaLib12
set_option linter.unusedVariables false
set_option linter.unusedSectionVars false
set_option linter.unusedSimpArgs false
namespace Go.Ab
variable [b4]
section
variable {P : Program} {R : Type} {r : R} {mem : aD} {tab : TypeId → Option TI}
theorem e5 {t : TypeId} {ls : List LK} (H : isAgg? P t = some false) (h : leaves? P 8 t = some ls) : ∃ l, leaf? P t = some l ∧ ls = [l] := by
 unfold leaves? at h
 unfold isAgg? at H
 split at h
 ·rename_i fs J; rw [J] at H; cases H
 ·obtain ⟨l, I, rfl⟩ := yc.1 h
  exact ⟨l, I, rfl⟩
theorem FN {t : TypeId} {k : IntKind} (h : leaf? P t = some (.int k)) : P.underlying t = some (.int k) := by
 unfold leaf? at h
 split at h
 ·rename_i k' H; simp only [Option.some.injEq, LK.int.injEq] at h; rw [H, h]
 ·cases h
 ·cases h
 ·rename_i e H
  split at h
  ·cases h
  ·obtain ⟨_, _, h⟩ := yc.1 h; cases h
 ·cases h
theorem bU.intKind {t : TypeId} {I : TI} {k : IntKind} (h : bU P t I) (hT : I.ty = some (.int k)) (K : I.ag = false) : intKind? P t = some k ∧ P.underlying t = some (.int k) := by
 obtain ⟨⟨ls, J, H⟩, _⟩ := h.ty _ hT
 have M := h.ag; rw [K] at M
 obtain ⟨l, N, rfl⟩ := e5 M J
 simp only [aS] at H
 split at H
 ·rename_i k' O
  obtain rfl := (yx O).1
  obtain rfl := rW.1 H
  have := FN N
  exact ⟨by unfold intKind?; rw [this], this⟩
 ·cases H
theorem bU.intKind_none {t : TypeId} {I : TI} {T : Ty} (h : bU P t I) (hT : I.ty = some T) (hn : gL I.ag T = false) : intKind? P t = none := by
 cases J : intKind? P t with
 | none => rfl
 | some k =>
  exfalso
  unfold intKind? at J
  split at J
  ·rename_i W N
   obtain rfl := ya J
   have O : isAgg? P t = some false := by unfold isAgg?; rw [N]
   have K : I.ag = false := by have := h.ag; rw [O] at this; exact (ya this).symm
   obtain ⟨⟨ls, M, H⟩, _⟩ := h.ty _ hT
   obtain ⟨l, U, rfl⟩ := e5 O M
   have : leaf? P t = some (.int W) := by unfold leaf?; rw [N]
   rw [U] at this
   obtain rfl := ya this
   rw [K] at hn
   cases T with
   | int _ => cases hn
   | bool => simp [aS] at H
   | str => simp [aS] at H
   | sl g T => simp [aS] at H
   | cons a b =>
    simp only [aS, yb] at H
    have V := H.2
    cases b <;> simp [aS] at V
  ·cases J
theorem qD : ∀ {T : Ty} {ls : List LK}, aS P T ls = true → ls.all y8 = T.flat
 | .int k, ls, h => by simp only [aS] at h; split at h <;> first | rfl | cases h
 | .bool, ls, h => by simp only [aS] at h; split at h <;> first | rfl | cases h
 | .str, ls, h => by simp only [aS] at h; split at h <;> first | rfl | cases h
 | .sl ag T, ls, h => by simp only [aS] at h; split at h <;> first | rfl | cases h
 | .cons a b, ls, h => by
  simp only [aS] at h
  split at h
  ·rename_i l ls
   simp only [yb] at h
   have H := qD h.1.2
   have I := qD h.2
   simp only [yh3, List.all_nil, yg3] at H
   simp only [yh3, H, I]
   show _ = F0 a.flat b.flat
   rw [nI]
  ·cases h
theorem bU.flat {t : TypeId} {I : TI} {T : Ty} (h : bU P t I) (hT : I.ty = some T) : KN P t = T.flat := by
 obtain ⟨⟨ls, H, J⟩, _⟩ := h.ty _ hT
 unfold KN
 rw [H]
 exact qD J
theorem yS : ∀ {T : Ty} {x : den T}, T.flat = true → (aM T x).all LP = true
 | .int k, x, h => rfl
 | .bool, x, h => rfl
 | .str, x, h => rfl
 | .sl ag T, x, h => by cases h
 | .cons a b, x, h => by
  have H : F0 a.flat b.flat = true := h
  rw [nI, yb] at H
  simp only [aM, List.all_append, yS H.1, yS H.2, yo3]
theorem NR {ag : Bool} {T : Ty} (h : T.flat = true) (xs : List (den T)) : (xs.map (cT ag T)).all Bq = true := by
 simp only [List.all_map, yr1, Function.comp_apply, Bq, b6]
 intro x _
 have := yS (x := x) h
 rwa [yr1] at this
theorem n9 (ht : bG P tab) {J : TypeId} {k : KRow → Option R} (h : vQ tab J k = some r) : ∃ H T, tab J = some H ∧ H.ty = some T ∧ k (.ts false H.ag T []) = some r := by
 unfold vQ at h
 split at h
 ·rename_i H I
  split at h
  ·rename_i T hT; exact ⟨H, T, I, hT, h⟩
  ·cases h
 ·cases h
theorem Bw (ht : bG P tab) {U : TypeId} {v : KV} {k : KRow → List Nat → Option R} (h : I7 (aP R) tab U mem v k = some r) :
  ∃ row rd, k row rd = some r ∧ view P U (aB mem) v.down = some (row.view, rd) := by
 unfold I7 at h
 split at h
 ·rename_i β ag T xs
  split at h
  ·rename_i te M
   have H := bU.of (ht _ _ M)
   split at h
   ·rename_i W N
    have J := H.flat N
    refine KRow.tsCases (P := fun β ag T xs => ∀ {k : KRow → List Nat → Option R}, (bif W.flat then (bif T.flat then k (.ts false ag T xs) [] else none) else k (.ts (Aa β ag T) ag T xs) []) = some r → ∃ row rd, k row rd = some r ∧ view P U (aB mem) (KV.tsl β ag T xs).down = some (row.view, rd)) (fun β kk xs => ?_) (fun β ag T xs hn => ?_) β ag T xs h
    ·intro k h
     cases I : W.flat with
     | true => rw [I] at h; simp only [yl] at h; exact ⟨_, _, h, rfl⟩
     | false => rw [I] at h; simp only [yk] at h; exact ⟨_, _, h, rfl⟩
    ·intro k h
     have Z : (KV.tsl β ag T xs).down = .imm β (.sl T.size (xs.map (cT ag T))) := by simp only [KV.down, bX hn]
     rw [Z]
     cases I : W.flat with
     | true =>
      rw [I] at h; simp only [yl] at h
      rw [bR] at h
      refine ⟨_, _, h.2, ?_⟩
      simp only [view, J, I, NR h.1, yo3, yl, KRow.view_sl hn]
     | false =>
      rw [I] at h; simp only [yk] at h
      refine ⟨_, _, h, ?_⟩
      simp only [view, J, I, Bool.false_and, yk, KRow.view_sl hn, lY hn]
   ·cases h
  ·cases h
 ·rename_i b g o n
  obtain ⟨x, V, h⟩ := cQ h
  obtain ⟨w, hw, h, _⟩ := Ds h
  exact ⟨w, [b], h, by simp only [KV.down, view, V, ye]; rw [show x.down.row = x.row.down from rfl, hw]; rfl⟩
 ·rename_i b g
  obtain ⟨x, V, h⟩ := cQ h
  exact ⟨x.row, [b], h, by simp only [KV.down, view, V, ye]; rw [show x.down.row = x.row.down from rfl, C6]⟩
 ·exact ⟨_, _, h, rfl⟩
 ·obtain ⟨Y, T, O, hT, h⟩ := n9 ht h
  have H := bU.of (ht _ _ O)
  refine ⟨_, _, h, ?_⟩
  cases hr : gL Y.ag T with
  | true =>
   obtain ⟨K, kk, rfl⟩ := aK.1 hr
   simp only [KV.down, view, (H.intKind hT K).1]
   rw [K]; rfl
  | false =>
   simp only [KV.down, view, H.intKind_none hT hr, H.n, yg, KRow.view_sl hr, yq3, (H.ty T hT).2.1]
 ·cases h
theorem Oh (ht : bG P tab) {t : TypeId} {x : KV} {k : Int → List Nat → Option R} (h : Pw tab t mem x k = some r) :
  ∃ n rd, k (n : Nat) rd = some r ∧ lenOf P t (aB mem) x.down = some (n, rd) := by
 unfold Pw at h
 split at h
 ·rename_i ti J
  have H := (bU.of (ht _ _ J)).tk
  unfold m9 at H
  split at h
  ·rename_i K
   rw [K] at H
   cases I : P.underlying t with
   | none => rw [I] at H; simp at H
   | some d =>
    rw [I] at H
    cases d <;> simp only at H <;> first | cases H | skip
    split at h
    ·exact ⟨_, _, h, by simp only [lenOf, I, KV.down]⟩
    ·cases h
  ·rename_i et K
   rw [K] at H
   cases I : P.underlying t with
   | none => rw [I] at H; simp at H
   | some d =>
    rw [I] at H
    cases d <;> simp only at H <;> first | cases H | skip
    split at h
    ·rename_i β ag T xs
     refine ⟨_, _, h, ?_⟩
     refine KRow.tsCases (P := fun β ag T xs => lenOf P t (aB mem) (KV.tsl β ag T xs).down = some (xs.length, [])) (fun β O xs => ?_) (fun β ag T xs hn => ?_) β ag T xs
     ·show lenOf P t (aB mem) (.imm β (.ints O xs)) = _
      simp only [lenOf, I]; rfl
     ·have N : (KV.tsl β ag T xs).down = .imm β (.sl T.size (xs.map (cT ag T))) := by simp only [KV.down, bX hn]
      rw [N]; simp only [lenOf, I, ye1]
    ·exact ⟨_, _, h, by simp only [lenOf, I, KV.down]⟩
    ·rename_i b g
     obtain ⟨x, U, h⟩ := cQ h
     have M : lenOf P t (aB mem) (KV.msw b g).down = some (fV x.row, [b]) := by
      simp only [lenOf, I, KV.down, U, yg]; rw [show x.down.row = x.row.down from rfl, pN]
     split at h
     ·rename_i β ag T xs hr
      refine ⟨_, _, h, ?_⟩
      rw [M, hr]; rfl
     ·rename_i e cs hr
      refine ⟨_, _, h, ?_⟩
      rw [M, hr]; rfl
     ·cases h
    ·exact ⟨0, [], h, by simp only [lenOf, I, KV.down]⟩
    ·cases h
  ·cases h
 ·cases h
end
end Go.Ab
