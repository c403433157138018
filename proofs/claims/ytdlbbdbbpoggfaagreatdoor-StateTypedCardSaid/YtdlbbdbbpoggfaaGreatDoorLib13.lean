import Derived.Test.YtdlbbdbbpoggfaaGreatDoorLib12
set_option linter.unusedVariables false
set_option linter.unusedSectionVars false
set_option linter.unusedSimpArgs false
namespace Go.Ab
variable [cD]
section
variable {P : Program} {R : Type} {r : R} {mem : aR} {tab : TypeId → Option TI}
theorem gB {t : TypeId} {A : List LK} (z : isAgg? P t = some false) (h : leaves? P 8 t = some A) : ∃ l, leaf? P t = some l ∧ A = [l] := by
 unfold leaves? at h
 unfold isAgg? at z
 split at h
 ·rename_i fs H; rw [H] at z; cases z
 ·obtain ⟨l, hl, rfl⟩ := yf.1 h
  exact ⟨l, hl, rfl⟩
theorem El {t : TypeId} {k : IntKind} (h : leaf? P t = some (.int k)) : P.underlying t = some (.int k) := by
 unfold leaf? at h
 split at h
 ·rename_i k' z; simp only [Option.some.injEq, LK.int.injEq] at h; rw [z, h]
 ·cases h
 ·cases h
 ·rename_i e z
  split at h
  ·cases h
  ·obtain ⟨_, _, h⟩ := yf.1 h; cases h
 ·cases h
theorem cA.intKind {t : TypeId} {J : TI} {k : IntKind} (h : cA P t J) (hT : J.ty = some (.int k)) (A : J.ag = false) : intKind? P t = some k ∧ P.underlying t = some (.int k) := by
 obtain ⟨⟨ls, H, z⟩, _⟩ := h.ty _ hT
 have K := h.ag; rw [A] at K
 obtain ⟨l, hl, rfl⟩ := gB K H
 simp only [bR] at z
 split at z
 ·rename_i k' M
  obtain rfl := (yc1 M).1
  obtain rfl := vJ.1 z
  have := El hl
  exact ⟨by unfold intKind?; rw [this], this⟩
 ·cases z
theorem cA.intKind_none {t : TypeId} {H : TI} {T : Ty} (h : cA P t H) (hT : H.ty = some T) (hn : g7 H.ag T = false) : intKind? P t = none := by
 cases A : intKind? P t with
 | none => rfl
 | some k =>
  exfalso
  unfold intKind? at A
  split at A
  ·rename_i O N
   obtain rfl := yb A
   have M : isAgg? P t = some false := by unfold isAgg?; rw [N]
   have J : H.ag = false := by have := h.ag; rw [M] at this; exact (yb this).symm
   obtain ⟨⟨ls, K, z⟩, _⟩ := h.ty _ hT
   obtain ⟨l, hl, rfl⟩ := gB M K
   have : leaf? P t = some (.int O) := by unfold leaf?; rw [N]
   rw [hl] at this
   obtain rfl := yb this
   rw [J] at hn
   cases T with
   | int _ => cases hn
   | bool => simp [bR] at z
   | str => simp [bR] at z
   | sl g T => simp [bR] at z
   | cons a b =>
    simp only [bR, yc] at z
    have h2 := z.2
    cases b <;> simp [bR] at h2
  ·cases A
theorem wJ : ∀ {T : Ty} {z : List LK}, bR P T z = true → z.all MG = T.flat
 | .int k, z, h => by simp only [bR] at h; split at h <;> first | rfl | cases h
 | .bool, z, h => by simp only [bR] at h; split at h <;> first | rfl | cases h
 | .str, z, h => by simp only [bR] at h; split at h <;> first | rfl | cases h
 | .sl ag T, z, h => by simp only [bR] at h; split at h <;> first | rfl | cases h
 | .cons a b, z, h => by
  simp only [bR] at h
  split at h
  ·rename_i l z
   simp only [yc] at h
   have h1 := wJ h.1.2
   have h2 := wJ h.2
   simp only [ye3, List.all_nil, yt3] at h1
   simp only [ye3, h1, h2]
   show _ = Ff a.flat b.flat
   rw [nC]
  ·cases h
theorem cA.flat {t : TypeId} {A : TI} {T : Ty} (h : cA P t A) (hT : A.ty = some T) : J2 P t = T.flat := by
 obtain ⟨⟨ls, z, H⟩, _⟩ := h.ty _ hT
 unfold J2
 rw [z]
 exact wJ H
theorem wL : ∀ {T : Ty} {x : den T}, T.flat = true → (aV T x).all KN = true
 | .int k, x, h => rfl
 | .bool, x, h => rfl
 | .str, x, h => rfl
 | .sl ag T, x, h => by cases h
 | .cons a b, x, h => by
  have z : Ff a.flat b.flat = true := h
  rw [nC, yc] at z
  simp only [aV, List.all_append, wL z.1, wL z.2, yd2]
theorem Nn {ag : Bool} {T : Ty} (h : T.flat = true) (xs : List (den T)) : (xs.map (fI ag T)).all AK = true := by
 simp only [List.all_map, yx, Function.comp_apply, AK, dI]
 intro x _
 have := wL (x := x) h
 rwa [yx] at this
theorem nX (ht : cF P tab) {H : TypeId} {k : KRow → Option R} (h : rZ tab H k = some r) : ∃ z T, tab H = some z ∧ z.ty = some T ∧ k (.ts false z.ag T []) = some r := by
 unfold rZ at h
 split at h
 ·rename_i z A
  split at h
  ·rename_i T hT; exact ⟨z, T, A, hT, h⟩
  ·cases h
 ·cases h
theorem F1 (ht : cF P tab) {K : TypeId} {v : KV} {k : KRow → List Nat → Option R} (h : KU (bI R) tab K mem v k = some r) :
  ∃ row rd, k row rd = some r ∧ view P K (aF mem) v.down = some (row.view, rd) := by
 unfold KU at h
 split at h
 ·rename_i β ag T xs
  split at h
  ·rename_i te J
   have z := cA.of (ht _ _ J)
   split at h
   ·rename_i O U
    have H := z.flat U
    refine KRow.tsCases (P := fun β ag T xs => ∀ {k : KRow → List Nat → Option R}, (bif O.flat then (bif T.flat then k (.ts false ag T xs) [] else none) else k (.ts (Fk β ag T) ag T xs) []) = some r → ∃ row rd, k row rd = some r ∧ view P K (aF mem) (KV.tsl β ag T xs).down = some (row.view, rd)) (fun β Z xs => ?_) (fun β ag T xs hn => ?_) β ag T xs h
    ·intro k h
     cases hf : O.flat with
     | true => rw [hf] at h; simp only [yg] at h; exact ⟨_, _, h, rfl⟩
     | false => rw [hf] at h; simp only [ye] at h; exact ⟨_, _, h, rfl⟩
    ·intro k h
     have V : (KV.tsl β ag T xs).down = .imm β (.sl T.size (xs.map (fI ag T))) := by simp only [KV.down, d6 hn]
     rw [V]
     cases hf : O.flat with
     | true =>
      rw [hf] at h; simp only [yg] at h
      rw [c9] at h
      refine ⟨_, _, h.2, ?_⟩
      simp only [view, H, hf, Nn h.1, yd2, yg, KRow.view_sl hn]
     | false =>
      rw [hf] at h; simp only [ye] at h
      refine ⟨_, _, h, ?_⟩
      simp only [view, H, hf, Bool.false_and, ye, KRow.view_sl hn, y9 hn]
   ·cases h
  ·cases h
 ·rename_i b g o n
  obtain ⟨x, hx, h⟩ := c7 h
  obtain ⟨w, W, h, _⟩ := CI h
  exact ⟨w, [b], h, by simp only [KV.down, view, hx, ya]; rw [show x.down.row = x.row.down from rfl, W]; rfl⟩
 ·rename_i b g
  obtain ⟨x, hx, h⟩ := c7 h
  exact ⟨x.row, [b], h, by simp only [KV.down, view, hx, ya]; rw [show x.down.row = x.row.down from rfl, Ce]⟩
 ·exact ⟨_, _, h, rfl⟩
 ·obtain ⟨Y, T, M, hT, h⟩ := nX ht h
  have z := cA.of (ht _ _ M)
  refine ⟨_, _, h, ?_⟩
  cases N : g7 Y.ag T with
  | true =>
   obtain ⟨A, Z, rfl⟩ := aX.1 N
   simp only [KV.down, view, (z.intKind hT A).1]
   rw [A]; rfl
  | false =>
   simp only [KV.down, view, z.intKind_none hT N, z.n, yo, KRow.view_sl N, List.map_nil, (z.ty T hT).2.1]
 ·cases h
theorem Nw (ht : cF P tab) {t : TypeId} {x : KV} {k : Int → List Nat → Option R} (h : Pt tab t mem x k = some r) :
  ∃ n rd, k (n : Nat) rd = some r ∧ lenOf P t (aF mem) x.down = some (n, rd) := by
 unfold Pt at h
 split at h
 ·rename_i ti H
  have z := (cA.of (ht _ _ H)).tk
  unfold mZ at z
  split at h
  ·rename_i K
   rw [K] at z
   cases A : P.underlying t with
   | none => rw [A] at z; simp at z
   | some d =>
    rw [A] at z
    cases d <;> simp only at z <;> first | cases z | skip
    split at h
    ·exact ⟨_, _, h, by simp only [lenOf, A, KV.down]⟩
    ·cases h
  ·rename_i et K
   rw [K] at z
   cases A : P.underlying t with
   | none => rw [A] at z; simp at z
   | some d =>
    rw [A] at z
    cases d <;> simp only at z <;> first | cases z | skip
    split at h
    ·rename_i β ag T xs
     refine ⟨_, _, h, ?_⟩
     refine KRow.tsCases (P := fun β ag T xs => lenOf P t (aF mem) (KV.tsl β ag T xs).down = some (xs.length, [])) (fun β N xs => ?_) (fun β ag T xs hn => ?_) β ag T xs
     ·show lenOf P t (aF mem) (.imm β (.ints N xs)) = _
      simp only [lenOf, A]; rfl
     ·have M : (KV.tsl β ag T xs).down = .imm β (.sl T.size (xs.map (fI ag T))) := by simp only [KV.down, d6 hn]
      rw [M]; simp only [lenOf, A, ye2]
    ·exact ⟨_, _, h, by simp only [lenOf, A, KV.down]⟩
    ·rename_i b g
     obtain ⟨x, hx, h⟩ := c7 h
     have hl : lenOf P t (aF mem) (KV.msw b g).down = some (iW x.row, [b]) := by
      simp only [lenOf, A, KV.down, hx, yo]; rw [show x.down.row = x.row.down from rfl, Cg]
     split at h
     ·rename_i β ag T xs J
      refine ⟨_, _, h, ?_⟩
      rw [hl, J]; rfl
     ·rename_i e cs J
      refine ⟨_, _, h, ?_⟩
      rw [hl, J]; rfl
    ·exact ⟨0, [], h, by simp only [lenOf, A, KV.down]⟩
    ·cases h
  ·cases h
 ·cases h
end
end Go.Ab
