import Derived.Test.YtmoldheenagboaaLib12
set_option linter.unusedVariables false
set_option linter.unusedSectionVars false
set_option linter.unusedSimpArgs false
namespace Go.Ab
variable [b8]
section
variable {P : Program} {R : Type} {r : R} {mem : aO} {tab : TypeId → Option TI}
theorem eY {t : TypeId} {H : List LK} (z : isAgg? P t = some false) (h : leaves? P 8 t = some H) : ∃ l, leaf? P t = some l ∧ H = [l] := by
 unfold leaves? at h
 unfold isAgg? at z
 split at h
 ·rename_i fs J; rw [J] at z; cases z
 ·obtain ⟨l, K, rfl⟩ := yd.1 h
  exact ⟨l, K, rfl⟩
theorem Cs {t : TypeId} {k : IntKind} (h : leaf? P t = some (.int k)) : P.underlying t = some (.int k) := by
 unfold leaf? at h
 split at h
 ·rename_i k' z; simp only [Option.some.injEq, LK.int.injEq] at h; rw [z, h]
 ·cases h
 ·cases h
 ·rename_i e z
  split at h
  ·cases h
  ·obtain ⟨_, _, h⟩ := yd.1 h; cases h
 ·cases h
theorem bX.intKind {t : TypeId} {J : TI} {k : IntKind} (h : bX P t J) (O : J.ty = some (.int k)) (K : J.ag = false) : intKind? P t = some k ∧ P.underlying t = some (.int k) := by
 obtain ⟨⟨ls, H, z⟩, _⟩ := h.ty _ O
 have N := h.ag; rw [K] at N
 obtain ⟨l, U, rfl⟩ := eY N H
 simp only [bN] at z
 split at z
 ·rename_i k' V
  obtain rfl := (yx V).1
  obtain rfl := rT.1 z
  have := Cs U
  exact ⟨by unfold intKind?; rw [this], this⟩
 ·cases z
theorem bX.intKind_none {t : TypeId} {J : TI} {T : Ty} (h : bX P t J) (Z : J.ty = some T) (U : f9 J.ag T = false) : intKind? P t = none := by
 cases H : intKind? P t with
 | none => rfl
 | some k =>
  exfalso
  unfold intKind? at H
  split at H
  ·rename_i W V
   obtain rfl := ya H
   have O : isAgg? P t = some false := by unfold isAgg?; rw [V]
   have N : J.ag = false := by have := h.ag; rw [O] at this; exact (ya this).symm
   obtain ⟨⟨ls, K, z⟩, _⟩ := h.ty _ Z
   obtain ⟨l, Y, rfl⟩ := eY O K
   have : leaf? P t = some (.int W) := by unfold leaf?; rw [V]
   rw [Y] at this
   obtain rfl := ya this
   rw [N] at U
   cases T with
   | int _ => cases U
   | bool => simp [bN] at z
   | str => simp [bN] at z
   | sl g T => simp [bN] at z
   | cons a b =>
    simp only [bN, yc] at z
    have h2 := z.2
    cases b <;> simp [bN] at h2
  ·cases H
theorem sV : ∀ {T : Ty} {z : List LK}, bN P T z = true → z.all Km = T.flat
 | .int k, z, h => by simp only [bN] at h; split at h <;> first | rfl | cases h
 | .bool, z, h => by simp only [bN] at h; split at h <;> first | rfl | cases h
 | .str, z, h => by simp only [bN] at h; split at h <;> first | rfl | cases h
 | .sl ag T, z, h => by simp only [bN] at h; split at h <;> first | rfl | cases h
 | .cons a b, z, h => by
  simp only [bN] at h
  split at h
  ·rename_i l z
   simp only [yc] at h
   have H := sV h.1.2
   have J := sV h.2
   simp only [yk3, List.all_nil, Bool.and_true] at H
   simp only [yk3, H, J]
   show _ = CT a.flat b.flat
   rw [lQ]
  ·cases h
theorem bX.flat {t : TypeId} {H : TI} {T : Ty} (h : bX P t H) (J : H.ty = some T) : Hq P t = T.flat := by
 obtain ⟨⟨ls, z, K⟩, _⟩ := h.ty _ J
 unfold Hq
 rw [z]
 exact sV K
theorem s2 : ∀ {T : Ty} {x : den T}, T.flat = true → (aS T x).all It = true
 | .int k, x, h => rfl
 | .bool, x, h => rfl
 | .str, x, h => rfl
 | .sl ag T, x, h => by cases h
 | .cons a b, x, h => by
  have z : CT a.flat b.flat = true := h
  rw [lQ, yc] at z
  simp only [aS, List.all_append, s2 z.1, s2 z.2, yn3]
theorem KS {ag : Bool} {T : Ty} (h : T.flat = true) (xs : List (den T)) : (xs.map (eF ag T)).all yV = true := by
 simp only [List.all_map, yi2, Function.comp_apply, yV, cR]
 intro x _
 have := s2 (x := x) h
 rwa [yi2] at this
theorem mB (ht : b9 P tab) {J : TypeId} {k : KRow → Option R} (h : qA tab J k = some r) : ∃ z T, tab J = some z ∧ z.ty = some T ∧ k (.ts false z.ag T []) = some r := by
 unfold qA at h
 split at h
 ·rename_i z H
  split at h
  ·rename_i T K; exact ⟨z, T, H, K, h⟩
  ·cases h
 ·cases h
theorem Ee (ht : b9 P tab) {Y : TypeId} {v : KV} {k : KRow → List Nat → Option R} (h : IW (aL R) tab Y mem v k = some r) :
  ∃ row rd, k row rd = some r ∧ view P Y (aB mem) v.down = some (row.view, rd) := by
 unfold IW at h
 split at h
 ·rename_i β ag T xs
  split at h
  ·rename_i te V
   have z := bX.of (ht _ _ V)
   split at h
   ·rename_i Z W
    have K := z.flat W
    refine KRow.tsCases (P := fun β ag T xs => ∀ {k : KRow → List Nat → Option R}, (bif Z.flat then (bif T.flat then k (.ts false ag T xs) [] else none) else k (.ts (mF β ag T) ag T xs) []) = some r → ∃ row rd, k row rd = some r ∧ view P Y (aB mem) (KV.tsl β ag T xs).down = some (row.view, rd)) (fun β kk xs => ?_) (fun β ag T xs N => ?_) β ag T xs h
    ·intro k h
     cases H : Z.flat with
     | true => rw [H] at h; simp only [yg] at h; exact ⟨_, _, h, rfl⟩
     | false => rw [H] at h; simp only [yh] at h; exact ⟨_, _, h, rfl⟩
    ·intro k h
     have hd : (KV.tsl β ag T xs).down = .imm β (.sl T.size (xs.map (eF ag T))) := by simp only [KV.down, dB N]
     rw [hd]
     cases H : Z.flat with
     | true =>
      rw [H] at h; simp only [yg] at h
      rw [cK] at h
      refine ⟨_, _, h.2, ?_⟩
      simp only [view, K, H, KS h.1, yn3, yg, KRow.view_sl N]
     | false =>
      rw [H] at h; simp only [yh] at h
      refine ⟨_, _, h, ?_⟩
      simp only [view, K, H, Bool.false_and, yh, KRow.view_sl N, vW N]
   ·cases h
  ·cases h
 ·rename_i b g o n
  obtain ⟨x, O, h⟩ := cM h
  obtain ⟨w, hw, h, _⟩ := Cp h
  exact ⟨w, [b], h, by simp only [KV.down, view, O, yb]; rw [show x.down.row = x.row.down from rfl, hw]; rfl⟩
 ·rename_i b g
  obtain ⟨x, O, h⟩ := cM h
  exact ⟨x.row, [b], h, by simp only [KV.down, view, O, yb]; rw [show x.down.row = x.row.down from rfl, AQ]⟩
 ·exact ⟨_, _, h, rfl⟩
 ·obtain ⟨ti, T, hti, hT, h⟩ := mB ht h
  have z := bX.of (ht _ _ hti)
  refine ⟨_, _, h, ?_⟩
  cases U : f9 ti.ag T with
  | true =>
   obtain ⟨J, kk, rfl⟩ := aT.1 U
   simp only [KV.down, view, (z.intKind hT J).1]
   rw [J]; rfl
  | false =>
   simp only [KV.down, view, z.intKind_none hT U, z.n, yn, KRow.view_sl U, List.map_nil, (z.ty T hT).2.1]
 ·cases h
theorem KP (Z : b9 P tab) {t : TypeId} {x : KV} {k : Int → List Nat → Option R} (h : Ma tab t mem x k = some r) :
  ∃ n rd, k (n : Nat) rd = some r ∧ lenOf P t (aB mem) x.down = some (n, rd) := by
 unfold Ma at h
 split at h
 ·rename_i ti N
  have z := (bX.of (Z _ _ N)).tk
  unfold lF at z
  split at h
  ·rename_i J
   rw [J] at z
   cases H : P.underlying t with
   | none => rw [H] at z; simp at z
   | some d =>
    rw [H] at z
    cases d <;> simp only at z <;> first | cases z | skip
    split at h
    ·exact ⟨_, _, h, by simp only [lenOf, H, KV.down]⟩
    ·cases h
  ·rename_i et J
   rw [J] at z
   cases H : P.underlying t with
   | none => rw [H] at z; simp at z
   | some d =>
    rw [H] at z
    cases d <;> simp only at z <;> first | cases z | skip
    split at h
    ·rename_i β ag T xs
     refine ⟨_, _, h, ?_⟩
     refine KRow.tsCases (P := fun β ag T xs => lenOf P t (aB mem) (KV.tsl β ag T xs).down = some (xs.length, [])) (fun β V xs => ?_) (fun β ag T xs U => ?_) β ag T xs
     ·show lenOf P t (aB mem) (.imm β (.ints V xs)) = _
      simp only [lenOf, H]; rfl
     ·have Y : (KV.tsl β ag T xs).down = .imm β (.sl T.size (xs.map (eF ag T))) := by simp only [KV.down, dB U]
      rw [Y]; simp only [lenOf, H, ya2]
    ·exact ⟨_, _, h, by simp only [lenOf, H, KV.down]⟩
    ·rename_i b g
     obtain ⟨x, W, h⟩ := cM h
     have O : lenOf P t (aB mem) (KV.msw b g).down = some (iA x.row, [b]) := by
      simp only [lenOf, H, KV.down, W, yn]; rw [show x.down.row = x.row.down from rfl, AY]
     split at h
     ·rename_i β ag T xs K
      refine ⟨_, _, h, ?_⟩
      rw [O, K]; rfl
     ·rename_i e cs K
      refine ⟨_, _, h, ?_⟩
      rw [O, K]; rfl
    ·exact ⟨0, [], h, by simp only [lenOf, H, KV.down]⟩
    ·cases h
  ·cases h
 ·cases h
end
end Go.Ab
