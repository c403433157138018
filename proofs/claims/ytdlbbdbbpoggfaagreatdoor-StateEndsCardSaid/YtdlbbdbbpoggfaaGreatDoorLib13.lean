import Derived.Test.YtdlbbdbbpoggfaaGreatDoorLib12
set_option linter.unusedVariables false
set_option linter.unusedSectionVars false
set_option linter.unusedSimpArgs false
namespace Go.Ab
variable [cD]
section
variable {P : Program} {R : Type} {r : R} {mem : aR} {tab : TypeId → Option TI}
theorem gB {t : TypeId} {A : List LK} (z : isAgg? P t = some false) (h : leaves? P 8 t = some A) : ∃ l, leaf? P t = some l ∧ A = [l] := by
 unfold leaves? at h
 unfold isAgg? at z
 split at h
 ·rename_i fs H; rw [H] at z; cases z
 ·obtain ⟨l, hl, rfl⟩ := yf.1 h
  exact ⟨l, hl, rfl⟩
theorem CS {t : TypeId} {k : IntKind} (h : leaf? P t = some (.int k)) : P.underlying t = some (.int k) := by
 unfold leaf? at h
 split at h
 ·rename_i k' z; simp only [Option.some.injEq, LK.int.injEq] at h; rw [z, h]
 ·cases h
 ·cases h
 ·rename_i e z
  split at h
  ·cases h
  ·obtain ⟨_, _, h⟩ := yf.1 h; cases h
 ·cases h
theorem b8.intKind {t : TypeId} {A : TI} {k : IntKind} (h : b8 P t A) (hT : A.ty = some (.int k)) (J : A.ag = false) : intKind? P t = some k ∧ P.underlying t = some (.int k) := by
 obtain ⟨⟨ls, H, z⟩, _⟩ := h.ty _ hT
 have K := h.ag; rw [J] at K
 obtain ⟨l, hl, rfl⟩ := gB K H
 simp only [bR] at z
 split at z
 ·rename_i k' M
  obtain rfl := (yc1 M).1
  obtain rfl := vV.1 z
  have := CS hl
  exact ⟨by unfold intKind?; rw [this], this⟩
 ·cases z
theorem b8.intKind_none {t : TypeId} {A : TI} {T : Ty} (h : b8 P t A) (hT : A.ty = some T) (hn : h9 A.ag T = false) : intKind? P t = none := by
 cases H : intKind? P t with
 | none => rfl
 | some k =>
  exfalso
  unfold intKind? at H
  split at H
  ·rename_i O N
   obtain rfl := yb H
   have M : isAgg? P t = some false := by unfold isAgg?; rw [N]
   have K : A.ag = false := by have := h.ag; rw [M] at this; exact (yb this).symm
   obtain ⟨⟨ls, J, z⟩, _⟩ := h.ty _ hT
   obtain ⟨l, hl, rfl⟩ := gB M J
   have : leaf? P t = some (.int O) := by unfold leaf?; rw [N]
   rw [hl] at this
   obtain rfl := yb this
   rw [K] at hn
   cases T with
   | int _ => cases hn
   | bool => simp [bR] at z
   | str => simp [bR] at z
   | sl g T => simp [bR] at z
   | cons a b =>
    simp only [bR, yc] at z
    have h2 := z.2
    cases b <;> simp [bR] at h2
  ·cases H
theorem vY : ∀ {T : Ty} {z : List LK}, bR P T z = true → z.all MY = T.flat
 | .int k, z, h => by simp only [bR] at h; split at h <;> first | rfl | cases h
 | .bool, z, h => by simp only [bR] at h; split at h <;> first | rfl | cases h
 | .str, z, h => by simp only [bR] at h; split at h <;> first | rfl | cases h
 | .sl ag T, z, h => by simp only [bR] at h; split at h <;> first | rfl | cases h
 | .cons a b, z, h => by
  simp only [bR] at h
  split at h
  ·rename_i l z
   simp only [yc] at h
   have h1 := vY h.1.2
   have h2 := vY h.2
   simp only [ye3, List.all_nil, yt3] at h1
   simp only [ye3, h1, h2]
   show _ = Fa a.flat b.flat
   rw [nG]
  ·cases h
theorem b8.flat {t : TypeId} {A : TI} {T : Ty} (h : b8 P t A) (hT : A.ty = some T) : Jw P t = T.flat := by
 obtain ⟨⟨ls, z, H⟩, _⟩ := h.ty _ hT
 unfold Jw
 rw [z]
 exact vY H
theorem wD : ∀ {T : Ty} {x : den T}, T.flat = true → (aV T x).all KE = true
 | .int k, x, h => rfl
 | .bool, x, h => rfl
 | .str, x, h => rfl
 | .sl ag T, x, h => by cases h
 | .cons a b, x, h => by
  have z : Fa a.flat b.flat = true := h
  rw [nG, yc] at z
  simp only [aV, List.all_append, wD z.1, wD z.2, yd2]
theorem NH {ag : Bool} {T : Ty} (h : T.flat = true) (xs : List (den T)) : (xs.map (fK ag T)).all AC = true := by
 simp only [List.all_map, yx, Function.comp_apply, AC, dI]
 intro x _
 have := wD (x := x) h
 rwa [yx] at this
theorem nU (ht : cF P tab) {H : TypeId} {k : KRow → Option R} (h : rR tab H k = some r) : ∃ z T, tab H = some z ∧ z.ty = some T ∧ k (.ts false z.ag T []) = some r := by
 unfold rR at h
 split at h
 ·rename_i z A
  split at h
  ·rename_i T hT; exact ⟨z, T, A, hT, h⟩
  ·cases h
 ·cases h
theorem Gg (ht : cF P tab) {N : TypeId} {v : KV} {k : KRow → List Nat → Option R} (h : KJ (bI R) tab N mem v k = some r) :
  ∃ row rd, k row rd = some r ∧ view P N (aF mem) v.down = some (row.view, rd) := by
 unfold KJ at h
 split at h
 ·rename_i β ag T xs
  split at h
  ·rename_i te U
   have z := b8.of (ht _ _ U)
   split at h
   ·rename_i K O
    have H := z.flat O
    refine KRow.tsCases (P := fun β ag T xs => ∀ {k : KRow → List Nat → Option R}, (bif K.flat then (bif T.flat then k (.ts false ag T xs) [] else none) else k (.ts (Fk β ag T) ag T xs) []) = some r → ∃ row rd, k row rd = some r ∧ view P N (aF mem) (KV.tsl β ag T xs).down = some (row.view, rd)) (fun β Y xs => ?_) (fun β ag T xs hn => ?_) β ag T xs h
    ·intro k h
     cases hf : K.flat with
     | true => rw [hf] at h; simp only [yg] at h; exact ⟨_, _, h, rfl⟩
     | false => rw [hf] at h; simp only [ye] at h; exact ⟨_, _, h, rfl⟩
    ·intro k h
     have V : (KV.tsl β ag T xs).down = .imm β (.sl T.size (xs.map (fK ag T))) := by simp only [KV.down, d7 hn]
     rw [V]
     cases hf : K.flat with
     | true =>
      rw [hf] at h; simp only [yg] at h
      rw [c9] at h
      refine ⟨_, _, h.2, ?_⟩
      simp only [view, H, hf, NH h.1, yd2, yg, KRow.view_sl hn]
     | false =>
      rw [hf] at h; simp only [ye] at h
      refine ⟨_, _, h, ?_⟩
      simp only [view, H, hf, Bool.false_and, ye, KRow.view_sl hn, zX hn]
   ·cases h
  ·cases h
 ·rename_i b g o n
  obtain ⟨x, hx, h⟩ := cY h
  obtain ⟨w, W, h, _⟩ := Cw h
  exact ⟨w, [b], h, by simp only [KV.down, view, hx, ya]; rw [show x.down.row = x.row.down from rfl, W]; rfl⟩
 ·rename_i b g
  obtain ⟨x, hx, h⟩ := cY h
  exact ⟨x.row, [b], h, by simp only [KV.down, view, hx, ya]; rw [show x.down.row = x.row.down from rfl, Ci]⟩
 ·exact ⟨_, _, h, rfl⟩
 ·obtain ⟨Z, T, J, hT, h⟩ := nU ht h
  have z := b8.of (ht _ _ J)
  refine ⟨_, _, h, ?_⟩
  cases M : h9 Z.ag T with
  | true =>
   obtain ⟨A, Y, rfl⟩ := aX.1 M
   simp only [KV.down, view, (z.intKind hT A).1]
   rw [A]; rfl
  | false =>
   simp only [KV.down, view, z.intKind_none hT M, z.n, yo, KRow.view_sl M, List.map_nil, (z.ty T hT).2.1]
 ·cases h
theorem Nb (ht : cF P tab) {t : TypeId} {x : KV} {k : Int → List Nat → Option R} (h : PC tab t mem x k = some r) :
  ∃ n rd, k (n : Nat) rd = some r ∧ lenOf P t (aF mem) x.down = some (n, rd) := by
 unfold PC at h
 split at h
 ·rename_i ti H
  have z := (b8.of (ht _ _ H)).tk
  unfold mT at z
  split at h
  ·rename_i K
   rw [K] at z
   cases A : P.underlying t with
   | none => rw [A] at z; simp at z
   | some d =>
    rw [A] at z
    cases d <;> simp only at z <;> first | cases z | skip
    split at h
    ·exact ⟨_, _, h, by simp only [lenOf, A, KV.down]⟩
    ·cases h
  ·rename_i et K
   rw [K] at z
   cases A : P.underlying t with
   | none => rw [A] at z; simp at z
   | some d =>
    rw [A] at z
    cases d <;> simp only at z <;> first | cases z | skip
    split at h
    ·rename_i β ag T xs
     refine ⟨_, _, h, ?_⟩
     refine KRow.tsCases (P := fun β ag T xs => lenOf P t (aF mem) (KV.tsl β ag T xs).down = some (xs.length, [])) (fun β N xs => ?_) (fun β ag T xs hn => ?_) β ag T xs
     ·show lenOf P t (aF mem) (.imm β (.ints N xs)) = _
      simp only [lenOf, A]; rfl
     ·have M : (KV.tsl β ag T xs).down = .imm β (.sl T.size (xs.map (fK ag T))) := by simp only [KV.down, d7 hn]
      rw [M]; simp only [lenOf, A, ye2]
    ·exact ⟨_, _, h, by simp only [lenOf, A, KV.down]⟩
    ·rename_i b g
     obtain ⟨x, hx, h⟩ := cY h
     have hl : lenOf P t (aF mem) (KV.msw b g).down = some (jB x.row, [b]) := by
      simp only [lenOf, A, KV.down, hx, yo]; rw [show x.down.row = x.row.down from rfl, Co]
     split at h
     ·rename_i β ag T xs J
      refine ⟨_, _, h, ?_⟩
      rw [hl, J]; rfl
     ·rename_i e cs J
      refine ⟨_, _, h, ?_⟩
      rw [hl, J]; rfl
    ·exact ⟨0, [], h, by simp only [lenOf, A, KV.down]⟩
    ·cases h
  ·cases h
 ·cases h
end
end Go.Ab
