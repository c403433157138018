import Derived.Test.YtdlbbdbbpoggfaaGreatDoorLib15
set_option linter.unusedVariables false
set_option linter.unusedSectionVars false
set_option linter.unusedSimpArgs false
namespace Go.Ab
variable [cD]
section
variable {P : Program} {R : Type} {r : R} {mem : aR} {tab : TypeId → Option TI}
theorem sR (ht : cF P tab) {t : TypeId} {k : TypeId → TI → Option R} (h : FK tab t k = some r) : ∃ z A, elemOf? P t = some z ∧ tab z = some A ∧ k z A = some r ∧ P.underlying t = some (.slice z) := by
 unfold FK at h
 split at h
 ·rename_i ti H
  split at h
  ·rename_i z M
   have K := (b8.of (ht _ _ H)).under_sl M
   split at h
   ·rename_i A J; exact ⟨z, A, by unfold elemOf?; rw [K], J, h, K⟩
   ·cases h
  ·cases h
 ·cases h
theorem Df (ht : cF P tab) {J : TypeId} {y : KV} (h : G9 tab J y = true) : yQ P J y.down = true := by
 unfold G9 at h
 cases z : tab J with
 | none => rw [z] at h; cases h
 | some K =>
  rw [z] at h
  simp only at h
  have H := b8.of (ht _ _ z)
  unfold yQ
  cases A : K.tk with
  | str =>
   rw [A] at h; rw [H.under_str A]
   cases y with
   | lit v => cases v <;> first | rfl | cases h
   | _ => cases h
  | sl et =>
   rw [A] at h; rw [H.under_sl A]
   cases y with
   | lit v => cases v <;> first | rfl | cases h
   | _ => rfl
  | _ => rw [A] at h; simp at h
theorem zeroCells {t : TypeId} {z : TI} (h : b8 P t z) : (fJ z).down.cells = KV.downs (fJ z).cells ∧ (fJ z).cells = z.zero.map .lit ∧ (fJ z).cells.length = z.zero.length := by
 obtain ⟨_, h1, h2⟩ := h.zero_eq
 refine ⟨eK _, ?_⟩
 cases A : z.ag with
 | true => rw [h1 A]; simp [KV.cells]
 | false => obtain ⟨v, J, H⟩ := h2 A; rw [H, J]; simp [KV.cells]
theorem CI {t : TypeId} {J : TI} (ht : b8 P t J) {T : Ty} (hT : J.ty = some T) {β : Bool} : ∀ {xs : List (den T)}, E2 P t β T.size (xs.map (fK J.ag T)) = some (KV.downs (gE β T xs))
 | [] => rfl
 | x :: xs => by
  have hrd : ∃ v, True ∧ Lc P β t (fK J.ag T x) 0 = some v ∧ v.cells = KV.downs (cellsOf β T x) := by
   obtain ⟨⟨ls, O, W⟩, hn, hag, _⟩ := ht.ty T hT
   have hl : aZ (d6 T) (cellsOf β T x) = true := leavesOk_cells
   have hq : ∀ (j : Nat) (v : KV), (cellsOf β T x)[j]? = some v → ∃ q, (fK J.ag T x).cells[0 + j]? = some q ∧ rS β v q := by
    intro j v hj
    rw [yj1, dI]; exact kK.2 j v hj
   have A := nO (P := P) (c := 0) W hl hq
   cases N : J.ag with
   | true =>
    refine ⟨.agg (KV.downs (cellsOf β T x)), trivial, ?_, rfl⟩
    unfold Lc
    have H := ht.ag; rw [N] at H
    rw [N] at A
    simp only [H, O, ya, ht.n, g8, gJ W, hn, A]
    simp
   | false =>
    have H := ht.ag; rw [N] at H
    obtain ⟨l, Z, rfl⟩ := gB H O
    have hs := hag N
    have U := (kK (β := β) (x := x)).1
    rw [hs] at U
    obtain ⟨v, V⟩ := yg2.1 U
    rw [V] at A hq
    obtain ⟨q, z, hcp⟩ := hq 0 v rfl
    rw [yp2] at z
    simp only [f8, z, ya, KV.downs] at A
    rw [Lz] at A
    obtain ⟨a, hra, A⟩ := A
    have hav := (yc1 (yb A)).1
    refine ⟨v.down, trivial, ?_, ?_⟩
    ·unfold Lc
     rw [N] at z
     simp only [H, Z, ya, z]
     rw [hra, hav]
    ·rw [V, eK]
     rcases hcp with ⟨_, _, rfl, _⟩ | ⟨_, rfl, _⟩ | ⟨_, rfl, _⟩ | ⟨_, _, _, rfl, _⟩ <;> rfl
  obtain ⟨v, _, V, W⟩ := hrd
  simp only [yh2, E2, V, ya, g8, W, aQ, kK.1, CI ht hT, yo]
  refine ⟨nb.2 rfl, ?_⟩
  simp [gE, dC]
 where
 leavesOk_cells : ∀ {β : Bool} {T : Ty} {x : den T}, aZ (d6 T) (cellsOf β T x) = true
  | β, .int k, x => by show aZ [Ty.int k] [.lit (.int k x)] = true; simp [aZ, jY, vV.2]
  | β, .bool, x => rfl
  | β, .str, x => rfl
  | β, .sl ag T, x => by show aZ [Ty.sl ag T] [.tsl β ag T x] = true; simp [aZ, jY, L5.2, Ty.beq_iff.2]
  | β, .cons a b, x => by
   rw [pL]
   simp only [d6]
   exact leavesOk_append leavesOk_cells leavesOk_cells
 leavesOk_append : ∀ {Y K : List Ty} {vs M : List KV}, aZ Y vs = true → aZ K M = true → aZ (Y ++ K) (vs ++ M) = true
  | [], K, [], M, _, h => h
  | T :: Y, K, v :: vs, M, h1, h2 => by
   simp only [aZ, yc] at h1
   simp only [yp3, aZ, yc]
   exact ⟨h1.1, leavesOk_append h1.2 h2⟩
  | [], K, _ :: _, M, h, _ => by cases h
  | _ :: _, K, [], M, h, _ => by cases h
theorem zU (β : Bool) (k : IntKind) : ∀ xs : List Int, KV.downs (gE β (.int k) xs) = xs.map fun x => .lit (.int k x)
 | [] => rfl
 | x :: xs => by
  have := zU β k xs
  show KV.downs (KV.lit (.int k x) :: gE β (.int k) xs) = _
  rw [KV.downs, this]; rfl
theorem vN {M : TypeId} {A : TI} (J : b8 P M A) {y : KRow} {ys : List KV} (h : y0 A y = some ys) : y.view.toAvs P M = some (KV.downs ys) := by
 cases y with
 | cells e cs => obtain rfl := yb h; rfl
 | ts β ag T xs =>
  simp only [y0] at h
  split at h
  ·rename_i U K
   rw [c9] at h
   obtain ⟨H, h⟩ := h
   simp only [yc] at H
   obtain rfl := Ty.beq_iff.1 H.1
   have z := L5.1 H.2
   subst z
   obtain rfl := yb h
   cases N : bT A.ag U with
   | true =>
    obtain ⟨z, O, rfl⟩ := aX.1 N
    rw [z]
    exact congrArg some (zU β O xs).symm
   | false =>
    rw [KRow.view_sl N]
    exact CI J K
  ·cases h
theorem HK {J : TypeId} {O : TI} (K : b8 P J O) {x y : KRow} {k : KRow → Option R} (h : Es O x y k = some r) : ∃ z, k z = some r ∧ x.view.app P J y.view = some z.view := by
 cases x with
 | ts β ag T xs =>
  simp only [Es] at h
  split at h
  ·rename_i β' U W ys
   rw [c9] at h
   obtain ⟨V, h⟩ := h
   obtain rfl := L5.1 V
   split at h
   ·rename_i zs Y
    obtain ⟨rfl, rfl⟩ := fW Y
    refine ⟨_, h, ?_⟩
    cases H : bT ag W with
    | true =>
     obtain ⟨rfl, N, rfl⟩ := aX.1 H
     show aN.app P J (.ints N xs) (.ints N ys) = some (.ints N (xs ++ ys))
     simp [aN.app, guardB, vV.2]; rfl
    | false =>
     rw [KRow.view_sl H, KRow.view_sl H, KRow.view_sl H]
     simp [aN.app, guardB]
   ·cases h
  ·cases h
 | cells e xs =>
  simp only [Es] at h
  split at h
  ·rename_i ys M
   rw [c9] at h
   obtain ⟨A, h⟩ := h
   simp only [yc] at A
   refine ⟨_, h, ?_⟩
   show aN.app P J (.avs e (KV.downs xs)) y.view = some (.avs e (KV.downs (xs ++ ys)))
   simp only [aN.app]
   rw [vN K M]
   simp only [ya, g8, yc, GE]
   exact ⟨⟨⟨iA A.1.1, A.1.2⟩, A.2⟩, by simp [dC]⟩
  ·cases h
theorem MT (β ag : Bool) (T : Ty) (xs : List (den T)) : (KRow.ts β ag T xs).view.imm? = some (KV.tsl (Fk β ag T) ag T xs).down := by
 cases h : bT ag T with
 | true =>
  obtain ⟨rfl, kk, rfl⟩ := aX.1 h
  rfl
 | false => rw [KRow.view_sl h, qT h, zX h]; rfl
theorem Lu (z : TypeId) (β ag : Bool) (T : Ty) (xs : List (den T)) : oC P false z (KRow.ts β ag T xs).view = some (KRow.ts β ag T xs).down := by
 cases h : bT ag T with
 | true =>
  obtain ⟨rfl, kk, rfl⟩ := aX.1 h
  rfl
 | false => rw [KRow.view_sl h, KRow.down_sl h]; rfl
theorem I8 (ht : cF P tab) {boxed vars : Bool} {t tx : TypeId} {rs : Nat} {x y : KV} {k : bY → Option R} (h : GR (bI R) tab boxed vars t tx mem rs x y k = some r) :
  ∃ out, k out = some r ∧ kB P boxed vars t tx (aF mem) rs x.down y.down = some out.down := by
 unfold GR at h
 have h0 := sR ht h
 clear h
 obtain ⟨et, te, het, hte, h0, hu⟩ := h0
 have J := b8.of (ht _ _ hte)
 have h := Gg ht h0
 clear h0
 obtain ⟨V, A, h, hyv⟩ := h
 rw [c9] at h
 obtain ⟨N, h⟩ := h
 simp only [yc] at N
 obtain ⟨⟨⟨⟨g1, g2⟩, g3⟩, g4⟩, g5⟩ := N
 have Y := J.zero_eq.1
 have M : ∀ {O : Option eL} {o : eL}, O = some o → (match x.down with
   | .lit (.slice none 0 0) => guardB (Nat.ble V.view.len cT) (bif boxed then (oC P vars et V.view).map fun row => { v := .msw rs 0, rd := A, wr := [(rs, { gen := 0, frz := false, row })] } else V.view.imm?.map fun v => { v, rd := A })
   | .msw b g => (box? (aF mem) b g).bind fun K => (K.row.all.app P et V.view).bind fun Z => guardB (!K.frz && Nat.beq te.n K.row.e && Nat.ble Z.len cT) (some { v := .msw b (g + 1), rd := b :: A, wr := [(b, { gen := g + 1, frz := false, row := Z.row })] })
   | .ms b g 0 n => (box? (aF mem) b g).bind fun K => (K.row.sub 0 n).bind fun xv => (xv.app P et V.view).bind fun Z => guardB (!K.frz && Nat.beq te.n K.row.e && Nat.ble Z.len cT) (some { v := .msw b (g + 1), rd := b :: A, wr := [(b, { gen := g + 1, frz := false, row := Z.row })] })
   | _ => none) = O → kB P boxed vars t tx (aF mem) rs x.down y.down = some o := by
  intro O o W hm
  unfold kB
  simp only [het, ya, J.n, J.bytes, Y, hyv]
  rw [g8]
  refine ⟨?_, hm.trans W⟩
  simp only [yc, GE]
  exact ⟨⟨⟨⟨g1, Df ht g2⟩, g3⟩, g4⟩, by rw [(zeroCells J).1, aQ, (zeroCells J).2.2]; exact g5⟩
 split at h
 ·simp only [AY, real_guard] at h
  rw [c9] at h
  obtain ⟨H, h⟩ := h
  rw [← yO] at H
  cases boxed with
  | true =>
   simp only [yg] at h
   cases vars with
   | true =>
    simp only [yg] at h
    split at h
    ·rename_i ys hys
     rw [c9] at h
     obtain ⟨h1, h⟩ := h
     simp only [yc] at h1
     refine ⟨_, h, M (o := (bY.mk (.msw rs 0) A [(rs, ⟨0, false, .cells (s7 V) ys⟩)] []).down) rfl ?_⟩
     simp only [KV.down, g8, H, yg, oC, vN J hys, ya]
     simp [guardB, H, yO, h1.1, iA h1.2, bY.down, fG.down, KRow.down, GE, aF, KV.down]
    ·cases h
   | false =>
    simp only [ye] at h
    split at h
    ·rename_i β ag T xs
     refine ⟨_, h, M (o := (bY.mk (.msw rs 0) A [(rs, ⟨0, false, .ts β ag T xs⟩)] []).down) rfl ?_⟩
     simp only [KV.down, yg]
     rw [Lu]
     simp [guardB, H, bY.down, fG.down, aF, KV.down]
    ·cases h
  | false =>
   simp only [ye] at h
   split at h
   ·rename_i β ag T xs
    refine ⟨_, h, M (o := (bY.mk (.tsl (Fk β ag T) ag T xs) A [] []).down) rfl ?_⟩
    simp only [KV.down, ye]
    rw [MT]
    simp [guardB, H, bY.down, aF, KV.down]
   ·cases h
 ·rename_i b g
  have h' := cY h
  clear h
  obtain ⟨K, U, h⟩ := h'
  obtain ⟨z, h, Y⟩ := HK J h
  rw [c9] at h
  obtain ⟨N, h⟩ := h
  simp only [yc] at N
  simp only [AY, real_guard] at h
  rw [c9] at h
  refine ⟨_, h.2, M (o := (bY.mk (.msw b (g + 1)) (b :: A) [(b, ⟨g + 1, false, z⟩)] []).down) rfl ?_⟩
  simp only [KV.down, U, ya, show K.down.row = K.row.down from rfl, Ci, Y, F5]
  rw [g8]
  refine ⟨?_, by simp [bY.down, fG.down, aF, KV.down, Eb]⟩
  simp only [yc, yO]
  exact ⟨⟨N.1, N.2⟩, h.1⟩
 ·rename_i b g o n
  rw [real_guard, c9] at h
  obtain ⟨ho, h⟩ := h
  obtain rfl := nb.1 ho
  have h' := cY h
  clear h
  obtain ⟨K, U, h⟩ := h'
  obtain ⟨xr, hxr, h, _⟩ := Cw h
  obtain ⟨z, h, Y⟩ := HK J h
  rw [c9] at h
  obtain ⟨N, h⟩ := h
  simp only [yc] at N
  simp only [AY, real_guard] at h
  rw [c9] at h
  refine ⟨_, h.2, M (o := (bY.mk (.msw b (g + 1)) (b :: A) [(b, ⟨g + 1, false, z⟩)] []).down) rfl ?_⟩
  simp only [KV.down, U, ya, show K.down.row = K.row.down from rfl, hxr, Y, F5]
  rw [g8]
  refine ⟨?_, by simp [bY.down, fG.down, aF, KV.down, Eb]⟩
  simp only [yc, yO]
  exact ⟨⟨N.1, N.2⟩, h.1⟩
 ·cases h
end
end Go.Ab
