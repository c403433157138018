import Derived.Test.YtdlbbdbbpoggfaaGreatDoorLib15
set_option linter.unusedVariables false
set_option linter.unusedSectionVars false
set_option linter.unusedSimpArgs false
namespace Go.Ab
variable [cD]
section
variable {P : Program} {R : Type} {r : R} {mem : aR} {tab : TypeId → Option TI}
theorem sE (ht : cF P tab) {t : TypeId} {k : TypeId → TI → Option R} (h : FL tab t k = some r) : ∃ z A, elemOf? P t = some z ∧ tab z = some A ∧ k z A = some r ∧ P.underlying t = some (.slice z) := by
 unfold FL at h
 split at h
 ·rename_i ti J
  split at h
  ·rename_i z M
   have K := (cA.of (ht _ _ J)).under_sl M
   split at h
   ·rename_i A H; exact ⟨z, A, by unfold elemOf?; rw [K], H, h, K⟩
   ·cases h
  ·cases h
 ·cases h
theorem Ed (ht : cF P tab) {J : TypeId} {y : KV} (h : GW tab J y = true) : zI P J y.down = true := by
 unfold GW at h
 cases z : tab J with
 | none => rw [z] at h; cases h
 | some K =>
  rw [z] at h
  simp only at h
  have H := cA.of (ht _ _ z)
  unfold zI
  cases A : K.tk with
  | str =>
   rw [A] at h; rw [H.under_str A]
   cases y with
   | lit v => cases v <;> first | rfl | cases h
   | _ => cases h
  | sl et =>
   rw [A] at h; rw [H.under_sl A]
   cases y with
   | lit v => cases v <;> first | rfl | cases h
   | _ => rfl
  | _ => rw [A] at h; simp at h
theorem zeroCells {t : TypeId} {z : TI} (h : cA P t z) : (fF z).down.cells = KV.downs (fF z).cells ∧ (fF z).cells = z.zero.map .lit ∧ (fF z).cells.length = z.zero.length := by
 obtain ⟨_, h1, h2⟩ := h.zero_eq
 refine ⟨eK _, ?_⟩
 cases A : z.ag with
 | true => rw [h1 A]; simp [KV.cells]
 | false => obtain ⟨v, J, H⟩ := h2 A; rw [H, J]; simp [KV.cells]
theorem CD {t : TypeId} {M : TI} (ht : cA P t M) {T : Ty} (hT : M.ty = some T) {β : Bool} : ∀ {xs : List (den T)}, CC P t β T.size (xs.map (fI M.ag T)) = some (KV.downs (gC β T xs))
 | [] => rfl
 | x :: xs => by
  have Z : ∃ v, True ∧ Le P β t (fI M.ag T x) 0 = some v ∧ v.cells = KV.downs (cellsOf β T x) := by
   obtain ⟨⟨ls, N, W⟩, hn, hag, _⟩ := ht.ty T hT
   have hl : aZ (dZ T) (cellsOf β T x) = true := leavesOk_cells
   have Y : ∀ (j : Nat) (v : KV), (cellsOf β T x)[j]? = some v → ∃ q, (fI M.ag T x).cells[0 + j]? = some q ∧ rB β v q := by
    intro j v hj
    rw [yj1, dI]; exact kG.2 j v hj
   have A := nW (P := P) (c := 0) W hl Y
   cases U : M.ag with
   | true =>
    refine ⟨.agg (KV.downs (cellsOf β T x)), trivial, ?_, rfl⟩
    unfold Le
    have J := ht.ag; rw [U] at J
    rw [U] at A
    simp only [J, N, ya, ht.n, h9, gL W, hn, A]
    simp
   | false =>
    have J := ht.ag; rw [U] at J
    obtain ⟨l, hl1, rfl⟩ := gB J N
    have hs := hag U
    have O := (kG (β := β) (x := x)).1
    rw [hs] at O
    obtain ⟨v, V⟩ := yh2.1 O
    rw [V] at A Y
    obtain ⟨q, z, hcp⟩ := Y 0 v rfl
    rw [yp2] at z
    simp only [f8, z, ya, KV.downs] at A
    rw [LM] at A
    obtain ⟨a, hra, A⟩ := A
    have hav := (yc1 (yb A)).1
    refine ⟨v.down, trivial, ?_, ?_⟩
    ·unfold Le
     rw [U] at z
     simp only [J, hl1, ya, z]
     rw [hra, hav]
    ·rw [V, eK]
     rcases hcp with ⟨_, _, rfl, _⟩ | ⟨_, rfl, _⟩ | ⟨_, rfl, _⟩ | ⟨_, _, _, rfl, _⟩ <;> rfl
  obtain ⟨v, _, V, W⟩ := Z
  simp only [yi2, CC, V, ya, h9, W, aP, kG.1, CD ht hT, yo]
  refine ⟨nb.2 rfl, ?_⟩
  simp [gC, dE]
 where
 leavesOk_cells : ∀ {β : Bool} {T : Ty} {x : den T}, aZ (dZ T) (cellsOf β T x) = true
  | β, .int k, x => by show aZ [Ty.int k] [.lit (.int k x)] = true; simp [aZ, j8, vJ.2]
  | β, .bool, x => rfl
  | β, .str, x => rfl
  | β, .sl ag T, x => by show aZ [Ty.sl ag T] [.tsl β ag T x] = true; simp [aZ, j8, Mj.2, Ty.beq_iff.2]
  | β, .cons a b, x => by
   rw [oW]
   simp only [dZ]
   exact leavesOk_append leavesOk_cells leavesOk_cells
 leavesOk_append : ∀ {Ts K : List Ty} {vs H : List KV}, aZ Ts vs = true → aZ K H = true → aZ (Ts ++ K) (vs ++ H) = true
  | [], K, [], H, _, h => h
  | T :: Ts, K, v :: vs, H, h1, h2 => by
   simp only [aZ, yc] at h1
   simp only [yp3, aZ, yc]
   exact ⟨h1.1, leavesOk_append h1.2 h2⟩
  | [], K, _ :: _, H, h, _ => by cases h
  | _ :: _, K, [], H, h, _ => by cases h
theorem yT (β : Bool) (k : IntKind) : ∀ xs : List Int, KV.downs (gC β (.int k) xs) = xs.map fun x => .lit (.int k x)
 | [] => rfl
 | x :: xs => by
  have := yT β k xs
  show KV.downs (KV.lit (.int k x) :: gC β (.int k) xs) = _
  rw [KV.downs, this]; rfl
theorem vK {N : TypeId} {J : TI} (A : cA P N J) {y : KRow} {ys : List KV} (h : yR J y = some ys) : y.view.toAvs P N = some (KV.downs ys) := by
 cases y with
 | cells e cs => obtain rfl := yb h; rfl
 | ts β ag T xs =>
  simp only [yR] at h
  split at h
  ·rename_i U H
   rw [c9] at h
   obtain ⟨K, h⟩ := h
   simp only [yc] at K
   obtain rfl := Ty.beq_iff.1 K.1
   have z := Mj.1 K.2
   subst z
   obtain rfl := yb h
   cases M : bT J.ag U with
   | true =>
    obtain ⟨z, O, rfl⟩ := aX.1 M
    rw [z]
    exact congrArg some (yT β O xs).symm
   | false =>
    rw [KRow.view_sl M]
    exact CD A H
  ·cases h
theorem Iu {A : TypeId} {O : TI} (K : cA P A O) {x y : KRow} {k : KRow → Option R} (h : C7 O x y k = some r) : ∃ z, k z = some r ∧ x.view.app P A y.view = some z.view := by
 cases x with
 | ts β ag T xs =>
  simp only [C7] at h
  split at h
  ·rename_i β' U W ys
   rw [c9] at h
   obtain ⟨V, h⟩ := h
   obtain rfl := Mj.1 V
   split at h
   ·rename_i zs Y
    obtain ⟨rfl, rfl⟩ := gA Y
    refine ⟨_, h, ?_⟩
    cases H : bT ag W with
    | true =>
     obtain ⟨rfl, N, rfl⟩ := aX.1 H
     show aO.app P A (.ints N xs) (.ints N ys) = some (.ints N (xs ++ ys))
     simp [aO.app, guardB, vJ.2]; rfl
    | false =>
     rw [KRow.view_sl H, KRow.view_sl H, KRow.view_sl H]
     simp [aO.app, guardB]
   ·cases h
  ·cases h
 | cells e xs =>
  simp only [C7] at h
  split at h
  ·rename_i ys M
   rw [c9] at h
   obtain ⟨J, h⟩ := h
   simp only [yc] at J
   refine ⟨_, h, ?_⟩
   show aO.app P A (.avs e (KV.downs xs)) y.view = some (.avs e (KV.downs (xs ++ ys)))
   simp only [aO.app]
   rw [vK K M]
   simp only [ya, h9, yc, Hi]
   exact ⟨⟨⟨iF J.1.1, J.1.2⟩, J.2⟩, by simp [dE]⟩
  ·cases h
theorem MH (β ag : Bool) (T : Ty) (xs : List (den T)) : (KRow.ts β ag T xs).view.imm? = some (KV.tsl (Fk β ag T) ag T xs).down := by
 cases h : bT ag T with
 | true =>
  obtain ⟨rfl, kk, rfl⟩ := aX.1 h
  rfl
 | false => rw [KRow.view_sl h, qZ h, y9 h]; rfl
theorem Lz (z : TypeId) (β ag : Bool) (T : Ty) (xs : List (den T)) : oU P false z (KRow.ts β ag T xs).view = some (KRow.ts β ag T xs).down := by
 cases h : bT ag T with
 | true =>
  obtain ⟨rfl, kk, rfl⟩ := aX.1 h
  rfl
 | false => rw [KRow.view_sl h, KRow.down_sl h]; rfl
theorem Ja (ht : cF P tab) {boxed vars : Bool} {t tx : TypeId} {rs : Nat} {x y : KV} {k : bY → Option R} (h : GM (bI R) tab boxed vars t tx mem rs x y k = some r) :
  ∃ out, k out = some r ∧ jV P boxed vars t tx (aF mem) rs x.down y.down = some out.down := by
 unfold GM at h
 have h0 := sE ht h
 clear h
 obtain ⟨et, te, het, hte, h0, hu⟩ := h0
 have J := cA.of (ht _ _ hte)
 have h := F1 ht h0
 clear h0
 obtain ⟨V, A, h, hyv⟩ := h
 rw [c9] at h
 obtain ⟨N, h⟩ := h
 simp only [yc] at N
 obtain ⟨⟨⟨⟨g1, g2⟩, g3⟩, g4⟩, g5⟩ := N
 have Y := J.zero_eq.1
 have M : ∀ {O : Option eM} {o : eM}, O = some o → (match x.down with
   | .lit (.slice none 0 0) => guardB (Nat.ble V.view.len cT) (bif boxed then (oU P vars et V.view).map fun row => { v := .msw rs 0, rd := A, wr := [(rs, { gen := 0, frz := false, row })] } else V.view.imm?.map fun v => { v, rd := A })
   | .msw b g => (box? (aF mem) b g).bind fun K => (K.row.all.app P et V.view).bind fun Z => guardB (!K.frz && Nat.beq te.n K.row.e && Nat.ble Z.len cT) (some { v := .msw b (g + 1), rd := b :: A, wr := [(b, { gen := g + 1, frz := false, row := Z.row })] })
   | .ms b g 0 n => (box? (aF mem) b g).bind fun K => (K.row.sub 0 n).bind fun xv => (xv.app P et V.view).bind fun Z => guardB (!K.frz && Nat.beq te.n K.row.e && Nat.ble Z.len cT) (some { v := .msw b (g + 1), rd := b :: A, wr := [(b, { gen := g + 1, frz := false, row := Z.row })] })
   | _ => none) = O → jV P boxed vars t tx (aF mem) rs x.down y.down = some o := by
  intro O o W hm
  unfold jV
  simp only [het, ya, J.n, J.bytes, Y, hyv]
  rw [h9]
  refine ⟨?_, hm.trans W⟩
  simp only [yc, Hi]
  exact ⟨⟨⟨⟨g1, Ed ht g2⟩, g3⟩, g4⟩, by rw [(zeroCells J).1, aP, (zeroCells J).2.2]; exact g5⟩
 split at h
 ·simp only [Au, real_guard] at h
  rw [c9] at h
  obtain ⟨H, h⟩ := h
  rw [← zE] at H
  cases boxed with
  | true =>
   simp only [yg] at h
   cases vars with
   | true =>
    simp only [yg] at h
    split at h
    ·rename_i ys hys
     rw [c9] at h
     obtain ⟨h1, h⟩ := h
     simp only [yc] at h1
     refine ⟨_, h, M (o := (bY.mk (.msw rs 0) A [(rs, ⟨0, false, .cells (s7 V) ys⟩)] []).down) rfl ?_⟩
     simp only [KV.down, h9, H, yg, oU, vK J hys, ya]
     simp [guardB, H, zE, h1.1, iF h1.2, bY.down, fJ.down, KRow.down, Hi, aF, KV.down]
    ·cases h
   | false =>
    simp only [ye] at h
    split at h
    ·rename_i β ag T xs
     refine ⟨_, h, M (o := (bY.mk (.msw rs 0) A [(rs, ⟨0, false, .ts β ag T xs⟩)] []).down) rfl ?_⟩
     simp only [KV.down, yg]
     rw [Lz]
     simp [guardB, H, bY.down, fJ.down, aF, KV.down]
    ·cases h
  | false =>
   simp only [ye] at h
   split at h
   ·rename_i β ag T xs
    refine ⟨_, h, M (o := (bY.mk (.tsl (Fk β ag T) ag T xs) A [] []).down) rfl ?_⟩
    simp only [KV.down, ye]
    rw [MH]
    simp [guardB, H, bY.down, aF, KV.down]
   ·cases h
 ·rename_i b g
  have h' := c7 h
  clear h
  obtain ⟨K, U, h⟩ := h'
  obtain ⟨z, h, Y⟩ := Iu J h
  rw [c9] at h
  obtain ⟨N, h⟩ := h
  simp only [yc] at N
  simp only [Au, real_guard] at h
  rw [c9] at h
  refine ⟨_, h.2, M (o := (bY.mk (.msw b (g + 1)) (b :: A) [(b, ⟨g + 1, false, z⟩)] []).down) rfl ?_⟩
  simp only [KV.down, U, ya, show K.down.row = K.row.down from rfl, Ce, Y, Fr]
  rw [h9]
  refine ⟨?_, by simp [bY.down, fJ.down, aF, KV.down, CN]⟩
  simp only [yc, zE]
  exact ⟨⟨N.1, N.2⟩, h.1⟩
 ·rename_i b g o n
  rw [real_guard, c9] at h
  obtain ⟨ho, h⟩ := h
  obtain rfl := nb.1 ho
  have h' := c7 h
  clear h
  obtain ⟨K, U, h⟩ := h'
  obtain ⟨xr, hxr, h, _⟩ := CI h
  obtain ⟨z, h, Y⟩ := Iu J h
  rw [c9] at h
  obtain ⟨N, h⟩ := h
  simp only [yc] at N
  simp only [Au, real_guard] at h
  rw [c9] at h
  refine ⟨_, h.2, M (o := (bY.mk (.msw b (g + 1)) (b :: A) [(b, ⟨g + 1, false, z⟩)] []).down) rfl ?_⟩
  simp only [KV.down, U, ya, show K.down.row = K.row.down from rfl, hxr, Y, Fr]
  rw [h9]
  refine ⟨?_, by simp [bY.down, fJ.down, aF, KV.down, CN]⟩
  simp only [yc, zE]
  exact ⟨⟨N.1, N.2⟩, h.1⟩
 ·cases h
end
end Go.Ab
