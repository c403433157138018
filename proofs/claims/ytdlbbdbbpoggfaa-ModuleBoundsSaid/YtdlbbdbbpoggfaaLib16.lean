import Derived.Test.YtdlbbdbbpoggfaaLib15
set_option linter.unusedVariables false
set_option linter.unusedSectionVars false
set_option linter.unusedSimpArgs false
namespace Go.Ab
variable [b4]
section
variable {P : Program} {R : Type} {r : R} {mem : aD} {tab : TypeId → Option TI}
theorem fP (ht : bI P tab) {t : TypeId} {k : TypeId → TI → Option R} (h : rG tab t k = some r) : ∃ H I, elemOf? P t = some H ∧ tab H = some I ∧ k H I = some r ∧ P.underlying t = some (.slice H) := by
 unfold rG at h
 split at h
 ·rename_i ti J
  split at h
  ·rename_i H N
   have M := (bV.of (ht _ _ J)).under_sl N
   split at h
   ·rename_i I K; exact ⟨H, I, by unfold elemOf?; rw [M], K, h, M⟩
   ·cases h
  ·cases h
 ·cases h
theorem zG (ht : bI P tab) {K : TypeId} {y : KV} (h : Fq tab K y = true) : yL P K y.down = true := by
 unfold Fq at h
 cases H : tab K with
 | none => rw [H] at h; cases h
 | some M =>
  rw [H] at h
  simp only at h
  have I := bV.of (ht _ _ H)
  unfold yL
  cases J : M.tk with
  | str =>
   rw [J] at h; rw [I.under_str J]
   cases y with
   | lit v => cases v <;> first | rfl | cases h
   | _ => cases h
  | sl et =>
   rw [J] at h; rw [I.under_sl J]
   cases y with
   | lit v => cases v <;> first | rfl | cases h
   | _ => rfl
  | _ => rw [J] at h; simp at h
theorem zeroCells {t : TypeId} {H : TI} (h : bV P t H) : (eP H).down.cells = KV.downs (eP H).cells ∧ (eP H).cells = H.zero.map .lit ∧ (eP H).cells.length = H.zero.length := by
 obtain ⟨_, J, K⟩ := h.zero_eq
 refine ⟨eG _, ?_⟩
 cases I : H.ag with
 | true => rw [J I]; simp [KV.cells]
 | false => obtain ⟨v, N, M⟩ := K I; rw [M, N]; simp [KV.cells]
theorem Dk {t : TypeId} {K : TI} (ht : bV P t K) {T : Ty} (hT : K.ty = some T) {β : Bool} : ∀ {xs : List (den T)}, E6 P t β T.size (xs.map (cT K.ag T)) = some (KV.downs (gR β T xs))
 | [] => rfl
 | x :: xs => by
  have Y : ∃ v, True ∧ LR P β t (cT K.ag T x) 0 = some v ∧ v.cells = KV.downs (cellsOf β T x) := by
   obtain ⟨⟨ls, M, U⟩, hn, hag, _⟩ := ht.ty T hT
   have hl : aQ (c6 T) (cellsOf β T x) = true := leavesOk_cells
   have hq : ∀ (j : Nat) (v : KV), (cellsOf β T x)[j]? = some v → ∃ q, (cT K.ag T x).cells[0 + j]? = some q ∧ j4 β v q := by
    intro j v hj
    rw [yc1, b7]; exact jN.2 j v hj
   have hr := oI (P := P) (c := 0) U hl hq
   cases N : K.ag with
   | true =>
    refine ⟨.agg (KV.downs (cellsOf β T x)), trivial, ?_, rfl⟩
    unfold LR
    have J := ht.ag; rw [N] at J
    rw [N] at hr
    simp only [J, M, ye, ht.n, d9, d7 U, hn, hr]
    simp
   | false =>
    have J := ht.ag; rw [N] at J
    obtain ⟨l, W, rfl⟩ := fA J M
    have hs := hag N
    have O := (jN (β := β) (x := x)).1
    rw [hs] at O
    obtain ⟨v, V⟩ := ye2.1 O
    rw [V] at hr hq
    obtain ⟨q, H, hcp⟩ := hq 0 v rfl
    rw [ym1] at H
    simp only [gG, H, ye, KV.downs] at hr
    rw [C3] at hr
    obtain ⟨a, hra, hr⟩ := hr
    have hav := (yx (ya hr)).1
    refine ⟨v.down, trivial, ?_, ?_⟩
    ·unfold LR
     rw [N] at H
     simp only [J, W, ye, H]
     rw [hra, hav]
    ·rw [V, eG]
     rcases hcp with ⟨_, _, rfl, _⟩ | ⟨_, rfl, _⟩ | ⟨_, rfl, _⟩ | ⟨_, _, _, rfl, _⟩ <;> rfl
  obtain ⟨v, _, V, U⟩ := Y
  simp only [yx1, E6, V, ye, d9, U, aG, jN.1, Dk ht hT, yg]
  refine ⟨nb.2 rfl, ?_⟩
  simp [gR, cZ]
 where
 leavesOk_cells : ∀ {β : Bool} {T : Ty} {x : den T}, aQ (c6 T) (cellsOf β T x) = true
  | β, .int k, x => by show aQ [Ty.int k] [.lit (.int k x)] = true; simp [aQ, iL, rW.2]
  | β, .bool, x => rfl
  | β, .str, x => rfl
  | β, .sl ag T, x => by show aQ [Ty.sl ag T] [.tsl β ag T x] = true; simp [aQ, iL, Ip.2, Ty.beq_iff.2]
  | β, .cons a b, x => by
   rw [pH]
   simp only [c6]
   exact leavesOk_append leavesOk_cells leavesOk_cells
 leavesOk_append : ∀ {Z I : List Ty} {vs ws : List KV}, aQ Z vs = true → aQ I ws = true → aQ (Z ++ I) (vs ++ ws) = true
  | [], I, [], ws, _, h => h
  | T :: Z, I, v :: vs, ws, h1, h2 => by
   simp only [aQ, yb] at h1
   simp only [yp2, aQ, yb]
   exact ⟨h1.1, leavesOk_append h1.2 h2⟩
  | [], I, _ :: _, ws, h, _ => by cases h
  | _ :: _, I, [], ws, h, _ => by cases h
theorem zY (β : Bool) (k : IntKind) : ∀ xs : List Int, KV.downs (gR β (.int k) xs) = xs.map fun x => .lit (.int k x)
 | [] => rfl
 | x :: xs => by
  have := zY β k xs
  show KV.downs (KV.lit (.int k x) :: gR β (.int k) xs) = _
  rw [KV.downs, this]; rfl
theorem x3 {N : TypeId} {K : TI} (I : bV P N K) {y : KRow} {O : List KV} (h : AG K y = some O) : y.view.toAvs P N = some (KV.downs O) := by
 cases y with
 | os => cases h
 | cells e cs => obtain rfl := ya h; rfl
 | ts β ag T xs =>
  simp only [AG] at h
  split at h
  ·rename_i V M
   rw [bP] at h
   obtain ⟨J, h⟩ := h
   simp only [yb] at J
   obtain rfl := Ty.beq_iff.1 J.1
   have H := Ip.1 J.2
   subst H
   obtain rfl := ya h
   cases U : aY K.ag V with
   | true =>
    obtain ⟨H, W, rfl⟩ := aK.1 U
    rw [H]
    exact congrArg some (zY β W xs).symm
   | false =>
    rw [KRow.view_sl U]
    exact Dk I M
  ·cases h
theorem IB {H : TypeId} {U : TI} (M : bV P H U) {x y : KRow} {k : KRow → Option R} (h : FX U x y k = some r) : ∃ z, k z = some r ∧ x.view.app P H y.view = some z.view ∧ gV z = false := by
 cases x with
 | os => cases h
 | ts β ag T xs =>
  simp only [FX] at h
  split at h
  ·rename_i β' V Y J
   rw [bP] at h
   obtain ⟨Z, h⟩ := h
   obtain rfl := Ip.1 Z
   split at h
   ·rename_i zs W
    obtain ⟨rfl, rfl⟩ := dW W
    refine ⟨_, h, ?_, rfl⟩
    cases I : aY ag Y with
    | true =>
     obtain ⟨rfl, O, rfl⟩ := aK.1 I
     show aI.app P H (.ints O xs) (.ints O J) = some (.ints O (xs ++ J))
     simp [aI.app, guardB, rW.2]; rfl
    | false =>
     rw [KRow.view_sl I, KRow.view_sl I, KRow.view_sl I]
     simp [aI.app, guardB]
   ·cases h
  ·cases h
 | cells e xs =>
  simp only [FX] at h
  split at h
  ·rename_i J N
   rw [bP] at h
   obtain ⟨K, h⟩ := h
   simp only [yb] at K
   refine ⟨_, h, ?_, rfl⟩
   show aI.app P H (.avs e (KV.downs xs)) y.view = some (.avs e (KV.downs (xs ++ J)))
   simp only [aI.app]
   rw [x3 M N]
   simp only [ye, d9, yb, HC]
   exact ⟨⟨⟨eY K.1.1, K.1.2⟩, K.2⟩, by simp [cZ]⟩
  ·cases h
theorem N7 (β ag : Bool) (T : Ty) (xs : List (den T)) : (KRow.ts β ag T xs).view.imm? = some (KV.tsl (AE β ag T) ag T xs).down := by
 cases H : aY ag T with
 | true =>
  obtain ⟨rfl, kk, rfl⟩ := aK.1 H
  rfl
 | false => rw [KRow.view_sl H, sY H, lU H]; rfl
theorem Mi (I : TypeId) (β ag : Bool) (T : Ty) (xs : List (den T)) : kT P false I (KRow.ts β ag T xs).view = some (KRow.ts β ag T xs).down := by
 cases H : aY ag T with
 | true =>
  obtain ⟨rfl, kk, rfl⟩ := aK.1 H
  rfl
 | false => rw [KRow.view_sl H, KRow.down_sl H]; rfl
theorem Jf (ht : bI P tab) {boxed vars : Bool} {t tx : TypeId} {rs : Nat} {x y : KV} {k : aZ → Option R} (h : H3 (aP R) tab boxed vars t tx mem rs x y k = some r) :
  ∃ out, k out = some r ∧ gN P boxed vars t tx (aB mem) rs x.down y.down = some out.down := by
 unfold H3 at h
 have h0 := fP ht h
 clear h
 obtain ⟨et, te, het, hte, h0, hu⟩ := h0
 have I := bV.of (ht _ _ hte)
 have h := BE ht h0
 clear h0
 obtain ⟨W, H, h, hyv⟩ := h
 rw [bP] at h
 obtain ⟨N, h⟩ := h
 simp only [yb] at N
 obtain ⟨⟨⟨⟨g1, g2⟩, g3⟩, g4⟩, g5⟩ := N
 have Y := I.zero_eq.1
 have M : ∀ {V : Option dD} {o : dD}, V = some o → (match x.down with
   | .lit (.slice none 0 0) => guardB (Nat.ble W.view.len bA) (bif boxed then (kT P vars et W.view).map fun row => { v := .msw rs 0, rd := H, wr := [(rs, { gen := 0, frz := false, row })] } else W.view.imm?.map fun v => { v, rd := H })
   | .msw b g => (box? (aB mem) b g).bind fun K => (K.row.all.app P et W.view).bind fun zv => guardB (!K.frz && Nat.beq te.n K.row.e && Nat.ble zv.len bA) (some { v := .msw b (g + 1), rd := b :: H, wr := [(b, { gen := g + 1, frz := false, row := zv.row })] })
   | .ms b g 0 n => (box? (aB mem) b g).bind fun K => (K.row.sub 0 n).bind fun xv => (xv.app P et W.view).bind fun zv => guardB (!K.frz && Nat.beq te.n K.row.e && Nat.ble zv.len bA) (some { v := .msw b (g + 1), rd := b :: H, wr := [(b, { gen := g + 1, frz := false, row := zv.row })] })
   | _ => none) = V → gN P boxed vars t tx (aB mem) rs x.down y.down = some o := by
  intro V o Z hm
  unfold gN
  simp only [het, ye, I.n, I.bytes, Y, hyv]
  rw [d9]
  refine ⟨?_, hm.trans Z⟩
  simp only [yb, HC]
  exact ⟨⟨⟨⟨g1, zG ht g2⟩, g3⟩, g4⟩, by rw [(zeroCells I).1, aG, (zeroCells I).2.2]; exact g5⟩
 split at h
 ·simp only [BQ, real_guard] at h
  rw [bP] at h
  obtain ⟨J, h⟩ := h
  rw [← AK] at J
  cases boxed with
  | true =>
   simp only [yl] at h
   cases vars with
   | true =>
    simp only [yl] at h
    split at h
    ·rename_i ys hys
     rw [bP] at h
     obtain ⟨h1, h⟩ := h
     simp only [yb] at h1
     refine ⟨_, h, M (o := (aZ.mk (.msw rs 0) H [(rs, ⟨0, false, .cells (oJ W) ys⟩)] []).down) rfl ?_⟩
     simp only [KV.down, d9, J, yl, kT, x3 I hys, ye]
     simp [guardB, J, AK, h1.1, eY h1.2, aZ.down, dE.down, KRow.down, HC, aB, KV.down]
    ·cases h
   | false =>
    simp only [yk] at h
    split at h
    ·rename_i β ag T xs
     refine ⟨_, h, M (o := (aZ.mk (.msw rs 0) H [(rs, ⟨0, false, .ts β ag T xs⟩)] []).down) rfl ?_⟩
     simp only [KV.down, yl]
     rw [Mi]
     simp [guardB, J, aZ.down, dE.down, aB, KV.down]
    ·cases h
  | false =>
   simp only [yk] at h
   split at h
   ·rename_i β ag T xs
    refine ⟨_, h, M (o := (aZ.mk (.tsl (AE β ag T) ag T xs) H [] []).down) rfl ?_⟩
    simp only [KV.down, yk]
    rw [N7]
    simp [guardB, J, aZ.down, aB, KV.down]
   ·cases h
 ·rename_i b g
  have h' := cQ h
  clear h
  obtain ⟨K, O, h⟩ := h'
  obtain ⟨z, h, Y, U⟩ := IB I h
  rw [bP] at h
  obtain ⟨N, h⟩ := h
  simp only [yb] at N
  simp only [BQ, real_guard] at h
  rw [bP] at h
  refine ⟨_, h.2, M (o := (aZ.mk (.msw b (g + 1)) (b :: H) [(b, ⟨g + 1, false, z⟩)] []).down) rfl ?_⟩
  simp only [KV.down, O, ye, show K.down.row = K.row.down from rfl, Dd, Y, yJ]
  rw [d9]
  refine ⟨?_, by simp [aZ.down, dE.down, aB, KV.down, FW _ U]⟩
  simp only [yb, AK]
  exact ⟨⟨N.1, N.2⟩, h.1⟩
 ·rename_i b g o n
  rw [real_guard, bP] at h
  obtain ⟨ho, h⟩ := h
  obtain rfl := nb.1 ho
  have h' := cQ h
  clear h
  obtain ⟨K, O, h⟩ := h'
  obtain ⟨xr, hxr, h, _⟩ := D6 h
  obtain ⟨z, h, Y, U⟩ := IB I h
  rw [bP] at h
  obtain ⟨N, h⟩ := h
  simp only [yb] at N
  simp only [BQ, real_guard] at h
  rw [bP] at h
  refine ⟨_, h.2, M (o := (aZ.mk (.msw b (g + 1)) (b :: H) [(b, ⟨g + 1, false, z⟩)] []).down) rfl ?_⟩
  simp only [KV.down, O, ye, show K.down.row = K.row.down from rfl, hxr, Y, yJ]
  rw [d9]
  refine ⟨?_, by simp [aZ.down, dE.down, aB, KV.down, FW _ U]⟩
  simp only [yb, AK]
  exact ⟨⟨N.1, N.2⟩, h.1⟩
 ·cases h
end
end Go.Ab
