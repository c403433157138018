import Derived.Test.YtdlbbdbbpoggfaaLib15
set_option linter.unusedVariables false
set_option linter.unusedSectionVars false
set_option linter.unusedSimpArgs false
namespace Go.Ab
variable [b4]
section
variable {P : Program} {R : Type} {r : R} {mem : aD} {tab : TypeId → Option TI}
theorem fQ (ht : bG P tab) {t : TypeId} {k : TypeId → TI → Option R} (h : rK tab t k = some r) : ∃ H I, elemOf? P t = some H ∧ tab H = some I ∧ k H I = some r ∧ P.underlying t = some (.slice H) := by
 unfold rK at h
 split at h
 ·rename_i ti K
  split at h
  ·rename_i H N
   have M := (bU.of (ht _ _ K)).under_sl N
   split at h
   ·rename_i I J; exact ⟨H, I, by unfold elemOf?; rw [M], J, h, M⟩
   ·cases h
  ·cases h
 ·cases h
theorem zJ (ht : bG P tab) {K : TypeId} {y : KV} (h : Dw tab K y = true) : yQ P K y.down = true := by
 unfold Dw at h
 cases H : tab K with
 | none => rw [H] at h; cases h
 | some M =>
  rw [H] at h
  simp only at h
  have I := bU.of (ht _ _ H)
  unfold yQ
  cases J : M.tk with
  | str =>
   rw [J] at h; rw [I.under_str J]
   cases y with
   | lit v => cases v <;> first | rfl | cases h
   | _ => cases h
  | sl et =>
   rw [J] at h; rw [I.under_sl J]
   cases y with
   | lit v => cases v <;> first | rfl | cases h
   | _ => rfl
  | _ => rw [J] at h; simp at h
theorem zeroCells {t : TypeId} {H : TI} (h : bU P t H) : (eN H).down.cells = KV.downs (eN H).cells ∧ (eN H).cells = H.zero.map .lit ∧ (eN H).cells.length = H.zero.length := by
 obtain ⟨_, J, K⟩ := h.zero_eq
 refine ⟨eH _, ?_⟩
 cases I : H.ag with
 | true => rw [J I]; simp [KV.cells]
 | false => obtain ⟨v, M, N⟩ := K I; rw [N, M]; simp [KV.cells]
theorem FY {t : TypeId} {I : TI} (ht : bU P t I) {T : Ty} (hT : I.ty = some T) {β : Bool} : ∀ {xs : List (den T)}, Ea P t β T.size (xs.map (cT I.ag T)) = some (KV.downs (gP β T xs))
 | [] => rfl
 | x :: xs => by
  have hrd : ∃ v, True ∧ L4 P β t (cT I.ag T x) 0 = some v ∧ v.cells = KV.downs (cellsOf β T x) := by
   obtain ⟨⟨ls, N, V⟩, hn, Y, _⟩ := ht.ty T hT
   have hl : aQ (c7 T) (cellsOf β T x) = true := leavesOk_cells
   have hq : ∀ (j : Nat) (v : KV), (cellsOf β T x)[j]? = some v → ∃ q, (cT I.ag T x).cells[0 + j]? = some q ∧ j3 β v q := by
    intro j v hj
    rw [yc1, b6]; exact jH.2 j v hj
   have hr := oB (P := P) (c := 0) V hl hq
   cases O : I.ag with
   | true =>
    refine ⟨.agg (KV.downs (cellsOf β T x)), trivial, ?_, rfl⟩
    unfold L4
    have K := ht.ag; rw [O] at K
    rw [O] at hr
    simp only [K, N, ye, ht.n, eB, d6 V, hn, hr]
    simp
   | false =>
    have K := ht.ag; rw [O] at K
    obtain ⟨l, hl1, rfl⟩ := e5 K N
    have hs := Y O
    have M := (jH (β := β) (x := x)).1
    rw [hs] at M
    obtain ⟨v, U⟩ := ye2.1 M
    rw [U] at hr hq
    obtain ⟨q, H, hcp⟩ := hq 0 v rfl
    rw [ym1] at H
    simp only [gA, H, ye, KV.downs] at hr
    rw [C7] at hr
    obtain ⟨a, hra, hr⟩ := hr
    have hav := (yx (ya hr)).1
    refine ⟨v.down, trivial, ?_, ?_⟩
    ·unfold L4
     rw [O] at H
     simp only [K, hl1, ye, H]
     rw [hra, hav]
    ·rw [U, eH]
     rcases hcp with ⟨_, _, rfl, _⟩ | ⟨_, rfl, _⟩ | ⟨_, rfl, _⟩ | ⟨_, _, _, rfl, _⟩ <;> rfl
  obtain ⟨v, _, U, V⟩ := hrd
  simp only [yx1, Ea, U, ye, eB, V, aG, jH.1, FY ht hT, yg]
  refine ⟨nb.2 rfl, ?_⟩
  simp [gP, cY]
 where
 leavesOk_cells : ∀ {β : Bool} {T : Ty} {x : den T}, aQ (c7 T) (cellsOf β T x) = true
  | β, .int k, x => by show aQ [Ty.int k] [.lit (.int k x)] = true; simp [aQ, iK, rW.2]
  | β, .bool, x => rfl
  | β, .str, x => rfl
  | β, .sl ag T, x => by show aQ [Ty.sl ag T] [.tsl β ag T x] = true; simp [aQ, iK, Ip.2, Ty.beq_iff.2]
  | β, .cons a b, x => by
   rw [pO]
   simp only [c7]
   exact leavesOk_append leavesOk_cells leavesOk_cells
 leavesOk_append : ∀ {Z J : List Ty} {vs ws : List KV}, aQ Z vs = true → aQ J ws = true → aQ (Z ++ J) (vs ++ ws) = true
  | [], J, [], ws, _, h => h
  | T :: Z, J, v :: vs, ws, W, h2 => by
   simp only [aQ, yb] at W
   simp only [yp2, aQ, yb]
   exact ⟨W.1, leavesOk_append W.2 h2⟩
  | [], J, _ :: _, ws, h, _ => by cases h
  | _ :: _, J, [], ws, h, _ => by cases h
theorem AD (β : Bool) (k : IntKind) : ∀ xs : List Int, KV.downs (gP β (.int k) xs) = xs.map fun x => .lit (.int k x)
 | [] => rfl
 | x :: xs => by
  have := AD β k xs
  show KV.downs (KV.lit (.int k x) :: gP β (.int k) xs) = _
  rw [KV.downs, this]; rfl
theorem wZ {O : TypeId} {I : TI} (M : bU P O I) {y : KRow} {U : List KV} (h : AN I y = some U) : y.view.toAvs P O = some (KV.downs U) := by
 cases y with
 | os => cases h
 | cells e cs => obtain rfl := ya h; rfl
 | ts β ag T xs =>
  simp only [AN] at h
  split at h
  ·rename_i W J
   rw [bR] at h
   obtain ⟨K, h⟩ := h
   simp only [yb] at K
   obtain rfl := Ty.beq_iff.1 K.1
   have H := Ip.1 K.2
   subst H
   obtain rfl := ya h
   cases N : aY I.ag W with
   | true =>
    obtain ⟨H, V, rfl⟩ := aK.1 N
    rw [H]
    exact congrArg some (AD β V xs).symm
   | false =>
    rw [KRow.view_sl N]
    exact FY M J
  ·cases h
theorem JY {I : TypeId} {U : TI} (N : bU P I U) {x y : KRow} {k : KRow → Option R} (h : Et U x y k = some r) : ∃ z, k z = some r ∧ x.view.app P I y.view = some z.view ∧ gX z = false := by
 cases x with
 | os => cases h
 | ts β ag T xs =>
  simp only [Et] at h
  split at h
  ·rename_i β' V Y K
   rw [bR] at h
   obtain ⟨W, h⟩ := h
   obtain rfl := Ip.1 W
   split at h
   ·rename_i zs Z
    obtain ⟨rfl, rfl⟩ := dW Z
    refine ⟨_, h, ?_, rfl⟩
    cases H : aY ag Y with
    | true =>
     obtain ⟨rfl, O, rfl⟩ := aK.1 H
     show aI.app P I (.ints O xs) (.ints O K) = some (.ints O (xs ++ K))
     simp [aI.app, guardB, rW.2]; rfl
    | false =>
     rw [KRow.view_sl H, KRow.view_sl H, KRow.view_sl H]
     simp [aI.app, guardB]
   ·cases h
  ·cases h
 | cells e xs =>
  simp only [Et] at h
  split at h
  ·rename_i K M
   rw [bR] at h
   obtain ⟨J, h⟩ := h
   simp only [yb] at J
   refine ⟨_, h, ?_, rfl⟩
   show aI.app P I (.avs e (KV.downs xs)) y.view = some (.avs e (KV.downs (xs ++ K)))
   simp only [aI.app]
   rw [wZ N M]
   simp only [ye, eB, yb, HG]
   exact ⟨⟨⟨eU J.1.1, J.1.2⟩, J.2⟩, by simp [cY]⟩
  ·cases h
theorem Nz (β ag : Bool) (T : Ty) (xs : List (den T)) : (KRow.ts β ag T xs).view.imm? = some (KV.tsl (Aa β ag T) ag T xs).down := by
 cases H : aY ag T with
 | true =>
  obtain ⟨rfl, kk, rfl⟩ := aK.1 H
  rfl
 | false => rw [KRow.view_sl H, sM H, lY H]; rfl
theorem Mn (I : TypeId) (β ag : Bool) (T : Ty) (xs : List (den T)) : kT P false I (KRow.ts β ag T xs).view = some (KRow.ts β ag T xs).down := by
 cases H : aY ag T with
 | true =>
  obtain ⟨rfl, kk, rfl⟩ := aK.1 H
  rfl
 | false => rw [KRow.view_sl H, KRow.down_sl H]; rfl
theorem ID (ht : bG P tab) {boxed vars : Bool} {t tx : TypeId} {rs : Nat} {x y : KV} {k : aZ → Option R} (h : HJ (aP R) tab boxed vars t tx mem rs x y k = some r) :
  ∃ out, k out = some r ∧ gO P boxed vars t tx (aB mem) rs x.down y.down = some out.down := by
 unfold HJ at h
 have h0 := fQ ht h
 clear h
 obtain ⟨et, te, het, hte, h0, hu⟩ := h0
 have I := bU.of (ht _ _ hte)
 have h := Bw ht h0
 clear h0
 obtain ⟨W, H, h, hyv⟩ := h
 rw [bR] at h
 obtain ⟨N, h⟩ := h
 simp only [yb] at N
 obtain ⟨⟨⟨⟨g1, g2⟩, g3⟩, g4⟩, g5⟩ := N
 have hz := I.zero_eq.1
 have M : ∀ {U : Option dE} {o : dE}, U = some o → (match x.down with
   | .lit (.slice none 0 0) => guardB (Nat.ble W.view.len bD) (bif boxed then (kT P vars et W.view).map fun row => { v := .msw rs 0, rd := H, wr := [(rs, { gen := 0, frz := false, row })] } else W.view.imm?.map fun v => { v, rd := H })
   | .msw b g => (box? (aB mem) b g).bind fun K => (K.row.all.app P et W.view).bind fun Z => guardB (!K.frz && Nat.beq te.n K.row.e && Nat.ble Z.len bD) (some { v := .msw b (g + 1), rd := b :: H, wr := [(b, { gen := g + 1, frz := false, row := Z.row })] })
   | .ms b g 0 n => (box? (aB mem) b g).bind fun K => (K.row.sub 0 n).bind fun xv => (xv.app P et W.view).bind fun Z => guardB (!K.frz && Nat.beq te.n K.row.e && Nat.ble Z.len bD) (some { v := .msw b (g + 1), rd := b :: H, wr := [(b, { gen := g + 1, frz := false, row := Z.row })] })
   | _ => none) = U → gO P boxed vars t tx (aB mem) rs x.down y.down = some o := by
  intro U o Y hm
  unfold gO
  simp only [het, ye, I.n, I.bytes, hz, hyv]
  rw [eB]
  refine ⟨?_, hm.trans Y⟩
  simp only [yb, HG]
  exact ⟨⟨⟨⟨g1, zJ ht g2⟩, g3⟩, g4⟩, by rw [(zeroCells I).1, aG, (zeroCells I).2.2]; exact g5⟩
 split at h
 ·simp only [AZ, real_guard] at h
  rw [bR] at h
  obtain ⟨J, h⟩ := h
  rw [← zT] at J
  cases boxed with
  | true =>
   simp only [yl] at h
   cases vars with
   | true =>
    simp only [yl] at h
    split at h
    ·rename_i ys hys
     rw [bR] at h
     obtain ⟨h1, h⟩ := h
     simp only [yb] at h1
     refine ⟨_, h, M (o := (aZ.mk (.msw rs 0) H [(rs, ⟨0, false, .cells (o0 W) ys⟩)] []).down) rfl ?_⟩
     simp only [KV.down, eB, J, yl, kT, wZ I hys, ye]
     simp [guardB, J, zT, h1.1, eU h1.2, aZ.down, dD.down, KRow.down, HG, aB, KV.down]
    ·cases h
   | false =>
    simp only [yk] at h
    split at h
    ·rename_i β ag T xs
     refine ⟨_, h, M (o := (aZ.mk (.msw rs 0) H [(rs, ⟨0, false, .ts β ag T xs⟩)] []).down) rfl ?_⟩
     simp only [KV.down, yl]
     rw [Mn]
     simp [guardB, J, aZ.down, dD.down, aB, KV.down]
    ·cases h
  | false =>
   simp only [yk] at h
   split at h
   ·rename_i β ag T xs
    refine ⟨_, h, M (o := (aZ.mk (.tsl (Aa β ag T) ag T xs) H [] []).down) rfl ?_⟩
    simp only [KV.down, yk]
    rw [Nz]
    simp [guardB, J, aZ.down, aB, KV.down]
   ·cases h
 ·rename_i b g
  have h' := cQ h
  clear h
  obtain ⟨K, V, h⟩ := h'
  obtain ⟨z, h, hz, O⟩ := JY I h
  rw [bR] at h
  obtain ⟨N, h⟩ := h
  simp only [yb] at N
  simp only [AZ, real_guard] at h
  rw [bR] at h
  refine ⟨_, h.2, M (o := (aZ.mk (.msw b (g + 1)) (b :: H) [(b, ⟨g + 1, false, z⟩)] []).down) rfl ?_⟩
  simp only [KV.down, V, ye, show K.down.row = K.row.down from rfl, C6, hz, wY]
  rw [eB]
  refine ⟨?_, by simp [aZ.down, dD.down, aB, KV.down, FK _ O]⟩
  simp only [yb, zT]
  exact ⟨⟨N.1, N.2⟩, h.1⟩
 ·rename_i b g o n
  rw [real_guard, bR] at h
  obtain ⟨ho, h⟩ := h
  obtain rfl := nb.1 ho
  have h' := cQ h
  clear h
  obtain ⟨K, V, h⟩ := h'
  obtain ⟨xr, hxr, h, _⟩ := Ds h
  obtain ⟨z, h, hz, O⟩ := JY I h
  rw [bR] at h
  obtain ⟨N, h⟩ := h
  simp only [yb] at N
  simp only [AZ, real_guard] at h
  rw [bR] at h
  refine ⟨_, h.2, M (o := (aZ.mk (.msw b (g + 1)) (b :: H) [(b, ⟨g + 1, false, z⟩)] []).down) rfl ?_⟩
  simp only [KV.down, V, ye, show K.down.row = K.row.down from rfl, hxr, hz, wY]
  rw [eB]
  refine ⟨?_, by simp [aZ.down, dD.down, aB, KV.down, FK _ O]⟩
  simp only [yb, zT]
  exact ⟨⟨N.1, N.2⟩, h.1⟩
 ·cases h
end
end Go.Ab
