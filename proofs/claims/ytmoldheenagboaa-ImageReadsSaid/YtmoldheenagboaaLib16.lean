import Derived.Test.YtmoldheenagboaaLib15
set_option linter.unusedVariables false
set_option linter.unusedSectionVars false
set_option linter.unusedSimpArgs false
namespace Go.Ab
variable [b8]
section
variable {P : Program} {R : Type} {r : R} {mem : aO} {tab : TypeId → Option TI}
theorem q8 (O : b9 P tab) {t : TypeId} {k : TypeId → TI → Option R} (h : Do tab t k = some r) : ∃ z H, elemOf? P t = some z ∧ tab z = some H ∧ k z H = some r ∧ P.underlying t = some (.slice z) := by
 unfold Do at h
 split at h
 ·rename_i ti J
  split at h
  ·rename_i z U
   have N := (bX.of (O _ _ J)).under_sl U
   split at h
   ·rename_i H K; exact ⟨z, H, by unfold elemOf?; rw [N], K, h, N⟩
   ·cases h
  ·cases h
 ·cases h
theorem Bc (O : b9 P tab) {K : TypeId} {y : KV} (h : Fm tab K y = true) : wH P K y.down = true := by
 unfold Fm at h
 cases z : tab K with
 | none => rw [z] at h; cases h
 | some N =>
  rw [z] at h
  simp only at h
  have H := bX.of (O _ _ z)
  unfold wH
  cases J : N.tk with
  | str =>
   rw [J] at h; rw [H.under_str J]
   cases y with
   | lit v => cases v <;> first | rfl | cases h
   | _ => cases h
  | sl et =>
   rw [J] at h; rw [H.under_sl J]
   cases y with
   | lit v => cases v <;> first | rfl | cases h
   | _ => rfl
  | _ => rw [J] at h; simp at h
theorem zeroCells {t : TypeId} {z : TI} (h : bX P t z) : (eD z).down.cells = KV.downs (eD z).cells ∧ (eD z).cells = z.zero.map .lit ∧ (eD z).cells.length = z.zero.length := by
 obtain ⟨_, K, O⟩ := h.zero_eq
 refine ⟨dR _, ?_⟩
 cases H : z.ag with
 | true => rw [K H]; simp [KV.cells]
 | false => obtain ⟨v, J, N⟩ := O H; rw [N, J]; simp [KV.cells]
theorem A8 {t : TypeId} {O : TI} (V : bX P t O) {T : Ty} (hT : O.ty = some T) {β : Bool} : ∀ {xs : List (den T)}, Cq P t β T.size (xs.map (eF O.ag T)) = some (KV.downs (fV β T xs))
 | [] => rfl
 | x :: xs => by
  have hrd : ∃ v, True ∧ Ix P β t (eF O.ag T x) 0 = some v ∧ v.cells = KV.downs (cellsOf β T x) := by
   obtain ⟨⟨ls, U, Z⟩, hn, hag, _⟩ := V.ty T hT
   have hl : aV (c9 T) (cellsOf β T x) = true := leavesOk_cells
   have hq : ∀ (j : Nat) (v : KV), (cellsOf β T x)[j]? = some v → ∃ q, (eF O.ag T x).cells[0 + j]? = some q ∧ qB β v q := by
    intro j v hj
    rw [yh1, cR]; exact jK.2 j v hj
   have H := mH (P := P) (c := 0) Z hl hq
   cases W : O.ag with
   | true =>
    refine ⟨.agg (KV.downs (cellsOf β T x)), trivial, ?_, rfl⟩
    unfold Ix
    have J := V.ag; rw [W] at J
    rw [W] at H
    simp only [J, U, yb, V.n, f8, fK Z, hn, H]
    simp
   | false =>
    have J := V.ag; rw [W] at J
    obtain ⟨l, hl1, rfl⟩ := eY J U
    have hs := hag W
    have Y := (jK (β := β) (x := x)).1
    rw [hs] at Y
    obtain ⟨v, hv⟩ := yb2.1 Y
    rw [hv] at H hq
    obtain ⟨q, z, hcp⟩ := hq 0 v rfl
    rw [yf2] at z
    simp only [e7, z, yb, KV.downs] at H
    rw [Jc] at H
    obtain ⟨a, hra, H⟩ := H
    have hav := (yx (ya H)).1
    refine ⟨v.down, trivial, ?_, ?_⟩
    ·unfold Ix
     rw [W] at z
     simp only [J, hl1, yb, z]
     rw [hra, hav]
    ·rw [hv, dR]
     rcases hcp with ⟨_, _, rfl, _⟩ | ⟨_, rfl, _⟩ | ⟨_, rfl, _⟩ | ⟨_, _, _, rfl, _⟩ <;> rfl
  obtain ⟨v, _, hv, Z⟩ := hrd
  simp only [yc2, Cq, hv, yb, f8, Z, aK, jK.1, A8 V hT, yn]
  refine ⟨nb.2 rfl, ?_⟩
  simp [fV, cO]
 where
 leavesOk_cells : ∀ {β : Bool} {T : Ty} {x : den T}, aV (c9 T) (cellsOf β T x) = true
  | β, .int k, x => by show aV [Ty.int k] [.lit (.int k x)] = true; simp [aV, i4, rT.2]
  | β, .bool, x => rfl
  | β, .str, x => rfl
  | β, .sl ag T, x => by show aV [Ty.sl ag T] [.tsl β ag T x] = true; simp [aV, i4, JB.2, Ty.beq_iff.2]
  | β, .cons a b, x => by
   rw [n7]
   simp only [c9]
   exact leavesOk_append leavesOk_cells leavesOk_cells
 leavesOk_append : ∀ {Ts N : List Ty} {vs K : List KV}, aV Ts vs = true → aV N K = true → aV (Ts ++ N) (vs ++ K) = true
  | [], N, [], K, _, h => h
  | T :: Ts, N, v :: vs, K, h1, h2 => by
   simp only [aV, yc] at h1
   simp only [yx2, aV, yc]
   exact ⟨h1.1, leavesOk_append h1.2 h2⟩
  | [], N, _ :: _, K, h, _ => by cases h
  | _ :: _, N, [], K, h, _ => by cases h
theorem wK (β : Bool) (k : IntKind) : ∀ xs : List Int, KV.downs (fV β (.int k) xs) = xs.map fun x => .lit (.int k x)
 | [] => rfl
 | x :: xs => by
  have := wK β k xs
  show KV.downs (KV.lit (.int k x) :: fV β (.int k) xs) = _
  rw [KV.downs, this]; rfl
theorem rP {U : TypeId} {J : TI} (H : bX P U J) {y : KRow} {O : List KV} (h : vU J y = some O) : y.view.toAvs P U = some (KV.downs O) := by
 cases y with
 | cells e cs => obtain rfl := ya h; rfl
 | ts β ag T xs =>
  simp only [vU] at h
  split at h
  ·rename_i W N
   rw [cK] at h
   obtain ⟨K, h⟩ := h
   simp only [yc] at K
   obtain rfl := Ty.beq_iff.1 K.1
   have z := JB.1 K.2
   subst z
   obtain rfl := ya h
   cases V : bP J.ag W with
   | true =>
    obtain ⟨z, Y, rfl⟩ := aT.1 V
    rw [z]
    exact congrArg some (wK β Y xs).symm
   | false =>
    rw [KRow.view_sl V]
    exact A8 H N
  ·cases h
theorem FR {H : TypeId} {W : TI} (V : bX P H W) {x y : KRow} {k : KRow → Option R} (h : Cr W x y k = some r) : ∃ z, k z = some r ∧ x.view.app P H y.view = some z.view := by
 cases x with
 | ts β ag T xs =>
  simp only [Cr] at h
  split at h
  ·rename_i β' Z T' N
   rw [cK] at h
   obtain ⟨Y, h⟩ := h
   obtain rfl := JB.1 Y
   split at h
   ·rename_i zs hz
    obtain ⟨rfl, rfl⟩ := eZ hz
    refine ⟨_, h, ?_⟩
    cases J : bP ag T' with
    | true =>
     obtain ⟨rfl, O, rfl⟩ := aT.1 J
     show aM.app P H (.ints O xs) (.ints O N) = some (.ints O (xs ++ N))
     simp [aM.app, guardB, rT.2]; rfl
    | false =>
     rw [KRow.view_sl J, KRow.view_sl J, KRow.view_sl J]
     simp [aM.app, guardB]
   ·cases h
  ·cases h
 | cells e xs =>
  simp only [Cr] at h
  split at h
  ·rename_i N U
   rw [cK] at h
   obtain ⟨K, h⟩ := h
   simp only [yc] at K
   refine ⟨_, h, ?_⟩
   show aM.app P H (.avs e (KV.downs xs)) y.view = some (.avs e (KV.downs (xs ++ N)))
   simp only [aM.app]
   rw [rP V U]
   simp only [yb, f8, yc, Fe]
   exact ⟨⟨⟨gD K.1.1, K.1.2⟩, K.2⟩, by simp [cO]⟩
  ·cases h
theorem Ks (β ag : Bool) (T : Ty) (xs : List (den T)) : (KRow.ts β ag T xs).view.imm? = some (KV.tsl (mF β ag T) ag T xs).down := by
 cases z : bP ag T with
 | true =>
  obtain ⟨rfl, kk, rfl⟩ := aT.1 z
  rfl
 | false => rw [KRow.view_sl z, pQ z, vW z]; rfl
theorem I0 (H : TypeId) (β ag : Bool) (T : Ty) (xs : List (den T)) : nD P false H (KRow.ts β ag T xs).view = some (KRow.ts β ag T xs).down := by
 cases z : bP ag T with
 | true =>
  obtain ⟨rfl, kk, rfl⟩ := aT.1 z
  rfl
 | false => rw [KRow.view_sl z, KRow.down_sl z]; rfl
theorem GH (ht : b9 P tab) {boxed vars : Bool} {t tx : TypeId} {rs : Nat} {x y : KV} {k : bW → Option R} (h : E1 (aL R) tab boxed vars t tx mem rs x y k = some r) :
  ∃ out, k out = some r ∧ i7 P boxed vars t tx (aB mem) rs x.down y.down = some out.down := by
 unfold E1 at h
 have h0 := q8 ht h
 clear h
 obtain ⟨et, te, het, hte, h0, hu⟩ := h0
 have J := bX.of (ht _ _ hte)
 have h := Ee ht h0
 clear h0
 obtain ⟨Y, H, h, hyv⟩ := h
 rw [cK] at h
 obtain ⟨U, h⟩ := h
 simp only [yc] at U
 obtain ⟨⟨⟨⟨g1, g2⟩, g3⟩, g4⟩, g5⟩ := U
 have hz := J.zero_eq.1
 have O : ∀ {V : Option dX} {o : dX}, V = some o → (match x.down with
   | .lit (.slice none 0 0) => guardB (Nat.ble Y.view.len cJ) (bif boxed then (nD P vars et Y.view).map fun row => { v := .msw rs 0, rd := H, wr := [(rs, { gen := 0, frz := false, row })] } else Y.view.imm?.map fun v => { v, rd := H })
   | .msw b g => (box? (aB mem) b g).bind fun N => (N.row.all.app P et Y.view).bind fun Z => guardB (!N.frz && Nat.beq te.n N.row.e && Nat.ble Z.len cJ) (some { v := .msw b (g + 1), rd := b :: H, wr := [(b, { gen := g + 1, frz := false, row := Z.row })] })
   | .ms b g 0 n => (box? (aB mem) b g).bind fun N => (N.row.sub 0 n).bind fun xv => (xv.app P et Y.view).bind fun Z => guardB (!N.frz && Nat.beq te.n N.row.e && Nat.ble Z.len cJ) (some { v := .msw b (g + 1), rd := b :: H, wr := [(b, { gen := g + 1, frz := false, row := Z.row })] })
   | _ => none) = V → i7 P boxed vars t tx (aB mem) rs x.down y.down = some o := by
  intro V o hres hm
  unfold i7
  simp only [het, yb, J.n, J.bytes, hz, hyv]
  rw [f8]
  refine ⟨?_, hm.trans hres⟩
  simp only [yc, Fe]
  exact ⟨⟨⟨⟨g1, Bc ht g2⟩, g3⟩, g4⟩, by rw [(zeroCells J).1, aK, (zeroCells J).2.2]; exact g5⟩
 split at h
 ·simp only [x8, real_guard] at h
  rw [cK] at h
  obtain ⟨K, h⟩ := h
  rw [← vX] at K
  cases boxed with
  | true =>
   simp only [yg] at h
   cases vars with
   | true =>
    simp only [yg] at h
    split at h
    ·rename_i ys hys
     rw [cK] at h
     obtain ⟨h1, h⟩ := h
     simp only [yc] at h1
     refine ⟨_, h, O (o := (bW.mk (.msw rs 0) H [(rs, ⟨0, false, .cells (rG Y) ys⟩)] []).down) rfl ?_⟩
     simp only [KV.down, f8, K, yg, nD, rP J hys, yb]
     simp [guardB, K, vX, h1.1, gD h1.2, bW.down, eI.down, KRow.down, Fe, aB, KV.down]
    ·cases h
   | false =>
    simp only [yh] at h
    split at h
    ·rename_i β ag T xs
     refine ⟨_, h, O (o := (bW.mk (.msw rs 0) H [(rs, ⟨0, false, .ts β ag T xs⟩)] []).down) rfl ?_⟩
     simp only [KV.down, yg]
     rw [I0]
     simp [guardB, K, bW.down, eI.down, aB, KV.down]
    ·cases h
  | false =>
   simp only [yh] at h
   split at h
   ·rename_i β ag T xs
    refine ⟨_, h, O (o := (bW.mk (.tsl (mF β ag T) ag T xs) H [] []).down) rfl ?_⟩
    simp only [KV.down, yh]
    rw [Ks]
    simp [guardB, K, bW.down, aB, KV.down]
   ·cases h
 ·rename_i b g
  have h' := cM h
  clear h
  obtain ⟨N, W, h⟩ := h'
  obtain ⟨z, h, hz⟩ := FR J h
  rw [cK] at h
  obtain ⟨U, h⟩ := h
  simp only [yc] at U
  simp only [x8, real_guard] at h
  rw [cK] at h
  refine ⟨_, h.2, O (o := (bW.mk (.msw b (g + 1)) (b :: H) [(b, ⟨g + 1, false, z⟩)] []).down) rfl ?_⟩
  simp only [KV.down, W, yb, show N.down.row = N.row.down from rfl, AQ, hz, Dm]
  rw [f8]
  refine ⟨?_, by simp [bW.down, eI.down, aB, KV.down, Ch]⟩
  simp only [yc, vX]
  exact ⟨⟨U.1, U.2⟩, h.1⟩
 ·rename_i b g o n
  rw [real_guard, cK] at h
  obtain ⟨ho, h⟩ := h
  obtain rfl := nb.1 ho
  have h' := cM h
  clear h
  obtain ⟨N, W, h⟩ := h'
  obtain ⟨xr, hxr, h, _⟩ := Cp h
  obtain ⟨z, h, hz⟩ := FR J h
  rw [cK] at h
  obtain ⟨U, h⟩ := h
  simp only [yc] at U
  simp only [x8, real_guard] at h
  rw [cK] at h
  refine ⟨_, h.2, O (o := (bW.mk (.msw b (g + 1)) (b :: H) [(b, ⟨g + 1, false, z⟩)] []).down) rfl ?_⟩
  simp only [KV.down, W, yb, show N.down.row = N.row.down from rfl, hxr, hz, Dm]
  rw [f8]
  refine ⟨?_, by simp [bW.down, eI.down, aB, KV.down, Ch]⟩
  simp only [yc, vX]
  exact ⟨⟨U.1, U.2⟩, h.1⟩
 ·cases h
end
end Go.Ab
