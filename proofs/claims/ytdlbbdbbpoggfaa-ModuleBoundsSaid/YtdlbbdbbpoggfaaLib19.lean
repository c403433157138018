import Derived.Test.YtdlbbdbbpoggfaaLib18
set_option linter.unusedVariables false
set_option linter.unusedSectionVars false
set_option linter.unusedSimpArgs false
namespace Go.Ab
variable [b4]
section
variable {P : Program} {R : Type} {r : R} {mem : aD} {tab : TypeId → Option TI} {C : bQ} {tbl : FuncId → List aC}
theorem pE {f : Int → Int → Int} {H : IntKind} : ∀ {vs : List KV} {a b : Int}, sA f H vs a = some b → kY f H (KV.downs vs) a = some b
 | [], a, b, h => h
 | v :: vs, a, b, h => by
  cases v with
  | lit v =>
   cases v with
   | int k' x =>
    simp only [sA] at h
    rw [bP] at h
    simp only [KV.downs, KV.down, kY, d9]
    exact ⟨h.1, pE h.2⟩
   | _ => cases h
  | _ => cases h
theorem OM (k : IntKind) : ON k = Fr := rfl
theorem OK (k : IntKind) : OS k = CN := rfl
theorem Ms (ht : bI P tab) {t O : TypeId} {rs : Nat} {n : Int} {k : aZ → Option R} (h : Nq (aP R) tab mem t O rs n k = some r) :
  ∃ out, k out = some r ∧ Cj P t O (aB mem) rs n = some out.down := by
 unfold Nq at h
 split at h
 ·rename_i tix J
  split at h
  ·rename_i kx hk
   have I := (bV.of (ht _ _ J)).tk
   unfold nJ at I
   rw [hk] at I
   cases W : P.underlying O with
   | none => rw [W] at I; simp at I
   | some d =>
    rw [W] at I
    cases d <;> simp only at I <;> first | cases I | skip
    have U := fP ht h
    clear h
    obtain ⟨et, M, het, V, h, _⟩ := U
    have H := bV.of (ht _ _ V)
    unfold Cj
    rw [W]; simp only
    rw [het]; simp only [ye, H.zero_eq.1]
    split at h
    ·rename_i T hT
     rw [bP] at h
     obtain ⟨hg, h⟩ := h
     simp only [yb, yq] at hg
     obtain ⟨⟨⟨⟨g1, g2⟩, g3⟩, g4⟩, g5⟩ := hg
     obtain ⟨⟨ls, Z, hcl⟩, hn, Y, hd⟩ := H.ty T hT
     have U := l9 hcl hd h
     clear h
     obtain ⟨z, β, ids, h, hz⟩ := U
     cases N : fM ids with
     | false => rw [N] at h; cases h
     | true =>
      rw [N] at h; simp only [Bool.not_true, yk, real_guard] at h
      rw [bP] at h
      obtain ⟨hb, h⟩ := h
      simp only [yb] at hb
      refine ⟨_, h, ?_⟩
      have K : (eP M).down.cells = KV.downs (M.zero.map .lit) := by rw [(zeroCells H).1, (zeroCells H).2.1]
      have htp : rQ P (aB mem) et (eP M).down = some (β, cT M.ag T z, ids) := by
       unfold rQ
       rw [Z, ye, K, hz]
       simp only [ye, oV H.ag Y, yg]
      rw [H.intKind_none hT g5, htp]
      simp only [ye, H.n, H.bytes]
      rw [d9]
      refine ⟨?_, ?_⟩
      ·simp only [yb]
       exact ⟨hb, ⟨⟨g1, g2⟩, by rw [K, aG, ye1]; exact g4⟩, N⟩
      ·simp only [aZ.down, KV.down, yx1, yq3, dE.down, KRow.down_sl g5, List.map_replicate, hn]
       rfl
    ·cases h
  ·cases h
 ·cases h
theorem IX {v : KV} {u : Value} (h : v.down = .lit u) : v = .lit u := by cases v <;> first | (exact congrArg KV.lit (AV.lit.inj h)) | cases h
theorem Hp {boxed vars : Bool} {t M : TypeId} {m : aH} {rs : Nat} {x y : KV} (K : ∀ (k : IntKind) (n : Int), x = .lit (.slice none 0 0) → y = .lit (.int k n) → False) :
  d4 P boxed vars .append [t, M] m rs [x.down, y.down] = gN P boxed vars t M m rs x.down y.down := by
 unfold d4
 split
 ·rename_i h; simp at h
 ·rename_i H
  simp only [List.cons.injEq, and_true] at H
  exact (K _ _ (IX H.1) (IX H.2)).elim
 ·rename_i I H
  simp only [List.cons.injEq, and_true] at I H
  obtain ⟨rfl, rfl⟩ := I
  obtain ⟨rfl, rfl⟩ := H
  rfl
 ·rename_i h; simp at h
 ·rename_i J h; cases J
 ·rename_i J h; cases J
 ·rename_i U I H O N h6
  first | exact (U _ _ _ _ rfl rfl rfl).elim | exact (I _ _ _ _ rfl rfl rfl).elim | exact (O _ _ _ _ rfl rfl rfl).elim | exact (N _ _ _ _ rfl rfl rfl).elim
theorem HS (ht : bI P tab) {boxed vars : Bool} {b : Builtin} {ts : List TypeId} {rs : Nat} {args : List KV} {k : aZ → Option R} (h : Ax (aP R) tab boxed vars b ts mem rs args k = some r) :
  ∃ out, k out = some r ∧ d4 P boxed vars b ts (aB mem) rs (KV.downs args) = some out.down := by
 unfold Ax at h
 split at h
 ·split at h
  ·rename_i t x
   obtain ⟨n, rd, h, W⟩ := Nu ht h
   exact ⟨_, h, by simp only [KV.downs, d4, W, yg]; rfl⟩
  ·cases h
 ·split at h
  ·rename_i t tx x y
   split at h
   ·obtain ⟨out, h, M⟩ := Ms ht h
    exact ⟨out, h, by simp only [KV.downs, KV.down, d4, M]⟩
   ·rename_i I
    obtain ⟨out, h, M⟩ := Jf ht h
    exact ⟨out, h, by simp only [KV.downs]; rw [Hp (fun k n Z Y => I k n Z Y)]; exact M⟩
  ·cases h
 ·split at h
  ·rename_i t
   split at h
   ·rename_i ti N
    split at h
    ·rename_i et U
     have H := (bV.of (ht _ _ N)).tk
     unfold nJ at H
     rw [U] at H
     cases K : P.underlying t with
     | none => rw [K] at H; simp at H
     | some d =>
      rw [K] at H
      cases d <;> simp only at H <;> first | cases H | skip
      exact ⟨_, h, by simp only [KV.downs, KV.down, d4, K]; rfl⟩
    ·cases h
   ·cases h
  ·cases h
 ·split at h
  ·rename_i V a J
   split at h
   ·rename_i v O
    exact ⟨_, h, by simp only [KV.downs, KV.down, d4, OM, pE O, yg]; rfl⟩
   ·cases h
  ·cases h
 ·split at h
  ·rename_i V a J
   split at h
   ·rename_i v O
    exact ⟨_, h, by simp only [KV.downs, KV.down, d4, OK, pE O, yg]; rfl⟩
   ·cases h
  ·cases h
 ·cases h
theorem LY (ht : bI P tab) (hC : Ft C tbl) {boxed raw vars : Bool} {o : Oper} {env : Nat → KV} {tmps : List AV} (H : fB env tmps) {rs : Nat} {k : aZ → Option R} (h : IM (aP R) tab tbl boxed raw vars o env mem rs k = some r) :
  ∃ out, k out = some r ∧ Ly P C boxed raw vars o (bW tmps) (aB mem) rs = some out.down := by
 unfold IM at h
 unfold Ly
 split at h <;> first | (rename_i hop; rw [hop]; simp only) | cases h
 ·exact GN ht H h
 ·exact GN ht H h
 ·obtain ⟨c, W, h, _⟩ := aO H h
  obtain ⟨a, Y, h, _⟩ := aO H h
  obtain ⟨b, Z, h, _⟩ := aO H h
  obtain ⟨v, J, h⟩ := M9 h
  exact ⟨_, h, by simp only [Ef, W, Y, Z, ye, J, yg]; rfl⟩
 ·split at h
  ·rename_i ti U
   have K := bV.of (ht _ _ U)
   rw [bP] at h
   obtain ⟨M, h⟩ := h
   simp only [yb] at M
   refine ⟨_, h, ?_⟩
   unfold Ac
   rw [K.zero_eq.1]; simp only [ye]
   have hz := (zeroCells K).1
   rw [(zeroCells K).2.1] at hz
   rw [d9]
   refine ⟨?_, by rw [hz]; rfl⟩
   rw [hz, aG, ye1, yb]
   exact ⟨M.1, eY M.2⟩
  ·cases h
 ·obtain ⟨v, J, h, _⟩ := aO H h
  split at h
  ·rename_i ti U
   have K := bV.of (ht _ _ U)
   rw [bP] at h
   obtain ⟨M, h⟩ := h
   simp only [yb] at M
   refine ⟨_, h, ?_⟩
   unfold Jy
   rw [J]; simp only [ye, K.n]
   rw [d9]
   simp only [eG, aG, yb]
   exact ⟨⟨⟨M.1.1, M.1.2⟩, eY M.2⟩, rfl⟩
  ·cases h
 ·obtain ⟨ps, hps, h⟩ := qR H h
  obtain ⟨v, J, h⟩ := K7 ht h
  exact ⟨_, h, by simp only [AB, hps, ye, J, yg]; rfl⟩
 ·exact CU ht H h
 ·obtain ⟨a, Y, h, _⟩ := aO H h
  obtain ⟨out, h, hl, _⟩ := GB ht h
  exact ⟨out, h, by simp only [Y, ye, hl]⟩
 ·obtain ⟨a, Y, h, _⟩ := aO H h
  obtain ⟨x, I, h, _⟩ := aO H h
  obtain ⟨out, h, hs⟩ := KI ht h
  exact ⟨out, h, by simp only [wM, Y, I, ye, hs]⟩
 ·obtain ⟨v, J, h, _⟩ := aO H h
  unfold JE
  rw [J]; simp only [ye]
  split at h
  ·exact ⟨_, h, rfl⟩
  ·exact ⟨_, h, rfl⟩
  ·exact ⟨_, h, rfl⟩
  ·cases h
 ·obtain ⟨x, I, h, _⟩ := aO H h
  obtain ⟨y, hy, h, _⟩ := aO H h
  obtain ⟨v, J, h⟩ := MK ht h
  exact ⟨_, h, by simp only [J1, I, hy, ye, J, yg]; rfl⟩
 ·obtain ⟨x, I, h, _⟩ := aO H h
  obtain ⟨a, v, rfl, J, h⟩ := NL h
  exact ⟨_, h, by simp only [Ni, I, ye, KV.down, J, yg]; rfl⟩
 ·obtain ⟨x, I, h, _⟩ := aO H h
  obtain ⟨out, h, W⟩ := Hz ht h
  exact ⟨out, h, by simp only [I, ye, W]⟩
 ·obtain ⟨fi, hfi, h, _⟩ := jY H h
  obtain ⟨ca, hca, h, _⟩ := jY H h
  exact ⟨_, h, by simp only [FG, hfi, hca, ye, yg]; rfl⟩
 ·obtain ⟨l, hl, h, _⟩ := aO H h
  obtain ⟨c, W, h, _⟩ := aO H h
  exact Dp ht hl W h
 ·obtain ⟨x, I, h, _⟩ := aO H h
  obtain ⟨lo, hlo, h⟩ := oK H h
  obtain ⟨hi, hhi, h⟩ := oK H h
  obtain ⟨mx, hmx, h⟩ := oK H h
  obtain ⟨out, h, hs⟩ := KE ht h
  exact ⟨out, h, by simp only [wQ, I, hlo, hhi, hmx, ye, hs]⟩
 ·obtain ⟨x, I, h, _⟩ := aO H h
  obtain ⟨off, n, ft, V, h⟩ := Dm ht h
  unfold kV
  rw [I]; simp only [ye, V]
  split at h
  ·exact ⟨_, h, rfl⟩
  ·exact ⟨_, h, rfl⟩
  ·cases h
 ·obtain ⟨x, I, h, _⟩ := aO H h
  obtain ⟨off, n, ft, V, h⟩ := Dm ht h
  unfold AR
  rw [I]; simp only [ye, V]
  split at h
  ·rename_i cs
   split at h
   ·rename_i tf htf
    have K := bV.of (ht _ _ htf)
    simp only [KV.down, K.ag, ye]
    cases M : tf.ag with
    | true =>
     rw [M] at h; simp only [yl] at h ⊢
     rw [bP] at h
     refine ⟨_, h.2, ?_⟩
     rw [d9]
     exact ⟨by rw [aG]; exact h.1, by simp [f8, aZ.down, KV.down, cZ, yz2, yn3, aB]⟩
    | false =>
     rw [M] at h; simp only [yk] at h ⊢
     split at h
     ·rename_i v J
      rw [aX] at J
      exact ⟨_, h, by rw [oT J]; rfl⟩
     ·cases h
   ·cases h
  ·cases h
 ·obtain ⟨x, I, h, _⟩ := aO H h
  obtain ⟨ix, O, h, _⟩ := aO H h
  unfold wH
  rw [I, O]; simp only [ye]
  split at h
  ·rename_i kd i
   obtain ⟨out, h, hi⟩ := Ln ht h
   exact ⟨out, h, hi⟩
  ·cases h
 ·obtain ⟨x, I, h, _⟩ := aO H h
  obtain ⟨ix, O, h, _⟩ := aO H h
  exact Ix ht I O h
 ·obtain ⟨t, ht', h, _⟩ := aO H h
  unfold oR
  rw [ht']; simp only [ye]
  split at h
  ·rename_i vs
   split at h
   ·rename_i v J
    rw [aX] at J
    exact ⟨_, h, by simp only [KV.down]; rw [oT J]; rfl⟩
   ·cases h
  ·cases h
 ·obtain ⟨args, N, h, _⟩ := jY H h
  unfold BU
  rw [N]; simp only [ye]
  split at h
  ·rename_i b Z
   rw [Z]; simp only
   exact HS ht h
  ·rename_i f V
   rw [V]; simp only
   obtain ⟨fv, hfv, h, _⟩ := aO H h
   rw [hfv]; simp only [ye]
   split at h
   ·rename_i g fi ca
    exact MG ht hC h
   ·cases h
  ·cases h
end
end Go.Ab
