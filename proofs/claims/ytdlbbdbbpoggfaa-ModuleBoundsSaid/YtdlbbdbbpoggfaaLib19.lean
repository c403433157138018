import Derived.Test.YtdlbbdbbpoggfaaLib18
set_option linter.unusedVariables false
set_option linter.unusedSectionVars false
set_option linter.unusedSimpArgs false
namespace Go.Ab
variable [b4]
section
variable {P : Program} {R : Type} {r : R} {mem : aD} {tab : TypeId → Option TI} {C : bQ} {tbl : FuncId → List aC}
theorem pR {f : Int → Int → Int} {H : IntKind} : ∀ {vs : List KV} {a b : Int}, sY f H vs a = some b → kS f H (KV.downs vs) a = some b
 | [], a, b, h => h
 | v :: vs, a, b, h => by
  cases v with
  | lit v =>
   cases v with
   | int k' x =>
    simp only [sY] at h
    rw [bR] at h
    simp only [KV.downs, KV.down, kS, eB]
    exact ⟨h.1, pR h.2⟩
   | _ => cases h
  | _ => cases h
theorem OB (k : IntKind) : O0 k = Fp := rfl
theorem Oo (k : IntKind) : OI k = CP := rfl
theorem Na (ht : bG P tab) {t tx : TypeId} {rs : Nat} {n : Int} {k : aZ → Option R} (h : NY (aP R) tab mem t tx rs n k = some r) :
  ∃ out, k out = some r ∧ CD P t tx (aB mem) rs n = some out.down := by
 unfold NY at h
 split at h
 ·rename_i tix K
  split at h
  ·rename_i kx hk
   have I := (bU.of (ht _ _ K)).tk
   unfold m9 at I
   rw [hk] at I
   cases Z : P.underlying tx with
   | none => rw [Z] at I; simp at I
   | some d =>
    rw [Z] at I
    cases d <;> simp only at I <;> first | cases I | skip
    have Y := fQ ht h
    clear h
    obtain ⟨et, M, V, O, h, _⟩ := Y
    have H := bU.of (ht _ _ O)
    unfold CD
    rw [Z]; simp only
    rw [V]; simp only [ye, H.zero_eq.1]
    split at h
    ·rename_i T hT
     rw [bR] at h
     obtain ⟨hg, h⟩ := h
     simp only [yb, yq] at hg
     obtain ⟨⟨⟨⟨g1, g2⟩, g3⟩, g4⟩, g5⟩ := hg
     obtain ⟨⟨ls, hls, N⟩, hn, W, hd⟩ := H.ty T hT
     have Y := l8 N hd h
     clear h
     obtain ⟨z, β, ids, h, hz⟩ := Y
     cases he : fM ids with
     | false => rw [he] at h; cases h
     | true =>
      rw [he] at h; simp only [Bool.not_true, yk, real_guard] at h
      rw [bR] at h
      obtain ⟨hb, h⟩ := h
      simp only [yb] at hb
      refine ⟨_, h, ?_⟩
      have J : (eN M).down.cells = KV.downs (M.zero.map .lit) := by rw [(zeroCells H).1, (zeroCells H).2.1]
      have U : rP P (aB mem) et (eN M).down = some (β, cT M.ag T z, ids) := by
       unfold rP
       rw [hls, ye, J, hz]
       simp only [ye, pA H.ag W, yg]
      rw [H.intKind_none hT g5, U]
      simp only [ye, H.n, H.bytes]
      rw [eB]
      refine ⟨?_, ?_⟩
      ·simp only [yb]
       exact ⟨hb, ⟨⟨g1, g2⟩, by rw [J, aG, ye1]; exact g4⟩, he⟩
      ·simp only [aZ.down, KV.down, yx1, yq3, dD.down, KRow.down_sl g5, List.map_replicate, hn]
       rfl
    ·cases h
  ·cases h
 ·cases h
theorem Jn {v : KV} {u : Value} (h : v.down = .lit u) : v = .lit u := by cases v <;> first | (exact congrArg KV.lit (AV.lit.inj h)) | cases h
theorem Hm {boxed vars : Bool} {t M : TypeId} {m : aH} {rs : Nat} {x y : KV} (J : ∀ (k : IntKind) (n : Int), x = .lit (.slice none 0 0) → y = .lit (.int k n) → False) :
  dX P boxed vars .append [t, M] m rs [x.down, y.down] = gO P boxed vars t M m rs x.down y.down := by
 unfold dX
 split
 ·rename_i h; simp at h
 ·rename_i H
  simp only [List.cons.injEq, and_true] at H
  exact (J _ _ (Jn H.1) (Jn H.2)).elim
 ·rename_i I H
  simp only [List.cons.injEq, and_true] at I H
  obtain ⟨rfl, rfl⟩ := I
  obtain ⟨rfl, rfl⟩ := H
  rfl
 ·rename_i h; simp at h
 ·rename_i K h; cases K
 ·rename_i K h; cases K
 ·rename_i N I H O U h6
  first | exact (N _ _ _ _ rfl rfl rfl).elim | exact (I _ _ _ _ rfl rfl rfl).elim | exact (O _ _ _ _ rfl rfl rfl).elim | exact (U _ _ _ _ rfl rfl rfl).elim
theorem HW (ht : bG P tab) {boxed vars : Bool} {b : Builtin} {ts : List TypeId} {rs : Nat} {args : List KV} {k : aZ → Option R} (h : AI (aP R) tab boxed vars b ts mem rs args k = some r) :
  ∃ out, k out = some r ∧ dX P boxed vars b ts (aB mem) rs (KV.downs args) = some out.down := by
 unfold AI at h
 split at h
 ·split at h
  ·rename_i t x
   obtain ⟨n, rd, h, U⟩ := Oh ht h
   exact ⟨_, h, by simp only [KV.downs, dX, U, yg]; rfl⟩
  ·cases h
 ·split at h
  ·rename_i t tx x y
   split at h
   ·obtain ⟨out, h, O⟩ := Na ht h
    exact ⟨out, h, by simp only [KV.downs, KV.down, dX, O]⟩
   ·rename_i N
    obtain ⟨out, h, O⟩ := ID ht h
    exact ⟨out, h, by simp only [KV.downs]; rw [Hm (fun k n V W => N k n V W)]; exact O⟩
  ·cases h
 ·split at h
  ·rename_i t
   split at h
   ·rename_i ti J
    split at h
    ·rename_i et Z
     have H := (bU.of (ht _ _ J)).tk
     unfold m9 at H
     rw [Z] at H
     cases M : P.underlying t with
     | none => rw [M] at H; simp at H
     | some d =>
      rw [M] at H
      cases d <;> simp only at H <;> first | cases H | skip
      exact ⟨_, h, by simp only [KV.downs, KV.down, dX, M]; rfl⟩
    ·cases h
   ·cases h
  ·cases h
 ·split at h
  ·rename_i Y a I
   split at h
   ·rename_i v K
    exact ⟨_, h, by simp only [KV.downs, KV.down, dX, OB, pR K, yg]; rfl⟩
   ·cases h
  ·cases h
 ·split at h
  ·rename_i Y a I
   split at h
   ·rename_i v K
    exact ⟨_, h, by simp only [KV.downs, KV.down, dX, Oo, pR K, yg]; rfl⟩
   ·cases h
  ·cases h
 ·cases h
theorem LJ (ht : bG P tab) (hC : Eh C tbl) {boxed raw vars : Bool} {o : Oper} {env : Nat → KV} {tmps : List AV} (H : fB env tmps) {rs : Nat} {k : aZ → Option R} (h : JS (aP R) tab tbl boxed raw vars o env mem rs k = some r) :
  ∃ out, k out = some r ∧ LC P C boxed raw vars o (bY tmps) (aB mem) rs = some out.down := by
 unfold JS at h
 unfold LC
 split at h <;> first | (rename_i hop; rw [hop]; simp only) | cases h
 ·exact GJ ht H h
 ·exact GJ ht H h
 ·obtain ⟨c, W, h, _⟩ := aO H h
  obtain ⟨a, Y, h, _⟩ := aO H h
  obtain ⟨b, Z, h, _⟩ := aO H h
  obtain ⟨v, I, h⟩ := M7 h
  exact ⟨_, h, by simp only [Dv, W, Y, Z, ye, I, yg]; rfl⟩
 ·split at h
  ·rename_i ti O
   have K := bU.of (ht _ _ O)
   rw [bR] at h
   obtain ⟨M, h⟩ := h
   simp only [yb] at M
   refine ⟨_, h, ?_⟩
   unfold AL
   rw [K.zero_eq.1]; simp only [ye]
   have hz := (zeroCells K).1
   rw [(zeroCells K).2.1] at hz
   rw [eB]
   refine ⟨?_, by rw [hz]; rfl⟩
   rw [hz, aG, ye1, yb]
   exact ⟨M.1, eU M.2⟩
  ·cases h
 ·obtain ⟨v, I, h, _⟩ := aO H h
  split at h
  ·rename_i ti O
   have K := bU.of (ht _ _ O)
   rw [bR] at h
   obtain ⟨M, h⟩ := h
   simp only [yb] at M
   refine ⟨_, h, ?_⟩
   unfold IL
   rw [I]; simp only [ye, K.n]
   rw [eB]
   simp only [eH, aG, yb]
   exact ⟨⟨⟨M.1.1, M.1.2⟩, eU M.2⟩, rfl⟩
  ·cases h
 ·obtain ⟨ps, hps, h⟩ := qI H h
  obtain ⟨v, I, h⟩ := K9 ht h
  exact ⟨_, h, by simp only [Aw, hps, ye, I, yg]; rfl⟩
 ·exact CO ht H h
 ·obtain ⟨a, Y, h, _⟩ := aO H h
  obtain ⟨out, h, hl, _⟩ := GF ht h
  exact ⟨out, h, by simp only [Y, ye, hl]⟩
 ·obtain ⟨a, Y, h, _⟩ := aO H h
  obtain ⟨x, J, h, _⟩ := aO H h
  obtain ⟨out, h, hs⟩ := KX ht h
  exact ⟨out, h, by simp only [wS, Y, J, ye, hs]⟩
 ·obtain ⟨v, I, h, _⟩ := aO H h
  unfold Jj
  rw [I]; simp only [ye]
  split at h
  ·exact ⟨_, h, rfl⟩
  ·exact ⟨_, h, rfl⟩
  ·exact ⟨_, h, rfl⟩
  ·cases h
 ·obtain ⟨x, J, h, _⟩ := aO H h
  obtain ⟨y, hy, h, _⟩ := aO H h
  obtain ⟨v, I, h⟩ := Me ht h
  exact ⟨_, h, by simp only [Ju, J, hy, ye, I, yg]; rfl⟩
 ·obtain ⟨x, J, h, _⟩ := aO H h
  obtain ⟨a, v, rfl, I, h⟩ := NF h
  exact ⟨_, h, by simp only [Nk, J, ye, KV.down, I, yg]; rfl⟩
 ·obtain ⟨x, J, h, _⟩ := aO H h
  obtain ⟨out, h, W⟩ := HB ht h
  exact ⟨out, h, by simp only [J, ye, W]⟩
 ·obtain ⟨fi, hfi, h, _⟩ := j8 H h
  obtain ⟨ca, hca, h, _⟩ := j8 H h
  exact ⟨_, h, by simp only [Ei, hfi, hca, ye, yg]; rfl⟩
 ·obtain ⟨l, hl, h, _⟩ := aO H h
  obtain ⟨c, W, h, _⟩ := aO H h
  exact Dm ht hl W h
 ·obtain ⟨x, J, h, _⟩ := aO H h
  obtain ⟨lo, hlo, h⟩ := oN H h
  obtain ⟨hi, hhi, h⟩ := oN H h
  obtain ⟨mx, hmx, h⟩ := oN H h
  obtain ⟨out, h, hs⟩ := Kh ht h
  exact ⟨out, h, by simp only [wU, J, hlo, hhi, hmx, ye, hs]⟩
 ·obtain ⟨x, J, h, _⟩ := aO H h
  obtain ⟨off, n, ft, V, h⟩ := Fv ht h
  unfold kU
  rw [J]; simp only [ye, V]
  split at h
  ·exact ⟨_, h, rfl⟩
  ·exact ⟨_, h, rfl⟩
  ·cases h
 ·obtain ⟨x, J, h, _⟩ := aO H h
  obtain ⟨off, n, ft, V, h⟩ := Fv ht h
  unfold z7
  rw [J]; simp only [ye, V]
  split at h
  ·rename_i cs
   split at h
   ·rename_i tf htf
    have K := bU.of (ht _ _ htf)
    simp only [KV.down, K.ag, ye]
    cases M : tf.ag with
    | true =>
     rw [M] at h; simp only [yl] at h ⊢
     rw [bR] at h
     refine ⟨_, h.2, ?_⟩
     rw [eB]
     exact ⟨by rw [aG]; exact h.1, by simp [f8, aZ.down, KV.down, cY, yz2, yn3, aB]⟩
    | false =>
     rw [M] at h; simp only [yk] at h ⊢
     split at h
     ·rename_i v I
      rw [aX] at I
      exact ⟨_, h, by rw [o9 I]; rfl⟩
     ·cases h
   ·cases h
  ·cases h
 ·obtain ⟨x, J, h, _⟩ := aO H h
  obtain ⟨ix, U, h, _⟩ := aO H h
  unfold wI
  rw [J, U]; simp only [ye]
  split at h
  ·rename_i kd i
   obtain ⟨out, h, hi⟩ := KJ ht h
   exact ⟨out, h, hi⟩
  ·cases h
 ·obtain ⟨x, J, h, _⟩ := aO H h
  obtain ⟨ix, U, h, _⟩ := aO H h
  exact IZ ht J U h
 ·obtain ⟨t, ht', h, _⟩ := aO H h
  unfold oY
  rw [ht']; simp only [ye]
  split at h
  ·rename_i vs
   split at h
   ·rename_i v I
    rw [aX] at I
    exact ⟨_, h, by simp only [KV.down]; rw [o9 I]; rfl⟩
   ·cases h
  ·cases h
 ·obtain ⟨args, N, h, _⟩ := j8 H h
  unfold Bd
  rw [N]; simp only [ye]
  split at h
  ·rename_i b Z
   rw [Z]; simp only
   exact HW ht h
  ·rename_i f V
   rw [V]; simp only
   obtain ⟨fv, hfv, h, _⟩ := aO H h
   rw [hfv]; simp only [ye]
   split at h
   ·rename_i g fi ca
    exact MA ht hC h
   ·cases h
  ·cases h
end
end Go.Ab
