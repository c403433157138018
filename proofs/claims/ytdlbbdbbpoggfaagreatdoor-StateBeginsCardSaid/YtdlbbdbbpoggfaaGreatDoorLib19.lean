import Derived.Test.YtdlbbdbbpoggfaaGreatDoorLib18
set_option linter.unusedVariables false
set_option linter.unusedSectionVars false
set_option linter.unusedSimpArgs false
namespace Go.Ab
variable [cD]
section
variable {P : Program} {R : Type} {r : R} {mem : aR} {tab : TypeId → Option TI} {C : bZ} {tbl : FuncId → List aG}
theorem pC {f : Int → Int → Int} {z : IntKind} : ∀ {vs : List KV} {a b : Int}, qW f z vs a = some b → kL f z (KV.downs vs) a = some b
 | [], a, b, h => h
 | v :: vs, a, b, h => by
  cases v with
  | lit v =>
   cases v with
   | int k' x =>
    simp only [qW] at h
    rw [c9] at h
    simp only [KV.downs, KV.down, kL, g8]
    exact ⟨h.1, pC h.2⟩
   | _ => cases h
  | _ => cases h
theorem OK (k : IntKind) : OC k = Ol := rfl
theorem Ov (k : IntKind) : Ob k = Iz := rfl
theorem LP (ht : cF P tab) {t V : TypeId} {rs : Nat} {n : Int} {k : bY → Option R} (h : MD (bI R) tab mem t V rs n k = some r) :
  ∃ out, k out = some r ∧ BG P t V (aF mem) rs n = some out.down := by
 unfold MD at h
 split at h
 ·rename_i tix K
  split at h
  ·rename_i kx hk
   have H := (b8.of (ht _ _ K)).tk
   unfold mT at H
   rw [hk] at H
   cases Y : P.underlying V with
   | none => rw [Y] at H; simp at H
   | some d =>
    rw [Y] at H
    cases d <;> simp only at H <;> first | cases H | skip
    have N := sR ht h
    clear h
    obtain ⟨et, M, U, hte, h, _⟩ := N
    have A := b8.of (ht _ _ hte)
    unfold BG
    rw [Y]; simp only
    rw [U]; simp only [ya, A.zero_eq.1]
    split at h
    ·rename_i T hT
     rw [c9] at h
     obtain ⟨hg, h⟩ := h
     simp only [yc, yy] at hg
     obtain ⟨⟨⟨⟨g1, g2⟩, g3⟩, g4⟩, g5⟩ := hg
     obtain ⟨⟨ls, W, hcl⟩, hn, Z, hd⟩ := A.ty T hT
     have N := jS hcl hd h
     clear h
     obtain ⟨z, β, ids, h, hz⟩ := N
     cases he : e8 ids with
     | false => rw [he] at h; cases h
     | true =>
      rw [he] at h; simp only [yw, ye, real_guard] at h
      rw [c9] at h
      obtain ⟨hb, h⟩ := h
      simp only [yc] at hb
      refine ⟨_, h, ?_⟩
      have J : (fJ M).down.cells = KV.downs (M.zero.map .lit) := by rw [(zeroCells A).1, (zeroCells A).2.1]
      have O : qJ P (aF mem) et (fJ M).down = some (β, fK M.ag T z, ids) := by
       unfold qJ
       rw [W, ya, J, show iP = 6 from rfl, hz]
       simp only [ya, yS A.ag Z, yo]
      rw [A.intKind_none hT g5, O]
      simp only [ya, A.n, A.bytes]
      rw [g8]
      refine ⟨?_, ?_⟩
      ·simp only [yc]
       exact ⟨hb, ⟨⟨g1, g2⟩, by rw [J, aQ, ye2]; exact g4⟩, he⟩
      ·simp only [bY.down, KV.down, yh2, List.map_nil, fG.down, KRow.down_sl g5, List.map_replicate, hn]
       rfl
    ·cases h
  ·cases h
 ·cases h
theorem Ib {v : KV} {u : Value} (h : v.down = .lit u) : v = .lit u := by cases v <;> first | (exact congrArg KV.lit (AV.lit.inj h)) | cases h
theorem Gp {boxed vars : Bool} {t J : TypeId} {m : a9} {rs : Nat} {x y : KV} (A : ∀ (k : IntKind) (n : Int), x = .lit (.slice none 0 0) → y = .lit (.int k n) → False) :
  eE P boxed vars .append [t, J] m rs [x.down, y.down] = kB P boxed vars t J m rs x.down y.down := by
 unfold eE
 split
 ·rename_i h; simp at h
 ·rename_i z
  simp only [List.cons.injEq, and_true] at z
  exact (A _ _ (Ib z.1) (Ib z.2)).elim
 ·rename_i h2 z
  simp only [List.cons.injEq, and_true] at h2 z
  obtain ⟨rfl, rfl⟩ := h2
  obtain ⟨rfl, rfl⟩ := z
  rfl
 ·rename_i h; simp at h
 ·rename_i H h; cases H
 ·rename_i H h; cases H
 ·rename_i h1 h2 z K M h6
  first | exact (h1 _ _ _ _ rfl rfl rfl).elim | exact (h2 _ _ _ _ rfl rfl rfl).elim | exact (K _ _ _ _ rfl rfl rfl).elim | exact (M _ _ _ _ rfl rfl rfl).elim
theorem GO (ht : cF P tab) {boxed vars : Bool} {b : Builtin} {ts : List TypeId} {rs : Nat} {args : List KV} {k : bY → Option R} (h : Cs (bI R) tab boxed vars b ts mem rs args k = some r) :
  ∃ out, k out = some r ∧ eE P boxed vars b ts (aF mem) rs (KV.downs args) = some out.down := by
 unfold Cs at h
 split at h
 ·split at h
  ·rename_i t x
   obtain ⟨n, rd, h, hl⟩ := Nb ht h
   exact ⟨_, h, by simp only [KV.downs, eE, hl, yo]; rfl⟩
  ·cases h
 ·split at h
  ·rename_i t tx x y
   split at h
   ·obtain ⟨out, h, A⟩ := LP ht h
    exact ⟨out, h, by simp only [KV.downs, KV.down, eE, A]⟩
   ·rename_i N
    obtain ⟨out, h, A⟩ := I8 ht h
    exact ⟨out, h, by simp only [KV.downs]; rw [Gp (fun k n V U => N k n V U)]; exact A⟩
  ·cases h
 ·split at h
  ·rename_i t
   split at h
   ·rename_i ti H
    split at h
    ·rename_i et W
     have z := (b8.of (ht _ _ H)).tk
     unfold mT at z
     rw [W] at z
     cases M : P.underlying t with
     | none => rw [M] at z; simp at z
     | some d =>
      rw [M] at z
      cases d <;> simp only at z <;> first | cases z | skip
      exact ⟨_, h, by simp only [KV.downs, KV.down, eE, M]; rfl⟩
    ·cases h
   ·cases h
  ·cases h
 ·split at h
  ·rename_i O a K
   split at h
   ·rename_i v J
    exact ⟨_, h, by simp only [KV.downs, KV.down, eE, OK, pC J, yo]; rfl⟩
   ·cases h
  ·cases h
 ·split at h
  ·rename_i O a K
   split at h
   ·rename_i v J
    exact ⟨_, h, by simp only [KV.downs, KV.down, eE, Ov, pC J, yo]; rfl⟩
   ·cases h
  ·cases h
 ·cases h
theorem O4 (ht : cF P tab) (hC : F4 C tbl) {boxed raw vars : Bool} {o : Oper} {env : Nat → KV} {tmps : List AV} (z : gR env tmps) {rs : Nat} {k : bY → Option R} (h : Qk (bI R) tab tbl boxed raw vars o env mem rs k = some r) :
  ∃ out, k out = some r ∧ Iy P C boxed raw vars o (fR tmps) (aF mem) rs = some out.down := by
 unfold Qk at h
 unfold Iy
 split at h <;> first | (rename_i hop; rw [hop]; simp only) | cases h
 ·exact Fv ht z h
 ·exact Fv ht z h
 ·obtain ⟨c, U, h, _⟩ := bC z h
  obtain ⟨a, O, h, _⟩ := bC z h
  obtain ⟨b, Z, h, _⟩ := bC z h
  obtain ⟨v, A, h⟩ := Ln h
  exact ⟨_, h, by simp only [Dz, U, O, Z, ya, A, yo]; rfl⟩
 ·split at h
  ·rename_i ti K
   have H := b8.of (ht _ _ K)
   rw [c9] at h
   obtain ⟨J, h⟩ := h
   simp only [yc] at J
   refine ⟨_, h, ?_⟩
   unfold zV
   rw [H.zero_eq.1]; simp only [ya]
   have hz := (zeroCells H).1
   rw [(zeroCells H).2.1] at hz
   rw [g8]
   refine ⟨?_, by rw [hz]; rfl⟩
   rw [hz, aQ, ye2, yc]
   exact ⟨J.1, iA J.2⟩
  ·cases h
 ·obtain ⟨v, A, h, _⟩ := bC z h
  split at h
  ·rename_i ti K
   have H := b8.of (ht _ _ K)
   rw [c9] at h
   obtain ⟨J, h⟩ := h
   simp only [yc] at J
   refine ⟨_, h, ?_⟩
   unfold Ht
   rw [A]; simp only [ya, H.n]
   rw [g8]
   simp only [eK, aQ, yc]
   exact ⟨⟨⟨J.1.1, J.1.2⟩, iA J.2⟩, rfl⟩
  ·cases h
 ·obtain ⟨ps, hps, h⟩ := wL z h
  obtain ⟨v, A, h⟩ := JI ht h
  exact ⟨_, h, by simp only [z0, hps, ya, A, yo]; rfl⟩
 ·exact B1 ht z h
 ·obtain ⟨a, O, h, _⟩ := bC z h
  obtain ⟨out, h, hl, _⟩ := Ft ht h
  exact ⟨out, h, by simp only [O, ya, hl]⟩
 ·obtain ⟨a, O, h, _⟩ := bC z h
  obtain ⟨x, hx, h, _⟩ := bC z h
  obtain ⟨out, h, Y⟩ := J8 ht h
  exact ⟨out, h, by simp only [yN, O, hx, ya, Y]⟩
 ·obtain ⟨v, A, h, _⟩ := bC z h
  unfold IJ
  rw [A]; simp only [ya]
  split at h
  ·exact ⟨_, h, rfl⟩
  ·exact ⟨_, h, rfl⟩
  ·exact ⟨_, h, rfl⟩
  ·cases h
 ·obtain ⟨x, hx, h, _⟩ := bC z h
  obtain ⟨y, hy, h, _⟩ := bC z h
  obtain ⟨v, A, h⟩ := Ml ht h
  exact ⟨_, h, by simp only [I0, hx, hy, ya, A, yo]; rfl⟩
 ·obtain ⟨x, hx, h, _⟩ := bC z h
  obtain ⟨a, v, rfl, A, h⟩ := Nk h
  exact ⟨_, h, by simp only [MH, hx, ya, KV.down, A, yo]; rfl⟩
 ·obtain ⟨x, hx, h, _⟩ := bC z h
  obtain ⟨out, h, U⟩ := Gk ht h
  exact ⟨out, h, by simp only [hx, ya, U]⟩
 ·obtain ⟨fi, W, h, _⟩ := r6 z h
  obtain ⟨ca, hca, h, _⟩ := r6 z h
  exact ⟨_, h, by simp only [E6, W, hca, ya, yo]; rfl⟩
 ·obtain ⟨l, hl, h, _⟩ := bC z h
  obtain ⟨c, U, h, _⟩ := bC z h
  exact CN ht hl U h
 ·obtain ⟨x, hx, h, _⟩ := bC z h
  obtain ⟨lo, hlo, h⟩ := CH z h
  obtain ⟨hi, hhi, h⟩ := CH z h
  obtain ⟨mx, hmx, h⟩ := CH z h
  obtain ⟨out, h, Y⟩ := Kn ht h
  exact ⟨out, h, by simp only [zW, hx, hlo, hhi, hmx, ya, Y]⟩
 ·obtain ⟨x, hx, h, _⟩ := bC z h
  obtain ⟨off, n, ft, hf, h⟩ := Ej ht h
  unfold kI
  rw [hx]; simp only [ya, hf]
  split at h
  ·exact ⟨_, h, rfl⟩
  ·exact ⟨_, h, rfl⟩
  ·cases h
 ·obtain ⟨x, hx, h, _⟩ := bC z h
  obtain ⟨off, n, ft, hf, h⟩ := Ej ht h
  unfold z5
  rw [hx]; simp only [ya, hf]
  split at h
  ·rename_i cs
   split at h
   ·rename_i tf V
    have H := b8.of (ht _ _ V)
    simp only [KV.down, H.ag, ya]
    cases J : tf.ag with
    | true =>
     rw [J] at h; simp only [yg] at h ⊢
     rw [c9] at h
     refine ⟨_, h.2, ?_⟩
     rw [g8]
     exact ⟨by rw [aQ]; exact h.1, by simp [fU, bY.down, KV.down, dC, ym3, yn3, aF]⟩
    | false =>
     rw [J] at h; simp only [ye] at h ⊢
     split at h
     ·rename_i v A
      rw [bU] at A
      exact ⟨_, h, by rw [sA A]; rfl⟩
     ·cases h
   ·cases h
  ·cases h
 ·obtain ⟨x, hx, h, _⟩ := bC z h
  obtain ⟨ix, M, h, _⟩ := bC z h
  unfold yZ
  rw [hx, M]; simp only [ya]
  split at h
  ·rename_i kd i
   obtain ⟨out, h, hi⟩ := Kf ht h
   exact ⟨out, h, hi⟩
  ·cases h
 ·obtain ⟨x, hx, h, _⟩ := bC z h
  obtain ⟨ix, M, h, _⟩ := bC z h
  exact H3 ht hx M h
 ·obtain ⟨t, ht', h, _⟩ := bC z h
  unfold oH
  rw [ht']; simp only [ya]
  split at h
  ·rename_i vs
   split at h
   ·rename_i v A
    rw [bU] at A
    exact ⟨_, h, by simp only [KV.down]; rw [sA A]; rfl⟩
   ·cases h
  ·cases h
 ·obtain ⟨args, N, h, _⟩ := r6 z h
  unfold Ee
  rw [N]; simp only [ya]
  split at h
  ·rename_i b Z
   rw [Z]; simp only
   exact GO ht h
  ·rename_i f hf
   rw [hf]; simp only
   obtain ⟨fv, hfv, h, _⟩ := bC z h
   rw [hfv]; simp only [ya]
   split at h
   ·rename_i g fi ca
    exact LJ ht hC h
   ·cases h
  ·cases h
end
end Go.Ab
