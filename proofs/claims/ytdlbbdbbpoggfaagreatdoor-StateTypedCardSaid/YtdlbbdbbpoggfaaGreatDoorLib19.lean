import Derived.Test.YtdlbbdbbpoggfaaGreatDoorLib18
set_option linter.unusedVariables false
set_option linter.unusedSectionVars false
set_option linter.unusedSimpArgs false
namespace Go.Ab
variable [cD]
section
variable {P : Program} {R : Type} {r : R} {mem : aR} {tab : TypeId → Option TI} {C : bZ} {tbl : FuncId → List aG}
theorem pI {f : Int → Int → Int} {z : IntKind} : ∀ {vs : List KV} {a b : Int}, q4 f z vs a = some b → kE f z (KV.downs vs) a = some b
 | [], a, b, h => h
 | v :: vs, a, b, h => by
  cases v with
  | lit v =>
   cases v with
   | int k' x =>
    simp only [q4] at h
    rw [c9] at h
    simp only [KV.downs, KV.down, kE, h9]
    exact ⟨h.1, pI h.2⟩
   | _ => cases h
  | _ => cases h
theorem OF (k : IntKind) : O4 k = Ov := rfl
theorem Ol (k : IntKind) : OB k = It := rfl
theorem L8 (ht : cF P tab) {t W : TypeId} {rs : Nat} {n : Int} {k : bY → Option R} (h : Na (bI R) tab mem t W rs n k = some r) :
  ∃ out, k out = some r ∧ Bc P t W (aF mem) rs n = some out.down := by
 unfold Na at h
 split at h
 ·rename_i tix J
  split at h
  ·rename_i kx hk
   have H := (cA.of (ht _ _ J)).tk
   unfold mZ at H
   rw [hk] at H
   cases V : P.underlying W with
   | none => rw [V] at H; simp at H
   | some d =>
    rw [V] at H
    cases d <;> simp only at H <;> first | cases H | skip
    have h0 := sE ht h
    clear h
    obtain ⟨et, M, N, O, h, _⟩ := h0
    have A := cA.of (ht _ _ O)
    unfold Bc
    rw [V]; simp only
    rw [N]; simp only [ya, A.zero_eq.1]
    split at h
    ·rename_i T hT
     rw [c9] at h
     obtain ⟨hg, h⟩ := h
     simp only [yc, yy] at hg
     obtain ⟨⟨⟨⟨g1, g2⟩, g3⟩, g4⟩, g5⟩ := hg
     obtain ⟨⟨ls, Z, hcl⟩, hn, U, hd⟩ := A.ty T hT
     have h0 := jL hcl hd h
     clear h
     obtain ⟨z, β, ids, h, hz⟩ := h0
     cases Y : eZ ids with
     | false => rw [Y] at h; cases h
     | true =>
      rw [Y] at h; simp only [yw, ye, real_guard] at h
      rw [c9] at h
      obtain ⟨hb, h⟩ := h
      simp only [yc] at hb
      refine ⟨_, h, ?_⟩
      have K : (fF M).down.cells = KV.downs (M.zero.map .lit) := by rw [(zeroCells A).1, (zeroCells A).2.1]
      have htp : qJ P (aF mem) et (fF M).down = some (β, fI M.ag T z, ids) := by
       unfold qJ
       rw [Z, ya, K, show iQ = 6 from rfl, hz]
       simp only [ya, zL A.ag U, yo]
      rw [A.intKind_none hT g5, htp]
      simp only [ya, A.n, A.bytes]
      rw [h9]
      refine ⟨?_, ?_⟩
      ·simp only [yc]
       exact ⟨hb, ⟨⟨g1, g2⟩, by rw [K, aP, ye2]; exact g4⟩, Y⟩
      ·simp only [bY.down, KV.down, yi2, List.map_nil, fJ.down, KRow.down_sl g5, List.map_replicate, hn]
       rfl
    ·cases h
  ·cases h
 ·cases h
theorem IM {v : KV} {u : Value} (h : v.down = .lit u) : v = .lit u := by cases v <;> first | (exact congrArg KV.lit (AV.lit.inj h)) | cases h
theorem Hm {boxed vars : Bool} {t J : TypeId} {m : a9} {rs : Nat} {x y : KV} (H : ∀ (k : IntKind) (n : Int), x = .lit (.slice none 0 0) → y = .lit (.int k n) → False) :
  eH P boxed vars .append [t, J] m rs [x.down, y.down] = jV P boxed vars t J m rs x.down y.down := by
 unfold eH
 split
 ·rename_i h; simp at h
 ·rename_i z
  simp only [List.cons.injEq, and_true] at z
  exact (H _ _ (IM z.1) (IM z.2)).elim
 ·rename_i h2 z
  simp only [List.cons.injEq, and_true] at h2 z
  obtain ⟨rfl, rfl⟩ := h2
  obtain ⟨rfl, rfl⟩ := z
  rfl
 ·rename_i h; simp at h
 ·rename_i A h; cases A
 ·rename_i A h; cases A
 ·rename_i h1 h2 z M K h6
  first | exact (h1 _ _ _ _ rfl rfl rfl).elim | exact (h2 _ _ _ _ rfl rfl rfl).elim | exact (M _ _ _ _ rfl rfl rfl).elim | exact (K _ _ _ _ rfl rfl rfl).elim
theorem GI (ht : cF P tab) {boxed vars : Bool} {b : Builtin} {ts : List TypeId} {rs : Nat} {args : List KV} {k : bY → Option R} (h : D0 (bI R) tab boxed vars b ts mem rs args k = some r) :
  ∃ out, k out = some r ∧ eH P boxed vars b ts (aF mem) rs (KV.downs args) = some out.down := by
 unfold D0 at h
 split at h
 ·split at h
  ·rename_i t x
   obtain ⟨n, rd, h, hl⟩ := Nw ht h
   exact ⟨_, h, by simp only [KV.downs, eH, hl, yo]; rfl⟩
  ·cases h
 ·split at h
  ·rename_i t tx x y
   split at h
   ·obtain ⟨out, h, A⟩ := L8 ht h
    exact ⟨out, h, by simp only [KV.downs, KV.down, eH, A]⟩
   ·rename_i M
    obtain ⟨out, h, A⟩ := Ja ht h
    exact ⟨out, h, by simp only [KV.downs]; rw [Hm (fun k n W U => M k n W U)]; exact A⟩
  ·cases h
 ·split at h
  ·rename_i t
   split at h
   ·rename_i ti H
    split at h
    ·rename_i et O
     have z := (cA.of (ht _ _ H)).tk
     unfold mZ at z
     rw [O] at z
     cases J : P.underlying t with
     | none => rw [J] at z; simp at z
     | some d =>
      rw [J] at z
      cases d <;> simp only at z <;> first | cases z | skip
      exact ⟨_, h, by simp only [KV.downs, KV.down, eH, J]; rfl⟩
    ·cases h
   ·cases h
  ·cases h
 ·split at h
  ·rename_i V a N
   split at h
   ·rename_i v K
    exact ⟨_, h, by simp only [KV.downs, KV.down, eH, OF, pI K, yo]; rfl⟩
   ·cases h
  ·cases h
 ·split at h
  ·rename_i V a N
   split at h
   ·rename_i v K
    exact ⟨_, h, by simp only [KV.downs, KV.down, eH, Ol, pI K, yo]; rfl⟩
   ·cases h
  ·cases h
 ·cases h
theorem OZ (ht : cF P tab) (hC : Fx C tbl) {boxed raw vars : Bool} {o : Oper} {env : Nat → KV} {tmps : List AV} (z : gQ env tmps) {rs : Nat} {k : bY → Option R} (h : Qj (bI R) tab tbl boxed raw vars o env mem rs k = some r) :
  ∃ out, k out = some r ∧ I0 P C boxed raw vars o (fP tmps) (aF mem) rs = some out.down := by
 unfold Qj at h
 unfold I0
 split at h <;> first | (rename_i V; rw [V]; simp only) | cases h
 ·exact F2 ht z h
 ·exact F2 ht z h
 ·obtain ⟨c, U, h, _⟩ := bC z h
  obtain ⟨a, O, h, _⟩ := bC z h
  obtain ⟨b, hb, h, _⟩ := bC z h
  obtain ⟨v, A, h⟩ := LI h
  exact ⟨_, h, by simp only [Eo, U, O, hb, ya, A, yo]; rfl⟩
 ·split at h
  ·rename_i ti M
   have H := cA.of (ht _ _ M)
   rw [c9] at h
   obtain ⟨J, h⟩ := h
   simp only [yc] at J
   refine ⟨_, h, ?_⟩
   unfold z8
   rw [H.zero_eq.1]; simp only [ya]
   have hz := (zeroCells H).1
   rw [(zeroCells H).2.1] at hz
   rw [h9]
   refine ⟨?_, by rw [hz]; rfl⟩
   rw [hz, aP, ye2, yc]
   exact ⟨J.1, iF J.2⟩
  ·cases h
 ·obtain ⟨v, A, h, _⟩ := bC z h
  split at h
  ·rename_i ti M
   have H := cA.of (ht _ _ M)
   rw [c9] at h
   obtain ⟨J, h⟩ := h
   simp only [yc] at J
   refine ⟨_, h, ?_⟩
   unfold HI
   rw [A]; simp only [ya, H.n]
   rw [h9]
   simp only [eK, aP, yc]
   exact ⟨⟨⟨J.1.1, J.1.2⟩, iF J.2⟩, rfl⟩
  ·cases h
 ·obtain ⟨ps, hps, h⟩ := wD z h
  obtain ⟨v, A, h⟩ := Jr ht h
  exact ⟨_, h, by simp only [zF, hps, ya, A, yo]; rfl⟩
 ·exact B4 ht z h
 ·obtain ⟨a, O, h, _⟩ := bC z h
  obtain ⟨out, h, hl, _⟩ := FT ht h
  exact ⟨out, h, by simp only [O, ya, hl]⟩
 ·obtain ⟨a, O, h, _⟩ := bC z h
  obtain ⟨x, hx, h, _⟩ := bC z h
  obtain ⟨out, h, hs⟩ := Kf ht h
  exact ⟨out, h, by simp only [zO, O, hx, ya, hs]⟩
 ·obtain ⟨v, A, h, _⟩ := bC z h
  unfold Iq
  rw [A]; simp only [ya]
  split at h
  ·exact ⟨_, h, rfl⟩
  ·exact ⟨_, h, rfl⟩
  ·exact ⟨_, h, rfl⟩
  ·cases h
 ·obtain ⟨x, hx, h, _⟩ := bC z h
  obtain ⟨y, hy, h, _⟩ := bC z h
  obtain ⟨v, A, h⟩ := Li ht h
  exact ⟨_, h, by simp only [Ie, hx, hy, ya, A, yo]; rfl⟩
 ·obtain ⟨x, hx, h, _⟩ := bC z h
  obtain ⟨a, v, rfl, A, h⟩ := MF h
  exact ⟨_, h, by simp only [NN, hx, ya, KV.down, A, yo]; rfl⟩
 ·obtain ⟨x, hx, h, _⟩ := bC z h
  obtain ⟨out, h, U⟩ := G6 ht h
  exact ⟨out, h, by simp only [hx, ya, U]⟩
 ·obtain ⟨fi, hfi, h, _⟩ := sT z h
  obtain ⟨ca, hca, h, _⟩ := sT z h
  exact ⟨_, h, by simp only [CB, hfi, hca, ya, yo]; rfl⟩
 ·obtain ⟨l, hl, h, _⟩ := bC z h
  obtain ⟨c, U, h, _⟩ := bC z h
  exact Es ht hl U h
 ·obtain ⟨x, hx, h, _⟩ := bC z h
  obtain ⟨lo, hlo, h⟩ := D8 z h
  obtain ⟨hi, hhi, h⟩ := D8 z h
  obtain ⟨mx, hmx, h⟩ := D8 z h
  obtain ⟨out, h, hs⟩ := Kb ht h
  exact ⟨out, h, by simp only [zG, hx, hlo, hhi, hmx, ya, hs]⟩
 ·obtain ⟨x, hx, h, _⟩ := bC z h
  obtain ⟨Y, n, ft, hf, h⟩ := Dw ht h
  unfold kM
  rw [hx]; simp only [ya, hf]
  split at h
  ·exact ⟨_, h, rfl⟩
  ·exact ⟨_, h, rfl⟩
  ·cases h
 ·obtain ⟨x, hx, h, _⟩ := bC z h
  obtain ⟨Y, n, ft, hf, h⟩ := Dw ht h
  unfold yY
  rw [hx]; simp only [ya, hf]
  split at h
  ·rename_i cs
   split at h
   ·rename_i tf htf
    have H := cA.of (ht _ _ htf)
    simp only [KV.down, H.ag, ya]
    cases J : tf.ag with
    | true =>
     rw [J] at h; simp only [yg] at h ⊢
     rw [c9] at h
     refine ⟨_, h.2, ?_⟩
     rw [h9]
     exact ⟨by rw [aP]; exact h.1, by simp [fT, bY.down, KV.down, dE, ym3, yn3, aF]⟩
    | false =>
     rw [J] at h; simp only [ye] at h ⊢
     split at h
     ·rename_i v A
      rw [bU] at A
      exact ⟨_, h, by rw [sA A]; rfl⟩
     ·cases h
   ·cases h
  ·cases h
 ·obtain ⟨x, hx, h, _⟩ := bC z h
  obtain ⟨ix, N, h, _⟩ := bC z h
  unfold z9
  rw [hx, N]; simp only [ya]
  split at h
  ·rename_i kd i
   obtain ⟨out, h, hi⟩ := JS ht h
   exact ⟨out, h, hi⟩
  ·cases h
 ·obtain ⟨x, hx, h, _⟩ := bC z h
  obtain ⟨ix, N, h, _⟩ := bC z h
  exact Hu ht hx N h
 ·obtain ⟨t, W, h, _⟩ := bC z h
  unfold oL
  rw [W]; simp only [ya]
  split at h
  ·rename_i vs
   split at h
   ·rename_i v A
    rw [bU] at A
    exact ⟨_, h, by simp only [KV.down]; rw [sA A]; rfl⟩
   ·cases h
  ·cases h
 ·obtain ⟨args, K, h, _⟩ := sT z h
  unfold Ep
  rw [K]; simp only [ya]
  split at h
  ·rename_i b hb
   rw [hb]; simp only
   exact GI ht h
  ·rename_i f hf
   rw [hf]; simp only
   obtain ⟨fv, Z, h, _⟩ := bC z h
   rw [Z]; simp only [ya]
   split at h
   ·rename_i g fi ca
    exact Lx ht hC h
   ·cases h
  ·cases h
end
end Go.Ab
