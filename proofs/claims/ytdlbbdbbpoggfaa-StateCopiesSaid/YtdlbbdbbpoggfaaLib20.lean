import Derived.Test.YtdlbbdbbpoggfaaLib19
set_option linter.unusedVariables false
set_option linter.unusedSectionVars false
set_option linter.unusedSimpArgs false
namespace Go.Ab
variable [GTab]
section
variable {P : Program} {R : Type} {r : R} {mem : KMem} {tab : TypeId → Option TI} {C : Oracle} {tbl : FuncId → List Entry}
theorem zdb {f : Int → Int → Int} {kd : IntKind} : ∀ {vs : List KV} {a b : Int}, foldIntK f kd vs a = some b → foldInts f kd (KV.downs vs) a = some b
 | [], a, b, h => h
 | v :: vs, a, b, h => by
  cases v with
  | lit v =>
   cases v with
   | int k' x =>
    simp only [foldIntK] at h
    rw [cds] at h
    simp only [KV.downs, KV.down, foldInts, gds]
    exact ⟨h.1, zdb h.2⟩
   | _ => cases h
  | _ => cases h
theorem zqi (k : IntKind) : minA k = minI := rfl
theorem zqo (k : IntKind) : maxA k = maxI := rfl
theorem zov (ht : TabOK P tab) {t tx : TypeId} {rs : Nat} {n : Int} {k : KOut → Option R} (h : zappK (real R) tab mem t tx rs n k = some r) :
  ∃ out, k out = some r ∧ zappA P t tx (kdown mem) rs n = some out.down := by
 unfold zappK at h
 split at h
 ·rename_i tix htix
  split at h
  ·rename_i kx hk
   have htk := (TIok.of (ht _ _ htix)).tk
   unfold chkTK at htk
   rw [hk] at htk
   cases hu : P.underlying tx with
   | none => rw [hu] at htk; simp at htk
   | some d =>
    rw [hu] at htk
    cases d <;> simp only at htk <;> first | cases htk | skip
    have h0 := zal ht h
    clear h
    obtain ⟨et, te, het, hte, h, _⟩ := h0
    have hoe := TIok.of (ht _ _ hte)
    unfold zappA
    rw [hu]; simp only
    rw [het]; simp only [yc, hoe.zero_eq.1]
    split at h
    ·rename_i T hT
     rw [cds] at h
     obtain ⟨hg, h⟩ := h
     simp only [yb, yt] at hg
     obtain ⟨⟨⟨⟨g1, g2⟩, g3⟩, g4⟩, g5⟩ := hg
     obtain ⟨⟨ls, hls, hcl⟩, hn, hag, hd⟩ := hoe.ty T hT
     have h0 := zby hcl hd h
     clear h
     obtain ⟨z, β, ids, h, hz⟩ := h0
     cases he : emptyN ids with
     | false => rw [he] at h; cases h
     | true =>
      rw [he] at h; simp only [yn3, yh, real_guard] at h
      rw [cds] at h
      obtain ⟨hb, h⟩ := h
      simp only [yb] at hb
      refine ⟨_, h, ?_⟩
      have hzc : (zeroK te).down.cells = KV.downs (te.zero.map .lit) := by rw [(zeroCells hoe).1, (zeroCells hoe).2.1]
      have htp : toPV P (kdown mem) et (zeroK te).down = some (β, pvEl te.ag T z, ids) := by
       unfold toPV
       rw [hls, yc, hzc, hz]
       simp only [yc, zcE hoe.ag hag, yk]
      rw [hoe.intKind_none hT g5, htp]
      simp only [yc, hoe.n, hoe.bytes]
      rw [gds]
      refine ⟨?_, ?_⟩
      ·simp only [yb]
       exact ⟨hb, ⟨⟨g1, g2⟩, by rw [hzc, zb, yf1]; exact g4⟩, he⟩
      ·simp only [KOut.down, KV.down, yu1, yp3, KBox.down, KRow.down_sl g5, List.map_replicate, hn]
       rfl
    ·cases h
  ·cases h
 ·cases h
theorem zmu {v : KV} {u : Value} (h : v.down = .lit u) : v = .lit u := by cases v <;> first | (exact congrArg KV.lit (AV.lit.inj h)) | cases h
theorem zkh {boxed vars : Bool} {t tx : TypeId} {m : Mem} {rs : Nat} {x y : KV} (hno : ∀ (k : IntKind) (n : Int), x = .lit (.slice none 0 0) → y = .lit (.int k n) → False) :
  builtinA P boxed vars .append [t, tx] m rs [x.down, y.down] = appendA P boxed vars t tx m rs x.down y.down := by
 unfold builtinA
 split
 ·rename_i h; simp at h
 ·rename_i h3
  simp only [List.cons.injEq, and_true] at h3
  exact (hno _ _ (zmu h3.1) (zmu h3.2)).elim
 ·rename_i h2 h3
  simp only [List.cons.injEq, and_true] at h2 h3
  obtain ⟨rfl, rfl⟩ := h2
  obtain ⟨rfl, rfl⟩ := h3
  rfl
 ·rename_i h; simp at h
 ·rename_i he h; cases he
 ·rename_i he h; cases he
 ·rename_i h1 h2 h3 h4 h5 h6
  first | exact (h1 _ _ _ _ rfl rfl rfl).elim | exact (h2 _ _ _ _ rfl rfl rfl).elim | exact (h4 _ _ _ _ rfl rfl rfl).elim | exact (h5 _ _ _ _ rfl rfl rfl).elim
theorem zkp (ht : TabOK P tab) {boxed vars : Bool} {b : Builtin} {ts : List TypeId} {rs : Nat} {args : List KV} {k : KOut → Option R} (h : builtinK (real R) tab boxed vars b ts mem rs args k = some r) :
  ∃ out, k out = some r ∧ builtinA P boxed vars b ts (kdown mem) rs (KV.downs args) = some out.down := by
 unfold builtinK at h
 split at h
 ·split at h
  ·rename_i t x
   obtain ⟨n, rd, h, hl⟩ := zph ht h
   exact ⟨_, h, by simp only [KV.downs, builtinA, hl, yk]; rfl⟩
  ·cases h
 ·split at h
  ·rename_i t tx x y
   split at h
   ·obtain ⟨out, h, ha⟩ := zov ht h
    exact ⟨out, h, by simp only [KV.downs, KV.down, builtinA, ha]⟩
   ·rename_i hno
    obtain ⟨out, h, ha⟩ := zme ht h
    exact ⟨out, h, by simp only [KV.downs]; rw [zkh (fun k n e1 e2 => hno k n e1 e2)]; exact ha⟩
  ·cases h
 ·split at h
  ·rename_i t
   split at h
   ·rename_i ti hti
    split at h
    ·rename_i et hk
     have htk := (TIok.of (ht _ _ hti)).tk
     unfold chkTK at htk
     rw [hk] at htk
     cases hu : P.underlying t with
     | none => rw [hu] at htk; simp at htk
     | some d =>
      rw [hu] at htk
      cases d <;> simp only at htk <;> first | cases htk | skip
      exact ⟨_, h, by simp only [KV.downs, KV.down, builtinA, hu]; rfl⟩
    ·cases h
   ·cases h
  ·cases h
 ·split at h
  ·rename_i kd a rs'
   split at h
   ·rename_i v hv
    exact ⟨_, h, by simp only [KV.downs, KV.down, builtinA, zqi, zdb hv, yk]; rfl⟩
   ·cases h
  ·cases h
 ·split at h
  ·rename_i kd a rs'
   split at h
   ·rename_i v hv
    exact ⟨_, h, by simp only [KV.downs, KV.down, builtinA, zqo, zdb hv, yk]; rfl⟩
   ·cases h
  ·cases h
 ·cases h
theorem znX (ht : TabOK P tab) (hC : AskOK C tbl) {boxed raw vars : Bool} {o : Oper} {env : Nat → KV} {tmps : List AV} (he : EnvR env tmps) {rs : Nat} {k : KOut → Option R} (h : opK (real R) tab tbl boxed raw vars o env mem rs k = some r) :
  ∃ out, k out = some r ∧ opA P C boxed raw vars o (evalA tmps) (kdown mem) rs = some out.down := by
 unfold opK at h
 unfold opA
 split at h <;> first | (rename_i hop; rw [hop]; simp only) | cases h
 ·exact zjA ht he h
 ·exact zjA ht he h
 ·obtain ⟨c, hc, h, _⟩ := zd he h
  obtain ⟨a, ha, h, _⟩ := zd he h
  obtain ⟨b, hb, h, _⟩ := zd he h
  obtain ⟨v, hv, h⟩ := zoj h
  exact ⟨_, h, by simp only [opPick, hc, ha, hb, yc, hv, yk]; rfl⟩
 ·split at h
  ·rename_i ti hti
   have hok := TIok.of (ht _ _ hti)
   rw [cds] at h
   obtain ⟨hg, h⟩ := h
   simp only [yb] at hg
   refine ⟨_, h, ?_⟩
   unfold opAlloc
   rw [hok.zero_eq.1]; simp only [yc]
   have hz := (zeroCells hok).1
   rw [(zeroCells hok).2.1] at hz
   rw [gds]
   refine ⟨?_, by rw [hz]; rfl⟩
   rw [hz, zb, yf1, yb]
   exact ⟨hg.1, zab hg.2⟩
  ·cases h
 ·obtain ⟨v, hv, h, _⟩ := zd he h
  split at h
  ·rename_i ti hti
   have hok := TIok.of (ht _ _ hti)
   rw [cds] at h
   obtain ⟨hg, h⟩ := h
   simp only [yb] at hg
   refine ⟨_, h, ?_⟩
   unfold opBox
   rw [hv]; simp only [yc, hok.n]
   rw [gds]
   simp only [zW, zb, yb]
   exact ⟨⟨⟨hg.1.1, hg.1.2⟩, zab hg.2⟩, rfl⟩
  ·cases h
 ·obtain ⟨ps, hps, h⟩ := zcS he h
  obtain ⟨v, hv, h⟩ := zmE ht h
  exact ⟨_, h, by simp only [opBuild, hps, yc, hv, yk]; rfl⟩
 ·exact zhp ht he h
 ·obtain ⟨a, ha, h, _⟩ := zd he h
  obtain ⟨out, h, hl, _⟩ := zjN ht h
  exact ⟨out, h, by simp only [ha, yc, hl]⟩
 ·obtain ⟨a, ha, h, _⟩ := zd he h
  obtain ⟨x, hx, h, _⟩ := zd he h
  obtain ⟨out, h, hs⟩ := zmS ht h
  exact ⟨out, h, by simp only [opStore, ha, hx, yc, hs]⟩
 ·obtain ⟨v, hv, h, _⟩ := zd he h
  unfold opNil
  rw [hv]; simp only [yc]
  split at h
  ·exact ⟨_, h, rfl⟩
  ·exact ⟨_, h, rfl⟩
  ·exact ⟨_, h, rfl⟩
  ·cases h
 ·obtain ⟨x, hx, h, _⟩ := zd he h
  obtain ⟨y, hy, h, _⟩ := zd he h
  obtain ⟨v, hv, h⟩ := zoh ht h
  exact ⟨_, h, by simp only [opBin, hx, hy, yc, hv, yk]; rfl⟩
 ·obtain ⟨x, hx, h, _⟩ := zd he h
  obtain ⟨a, v, rfl, hv, h⟩ := zpM h
  exact ⟨_, h, by simp only [opUn, hx, yc, KV.down, hv, yk]; rfl⟩
 ·obtain ⟨x, hx, h, _⟩ := zd he h
  obtain ⟨out, h, hc⟩ := zkH ht h
  exact ⟨out, h, by simp only [hx, yc, hc]⟩
 ·obtain ⟨fi, hfi, h, _⟩ := zaX he h
  obtain ⟨ca, hca, h, _⟩ := zaX he h
  exact ⟨_, h, by simp only [opFunc, hfi, hca, yc, yk]; rfl⟩
 ·obtain ⟨l, hl, h, _⟩ := zd he h
  obtain ⟨c, hc, h, _⟩ := zd he h
  exact zil ht hl hc h
 ·obtain ⟨x, hx, h, _⟩ := zd he h
  obtain ⟨lo, hlo, h⟩ := zct he h
  obtain ⟨hi, hhi, h⟩ := zct he h
  obtain ⟨mx, hmx, h⟩ := zct he h
  obtain ⟨out, h, hs⟩ := znh ht h
  exact ⟨out, h, by simp only [opSlice, hx, hlo, hhi, hmx, yc, hs]⟩
 ·obtain ⟨x, hx, h, _⟩ := zd he h
  obtain ⟨off, n, ft, hf, h⟩ := zja ht h
  unfold opFieldAddr
  rw [hx]; simp only [yc, hf]
  split at h
  ·exact ⟨_, h, rfl⟩
  ·exact ⟨_, h, rfl⟩
  ·cases h
 ·obtain ⟨x, hx, h, _⟩ := zd he h
  obtain ⟨off, n, ft, hf, h⟩ := zja ht h
  unfold opField
  rw [hx]; simp only [yc, hf]
  split at h
  ·rename_i cs
   split at h
   ·rename_i tf htf
    have hok := TIok.of (ht _ _ htf)
    simp only [KV.down, hok.ag, yc]
    cases hg : tf.ag with
    | true =>
     rw [hg] at h; simp only [yg] at h ⊢
     rw [cds] at h
     refine ⟨_, h.2, ?_⟩
     rw [gds]
     exact ⟨by rw [zb]; exact h.1, by simp [outV, KOut.down, KV.down, zy, yz2, yo3, kdown]⟩
    | false =>
     rw [hg] at h; simp only [yh] at h ⊢
     split at h
     ·rename_i v hv
      rw [zf] at hv
      exact ⟨_, h, by rw [zcs hv]; rfl⟩
     ·cases h
   ·cases h
  ·cases h
 ·obtain ⟨x, hx, h, _⟩ := zd he h
  obtain ⟨ix, hix, h, _⟩ := zd he h
  unfold opIndex
  rw [hx, hix]; simp only [yc]
  split at h
  ·rename_i kd i
   obtain ⟨out, h, hi⟩ := znz ht h
   exact ⟨out, h, hi⟩
  ·cases h
 ·obtain ⟨x, hx, h, _⟩ := zd he h
  obtain ⟨ix, hix, h, _⟩ := zd he h
  exact zlX ht hx hix h
 ·obtain ⟨t, ht', h, _⟩ := zd he h
  unfold opExtract
  rw [ht']; simp only [yc]
  split at h
  ·rename_i vs
   split at h
   ·rename_i v hv
    rw [zf] at hv
    exact ⟨_, h, by simp only [KV.down]; rw [zcs hv]; rfl⟩
   ·cases h
  ·cases h
 ·obtain ⟨args, hargs, h, _⟩ := zaX he h
  unfold opCall
  rw [hargs]; simp only [yc]
  split at h
  ·rename_i b hb
   rw [hb]; simp only
   exact zkp ht h
  ·rename_i f hf
   rw [hf]; simp only
   obtain ⟨fv, hfv, h, _⟩ := zd he h
   rw [hfv]; simp only [yc]
   split at h
   ·rename_i g fi ca
    exact zoD ht hC h
   ·cases h
  ·cases h
end
end Go.Ab
