/- The second evaluator is the first one: every operation; regions. -/
import Derived.Test.YtdlbbdbbpoggfaaLib16
set_option linter.unusedVariables false
set_option linter.unusedSectionVars false
set_option linter.unusedSimpArgs false
namespace Go.Ab
variable [GTab]
section
variable {P : Program} {R : Type} {r : R} {mem : KMem} {tab : TypeId → Option TI} {C : Oracle} {tbl : FuncId → List Entry}
theorem zcQ {f : Int → Int → Int} {kd : IntKind} : ∀ {vs : List KV} {a b : Int}, foldIntK f kd vs a = some b → foldInts f kd (KV.downs vs) a = some b
 | [], a, b, h => h
 | v :: vs, a, b, h => by
  cases v with
  | lit v =>
   cases v with
   | int k' x =>
    simp only [foldIntK] at h
    rw [cds] at h
    simp only [KV.downs, KV.down, foldInts, gds]
    exact ⟨h.1, zcQ h.2⟩
   | _ => cases h
  | _ => cases h
theorem zpf (k : IntKind) : minA k = minI := rfl
theorem zpi (k : IntKind) : maxA k = maxI := rfl
theorem znr (ht : TabOK P tab) {t tx : TypeId} {rs : Nat} {n : Int} {k : KOut → Option R} (h : zappK (real R) tab mem t tx rs n k = some r) :
  ∃ out, k out = some r ∧ zappA P t tx (kdown mem) rs n = some out.down := by
 unfold zappK at h
 split at h
 ·rename_i tix htix
  split at h
  ·rename_i kx hk
   have htk := (TIok.of (ht _ _ htix)).tk
   unfold chkTK at htk
   rw [hk] at htk
   cases hu : P.underlying tx with
   | none => rw [hu] at htk; simp at htk
   | some d =>
    rw [hu] at htk
    cases d <;> simp only at htk <;> first | cases htk | skip
    have h0 := zah ht h
    clear h
    obtain ⟨et, te, het, hte, h, _⟩ := h0
    have hoe := TIok.of (ht _ _ hte)
    unfold zappA
    rw [hu]; simp only
    rw [het]; simp only [Option.bind_some, hoe.zero_eq.1]
    split at h
    ·rename_i T hT
     rw [cds] at h
     obtain ⟨hg, h⟩ := h
     simp only [Bool.and_eq_true, Bool.not_eq_true'] at hg
     obtain ⟨⟨⟨⟨g1, g2⟩, g3⟩, g4⟩, g5⟩ := hg
     obtain ⟨⟨ls, hls, hcl⟩, hn, hag, hd⟩ := hoe.ty T hT
     have h0 := zbo hcl hd h
     clear h
     obtain ⟨z, β, ids, h, hz⟩ := h0
     cases he : emptyN ids with
     | false => rw [he] at h; cases h
     | true =>
      rw [he] at h; simp only [Bool.not_true, cond_false, real_guard] at h
      rw [cds] at h
      obtain ⟨hb, h⟩ := h
      simp only [Bool.and_eq_true] at hb
      refine ⟨_, h, ?_⟩
      have hzc : (zeroK te).down.cells = KV.downs (te.zero.map .lit) := by rw [(zeroCells hoe).1, (zeroCells hoe).2.1]
      have htp : toPV P (kdown mem) et (zeroK te).down = some (β, pvEl te.ag T z, ids) := by
       unfold toPV
       rw [hls, Option.bind_some, hzc, hz]
       simp only [Option.bind_some, zcd hoe.ag hag, Option.map_some]
      rw [hoe.intKind_none hT g5, htp]
      simp only [Option.bind_some, hoe.n, hoe.bytes]
      rw [gds]
      refine ⟨?_, ?_⟩
      ·simp only [Bool.and_eq_true]
       exact ⟨hb, ⟨⟨g1, g2⟩, by rw [hzc, zd, List.length_map]; exact g4⟩, he⟩
      ·simp only [KOut.down, KV.down, List.map_cons, List.map_nil, KBox.down, KRow.down_sl g5, List.map_replicate, hn]
       rfl
    ·cases h
  ·cases h
 ·cases h
theorem zlq {v : KV} {u : Value} (h : v.down = .lit u) : v = .lit u := by cases v <;> first | (exact congrArg KV.lit (AV.lit.inj h)) | cases h
theorem zjY {boxed vars : Bool} {t tx : TypeId} {m : Mem} {rs : Nat} {x y : KV} (hno : ∀ (k : IntKind) (n : Int), x = .lit (.slice none 0 0) → y = .lit (.int k n) → False) :
  builtinA P boxed vars .append [t, tx] m rs [x.down, y.down] = appendA P boxed vars t tx m rs x.down y.down := by
 unfold builtinA
 split
 ·rename_i h; simp at h
 ·rename_i h3
  simp only [List.cons.injEq, and_true] at h3
  exact (hno _ _ (zlq h3.1) (zlq h3.2)).elim
 ·rename_i h2 h3
  simp only [List.cons.injEq, and_true] at h2 h3
  obtain ⟨rfl, rfl⟩ := h2
  obtain ⟨rfl, rfl⟩ := h3
  rfl
 ·rename_i h; simp at h
 ·rename_i he h; cases he
 ·rename_i he h; cases he
 ·rename_i h1 h2 h3 h4 h5 h6
  first | exact (h1 _ _ _ _ rfl rfl rfl).elim | exact (h2 _ _ _ _ rfl rfl rfl).elim | exact (h4 _ _ _ _ rfl rfl rfl).elim | exact (h5 _ _ _ _ rfl rfl rfl).elim
theorem zjF (ht : TabOK P tab) {boxed vars : Bool} {b : Builtin} {ts : List TypeId} {rs : Nat} {args : List KV} {k : KOut → Option R} (h : builtinK (real R) tab boxed vars b ts mem rs args k = some r) :
  ∃ out, k out = some r ∧ builtinA P boxed vars b ts (kdown mem) rs (KV.downs args) = some out.down := by
 unfold builtinK at h
 split at h
 ·split at h
  ·rename_i t x
   obtain ⟨n, rd, h, hl⟩ := zos ht h
   exact ⟨_, h, by simp only [KV.downs, builtinA, hl, Option.map_some]; rfl⟩
  ·cases h
 ·split at h
  ·rename_i t tx x y
   split at h
   ·obtain ⟨out, h, ha⟩ := znr ht h
    exact ⟨out, h, by simp only [KV.downs, KV.down, builtinA, ha]⟩
   ·rename_i hno
    obtain ⟨out, h, ha⟩ := zkZ ht h
    exact ⟨out, h, by simp only [KV.downs]; rw [zjY (fun k n e1 e2 => hno k n e1 e2)]; exact ha⟩
  ·cases h
 ·split at h
  ·rename_i t
   split at h
   ·rename_i ti hti
    split at h
    ·rename_i et hk
     have htk := (TIok.of (ht _ _ hti)).tk
     unfold chkTK at htk
     rw [hk] at htk
     cases hu : P.underlying t with
     | none => rw [hu] at htk; simp at htk
     | some d =>
      rw [hu] at htk
      cases d <;> simp only at htk <;> first | cases htk | skip
      exact ⟨_, h, by simp only [KV.downs, KV.down, builtinA, hu]; rfl⟩
    ·cases h
   ·cases h
  ·cases h
 ·split at h
  ·rename_i kd a rs'
   split at h
   ·rename_i v hv
    exact ⟨_, h, by simp only [KV.downs, KV.down, builtinA, zpf, zcQ hv, Option.map_some]; rfl⟩
   ·cases h
  ·cases h
 ·split at h
  ·rename_i kd a rs'
   split at h
   ·rename_i v hv
    exact ⟨_, h, by simp only [KV.downs, KV.down, builtinA, zpi, zcQ hv, Option.map_some]; rfl⟩
   ·cases h
  ·cases h
 ·cases h
theorem zmY (ht : TabOK P tab) (hC : AskOK C tbl) {boxed raw vars : Bool} {o : Oper} {env : Nat → KV} {tmps : List AV} (he : EnvR env tmps) {rs : Nat} {k : KOut → Option R} (h : opK (real R) tab tbl boxed raw vars o env mem rs k = some r) :
  ∃ out, k out = some r ∧ opA P C boxed raw vars o (evalA tmps) (kdown mem) rs = some out.down := by
 unfold opK at h
 unfold opA
 split at h <;> first | (rename_i hop; rw [hop]; simp only) | cases h
 ·exact zjw ht he h
 ·exact zjw ht he h
 ·obtain ⟨c, hc, h, _⟩ := zf he h
  obtain ⟨a, ha, h, _⟩ := zf he h
  obtain ⟨b, hb, h, _⟩ := zf he h
  obtain ⟨v, hv, h⟩ := znX h
  exact ⟨_, h, by simp only [opPick, hc, ha, hb, Option.bind_some, hv, Option.map_some]; rfl⟩
 ·split at h
  ·rename_i ti hti
   have hok := TIok.of (ht _ _ hti)
   rw [cds] at h
   obtain ⟨hg, h⟩ := h
   simp only [Bool.and_eq_true] at hg
   refine ⟨_, h, ?_⟩
   unfold opAlloc
   rw [hok.zero_eq.1]; simp only [Option.bind_some]
   have hz := (zeroCells hok).1
   rw [(zeroCells hok).2.1] at hz
   rw [gds]
   refine ⟨?_, by rw [hz]; rfl⟩
   rw [hz, zd, List.length_map, Bool.and_eq_true]
   exact ⟨hg.1, zY hg.2⟩
  ·cases h
 ·obtain ⟨v, hv, h, _⟩ := zf he h
  split at h
  ·rename_i ti hti
   have hok := TIok.of (ht _ _ hti)
   rw [cds] at h
   obtain ⟨hg, h⟩ := h
   simp only [Bool.and_eq_true] at hg
   refine ⟨_, h, ?_⟩
   unfold opBox
   rw [hv]; simp only [Option.bind_some, hok.n]
   rw [gds]
   simp only [zQ, zd, Bool.and_eq_true]
   exact ⟨⟨⟨hg.1.1, hg.1.2⟩, zY hg.2⟩, rfl⟩
  ·cases h
 ·obtain ⟨ps, hps, h⟩ := zcs he h
  obtain ⟨v, hv, h⟩ := zmV ht h
  exact ⟨_, h, by simp only [opBuild, hps, Option.bind_some, hv, Option.map_some]; rfl⟩
 ·exact zgS ht he h
 ·obtain ⟨a, ha, h, _⟩ := zf he h
  obtain ⟨out, h, hl, _⟩ := zjc ht h
  exact ⟨out, h, by simp only [ha, Option.bind_some, hl]⟩
 ·obtain ⟨a, ha, h, _⟩ := zf he h
  obtain ⟨x, hx, h, _⟩ := zf he h
  obtain ⟨out, h, hs⟩ := zmg ht h
  exact ⟨out, h, by simp only [opStore, ha, hx, Option.bind_some, hs]⟩
 ·obtain ⟨v, hv, h, _⟩ := zf he h
  unfold opNil
  rw [hv]; simp only [Option.bind_some]
  split at h
  ·exact ⟨_, h, rfl⟩
  ·exact ⟨_, h, rfl⟩
  ·exact ⟨_, h, rfl⟩
  ·cases h
 ·obtain ⟨x, hx, h, _⟩ := zf he h
  obtain ⟨y, hy, h, _⟩ := zf he h
  obtain ⟨v, hv, h⟩ := znT ht h
  exact ⟨_, h, by simp only [opBin, hx, hy, Option.bind_some, hv, Option.map_some]; rfl⟩
 ·obtain ⟨x, hx, h, _⟩ := zf he h
  obtain ⟨a, v, rfl, hv, h⟩ := zon h
  exact ⟨_, h, by simp only [opUn, hx, Option.bind_some, KV.down, hv, Option.map_some]; rfl⟩
 ·obtain ⟨x, hx, h, _⟩ := zf he h
  obtain ⟨out, h, hc⟩ := zjz ht h
  exact ⟨out, h, by simp only [hx, Option.bind_some, hc]⟩
 ·obtain ⟨fi, hfi, h, _⟩ := zaK he h
  obtain ⟨ca, hca, h, _⟩ := zaK he h
  exact ⟨_, h, by simp only [opFunc, hfi, hca, Option.bind_some, Option.map_some]; rfl⟩
 ·obtain ⟨l, hl, h, _⟩ := zf he h
  obtain ⟨c, hc, h, _⟩ := zf he h
  exact zhZ ht hl hc h
 ·obtain ⟨x, hx, h, _⟩ := zf he h
  obtain ⟨lo, hlo, h⟩ := zcf he h
  obtain ⟨hi, hhi, h⟩ := zcf he h
  obtain ⟨mx, hmx, h⟩ := zcf he h
  obtain ⟨out, h, hs⟩ := zmF ht h
  exact ⟨out, h, by simp only [opSlice, hx, hlo, hhi, hmx, Option.bind_some, hs]⟩
 ·obtain ⟨x, hx, h, _⟩ := zf he h
  obtain ⟨off, n, ft, hf, h⟩ := zis ht h
  unfold opFieldAddr
  rw [hx]; simp only [Option.bind_some, hf]
  split at h
  ·exact ⟨_, h, rfl⟩
  ·exact ⟨_, h, rfl⟩
  ·cases h
 ·obtain ⟨x, hx, h, _⟩ := zf he h
  obtain ⟨off, n, ft, hf, h⟩ := zis ht h
  unfold opField
  rw [hx]; simp only [Option.bind_some, hf]
  split at h
  ·rename_i cs
   split at h
   ·rename_i tf htf
    have hok := TIok.of (ht _ _ htf)
    simp only [KV.down, hok.ag, Option.bind_some]
    cases hg : tf.ag with
    | true =>
     rw [hg] at h; simp only [cond_true] at h ⊢
     rw [cds] at h
     refine ⟨_, h.2, ?_⟩
     rw [gds]
     exact ⟨by rw [zd]; exact h.1, by simp [outV, KOut.down, KV.down, zx, List.map_take, List.map_drop, kdown]⟩
    | false =>
     rw [hg] at h; simp only [cond_false] at h ⊢
     split at h
     ·rename_i v hv
      rw [zk] at hv
      exact ⟨_, h, by rw [zcm hv]; rfl⟩
     ·cases h
   ·cases h
  ·cases h
 ·obtain ⟨x, hx, h, _⟩ := zf he h
  obtain ⟨ix, hix, h, _⟩ := zf he h
  unfold opIndex
  rw [hx, hix]; simp only [Option.bind_some]
  split at h
  ·rename_i kd i
   obtain ⟨out, h, hi⟩ := zmJ ht h
   exact ⟨out, h, hi⟩
  ·cases h
 ·obtain ⟨x, hx, h, _⟩ := zf he h
  obtain ⟨ix, hix, h, _⟩ := zf he h
  exact zkC ht hx hix h
 ·obtain ⟨t, ht', h, _⟩ := zf he h
  unfold opExtract
  rw [ht']; simp only [Option.bind_some]
  split at h
  ·rename_i vs
   split at h
   ·rename_i v hv
    rw [zk] at hv
    exact ⟨_, h, by simp only [KV.down]; rw [zcm hv]; rfl⟩
   ·cases h
  ·cases h
 ·obtain ⟨args, hargs, h, _⟩ := zaK he h
  unfold opCall
  rw [hargs]; simp only [Option.bind_some]
  split at h
  ·rename_i b hb
   rw [hb]; simp only
   exact zjF ht h
  ·rename_i f hf
   rw [hf]; simp only
   obtain ⟨fv, hfv, h, _⟩ := zf he h
   rw [hfv]; simp only [Option.bind_some]
   split at h
   ·rename_i g fi ca
    exact znn ht hC h
   ·cases h
  ·cases h
end
end Go.Ab
