/- The second evaluator is the first one: every operation; regions. -/
import Derived.Test.YtmfemlkbeehioaaLib18
set_option linter.unusedVariables false
set_option linter.unusedSimpArgs false
namespace Go.Ab
section
variable {P : Program} {R : Type} {r : R} {mem : KMem} {tab : TypeId → Option TI} {C : Oracle} {tbl : FuncId → List Entry}
theorem foldInt_some {f : Int → Int → Int} {kd : IntKind} : ∀ {vs : List KV} {a b : Int}, foldIntK f kd vs a = some b → foldInts f kd (KV.downs vs) a = some b
  | [], a, b, h => h
  | v :: vs, a, b, h => by
    cases v with
    | lit v =>
      cases v with
      | int k' x =>
        simp only [foldIntK] at h
        rw [cds] at h
        simp only [KV.downs, KV.down, foldInts, gds]
        exact ⟨h.1, foldInt_some h.2⟩
      | _ => cases h
    | _ => cases h
theorem minA_eq (k : IntKind) : minA k = minI := rfl
theorem maxA_eq (k : IntKind) : maxA k = maxI := rfl
theorem builtin_some (ht : TabOK P tab) {boxed vars : Bool} {b : Builtin} {ts : List TypeId} {rs : Nat} {args : List KV} {k : KOut → Option R} (h : builtinK (real R) tab boxed vars b ts mem rs args k = some r) :
    ∃ out, k out = some r ∧ builtinA P boxed vars b ts (kdown mem) rs (KV.downs args) = some out.down := by
  unfold builtinK at h
  split at h
  · split at h
    · rename_i t x
      obtain ⟨n, rd, h, hl⟩ := len_some ht h
      exact ⟨_, h, by simp only [KV.downs, builtinA, hl, Option.map_some]; rfl⟩
    · cases h
  · split at h
    · rename_i t tx x y
      obtain ⟨out, h, ha⟩ := append_some ht h
      exact ⟨out, h, by simp only [KV.downs, builtinA, ha]⟩
    · cases h
  · split at h
    · rename_i kd a rs'
      split at h
      · rename_i v hv
        exact ⟨_, h, by simp only [KV.downs, KV.down, builtinA, minA_eq, foldInt_some hv, Option.map_some]; rfl⟩
      · cases h
    · cases h
  · split at h
    · rename_i kd a rs'
      split at h
      · rename_i v hv
        exact ⟨_, h, by simp only [KV.downs, KV.down, builtinA, maxA_eq, foldInt_some hv, Option.map_some]; rfl⟩
      · cases h
    · cases h
  · cases h
theorem op_some (ht : TabOK P tab) (hC : AskOK C tbl) {boxed raw vars : Bool} {o : Oper} {env : Nat → KV} {tmps : List AV} (he : EnvR env tmps) {rs : Nat} {k : KOut → Option R} (h : opK (real R) tab tbl boxed raw vars o env mem rs k = some r) :
    ∃ out, k out = some r ∧ opA P C boxed raw vars o (evalA tmps) (kdown mem) rs = some out.down := by
  unfold opK at h
  unfold opA
  split at h <;> first | (rename_i hop; rw [hop]; simp only) | cases h
  · exact move_some ht he h
  · exact move_some ht he h
  · obtain ⟨c, hc, h, _⟩ := get_some he h
    obtain ⟨a, ha, h, _⟩ := get_some he h
    obtain ⟨b, hb, h, _⟩ := get_some he h
    obtain ⟨v, hv, h⟩ := pick_some h
    exact ⟨_, h, by simp only [opPick, hc, ha, hb, Option.bind_some, hv, Option.map_some]; rfl⟩
  · split at h
    · rename_i ti hti
      have hok := TIok.of (ht _ _ hti)
      rw [cds] at h
      obtain ⟨hg, h⟩ := h
      simp only [Bool.and_eq_true] at hg
      refine ⟨_, h, ?_⟩
      unfold opAlloc
      rw [hok.zero_eq.1]; simp only [Option.bind_some]
      have hz := (zeroCells hok).1
      rw [(zeroCells hok).2.1] at hz
      rw [gds]
      refine ⟨?_, by rw [hz]; rfl⟩
      rw [hz, downs_length, List.length_map, Bool.and_eq_true]
      exact ⟨hg.1, onesK_down hg.2⟩
    · cases h
  · obtain ⟨v, hv, h, _⟩ := get_some he h
    split at h
    · rename_i ti hti
      have hok := TIok.of (ht _ _ hti)
      rw [cds] at h
      obtain ⟨hg, h⟩ := h
      simp only [Bool.and_eq_true] at hg
      refine ⟨_, h, ?_⟩
      unfold opBox
      rw [hv]; simp only [Option.bind_some, hok.n]
      rw [gds]
      simp only [cells_down, downs_length, Bool.and_eq_true]
      exact ⟨⟨⟨hg.1.1, hg.1.2⟩, onesK_down hg.2⟩, rfl⟩
    · cases h
  · obtain ⟨ps, hps, h⟩ := parts_some he h
    obtain ⟨v, hv, h⟩ := build_some ht h
    exact ⟨_, h, by simp only [opBuild, hps, Option.bind_some, hv, Option.map_some]; rfl⟩
  · exact buildSlice_some ht he h
  · obtain ⟨a, ha, h, _⟩ := get_some he h
    obtain ⟨out, h, hl, _⟩ := load_some ht h
    exact ⟨out, h, by simp only [ha, Option.bind_some, hl]⟩
  · obtain ⟨a, ha, h, _⟩ := get_some he h
    obtain ⟨x, hx, h, _⟩ := get_some he h
    obtain ⟨out, h, hs⟩ := store_some ht h
    exact ⟨out, h, by simp only [opStore, ha, hx, Option.bind_some, hs]⟩
  · obtain ⟨v, hv, h, _⟩ := get_some he h
    unfold opNil
    rw [hv]; simp only [Option.bind_some]
    split at h
    · exact ⟨_, h, rfl⟩
    · exact ⟨_, h, rfl⟩
    · exact ⟨_, h, rfl⟩
    · cases h
  · obtain ⟨x, hx, h, _⟩ := get_some he h
    obtain ⟨y, hy, h, _⟩ := get_some he h
    obtain ⟨v, hv, h⟩ := binK_some ht h
    exact ⟨_, h, by simp only [opBin, hx, hy, Option.bind_some, hv, Option.map_some]; rfl⟩
  · obtain ⟨x, hx, h, _⟩ := get_some he h
    obtain ⟨a, v, rfl, hv, h⟩ := unK_some h
    exact ⟨_, h, by simp only [opUn, hx, Option.bind_some, KV.down, hv, Option.map_some]; rfl⟩
  · obtain ⟨x, hx, h, _⟩ := get_some he h
    obtain ⟨out, h, hc⟩ := convert_some ht h
    exact ⟨out, h, by simp only [hx, Option.bind_some, hc]⟩
  · obtain ⟨fi, hfi, h, _⟩ := gets_some he h
    obtain ⟨ca, hca, h, _⟩ := gets_some he h
    exact ⟨_, h, by simp only [opFunc, hfi, hca, Option.bind_some, Option.map_some]; rfl⟩
  · obtain ⟨l, hl, h, _⟩ := get_some he h
    obtain ⟨c, hc, h, _⟩ := get_some he h
    exact makeSlice_some ht hl hc h
  · obtain ⟨x, hx, h, _⟩ := get_some he h
    obtain ⟨lo, hlo, h⟩ := opt_some he h
    obtain ⟨hi, hhi, h⟩ := opt_some he h
    obtain ⟨mx, hmx, h⟩ := opt_some he h
    obtain ⟨out, h, hs⟩ := slice_some ht h
    exact ⟨out, h, by simp only [opSlice, hx, hlo, hhi, hmx, Option.bind_some, hs]⟩
  · obtain ⟨x, hx, h, _⟩ := get_some he h
    obtain ⟨off, n, ft, hf, h⟩ := field_some ht h
    unfold opFieldAddr
    rw [hx]; simp only [Option.bind_some, hf]
    split at h
    · exact ⟨_, h, rfl⟩
    · exact ⟨_, h, rfl⟩
    · cases h
  · obtain ⟨x, hx, h, _⟩ := get_some he h
    obtain ⟨off, n, ft, hf, h⟩ := field_some ht h
    unfold opField
    rw [hx]; simp only [Option.bind_some, hf]
    split at h
    · rename_i cs
      split at h
      · rename_i tf htf
        have hok := TIok.of (ht _ _ htf)
        simp only [KV.down, hok.ag, Option.bind_some]
        cases hg : tf.ag with
        | true =>
          rw [hg] at h; simp only [cond_true] at h ⊢
          rw [cds] at h
          refine ⟨_, h.2, ?_⟩
          rw [gds]
          exact ⟨by rw [downs_length]; exact h.1, by simp [outV, KOut.down, KV.down, downs_eq, List.map_take, List.map_drop, kdown]⟩
        | false =>
          rw [hg] at h; simp only [cond_false] at h ⊢
          split at h
          · rename_i v hv
            rw [getR_eq] at hv
            exact ⟨_, h, by rw [downs_get hv]; rfl⟩
          · cases h
      · cases h
    · cases h
  · obtain ⟨x, hx, h, _⟩ := get_some he h
    obtain ⟨ix, hix, h, _⟩ := get_some he h
    unfold opIndex
    rw [hx, hix]; simp only [Option.bind_some]
    split at h
    · rename_i kd i
      obtain ⟨out, h, hi⟩ := index_some ht h
      exact ⟨out, h, hi⟩
    · cases h
  · obtain ⟨x, hx, h, _⟩ := get_some he h
    obtain ⟨ix, hix, h, _⟩ := get_some he h
    exact indexV_some ht hx hix h
  · obtain ⟨t, ht', h, _⟩ := get_some he h
    unfold opExtract
    rw [ht']; simp only [Option.bind_some]
    split at h
    · rename_i vs
      split at h
      · rename_i v hv
        rw [getR_eq] at hv
        exact ⟨_, h, by simp only [KV.down]; rw [downs_get hv]; rfl⟩
      · cases h
    · cases h
  · obtain ⟨args, hargs, h, _⟩ := gets_some he h
    unfold opCall
    rw [hargs]; simp only [Option.bind_some]
    split at h
    · rename_i b hb
      rw [hb]; simp only
      exact builtin_some ht h
    · rename_i f hf
      rw [hf]; simp only
      obtain ⟨fv, hfv, h, _⟩ := get_some he h
      rw [hfv]; simp only [Option.bind_some]
      split at h
      · rename_i g fi ca
        exact call_some ht hC h
      · cases h
    · cases h
end
end Go.Ab
