/- The evaluator. -/
import Derived.Test.YtdlbbdbbpoggfaaLib3
set_option linter.unusedVariables false
set_option linter.unusedSectionVars false
set_option linter.unusedSimpArgs false
section
namespace Go.Ab
variable [GTab]
structure SR (G : Gh) (w : World) (st : St) (a : Act) : Prop where
 memr : MemR G w st.mem
 len : st.tmps.length = a.tmps.size
 tmps : ∀ (j : Nat) (x : AV), st.tmps[j]? = some x → isGone x = true ∨ VR G w x (a.tmps.getD j undef)
 defers : a.defers = []
structure Inv (G0 : Gh) (w0 : World) (old : List (Option Bool)) (G : Gh) (w : World) : Prop where
 ev : Ev G0 w0 w
 mine : G.mine = G0.mine
 prot : ∀ β B o, G0.prot β B o → G.prot β B o
 new : ∀ β B o, G.prot β B o → G0.prot β B o ∨ G0.mine B
 keep : ∀ (j : Nat) (k : Bool), old[j]? = some (some k) → ∀ L, G0.loc j 0 = some L → G.loc j 0 = some L
theorem Inv.refl (G : Gh) (w : World) (old : List (Option Bool)) : Inv G w old G w := ⟨Ev.refl G w, rfl, fun _ _ _ h => h, fun _ _ _ h => .inl h, fun _ _ _ _ h => h⟩
theorem Inv.step {G0 : Gh} {w0 : World} {old : List (Option Bool)} {G G' : Gh} {w w' : World} (h : Inv G0 w0 old G w) (hg : Gle G G') (he : Ev G w w') : Inv G0 w0 old G' w' where
 ev :=
  ⟨yb2 h.ev.size he.size, he.out.trans h.ev.out, he.os.trans h.ev.os, fun B hb hm => (he.away B (yx1 hb h.ev.size) (by rw [h.mine]; exact hm)).trans (h.ev.away B hb hm),
   fun B o x => he.some B o (h.ev.some B o x), fun β B o x => (he.prot β B o (h.prot _ _ _ x)).trans (h.ev.prot β B o x), fun B o x => (he.fz B o (h.ev.some B o x)).trans (h.ev.fz B o x), he.tape.trans h.ev.tape⟩
 mine := hg.mine.trans h.mine
 prot β B o x := hg.prot _ _ _ (h.prot _ _ _ x)
 new β B o x := (hg.new _ _ _ x).elim (h.new _ _ _) (fun y => .inr (by rw [← h.mine]; exact y))
 keep j k hj L hL := hg.loc _ _ _ (h.keep j k hj L hL)
theorem zom {tmps : List AV} {t : Nat} {v : AV} (h : getT tmps t = some v) : tmps[t]? = some v ∧ isGone v = false := by
 unfold getT at h
 rw [zf] at h
 rw [bind_some] at h; obtain ⟨u, hu, h⟩ := h
 cases hg : isGone u with
 | true => rw [hg] at h; simp at h
 | false => rw [hg] at h; simp only [yh] at h; obtain rfl := ya h; exact ⟨hu, hg⟩
section
variable {P : Program}
theorem SR.get {G : Gh} {w : World} {st : St} {a : Act} (h : SR G w st a) {t : Nat} {v : AV} (ht : getT st.tmps t = some v) : VR G w v (a.tmps.getD t undef) := by
 obtain ⟨h1, h2⟩ := zom ht
 rcases h.tmps t v h1 with h3 | h3
 ·rw [h2] at h3; cases h3
 ·exact h3
theorem znI {G : Gh} {w : World} {mem : Mem} (hM : MemR G w mem) {g : Nat} {q : Int × Int} (h : GTab.tab g = some q) : VR G w (.el true (.agg [.lit (.int .i64 q.1), .lit (.int .i64 q.2)]) 0) (.pointer (some ⟨g, 0, none⟩)) := by
 obtain ⟨⟨h1, h2⟩, h3, h4⟩ := hM.glob g q h
 refine .el true _ 0 g 0 (fun j => if j = 0 then .int .i64 q.1 else .int .i64 q.2) (fun j y hy => ?_) (fun j y hy => ?_)
 ·match j, hy with
  | 0, hy => exact ⟨h1, h2⟩
  | 1, hy => exact ⟨h3, h4⟩
 ·match j, hy with
  | 0, hy => obtain rfl := ya hy; exact .lit _ rfl
  | 1, hy => obtain rfl := ya hy; exact .lit _ rfl
theorem SR.eval {G : Gh} {w : World} {st : St} {a : Act} (h : SR G w st a) : EvR G w (evalA st.tmps) a := by
 intro x v hx
 cases x with
 | tmp t => exact h.get hx
 | const c => exact zbh hx
 | func f =>
  obtain rfl := ya hx
  exact .fn (.func f) [] [] #[] #[] rfl rfl (fun j y hy => by simp at hy) (fun j y hy => by simp at hy)
 | global g =>
  simp only [evalA] at hx
  obtain ⟨q, hq, rfl⟩ := yd.1 hx
  exact znI h.memr hq
theorem zmr (a : Act) (dst : Option Tmp) (v : Value) : (a.put dst v).defers = a.defers ∧ (a.put dst v).tmps.size = a.tmps.size := by
 cases dst <;> simp [Act.put]
theorem SR.put {G G' : Gh} {w w' : World} {st : St} {a : Act} {dst : Option Tmp} {v : AV} {cv : Value} {mem' : Mem} (h : SR G w st a) (hg : Gle G G') (he : Ev G w w') (hv : VR G' w' v cv) (hM : MemR G' w' mem') :
  SR G' w' { tmps := putA st.tmps dst v, mem := mem' } (a.put dst cv) := by
 refine ⟨hM, ?_, fun j x hx => ?_, by rw [(zmr a dst cv).1]; exact h.defers⟩
 ·rw [(zmr a dst cv).2, ← h.len]
  cases dst <;> simp [putA, zP]
 ·cases dst with
  | none => exact (h.tmps j x hx).imp id (fun h => h.mono hg he)
  | some d =>
   simp only [putA, zP] at hx
   simp only [Act.put]
   by_cases hj : j = d
   ·subst hj
    have hjl : j < st.tmps.length := by have := (ye.1 hx).1; simpa using this
    rw [yw hjl] at hx
    obtain rfl := ya hx
    right
    rw [ym, Array.getElem?_setIfInBounds_self_of_lt (by rw [← h.len]; exact hjl)]
    exact hv
   ·rw [yq (fun e => hj e.symm)] at hx
    refine (h.tmps j x hx).imp id (fun h => ?_)
    rw [ym, Array.getElem?_setIfInBounds_ne (fun e => hj e.symm), ← ym]
    exact h.mono hg he
theorem MemR.congr {G : Gh} {w : World} {mem mem' : Mem} (hM : MemR G w mem) (h : ∀ (b : Nat) (x : Box), mem'[b]? = some (some x) ↔ mem[b]? = some (some x)) : MemR G w mem' :=
 ⟨fun b x hx => hM.box b x ((h b x).1 hx), fun b g hx => hM.unset b g (fun x hx' => hx x ((h b x).2 hx')), fun b x g hx => hM.gens b x g ((h b x).1 hx),
  fun b b' x x' L L' B hx hx' => hM.apart b b' x x' L L' B ((h b x).1 hx) ((h b' x').1 hx'), fun b b' x x' B i c B' hx k hi hx' => hM.inA b b' x x' B i c B' ((h b x).1 hx) k hi ((h b' x').1 hx'),
  fun b b' x x' B C i c i' c' B' hx k hi hx' => hM.inB b b' x x' B C i c i' c' B' ((h b x).1 hx) k hi ((h b' x').1 hx'), hM.own, hM.lab, hM.away, hM.glob⟩
theorem zlI : ∀ {m : Mem} {b : Nat} {x : Box}, (trim m)[b]? = some (some x) ↔ m[b]? = some (some x)
 | [], b, x => by simp [trim]
 | y :: m, b, x => by
  have ih := fun b => zlI (m := m) (b := b) (x := x)
  simp only [trim]
  split
  ·rename_i hn
   rw [hn] at ih
   have hno : ∀ b : Nat, m[b]? ≠ some (some x) := fun b hb => by have := (ih b).2 hb; simp at this
   cases y with
   | none =>
    simp only [isNew, yg]
    cases b with
    | zero => simp
    | succ b => simp [hno b]
   | some y =>
    simp only [isNew, yh]
    cases b with
    | zero => simp
    | succ b => simp [hno b]
  ·rename_i z hz
   cases b with
   | zero => simp
   | succ b => simp only [ye1]; exact ih b
theorem zok {mem : Mem} {rs : Nat} : isRes mem rs = true ↔ mem[rs]? = some none := by
 unfold isRes
 split
 ·rename_i h; simp [h]
 ·rename_i h; constructor
  ·intro h'; cases h'
  ·intro h'; exact absurd h' h
inductive OStep (P : Program) (C : Oracle) (an : Ann) (tk : Bool) (rid : Nat) (ops : Array Oper) (o : Oper) (i rs : Nat) (st : St) : St → Option Tr → Prop
 | run (out : Out) (st1 : St) (hst : st1.mem = st.mem ∧ ∀ t : Nat, st1.tmps[t]? = st.tmps[t]?) (hres : makes o.op = true → isRes st.mem rs = true) (h : opX P C (hasPair rid i an.own) tk (hasPair rid i an.boxed) (hasPair rid i an.raw) (hasPair rid i an.vars) o (evalA st1.tmps) st1.mem rs = some out)
   (hg : ∀ j want, o.guard = some (j, want) → ∃ d, (ops[j]?).bind (·.dst) = some d ∧ st.tmps[d]? = some (.lit (.bool want))) :
   OStep P C an tk rid ops o i rs st { tmps := putA st1.tmps o.dst out.v, mem := out.apply st1.mem } (some (out.tr (makes o.op) rs i o.op st1.mem))
 | skip (st1 : St) (hst : st1.mem = st.mem ∧ ∀ t : Nat, st1.tmps[t]? = st.tmps[t]?) (j : Nat) (want : Bool) (d : Nat) (hg : o.guard = some (j, want)) (hd : (ops[j]?).bind (·.dst) = some d)
   (h : st.tmps[d]? = some (.lit (.bool (!want))) ∨ ∃ x, st.tmps[d]? = some (.lit (.tuple x))) : OStep P C an tk rid ops o i rs st { tmps := putA st1.tmps o.dst (.lit undef), mem := st1.mem } none
theorem zpt {tmps : List AV} {d : Nat} {v : AV} (h : tmps[d]? = some v) : ∀ t : Nat, (tmps.set d v)[t]? = tmps[t]? := by
 intro t
 by_cases e : t = d
 ·subst e; rw [yw (ye.1 h).1, h]
 ·rw [yq (fun x => e x.symm)]
variable {R : Type}
theorem zlY {h : Option Int} {v : AV} {k : AV → Option R} {r : R} (hh : hintOk h v k = some r) : k v = some r := by
 unfold hintOk at hh
 split at hh
 ·exact hh
 ·split at hh
  ·rw [za] at hh
   rw [decide_eq_true_eq] at hh
   rw [hh.1]; exact hh.2
  ·rename_i x _ b
   cases hx : decide (x = 0) with
   | true =>
    rw [hx] at hh; simp only [yg] at hh
    rw [za] at hh
    cases b with
    | false => exact hh.2
    | true => simp at hh
   | false =>
    rw [hx] at hh; simp only [yh] at hh
    rw [za] at hh
    cases b with
    | true => exact hh.2
    | false => simp at hh
  ·exact hh
theorem zjK {C : Oracle} {an : Ann} {tk : Bool} {rid : Nat} {ops : Array Oper} {o : Oper} {rest : List Oper} {i rs : Nat} {st : St} {tr : List Tr} {k : St → List Tr → Option R} {r : R}
  (h : opsA P C an tk rid (ops.toList.map (·.dst)) (o :: rest) i rs st tr k = some r) :
  ∃ st' t, OStep P C an tk rid ops o i rs st st' t ∧ opsA P C an tk rid (ops.toList.map (·.dst)) rest (i + 1) (bif makes o.op then rs + 1 else rs) st' (t.toList ++ tr) k = some r := by
 simp only [opsA, zf, zP] at h
 have hds : ∀ {j : Nat} {d : Nat}, (ops.toList.map (·.dst))[j]? = some (some d) → (ops[j]?).bind (·.dst) = some d := by
  intro j d hj
  rw [yc1] at hj
  obtain ⟨x, hx, hd⟩ := yd.1 hj
  rw [yo1] at hx
  rw [hx]; exact hd
 have hrun : ∀ (st1 : St), (st1.mem = st.mem ∧ ∀ t : Nat, st1.tmps[t]? = st.tmps[t]?) → (∀ j want, o.guard = some (j, want) → ∃ d, (ops[j]?).bind (·.dst) = some d ∧ st.tmps[d]? = some (.lit (.bool want))) →
   guardB (bif makes o.op then isRes st1.mem rs else true) ((opX P C (hasPair rid i an.own) tk (hasPair rid i an.boxed) (hasPair rid i an.raw) (hasPair rid i an.vars) o (evalA st1.tmps) st1.mem rs).bind fun out =>
    hintOk (hintAt rid i an.hint) out.v fun v => opsA P C an tk rid (ops.toList.map (·.dst)) rest (i + 1) (bif makes o.op then rs + 1 else rs) { tmps := putA st1.tmps o.dst v, mem := out.apply st1.mem } (out.tr (makes o.op) rs i o.op st1.mem :: tr) k) = some r →
   ∃ st' t, OStep P C an tk rid ops o i rs st st' t ∧ opsA P C an tk rid (ops.toList.map (·.dst)) rest (i + 1) (bif makes o.op then rs + 1 else rs) st' (t.toList ++ tr) k = some r := by
  intro st1 hst hg h
  rw [za] at h; obtain ⟨hr, h⟩ := h
  rw [bind_some] at h; obtain ⟨out, hout, h⟩ := h
  have h := zlY h
  refine ⟨_, _, .run out st1 hst (fun hm => ?_) hout hg, by simpa using h⟩
  rw [hm] at hr; rw [← hst.1]; exact hr
 have hskip : ∀ (st1 : St), (st1.mem = st.mem ∧ ∀ t : Nat, st1.tmps[t]? = st.tmps[t]?) → ∀ (j : Nat) (want : Bool) (d : Nat), o.guard = some (j, want) → (ops[j]?).bind (·.dst) = some d → (st.tmps[d]? = some (.lit (.bool (!want))) ∨ ∃ x, st.tmps[d]? = some (.lit (.tuple x))) →
   opsA P C an tk rid (ops.toList.map (·.dst)) rest (i + 1) (bif makes o.op then rs + 1 else rs) { tmps := putA st1.tmps o.dst (.lit undef), mem := st1.mem } tr k = some r →
   ∃ st' t, OStep P C an tk rid ops o i rs st st' t ∧ opsA P C an tk rid (ops.toList.map (·.dst)) rest (i + 1) (bif makes o.op then rs + 1 else rs) st' (t.toList ++ tr) k = some r := by
  intro st1 hst j want d hg hd hh h
  exact ⟨_, _, .skip st1 hst j want d hg hd hh, by simpa using h⟩
 have hset : ∀ {d : Nat} {v : AV}, st.tmps[d]? = some v → (({ st with tmps := st.tmps.set d v } : St).mem = st.mem ∧ ∀ t : Nat, ({ st with tmps := st.tmps.set d v } : St).tmps[t]? = st.tmps[t]?) := fun h => ⟨rfl, zpt h⟩
 split at h
 ·rename_i hg
  exact hrun st ⟨rfl, fun _ => rfl⟩ (fun j want h => by rw [hg] at h; cases h) h
 ·rename_i j want hg
  split at h
  ·rename_i d hd
   have hd' := hds hd
   split at h
   ·rename_i b hb
    cases b with
    | true =>
     simp only [yg] at h
     cases want with
     | true => simp only [yg, yh] at h; exact hrun _ (hset hb) (fun j' want' h' => by rw [hg] at h'; obtain ⟨rfl, rfl⟩ := Prod.mk.inj (ya h'); exact ⟨d, hd', hb⟩) h
     | false => simp only [yg, yh] at h; exact hskip _ (hset hb) j false d hg hd' (.inl hb) h
    | false =>
     simp only [yh] at h
     cases want with
     | true => simp only [yg, yh] at h; exact hskip _ (hset hb) j true d hg hd' (.inl hb) h
     | false => simp only [yg, yh] at h; exact hrun _ (hset hb) (fun j' want' h' => by rw [hg] at h'; obtain ⟨rfl, rfl⟩ := Prod.mk.inj (ya h'); exact ⟨d, hd', hb⟩) h
   ·rename_i x hx
    exact hskip st ⟨rfl, fun _ => rfl⟩ j want d hg hd' (.inr ⟨x, hx⟩) h
   ·simp at h
  ·simp at h
theorem SR.same {G : Gh} {w : World} {st st1 : St} {a : Act} (h : SR G w st a) (hst : st1.mem = st.mem ∧ ∀ t : Nat, st1.tmps[t]? = st.tmps[t]?) : SR G w st1 a := by
 refine ⟨by rw [hst.1]; exact h.memr, ?_, fun j x hx => h.tmps j x (by rw [← hst.2]; exact hx), h.defers⟩
 rw [← h.len]
 rcases Nat.lt_trichotomy st1.tmps.length st.tmps.length with hlt | he | hlt
 ·have := hst.2 st1.tmps.length
  rw [ya1 (yx _), yf hlt] at this; cases this
 ·exact he
 ·have := hst.2 st.tmps.length
  rw [ya1 (yx _), yf hlt] at this; cases this
theorem SR.lit {G : Gh} {w : World} {st : St} {a : Act} (h : SR G w st a) {d : Nat} {v : Value} (hd : st.tmps[d]? = some (.lit v)) : a.tmps[d]? = some v := by
 have hl : d < a.tmps.size := by rw [← h.len]; exact (ye.1 hd).1
 rcases h.tmps d _ hd with h1 | h1
 ·simp [isGone] at h1
 ·have := h1.lit_inv
  rw [ym, yp1 hl] at this
  rw [yp1 hl]; simpa using this
theorem OStep.sound {C : Oracle} (hC : OracleOK P C) {an : Ann} {tk : Bool} {rid : Nat} {ops : Array Oper} {o : Oper} {i rs : Nat} {st st' : St} {t : Option Tr} {G : Gh} {w : World} {a : Act} (hi : ops[i]? = some o)
  (h : OStep P C an tk rid ops o i rs st st' t) (hS : SR G w st a) (K : Act → World → Prop) (Q : Exit → Act → World → Prop) (hK : ∀ G' w' a', Gle G G' → Ev G w w' → SR G' w' st' a' → K a' w') : wpOp P ops Q i K a w := by
 unfold wpOp
 simp only [hi]
 cases h with
 | run out st1 hst hres ho hg =>
  have hS1 := hS.same hst
  have hw : Region.wanted o (yielded ops a.tmps) = true := by
   unfold Region.wanted
   cases hgo : o.guard with
   | none => rfl
   | some q =>
    obtain ⟨j, want⟩ := q
    obtain ⟨d, hd, hb⟩ := hg j want hgo
    have := hS.lit hb
    simp [yielded, hd, this]
  rw [if_pos hw]
  left
  exact zoq hS1.memr (fun hm => by rw [hst.1]; exact zok.1 (hres hm)) hS1.eval (fun hc hf ha hcv => zlT hC hS1.memr hc hf ha hcv) ho K Q
   (fun G' w' cv hv hgl hev hM' => hK G' w' _ hgl hev (hS1.put hgl hev hv hM'))
 | skip st1 hst j want d hg hd h =>
  have hS1 := hS.same hst
  have hw : Region.wanted o (yielded ops a.tmps) = false := by
   unfold Region.wanted
   simp only [hg]
   rcases h with hb | ⟨x, hb⟩
   ·have := hS.lit hb
    cases want <;> simp [yielded, hd, this]
   ·have := hS.lit hb
    simp [yielded, hd, this]
  rw [hw]
  simp only [yk2, if_false]
  exact hK G w _ (Gle.refl G) (Ev.refl G w) (hS1.put (Gle.refl G) (Ev.refl G w) (.lit _ rfl) hS1.memr)
theorem zhN {C : Oracle} (hC : OracleOK P C) {an : Ann} {tk : Bool} {rid : Nat} {ops : Array Oper} {k : St → List Tr → Option R} {r : R} {Q : Exit → Act → World → Prop} {G0 : Gh} {w0 : World} {old : List (Option Bool)} :
  ∀ {rest : List Oper} {i rs : Nat} {st : St} {tr : List Tr} {G : Gh} {w : World} {a : Act}, ops.toList.drop i = rest → opsA P C an tk rid (ops.toList.map (·.dst)) rest i rs st tr k = some r → SR G w st a → Inv G0 w0 old G w →
   (∀ st' tr' G' w' a', k st' tr' = some r → SR G' w' st' a' → Inv G0 w0 old G' w' → Q .normal a' w') → wpOps P ops Q (List.range' i rest.length) a w
 | [], i, rs, st, tr, G, w, a, hd, h, hS, hI, hk => by
  simp only [opsA] at h
  exact hk st tr G w a h hS hI
 | o :: rest, i, rs, st, tr, G, w, a, hd, h, hS, hI, hk => by
  obtain ⟨st', t, hst, h'⟩ := zjK h
  have hi : ops[i]? = some o := by
   have : (ops.toList.drop i)[0]? = some o := by rw [hd]; rfl
   rw [yb1, ym1, yo1] at this; exact this
  rw [yh2, List.range'_succ, wpOps_cons]
  refine hst.sound hC hi hS _ _ (fun G' w' a' hg he hS' => ?_)
  exact zhN hC (by rw [← List.drop_drop, hd]; rfl) h' hS' (hI.step hg he) hk
end
end Go.Ab
end
section
namespace Go.Ab
variable [GTab]
theorem zhG {p : Nat → Prop} (h : ∃ n, p n) : ∃ n, p n ∧ ∀ m, p m → n ≤ m := by
 obtain ⟨n, hn⟩ := h
 induction n using Nat.strongRecOn with
 | _ n ih =>
  by_cases hm : ∃ m, m < n ∧ p m
  ·obtain ⟨m, hlt, hm⟩ := hm; exact ih m hlt hm
  ·exact ⟨n, hn, fun m hpm => Nat.le_of_not_lt fun hlt => hm ⟨m, hlt, hpm⟩⟩
section
variable {P : Program}
theorem zkF {c : Code} {Q : Exit → Act → World → Prop} {a : Act} {w : World} (I : Nat → Act → World → Prop) {n : Nat} (h0 : I n a w)
  (round : ∀ n a w, I n a w → c.wp P (Exit.then (fun a' w' => ∃ m, m < n ∧ I m a' w') Q) a w) : (Code.loop c).wp P Q a w := by
 refine wp_loop (fun a w => ∃ n, I n a w) (fun a w => Classical.epsilon fun n => I n a w ∧ ∀ m, I m a w → n ≤ m) ⟨n, h0⟩ fun a w hI => ?_
 have hmin := Classical.epsilon_spec (zhG hI)
 refine wp_mono (round _ a w hmin.1) fun e a' w' he => ?_
 cases e <;> try exact he
 obtain ⟨m, hlt, hm⟩ := he
 have hmin' := Classical.epsilon_spec (zhG (p := fun n => I n a' w') ⟨m, hm⟩)
 exact ⟨⟨m, hm⟩, Nat.lt_of_le_of_lt (hmin'.2 m hm) hlt⟩
def Ex.to : Ex → Exit
 | .normal => .normal
 | .exit id => .exit id
 | .ret => .ret
theorem zdW : ∀ {live : List Nat} {vs : List AV} {i j : Nat}, (clearTo live vs i)[j]? = (vs[j]?).map fun v => bif memN (i + j) live then v else .goneV
 | live, [], i, j => by simp [clearTo]
 | live, v :: r, i, 0 => by simp [clearTo]
 | live, v :: r, i, j + 1 => by simp only [clearTo, ye1]; rw [zdW (vs := r), show i + 1 + j = i + (j + 1) by omega]
theorem znd {G0 : Gh} {w0 : World} {keep : Bool} {old : List (Option Bool)} {live : List Nat} {st st1 : St} {G : Gh} {w : World} {a : Act} (h : headA keep old live st = some st1) (hS : SR G w st a) (hI : Inv G0 w0 old G w) :
  ∃ G1, SR G1 w st1 a ∧ Inv G0 w0 old G1 w := by
 unfold headA at h
 obtain ⟨q, hq, rfl⟩ := yd.1 h
 obtain ⟨f, G1, G2, hr, hm, hp, hp1, hM, hren, hvals, hk, _, _⟩ := zgC hS.memr hq
 refine ⟨G2, ⟨hM, ?_, fun j x hx => ?_, hS.defers⟩, ⟨hI.ev, hm.trans hI.mine, fun β B o h => by rw [hp]; exact hI.prot β B o h, fun β B o h => hI.new β B o (by rw [hp] at h; exact h), fun j k hj L hL => by obtain ⟨y, _, _, h⟩ := hk j k hj; exact h L (hI.keep j k hj L hL)⟩⟩
 ·simp only [hr, zac, yf1]
  rw [← hS.len]
  have : ∀ (vs : List AV) i, (clearTo live vs i).length = vs.length := by
   intro vs; induction vs with
   | nil => intro i; rfl
   | cons v r ih => intro i; simp [clearTo, ih]
  exact this _ _
 ·simp only [hr] at hx
  obtain ⟨y, hy, rfl⟩ := zcO hx
  have hvy := hvals j y
  rw [zdW] at hy hvy
  obtain ⟨z, hz, rfl⟩ := yd.1 hy
  rw [hz] at hvy
  cases hmn : memN (0 + j) live with
  | false => left; rfl
  | true =>
   simp only [yg]
   rcases hS.tmps j z hz with h | h
   ·left
    unfold isGone at h
    split at h
    ·rfl
    ·cases h
   ·right
    rw [hmn] at hvy
    exact (hvy _ rfl h).ren (l := true) hren (fun β B o _ hb => by rw [hp, ← hp1]; exact hb) (fun _ => rfl)
theorem zkx {G : Gh} {w : World} {mem mem' : Mem} {s : AV} {n c : Nat} (hM : MemR G w mem) (h : takeAt mem s n c = some mem') : ∃ G', Gle G G' ∧ MemR G' w mem' := by
 unfold takeAt at h
 split at h
 ·rename_i b g
  rw [bind_some] at h; obtain ⟨bx, hbx, h⟩ := h
  split at h
  ·rename_i e xs hs hrow
   obtain ⟨r, hr, rfl⟩ := yd.1 h
   have hx : mem[b]? = some (some bx) := by
    unfold boxO? at hbx
    split at hbx
    ·rename_i x hx
     cases hc : Nat.beq x.gen g && x.row.isOwn with
     | true => rw [hc] at hbx; obtain rfl := ya hbx; exact hx
     | false => rw [hc] at hbx; cases hbx
    ·cases hbx
   have hlen : 0 < bx.row.len := by
    rw [hrow]
    unfold readO at hr
    rw [bind_some] at hr; obtain ⟨p, hp, _⟩ := hr
    have := (ye.1 hp).1
    show 0 < xs.length
    omega
   obtain ⟨o, hl, hm⟩ := (hM.box b bx hx).loc
   cases o with
   | none => have := hm.1; omega
   | some B =>
    obtain ⟨G', v, _, _, ht, _⟩ := zdV hM hx hrow ⟨_, hl, rfl⟩ hr
    exact ⟨G', ht.gle, ht.memr⟩
  ·cases h
 ·cases h
theorem zfI {w : World} {tmps : List AV} : ∀ {l : List (Operand × Nat × Operand × Nat)} {G : Gh} {mem mem' : Mem}, MemR G w mem → takesA tmps l mem = some mem' → ∃ G', Gle G G' ∧ MemR G' w mem'
 | [], G, mem, mem', hM, h => by obtain rfl := ya h; exact ⟨G, Gle.refl G, hM⟩
 | q :: l, G, mem, mem', hM, h => by
  simp only [takesA] at h
  rw [bind_some] at h; obtain ⟨mem1, h1, h⟩ := h
  have : ∃ s n c, takeAt mem s n c = some mem1 := by
   unfold takeA at h1
   rw [bind_some] at h1; obtain ⟨p, _, h1⟩ := h1
   rw [bind_some] at h1; obtain ⟨s, _, h1⟩ := h1
   rw [bind_some] at h1; obtain ⟨v, _, h1⟩ := h1
   split at h1
   ·rw [za] at h1; exact ⟨_, _, _, h1.2⟩
   ·cases h1
  obtain ⟨s, n, c, ht⟩ := this
  obtain ⟨G1, hg1, hM1⟩ := zkx hM ht
  obtain ⟨G2, hg2, hM2⟩ := zfI hM1 h
  exact ⟨G2, hg1.trans hg2, hM2⟩
theorem zmJ {G0 : Gh} {w0 : World} {old : List (Option Bool)} {an : Ann} {rid : Nat} {st st1 : St} {G : Gh} {w : World} {a : Act} (h : tidyA an rid old st = some st1) (hS : SR G w st a) (hI : Inv G0 w0 old G w) :
  ∃ G1, SR G1 w st1 a ∧ Inv G0 w0 old G1 w := by
 unfold tidyA at h
 split at h
 ·obtain rfl := ya h; exact ⟨G, hS, hI⟩
 ·rename_i q hq
  rw [bind_some] at h; obtain ⟨mem1, hset, h⟩ := h
  obtain ⟨mem2, htk, rfl⟩ := yd.1 h
  obtain ⟨G1, hG⟩ := zgZ hS.memr hset
  obtain ⟨G2, hg2, hM2⟩ := zfI hG.memr htk
  have hI1 : Inv G0 w0 old G1 w := ⟨hI.ev, hG.mine.trans hI.mine, fun β B o h => by rw [hG.prot]; exact hI.prot β B o h, fun β B o h => hI.new β B o (by rw [hG.prot] at h; exact h), fun j k hj L hL => by
   rw [hG.loc j 0 (ye.1 hj).1]; exact hI.keep j k hj L hL⟩
  refine ⟨G2, ⟨hM2, ?_, fun j x hx => ?_, hS.defers⟩, hI1.step hg2 (Ev.refl G1 w)⟩
  ·have : ∀ (vs : List AV) i, (clearTo q.1 vs i).length = vs.length := by
    intro vs; induction vs with
    | nil => intro i; rfl
    | cons v r ih => intro i; simp [clearTo, ih]
   rw [← hS.len]; exact this _ _
  ·have hvx := hG.vals j x
   rw [zdW] at hx hvx
   obtain ⟨z, hz, rfl⟩ := yd.1 hx
   rw [hz] at hvx
   cases hmn : memN (0 + j) q.1 with
   | false => left; rfl
   | true =>
    simp only [yg]
    rcases hS.tmps j z hz with h | h
    ·exact .inl h
    ·rw [hmn] at hvx
     exact .inr ((hvx _ rfl h).mono hg2 (Ev.refl G1 w))
variable {R : Type}
def DrawsOK (P : Program) (C : Oracle) (an : Ann) : Prop := ∀ (R : Type) (rid : Nat) (ops : Array Oper) (st : St) (k : St → Option R) (r : R) (G0 : Gh) (w0 : World) (old : List (Option Bool)) (G : Gh) (w : World) (a : Act) (Q : Exit → Act → World → Prop),
 regionA P C an rid ops true st k = some r → SR G w st a → Inv G0 w0 old G w → (∀ st' G' w' a', k st' = some r → SR G' w' st' a' → Inv G0 w0 old G' w' → Q .normal a' w') → (Code.region rid ops true).wp P Q a w
theorem zhj {m : Mem} {n b : Nat} {x : Box} : (m ++ List.replicate n none)[b]? = some (some x) ↔ m[b]? = some (some x) := by
 by_cases hb : b < m.length
 ·rw [yp hb]
 ·rw [yu (by omega), yz1]
  constructor
  ·intro h; split at h <;> simp at h
  ·intro h; rw [ya1 (by omega)] at h; cases h
theorem SR.widen {G : Gh} {w : World} {st : St} {a : Act} (h : SR G w st a) (n : Nat) : SR G w { st with mem := st.mem ++ List.replicate n none } a :=
 ⟨h.memr.congr fun b x => zhj, h.len, h.tmps, h.defers⟩
theorem SR.trim {G : Gh} {w : World} {st : St} {a : Act} (h : SR G w st a) : SR G w { st with mem := trim st.mem } a :=
 ⟨h.memr.congr fun b x => zlI, h.len, h.tmps, h.defers⟩
theorem zkd {C : Oracle} (hC : OracleOK P C) {an : Ann} (hD : DrawsOK P C an) {rid : Nat} {ops : Array Oper} {draw : Bool} {st : St} {k : St → Option R} {r : R} {G0 : Gh} {w0 : World} {old : List (Option Bool)} {G : Gh} {w : World} {a : Act}
  {Q : Exit → Act → World → Prop} (h : regionA P C an rid ops draw st k = some r) (hS : SR G w st a) (hI : Inv G0 w0 old G w) (hk : ∀ st' G' w' a', k st' = some r → SR G' w' st' a' → Inv G0 w0 old G' w' → Q .normal a' w') :
  (Code.region rid ops draw).wp P Q a w := by
 cases draw with
 | true => exact hD R rid ops st k r G0 w0 old G w a Q h hS hI hk
 | false =>
  unfold regionA at h
  apply wp_region
  have := zhN (Q := Q) (G0 := G0) (w0 := w0) (old := old) hC (ops := ops) (rest := ops.toList) (i := 0) (by simp) h (hS.widen _) hI (fun st' tr' G' w' a' hk' hS' hI' => by
   rw [za] at hk'
   exact hk _ G' w' a' hk'.2 hS'.trim hI')
  rw [List.range_eq_range']
  simpa using this
theorem zmv {α : Type} {a b : Option α} {r : α} (h : amb a b = some r) : a = some r ∧ b = some r := by
 unfold amb at h
 split at h
 ·rename_i e; exact ⟨h, e ▸ h⟩
 ·cases h
theorem VR.unk_inv {G : Gh} {w : World} {v : Value} (h : VR G w (.imm true (.lit (.bool false))) v) : ∃ b, v = .bool b := by
 cases h with
 | imm _ _ _ _ hs => cases hs
 | unkB b => exact ⟨b, rfl⟩
theorem zlM {C : Oracle} (hC : OracleOK P C) {an : Ann} (hD : DrawsOK P C an) {n : Nat} {old : List (Option Bool)} {G0 : Gh} {w0 : World} : ∀ (c : Code) {bid : Nat} {st : St} {k : Ex → St → Option R} {r : R} {G : Gh} {w : World} {a : Act} {Q : Exit → Act → World → Prop},
  codeA P C an n old c bid st k = some r → SR G w st a → Inv G0 w0 old G w → (∀ e st' G' w' a', k e st' = some r → SR G' w' st' a' → Inv G0 w0 old G' w' → Q e.to a' w') → c.wp P Q a w := by
 intro c
 induction c with
 | skip => intro bid st k r G w a Q h hS hI hk; exact wp_skip (hk .normal st G w a h hS hI)
 | ret => intro bid st k r G w a Q h hS hI hk; exact wp_ret (hk .ret st G w a h hS hI)
 | exit id => intro bid st k r G w a Q h hS hI hk; exact wp_exit (hk (.exit id) st G w a h hS hI)
 | seq x y ihx ihy =>
  intro bid st k r G w a Q h hS hI hk
  simp only [codeA] at h
  refine wp_seq (ihx h hS hI fun e st' G' w' a' he hS' hI' => ?_)
  cases e with
  | normal => exact ihy he hS' hI' hk
  | exit id => exact hk (.exit id) st' G' w' a' he hS' hI'
  | ret => exact hk .ret st' G' w' a' he hS' hI'
 | cond c x y ihx ihy =>
  intro bid st k r G w a Q h hS hI hk
  simp only [codeA] at h
  split at h
  ·rename_i t ht
   have hc := (hS.eval c _ ht).lit_inv
   cases t with
   | true => exact wp_cond_true hc (ihx h hS hI hk)
   | false => exact wp_cond_false hc (ihy h hS hI hk)
  ·rename_i ht
   obtain ⟨b, hc⟩ := (hS.eval c _ ht).unk_inv
   obtain ⟨h1, h2⟩ := zmv h
   cases b with
   | true => exact wp_cond_true hc (ihx h1 hS hI hk)
   | false => exact wp_cond_false hc (ihy h2 hS hI hk)
  ·simp at h
 | block id c ih =>
  intro bid st k r G w a Q h hS hI hk
  simp only [codeA] at h
  refine wp_block (ih h hS hI fun e st' G' w' a' he hS' hI' => ?_)
  cases e with
  | normal => exact hk .normal st' G' w' a' he hS' hI'
  | ret => exact hk .ret st' G' w' a' he hS' hI'
  | exit j =>
   simp only at he
   cases hj : Nat.beq j id with
   | true =>
    rw [hj] at he; simp only [yg] at he
    obtain rfl := beqN.1 hj
    simp only [Ex.to, Exit.inBlock, if_true]
    exact hk .normal st' G' w' a' he hS' hI'
   | false =>
    rw [hj] at he; simp only [yh] at he
    have hne : ¬ j = id := fun h => by rw [beqN.2 h] at hj; cases hj
    simp only [Ex.to, Exit.inBlock, hne, if_false]
    exact hk (.exit j) st' G' w' a' he hS' hI'
 | loop c ih =>
  intro bid st k r G w a Q h hS hI hk
  simp only [codeA] at h
  rw [bind_some] at h; obtain ⟨live, hl, h⟩ := h
  refine zkF (fun m a w => ∃ st G, iterA (memN bid an.keep) old live (fun st k => codeA P C an n old c bid st k) m st k = some r ∧ SR G w st a ∧ Inv G0 w0 old G w) ⟨st, G, h, hS, hI⟩ ?_
  rintro m a w ⟨st, G, h, hS, hI⟩
  cases m with
  | zero => simp [iterA] at h
  | succ m =>
   simp only [iterA] at h
   rw [bind_some] at h; obtain ⟨st1, h1, h⟩ := h
   obtain ⟨G1, hS1, hI1⟩ := znd h1 hS hI
   refine ih h hS1 hI1 fun e st' G' w' a' he hS' hI' => ?_
   cases e with
   | normal => exact ⟨m, yw2 _, st', G', he, hS', hI'⟩
   | exit id => exact hk (.exit id) st' G' w' a' he hS' hI'
   | ret => exact hk .ret st' G' w' a' he hS' hI'
 | region rid ops draw =>
  intro bid st k r G w a Q h hS hI hk
  simp only [codeA] at h
  rw [bind_some] at h; obtain ⟨st1, h1, h⟩ := h
  obtain ⟨G1, hS1, hI1⟩ := zmJ h1 hS hI
  exact zkd hC hD h hS1 hI1 (fun st' G' w' a' he hS' hI' => hk .normal st' G' w' a' he hS' hI')
 | _ => intro bid st k r G w a Q h hS hI hk; simp [codeA] at h
def resV (tmps : Array Value) : ResultVar → Sem Value
 | .tmp t => pure (tmps.getD t undef)
 | .cell c t => do loadVar t (← asAddr (tmps.getD c undef))
theorem znb (fn : Func) (tmps : Array Value) : results fn tmps = (do let vs ← fn.results.mapM (resV tmps); pure (if h : vs.size = 1 then vs[0] else .tuple vs)) := by
 unfold results
 congr 1
theorem zeK {G : Gh} {w : World} {st : St} {a : Act} (hS : SR G w st a) : ∀ {rs : List ResultVar} {vs : List AV}, resA P st.tmps st.mem rs = some vs →
  ∃ us : List Value, LRs G w vs us ∧ (rs.mapM (resV a.tmps)).run P w = .ok us w
 | [], vs, h => by
  simp [resA] at h; subst h
  exact ⟨[], ⟨rfl, fun j y hy => by simp at hy⟩, by simp⟩
 | .tmp t :: rs, vs, h => by
  simp only [resA] at h
  rw [bind_some] at h; obtain ⟨v, hv, h⟩ := h
  obtain ⟨vs', h', rfl⟩ := yd.1 h
  obtain ⟨us, hL, hrun⟩ := zeK hS h'
  refine ⟨a.tmps.getD t undef :: us, ⟨by simp [hL.1], fun j y hy => ?_⟩, ?_⟩
  ·cases j with
   | zero => simp at hy; subst hy; exact hS.get hv
   | succ j => simpa using hL.2 j y (by simpa using hy)
  ·rw [List.mapM_cons]
   simp only [resV, Sem.run_bind, Sem.run_pure, Result.andThen_ok, hrun]
 | .cell c t :: rs, vs, h => by
  simp only [resA] at h
  rw [bind_some] at h; obtain ⟨x, hx, h⟩ := h
  rw [bind_some] at h; obtain ⟨o, ho, h⟩ := h
  obtain ⟨vs', h', rfl⟩ := yd.1 h
  obtain ⟨us, hL, hrun⟩ := zeK hS h'
  have hxr := hS.get hx
  obtain ⟨v, rd, rfl, cv, hld, hvr⟩ := zgX hS.memr ho hxr
  refine ⟨cv :: us, ⟨by simp [hL.1], fun j y hy => ?_⟩, ?_⟩
  ·cases j with
   | zero => simp at hy; subst hy; exact hvr
   | succ j => simpa using hL.2 j y (by simpa using hy)
  ·rw [List.mapM_cons]
   have : (resV a.tmps (.cell c t)).run P w = .ok cv w := by
    have hp : ∃ p, a.tmps.getD c undef = .pointer (some p) := by
     unfold loadA at ho
     split at ho
     ·generalize a.tmps.getD c undef = z at hxr; cases hxr; exact ⟨_, rfl⟩
     ·generalize a.tmps.getD c undef = z at hxr; cases hxr; exact ⟨_, rfl⟩
     ·simp at ho
    obtain ⟨p, hp⟩ := hp
    show Sem.run P (do loadVar t (← asAddr (a.tmps.getD c undef))) w = _
    rw [hp] at hld ⊢
    simpa [Instr.loadAt, Instr.sureAddr, asAddr] using hld
   simp only [Sem.run_bind, this, Result.andThen_ok, hrun, Sem.run_pure]
def namesOK (P : Program) : Bool := P.funcs.all fun fn => !(fn.name == "runtime.NumGoroutine")
theorem zfH {f : FuncId} {fn : Func} {vargs : Array Value} {w : World} (hf : P.funcs[f]? = some fn) (hn : namesOK P = true) (hb : fn.body.isSome = true) : (callFunc f vargs).run P w = .ok (.enter f vargs) w := by
 have h1 : (fn.name == "runtime.NumGoroutine") = false := by
  unfold namesOK at hn
  rw [Array.all_eq_true_iff_forall_mem] at hn
  have := hn fn (Array.mem_of_getElem? hf)
  simpa using this
 have h2 : fn.body.isNone = false := by cases h : fn.body <;> simp_all
 unfold callFunc
 simp only [Sem.run_bind, run_program, Result.andThen_ok, hf, h1, h2, yk2, if_false, Sem.run_pure]
end
end Go.Ab
end
section
namespace Go.Ab
variable [GTab]
def Ag (S : List Nat) (mem mem' : Mem) : Prop := ∀ b ∈ S, mem'[b]? = mem[b]?
theorem Ag.sub {S S' : List Nat} {mem mem' : Mem} (h : Ag S mem mem') (hs : ∀ b ∈ S', b ∈ S) : Ag S' mem mem' := fun b hb => h b (hs b hb)
theorem box?_ag {mem mem' : Mem} {b g : Nat} (h : mem'[b]? = mem[b]?) : box? mem' b g = box? mem b g := by unfold box?; rw [h]
theorem zik {mem mem' : Mem} {b : Nat} (h : mem'[b]? = mem[b]?) : genOf mem' b = genOf mem b := by unfold genOf; rw [h]
theorem zfd {α β : Type} {f f' : α → Option (Bool × β × List Nat)} : ∀ {xs : List α} {r : Bool × List β × List Nat}, foldEls f xs = some r → (∀ x q, f x = some q → (∀ b ∈ q.2.2, b ∈ r.2.2) → f' x = some q) → foldEls f' xs = some r
 | [], r, h, _ => h
 | v :: xs, r, h, hf => by
  simp only [foldEls] at h ⊢
  rw [bind_some] at h; obtain ⟨a, ha, h⟩ := h
  rw [bind_some] at h; obtain ⟨q, hq, h⟩ := h
  obtain rfl := ya h
  rw [hf v a ha (fun b hb => yq1 _ hb), zfd hq (fun x q' h1 h2 => hf x q' h1 (fun b hb => yr1 _ (h2 b hb)))]
  rfl
theorem zfS {α β γ : Type} {f f' : γ → α → Option (Bool × β × List Nat)} : ∀ {ls : List γ} {xs : List α} {r : Bool × List β × List Nat}, zipEls f ls xs = some r → (∀ l x q, f l x = some q → (∀ b ∈ q.2.2, b ∈ r.2.2) → f' l x = some q) → zipEls f' ls xs = some r
 | [], [], r, h, _ => h
 | [], v :: xs, r, h, hf => by simp [zipEls] at h
 | l :: ls, [], r, h, hf => by simp [zipEls] at h
 | l :: ls, v :: xs, r, h, hf => by
  simp only [zipEls] at h ⊢
  rw [bind_some] at h; obtain ⟨a, ha, h⟩ := h
  rw [bind_some] at h; obtain ⟨q, hq, h⟩ := h
  obtain rfl := ya h
  rw [hf l v a ha (fun b hb => yq1 _ hb), zfS hq (fun l x q' h1 h2 => hf l x q' h1 (fun b hb => yr1 _ (h2 b hb)))]
  rfl
section
variable {P : Program}
theorem zbu {k : IntKind} {b : Nat} {w : View} {r : Bool × PV × List Nat} (h : tree.treeInts k b w = some r) : b ∈ r.2.2 := by
 unfold tree.treeInts at h
 split at h
 ·rw [za] at h; obtain ⟨_, h⟩ := h; obtain rfl := ya h; simp
 ·rw [za] at h; obtain ⟨_, h⟩ := h; obtain ⟨xs, _, rfl⟩ := yd.1 h; simp
 ·simp at h
theorem zcL {f : LK → AV → Option (Bool × PV × List Nat)} {t : TypeId} {e b : Nat} {w : View} {r : Bool × PV × List Nat} (h : tree.treeSl P f t e b w = some r) : b ∈ r.2.2 := by
 unfold tree.treeSl at h
 split at h
 ·rw [za] at h; obtain ⟨_, h⟩ := h; obtain rfl := ya h; simp
 ·rw [za] at h; obtain ⟨_, h⟩ := h
  rw [bind_some] at h; obtain ⟨_, _, h⟩ := h
  obtain ⟨xs, _, rfl⟩ := yd.1 h; simp
 ·simp at h
theorem zjj {f f' : LK → AV → Option (Bool × PV × List Nat)} {t : TypeId} {e b : Nat} {w : View} {r : Bool × PV × List Nat} (h : tree.treeSl P f t e b w = some r)
  (hf : ∀ l v q, f l v = some q → (∀ b ∈ q.2.2, b ∈ r.2.2) → f' l v = some q) : tree.treeSl P f' t e b w = some r := by
 unfold tree.treeSl at h ⊢
 split at h
 ·exact h
 ·rw [za] at h ⊢; obtain ⟨hg, h⟩ := h
  refine ⟨hg, ?_⟩
  rw [bind_some] at h ⊢; obtain ⟨ls, hls, h⟩ := h
  refine ⟨ls, hls, ?_⟩
  obtain ⟨q, hq, rfl⟩ := yd.1 h
  refine yd.2 ⟨q, zfd hq (fun vs q1 h1 h2 => ?_), rfl⟩
  rw [bind_some] at h1 ⊢; obtain ⟨q2, hq2, h1⟩ := h1
  obtain ⟨p, hp, rfl⟩ := yd.1 h1
  refine ⟨q2, zfS hq2 (fun l x q' h3 h4 => hf l x q' h3 (fun b hb => yi _ (h2 b (h4 b hb)))), h1⟩
 ·simp at h
theorem zjY {mem mem' : Mem} : ∀ {n : Nat} {l : LK} {v : AV} {r : Bool × PV × List Nat}, tree P mem n l v = some r → Ag r.2.2 mem mem' → tree P mem' n l v = some r
 | 0, l, v, r, h, _ => by simp [tree] at h
 | n + 1, l, v, r, h, hA => by
  unfold tree at h ⊢
  split at h <;> try exact h
  ·rename_i k b g
   rw [bind_some] at h ⊢; obtain ⟨x, hx, h⟩ := h
   exact ⟨x, by rw [box?_ag (hA b (zbu h))]; exact hx, h⟩
  ·rename_i k b g o m
   rw [bind_some] at h ⊢; obtain ⟨x, hx, h⟩ := h
   have h' := h
   rw [bind_some] at h; obtain ⟨w, hw, h⟩ := h
   exact ⟨x, by rw [box?_ag (hA b (zbu h))]; exact hx, h'⟩
  ·rename_i t e b g
   rw [bind_some] at h ⊢; obtain ⟨x, hx, h⟩ := h
   exact ⟨x, by rw [box?_ag (hA b (zcL h))]; exact hx, zjj h (fun l v q hq hs => zjY hq (hA.sub hs))⟩
  ·rename_i t e b g o m
   rw [bind_some] at h ⊢; obtain ⟨x, hx, h⟩ := h
   rw [bind_some] at h; obtain ⟨w, hw, h⟩ := h
   refine ⟨x, by rw [box?_ag (hA b (zcL h))]; exact hx, ?_⟩
   rw [bind_some]
   exact ⟨w, hw, zjj h (fun l v q hq hs => zjY hq (hA.sub hs))⟩
variable {mem mem' : Mem}
theorem boxO?_ag {b g : Nat} (h : mem'[b]? = mem[b]?) : boxO? mem' b g = boxO? mem b g := by unfold boxO?; rw [h]
theorem zfu {b : Nat} (h : mem'[b]? = mem[b]?) : ownAt mem' b = ownAt mem b := by unfold ownAt; rw [h]
theorem zps {n b g : Nat} {l : LK} {r : Bool × PV × List Nat} (h : tree P mem n l (.msw b g) = some r) : b ∈ r.2.2 := by
 cases n with
 | zero => simp [tree] at h
 | succ n =>
  unfold tree at h
  cases l <;> simp only at h <;> first
   | (cases h; done)
   | (rw [bind_some] at h; obtain ⟨x, _, h⟩ := h; exact zbu h)
   | (rw [bind_some] at h; obtain ⟨x, _, h⟩ := h; exact zcL h)
theorem zpU {n b g o m : Nat} {l : LK} {r : Bool × PV × List Nat} (h : tree P mem n l (.ms b g o m) = some r) : b ∈ r.2.2 := by
 cases n with
 | zero => simp [tree] at h
 | succ n =>
  unfold tree at h
  cases l <;> simp only at h <;> first
   | (cases h; done)
   | (rw [bind_some] at h; obtain ⟨x, _, h⟩ := h; rw [bind_some] at h; obtain ⟨_, _, h⟩ := h; exact zbu h)
   | (rw [bind_some] at h; obtain ⟨x, _, h⟩ := h; rw [bind_some] at h; obtain ⟨_, _, h⟩ := h; exact zcL h)
theorem ziu {l : LK} {v : AV} {r : Bool × PV × List Nat} (h : treeX P mem l v = some r) (hA : Ag r.2.2 mem mem') : treeX P mem' l v = some r := by
 have hb : ∀ b g, (v = .msw b g ∨ ∃ n, v = .ms b g 0 n) → b ∈ r.2.2 := by
  intro b g hv
  unfold treeX at h
  split at h
  ·rename_i q hq
   split at h
   ·rw [za] at h; obtain ⟨_, h⟩ := h
    obtain rfl := ya h
    obtain ⟨g', x, xs, he, _⟩ := ziz hq
    rcases hv with rfl | ⟨n, rfl⟩ <;> rcases he with ⟨he, _⟩ | ⟨n', he, _⟩ <;> cases he <;> simp
   ·cases h
  ·rcases hv with rfl | ⟨n, rfl⟩
   ·exact zps h
   ·exact zpU h
 have hO : treeO mem' v = treeO mem v := by
  unfold treeO
  split
  ·rename_i b g; simp only [boxO?_ag (hA b (hb b g (.inl rfl)))]
  ·rename_i b g n; simp only [boxO?_ag (hA b (hb b g (.inr ⟨n, rfl⟩)))]
  ·rfl
 unfold treeX at h ⊢
 rw [hO]
 split at h
 ·exact h
 ·exact zjY h hA
theorem zhv {t : TypeId} {v : AV} {r : Bool × PV × List Nat} (h : toPV P mem t v = some r) (hA : Ag r.2.2 mem mem') : toPV P mem' t v = some r := by
 unfold toPV at h ⊢
 rw [bind_some] at h ⊢; obtain ⟨ls, hls, h⟩ := h
 refine ⟨ls, hls, ?_⟩
 rw [bind_some] at h ⊢; obtain ⟨q, hq, h⟩ := h
 refine ⟨q, zfS hq (fun l x q' h1 h2 => ziu h1 (hA.sub fun b hb => ?_)), h⟩
 obtain ⟨p, _, rfl⟩ := yd.1 h
 exact h2 b hb
theorem zoY {vars : Bool} {t : TypeId} {vs : List AV} {r : View × List Nat} (h : toView P vars mem t vs = some r) (hA : Ag r.2 mem mem') : toView P vars mem' t vs = some r := by
 unfold toView at h ⊢
 split at h
 ·exact h
 ·rw [bind_some] at h ⊢; obtain ⟨e, he, h⟩ := h
  refine ⟨e, he, ?_⟩
  cases vars with
  | true => exact h
  | false =>
   simp only [yh] at h ⊢
   obtain ⟨q, hq, rfl⟩ := yd.1 h
   exact yd.2 ⟨q, zfd hq (fun v q' h1 h2 => zhv h1 (hA.sub h2)), rfl⟩
theorem zdT : ∀ {ids : List Nat}, Ag ids mem mem' → frozenAt mem' ids = frozenAt mem ids
 | [], _ => rfl
 | b :: r, h => by
  have ih := zdT (ids := r) (h.sub fun b hb => yi _ hb)
  simp only [frozenAt, h b (yn ..), ih]
theorem zfE {et : TypeId} {y : AV} {v : View × List Nat} (h : view P et mem y = some v) (hA : Ag v.2 mem mem') : view P et mem' y = some v := by
 unfold view at h ⊢
 split at h <;> try exact h
 ·rename_i b g o n
  have h' := h
  rw [bind_some] at h ⊢; obtain ⟨x, hx, h⟩ := h
  obtain ⟨w, hw, rfl⟩ := yd.1 h
  exact ⟨x, by rw [box?_ag (hA b (by simp))]; exact hx, h⟩
 ·rename_i b g
  rw [bind_some] at h ⊢; obtain ⟨x, hx, h⟩ := h
  obtain rfl := ya h
  exact ⟨x, by rw [box?_ag (hA b (by simp))]; exact hx, rfl⟩
theorem zpw {t : TypeId} {x : AV} {n : Nat × List Nat} (h : lenOf P t mem x = some n) (hA : Ag n.2 mem mem') : lenOf P t mem' x = some n := by
 unfold lenOf at h ⊢
 split at h
 ·exact h
 ·split at h <;> try exact h
  rename_i b g
  obtain ⟨x, hx, rfl⟩ := yd.1 h
  exact yd.2 ⟨x, by rw [box?_ag (hA b (by simp))]; exact hx, rfl⟩
 ·simp at h
variable {out : Out}
theorem zpj {t : TypeId} {a : AV} (h : loadA P t mem a = some out) (hA : Ag out.rd mem mem') : loadA P t mem' a = some out := by
 unfold loadA at h ⊢
 split at h
 ·exact h
 ·rename_i b g i c
  rw [bind_some] at h ⊢; obtain ⟨x, hx, h⟩ := h
  refine ⟨x, ?_, h⟩
  have : b ∈ out.rd := by
   split at h
   ·rw [bind_some] at h; obtain ⟨ag, _, h⟩ := h
    cases ag with
    | true =>
     simp only [yg] at h
     rw [bind_some] at h; obtain ⟨n, _, h⟩ := h
     rw [za] at h; obtain ⟨_, h⟩ := h
     obtain rfl := ya h; simp
    | false =>
     simp only [yh] at h
     obtain ⟨v, _, rfl⟩ := yd.1 h; simp
   ·rw [za] at h; obtain ⟨_, h⟩ := h
    rw [za] at h; obtain ⟨_, h⟩ := h
    obtain ⟨v, _, rfl⟩ := yd.1 h; simp
   ·rw [bind_some] at h; obtain ⟨y, _, h⟩ := h
    obtain ⟨v, _, rfl⟩ := yd.1 h; simp
   ·cases h
  rw [box?_ag (hA b this)]; exact hx
 ·simp at h
theorem zoZ {t : TypeId} {a x : AV} (h : storeA P t mem a x = some out) (hA : Ag out.rd mem mem') : storeA P t mem' a x = some out := by
 unfold storeA at h ⊢
 split at h
 ·rename_i b g i c
  rw [bind_some] at h ⊢; obtain ⟨bx, hbx, h⟩ := h
  refine ⟨bx, ?_, ?_⟩
  ·have : b ∈ out.rd := by
    rw [bind_some] at h; obtain ⟨n, _, h⟩ := h
    rw [za] at h; obtain ⟨_, h⟩ := h
    split at h
    ·rw [za] at h; obtain ⟨_, h⟩ := h
     obtain rfl := ya h; simp
    ·split at h
     ·rw [za] at h; obtain ⟨_, h⟩ := h
      obtain rfl := ya h; simp
     ·simp at h
    ·rw [bind_some] at h; obtain ⟨p, _, h⟩ := h
     rw [bind_some] at h; obtain ⟨q, _, h⟩ := h
     rw [za] at h; obtain ⟨_, h⟩ := h
     obtain rfl := ya h; simp
    ·cases h
   rw [box?_ag (hA b this)]; exact hbx
  ·rw [bind_some] at h ⊢; obtain ⟨n, hn, h⟩ := h
   refine ⟨n, hn, ?_⟩
   rw [za] at h ⊢; obtain ⟨hg, h⟩ := h
   refine ⟨hg, ?_⟩
   split at h
   ·exact h
   ·exact h
   ·rw [bind_some] at h ⊢; obtain ⟨p, hp, h⟩ := h
    refine ⟨p, hp, ?_⟩
    rw [bind_some] at h ⊢; obtain ⟨q, hq, h⟩ := h
    have h' := h
    rw [za] at h; obtain ⟨_, h⟩ := h
    obtain rfl := ya h
    have hA' : Ag q.2.2 mem mem' := hA.sub fun b hb => yi _ hb
    exact ⟨q, zhv hq hA', by rw [zdT hA']; exact h'⟩
   ·exact h
 ·simp at h
theorem zou {t : TypeId} {x : AV} {i : Int} (h : indexA P t mem x i = some out) (hA : Ag out.rd mem mem') : indexA P t mem' x i = some out := by
 unfold indexA at h ⊢
 split at h
 ·rw [bind_some] at h ⊢; obtain ⟨s, hs, h⟩ := h
  refine ⟨s, hs, ?_⟩
  split at h <;> try exact h
  ·rename_i b g o n
   rw [bind_some] at h ⊢; obtain ⟨bx, hbx, h⟩ := h
   refine ⟨bx, ?_, h⟩
   rw [za] at h; obtain ⟨_, h⟩ := h
   obtain rfl := ya h
   rw [box?_ag (hA b (by simp))]; exact hbx
  ·rename_i b g
   rw [bind_some] at h ⊢; obtain ⟨bx, hbx, h⟩ := h
   refine ⟨bx, ?_, h⟩
   rw [za] at h; obtain ⟨_, h⟩ := h
   obtain rfl := ya h
   rw [box?_ag (hA b (by simp))]; exact hbx
 ·exact h
 ·simp at h
theorem zpg {t : TypeId} {x : AV} {lo hi mx : Option Int} (h : sliceA P t mem x lo hi mx = some out) (hA : Ag out.rd mem mem') : sliceA P t mem' x lo hi mx = some out := by
 unfold sliceA at h ⊢
 split at h
 ·exact h
 ·rw [bind_some] at h ⊢; obtain ⟨s, hs, h⟩ := h
  refine ⟨s, hs, ?_⟩
  split at h <;> try exact h
  ·rename_i b g o n
   rw [bind_some] at h ⊢; obtain ⟨bx, hbx, h⟩ := h
   refine ⟨bx, ?_, h⟩
   rw [za] at h; obtain ⟨_, h⟩ := h
   obtain ⟨q, _, rfl⟩ := yd.1 h
   rw [box?_ag (hA b (by simp))]; exact hbx
  ·rename_i b g
   rw [bind_some] at h ⊢; obtain ⟨bx, hbx, h⟩ := h
   refine ⟨bx, ?_, h⟩
   rw [za] at h; obtain ⟨_, h⟩ := h
   obtain ⟨q, _, rfl⟩ := yd.1 h
   rw [box?_ag (hA b (by simp))]; exact hbx
 ·rw [bind_some] at h ⊢; obtain ⟨s, hs, h⟩ := h
  refine ⟨s, hs, ?_⟩
  split at h
  ·rename_i b g c
   rw [za] at h ⊢; obtain ⟨hg, h⟩ := h
   refine ⟨hg, ?_⟩
   rw [bind_some] at h ⊢; obtain ⟨bx, hbx, h⟩ := h
   refine ⟨bx, ?_, h⟩
   split at h
   ·rw [za] at h; obtain ⟨_, h⟩ := h
    obtain ⟨q, _, rfl⟩ := yd.1 h
    rw [box?_ag (hA b (by simp))]; exact hbx
   ·simp at h
  ·simp at h
 ·simp at h
theorem zmO {boxed vars : Bool} {t tx : TypeId} {rs : Nat} {x y : AV} (h : appendA P boxed vars t tx mem rs x y = some out) (hA : Ag out.rd mem mem') : appendA P boxed vars t tx mem' rs x y = some out := by
 unfold appendA at h ⊢
 rw [bind_some] at h ⊢; obtain ⟨et, het, h⟩ := h; refine ⟨et, het, ?_⟩
 rw [bind_some] at h ⊢; obtain ⟨s, hs, h⟩ := h; refine ⟨s, hs, ?_⟩
 rw [bind_some] at h ⊢; obtain ⟨bytes, hby, h⟩ := h; refine ⟨bytes, hby, ?_⟩
 rw [bind_some] at h ⊢; obtain ⟨z, hz, h⟩ := h; refine ⟨z, hz, ?_⟩
 rw [bind_some] at h ⊢; obtain ⟨yv, hyv, h⟩ := h
 have h0 := h
 rw [za] at h; obtain ⟨hg, h⟩ := h
 split at h
 ·refine ⟨yv, ?_, h0⟩
  rw [za] at h; obtain ⟨_, h⟩ := h
  refine zfE hyv (hA.sub fun b hb => ?_)
  cases boxed with
  | true => simp only [yg] at h; obtain ⟨row, _, rfl⟩ := yd.1 h; exact hb
  | false => simp only [yh] at h; obtain ⟨v, _, rfl⟩ := yd.1 h; exact hb
 ·rename_i b g
  have h1 := h
  rw [bind_some] at h; obtain ⟨bx, hbx, h⟩ := h
  have h2 := h
  rw [bind_some] at h; obtain ⟨zv, _, h⟩ := h
  rw [za] at h; obtain ⟨_, h⟩ := h
  obtain rfl := ya h
  refine ⟨yv, zfE hyv (hA.sub fun b hb => yi _ hb), ?_⟩
  rw [za]
  refine ⟨hg, ?_⟩
  rw [bind_some]
  exact ⟨bx, by rw [box?_ag (hA b (yn ..))]; exact hbx, h2⟩
 ·rename_i b g n
  have h1 := h
  rw [bind_some] at h; obtain ⟨bx, hbx, h⟩ := h
  have h2 := h
  rw [bind_some] at h; obtain ⟨xv, _, h⟩ := h
  rw [bind_some] at h; obtain ⟨zv, _, h⟩ := h
  rw [za] at h; obtain ⟨_, h⟩ := h
  obtain rfl := ya h
  refine ⟨yv, zfE hyv (hA.sub fun b hb => yi _ hb), ?_⟩
  rw [za]
  refine ⟨hg, ?_⟩
  rw [bind_some]
  exact ⟨bx, by rw [box?_ag (hA b (yn ..))]; exact hbx, h2⟩
 ·simp at h
theorem zpH {t tx : TypeId} {rs : Nat} {n : Int} (h : zappA P t tx mem rs n = some out) : zappA P t tx mem' rs n = some out := by
 unfold zappA at h ⊢
 split at h
 ·rw [bind_some] at h ⊢; obtain ⟨et, het, h⟩ := h
  refine ⟨et, het, ?_⟩
  rw [bind_some] at h ⊢; obtain ⟨z, hz, h⟩ := h
  refine ⟨z, hz, ?_⟩
  split at h
  ·rw [bind_some] at h ⊢; obtain ⟨q, hq, h⟩ := h
   have h1 := h
   rw [bind_some] at h; obtain ⟨e, _, h⟩ := h
   rw [bind_some] at h; obtain ⟨bytes, _, h⟩ := h
   rw [za] at h
   have hg := h.1
   simp only [yb] at hg
   exact ⟨q, zhv hq (by rw [zbO hg.2.2]; exact fun b hb => by cases hb), h1⟩
  ·cases h
 ·cases h
theorem zkQ {boxed vars : Bool} {b : Builtin} {ts : List TypeId} {rs : Nat} {args : List AV} (h : builtinA P boxed vars b ts mem rs args = some out) (hA : Ag out.rd mem mem') : builtinA P boxed vars b ts mem' rs args = some out := by
 unfold builtinA at h ⊢
 split at h
 ·obtain ⟨n, hn, rfl⟩ := yd.1 h
  exact yd.2 ⟨n, zpw hn hA, rfl⟩
 ·exact zpH h
 ·exact zmO h hA
 ·exact h
 ·exact h
 ·exact h
 ·simp at h
theorem zlF {boxed : Bool} {src dst : TypeId} {rs : Nat} {x : AV} (h : convertA P boxed src dst mem rs x = some out) (hA : Ag out.rd mem mem') : convertA P boxed src dst mem' rs x = some out := by
 unfold convertA at h ⊢
 split at h
 ·exact h
 ·exact h
 ·split at h
  ·rw [bind_some] at h ⊢; obtain ⟨v, hv, h⟩ := h
   refine ⟨v, zfE hv ?_, h⟩
   rw [za] at h; obtain ⟨_, h⟩ := h
   split at h
   ·obtain rfl := ya h; exact hA
   ·simp at h
  ·exact h
 ·split at h
  ·rw [za] at h ⊢; obtain ⟨hg, h⟩ := h; refine ⟨hg, ?_⟩
   rw [bind_some] at h ⊢; obtain ⟨x, hx, h⟩ := h
   refine ⟨x, ?_, h⟩
   rw [za] at h; obtain ⟨_, h⟩ := h
   obtain rfl := ya h
   rw [box?_ag (hA _ (by simp))]; exact hx
  ·exact h
 ·simp at h
theorem zdO {l : LK} {v : AV} {r : AV × List Nat} (h : lendLeaf P mem l v = some r) (hA : Ag r.2 mem mem') : lendLeaf P mem' l v = some r := by
 unfold lendLeaf at h ⊢
 split at h
 ·obtain ⟨q, hq, rfl⟩ := yd.1 h
  exact yd.2 ⟨q, ziu hq hA, rfl⟩
 ·obtain ⟨q, hq, rfl⟩ := yd.1 h
  exact yd.2 ⟨q, ziu hq hA, rfl⟩
 ·exact h
theorem zfM : ∀ {ls : List LK} {vs : List AV} {r : List AV × List Nat}, lendCells P mem ls vs = some r → Ag r.2 mem mem' → lendCells P mem' ls vs = some r
 | [], [], r, h, _ => h
 | [], v :: vs, r, h, _ => by simp [lendCells] at h
 | l :: ls, [], r, h, _ => by simp [lendCells] at h
 | l :: ls, v :: vs, r, h, hA => by
  simp only [lendCells] at h ⊢
  rw [bind_some] at h; obtain ⟨a, ha, h⟩ := h
  rw [bind_some] at h; obtain ⟨b, hb, h⟩ := h
  obtain rfl := ya h
  rw [zdO ha (hA.sub fun b hb => yq1 _ hb), zfM hb (hA.sub fun b hb => yr1 _ hb)]
  rfl
theorem zqd {t : TypeId} {v : AV} {r : AV × List Nat} (h : lend P mem t v = some r) (hA : Ag r.2 mem mem') : lend P mem' t v = some r := by
 unfold lend at h ⊢
 split at h
 ·rw [bind_some] at h ⊢; obtain ⟨l, hl, h⟩ := h
  exact ⟨l, hl, zdO h hA⟩
 ·rw [bind_some] at h ⊢; obtain ⟨l, hl, h⟩ := h
  exact ⟨l, hl, zdO h hA⟩
 ·rename_i cs
  cases hms : hasMs cs with
  | true =>
   rw [hms] at h; simp only [yg] at h ⊢
   rw [bind_some] at h ⊢; obtain ⟨ls, hls, h⟩ := h
   refine ⟨ls, hls, ?_⟩
   obtain ⟨q, hq, rfl⟩ := yd.1 h
   exact yd.2 ⟨q, zfM hq hA, rfl⟩
  | false => rw [hms] at h; exact h
 ·exact h
theorem zip : ∀ {ts : List TypeId} {vs : List AV} {r : List AV × List Nat}, lendAll P mem ts vs = some r → Ag r.2 mem mem' → lendAll P mem' ts vs = some r
 | [], [], r, h, _ => h
 | [], v :: vs, r, h, _ => by simp [lendAll] at h
 | t :: ts, [], r, h, _ => by simp [lendAll] at h
 | t :: ts, v :: vs, r, h, hA => by
  simp only [lendAll] at h ⊢
  rw [bind_some] at h; obtain ⟨a, ha, h⟩ := h
  rw [bind_some] at h; obtain ⟨b, hb, h⟩ := h
  obtain rfl := ya h
  rw [zqd ha (hA.sub fun b hb => yq1 _ hb), zip hb (hA.sub fun b hb => yr1 _ hb)]
  rfl
theorem zgx : ∀ {n : Nat} {todo seen : List Nat}, ∀ b ∈ seen, b ∈ reach mem n todo seen
 | 0, todo, seen, b, hb => by simpa [reach] using hb
 | n + 1, [], seen, b, hb => by simpa [reach] using hb
 | n + 1, t :: todo, seen, b, hb => by
  simp only [reach]
  cases memN t seen with
  | true => simp only [yg]; exact zgx b hb
  | false => simp only [yh]; exact zgx b (yq1 _ hb)
theorem zin : ∀ {n : Nat} {todo seen : List Nat}, Ag (reach mem n todo seen) mem mem' → reach mem' n todo seen = reach mem n todo seen
 | 0, todo, seen, _ => by simp [reach]
 | n + 1, [], seen, _ => by simp [reach]
 | n + 1, t :: todo, seen, hA => by
  simp only [reach] at hA ⊢
  cases hm : memN t seen with
  | true => rw [hm] at hA; simp only [yg] at hA ⊢; exact zin hA
  | false =>
   rw [hm] at hA; simp only [yh] at hA ⊢
   have ht : mem'[t]? = mem[t]? := hA t (zgx t (by simp))
   have : refsAt mem' t = refsAt mem t := by unfold refsAt; rw [ht]
   rw [this]
   exact zin hA
theorem zig : ∀ {ids : List Nat} {b n : Nat}, b ∉ ids → idx b ids n = none
 | [], b, n, _ => rfl
 | m :: r, b, n, h => by
  simp only [idx]
  cases hb : Nat.beq m b with
  | true => exact absurd (by rw [beqN.1 hb]; exact yn ..) h
  | false => simp only [yh]; exact zig fun hh => h (yi _ hh)
theorem znH {b : Nat} (h : mem'[b]? = mem[b]?) : cellsAt mem' b = cellsAt mem b := by unfold cellsAt; rw [h]
theorem zpF {m : Nat} {keep : Bool} {ids : List Nat} (hA : Ag ids mem mem') : renTo m keep mem' ids = renTo m keep mem ids := by
 funext b g
 by_cases hb : b ∈ ids
 ·unfold renTo; rw [zik (hA b hb), znH (hA b hb)]
 ·have hi : idx b ids 0 = none := zig hb
  have : ∀ mm : Mem, renTo m keep mm ids b g = none := by
   intro mm
   unfold renTo
   split
   ·rw [hi]; cases Nat.beq _ g <;> rfl
   ·rfl
  rw [this, this]
theorem zib {m : Nat} {keep : Bool} (f : Ren) : ∀ {ids : List Nat} {n : Nat}, Ag ids mem mem' → pickMem m keep f mem' n ids = pickMem m keep f mem n ids
 | [], _, _ => rfl
 | b :: r, n, h => by
  simp only [pickMem, h b (yn ..), zib f (ids := r) (h.sub fun b hb => yi _ hb)]
theorem zcW (f : Ren) : ∀ {ids : List Nat} {q : Mem}, Ag ids mem mem' → backBoxes f mem' ids q = backBoxes f mem ids q
 | [], q, _ => by simp [backBoxes]
 | a :: ids, [], _ => by simp [backBoxes]
 | a :: ids, none :: q, h => by simp only [backBoxes]; exact zcW f (h.sub fun b hb => yi _ hb)
 | a :: ids, some x :: q, h => by
  simp only [backBoxes, zik (h a (yn ..)), zcW f (ids := ids) (q := q) (h.sub fun b hb => yi _ hb)]
theorem znB {sub : Mem} {ids : List Nat} (hl : mem'.length = mem.length) (hA : Ag ids mem mem') : renBack mem' sub ids = renBack mem sub ids := by
 funext b g
 unfold renBack
 cases ha : ids[b]? with
 | none => simp only [hl]
 | some a => simp only [zik (hA a (yj ha))]
theorem zpI {keep : Bool} {ts : List TypeId} {vs : List AV} {r : List AV × List Nat} (h : lends P keep mem ts vs = some r) (hA : Ag r.2 mem mem') : lends P keep mem' ts vs = some r := by
 cases keep with
 | true => exact h
 | false => exact zip h hA
theorem zpL {C : Oracle} {raw keep : Bool} {g : FuncId} {ts : List TypeId} {fi args ca : List AV} (hl : mem'.length = mem.length) (h : callA P C raw keep g ts fi args ca mem = some out) (hA : Ag out.rd mem mem') : callA P C raw keep g ts fi args ca mem' = some out := by
 unfold callA at h ⊢
 rw [bind_some] at h ⊢; obtain ⟨la, hla, h⟩ := h
 simp only at h
 have hrd : out.rd = la.2 ++ reach mem (reachFuel mem (AV.refsAll (fi ++ la.1 ++ ca)).length) (AV.refsAll (fi ++ la.1 ++ ca)) [] := by
  rw [za] at h; obtain ⟨_, h⟩ := h
  rw [bind_some] at h; obtain ⟨q, _, h⟩ := h
  rw [za] at h; obtain ⟨_, h⟩ := h
  revert h
  cases (allLt (reach mem (reachFuel mem (AV.refsAll (fi ++ la.1 ++ ca)).length) (AV.refsAll (fi ++ la.1 ++ ca)) []).length
    (bif raw then q.1 else frzRes (reach mem (reachFuel mem (AV.refsAll (fi ++ la.1 ++ ca)).length) (AV.refsAll (fi ++ la.1 ++ ca)) []).length q.2 q.1).refs &&
     allLt (reach mem (reachFuel mem (AV.refsAll (fi ++ la.1 ++ ca)).length) (AV.refsAll (fi ++ la.1 ++ ca)) []).length
      (memRefs (List.take (reach mem (reachFuel mem (AV.refsAll (fi ++ la.1 ++ ca)).length) (AV.refsAll (fi ++ la.1 ++ ca)) []).length q.2))) with
  | true => intro h; simp only [yg] at h; obtain rfl := ya h; rfl
  | false => intro h; simp only [yh] at h; obtain rfl := ya h; rfl
 rw [hrd] at hA
 refine ⟨la, zpI hla (hA.sub fun b hb => yq1 _ hb), ?_⟩
 have hfuel : ∀ n, reachFuel mem' n = reachFuel mem n := fun n => by unfold reachFuel; rw [hl]
 have hA' := hA.sub (S' := reach mem (reachFuel mem (AV.refsAll (fi ++ la.1 ++ ca)).length) (AV.refsAll (fi ++ la.1 ++ ca)) []) fun b hb => yr1 _ hb
 simp only [hfuel, zin hA', zpF hA', zib _ hA', znB hl hA', zcW _ hA']
 exact h
theorem zqt {C : Oracle} {boxed raw vars : Bool} {o : Oper} {ρ : Operand → Option AV} {rs : Nat} (hl : isCallOp o = true → mem'.length = mem.length) (h : opA P C boxed raw vars o ρ mem rs = some out) (hA : Ag out.rd mem mem') :
  opA P C boxed raw vars o ρ mem' rs = some out := by
 unfold opA opPick opAlloc opBox opBuild opBuildSlice opStore opNil opBin opUn opFunc opMake opSlice opFieldAddr opField opIndex opExtract opCall at h ⊢
 split at h <;> rename_i hop <;> try exact h
 ·rw [bind_some] at h ⊢; obtain ⟨et, het, h⟩ := h; refine ⟨et, het, ?_⟩
  rw [bind_some] at h ⊢; obtain ⟨z, hz, h⟩ := h; refine ⟨z, hz, ?_⟩
  rw [bind_some] at h ⊢; obtain ⟨s, hs, h⟩ := h; refine ⟨s, hs, ?_⟩
  rw [bind_some] at h ⊢; obtain ⟨ps, hps, h⟩ := h; refine ⟨ps, hps, ?_⟩
  rw [za] at h ⊢; obtain ⟨hg, h⟩ := h; refine ⟨hg, ?_⟩
  rw [bind_some] at h ⊢; obtain ⟨wv, hwv, h⟩ := h
  have h' := h
  rw [za] at h; obtain ⟨_, h⟩ := h
  obtain ⟨ov, _, rfl⟩ := yd.1 h
  exact ⟨wv, zoY hwv hA, by rw [zdT hA]; exact h'⟩
 ·rw [bind_some] at h ⊢; obtain ⟨a, ha, h⟩ := h
  exact ⟨a, ha, zpj h hA⟩
 ·rw [bind_some] at h ⊢; obtain ⟨a, ha, h⟩ := h; refine ⟨a, ha, ?_⟩
  rw [bind_some] at h ⊢; obtain ⟨x, hx, h⟩ := h
  exact ⟨x, hx, zoZ h hA⟩
 ·rw [bind_some] at h ⊢; obtain ⟨a, ha, h⟩ := h
  exact ⟨a, ha, zlF h hA⟩
 ·rw [bind_some] at h ⊢; obtain ⟨et, het, h⟩ := h; refine ⟨et, het, ?_⟩
  rw [bind_some] at h ⊢; obtain ⟨z, hz, h⟩ := h; refine ⟨z, hz, ?_⟩
  rw [bind_some] at h ⊢; obtain ⟨l, hl', h⟩ := h; refine ⟨l, hl', ?_⟩
  rw [bind_some] at h ⊢; obtain ⟨c, hc, h⟩ := h; refine ⟨c, hc, ?_⟩
  split at h
  ·rw [za] at h ⊢; obtain ⟨hg, h⟩ := h; refine ⟨hg, ?_⟩
   split at h
   ·exact h
   ·rw [bind_some] at h ⊢; obtain ⟨q, hq, h⟩ := h
    refine ⟨q, ?_, h⟩
    rw [bind_some] at h; obtain ⟨e, _, h⟩ := h
    rw [bind_some] at h; obtain ⟨bytes, _, h⟩ := h
    rw [za] at h; obtain ⟨hg, h⟩ := h
    simp only [yb] at hg
    have : q.2.2 = [] := zbO hg.2
    exact zhv hq (by rw [this]; intro b hb; cases hb)
  ·exact h
 ·rw [bind_some] at h ⊢; obtain ⟨x, hx, h⟩ := h; refine ⟨x, hx, ?_⟩
  rw [bind_some] at h ⊢; obtain ⟨lo, hlo, h⟩ := h; refine ⟨lo, hlo, ?_⟩
  rw [bind_some] at h ⊢; obtain ⟨hi, hhi, h⟩ := h; refine ⟨hi, hhi, ?_⟩
  rw [bind_some] at h ⊢; obtain ⟨mx, hmx, h⟩ := h
  exact ⟨mx, hmx, zpg h hA⟩
 ·rw [bind_some] at h ⊢; obtain ⟨x, hx, h⟩ := h; refine ⟨x, hx, ?_⟩
  rw [bind_some] at h ⊢; obtain ⟨ix, hix, h⟩ := h; refine ⟨ix, hix, ?_⟩
  split at h
  ·exact zou h hA
  ·exact h
 ·rename_i c
  rw [bind_some] at h ⊢; obtain ⟨args, hargs, h⟩ := h; refine ⟨args, hargs, ?_⟩
  split at h
  ·exact zkQ h hA
  ·rename_i f hc
   rw [bind_some] at h ⊢; obtain ⟨fv, hf, h⟩ := h; refine ⟨fv, hf, ?_⟩
   split at h
   ·exact zpL (hl (by unfold isCallOp; rw [hop]; simp only; rw [hc])) h hA
   ·exact h
  ·exact h
theorem zbD {ρ ρ' : Operand → Option AV} : ∀ {xs : List Operand}, (∀ x ∈ xs, ρ' x = ρ x) → allA ρ' xs = allA ρ xs
 | [], _ => rfl
 | x :: r, h => by simp only [allA, h x (yn ..), zbD (xs := r) (fun y hy => h y (yi _ hy))]
theorem zbs {ρ ρ' : Operand → Option AV} : ∀ {xs : List (Nat × Operand)}, (∀ x ∈ xs.map (·.2), ρ' x = ρ x) → partsA ρ' xs = partsA ρ xs
 | [], _ => rfl
 | (i, x) :: r, h => by simp only [partsA, h x (by simp), zbs (xs := r) (fun y hy => h y (yi _ hy))]
theorem zaY {ρ ρ' : Operand → Option AV} {x : Option Operand} (h : ∀ y, x = some y → ρ' y = ρ y) : optA ρ' x = optA ρ x := by
 cases x with
 | none => rfl
 | some y => simp only [optA, h y rfl]
theorem zqa {C : Oracle} {boxed raw vars : Bool} {o : Oper} {ρ ρ' : Operand → Option AV} {rs : Nat} (h : ∀ x ∈ o.op.operands, ρ' x = ρ x) : opA P C boxed raw vars o ρ' mem rs = opA P C boxed raw vars o ρ mem rs := by
 obtain ⟨dst, op, type, pos, after, guard⟩ := o
 cases op <;> simp only [Op.operands] at h <;> simp only [opA, opPick, opAlloc, opBox, opBuild, opBuildSlice, opStore, opNil, opBin, opUn, opFunc, opMake, opSlice, opFieldAddr, opField, opIndex, opIndexV, opExtract, opCall]
 case move x => simp only [opMove, h x (by simp)]
 case assign x => simp only [opMove, h x (by simp)]
 case build t ps => rw [zbs (fun x hx => h x (by simpa using hx))]
 case buildSlice t n ps => rw [zbs (fun x hx => h x (by simpa using hx))]
 case makeFunc fn first captured =>
  rw [zbD (xs := first.toList) fun x hx => h x (by simp at hx ⊢; exact .inl hx), zbD (xs := captured.toList) fun x hx => h x (by simp at hx ⊢; exact .inr hx)]
 case slice t x lo hi mx =>
  rw [h x (by simp), zaY (x := lo) fun y hy => h y (by simp [hy]), zaY (x := hi) fun y hy => h y (by simp [hy]), zaY (x := mx) fun y hy => h y (by simp [hy])]
 case call c =>
  obtain ⟨cal, args, ts⟩ := c
  simp only [Call.operands] at h
  rw [zbD (xs := args.toList) fun x hx => h x (by simp at hx ⊢; exact .inr hx)]
  cases cal with
  | builtin b => rfl
  | value f => simp only [h f (by simp)]
  | invoke r m => rfl
 all_goals (first | rfl | (simp_all; done))
theorem zmp {xs : List PV} {i c : Nat} {l : LK} {hs : List (Nat × Nat × AV)} {nb nb' : Nat} : readO false xs i c l hs nb = readO false xs i c l hs nb' := by
 unfold readO
 cases xs[i]? with
 | none => rfl
 | some p =>
  simp only [yc]
  cases p.cells[c]? with
  | none => rfl
  | some y =>
   simp only [yc]
   split
   ·rfl
   ·cases flatLK l <;> rfl
theorem zjy {xs : List PV} {i : Nat} : ∀ {ls : List LK} {c : Nat} {hs : List (Nat × Nat × AV)} {nb nb' : Nat}, readsO false xs i ls c hs nb = readsO false xs i ls c hs nb'
 | [], c, hs, nb, nb' => rfl
 | l :: ls, c, hs, nb, nb' => by
  simp only [readsO]
  rw [zmp (nb' := nb')]
  cases readO false xs i c l hs nb' with
  | none => rfl
  | some a => simp only [yc]; rw [zjy (ls := ls) (nb := nb + a.2.2.length) (nb' := nb' + a.2.2.length)]
theorem zlH {b e : Nat} {bx : Box} {xs : List PV} {v : AV} {q : List (Nat × Nat × AV) × List Row} : (tookO b e bx xs v q).rd = [b] := by unfold tookO; split <;> rfl
theorem zlw {t : TypeId} {a : AV} (h : loadO P false t mem a = some out) (hA : Ag out.rd mem mem') : loadO P false t mem' a = some out ∧ ∀ b g i c, a = .ptr b g i c → b ∈ out.rd := by
 unfold loadO at h ⊢
 split at h
 ·rename_i b g i c
  rw [bind_some] at h; obtain ⟨bx, hbx, h⟩ := h
  have key : b ∈ out.rd := by
   split at h
   ·split at h
    ·rw [bind_some] at h; obtain ⟨l, hl, h⟩ := h
     obtain ⟨q, hq, rfl⟩ := yd.1 h
     rw [zlH]; simp
    ·rw [bind_some] at h; obtain ⟨ls, hls, h⟩ := h
     rw [bind_some] at h; obtain ⟨n, hn, h⟩ := h
     rw [za] at h; obtain ⟨_, h⟩ := h
     obtain ⟨q, hq, rfl⟩ := yd.1 h
     rw [zlH]; simp
    ·cases h
   ·cases h
  refine ⟨?_, fun b' g' i' c' he => by cases he; exact key⟩
  rw [boxO?_ag (hA b key), hbx, yc]
  split at h
  ·split at h
   ·simp only [zmp (nb := mem'.length) (nb' := mem.length)]; exact h
   ·simp only [zjy (nb := mem'.length) (nb' := mem.length)]; exact h
   ·exact h
  ·exact h
 ·cases h
theorem zoI {t : TypeId} {a x : AV} (h : storeO P t mem a x = some out) (hA : Ag out.rd mem mem') : storeO P t mem' a x = some out ∧ ∀ b g i c, a = .ptr b g i c → b ∈ out.rd := by
 unfold storeO at h ⊢
 split at h
 ·rename_i b g i c
  rw [bind_some] at h; obtain ⟨bx, hbx, h⟩ := h
  have key : b ∈ out.rd := by
   split at h
   ·rw [bind_some] at h; obtain ⟨n, hn, h⟩ := h
    rw [za] at h; obtain ⟨_, h⟩ := h
    rw [bind_some] at h; obtain ⟨p, _, h⟩ := h
    rw [bind_some] at h; obtain ⟨y, _, h⟩ := h
    split at h
    ·rw [za] at h; obtain ⟨_, h⟩ := h; obtain rfl := ya h; simp
    ·cases h
    ·rw [bind_some] at h; obtain ⟨y', _, h⟩ := h
     obtain ⟨hs', _, rfl⟩ := yd.1 h; simp
    ·cases h
    ·obtain ⟨hs', _, rfl⟩ := yd.1 h; simp
   ·cases h
  refine ⟨?_, fun b' g' i' c' he => by cases he; exact key⟩
  rw [boxO?_ag (hA b key), hbx, yc]; exact h
 ·cases h
theorem zpX {t : TypeId} {x : AV} (h : lenO P t mem x = some out) (hA : Ag out.rd mem mem') : lenO P t mem' x = some out ∧ ∀ b g, x = .msw b g → b ∈ out.rd := by
 unfold lenO at h ⊢
 split at h
 ·rename_i e b g hu
  obtain ⟨bx, hbx, rfl⟩ := yd.1 h
  refine ⟨?_, fun b' g' he => by cases he; simp⟩
  rw [boxO?_ag (hA b (by simp)), hbx]; rfl
 ·cases h
def slBox : AV → Option Nat
 | .msw b _ => some b
 | .ms b _ _ _ => some b
 | _ => none
theorem zoV {t : TypeId} {x : AV} {i : Int} (h : indexO P t mem x i = some out) (hA : Ag out.rd mem mem') : indexO P t mem' x i = some out ∧ ∀ b, slBox x = some b → b ∈ out.rd := by
 unfold indexO at h ⊢
 split at h
 ·rw [bind_some] at h; obtain ⟨s, hs, h⟩ := h
  simp only [hs, yc]
  split at h
  ·rename_i b g o n
   rw [bind_some] at h; obtain ⟨bx, hbx, h⟩ := h
   have h' := h
   rw [za] at h; obtain ⟨_, h⟩ := h
   obtain rfl := ya h
   refine ⟨?_, fun b' he => by cases he; simp⟩
   rw [boxO?_ag (hA b (by simp)), hbx]; exact h'
  ·rename_i b g
   rw [bind_some] at h; obtain ⟨bx, hbx, h⟩ := h
   have h' := h
   rw [za] at h; obtain ⟨_, h⟩ := h
   obtain rfl := ya h
   refine ⟨?_, fun b' he => by cases he; simp⟩
   rw [boxO?_ag (hA b (by simp)), hbx]; exact h'
  ·cases h
 ·cases h
theorem zoR {t : TypeId} {x : AV} {lo hi mx : Option Int} (h : sliceO P t mem x lo hi mx = some out) (hA : Ag out.rd mem mem') : sliceO P t mem' x lo hi mx = some out ∧ ∀ b, slBox x = some b → b ∈ out.rd := by
 unfold sliceO at h ⊢
 split at h
 ·rw [bind_some] at h; obtain ⟨s, hs, h⟩ := h
  simp only [hs, yc]
  split at h
  ·rename_i b g o n
   rw [bind_some] at h; obtain ⟨bx, hbx, h⟩ := h
   have h' := h
   rw [za] at h; obtain ⟨_, h⟩ := h
   obtain ⟨q, _, rfl⟩ := yd.1 h
   refine ⟨?_, fun b' he => by cases he; simp⟩
   rw [boxO?_ag (hA b (by simp)), hbx]; exact h'
  ·rename_i b g
   rw [bind_some] at h; obtain ⟨bx, hbx, h⟩ := h
   have h' := h
   rw [za] at h; obtain ⟨_, h⟩ := h
   obtain ⟨q, _, rfl⟩ := yd.1 h
   refine ⟨?_, fun b' he => by cases he; simp⟩
   rw [boxO?_ag (hA b (by simp)), hbx]; exact h'
  ·cases h
 ·cases h
theorem zmI {own : Bool} {t tx : TypeId} {rs : Nat} {x y : AV} (h : appendO P own t tx mem rs x y = some out) (hA : Ag out.rd mem mem') : appendO P own t tx mem' rs x y = some out ∧ ∀ b, slBox x = some b → b ∈ out.rd := by
 unfold appendO at h ⊢
 rw [bind_some] at h; obtain ⟨et, het, h⟩ := h
 rw [bind_some] at h; obtain ⟨s, hs, h⟩ := h
 rw [bind_some] at h; obtain ⟨bytes, hby, h⟩ := h
 rw [bind_some] at h; obtain ⟨z, hz, h⟩ := h
 rw [bind_some] at h; obtain ⟨ls, hls, h⟩ := h
 rw [bind_some] at h; obtain ⟨yv, hyv, h⟩ := h
 simp only [het, hs, hby, hz, hls, yc]
 have key : (∀ b ∈ yv.2, b ∈ out.rd) ∧ ∀ b, slBox x = some b → b ∈ out.rd := by
  split at h
  ·rw [za] at h; obtain ⟨_, h⟩ := h
   split at h
   ·rw [za] at h; obtain ⟨_, h⟩ := h
    rw [bind_some] at h; obtain ⟨q, _, h⟩ := h
    rw [za] at h; obtain ⟨_, h⟩ := h
    obtain rfl := ya h
    exact ⟨fun b hb => hb, fun b hb => by cases hb⟩
   ·rw [bind_some] at h; obtain ⟨bx, _, h⟩ := h
    split at h
    ·rw [bind_some] at h; obtain ⟨q, _, h⟩ := h
     rw [za] at h; obtain ⟨_, h⟩ := h
     obtain rfl := ya h
     exact ⟨fun b hb => yi _ hb, fun b hb => by cases hb; simp⟩
    ·cases h
   ·rw [bind_some] at h; obtain ⟨bx, _, h⟩ := h
    split at h
    ·rw [bind_some] at h; obtain ⟨q, _, h⟩ := h
     rw [za] at h; obtain ⟨_, h⟩ := h
     obtain rfl := ya h
     exact ⟨fun b hb => yi _ hb, fun b hb => by cases hb; simp⟩
    ·cases h
   ·cases h
  ·cases h
 refine ⟨?_, key.2⟩
 rw [zfE hyv (hA.sub key.1), yc]
 split at h
 ·rw [za] at h ⊢; obtain ⟨hg, h⟩ := h
  refine ⟨hg, ?_⟩
  split at h
  ·exact h
  ·rename_i b g
   rw [boxO?_ag (hA b (key.2 b rfl))]; exact h
  ·rename_i b g n
   rw [boxO?_ag (hA b (key.2 b rfl))]; exact h
  ·exact h
 ·exact h
theorem zaE {ρ : Operand → Option AV} {p p' : AV → Bool} {x : Operand} {v : AV} (hv : ρ x = some v) (h : p' v = p v) : askO ρ p' x = askO ρ p x := by unfold askO; rw [hv]; exact h
theorem zhs {v : AV} (h : ∀ b g i c, v = .ptr b g i c → mem'[b]? = mem[b]?) : ownP mem' v = ownP mem v := by
 cases v with
 | ptr b g i c => exact zfu (h b g i c rfl)
 | _ => rfl
theorem zen {v : AV} (h : ∀ b, slBox v = some b → mem'[b]? = mem[b]?) : ownS mem' v = ownS mem v := by
 cases v with
 | msw b g => exact zfu (h b rfl)
 | ms b g o n => exact zfu (h b rfl)
 | _ => rfl
theorem znP {v : AV} (h : ∀ b g, v = .msw b g → mem'[b]? = mem[b]?) : ownW mem' v = ownW mem v := by
 cases v with
 | msw b g => exact zfu (h b g rfl)
 | _ => rfl
theorem zkR {t : TypeId} {b g i c : Nat} (h : loadA P t mem (.ptr b g i c) = some out) : b ∈ out.rd := by
 unfold loadA at h
 simp only at h
 rw [bind_some] at h; obtain ⟨x, hx, h⟩ := h
 split at h
 ·rw [bind_some] at h; obtain ⟨ag, _, h⟩ := h
  cases ag with
  | true =>
   simp only [yg] at h
   rw [bind_some] at h; obtain ⟨n, _, h⟩ := h
   rw [za] at h; obtain ⟨_, h⟩ := h
   obtain rfl := ya h; simp
  | false =>
   simp only [yh] at h
   obtain ⟨v, _, rfl⟩ := yd.1 h; simp
 ·rw [za] at h; obtain ⟨_, h⟩ := h
  rw [za] at h; obtain ⟨_, h⟩ := h
  obtain ⟨v, _, rfl⟩ := yd.1 h; simp
 ·rw [bind_some] at h; obtain ⟨y, _, h⟩ := h
  obtain ⟨v, _, rfl⟩ := yd.1 h; simp
 ·cases h
theorem zoU {t : TypeId} {x : AV} {b g i c : Nat} (h : storeA P t mem (.ptr b g i c) x = some out) : b ∈ out.rd := by
 unfold storeA at h
 simp only at h
 rw [bind_some] at h; obtain ⟨bx, hbx, h⟩ := h
 rw [bind_some] at h; obtain ⟨n, _, h⟩ := h
 rw [za] at h; obtain ⟨_, h⟩ := h
 split at h
 ·rw [za] at h; obtain ⟨_, h⟩ := h
  obtain rfl := ya h; simp
 ·split at h
  ·rw [za] at h; obtain ⟨_, h⟩ := h
   obtain rfl := ya h; simp
  ·simp at h
 ·rw [bind_some] at h; obtain ⟨p, _, h⟩ := h
  rw [bind_some] at h; obtain ⟨q, _, h⟩ := h
  rw [za] at h; obtain ⟨_, h⟩ := h
  obtain rfl := ya h; simp
 ·cases h
theorem zfl {x : AV} {b : Nat} (h : slBox x = some b) : (∃ g, x = .msw b g) ∨ ∃ g o n, x = .ms b g o n := by
 unfold slBox at h
 split at h
 ·cases h; exact .inl ⟨_, rfl⟩
 ·cases h; exact .inr ⟨_, _, _, rfl⟩
 ·cases h
theorem zoC {t : TypeId} {x : AV} {lo hi mx : Option Int} {b : Nat} (h : sliceA P t mem x lo hi mx = some out) (hb : slBox x = some b) : b ∈ out.rd := by
 unfold sliceA at h
 rcases zfl hb with ⟨g, rfl⟩ | ⟨g, o, n, rfl⟩ <;> simp only at h <;> split at h
 ·cases h
 ·rw [bind_some] at h; obtain ⟨s, _, h⟩ := h
  rw [bind_some] at h; obtain ⟨x, _, h⟩ := h
  rw [za] at h; obtain ⟨_, h⟩ := h
  obtain ⟨q, _, rfl⟩ := yd.1 h; simp
 ·rw [bind_some] at h; obtain ⟨s, _, h⟩ := h; cases h
 ·cases h
 ·cases h
 ·rw [bind_some] at h; obtain ⟨s, _, h⟩ := h
  rw [bind_some] at h; obtain ⟨x, _, h⟩ := h
  rw [za] at h; obtain ⟨_, h⟩ := h
  obtain ⟨q, _, rfl⟩ := yd.1 h; simp
 ·rw [bind_some] at h; obtain ⟨s, _, h⟩ := h; cases h
 ·cases h
theorem zoP {t : TypeId} {x : AV} {i : Int} {b : Nat} (h : indexA P t mem x i = some out) (hb : slBox x = some b) : b ∈ out.rd := by
 unfold indexA at h
 rcases zfl hb with ⟨g, rfl⟩ | ⟨g, o, n, rfl⟩ <;> simp only at h <;> split at h
 ·rw [bind_some] at h; obtain ⟨s, _, h⟩ := h
  rw [bind_some] at h; obtain ⟨x, _, h⟩ := h
  rw [za] at h; obtain ⟨_, h⟩ := h
  obtain rfl := ya h; simp
 ·rw [bind_some] at h; obtain ⟨s, _, h⟩ := h; cases h
 ·cases h
 ·rw [bind_some] at h; obtain ⟨s, _, h⟩ := h
  rw [bind_some] at h; obtain ⟨x, _, h⟩ := h
  rw [za] at h; obtain ⟨_, h⟩ := h
  obtain rfl := ya h; simp
 ·rw [bind_some] at h; obtain ⟨s, _, h⟩ := h; cases h
 ·cases h
theorem znC {boxed vars : Bool} {t tx : TypeId} {rs : Nat} {x y : AV} {b : Nat} (h : appendA P boxed vars t tx mem rs x y = some out) (hb : slBox x = some b) : b ∈ out.rd := by
 unfold appendA at h
 rw [bind_some] at h; obtain ⟨et, het, h⟩ := h
 rw [bind_some] at h; obtain ⟨s, hs, h⟩ := h
 rw [bind_some] at h; obtain ⟨bytes, hby, h⟩ := h
 rw [bind_some] at h; obtain ⟨z, hz, h⟩ := h
 rw [bind_some] at h; obtain ⟨yv, hyv, h⟩ := h
 rw [za] at h; obtain ⟨_, h⟩ := h
 rcases zfl hb with ⟨g, hx⟩ | ⟨g, o, n, hx⟩ <;> subst hx <;> try simp only at h
 ·rw [bind_some] at h; obtain ⟨x, _, h⟩ := h
  rw [bind_some] at h; obtain ⟨x, _, h⟩ := h
  rw [za] at h; obtain ⟨_, h⟩ := h
  obtain rfl := ya h; simp
 ·cases o with
  | zero =>
   try simp only at h
   rw [bind_some] at h; obtain ⟨x, _, h⟩ := h
   rw [bind_some] at h; obtain ⟨x, _, h⟩ := h
   rw [bind_some] at h; obtain ⟨x, _, h⟩ := h
   rw [za] at h; obtain ⟨_, h⟩ := h
   obtain rfl := ya h; simp
  | succ o => cases h
theorem zqr {own : Bool} {o : Oper} {ρ : Operand → Option AV} {rs : Nat} (h : opO P own false o ρ mem rs = some out) (hA : Ag out.rd mem mem') :
  opO P own false o ρ mem' rs = some out ∧ (isOwnOp own ρ mem o.op = true → isOwnOp own ρ mem' o.op = true) := by
 unfold opO at h ⊢
 split at h <;> rename_i hop
 ·exact ⟨h, fun hi => by rw [hop] at hi ⊢; exact hi⟩
 ·exact ⟨h, fun hi => by rw [hop] at hi ⊢; exact hi⟩
 ·exact ⟨h, fun hi => by rw [hop] at hi ⊢; exact hi⟩
 ·exact ⟨h, fun hi => by rw [hop] at hi ⊢; exact hi⟩
 ·rw [bind_some] at h; obtain ⟨a, ha, h⟩ := h
  obtain ⟨h1, h2⟩ := zlw h hA
  refine ⟨by simp only [ha, yc]; exact h1, fun hi => ?_⟩
  rw [hop] at hi ⊢
  simp only [isOwnOp] at hi ⊢
  rw [zaE (p := ownP mem) ha (zhs fun b g i c he => hA b (h2 b g i c he))]; exact hi
 ·rw [bind_some] at h; obtain ⟨a, ha, h⟩ := h
  rw [bind_some] at h; obtain ⟨x, hx, h⟩ := h
  obtain ⟨h1, h2⟩ := zoI h hA
  refine ⟨by simp only [ha, hx, yc]; exact h1, fun hi => ?_⟩
  rw [hop] at hi ⊢
  simp only [isOwnOp] at hi ⊢
  rw [zaE (p := ownP mem) ha (zhs fun b g i c he => hA b (h2 b g i c he))]; exact hi
 ·rw [bind_some] at h; obtain ⟨x, hx, h⟩ := h
  rw [bind_some] at h; obtain ⟨lo, hlo, h⟩ := h
  rw [bind_some] at h; obtain ⟨hi, hhi, h⟩ := h
  rw [bind_some] at h; obtain ⟨mx, hmx, h⟩ := h
  obtain ⟨h1, h2⟩ := zoR h hA
  refine ⟨by simp only [hx, hlo, hhi, hmx, yc]; exact h1, fun hi => ?_⟩
  rw [hop] at hi ⊢
  simp only [isOwnOp] at hi ⊢
  rw [zaE (p := ownS mem) hx (zen fun b he => hA b (h2 b he))]; exact hi
 ·rw [bind_some] at h; obtain ⟨x, hx, h⟩ := h
  rw [bind_some] at h; obtain ⟨ix, hix, h⟩ := h
  split at h
  ·obtain ⟨h1, h2⟩ := zoV h hA
   refine ⟨by simp only [hx, hix, yc]; exact h1, fun hi => ?_⟩
   rw [hop] at hi ⊢
   simp only [isOwnOp] at hi ⊢
   rw [zaE (p := ownS mem) hx (zen fun b he => hA b (h2 b he))]; exact hi
  ·cases h
 ·rename_i c
  obtain ⟨cal, args, ts⟩ := c
  rw [bind_some] at h; obtain ⟨as, has, h⟩ := h
  simp only at h has hop
  split at h
  ·rename_i b
   unfold builtinO at h
   split at h
   ·rename_i t x hts
    obtain ⟨h1, h2⟩ := zpX h hA
    refine ⟨by simp only [has, yc, builtinO, hts]; exact h1, fun hi => ?_⟩
    rw [hop] at hi ⊢
    simp only [isOwnOp] at hi ⊢
    cases hl : args.toList with
    | nil => rw [hl] at has; cases has
    | cons a0 l0 =>
     rw [hl] at hi has
     cases l0 with
     | cons _ _ => cases hi
     | nil =>
      simp only [allA] at has
      rw [bind_some] at has; obtain ⟨v, hv, has⟩ := has
      simp at has; subst has
      simp only at hi ⊢
      rw [zaE (p := ownW mem) hv (znP fun b g he => hA b (h2 b g he))]; exact hi
   ·rename_i t tx x y hts
    obtain ⟨h1, h2⟩ := zmI h hA
    refine ⟨by simp only [has, yc, builtinO, hts]; exact h1, fun hi => ?_⟩
    rw [hop] at hi ⊢
    simp only [isOwnOp] at hi ⊢
    cases hl : args.toList with
    | nil => rw [hl] at has; cases has
    | cons a0 l0 =>
     rw [hl] at hi has
     cases l0 with
     | nil => cases hi
     | cons a1 l1 =>
      cases l1 with
      | cons _ _ => cases hi
      | nil =>
       simp only [allA] at has
       rw [bind_some] at has; obtain ⟨v, hv, has⟩ := has
       obtain ⟨l, hl', has⟩ := yd.1 has
       simp only [List.cons.injEq] at has
       obtain ⟨rfl, _⟩ := has
       simp only at hi ⊢
       rw [zaE (p := ownS mem) hv (zen fun b he => hA b (h2 b he))]; exact hi
   ·cases h
  ·cases h
 ·cases h
theorem zlN {boxed vars : Bool} {ts : List TypeId} {rs b g : Nat} (h : builtinA P boxed vars .len ts mem rs [.msw b g] = some out) : b ∈ out.rd := by
 match ts, h with
 | [t], h =>
  have h : (lenOf P t mem (.msw b g)).map (fun n => ({ v := .lit (.int .i64 (n.1 : Int)), rd := n.2 } : Out)) = some out := h
  obtain ⟨n, hn, rfl⟩ := yd.1 h
  unfold lenOf at hn
  split at hn
  ·cases hn
  ·simp only at hn
   obtain ⟨x, _, rfl⟩ := yd.1 hn; simp
  ·cases hn
 | [], h => cases h
 | _ :: _ :: _, h => cases h
theorem zhL {boxed vars : Bool} {ts : List TypeId} {rs b : Nat} {x y : AV} (h : builtinA P boxed vars .append ts mem rs [x, y] = some out) (hb : slBox x = some b) : b ∈ out.rd := by
 match ts, h with
 | [t, tx], h =>
  have h : appendA P boxed vars t tx mem rs x y = some out := by
   rcases zfl hb with ⟨g, rfl⟩ | ⟨g, o, n, rfl⟩ <;> exact h
  exact znC h hb
 | [], h => cases x <;> cases y <;> cases h
 | [_], h => cases x <;> cases y <;> cases h
 | _ :: _ :: _ :: _, h => cases x <;> cases y <;> cases h
theorem zqx {C : Oracle} {own boxed raw vars : Bool} {o : Oper} {ρ : Operand → Option AV} {rs : Nat} (hl : isCallOp o = true → mem'.length = mem.length) (h : opX P C own false boxed raw vars o ρ mem rs = some out) (hA : Ag out.rd mem mem') :
  opX P C own false boxed raw vars o ρ mem' rs = some out := by
 unfold opX at h ⊢
 cases ho : isOwnOp own ρ mem o.op with
 | true =>
  rw [ho] at h; simp only [yg] at h
  obtain ⟨h1, h2⟩ := zqr h hA
  rw [h2 ho]; exact h1
 | false =>
  rw [ho] at h; simp only [yh] at h
  have h' := zqt hl h hA
  have : isOwnOp own ρ mem' o.op = false := by
   rw [← ho]
   unfold opA opStore opSlice opIndex opCall at h
   split at h <;> rename_i hop <;> first | (cases h; done) | (rw [hop]; try rfl)
   ·rw [bind_some] at h; obtain ⟨a, ha, h⟩ := h
    exact zaE (p := ownP mem) ha (zhs fun b g i c he => hA b (by subst he; exact zkR h))
   ·rw [bind_some] at h; obtain ⟨a, ha, h⟩ := h
    rw [bind_some] at h; obtain ⟨x, hx, h⟩ := h
    exact zaE (p := ownP mem) ha (zhs fun b g i c he => hA b (by subst he; exact zoU h))
   ·rw [bind_some] at h; obtain ⟨x, hx, h⟩ := h
    rw [bind_some] at h; obtain ⟨lo, hlo, h⟩ := h
    rw [bind_some] at h; obtain ⟨hi, hhi, h⟩ := h
    rw [bind_some] at h; obtain ⟨mx, hmx, h⟩ := h
    exact zaE (p := ownS mem) hx (zen fun b he => hA b (zoC h he))
   ·rw [bind_some] at h; obtain ⟨x, hx, h⟩ := h
    rw [bind_some] at h; obtain ⟨ix, hix, h⟩ := h
    split at h
    ·exact zaE (p := ownS mem) hx (zen fun b he => hA b (zoP h he))
    ·cases h
   ·rename_i c
    obtain ⟨cal, args, ts⟩ := c
    rw [bind_some] at h; obtain ⟨as, has, h⟩ := h
    simp only at h has hop ⊢
    simp only [isOwnOp]
    split
    ·rename_i x hal
     rw [hal] at has
     simp only [allA] at has
     rw [bind_some] at has; obtain ⟨v, hv, has⟩ := has
     simp at has; subst has
     exact zaE (p := ownW mem) hv (znP fun b g he => hA b (by subst he; exact zlN h))
    ·rename_i x y hal
     rw [hal] at has
     simp only [allA] at has
     rw [bind_some] at has; obtain ⟨v, hv, has⟩ := has
     obtain ⟨l, hl', has⟩ := yd.1 has
     subst has
     congr 1
     refine zaE (p := ownS mem) hv (zen fun b he => hA b ?_)
     rw [bind_some] at hl'; obtain ⟨u, hu, hl'⟩ := hl'
     simp at hl'; subst hl'
     exact zhL h he
    ·rfl
  rw [this]; exact h'
theorem zmw {own : Bool} {o : Oper} {ρ ρ' : Operand → Option AV} (h : ∀ x ∈ o.op.operands, ρ' x = ρ x) : isOwnOp own ρ' mem o.op = isOwnOp own ρ mem o.op := by
 obtain ⟨dst, op, type, pos, after, guard⟩ := o
 have ask : ∀ {p : AV → Bool} {x : Operand}, ρ' x = ρ x → askO ρ' p x = askO ρ p x := fun h => by unfold askO; rw [h]
 cases op <;> simp only [Op.operands] at h <;> simp only [isOwnOp]
 case load t a => exact ask (h a (by simp))
 case store t a x => exact ask (h a (by simp))
 case slice t x lo hi mx => exact ask (h x (by simp))
 case indexAddr t x ix => exact ask (h x (by simp))
 case call c =>
  obtain ⟨cal, args, ts⟩ := c
  simp only [Call.operands] at h
  simp only
  split
  ·rename_i x hal
   exact ask (h x (Array.mem_append.2 (.inr (by rw [← Array.mem_toList_iff, hal]; simp))))
  ·rename_i x y hal
   rw [ask (h x (Array.mem_append.2 (.inr (by rw [← Array.mem_toList_iff, hal]; simp))))]
  ·rfl
theorem zqh {own tk : Bool} {o : Oper} {ρ ρ' : Operand → Option AV} {rs : Nat} (h : ∀ x ∈ o.op.operands, ρ' x = ρ x) : opO P own tk o ρ' mem rs = opO P own tk o ρ mem rs := by
 obtain ⟨dst, op, type, pos, after, guard⟩ := o
 cases op <;> simp only [Op.operands] at h <;> simp only [opO, buildO, makeO]
 case buildSlice t n ps => rw [zbs (fun x hx => h x (by simpa using hx))]
 case slice t x lo hi mx =>
  rw [h x (by simp), zaY (x := lo) fun y hy => h y (by simp [hy]), zaY (x := hi) fun y hy => h y (by simp [hy]), zaY (x := mx) fun y hy => h y (by simp [hy])]
 case call c =>
  obtain ⟨cal, args, ts⟩ := c
  simp only [Call.operands] at h
  rw [zbD (xs := args.toList) fun x hx => h x (by simp at hx ⊢; exact .inr hx)]
 all_goals (first | rfl | (simp_all; done))
theorem zpZ {C : Oracle} {own tk boxed raw vars : Bool} {o : Oper} {ρ ρ' : Operand → Option AV} {rs : Nat} (h : ∀ x ∈ o.op.operands, ρ' x = ρ x) : opX P C own tk boxed raw vars o ρ' mem rs = opX P C own tk boxed raw vars o ρ mem rs := by
 unfold opX
 rw [zmw h, zqh h, zqa h]
end
end Go.Ab
end
section
namespace Go.Ab
variable [GTab]
structure Eff where
 v : AV
 wr : List (Nat × Box)
 push : Mem
 tr : Option Tr
noncomputable def Eff.app (e : Eff) (dst : Option Tmp) (st : St) : St := { tmps := putA st.tmps dst e.v, mem := setMem st.mem e.wr ++ e.push }
section
variable {P : Program}
inductive OStep2 (P : Program) (C : Oracle) (an : Ann) (rid : Nat) (ops : Array Oper) (o : Oper) (i rs : Nat) (st : St) : Eff → Prop
 | run (out : Out) (hres : makes o.op = true → isRes st.mem rs = true) (h : opX P C (hasPair rid i an.own) false (hasPair rid i an.boxed) (hasPair rid i an.raw) (hasPair rid i an.vars) o (evalA st.tmps) st.mem rs = some out)
   (hg : ∀ j want, o.guard = some (j, want) → ∃ d, (ops[j]?).bind (·.dst) = some d ∧ st.tmps[d]? = some (.lit (.bool want))) :
   OStep2 P C an rid ops o i rs st { v := out.v, wr := out.wr, push := out.push, tr := some (out.tr (makes o.op) rs i o.op st.mem) }
 | skip (j : Nat) (want : Bool) (d : Nat) (hg : o.guard = some (j, want)) (hd : (ops[j]?).bind (·.dst) = some d)
   (h : st.tmps[d]? = some (.lit (.bool (!want))) ∨ ∃ x, st.tmps[d]? = some (.lit (.tuple x))) : OStep2 P C an rid ops o i rs st { v := .lit undef, wr := [], push := [], tr := none }
theorem Same.eq {st st1 : St} (h : st1.mem = st.mem ∧ ∀ t : Nat, st1.tmps[t]? = st.tmps[t]?) : st1 = st := by
 obtain ⟨t1, m1⟩ := st1
 obtain ⟨t, m⟩ := st
 simp only at h
 obtain ⟨rfl, h⟩ := h
 rw [List.ext_getElem? h]
variable {C : Oracle} {an : Ann} {rid : Nat} {ops : Array Oper}
theorem OStep.two {o : Oper} {i rs : Nat} {st st' : St} {t : Option Tr} (h : OStep P C an false rid ops o i rs st st' t) : ∃ e, OStep2 P C an rid ops o i rs st e ∧ e.tr = t ∧ st' = e.app o.dst st := by
 cases h with
 | run out st1 hst hres ho hg =>
  obtain rfl := Same.eq hst
  exact ⟨_, .run out hres ho hg, rfl, rfl⟩
 | skip st1 hst j want d hg hd h =>
  obtain rfl := Same.eq hst
  exact ⟨_, .skip j want d hg hd h, rfl, by simp [Eff.app, setMem]⟩
theorem OStep2.one {o : Oper} {i rs : Nat} {st : St} {e : Eff} (h : OStep2 P C an rid ops o i rs st e) : OStep P C an false rid ops o i rs st (e.app o.dst st) e.tr := by
 cases h with
 | run out hres ho hg => exact .run out st ⟨rfl, fun _ => rfl⟩ hres ho hg
 | skip j want d hg hd h =>
  have := OStep.skip (P := P) (C := C) (an := an) (tk := false) (rid := rid) (ops := ops) (o := o) (i := i) (rs := rs) (st := st) st ⟨rfl, fun _ => rfl⟩ j want d hg hd h
  simpa [Eff.app, setMem] using this
def Slot (ops : Array Oper) (o : Oper) (d : Nat) : Prop := d ∈ o.looksAt ops
def Foot (L : Nat) (all : List Tr) (e : Eff) (b : Nat) : Prop := ∃ t, e.tr = some t ∧ (b ∈ (fixT L all t).rd ∨ b ∈ t.wr)
def Agree (S F : Nat → Prop) (st st' : St) : Prop := (∀ d : Nat, S d → st'.tmps[d]? = st.tmps[d]?) ∧ (∀ b : Nat, F b → st'.mem[b]? = st.mem[b]?)
theorem zlG {v : AV} {q : Nat × Nat × Nat × Nat} (h : ptrOf v = some q) : v = .ptr q.1 q.2.1 q.2.2.1 q.2.2.2 := by
 unfold ptrOf at h
 split at h
 ·cases h; rfl
 ·cases h
theorem zpQ {t : TypeId} {mem mem' : Mem} {a : AV} {out : Out} (h : loadA P t mem a = some out) (hp : (ptrOf out.v).isSome = true) {b : Nat} (hb : out.rd = [b]) (hc : (ptrCodeAt mem b).isSome = true) (he : ptrCodeAt mem' b = ptrCodeAt mem b) : loadA P t mem' a = some out := by
 unfold loadA at h ⊢
 cases a with
 | ptr b' g i c =>
  simp only at h ⊢
  rw [bind_some] at h
  obtain ⟨bx, hbx, h⟩ := h
  unfold box? at hbx
  split at hbx
  ·rename_i x hx
   have hg : Nat.beq x.gen g = true := by
    cases hg : Nat.beq x.gen g with
    | true => rfl
    | false => rw [hg] at hbx; cases hbx
   rw [hg] at hbx
   have hno : x.row.isOwn = false := by
    cases hno : x.row.isOwn with
    | false => rfl
    | true => rw [hno] at hbx; cases hbx
   rw [hno] at hbx
   obtain rfl := ya (show some x = some bx from hbx)
   split at h
   ·rename_i e cs hrow
    rw [bind_some] at h
    obtain ⟨ag, hag, h⟩ := h
    cases ag with
    | true =>
     simp only [yg] at h
     rw [bind_some] at h
     obtain ⟨n, _, h⟩ := h
     rw [za] at h
     obtain rfl := (ya h.2)
     simp [ptrOf] at hp
    | false =>
     simp only [yh] at h
     obtain ⟨v, hv, rfl⟩ := yd.1 h
     obtain rfl : b' = b := by simpa using hb
     obtain ⟨q, hq⟩ := Option.isSome_iff_exists.1 hp
     have hc1 : ptrCodeAt mem b' = some (x.gen, e, cs.map ptrOf) := by unfold ptrCodeAt ptrCode; rw [hx]; simp only [hrow]
     rw [hc1] at he
     unfold ptrCodeAt at he
     split at he
     ·rename_i x' hx'
      unfold ptrCode at he
      split at he
      ·rename_i e' cs' hrow'
       obtain ⟨hg', he', hl'⟩ : x'.gen = x.gen ∧ e' = e ∧ cs'.map ptrOf = cs.map ptrOf := by
        have := ya he
        simp only [Prod.mk.injEq] at this
        exact this
       unfold box?
       rw [hx']
       simp only [hg', hg, Row.isOwn, Bool.not_false, yi3, yg, yc, hrow', he', hag, yh]
       have : (cs'.map ptrOf)[i * e + c]? = some (some q) := by rw [hl', yc1, hv]; simp [hq]
       rw [yc1] at this
       obtain ⟨v', hv', hq'⟩ := yd.1 this
       rw [hv', yk, zlG hq', show v = _ from zlG hq]
      ·cases he
     ·cases he
   ·rename_i k xs hrow
    rw [za] at h; obtain ⟨_, h⟩ := h
    rw [za] at h; obtain ⟨_, h⟩ := h
    obtain ⟨y, _, rfl⟩ := yd.1 h
    simp [ptrOf] at hp
   ·rename_i β e xs hrow
    rw [bind_some] at h; obtain ⟨y, _, h⟩ := h
    obtain ⟨u, _, rfl⟩ := yd.1 h
    obtain rfl : b' = b := by simpa using hb
    unfold ptrCodeAt ptrCode at hc
    rw [hx] at hc
    simp only [hrow] at hc
    cases hc
   ·cases h
  ·cases hbx
 | el β p c =>
  simp only at h
  obtain ⟨u, _, rfl⟩ := yd.1 h
  cases hb
 | _ => cases h
theorem zpO {op : Op} {mem : Mem} {v : AV} {rd : List Nat} (h : rcOf op mem v rd = true) : (∃ t a, op = .load t a) ∧ (ptrOf v).isSome = true ∧ ∃ b, rd = [b] ∧ (ptrCodeAt mem b).isSome = true := by
 unfold rcOf at h
 simp only [yb] at h
 obtain ⟨⟨h1, h2⟩, h3⟩ := h
 refine ⟨?_, ?_, ?_⟩
 ·unfold isLoad at h1
  split at h1
  ·exact ⟨_, _, rfl⟩
  ·cases h1
 ·split at h2
  ·rename_i q hq; rw [hq]; rfl
  ·cases h2
 ·split at h3
  ·rename_i b
   refine ⟨b, rfl, ?_⟩
   split at h3
   ·rename_i q hq; rw [hq]; rfl
   ·cases h3
  ·cases h3
theorem zqk {L : Nat} {all : List Tr} {t : Tr} : (fixT L all t).rd = t.rd ∨ (t.rc = true ∧ ∃ b, t.rd = [b] ∧ cstB L all b = true) := by
 unfold fixT
 cases hc : (t.rc && (match t.rd with | [b] => cstB L all b | _ => false)) with
 | false => left; rfl
 | true =>
  right
  simp only [yb] at hc
  refine ⟨hc.1, ?_⟩
  have h2 := hc.2
  split at h2
  ·rename_i b hb; exact ⟨b, hb, h2⟩
  ·cases h2
theorem zau {L : Nat} {all : List Tr} {t : Tr} : (fixT L all t).i = t.i ∧ (fixT L all t).wr = t.wr ∧ (fixT L all t).push = t.push := by
 unfold fixT
 cases (t.rc && (match t.rd with | [b] => cstB L all b | _ => false)) <;> exact ⟨rfl, rfl, rfl⟩
theorem OStep2.agree {L : Nat} {all : List Tr} {o : Oper} {i rs : Nat} {st st' : St} {e : Eff} (h : OStep2 P C an rid ops o i rs st e) (hA : Agree (Slot ops o) (Foot L all e) st st') (hl : isCallOp o = true → st'.mem.length = st.mem.length)
  (hK : ∀ t b, e.tr = some t → cstB L all b = true → t.rc = true → t.rd = [b] → ptrCodeAt st'.mem b = ptrCodeAt st.mem b) : ∃ e', OStep2 P C an rid ops o i rs st' e' ∧ e'.v = e.v ∧ e'.wr = e.wr ∧ e'.push = e.push := by
 have hguard : ∀ {j : Nat} {want : Bool} {d : Nat}, o.guard = some (j, want) → (ops[j]?).bind (·.dst) = some d → st'.tmps[d]? = st.tmps[d]? := by
  intro j want d hg hd
  refine hA.1 d ?_
  unfold Slot Oper.looksAt
  rw [hg]
  refine yr1 _ ?_
  simp [hd]
 cases h with
 | run out hres ho hg =>
  refine ⟨_, .run out (fun hm => ?_) ?_ (fun j want h => ?_), rfl, rfl, rfl⟩
  ·have := hres hm
   unfold isRes at this ⊢
   rw [hA.2 rs ⟨_, rfl, .inr (by simp [Out.tr, hm])⟩]; exact this
  ·have h1 : opX P C (hasPair rid i an.own) false (hasPair rid i an.boxed) (hasPair rid i an.raw) (hasPair rid i an.vars) o (evalA st.tmps) st'.mem rs = some out := by
    rcases zqk (L := L) (all := all) (t := out.tr (makes o.op) rs i o.op st.mem) with hrd | ⟨hrc, b, hb, hcst⟩
    ·exact zqx (mem' := st'.mem) hl ho (fun b hb => hA.2 b ⟨_, rfl, .inl (by rw [hrd]; simpa [Out.tr] using hb)⟩)
    ·obtain ⟨⟨t, a, hop⟩, hp, b', hb', hcode⟩ := zpO (show rcOf o.op st.mem out.v out.rd = true from hrc)
     have hb : out.rd = [b] := hb
     obtain rfl : b = b' := by rw [hb] at hb'; simpa using hb'
     have hke := hK _ b rfl hcst hrc hb
     have hcell : ∀ {m : Mem}, (ptrCodeAt m b).isSome = true → ownAt m b = false := by
      intro m hm
      unfold ptrCodeAt at hm
      unfold ownAt
      split at hm
      ·rename_i x hx
       unfold ptrCode at hm
       split at hm
       ·rename_i e cs hr; simp only [hr]; rfl
       ·cases hm
      ·cases hm
     have hno : isOwnOp (hasPair rid i an.own) (evalA st.tmps) st.mem o.op = false ∧ isOwnOp (hasPair rid i an.own) (evalA st.tmps) st'.mem o.op = false := by
      rw [hop]
      simp only [isOwnOp, askO]
      cases hx : evalA st.tmps a with
      | none => exact ⟨rfl, rfl⟩
      | some x =>
       cases x with
       | ptr b2 g2 i2 c2 =>
        have hb2 : b2 = b := by
         unfold opX at ho
         cases how : isOwnOp (hasPair rid i an.own) (evalA st.tmps) st.mem o.op with
         | false =>
          rw [how] at ho; simp only [yh] at ho
          unfold opA at ho
          rw [hop] at ho
          simp only at ho
          rw [bind_some] at ho; obtain ⟨x, hx', ho⟩ := ho
          rw [hx] at hx'; obtain rfl := ya hx'
          have := zkR ho
          rw [hb] at this; simpa using this
         | true =>
          rw [how] at ho; simp only [yg] at ho
          unfold opO at ho
          rw [hop] at ho
          simp only at ho
          rw [bind_some] at ho; obtain ⟨x, hx', ho⟩ := ho
          rw [hx] at hx'; obtain rfl := ya hx'
          have := (zlw ho (fun _ _ => rfl)).2 b2 g2 i2 c2 rfl
          rw [hb] at this; simpa using this
        subst hb2
        exact ⟨hcell hcode, hcell (by rw [hke]; exact hcode)⟩
       | _ => exact ⟨rfl, rfl⟩
     unfold opX at ho ⊢
     rw [hno.1] at ho
     rw [hno.2]
     simp only [yh] at ho ⊢
     unfold opA at ho ⊢
     rw [hop] at ho ⊢
     simp only at ho ⊢
     rw [bind_some] at ho ⊢
     obtain ⟨x, hx, ho⟩ := ho
     exact ⟨x, hx, zpQ ho hp hb hcode hke⟩
   rw [← h1]
   refine zpZ fun x hx => ?_
   cases x with
   | tmp t =>
    simp only [evalA, getT, zf]
    rw [hA.1 t]
    unfold Slot Oper.looksAt
    exact yq1 _ (List.mem_filterMap.2 ⟨.tmp t, by simpa using hx, rfl⟩)
   | const v => rfl
   | func f => rfl
   | global g => rfl
  ·obtain ⟨d, hd, hb⟩ := hg j want h
   exact ⟨d, hd, by rw [hguard h hd]; exact hb⟩
 | skip j want d hg hd h =>
  refine ⟨_, .skip j want d hg hd ?_, rfl, rfl, rfl⟩
  rw [hguard hg hd]; exact h
noncomputable def foldD (D : Nat → Bool) : Nat → List (Oper × Eff) → St → St
 | _, [], st => st
 | i, (o, e) :: r, st => foldD D (i + 1) r (bif D i then e.app o.dst st else st)
theorem zbT {D D' : Nat → Bool} : ∀ {l : List (Oper × Eff)} {i : Nat} {st : St}, (∀ k, i ≤ k → k < i + l.length → D k = D' k) → foldD D i l st = foldD D' i l st
 | [], i, st, _ => rfl
 | (o, e) :: r, i, st, h => by
  simp only [foldD]
  rw [h i (yx _) (by simp)]
  exact zbT fun k h1 h2 => h k (by omega) (by simp at h2 ⊢; omega)
inductive Chain (P : Program) (C : Oracle) (an : Ann) (rid : Nat) (ops : Array Oper) : Nat → Nat → St → List (Oper × Eff) → Prop
 | nil (i rs : Nat) (st : St) : Chain P C an rid ops i rs st []
 | cons (o : Oper) (e : Eff) (r : List (Oper × Eff)) (i rs : Nat) (st : St) (h : OStep2 P C an rid ops o i rs st e) (hr : Chain P C an rid ops (i + 1) (bif makes o.op then rs + 1 else rs) (e.app o.dst st) r) :
   Chain P C an rid ops i rs st ((o, e) :: r)
variable {R : Type}
theorem zhO {k : St → List Tr → Option R} {r : R} : ∀ {rest : List Oper} {i rs : Nat} {st : St} {tr : List Tr}, opsA P C an false rid (ops.toList.map (·.dst)) rest i rs st tr k = some r →
  ∃ l, l.map (·.1) = rest ∧ Chain P C an rid ops i rs st l ∧ k (foldD (fun _ => true) i l st) ((l.filterMap (·.2.tr)).reverse ++ tr) = some r
 | [], i, rs, st, tr, h => ⟨[], rfl, .nil i rs st, by simpa [opsA, foldD] using h⟩
 | o :: rest, i, rs, st, tr, h => by
  obtain ⟨st', t, hst, h'⟩ := zjK h
  obtain ⟨e, he, rfl, rfl⟩ := hst.two
  obtain ⟨l, hl, hc, hk⟩ := zhO h'
  refine ⟨(o, e) :: l, by simp [hl], .cons o e l i rs st he hc, ?_⟩
  simp only [foldD, yg]
  have : ((((o, e) :: l).filterMap (·.2.tr)).reverse ++ tr) = (l.filterMap (·.2.tr)).reverse ++ (e.tr.toList ++ tr) := by
   cases ht : e.tr with
   | none => simp [List.filterMap_cons, ht]
   | some t => simp [List.filterMap_cons, ht]
  rw [this]; exact hk
theorem zeU {D : Nat → Bool} : ∀ {l : List (Oper × Eff)} {i : Nat} {st : St}, (∀ k, i ≤ k → D k = false) → foldD D i l st = st
 | [], i, st, _ => rfl
 | (o, e) :: r, i, st, h => by
  simp only [foldD, h i (yx _), yh]
  exact zeU fun k hk => h k (by omega)
theorem Chain.get : ∀ {l : List (Oper × Eff)} {i rs : Nat} {st : St} {j : Nat} {o : Oper} {e : Eff}, Chain P C an rid ops i rs st l → l[j]? = some (o, e) → ∃ rs', OStep2 P C an rid ops o (i + j) rs' (foldD (fun k => Nat.blt k (i + j)) i l st) e
 | [], i, rs, st, j, o, e, _, h => by simp at h
 | (o', e') :: l, i, rs, st, 0, o, e, hc, h => by
  cases hc with
  | cons _ _ _ _ _ _ h1 hr =>
   simp at h; obtain ⟨rfl, rfl⟩ := h
   refine ⟨rs, ?_⟩
   rw [zeU (fun k hk => by cases hb : Nat.blt k (i + 0) with | false => rfl | true => simp [Nat.blt] at hb; omega)]
   exact h1
 | (o', e') :: l, i, rs, st, j + 1, o, e, hc, h => by
  cases hc with
  | cons _ _ _ _ _ _ h1 hr =>
   obtain ⟨rs', h'⟩ := hr.get (j := j) (by simpa using h)
   refine ⟨rs', ?_⟩
   rw [show i + 1 + j = i + (j + 1) by omega] at h'
   simp only [foldD]
   have : Nat.blt i (i + (j + 1)) = true := by simp [Nat.blt]
   rw [this]; exact h'
theorem zoS {m m' : Mem} {b : Nat} (h : m'[b]? = m[b]?) : ∀ {wr : List (Nat × Box)}, (setMem m' wr)[b]? = (setMem m wr)[b]? := by
 intro wr
 induction wr generalizing m m' with
 | nil => exact h
 | cons q r ih =>
  obtain ⟨c, x⟩ := q
  simp only [setMem]
  refine ih ?_
  rw [List.getElem?_set, List.getElem?_set]
  by_cases hc : c = b
  ·subst hc
   simp only [if_true]
   by_cases hl : c < m.length
   ·have : c < m'.length := by
     rcases yc2 c m'.length with h' | h'
     ·exact h'
     ·rw [ya1 h', yf hl] at h; cases h
    rw [if_pos hl, if_pos this]
   ·have : ¬ c < m'.length := by
     intro h'
     rw [yf h', ya1 (by omega)] at h; cases h
    rw [if_neg hl, if_neg this]
  ·rw [if_neg hc, if_neg hc]; exact h
theorem znm {m : Mem} {b : Nat} : ∀ {wr : List (Nat × Box)}, (∀ q ∈ wr, q.1 ≠ b) → (setMem m wr)[b]? = m[b]? := by
 intro wr
 induction wr generalizing m with
 | nil => intro _; rfl
 | cons q r ih =>
  obtain ⟨c, x⟩ := q
  intro h
  simp only [setMem]
  rw [ih (fun q hq => h q (yi _ hq)), yq (h (c, x) (yn ..))]
theorem znk {m : Mem} {c : Nat} {x : Option Box} : ∀ {wr : List (Nat × Box)}, (∀ q ∈ wr, q.1 ≠ c) → setMem (m.set c x) wr = (setMem m wr).set c x := by
 intro wr
 induction wr generalizing m with
 | nil => intro _; rfl
 | cons q r ih =>
  obtain ⟨d, y⟩ := q
  intro h
  simp only [setMem]
  rw [List.set_comm _ _ (fun e => h (d, y) (yn ..) e.symm), ih (fun q hq => h q (yi _ hq))]
theorem zlV {m : Mem} {a : List (Nat × Box)} : ∀ {b : List (Nat × Box)}, (∀ q ∈ b, ∀ q' ∈ a, q.1 ≠ q'.1) → setMem (setMem m a) b = setMem (setMem m b) a := by
 intro b
 induction b generalizing m with
 | nil => intro _; rfl
 | cons q r ih =>
  obtain ⟨c, x⟩ := q
  intro h
  simp only [setMem]
  rw [← ih (fun q hq => h q (yi _ hq)), znk (fun q' hq' e => h (c, x) (yn ..) q' hq' e.symm)]
theorem zfw {m p : Mem} : ∀ {wr : List (Nat × Box)}, (∀ q ∈ wr, q.1 < m.length) → setMem (m ++ p) wr = setMem m wr ++ p := by
 intro wr
 induction wr generalizing m with
 | nil => intro _; rfl
 | cons q r ih =>
  obtain ⟨c, x⟩ := q
  intro h
  simp only [setMem]
  rw [List.set_append_left _ _ (h (c, x) (yn ..)), ih (fun q hq => by simpa using h q (yi _ hq))]
structure Mate (L : Nat) (d1 d2 : Option Tmp) (e1 e2 : Eff) : Prop where
 dst : ∀ d, d1 = some d → d2 ≠ some d
 wr : ∀ q ∈ e1.wr, ∀ q' ∈ e2.wr, q.1 ≠ q'.1
 push : e1.push = [] ∨ e2.push = []
 low1 : e1.push ≠ [] → ∀ q ∈ e2.wr, q.1 < L
 low2 : e2.push ≠ [] → ∀ q ∈ e1.wr, q.1 < L
theorem zon {tmps : List AV} {d1 d2 : Option Tmp} {v1 v2 : AV} (h : ∀ d, d1 = some d → d2 ≠ some d) : putA (putA tmps d1 v1) d2 v2 = putA (putA tmps d2 v2) d1 v1 := by
 cases d1 with
 | none => rfl
 | some a =>
  cases d2 with
  | none => rfl
  | some b => simp only [putA, zP]; rw [List.set_comm _ _ (fun e => h a rfl (by rw [e]))]
theorem Eff.comm {L : Nat} {d1 d2 : Option Tmp} {e1 e2 : Eff} {st : St} (hm : Mate L d1 d2 e1 e2) (hl : L ≤ st.mem.length) : e2.app d2 (e1.app d1 st) = e1.app d1 (e2.app d2 st) := by
 have hmem : setMem (setMem st.mem e1.wr ++ e1.push) e2.wr ++ e2.push = setMem (setMem st.mem e2.wr ++ e2.push) e1.wr ++ e1.push := by
  have hcomm := zlV (m := st.mem) (a := e1.wr) (b := e2.wr) (fun q hq q' hq' e => hm.wr q' hq' q hq e.symm)
  by_cases h1 : e1.push = []
  ·by_cases h2 : e2.push = []
   ·rw [h1, h2]; simp only [yh1]; exact hcomm
   ·rw [h1]; simp only [yh1]
    rw [zfw (m := setMem st.mem e2.wr) (fun q hq => by rw [zk]; exact yx1 (hm.low2 h2 q hq) hl), hcomm]
  ·have h2 : e2.push = [] := hm.push.resolve_left h1
   rw [h2]; simp only [yh1]
   rw [zfw (m := setMem st.mem e1.wr) (fun q hq => by rw [zk]; exact yx1 (hm.low1 h1 q hq) hl), hcomm]
 simp only [Eff.app, hmem, zon hm.dst]
end
end Go.Ab
end
section
namespace Go.Ab
variable [GTab]
def Closed (ops : Array Oper) (D : Nat → Bool) : Prop := ∀ (j : Nat) (o : Oper), ops[j]? = some o → ∀ e ∈ o.after, Region.binds .any e = true → D j = true → D e.on = true
theorem zeN {acc : List Nat} : ∀ {es : List Edge} {i : Nat}, (maskOf acc es).testBit i = true → ∃ e ∈ es, Region.binds .any e = true ∧ (i = e.on ∨ (acc.getD e.on 0).testBit i = true)
 | [], i, h => by simp [maskOf] at h
 | e :: r, i, h => by
  simp only [maskOf] at h
  cases hb : Region.binds .any e with
  | true =>
   rw [hb] at h; simp only [yg, Nat.testBit_or, yw1] at h
   rcases h with (h | h) | h
   ·refine ⟨e, yn .., hb, .inl ?_⟩
    rw [Nat.testBit_two_pow] at h
    exact (of_decide_eq_true h).symm
   ·exact ⟨e, yn .., hb, .inr h⟩
   ·obtain ⟨e', he, h1, h2⟩ := zeN h
    exact ⟨e', yi _ he, h1, h2⟩
  | false =>
   rw [hb] at h; simp only [yh] at h
   obtain ⟨e', he, h1, h2⟩ := zeN h
   exact ⟨e', yi _ he, h1, h2⟩
theorem zdy {i : Nat} : ∀ {es : List Edge}, edgesLt i es = true → ∀ e ∈ es, Region.binds .any e = true → e.on < i
 | [], _, e, he, _ => by simp at he
 | x :: r, h, e, he, hb => by
  simp only [edgesLt, yb, yw1, yt] at h
  rcases yn1.1 he with rfl | he
  ·rcases h.1 with h1 | h1
   ·rw [hb] at h1; cases h1
   ·simp [Nat.blt] at h1; omega
  ·exact zdy h.2 e he hb
theorem zcn : ∀ {l : List Oper} {i j : Nat} {o : Oper}, edgesBack l i = true → l[j]? = some o → edgesLt (i + j) o.after.toList = true
 | [], i, j, o, _, h => by simp at h
 | x :: r, i, 0, o, h, hj => by
  simp only [edgesBack, yb] at h
  simp at hj; subst hj; exact h.1
 | x :: r, i, j + 1, o, h, hj => by
  simp only [edgesBack, yb] at h
  have := zcn (j := j) h.2 (by simpa using hj)
  rw [show i + (j + 1) = i + 1 + j by omega]; exact this
theorem zlf {ops : Array Oper} (hE : edgesBack ops.toList 0 = true) : ∀ {l : List Oper} {acc : List Nat}, ops.toList.drop acc.length = l → acc.length ≤ ops.size →
  (∀ j i, j < acc.length → (acc.getD j 0).testBit i = true → i < j ∧ ∀ D, Closed ops D → D j = true → D i = true) →
  ∀ j i, ((befL l acc).getD j 0).testBit i = true → i < j ∧ j < ops.size ∧ ∀ D, Closed ops D → D j = true → D i = true
 | [], acc, hd, hle, h => by
  intro j i hb
  simp only [befL] at hb
  by_cases hj : j < acc.length
  ·exact ⟨(h j i hj hb).1, by omega, (h j i hj hb).2⟩
  ·rw [yl, ya1 (by omega)] at hb; simp at hb
 | o :: r, acc, hd, hle, h => by
  simp only [befL]
  have ho : ops[acc.length]? = some o := by
   have : (ops.toList.drop acc.length)[0]? = some o := by rw [hd]; rfl
   rw [yb1, ym1, yo1] at this; exact this
  have hlt : acc.length < ops.size := (yl2.1 ho).1
  refine zlf hE (l := r) (by rw [yi1, ← List.drop_drop, hd]; rfl) (by simp; omega) fun j i hj hb => ?_
  by_cases hjl : j < acc.length
  ·rw [yl, yp hjl, ← yl] at hb
   exact h j i hjl hb
  ·have hje : j = acc.length := by simp at hj; omega
   subst hje
   rw [yl, yu (yx _)] at hb
   simp only [Nat.sub_self, yp2, Option.getD_some] at hb
   obtain ⟨e, he, hbind, hi⟩ := zeN hb
   have hon := zdy (by have := zcn (j := acc.length) hE (by rw [yo1]; exact ho); rwa [yy] at this) e he hbind
   have hcl : ∀ D, Closed ops D → D acc.length = true → D e.on = true := fun D hD hd => hD acc.length o ho e (by simpa using he) hbind hd
   rcases hi with rfl | hi
   ·exact ⟨hon, hcl⟩
   ·obtain ⟨h1, h2⟩ := h e.on i hon hi
    exact ⟨by omega, fun D hD hd => h2 D hD (hcl D hD hd)⟩
theorem zcy {ops : Array Oper} (hE : edgesBack ops.toList 0 = true) {j i : Nat} (h : ((befL ops.toList []).getD j 0).testBit i = true) : i < j ∧ ∀ D, Closed ops D → D j = true → D i = true := by
 obtain ⟨h1, _, h2⟩ := zlf hE (l := ops.toList) (acc := []) (by simp) (by simp) (fun j i hj _ => by simp at hj) j i h
 exact ⟨h1, h2⟩
theorem ziE : ∀ {n a j : Nat}, a ≤ j → j < a + n → j ∈ rangeN a n
 | 0, a, j, h1, h2 => by omega
 | n + 1, a, j, h1, h2 => by
  simp only [rangeN]
  rcases yc2 a j with h | h
  ·exact yi _ (ziE (by omega) (by omega))
  ·obtain rfl : j = a := by omega
   exact yn ..
theorem zfz {ops : Array Oper} {bs : List Nat} {i : Nat} : ∀ {l : List Nat}, apartAll ops bs i l = true → ∀ j ∈ l, ordered bs i j = true ∨ apartAt ops i j = true
 | [], _, j, hj => by simp at hj
 | x :: r, h, j, hj => by
  simp only [apartAll, yb, yw1] at h
  rcases yn1.1 hj with rfl | hj
  ·exact h.1
  ·exact zfz h.2 j hj
theorem zdn {ops : Array Oper} {bs : List Nat} : ∀ {n a i j : Nat}, apartsOk ops bs (rangeN a n) = true → a ≤ i → i < j → j < a + n → ordered bs i j = true ∨ apartAt ops i j = true
 | 0, a, i, j, _, h1, h2, h3 => by omega
 | n + 1, a, i, j, h, h1, h2, h3 => by
  simp only [rangeN, apartsOk, yb] at h
  rcases yc2 a i with hlt | hge
  ·exact zdn h.2 (by omega) h2 (by omega)
  ·obtain rfl : i = a := by omega
   exact zfz h.1 j (ziE (by omega) (by omega))
theorem zhg {bs : List Nat} {i : Nat} : ∀ {l : List Oper} {s j : Nat} {o : Oper}, noCalls bs i l s = true → l[j]? = some o → i = s + j ∨ ordered bs i (s + j) = true ∨ isCallOp o = false
 | [], s, j, o, _, h => by simp at h
 | x :: r, s, 0, o, h, hj => by
  simp only [noCalls, yb, yw1, yt] at h
  simp at hj; subst hj
  rcases h.1 with (h | h) | h
  ·exact .inl (beqN.1 h)
  ·exact .inr (.inl h)
  ·exact .inr (.inr h)
 | x :: r, s, j + 1, o, h, hj => by
  simp only [noCalls, yb] at h
  have := zhg (j := j) h.2 (by simpa using hj)
  rw [show s + (j + 1) = s + 1 + j by omega]; exact this
theorem ziU {ops : Array Oper} {bs : List Nat} : ∀ {l : List Tr}, pushOk ops bs l = true → ∀ a ∈ l, a.push = true → noCalls bs a.i ops.toList 0 = true
 | [], _, a, ha, _ => by simp at ha
 | x :: r, h, a, ha, hp => by
  simp only [pushOk, yb, yw1, yt] at h
  rcases yn1.1 ha with rfl | ha
  ·rcases h.1 with h1 | h1
   ·rw [hp] at h1; cases h1
   ·exact h1
  ·exact ziU h.2 a ha hp
structure TrRel (bs : List Nat) (L : Nat) (a b : Tr) : Prop where
 push : ordered bs a.i b.i = false → a.push = true → b.push = true → False
 far : ordered bs a.i b.i = false → (∀ x ∈ a.wr, x ∉ b.rd) ∧ (∀ x ∈ a.rd, x ∉ b.wr) ∧ (∀ x ∈ a.wr, x ∉ b.wr) ∧ (a.push = true → (∀ x ∈ b.rd, x < L) ∧ ∀ x ∈ b.wr, x < L) ∧ (b.push = true → (∀ x ∈ a.rd, x < L) ∧ ∀ x ∈ a.wr, x < L)
theorem zcv {m : Nat} : ∀ {l : List Nat}, allLt m l = true → ∀ b ∈ l, b < m
 | [], _, b, h => by simp at h
 | x :: r, h, b, hb => by
  simp only [allLt, yb] at h
  rcases yn1.1 hb with rfl | hb
  ·have := h.1; simp [Nat.blt] at this; omega
  ·exact zcv h.2 b hb
theorem zmg {bs : List Nat} {L : Nat} {a : Tr} : ∀ {l : List Tr}, trOk bs L a l = true → ∀ b ∈ l, TrRel bs L a b
 | [], _, b, h => by simp at h
 | x :: r, h, b, hb => by
  simp only [trOk, yb] at h
  rcases yn1.1 hb with rfl | hb
  ·refine ⟨fun ho h1 h2 => by have := h.1; rw [ho, h1, h2] at this; simp at this, fun ho => ?_⟩
   have := h.1
   rw [ho] at this
   simp only [Bool.false_or, yb, yw1, yt] at this
   obtain ⟨⟨⟨⟨⟨_, h1⟩, h2⟩, h3⟩, h4⟩, h5⟩ := this
   refine ⟨zei h1, zei h2, zei h3, fun hp => ?_, fun hp => ?_⟩
   ·rcases h4 with h4 | h4
    ·rw [hp] at h4; cases h4
    ·exact ⟨zcv h4.1, zcv h4.2⟩
   ·rcases h5 with h5 | h5
    ·rw [hp] at h5; cases h5
    ·exact ⟨zcv h5.1, zcv h5.2⟩
  ·exact zmg h.2 b hb
theorem zdK {bs : List Nat} {L : Nat} : ∀ {l : List Tr}, trsOk bs L l = true → l.Pairwise (TrRel bs L)
 | [], _ => .nil
 | a :: r, h => by
  simp only [trsOk, yb] at h
  exact .cons (zmg h.1) (zdK h.2)
theorem zbq {bs : List Nat} {i j : Nat} : ordered bs i j = ordered bs j i := by unfold ordered; rw [Bool.or_comm]
theorem TrRel.symm {bs : List Nat} {L : Nat} {a b : Tr} (h : TrRel bs L a b) : TrRel bs L b a :=
 ⟨fun ho h1 h2 => h.push (by rw [zbq]; exact ho) h2 h1, fun ho => by
  obtain ⟨h1, h2, h3, h4, h5⟩ := h.far (by rw [zbq]; exact ho)
  exact ⟨fun x hx hb => h2 x hb hx, fun x hx hb => h1 x hb hx, fun x hx hb => h3 x hb hx, h5, h4⟩⟩
section
variable {P : Program} {C : Oracle} {an : Ann} {rid : Nat} {ops : Array Oper}
theorem OStep2.facts {o : Oper} {i rs : Nat} {st : St} {e : Eff} (h : OStep2 P C an rid ops o i rs st e) :
  (∀ q ∈ e.wr, ∃ t, e.tr = some t ∧ q.1 ∈ t.wr) ∧ (e.push ≠ [] → ∃ t, e.tr = some t ∧ t.push = true) ∧ (∀ t, e.tr = some t → t.i = i) := by
 cases h with
 | run out hres ho hg =>
  refine ⟨fun q hq => ⟨_, rfl, ?_⟩, fun hp => ⟨_, rfl, ?_⟩, fun t ht => ?_⟩
  ·simp only [Out.tr]
   cases makes o.op with
   | true => simp only [yg]; exact yi _ (yu2.2 ⟨q, hq, rfl⟩)
   | false => simp only [yh]; exact yu2.2 ⟨q, hq, rfl⟩
  ·show (match out.push with | [] => false | _ => true) = true
   split
   ·rename_i hh; exact absurd hh hp
   ·rfl
  ·cases ht; rfl
 | skip j want d hg hd h => exact ⟨fun q hq => by simp at hq, fun hp => absurd rfl hp, fun t ht => by cases ht⟩
structure NoTouch (S F : Nat → Prop) (L : Nat) (o : Oper) (e : Eff) : Prop where
 dst : ∀ d, o.dst = some d → ¬ S d
 wr : ∀ q ∈ e.wr, ¬ F q.1
 push : e.push ≠ [] → ∀ b, F b → b < L
theorem zbg (e : Eff) (d : Option Tmp) (st : St) : (e.app d st).mem.length = st.mem.length + e.push.length := by simp [Eff.app, zk]
theorem Agree.symm {S F : Nat → Prop} {st st' : St} (h : Agree S F st st') : Agree S F st' st := ⟨fun d hd => (h.1 d hd).symm, fun b hb => (h.2 b hb).symm⟩
theorem zjS {S F : Nat → Prop} {L : Nat} {o : Oper} {e : Eff} {st st' : St} (h : Agree S F st st') (hn : NoTouch S F L o e) (hl : L ≤ st'.mem.length) : Agree S F st (e.app o.dst st') := by
 refine ⟨fun d hd => ?_, fun b hb => ?_⟩
 ·rw [← h.1 d hd]
  simp only [Eff.app]
  cases hdst : o.dst with
  | none => rfl
  | some t =>
   simp only [putA, zP]
   exact yq (fun e => hn.dst t hdst (by rw [e]; exact hd))
 ·rw [← h.2 b hb]
  simp only [Eff.app]
  have hoff : (setMem st'.mem e.wr)[b]? = st'.mem[b]? := znm fun q hq e => hn.wr q hq (by rw [e]; exact hb)
  by_cases hp : e.push = []
  ·rw [hp, yh1]; exact hoff
  ·rw [yp (by rw [zk]; exact yx1 (hn.push hp b hb) hl)]; exact hoff
theorem zmM {S F : Nat → Prop} {d : Option Tmp} {e : Eff} {st st' : St} (h : Agree S F st st') (hl : e.push ≠ [] → st'.mem.length = st.mem.length) : Agree S F (e.app d st) (e.app d st') := by
 refine ⟨fun t ht => ?_, fun b hb => ?_⟩
 ·simp only [Eff.app]
  cases d with
  | none => exact h.1 t ht
  | some d =>
   simp only [putA, zP]
   have := h.1 t ht
   rw [List.getElem?_set, List.getElem?_set]
   by_cases hd : d = t
   ·subst hd
    simp only [if_true]
    by_cases hl : d < st.tmps.length
    ·have h' : d < st'.tmps.length := by
      rcases yc2 d st'.tmps.length with h' | h'
      ·exact h'
      ·rw [ya1 h', yf hl] at this; cases this
     rw [if_pos hl, if_pos h']
    ·have h' : ¬ d < st'.tmps.length := by
      intro h'
      rw [yf h', ya1 (Nat.le_of_not_lt hl)] at this; cases this
     rw [if_neg hl, if_neg h']
   ·rw [if_neg hd, if_neg hd]; exact this
 ·simp only [Eff.app]
  have hs : (setMem st'.mem e.wr)[b]? = (setMem st.mem e.wr)[b]? := zoS (h.2 b hb)
  by_cases hp : e.push = []
  ·rw [hp, yh1, yh1]; exact hs
  ·have hl := hl hp
   by_cases hb2 : b < st.mem.length
   ·rw [yp (by rw [zk, hl]; exact hb2), yp (by rw [zk]; exact hb2)]; exact hs
   ·rw [yu (by rw [zk, hl]; omega), yu (by rw [zk]; omega), zk, zk, hl]
def PushCl (D : Nat → Bool) (i : Nat) (l : List (Oper × Eff)) : Prop := ∀ (k k' : Nat) (q q' : Oper × Eff), k < k' → l[k]? = some q → l[k']? = some q' → q.2.push ≠ [] → q'.2.push ≠ [] → D (i + k') = true → D (i + k) = true
theorem PushCl.tail {D : Nat → Bool} {i : Nat} {q : Oper × Eff} {l : List (Oper × Eff)} (h : PushCl D i (q :: l)) : PushCl D (i + 1) l := fun k k' p p' hk hp hp' h1 h2 hd => by
 have := h (k + 1) (k' + 1) p p' (by omega) (by simpa using hp) (by simpa using hp') h1 h2 (by rw [show i + (k' + 1) = i + 1 + k' by omega]; exact hd)
 rwa [show i + (k + 1) = i + 1 + k by omega] at this
theorem zbB {S F : Nat → Prop} {L : Nat} {D D' : Nat → Bool} : ∀ {l : List (Oper × Eff)} {i : Nat} {st st' : St}, L ≤ st.mem.length → L ≤ st'.mem.length →
  (st.mem.length = st'.mem.length ∨ ∀ (k : Nat) (q : Oper × Eff), l[k]? = some q → q.2.push ≠ [] → D (i + k) = false ∨ D' (i + k) = false) → PushCl D i l → PushCl D' i l →
  (∀ k o e, l[k]? = some (o, e) → D (i + k) ≠ D' (i + k) → NoTouch S F L o e) → Agree S F st st' → Agree S F (foldD D i l st) (foldD D' i l st')
 | [], i, st, st', _, _, _, _, _, _, h => h
 | (o, e) :: r, i, st, st', hl, hl', hq, hc, hc', hn, h => by
  simp only [foldD]
  have hn' : ∀ k o' e', r[k]? = some (o', e') → D (i + 1 + k) ≠ D' (i + 1 + k) → NoTouch S F L o' e' := fun k o' e' hk hne => hn (k + 1) o' e' (by simpa using hk) (by rw [show i + (k + 1) = i + 1 + k by omega]; exact hne)
  have up : ∀ {s : St}, L ≤ s.mem.length → L ≤ (e.app o.dst s).mem.length := fun h => by rw [zbg]; omega
  have hq1 : (∀ (k : Nat) (q : Oper × Eff), ((o, e) :: r)[k]? = some q → q.2.push ≠ [] → D (i + k) = false ∨ D' (i + k) = false) → ∀ (k : Nat) (q : Oper × Eff), r[k]? = some q → q.2.push ≠ [] → D (i + 1 + k) = false ∨ D' (i + 1 + k) = false := by
   intro hh k q hk hp
   have := hh (k + 1) q (by simpa using hk) hp
   rwa [show i + (k + 1) = i + 1 + k by omega] at this
  have later : D i = false → e.push ≠ [] → ∀ (k : Nat) (q : Oper × Eff), r[k]? = some q → q.2.push ≠ [] → D (i + 1 + k) = false := by
   intro hd hp k q hk hqp
   cases hdk : D (i + 1 + k) with
   | false => rfl
   | true =>
    have := hc 0 (k + 1) (o, e) q (by omega) rfl (by simpa using hk) hp hqp (by rw [show i + (k + 1) = i + 1 + k by omega]; exact hdk)
    rw [ym1, hd] at this; cases this
  have later' : D' i = false → e.push ≠ [] → ∀ (k : Nat) (q : Oper × Eff), r[k]? = some q → q.2.push ≠ [] → D' (i + 1 + k) = false := by
   intro hd hp k q hk hqp
   cases hdk : D' (i + 1 + k) with
   | false => rfl
   | true =>
    have := hc' 0 (k + 1) (o, e) q (by omega) rfl (by simpa using hk) hp hqp (by rw [show i + (k + 1) = i + 1 + k by omega]; exact hdk)
    rw [ym1, hd] at this; cases this
  cases hD : D i with
  | true =>
   cases hD' : D' i with
   | true =>
    have hlen : e.push ≠ [] → st'.mem.length = st.mem.length := by
     intro hp
     rcases hq with hq | hq
     ·exact hq.symm
     ·rcases hq 0 (o, e) rfl hp with h | h
      ·rw [ym1, hD] at h; cases h
      ·rw [ym1, hD'] at h; cases h
    refine zbB (up hl) (up hl') (hq.imp (fun h => ?_) hq1) hc.tail hc'.tail hn' (zmM h hlen)
    simp only [yg, zbg, h]
   | false =>
    have hnt := hn 0 o e rfl (by rw [ym1, hD, hD']; simp)
    refine zbB (up hl) hl' ?_ hc.tail hc'.tail hn' (zjS h.symm hnt hl).symm
    by_cases hp : e.push = []
    ·refine hq.imp (fun h => ?_) hq1
     simp only [yg, yh, zbg, hp, yb3, ym1, h]
    ·exact .inr fun k q hk hqp => .inr (later' hD' hp k q hk hqp)
  | false =>
   cases hD' : D' i with
   | true =>
    have hnt := hn 0 o e rfl (by rw [ym1, hD, hD']; simp)
    refine zbB hl (up hl') ?_ hc.tail hc'.tail hn' (zjS h hnt hl')
    by_cases hp : e.push = []
    ·refine hq.imp (fun h => ?_) hq1
     simp only [yg, yh, zbg, hp, yb3, ym1, h]
    ·exact .inr fun k q hk hqp => .inl (later hD hp k q hk hqp)
   | false => exact zbB hl hl' (hq.imp id hq1) hc.tail hc'.tail hn' h
theorem zoa {D : Nat → Bool} : ∀ {l : List (Oper × Eff)} {i : Nat} {st : St}, st.mem.length ≤ (foldD D i l st).mem.length
 | [], i, st => yx _
 | (o, e) :: r, i, st => by
  simp only [foldD]
  refine yb2 ?_ (zoa (l := r))
  cases D i with
  | true => simp only [yg, zbg]; omega
  | false => exact yx _
theorem zml {D D' : Nat → Bool} : ∀ {l : List (Oper × Eff)} {i : Nat} {st st' : St}, st'.mem.length = st.mem.length → (∀ k o e, l[k]? = some (o, e) → e.push ≠ [] → D (i + k) = D' (i + k)) → (foldD D' i l st').mem.length = (foldD D i l st).mem.length
 | [], i, st, st', h, _ => h
 | (o, e) :: r, i, st, st', h, hn => by
  simp only [foldD]
  refine zml ?_ (fun k o' e' hk hp => by have := hn (k + 1) o' e' (by simpa using hk) hp; rwa [show i + (k + 1) = i + 1 + k by omega] at this)
  by_cases hp : e.push = []
  ·cases D i <;> cases D' i <;> simp only [yg, yh, zbg, hp, yb3, ym1] <;> exact h
  ·have := hn 0 o e rfl hp
   rw [ym1] at this
   rw [this]
   cases D' i <;> simp only [yg, yh, zbg, h]
theorem zcT {D : Nat → Bool} : ∀ {a b : List (Oper × Eff)} {i : Nat} {st : St}, foldD D i (a ++ b) st = foldD D (i + a.length) b (foldD D i a st)
 | [], b, i, st => rfl
 | (o, e) :: a, b, i, st => by
  simp only [yv2, foldD, yh2]
  rw [zcT, show i + 1 + a.length = i + (a.length + 1) by omega]
theorem ziD {L : Nat} {D : Nat → Bool} {e : Eff} {d : Option Tmp} : ∀ {l : List (Oper × Eff)} {i : Nat} {st : St}, L ≤ st.mem.length →
  (∀ k o' e', l[k]? = some (o', e') → D (i + k) = true → Mate L d o'.dst e e') → foldD D i l (e.app d st) = e.app d (foldD D i l st)
 | [], i, st, _, _ => rfl
 | (o', e') :: r, i, st, hl, hm => by
  simp only [foldD]
  have hm' : ∀ k o2 e2, r[k]? = some (o2, e2) → D (i + 1 + k) = true → Mate L d o2.dst e e2 := fun k o2 e2 hk hd => hm (k + 1) o2 e2 (by simpa using hk) (by rw [show i + (k + 1) = i + 1 + k by omega]; exact hd)
  cases hD : D i with
  | true =>
   simp only [yg]
   have hmate := hm 0 o' e' rfl (by rw [ym1]; exact hD)
   rw [Eff.comm hmate hl]
   exact ziD (L := L) (by rw [zbg]; omega) hm'
  | false =>
   simp only [yh]
   exact ziD (L := L) hl hm'
end
end Go.Ab
end
section
namespace Go.Ab
variable [GTab]
section
variable {P : Program} {C : Oracle} {an : Ann} {rid : Nat} {ops : Array Oper} {R : Type}
theorem zoA {D : Nat → Bool} {n : Nat} (h : ∃ i, i < n ∧ D i = false) : ∃ i, i < n ∧ D i = false ∧ ∀ j, j < i → D j = true := by
 obtain ⟨i, ⟨hi, hd⟩, hmin⟩ := zhG (p := fun i => i < n ∧ D i = false) h
 refine ⟨i, hi, hd, fun j hj => ?_⟩
 cases hD : D j with
 | true => rfl
 | false => have := hmin j ⟨by omega, hD⟩; omega
def left (D : Nat → Bool) : Nat → Nat
 | 0 => 0
 | n + 1 => left D n + (bif D n then 0 else 1)
theorem zjL {D : Nat → Bool} : ∀ {n : Nat}, left D n = 0 → ∀ i, i < n → D i = true
 | 0, _, i, h => by omega
 | n + 1, h, i, hi => by
  simp only [left] at h
  rcases yc2 i n with h' | h'
  ·exact zjL (by omega) i h'
  ·obtain rfl : i = n := by omega
   cases hD : D i with
   | true => rfl
   | false => rw [hD] at h; simp at h
theorem zmo {D D' : Nat → Bool} {i : Nat} (hD : D i = false) (hD' : D' i = true) (hs : ∀ j, j ≠ i → D' j = D j) : ∀ {n : Nat}, (i < n → left D n = left D' n + 1) ∧ (n ≤ i → left D n = left D' n)
 | 0 => ⟨fun h => by omega, fun _ => rfl⟩
 | n + 1 => by
  obtain ⟨h1, h2⟩ := zmo hD hD' hs (n := n)
  refine ⟨fun h => ?_, fun h => ?_⟩
  ·simp only [left]
   rcases yc2 i n with hi | hi
   ·rw [h1 hi, hs n (by omega)]; omega
   ·obtain rfl : i = n := by omega
    rw [h2 (yx _), hD, hD']; rfl
  ·simp only [left]
   rw [h2 (by omega), hs n (by omega)]
theorem zlB {D : Nat → Bool} : ∀ {n : Nat}, 0 < left D n → ∃ i, i < n ∧ D i = false
 | 0, h => by simp [left] at h
 | n + 1, h => by
  simp only [left] at h
  cases hD : D n with
  | false => exact ⟨n, yw2 _, hD⟩
  | true =>
   rw [hD] at h; simp only [yg, ym1] at h
   obtain ⟨i, hi, hd⟩ := zlB h
   exact ⟨i, by omega, hd⟩
theorem zot (n : Nat) : left (fun _ => false) n = n := by
 induction n with
 | zero => rfl
 | succ n ih => simp [left, ih]
def doneOf (listed : Array Bool) : Nat → Bool := fun i => listed.getD i false
theorem zqu {x y : Option (Nat × Nat × Nat × Nat)} (h : eqQ x y = true) : x = y := by
 unfold eqQ at h
 split at h
 ·rfl
 ·simp only [yb] at h
  obtain ⟨⟨⟨h1, h2⟩, h3⟩, h4⟩ := h
  rw [beqN.1 h1, beqN.1 h2, beqN.1 h3, beqN.1 h4]
 ·cases h
theorem znK : ∀ {x y : List (Option (Nat × Nat × Nat × Nat))}, eqQs x y = true → x = y
 | [], [], _ => rfl
 | x :: xs, y :: ys, h => by
  simp only [eqQs, yb] at h
  rw [zqu h.1, znK h.2]
 | [], _ :: _, h => by cases h
 | _ :: _, [], h => by cases h
theorem zpa {x y : Option (Nat × Nat × List (Option (Nat × Nat × Nat × Nat)))} (h : eqCode x y = true) : x = y := by
 unfold eqCode at h
 split at h
 ·simp only [yb] at h
  obtain ⟨⟨h1, h2⟩, h3⟩ := h
  rw [beqN.1 h1, beqN.1 h2, znK h3]
 ·cases h
theorem zcA {b : Nat} {V : Option (Nat × Nat × List (Option (Nat × Nat × Nat × Nat)))} : ∀ {wr : List (Nat × Box)} {m : Mem}, (∀ q ∈ wr, q.1 = b → ptrCode q.2 = V) → ptrCodeAt m b = V → ptrCodeAt (setMem m wr) b = V
 | [], m, _, h => h
 | (c, x) :: wr, m, hw, h => by
  unfold setMem
  refine zcA (fun q hq => hw q (yi _ hq)) ?_
  by_cases hc : c = b
  ·subst hc
   by_cases hl : c < m.length
   ·unfold ptrCodeAt
    rw [yw hl]
    exact hw (c, x) (yn ..) rfl
   ·rw [List.set_eq_of_length_le (by omega)]; exact h
  ·unfold ptrCodeAt
   rw [yq hc]
   exact h
theorem zet {b : Nat} {V : Option (Nat × Nat × List (Option (Nat × Nat × Nat × Nat)))} {e : Eff} {d : Option Tmp} {st : St} (hb : b < st.mem.length) (hw : ∀ q ∈ e.wr, q.1 = b → ptrCode q.2 = V) (h : ptrCodeAt st.mem b = V) : ptrCodeAt (e.app d st).mem b = V := by
 have h1 := zcA hw h
 unfold Eff.app
 simp only
 unfold ptrCodeAt at h1 ⊢
 rw [yp (by rw [zk]; exact hb)]
 exact h1
theorem zbN {b : Nat} {V : Option (Nat × Nat × List (Option (Nat × Nat × Nat × Nat)))} {D : Nat → Bool} : ∀ {l : List (Oper × Eff)} {i : Nat} {st : St}, b < st.mem.length → (∀ p ∈ l, ∀ q ∈ p.2.wr, q.1 = b → ptrCode q.2 = V) → ptrCodeAt st.mem b = V → ptrCodeAt (foldD D i l st).mem b = V
 | [], i, st, _, _, h => h
 | (o, e) :: l, i, st, hb, hw, h => by
  simp only [foldD]
  cases hD : D i with
  | true =>
   exact zbN (by rw [yg, zbg]; omega) (fun p hp => hw p (yi _ hp)) (zet hb (hw (o, e) (yn ..)) h)
  | false => exact zbN hb (fun p hp => hw p (yi _ hp)) h
theorem zhx {b : Nat} {all : List Tr} (hall : ∀ u ∈ all, b ∉ u.wr ∨ u.wk b = true) : ∀ {l : List (Oper × Eff)} {i rs : Nat} {st : St}, Chain P C an rid ops i rs st l → (∀ p ∈ l, ∀ t, p.2.tr = some t → t ∈ all) → b < st.mem.length →
  ∀ p ∈ l, ∀ q ∈ p.2.wr, q.1 = b → ptrCode q.2 = ptrCodeAt st.mem b
 | [], i, rs, st, _, _, _, p, hp => by cases hp
 | (o, e) :: l, i, rs, st, hc, hm, hb, p, hp => by
  cases hc with
  | cons _ _ _ _ _ _ h hr =>
  have hkeep : ∀ q ∈ e.wr, q.1 = b → ptrCode q.2 = ptrCodeAt st.mem b := by
   intro q hq hqb
   cases h with
   | run out hres ho hg =>
    rcases hall _ (hm (o, _) (yn ..) _ rfl) with h1 | h1
    ·exfalso
     apply h1
     have : b ∈ out.wr.map (·.1) := yu2.2 ⟨q, hq, hqb⟩
     simp only [Out.tr]
     cases makes o.op with
     | true => exact yi _ this
     | false => exact this
    ·have h1 : keepsPtrs st.mem out.wr b = true := h1
     unfold keepsPtrs at h1
     have := yo2.1 h1 q hq
     simp only [yw1, yt] at this
     rcases this with h2 | h2
     ·exact absurd hqb (fun e => by rw [e, yq2] at h2; cases h2)
     ·exact zpa h2
   | skip j want d hg hd h => cases hq
  rcases yn1.1 hp with rfl | hp
  ·exact hkeep
  ·intro q hq hqb
   have hlen : b < (e.app o.dst st).mem.length := by rw [zbg]; omega
   rw [zhx hall hr (fun p hp => hm p (yi _ hp)) hlen p hp q hq hqb]
   exact zet hb hkeep rfl
structure DrawFacts (P : Program) (C : Oracle) (an : Ann) (rid : Nat) (ops : Array Oper) (L : Nat) (st0 : St) (l : List (Oper × Eff)) (all : List Tr) : Prop where
 map : l.map (·.1) = ops.toList
 len : st0.mem.length = L
 one : ∀ (i j : Nat) (o o' : Oper) (e e' : Eff), i ≠ j → l[i]? = some (o, e) → l[j]? = some (o', e') → e.push ≠ [] → e'.push ≠ [] → ordered (befL ops.toList []) i j = true
 step : ∀ (j : Nat) (o : Oper) (e : Eff), l[j]? = some (o, e) → ∃ rs, OStep2 P C an rid ops o j rs (foldD (fun k => Nat.blt k j) 0 l st0) e
 mate : ∀ (i j : Nat) (o o' : Oper) (e e' : Eff), i ≠ j → l[i]? = some (o, e) → l[j]? = some (o', e') → ordered (befL ops.toList []) i j = false →
  Mate L o.dst o'.dst e e' ∧ NoTouch (Slot ops o) (Foot L all e) L o' e' ∧ (e'.push ≠ [] → isCallOp o = false)
 back : edgesBack ops.toList 0 = true
 const : ∀ b, cstB L all b = true → ∀ D, ptrCodeAt (foldD D 0 l st0).mem b = ptrCodeAt st0.mem b
theorem drawFacts {st0 : St} {l : List (Oper × Eff)} {rs L : Nat} (hmap : l.map (·.1) = ops.toList) (hc : Chain P C an rid ops 0 rs st0 l) (hlen : st0.mem.length = L) (hd : drawOk ops L ((l.filterMap (·.2.tr)).reverse) = true) :
  DrawFacts P C an rid ops L st0 l ((l.filterMap (·.2.tr)).reverse) := by
 generalize hall : (l.filterMap (·.2.tr)).reverse = all at hd ⊢
 unfold drawOk at hd
 simp only [yb] at hd
 obtain ⟨⟨⟨hback, htrs⟩, hpush⟩, hapart⟩ := hd
 have hstep : ∀ (j : Nat) (o : Oper) (e : Eff), l[j]? = some (o, e) → ∃ rs, OStep2 P C an rid ops o j rs (foldD (fun k => Nat.blt k j) 0 l st0) e := by
  intro j o e hj
  have := hc.get hj
  simpa using this
 have hop : ∀ (j : Nat) (o : Oper) (e : Eff), l[j]? = some (o, e) → ops[j]? = some o := by
  intro j o e hj
  have : (l.map (·.1))[j]? = some o := by rw [yc1, hj]; rfl
  rw [hmap, yo1] at this; exact this
 have hpw := zdK htrs
 rw [List.pairwise_map] at hpw
 conv at hpw => arg 2; rw [← hall]
 rw [List.pairwise_reverse, List.pairwise_filterMap] at hpw
 have hrel : ∀ (i j : Nat) (o o' : Oper) (e e' : Eff), i ≠ j → l[i]? = some (o, e) → l[j]? = some (o', e') → ∀ t t', e.tr = some t → e'.tr = some t' → TrRel (befL ops.toList []) L (fixT L all t) (fixT L all t') := by
  intro i j o o' e e' hne hi hj t t' ht ht'
  obtain ⟨hil, hi2⟩ := ye.1 hi
  obtain ⟨hjl, hj2⟩ := ye.1 hj
  rw [List.pairwise_iff_getElem] at hpw
  rcases Nat.lt_or_gt_of_ne hne with h | h
  ·exact (hpw i j hil hjl h t (by rw [hi2]; exact ht) t' (by rw [hj2]; exact ht')).symm
  ·exact hpw j i hjl hil h t' (by rw [hj2]; exact ht') t (by rw [hi2]; exact ht)
 have hone2 : ∀ (i j : Nat) (o o' : Oper) (e e' : Eff), i ≠ j → l[i]? = some (o, e) → l[j]? = some (o', e') → ordered (befL ops.toList []) i j = false → e.push = [] ∨ e'.push = [] := by
  intro i j o o' e e' hne hi hj hun
  by_cases h1 : e.push = []
  ·exact .inl h1
  ·by_cases h2 : e'.push = []
   ·exact .inr h2
   ·obtain ⟨rs1, hs1⟩ := hstep i o e hi
    obtain ⟨rs2, hs2⟩ := hstep j o' e' hj
    obtain ⟨t, ht, hp⟩ := hs1.facts.2.1 h1
    obtain ⟨t', ht', hp'⟩ := hs2.facts.2.1 h2
    exact ((hrel i j o o' e e' hne hi hj t t' ht ht').push (by rw [zau.1, zau.1, hs1.facts.2.2 t ht, hs2.facts.2.2 t' ht']; exact hun) (by rw [zau.2.2]; exact hp) (by rw [zau.2.2]; exact hp')).elim
 refine ⟨hmap, hlen, ?_, hstep, ?_, hback, ?_⟩
 ·intro i j o o' e e' hne hi hj h1 h2
  cases ho : ordered (befL ops.toList []) i j with
  | true => rfl
  | false =>
   rcases hone2 i j o o' e e' hne hi hj ho with h | h
   ·exact absurd h h1
   ·exact absurd h h2
 ·intro i j o o' e e' hne hi hj hun
  obtain ⟨rs1, hs1⟩ := hstep i o e hi
  obtain ⟨rs2, hs2⟩ := hstep j o' e' hj
  obtain ⟨f1, f2, f3⟩ := hs1.facts
  obtain ⟨g1, g2, g3⟩ := hs2.facts
  have hoi := hop i o e hi
  have hoj := hop j o' e' hj
  have hin : i < ops.size := (yl2.1 hoi).1
  have hjn : j < ops.size := (yl2.1 hoj).1
  have hfar : ∀ t t', e.tr = some t → e'.tr = some t' → _ := fun t t' ht ht' => (hrel i j o o' e e' hne hi hj t t' ht ht').far (by rw [zau.1, zau.1, f3 t ht, g3 t' ht']; exact hun)
  -- slots
  have hsl : (∀ d, o.dst = some d → d ∉ o'.looksAt ops) ∧ (∀ d, o.dst = some d → o'.dst ≠ some d) ∧ (∀ d, o'.dst = some d → d ∉ o.looksAt ops) := by
   rcases Nat.lt_or_gt_of_ne hne with h | h
   ·rcases zdn hapart (Nat.zero_le _) h (by omega) with h' | h'
    ·rw [hun] at h'; cases h'
    ·unfold apartAt at h'
     rw [hoi, hoj] at h'
     exact Oper.apart_spec h'
   ·rcases zdn hapart (Nat.zero_le _) h (by omega) with h' | h'
    ·rw [zbq, hun] at h'; cases h'
    ·unfold apartAt at h'
     rw [hoi, hoj] at h'
     obtain ⟨a1, a2, a3⟩ := Oper.apart_spec h'
     exact ⟨a3, fun d hd hd' => a2 d hd' hd, a1⟩
  refine ⟨⟨hsl.2.1, fun q hq q' hq' => ?_, hone2 i j o o' e e' hne hi hj hun, fun hp q hq => ?_, fun hp q hq => ?_⟩, ⟨fun d hd hS => hsl.2.2 d hd hS, fun q hq hF => ?_, fun hp b hF => ?_⟩, fun hp => ?_⟩
  ·obtain ⟨t, ht, hm⟩ := f1 q hq
   obtain ⟨t', ht', hm'⟩ := g1 q' hq'
   intro he
   exact (hfar t t' ht ht').2.2.1 _ (by rw [zau.2.1]; exact hm) (by rw [zau.2.1, he]; exact hm')
  ·obtain ⟨t, ht, hpt⟩ := f2 hp
   obtain ⟨t', ht', hm'⟩ := g1 q hq
   exact ((hfar t t' ht ht').2.2.2.1 (by rw [zau.2.2]; exact hpt)).2 _ (by rw [zau.2.1]; exact hm')
  ·obtain ⟨t', ht', hpt⟩ := g2 hp
   obtain ⟨t, ht, hm⟩ := f1 q hq
   exact ((hfar t t' ht ht').2.2.2.2 (by rw [zau.2.2]; exact hpt)).2 _ (by rw [zau.2.1]; exact hm)
  ·obtain ⟨t', ht', hm'⟩ := g1 q hq
   obtain ⟨t, ht, hb⟩ := hF
   obtain ⟨k1, k2, k3, _⟩ := hfar t t' ht ht'
   rcases hb with hb | hb
   ·exact k2 _ hb (by rw [zau.2.1]; exact hm')
   ·exact k3 _ (by rw [zau.2.1]; exact hb) (by rw [zau.2.1]; exact hm')
  ·obtain ⟨t', ht', hpt⟩ := g2 hp
   obtain ⟨t, ht, hb⟩ := hF
   obtain ⟨k1, k2⟩ := (hfar t t' ht ht').2.2.2.2 (by rw [zau.2.2]; exact hpt)
   rcases hb with hb | hb
   ·exact k1 _ hb
   ·exact k2 _ (by rw [zau.2.1]; exact hb)
  ·obtain ⟨t', ht', hpt⟩ := g2 hp
   have hmem : t' ∈ all := by
    rw [← hall, List.mem_reverse, List.mem_filterMap]
    exact ⟨(o', e'), yj hj, ht'⟩
   have hnc := ziU hpush t' hmem hpt
   rw [g3 t' ht'] at hnc
   have := zhg (j := i) hnc (by rw [yo1]; exact hoi)
   rw [yy] at this
   rcases this with h | h | h
   ·exact absurd h.symm hne
   ·rw [zbq, hun] at h; cases h
   ·exact h
 ·intro b hb D
  unfold cstB at hb
  simp only [yb] at hb
  have hbL : b < st0.mem.length := by
   have := hb.1; simp [Nat.blt] at this; omega
  have hall2 : ∀ u ∈ all, b ∉ u.wr ∨ u.wk b = true := by
   intro u hu
   have := yo2.1 hb.2 u hu
   simp only [yw1, yt] at this
   rcases this with h | h
   ·left; intro hm; rw [zcz.2 hm] at h; cases h
   ·exact .inr h
  exact zbN hbL (zhx hall2 hc (fun p hp t ht => by rw [← hall, List.mem_reverse, List.mem_filterMap]; exact ⟨p, hp, ht⟩) hbL) rfl
theorem zkl {listed : Array Bool} {i j : Nat} (hi : i < listed.size) : (listed.setIfInBounds i true).getD j false = (if j = i then true else listed.getD j false) := by
 by_cases h : j = i
 ·subst h
  rw [if_pos rfl, ym, Array.getElem?_setIfInBounds_self_of_lt hi]; rfl
 ·rw [if_neg h, ym, Array.getElem?_setIfInBounds_ne (fun e => h e.symm), ← ym]
theorem zoz (hC : OracleOK P C) {L : Nat} {st0 : St} {l : List (Oper × Eff)} {all : List Tr} (hF : DrawFacts P C an rid ops L st0 l all) {G0 : Gh} {w0 : World} {old : List (Option Bool)} {Q : Exit → Act → World → Prop}
  (hQ : ∀ G w a, SR G w (foldD (fun _ => true) 0 l st0) a → Inv G0 w0 old G w → Q .normal a w) :
  ∀ (fuel : Nat) (listed : Array Bool) (G : Gh) (w : World) (a : Act), listed.size = ops.size → Closed ops (doneOf listed) → left (doneOf listed) ops.size = fuel → SR G w (foldD (doneOf listed) 0 l st0) a → Inv G0 w0 old G w →
   wpAny P .any ops Q fuel listed a w := by
 have hll : l.length = ops.size := by rw [← yf1 (f := (·.1)) (as := l), hF.map]; simp
 intro fuel
 induction fuel with
 | zero =>
  intro listed G w a hsz hcl hleft hS hI
  have hall := zjL hleft
  refine ⟨?_, hQ G w a ?_ hI⟩
  ·apply List.eq_nil_iff_forall_not_mem.2
   intro j hj
   obtain ⟨h1, o, ho, _⟩ := mem_ready.1 hj
   have hjn := (yl2.1 ho).1
   have := hall j hjn
   unfold doneOf at this
   rw [ym, yp1 (by omega)] at this h1
   simp only [Option.getD_some] at this h1
   rw [this] at h1; cases h1
  ·rw [← zbT (D := doneOf listed) (D' := fun _ => true) (fun k _ hk => hall k (by omega))]; exact hS
 | succ fuel ih =>
  intro listed G w a hsz hcl hleft hS hI
  have hfalse : ∀ i, i < ops.size → listed.getD i true = doneOf listed i := by
   intro i hi
   unfold doneOf
   rw [ym, ym, yp1 (by omega)]; rfl
  refine ⟨fun hnil => ?_, fun i hi => ?_⟩
  ·obtain ⟨i, hin, hid, hmin⟩ := zoA (zlB (D := doneOf listed) (n := ops.size) (by omega))
   have : i ∈ Region.ready .any ops listed := by
    refine mem_ready.2 ⟨by rw [hfalse i hin]; exact hid, ops[i], yp1 hin, fun e he hb => ?_⟩
    refine hmin e.on ?_
    have := zcn (j := i) hF.back (by rw [yo1]; exact yp1 hin)
    rw [yy] at this
    exact zdy this e (by simpa using he) hb
   rw [hnil] at this; cases this
  ·obtain ⟨h1, o, ho, hpre⟩ := mem_ready.1 hi
   have hin := (yl2.1 ho).1
   rw [hfalse i hin] at h1
   obtain ⟨e, hle⟩ : ∃ e, l[i]? = some (o, e) := by
    have hi2 : i < l.length := by omega
    have : (l.map (·.1))[i]? = some o := by rw [hF.map, yo1]; exact ho
    rw [yc1, yf hi2] at this
    exact ⟨l[i].2, by rw [yf hi2]; simp at this; rw [← this]⟩
   let D := doneOf listed
   let D1 := doneOf (listed.setIfInBounds i true)
   have hD1 : ∀ j, D1 j = if j = i then true else D j := fun j => zkl (by omega)
   have hD1i : D1 i = true := by rw [hD1, if_pos rfl]
   have hD1n : ∀ j, j ≠ i → D1 j = D j := fun j hj => by rw [hD1, if_neg hj]
   have hcl1 : Closed ops D1 := by
    intro j o' hj e' he hb hd
    by_cases hji : j = i
    ·subst hji
     rw [ho] at hj; obtain rfl := ya hj
     have := hpre e' he hb
     rw [hD1]; split
     ·rfl
     ·exact this
    ·rw [hD1n j hji] at hd
     have := hcl j o' hj e' he hb hd
     rw [hD1]; split
     ·rfl
     ·exact this
   -- what differs stands apart
   have hun1 : ∀ k, D k = true → i < k → ordered (befL ops.toList []) i k = false := by
    intro k hk hik
    cases hor : ordered (befL ops.toList []) i k with
    | false => rfl
    | true =>
     unfold ordered at hor
     rw [yw1] at hor
     rcases hor with hor | hor
     ·have := (zcy hF.back hor).2 D hcl hk
      rw [show D i = false from h1] at this; cases this
     ·have := (zcy hF.back hor).1; omega
   have hun2 : ∀ k, D k = false → k < i → ordered (befL ops.toList []) i k = false := by
    intro k hk hik
    cases hor : ordered (befL ops.toList []) i k with
    | false => rfl
    | true =>
     unfold ordered at hor
     rw [yw1] at hor
     rcases hor with hor | hor
     ·have := (zcy hF.back hor).1; omega
     ·have := (zcy hF.back hor).2 D1 hcl1 hD1i
      rw [hD1n k (by omega), hk] at this; cases this
   have hdiff : ∀ k, (Nat.blt k i) ≠ D k → ordered (befL ops.toList []) i k = false ∧ k ≠ i := by
    intro k hne
    rcases Nat.lt_trichotomy k i with h | h | h
    ·have hb : Nat.blt k i = true := by simp [Nat.blt]; omega
     rw [hb] at hne
     have hk : D k = false := by cases hh : D k with | false => rfl | true => rw [hh] at hne; exact absurd rfl hne
     exact ⟨hun2 k hk h, by omega⟩
    ·subst h
     have hb : Nat.blt k k = false := by cases hb : Nat.blt k k with | false => rfl | true => simp [Nat.blt] at hb; omega
     rw [hb, show D k = false from h1] at hne; exact absurd rfl hne
    ·have hb : Nat.blt k i = false := by cases hb : Nat.blt k i with | false => rfl | true => simp [Nat.blt] at hb; omega
     rw [hb] at hne
     have hk : D k = true := by cases hh : D k with | true => rfl | false => rw [hh] at hne; exact absurd rfl hne
     exact ⟨hun1 k hk h, by omega⟩
   obtain ⟨rs, hstep⟩ := hF.step i o e hle
   have hagree : Agree (Slot ops o) (Foot L all e) (foldD (fun k => Nat.blt k i) 0 l st0) (foldD D 0 l st0) := by
    have hcl2 : ∀ D2 : Nat → Bool, (∀ k k', k < k' → ordered (befL ops.toList []) k k' = true → D2 k' = true → D2 k = true) → PushCl D2 0 l := by
     intro D2 h2 k k' q q' hkk hk hk' hp hp' hd
     rw [yy] at hd ⊢
     exact h2 k k' hkk (hF.one k k' q.1 q'.1 q.2 q'.2 (by omega) hk hk' hp hp') hd
    refine zbB (L := L) (Nat.le_of_eq hF.len.symm) (Nat.le_of_eq hF.len.symm) (.inl rfl) (hcl2 _ fun k k' hkk _ hd => ?_) (hcl2 _ fun k k' hkk hor hd => ?_) (fun k o' e' hk hne => ?_) ⟨fun _ _ => rfl, fun _ _ => rfl⟩
    ·simp only [Nat.blt, Nat.ble_eq] at hd ⊢; omega
    ·unfold ordered at hor
     rw [yw1] at hor
     rcases hor with hor | hor
     ·exact (zcy hF.back hor).2 D hcl hd
     ·have := (zcy hF.back hor).1; omega
    rw [yy] at hne
    obtain ⟨hu, hki⟩ := hdiff k hne
    exact (hF.mate i k o o' e e' (fun h => hki h.symm) hle hk hu).2.1
   have hlens : isCallOp o = true → (foldD D 0 l st0).mem.length = (foldD (fun k => Nat.blt k i) 0 l st0).mem.length := by
    intro hcall
    refine zml rfl (fun k o' e' hk hp => ?_)
    rw [yy]
    by_cases heq : Nat.blt k i = D k
    ·exact heq
    ·obtain ⟨hu, hki⟩ := hdiff k heq
     have := (hF.mate i k o o' e e' (fun h => hki h.symm) hle hk hu).2.2 hp
     rw [this] at hcall; cases hcall
   obtain ⟨e1, hstep1, hv1, hw1, hp1⟩ := hstep.agree hagree hlens (fun t b ht hc _ _ => (hF.const b hc D).trans (hF.const b hc _).symm)
   have hstep' := hstep1.one
   have happ : e1.app o.dst (foldD D 0 l st0) = e.app o.dst (foldD D 0 l st0) := by unfold Eff.app; rw [hv1, hw1, hp1]
   rw [happ] at hstep'
   -- and afterwards
   have hafter : e.app o.dst (foldD D 0 l st0) = foldD D1 0 l st0 := by
    have hil : i < l.length := by omega
    have hel : l[i] = (o, e) := by
     rw [yf hil] at hle; exact ya hle
    have hsplit : l = l.take i ++ (o, e) :: l.drop (i + 1) := by
     rw [← hel, ← List.drop_eq_getElem_cons hil, List.take_append_drop]
    have htl : (l.take i).length = i := by simp; omega
    generalize hb : l.drop (i + 1) = b at hsplit
    generalize ha : l.take i = pre at hsplit htl
    rw [hsplit, zcT, zcT, yy, htl]
    have hpre' : foldD D1 0 pre st0 = foldD D 0 pre st0 := zbT (fun k _ hk => by rw [yy, htl] at hk; exact hD1n k (by omega))
    rw [hpre']
    simp only [foldD]
    rw [show D i = false from h1, hD1i]
    simp only [yg, yh]
    rw [zbT (D := D1) (D' := D) (l := b) (fun k hk _ => hD1n k (by omega))]
    refine (ziD (L := L) (yb2 (Nat.le_of_eq hF.len.symm) zoa) (fun k o' e' hk hd => ?_)).symm
    ·have hk' : l[i + 1 + k]? = some (o', e') := by
      rw [← hb, yb1] at hk; exact hk
     exact (hF.mate i (i + 1 + k) o o' e e' (by omega) hle hk' (hun1 _ hd (by omega))).1
   refine hstep'.sound hC ho hS _ _ (fun G' w' a' hg he hS' => ?_)
   rw [hafter] at hS'
   refine ih (listed.setIfInBounds i true) G' w' a' (by simpa using hsz) hcl1 ?_ hS' (hI.step hg he)
   have := (zmo (D := D) (D' := D1) h1 hD1i hD1n (n := ops.size)).1 hin
   have h2 : left D ops.size = fuel + 1 := hleft
   show left D1 ops.size = fuel
   omega
theorem drawsOK (hm : P.follows .mixedOrders = true) (hC : OracleOK P C) (an : Ann) : DrawsOK P C an := by
 intro R rid ops st k r G0 w0 old G w a Q h hS hI hk
 unfold regionA at h
 obtain ⟨l, hmap, hc, hfin⟩ := zhO h
 rw [yh1] at hfin
 rw [za] at hfin
 obtain ⟨hd, hfin⟩ := hfin
 simp only [yn3, Bool.false_or] at hd
 have hF := drawFacts (L := st.mem.length + makesN ops.toList) hmap hc (by simp) hd
 have hev : Ev G w w.drew := Ev.drew G w
 have hS' : SR G w.drew { st with mem := st.mem ++ List.replicate (makesN ops.toList) none } a := by
  have hw := hS.widen (makesN ops.toList)
  exact ⟨hw.memr.ev hev (.inl rfl) (fun B _ => rfl), hw.len, fun j x hx => (hw.tmps j x hx).imp id (fun h => h.mono (Gle.refl G) hev), hw.defers⟩
 refine wp_region_any hm ?_
 refine zoz hC hF (G0 := G0) (w0 := w0) (old := old) (fun G' w' a' hS2 hI2 => hk _ G' w' a' hfin hS2.trim hI2) ops.size (Array.replicate ops.size false) G w.drew a (by simp) ?_ ?_ ?_ (hI.step (Gle.refl G) hev)
 ·intro j o ho e he hb hd
  unfold doneOf at hd
  rw [ym, yg3] at hd
  split at hd <;> simp at hd
 ·have : left (doneOf (Array.replicate ops.size false)) ops.size = left (fun _ => false) ops.size := by
   congr 1
   funext i
   unfold doneOf
   rw [ym, yg3]
   split <;> rfl
  rw [this, zot]
 ·rw [zeU]
  ·exact hS'
  ·intro k _
   unfold doneOf
   rw [ym, yg3]
   split <;> rfl
end
end Go.Ab
end
